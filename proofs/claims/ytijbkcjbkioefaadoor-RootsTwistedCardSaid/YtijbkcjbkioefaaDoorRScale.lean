/-
  The root hangs on k/n alone: both times a power of two.
-/
import Derived.Test.YtijbkcjbkioefaaDoorRTurn
namespace Go.Roots
open Go.Fl Ieee

/-- m binades up. -/
def up (r m : Nat) : Nat := r + m * 2 ^ 52
theorem rmag_up {r : Nat} (h : 2 ^ 52 ≤ r) (m : Nat) : rmag (up r m) = rmag r ∧ rexp (up r m) = rexp r + m := by
  unfold rmag rexp up
  rw [if_neg (by omega), if_neg (by omega)]
  constructor
  · omega
  · have : (r + m * 2 ^ 52) / 2 ^ 52 = r / 2 ^ 52 + m := by omega
    rw [this]
    have : 1 ≤ r / 2 ^ 52 := by omega
    omega
theorem val_up {r : Nat} (h : 2 ^ 52 ≤ r) (m : Nat) : val (up r m) = val r * P2 m := by
  obtain ⟨h1, h2⟩ := rmag_up h m
  unfold val
  rw [h1, h2, P2_def, Nat.pow_add, Nat.mul_assoc]
theorem min_lo {e x : Nat} (he : e ≤ 2040) (hx : x ≤ 2 ^ 53) : min (e * 2 ^ 52 + x) 0x7ff0000000000000 = e * 2 ^ 52 + x := by
  apply Nat.min_eq_left
  omega
theorem up_fin {e x m : Nat} (he : e + m ≤ 2040) (hx : x ≤ 2 ^ 53) (h1 : 2 ^ 52 ≤ x) : (e + m) * 2 ^ 52 + x = up (e * 2 ^ 52 + x) m ∧ 2 ^ 52 ≤ e * 2 ^ 52 + x ∧ up (e * 2 ^ 52 + x) m < 0x7ff0000000000000 := by
  unfold up
  refine ⟨by omega, by omega, by omega⟩
theorem Rk_form (N K e : Nat) (h0 : N ≠ 0) (he : N.log2 = 52 + K + e) : 2 ^ 52 ≤ rne N (e + K) ∧ rne N (e + K) ≤ 2 ^ 53 := by
  constructor
  · apply rne_ge
    rw [show 52 + (e + K) = N.log2 by omega]
    exact (Nat.le_log2 h0).1 (Nat.le_refl _)
  · apply rne_le
    rw [show 53 + (e + K) = N.log2 + 1 by omega]
    exact Nat.le_of_lt Nat.lt_log2_self
theorem Rk_up (N K m : Nat) (hN : P2 (52 + K) ≤ N) (hL : N.log2 + m ≤ 2040 + K) : Rk (N * P2 m) K = up (Rk N K) m ∧ 2 ^ 52 ≤ Rk N K ∧ up (Rk N K) m < 0x7ff0000000000000 := by
  have h0 : N ≠ 0 := by
    intro h; subst h; have := P2_pos (52 + K); omega
  rw [P2_def] at hN
  rw [P2_def]
  have hl : 52 + K ≤ N.log2 := (Nat.le_log2 h0).2 hN
  obtain ⟨e, he⟩ : ∃ e, N.log2 = 52 + K + e := ⟨N.log2 - (52 + K), by omega⟩
  obtain ⟨r1, r2⟩ := Rk_form N K e h0 he
  have hr : Rk N K = e * 2 ^ 52 + rne N (e + K) := by
    unfold Rk
    rw [he, show 52 + K + e - (52 + K) = e by omega]
    exact min_lo (by omega) r2
  have hr2 : Rk (N * 2 ^ m) K = (e + m) * 2 ^ 52 + rne N (e + K) := by
    unfold Rk
    rw [log2_shift h0, he, show 52 + K + e + m - (52 + K) = e + m by omega, show e + m + K = (e + K) + m by omega, rne_scale]
    exact min_lo (by omega) r2
  rw [hr, hr2]
  exact up_fin (by omega) r2 r1

theorem log2_lt_of {N k : Nat} (h : N < P2 k) (h0 : N ≠ 0) : N.log2 < k := by
  rw [P2_def] at h; exact (Nat.log2_lt h0).2 h
theorem P2_mono {a b : Nat} (h : a ≤ b) : P2 a ≤ P2 b := by
  rw [P2_def, P2_def]; exact Nat.pow_le_pow_right (by omega) h

theorem ofInt_up (r m : Nat) (h1 : 1 ≤ r) (hr : r < 16777216) (hm : m ≤ 30) : ofInt ((r * P2 m : Nat) : Int) = up (ofInt r) m ∧ 2 ^ 52 ≤ ofInt r ∧ up (ofInt r) m < 0x7ff0000000000000 := by
  rw [ofInt_pos, ofInt_pos, show r * P2 m * P2 1074 = r * P2 1074 * P2 m by ac_rfl]
  refine Rk_up _ 0 m ?_ ?_
  · have : P2 (52 + 0) ≤ P2 1074 := P2_mono (by omega)
    exact Nat.le_trans this (Nat.le_mul_of_pos_left _ h1)
  · have : r * P2 1074 < P2 1098 := by
      have e : P2 24 * P2 1074 = P2 1098 := P2_mul 24 1074
      rw [← e]
      exact Nat.mul_lt_mul_of_pos_right (by rw [P2_def]; exact hr) (P2_pos _)
    have := log2_lt_of this (Nat.ne_of_gt (Nat.mul_pos h1 (P2_pos _)))
    omega
theorem val_PI2 : P2 1074 ≤ val PI2 ∧ val PI2 < P2 1078 := by
  have e1 : val PI2 = 7074237752028440 * P2 1024 := val_of PI2 7074237752028440 1024 (by decide) (by decide)
  have e2 : P2 1074 = P2 50 * P2 1024 := (P2_mul 50 1024).symm
  have e3 : P2 1078 = P2 54 * P2 1024 := (P2_mul 54 1024).symm
  have h50 : P2 50 = 1125899906842624 := by rw [P2_def]
  have h54 : P2 54 = 18014398509481984 := by rw [P2_def]
  rw [e1, e2, e3, h50, h54]
  have := P2_pos 1024
  omega
theorem ang_up (r n m : Nat) (h1 : 1 ≤ r) (hr : r < 16777216) (hn1 : 1 ≤ n) (hn : n ≤ 16777215) (hm : m ≤ 30) : ang ((r * P2 m : Nat) : Int) ((n * P2 m : Nat) : Int) = ang r n := by
  obtain ⟨a1, a2, a3⟩ := ofInt_up r m h1 hr hm
  obtain ⟨b1, b2, b3⟩ := ofInt_up n m hn1 (by omega) hm
  have hvr := val_ofInt r (by omega)
  have pb := val_PI2
  unfold ang
  rw [a1, b1]
  have hP : PI2 < 0x7ff0000000000000 := by decide
  have e0 : val PI2 * val (ofInt r) < P2 2180 := by
    have e : P2 1078 * P2 1102 = P2 2180 := P2_mul 1078 1102
    rw [← e]
    refine Nat.mul_lt_mul'' pb.2 ?_
    rw [hvr.1]
    have e2 : P2 28 * P2 1074 = P2 1102 := P2_mul 28 1074
    rw [← e2]
    exact Nat.mul_lt_mul_of_pos_right (by rw [P2_def]; omega) (P2_pos _)
  have e1 : P2 (52 + 1074) ≤ val PI2 * val (ofInt r) := by
    have e : P2 1074 * P2 1074 = P2 2148 := P2_mul 1074 1074
    refine Nat.le_trans (P2_mono (show 52 + 1074 ≤ 2148 by omega)) ?_
    rw [← e]
    refine Nat.mul_le_mul pb.1 ?_
    rw [hvr.1]
    exact Nat.le_mul_of_pos_left _ h1
  have e2 := log2_lt_of e0 (by have := P2_pos (52 + 1074); omega)
  have hmul : mul PI2 (up (ofInt r) m) = up (mul PI2 (ofInt r)) m ∧ 2 ^ 52 ≤ mul PI2 (ofInt r) ∧ up (mul PI2 (ofInt r)) m < 0x7ff0000000000000 := by
    rw [mul_pos PI2 _ hP a3, mul_pos PI2 _ hP hvr.2, val_up a2, ← Nat.mul_assoc]
    exact Rk_up _ 1074 m e1 (by omega)
  obtain ⟨c1, c2, c3⟩ := hmul
  rw [c1]
  generalize mul PI2 (ofInt r) = x at c2 c3
  generalize ofInt (n : Int) = y at b2 b3
  have hx : x < 0x7ff0000000000000 := by unfold up at c3; omega
  have hy : y < 0x7ff0000000000000 := by unfold up at b3; omega
  obtain ⟨x1, x2⟩ := rmag_up c2 m
  obtain ⟨y1, y2⟩ := rmag_up b2 m
  unfold div Format.div
  rw [read_pos _ c3, read_pos _ b3, read_pos x hx, read_pos y hy, x1, x2, y1, y2]
  unfold Datum.quotient
  simp only
  split
  · rfl
  · congr 5
    omega
theorem eighth_up (r n m : Nat) (hr : r < 16777216) (hn1 : 1 ≤ n) (hn : n ≤ 16777215) (hm : m ≤ 30) : eighth ((r * P2 m : Nat) : Int) ((n * P2 m : Nat) : Int) = eighth r n := by
  have hp := P2_pos m
  by_cases h0 : r = 0
  · subst h0
    unfold eighth
    rw [Nat.zero_mul, if_pos (by rfl), if_pos (by rfl)]
  · have h0' : r * P2 m ≠ 0 := Nat.ne_of_gt (Nat.mul_pos (Nat.pos_of_ne_zero h0) hp)
    unfold eighth
    rw [if_neg (by omega), if_neg (show ¬ ((r : Nat) : Int) = 0 by omega)]
    by_cases h8 : 8 * r = n
    · rw [if_pos (show (8 * (r : Int)) = n by omega), if_pos]
      rw [← h8, Nat.mul_assoc]; omega
    · rw [if_neg (show ¬ (8 * (r : Int)) = n by omega), if_neg]
      · unfold eighthG; rw [ang_up r n m (by omega) hr hn1 hn hm]
      · intro h
        have h' : 8 * (r * P2 m) = n * P2 m := by omega
        rw [← Nat.mul_assoc] at h'
        exact h8 (Nat.eq_of_mul_eq_mul_right hp h')
theorem octant_up (r n m : Nat) (hr : r < n) (hn : n ≤ 4194303) (hm : m ≤ 30) : octant ((r * P2 m : Nat) : Int) ((n * P2 m : Nat) : Int) = octant r n := by
  have hp := P2_pos m
  have e4 : (4 : Int) * ((n * P2 m : Nat) : Int) = ((4 * n * P2 m : Nat) : Int) := by rw [Nat.mul_assoc]; omega
  have e5 : ((n * P2 m : Nat) : Int) - ((r * P2 m : Nat) : Int) = (((n - r) * P2 m : Nat) : Int) := by
    rw [Nat.sub_mul]
    have : r * P2 m ≤ n * P2 m := Nat.mul_le_mul_right _ (by omega)
    omega
  have e6 : (n : Int) - (r : Int) = ((n - r : Nat) : Int) := by omega
  have e7 : (4 : Int) * (n : Int) = ((4 * n : Nat) : Int) := by omega
  have hc : (2 * ((r * P2 m : Nat) : Int) ≤ ((n * P2 m : Nat) : Int)) ↔ (2 * (r : Int) ≤ n) := by
    constructor
    · intro h
      have h' : 2 * r * P2 m ≤ n * P2 m := by rw [Nat.mul_assoc]; omega
      have := Nat.le_of_mul_le_mul_right h' hp
      omega
    · intro h
      have : 2 * r * P2 m ≤ n * P2 m := Nat.mul_le_mul_right _ (by omega)
      rw [Nat.mul_assoc] at this
      omega
  unfold octant
  rw [e4, e5, e6, e7]
  by_cases h : 2 * (r : Int) ≤ n
  · rw [if_pos h, if_pos (hc.2 h)]
    exact eighth_up r (4 * n) m (by omega) (by omega) (by omega) hm
  · rw [if_neg h, if_neg (fun h' => h (hc.1 h'))]
    rw [eighth_up (n - r) (4 * n) m (by omega) (by omega) (by omega) hm]
theorem emod_scale (a b : Int) {c : Int} (h : 0 < c) : (a * c) % (b * c) = a % b * c := by
  rw [Int.emod_def, Int.emod_def, Int.mul_ediv_mul_of_pos_left _ _ h, Int.sub_mul]
  congr 1
  ac_rfl
theorem root_up (n k : Int) (m : Nat) (h1 : 1 ≤ n) (h2 : n ≤ 4194303) (hm : m ≤ 30) : root (n * P2 m) (k * P2 m) = root n k := by
  have hp : (0 : Int) < P2 m := by have := P2_pos m; omega
  have e1 : (k * (P2 m : Int)) % (n * P2 m) = (k % n) * P2 m := emod_scale k n hp
  obtain ⟨_, _, a, b⟩ := q_bounds n k h1
  have e2 : 4 * ((k % n) * (P2 m : Int)) / (n * P2 m) = 4 * (k % n) / n := by
    rw [← Int.mul_assoc]; exact Int.mul_ediv_mul_of_pos_left _ _ hp
  have e3 : 4 * ((k % n) * (P2 m : Int)) % (n * P2 m) = (4 * (k % n) % n) * P2 m := by
    rw [← Int.mul_assoc]; exact emod_scale _ _ hp
  have hr0 := Int.emod_nonneg (4 * (k % n)) (show n ≠ 0 by omega)
  have hr1 := Int.emod_lt_of_pos (4 * (k % n)) (show 0 < n by omega)
  unfold root pair pairP
  rw [e1, e2, e3]
  obtain ⟨R, hR⟩ := Int.eq_ofNat_of_zero_le hr0
  obtain ⟨N, hN⟩ := Int.eq_ofNat_of_zero_le (show 0 ≤ n by omega)
  rw [hR, hN]
  have := octant_up R N m (by omega) (by omega) hm
  rw [Int.natCast_mul, Int.natCast_mul] at this
  rw [this]
end Go.Roots
