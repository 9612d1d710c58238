/-
  The roots lie near the circle: the floats' operations as rational numbers.
-/
import Derived.Test.YtijbkcjbkioefaaDoorRBound
import Derived.Test.YtijbkcjbkioefaaDoorRCir
namespace Go.Roots
open Go.Fl Ieee Go.Circ

theorem val_q (e q : Nat) (h : q ≤ 9007199254740992) (h2 : e = 0 ∨ 4503599627370496 ≤ q) : val (e * 4503599627370496 + q) = q * 2 ^ e := by
  have h52 : (2 : Nat) ^ 52 = 4503599627370496 := by decide
  unfold val rmag rexp
  rw [h52]
  by_cases h0 : q = 9007199254740992
  · subst h0
    rw [if_neg (by omega), show (e * 4503599627370496 + 9007199254740992) % 4503599627370496 = 0 by omega, show (e * 4503599627370496 + 9007199254740992) / 4503599627370496 - 1 = e + 1 by omega, Nat.pow_succ]
    omega
  · by_cases h1 : q < 4503599627370496
    · obtain rfl : e = 0 := by omega
      rw [Nat.zero_mul, Nat.zero_add, if_pos h1, show q / 4503599627370496 - 1 = 0 by omega]
    · rw [if_neg (by omega), show (e * 4503599627370496 + q) % 4503599627370496 = q - 4503599627370496 by omega, show (e * 4503599627370496 + q) / 4503599627370496 - 1 = e by omega, show 4503599627370496 + (q - 4503599627370496) = q by omega]
theorem rne_err (n d : Nat) : 2 * (rne n d * 2 ^ d) ≤ 2 * n + 2 ^ d ∧ 2 * n ≤ 2 * (rne n d * 2 ^ d) + 2 ^ d := by
  have e := Nat.div_add_mod n (2 ^ d)
  have l := Nat.mod_lt n (Nat.two_pow_pos d)
  unfold rne
  rw [Nat.mul_comm] at e
  generalize n % 2 ^ d = r at *
  generalize n / 2 ^ d = q at *
  split
  · rename_i h
    rw [Nat.add_mul, Nat.one_mul]
    generalize q * 2 ^ d = s at *
    generalize 2 ^ d = p at *
    omega
  · rename_i h
    rw [Nat.add_zero]
    generalize q * 2 ^ d = s at *
    generalize 2 ^ d = p at *
    omega
/-- The rung, by its digits. -/
theorem Rk_digits (N K : Nat) (h : Rk N K < 0x7ff0000000000000) : ∃ e q : Nat, e = N.log2 - (52 + K) ∧ q = rne N (e + K) ∧ q ≤ 9007199254740992 ∧ (e = 0 ∨ 4503599627370496 ≤ q) ∧ Rk N K = e * 4503599627370496 + q ∧ val (Rk N K) = q * 2 ^ e := by
  have h52 : (2 : Nat) ^ 52 = 4503599627370496 := by decide
  have h53 : (2 : Nat) ^ 53 = 9007199254740992 := by decide
  refine ⟨_, _, rfl, rfl, ?_⟩
  have hR : Rk N K = (N.log2 - (52 + K)) * 4503599627370496 + rne N ((N.log2 - (52 + K)) + K) := by
    unfold Rk at h ⊢
    rw [h52] at h ⊢
    omega
  have hq : rne N ((N.log2 - (52 + K)) + K) ≤ 9007199254740992 := by
    rw [← h53]
    apply rne_le
    have := @Nat.lt_log2_self N
    refine Nat.le_trans (Nat.le_of_lt this) (Nat.pow_le_pow_right (by omega) (by omega))
  have hq2 : N.log2 - (52 + K) = 0 ∨ 4503599627370496 ≤ rne N ((N.log2 - (52 + K)) + K) := by
    by_cases h0 : N.log2 - (52 + K) = 0
    · exact .inl h0
    · right
      rw [← h52]
      apply rne_ge
      have hN : N ≠ 0 := by intro e; subst e; simp at h0
      have := (Nat.le_log2 hN).1 (Nat.le_refl N.log2)
      exact Nat.le_trans (Nat.pow_le_pow_right (by omega) (by omega)) this
  refine ⟨hq, hq2, hR, ?_⟩
  rw [hR]
  exact val_q _ _ hq hq2
theorem Rk_near (N K : Nat) (h : N ≤ P2 (1074 + K)) : Rk N K ≤ ONE ∧ val (Rk N K) * P2 K ≤ N + P2 (1020 + K) ∧ N ≤ val (Rk N K) * P2 K + P2 (1020 + K) := by
  have top : Rk (P2 (1074 + K)) K = ONE := by
    rw [← P2_mul, P2_def K]
    have := Rk_scale (P2 1074) 0 K
    rw [Nat.zero_add] at this
    rw [this, Rk_ONE]
  have hle : Rk N K ≤ ONE := by rw [← top]; exact Rk_mono h K
  refine ⟨hle, ?_⟩
  by_cases he : N = P2 (1074 + K)
  · subst he
    rw [top, val_ONE, P2_mul]; omega
  · obtain ⟨e, q, h1, h2, _, _, _, hv⟩ := Rk_digits N K (Nat.lt_of_le_of_lt hle (by decide))
    have hlog : N.log2 ≤ 1073 + K := by
      by_cases h0 : N = 0
      · subst h0; simp
      · have hlt : N < 2 ^ (1074 + K) := by rw [← P2_def]; omega
        have := (Nat.log2_lt h0).2 hlt
        omega
    have hpw : 2 ^ (e + K) ≤ 2 * P2 (1020 + K) := by
      rw [P2_def, Nat.mul_comm, ← Nat.pow_succ]
      exact Nat.pow_le_pow_right (by omega) (by omega)
    have err := rne_err N (e + K)
    rw [← h2] at err
    rw [hv, P2_def K, Nat.mul_assoc, ← Nat.pow_add]
    omega

/-! ### As rational numbers -/
def RR (x : Nat) : Rat := (val x : Rat) * (1 / (P2 1074 : Nat))
theorem P_ne : ((P2 1074 : Nat) : Rat) ≠ 0 := by
  have := P2_pos 1074
  intro h
  have h2 : ((P2 1074 : Nat) : Rat) = ((0 : Nat) : Rat) := h
  have := Rat.natCast_inj.1 h2
  omega
theorem P_inv : ((P2 1074 : Nat) : Rat) * (1 / (P2 1074 : Nat)) = 1 := by
  have := P_ne
  generalize ((P2 1074 : Nat) : Rat) = p at *
  grind
theorem pos_of_inv {D d : Rat} (hD : 0 ≤ D) (h : D * d = 1) : 0 ≤ d := by
  apply Rat.not_lt.1
  intro h2
  have := Rat.mul_nonneg hD (show 0 ≤ -d by grind)
  rw [Rat.mul_neg, h] at this
  exact absurd this (by decide)
theorem p_pos : 0 ≤ (1 / (P2 1074 : Nat) : Rat) := pos_of_inv Rat.natCast_nonneg P_inv
theorem scaled {a b c : Nat} (h : a * b = c) {p : Rat} (hp : (c : Rat) * p = 1) : ((a : Nat) : Rat) * p * (b : Rat) = 1 := by
  subst h
  rw [Rat.natCast_mul] at hp
  rw [Rat.mul_assoc, Rat.mul_comm p, ← Rat.mul_assoc, hp]
theorem U_eq : ((P2 1020 : Nat) : Rat) * (1 / (P2 1074 : Nat)) = hh := by
  have h : P2 1020 * 18014398509481984 = P2 1074 := by
    have : P2 54 = 18014398509481984 := by rw [P2_def]
    rw [← this, P2_mul]
  have h1 := scaled h P_inv
  have c : ((18014398509481984 : Nat) : Rat) = 18014398509481984 := rfl
  rw [c] at h1
  unfold hh
  clear h c
  obtain ⟨p, hp⟩ : ∃ p, ((P2 1020 : Nat) : Rat) * (1 / (P2 1074 : Nat) : Rat) = p := ⟨_, rfl⟩
  rw [hp] at h1 ⊢
  clear hp
  grind
theorem RR_nonneg (x : Nat) : 0 ≤ RR x := Rat.mul_nonneg Rat.natCast_nonneg p_pos
theorem RR_ONE : RR ONE = 1 := by unfold RR; rw [val_ONE]; exact P_inv
theorem RR_zero : RR 0 = 0 := by unfold RR; rw [val_zero]; simp
theorem cast_le {a b : Nat} (h : a ≤ b) : (a : Rat) ≤ (b : Rat) := Rat.natCast_le_natCast.2 h
theorem RR_le {x y : Nat} (h : x ≤ y) (hy : y < 0x7ff0000000000000) : RR x ≤ RR y := by
  have := cast_le ((val_le (show x < 0x7ff0000000000000 by omega) hy).2 h)
  exact Rat.mul_le_mul_of_nonneg_right this p_pos
theorem RR_le_one {x : Nat} (h : x ≤ ONE) : RR x ≤ 1 := by rw [← RR_ONE]; exact RR_le h (by decide)
theorem near_of {v N D : Nat} {q : Rat} (h1 : v * D ≤ N + P2 1020 * D) (h2 : N ≤ v * D + P2 1020 * D) (d : Rat) (hd : 0 ≤ d) (hD : (D : Rat) * d = 1) (hq : q = (N : Rat) * d * (1 / (P2 1074 : Nat))) : Nr ((v : Rat) * (1 / (P2 1074 : Nat))) q hh := by
  have a1 := cast_le h1
  have a2 := cast_le h2
  rw [Rat.natCast_add, Rat.natCast_mul, Rat.natCast_mul] at a1 a2
  have u := U_eq
  have hp := p_pos
  subst hq
  generalize (1 / (P2 1074 : Nat) : Rat) = p at *
  generalize ((P2 1020 : Nat) : Rat) = U at *
  have b1 := Rat.mul_nonneg (Rat.mul_nonneg (show 0 ≤ (N : Rat) + U * D - v * D by grind) hd) hp
  have b2 := Rat.mul_nonneg (Rat.mul_nonneg (show 0 ≤ (v : Rat) * D + U * D - N by grind) hd) hp
  have e1 : ((N : Rat) + U * D - v * D) * d * p = N * d * p + U * p - v * p := by
    have : ((N : Rat) + U * D - v * D) * d * p = N * d * p + U * p * (D * d) - v * p * (D * d) := by grind
    rw [this, hD]; grind
  have e2 : ((v : Rat) * D + U * D - N) * d * p = v * p + U * p - N * d * p := by
    have : ((v : Rat) * D + U * D - N) * d * p = v * p * (D * d) + U * p * (D * d) - N * d * p := by grind
    rw [this, hD]; grind
  rw [e1] at b1
  rw [e2] at b2
  unfold Nr
  generalize (N : Rat) * d * p = X at *
  generalize (v : Rat) * p = Y at *
  constructor <;> grind
theorem mul_near {a b : Nat} (ha : a ≤ ONE) (hb : b ≤ ONE) : mul a b ≤ ONE ∧ Nr (RR (mul a b)) (RR a * RR b) hh := by
  have one : ONE < 0x7ff0000000000000 := by decide
  have va := (val_le (show a < 0x7ff0000000000000 by omega) one).2 ha
  have vb := (val_le (show b < 0x7ff0000000000000 by omega) one).2 hb
  rw [val_ONE] at va vb
  obtain ⟨h1, h2, h3⟩ := Rk_near (val a * val b) 1074 (by rw [← P2_mul]; exact Nat.mul_le_mul va vb)
  rw [mul_pos a b (by omega) (by omega)]
  refine ⟨h1, ?_⟩
  rw [← P2_mul] at h2 h3
  refine near_of h2 h3 _ p_pos P_inv ?_
  unfold RR
  rw [Rat.natCast_mul]
  generalize (1 / (P2 1074 : Nat) : Rat) = p
  grind
theorem sub_near {a b : Nat} (hb : b ≤ a) (ha : a ≤ ONE) : Nr (RR (sub a b)) (RR a - RR b) hh := by
  have one : ONE < 0x7ff0000000000000 := by decide
  have va := (val_le (show a < 0x7ff0000000000000 by omega) one).2 ha
  have vb := (val_le (show b < 0x7ff0000000000000 by omega) (show a < 0x7ff0000000000000 by omega)).2 hb
  rw [val_ONE] at va
  obtain ⟨_, h2, h3⟩ := Rk_near (val a - val b) 0 (by rw [Nat.add_zero]; omega)
  rw [sub_pos hb (by omega)]
  have e0 : P2 0 = 1 := by rw [P2_def]
  rw [e0, Nat.mul_one, Nat.add_zero] at h2 h3
  refine near_of (D := 1) (N := val a - val b) (by omega) (by omega) 1 (by decide) (by simp) ?_
  unfold RR
  have : ((val a - val b : Nat) : Rat) = (val a : Rat) - (val b : Rat) := by
    have h : (val a - val b) + val b = val a := by omega
    have h2 : ((val a - val b : Nat) : Rat) + (val b : Rat) = (val a : Rat) := by rw [← Rat.natCast_add, h]
    grind
  rw [this]
  generalize (1 / (P2 1074 : Nat) : Rat) = p
  grind

/-! ### The series -/
theorem C_near (f : Nat) (hf : f < 2) (j : Nat) (hj : j < 9) : Nr (RR (C f j)) (cf f j) hh := by
  have key : (∀ f, f < 2 → ∀ j, j < 9 → val (C f j) * (Nat.rec (motive := fun _ => Nat) 1 (fun m r => r * (m + 1)) (2 * j + f)) ≤ P2 1074 + P2 1020 * (Nat.rec (motive := fun _ => Nat) 1 (fun m r => r * (m + 1)) (2 * j + f)) ∧
      P2 1074 ≤ val (C f j) * (Nat.rec (motive := fun _ => Nat) 1 (fun m r => r * (m + 1)) (2 * j + f)) + P2 1020 * (Nat.rec (motive := fun _ => Nat) 1 (fun m r => r * (m + 1)) (2 * j + f))) := by decide +kernel
  obtain ⟨h1, h2⟩ := key f hf j hj
  have fac : ∀ m, ((Nat.rec (motive := fun _ => Nat) 1 (fun m r => r * (m + 1)) m : Nat) : Rat) = fa m ∧ 0 < fa m := by
    intro m
    induction m with
    | zero => exact ⟨rfl, by show (0 : Rat) < 1; decide⟩
    | succ m ih =>
      refine ⟨?_, ?_⟩
      · show (((Nat.rec (motive := fun _ => Nat) 1 (fun m r => r * (m + 1)) m) * (m + 1) : Nat) : Rat) = fa m * ((m + 1 : Nat) : Rat)
        rw [Rat.natCast_mul, ih.1]
      · show 0 < fa m * ((m + 1 : Nat) : Rat)
        refine Rat.mul_pos ih.2 ?_
        have : (0 : Nat) < m + 1 := by omega
        exact Rat.natCast_lt_natCast.2 this
  obtain ⟨f1, f2⟩ := fac (2 * j + f)
  generalize Nat.rec (motive := fun _ => Nat) 1 (fun m r => r * (m + 1)) (2 * j + f) = D at *
  have hx : fa (2 * j + f) * (1 / fa (2 * j + f)) = 1 := by
    generalize fa (2 * j + f) = x at *
    grind
  refine near_of h1 h2 (1 / fa (2 * j + f)) (pos_of_inv (Rat.le_of_lt f2) hx) ?_ ?_
  · rw [f1]; exact hx
  · have := P_inv
    show 1 / fa (2 * j + f) = _
    rw [Rat.mul_assoc, Rat.mul_comm (1 / fa (2 * j + f)), ← Rat.mul_assoc, this, Rat.one_mul]
theorem horner_near (f : Nat) (hf : f < 2) (y : Nat) (hy : y ≤ ONE) : Nr (RR (horner y f)) (hp f (RR y) 8) (25 * hh) := by
  have := hp_near f (RR y) (RR_nonneg y) (RR_le_one hy) (fun j => RR (hor f y j)) (fun j => RR (C f j)) (fun j => RR (mul y (hor f y j)))
    (C_near f hf 8 (by omega)) (fun j hj => C_near f hf _ (by omega))
    (fun j hj => (mul_near hy (Nat.le_trans (hor_le f hf y hy j (by omega)) (by
      have : (∀ f, f < 2 → ∀ j, j < 9 → C f j ≤ ONE) := by decide +kernel
      exact this f hf _ (by omega)))).2)
    (fun j hj => by
      have ih := hor_le f hf y hy j (by omega)
      have hm := mul_le_ONE hy ih (C_fin f hf _ (by omega))
      have hd := C_down f hf j (by omega)
      have h1 : (∀ f, f < 2 → ∀ j, j < 9 → C f j ≤ ONE) := by decide +kernel
      exact sub_near (Nat.le_trans hm hd) (h1 f hf _ (by omega))) 8 (by omega)
  have e : ((3 * 8 + 1 : Nat) : Rat) = 25 := by rfl
  rw [e] at this
  exact this

theorem RR_HALF : RR HALF = 6369051672525773 / 9007199254740992 := by
  have v : val HALF = 6369051672525773 * P2 1021 := val_of _ _ _ (by decide) (by decide)
  have hP : P2 1021 * 9007199254740992 = P2 1074 := by
    have : P2 53 = 9007199254740992 := by rw [P2_def]
    rw [← this, P2_mul]
  have h1 := scaled hP P_inv
  unfold RR
  rw [v, Rat.natCast_mul, Rat.mul_assoc]
  have c1 : ((6369051672525773 : Nat) : Rat) = 6369051672525773 := rfl
  have c2 : ((9007199254740992 : Nat) : Rat) = 9007199254740992 := rfl
  rw [c2] at h1
  rw [c1]
  clear hP v c1 c2
  obtain ⟨p, hp⟩ : ∃ p, ((P2 1021 : Nat) : Rat) * (1 / (P2 1074 : Nat) : Rat) = p := ⟨_, rfl⟩
  rw [hp] at h1 ⊢
  clear hp
  grind
theorem eighth_circle (r n : Nat) (h : 8 * r ≤ n) (hn : n < 2 ^ 53) : Nr (RR (eighth r n).1 * RR (eighth r n).1 + RR (eighth r n).2 * RR (eighth r n).2) 1 (111 * hh) := by
  have h0 := hh_pos
  unfold eighth
  split
  · show Nr (RR ONE * RR ONE + RR 0 * RR 0) 1 _
    rw [RR_ONE, RR_zero]
    unfold Nr
    generalize hh = h at *
    grind
  · split
    · show Nr (RR HALF * RR HALF + RR HALF * RR HALF) 1 _
      have e : Nr (RR HALF * RR HALF) (1 / 2) (55 * hh) := by
        rw [RR_HALF]
        unfold Nr hh
        constructor <;> decide +kernel
      unfold Nr at *
      generalize RR HALF * RR HALF = x at *
      generalize hh = h at *
      grind
    · rename_i h0' h8
      have ha := ang_le r n h (by omega) hn
      have hy := mul_near ha ha
      have hc := horner_le 0 (by omega) _ hy.1
      have hS := horner_le 1 (by omega) _ hy.1
      have hs := mul_near ha hS
      exact on_circle (RR_nonneg _) (RR_le_one ha) (RR_nonneg _) (RR_le_one hy.1) (RR_nonneg _) (RR_le_one hc) (RR_nonneg _) (RR_le_one hs.1) (RR_nonneg _) (RR_le_one hS)
        (horner_near 0 (by omega) _ hy.1) (horner_near 1 (by omega) _ hy.1) hs.2 hy.2
end Go.Roots
