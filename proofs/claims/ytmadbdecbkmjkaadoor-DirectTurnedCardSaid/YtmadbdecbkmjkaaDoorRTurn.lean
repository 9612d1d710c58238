/-
  Roots turned: by == a quarter turn, a half turn, the conjugate; the root hangs on k/n alone.
-/
import Derived.Test.YtmadbdecbkmjkaaDoorRBound
namespace Go.Roots
open Go.Fl Ieee

def Fin1 (x : Nat) : Prop := ∃ s z, x = double.word s z ∧ z < 0x7ff0000000000000
def Zw (x : Nat) : Prop := ∃ s, x = double.word s 0
/-- Equal, as floats are: -0 is 0. -/
def EQv (x y : Nat) : Prop := x = y ∨ (Zw x ∧ Zw y)
theorem EQv.refl (x : Nat) : EQv x x := .inl rfl
theorem EQv.symm {x y : Nat} (h : EQv x y) : EQv y x := by
  rcases h with h | ⟨a, b⟩
  · exact .inl h.symm
  · exact .inr ⟨b, a⟩
theorem EQv.trans {x y z : Nat} (h : EQv x y) (k : EQv y z) : EQv x z := by
  rcases h with rfl | ⟨a, b⟩
  · exact k
  · rcases k with rfl | ⟨_, d⟩
    · exact .inr ⟨a, b⟩
    · exact .inr ⟨a, d⟩
theorem Zw.neg {x : Nat} (h : Zw x) : Zw (neg x) := by
  obtain ⟨s, rfl⟩ := h; exact ⟨!s, neg_word s 0 (by decide)⟩
theorem Zw.zero : Zw 0 := ⟨false, (word_false 0).symm⟩
theorem EQv.neg {x y : Nat} (h : EQv x y) : EQv (neg x) (neg y) := by
  rcases h with rfl | ⟨a, b⟩
  · exact .inl rfl
  · exact .inr ⟨a.neg, b.neg⟩
theorem val_eq_zero {z : Nat} (h : val z = 0) : z = 0 := by
  unfold val at h
  rcases Nat.mul_eq_zero.1 h with h | h
  · exact (rmag_zero_iff z).1 h
  · have := Nat.two_pow_pos (rexp z); omega
theorem sg_zero (s : Bool) : sg s (val 0) = 0 := by rw [val_zero]; cases s <;> rfl
theorem ord_eq_of {x y : Nat} (hx : Fin1 x) (h : EQv x y) : (ord x y == some .eq) = true := by
  rcases h with rfl | ⟨⟨s, rfl⟩, ⟨t, rfl⟩⟩
  · obtain ⟨s, z, rfl, hz⟩ := hx
    rw [ord_words s s z z hz hz, Int.compare_eq_eq.2 rfl]; rfl
  · rw [ord_words s t 0 0 (by decide) (by decide), sg_zero, sg_zero]; rfl
theorem Zw_of_ord {x : Nat} (hx : Fin1 x) (h : (ord x 0 == some .eq) = true) : Zw x := by
  obtain ⟨s, z, rfl, hz⟩ := hx
  have h0 := ord_words s false z 0 hz (by decide)
  rw [word_false] at h0
  rw [h0, sg_zero] at h
  have h1 : compare (sg s (val z)) 0 = .eq := by simpa using h
  have h2 := Int.compare_eq_eq.1 h1
  have h3 : val z = 0 := by
    cases s
    · simpa [sg] using h2
    · have : (-(val z : Int)) = 0 := h2
      omega
  exact ⟨s, by rw [val_eq_zero h3]⟩
theorem ord_of_Zw {x : Nat} (h : Zw x) : (ord x 0 == some .eq) = true := by
  obtain ⟨s, rfl⟩ := h
  have h0 := ord_words s false 0 0 (by decide) (by decide)
  rw [word_false] at h0
  rw [h0, sg_zero, sg_zero]; rfl
theorem plus_EQ {x : Nat} (hx : Fin1 x) : EQv (plus x) x := by
  unfold plus
  split
  · rename_i h; exact .inr ⟨Zw.zero, Zw_of_ord hx h⟩
  · exact .inl rfl
theorem Fin1.neg {x : Nat} (h : Fin1 x) : Fin1 (neg x) := by
  obtain ⟨s, z, rfl, hz⟩ := h; exact ⟨!s, z, neg_word s z hz, hz⟩
theorem Unit1.fin1 {x : Nat} (h : Unit1 x) : Fin1 x := h.fin
theorem Fin1.cn {x : Nat} (h : Fin1 x) : cn x = x := by
  obtain ⟨s, z, rfl, hz⟩ := h
  exact cn_of_not _ (isN_word _ _ (by rw [infRung_double]; omega))
theorem Fin1.neg_neg {x : Nat} (h : Fin1 x) : Fl.neg (Fl.neg x) = x := Fl.neg_neg x h.cn

/-! ### Turns -/
theorem root_EQ (n k : Int) (h1 : 1 ≤ n) (h2 : n ≤ 4194304) : EQv (root n k).1 (pairP n k).1 ∧ EQv (root n k).2 (neg (pairP n k).2) := by
  have u := unit_pairP n k h1 h2
  have v := unit_pair n k h1 h2
  refine ⟨plus_EQ u.1.fin1, ?_⟩
  show EQv (plus (neg (pair n k).2)) _
  exact (plus_EQ v.2.fin1.neg).trans (plus_EQ u.2.fin1).neg
theorem sin_EQ (n k : Int) (h1 : 1 ≤ n) (h2 : n ≤ 4194304) : EQv (pair n k).2 (neg (root n k).2) := by
  have u := unit_pairP n k h1 h2
  have h := (root_EQ n k h1 h2).2.neg
  rw [u.2.fin1.neg_neg] at h
  exact (plus_EQ u.2.fin1).trans h.symm

theorem rot_add (j : Nat) (p : Nat × Nat) : ∀ q, rot (q + j) p = rot q (rot j p)
  | 0 => by rw [Nat.zero_add]; rfl
  | q + 1 => by
    rw [show q + 1 + j = (q + j) + 1 by omega]
    show ((neg (rot (q + j) p).2, (rot (q + j) p).1) : Nat × Nat) = _
    rw [rot_add j p q]; rfl
theorem rot_four (p : Nat × Nat) (h1 : Fin1 p.1) (h2 : Fin1 p.2) : rot 4 p = p := by
  show ((neg (neg p.1), neg (neg p.2)) : Nat × Nat) = p
  rw [h1.neg_neg, h2.neg_neg]
theorem q_bounds (n k : Int) (h1 : 1 ≤ n) : 0 ≤ 4 * (k % n) / n ∧ 4 * (k % n) / n ≤ 3 ∧ 0 ≤ k % n ∧ k % n < n := by
  have a := Int.emod_nonneg k (show n ≠ 0 by omega)
  have b := Int.emod_lt_of_pos k (show 0 < n by omega)
  refine ⟨Int.ediv_nonneg (by omega) (by omega), ?_, a, b⟩
  have : 4 * (k % n) / n < 4 := Int.ediv_lt_of_lt_mul (by omega) (by omega)
  omega
theorem shift_up (n k k' : Int) (j : Nat) (h1 : 1 ≤ n) (h : 4 * (k' % n) = 4 * (k % n) + j * n) : pairP n k' = rot j (pairP n k) := by
  obtain ⟨d0, _, _, _⟩ := q_bounds n k h1
  have e1 : 4 * (k' % n) / n = 4 * (k % n) / n + j := by rw [h]; exact Int.add_mul_ediv_right _ _ (by omega)
  have e2 : 4 * (k' % n) % n = 4 * (k % n) % n := by rw [h]; exact Int.add_mul_emod_self_right _ _ _
  unfold pairP
  rw [e1, e2]
  obtain ⟨q, hq⟩ := Int.eq_ofNat_of_zero_le d0
  rw [hq, show ((q : Int) + (j : Int)).toNat = j + q by omega, Int.toNat_natCast]
  exact rot_add q _ j
theorem shift_down (n k k' : Int) (j : Nat) (h1 : 1 ≤ n) (h2 : n ≤ 4194304) (h : 4 * (k' % n) + 4 * n = 4 * (k % n) + j * n) : pairP n k' = rot j (pairP n k) := by
  obtain ⟨d0, _, _, _⟩ := q_bounds n k h1
  obtain ⟨d0', _, _, _⟩ := q_bounds n k' h1
  have e1 : 4 * (k' % n) / n + 4 = 4 * (k % n) / n + j := by
    rw [← Int.add_mul_ediv_right _ _ (show n ≠ 0 by omega), h]
    exact Int.add_mul_ediv_right _ _ (by omega)
  have e2 : 4 * (k' % n) % n = 4 * (k % n) % n := by
    rw [← Int.add_mul_emod_self_right (4 * (k' % n)) 4 n, h]
    exact Int.add_mul_emod_self_right _ _ _
  have u := unit_pairP n k' h1 h2
  rw [← rot_four (pairP n k') u.1.fin1 u.2.fin1]
  unfold pairP
  rw [e2]
  obtain ⟨q, hq⟩ := Int.eq_ofNat_of_zero_le d0
  obtain ⟨q', hq'⟩ := Int.eq_ofNat_of_zero_le d0'
  rw [hq, hq', Int.toNat_natCast, Int.toNat_natCast, ← rot_add, ← rot_add]
  congr 1
  omega
theorem quarter_turn (n k : Int) (h1 : 1 ≤ n) (h2 : n ≤ 4194304) (h4 : n % 4 = 0) : pairP n (k + n / 4) = rot 1 (pairP n k) := by
  obtain ⟨_, _, a, b⟩ := q_bounds n k h1
  have e : (k + n / 4) % n = (k % n + n / 4) % n := by rw [Int.emod_add_emod]
  by_cases hlt : k % n + n / 4 < n
  · exact shift_up n k _ 1 h1 (by rw [e, Int.emod_eq_of_lt (by omega) hlt]; omega)
  · refine shift_down n k _ 1 h1 h2 ?_
    have : (k % n + n / 4) % n = k % n + n / 4 - n := by
      rw [← Int.sub_emod_right, Int.emod_eq_of_lt (by omega) (by omega)]
    rw [e, this]; omega
theorem half_turn (n k : Int) (h1 : 1 ≤ n) (h2 : n ≤ 4194304) (h4 : n % 2 = 0) : pairP n (k + n / 2) = rot 2 (pairP n k) := by
  obtain ⟨_, _, a, b⟩ := q_bounds n k h1
  have e : (k + n / 2) % n = (k % n + n / 2) % n := by rw [Int.emod_add_emod]
  by_cases hlt : k % n + n / 2 < n
  · exact shift_up n k _ 2 h1 (by rw [e, Int.emod_eq_of_lt (by omega) hlt]; omega)
  · refine shift_down n k _ 2 h1 h2 ?_
    have : (k % n + n / 2) % n = k % n + n / 2 - n := by
      rw [← Int.sub_emod_right, Int.emod_eq_of_lt (by omega) (by omega)]
    rw [e, this]; omega
theorem whole_turn (n k : Int) : root n (k + n) = root n k := by
  unfold root pair pairP
  rw [Int.add_emod_right]

/-- The octant of the rest of a quarter is the octant exchanged. -/
theorem octant_rest (n r : Int) (h0 : 0 < r) (h1 : r < n) : octant (n - r) n = ((octant r n).2, (octant r n).1) := by
  unfold octant
  by_cases h : 2 * r ≤ n
  · by_cases h' : 2 * (n - r) ≤ n
    · have e : 2 * r = n := by omega
      rw [if_pos h, if_pos h', show n - r = r by omega]
      have e8 : 8 * r = 4 * n := by omega
      unfold eighth
      rw [if_neg (by omega), if_pos e8]
    · rw [if_pos h, if_neg h', show n - (n - r) = r by omega]
  · rw [if_neg h, if_pos (by omega)]
/-- The conjugate's pair. -/
theorem conj_turn (n k : Int) (h1 : 1 ≤ n) (h2 : n ≤ 4194304) : EQv (pairP n (-k)).1 (pairP n k).1 ∧ EQv (pairP n (-k)).2 (neg (pairP n k).2) := by
  obtain ⟨d0, d1, a, b⟩ := q_bounds n k h1
  have hm : (-k) % n = if k % n = 0 then 0 else n - k % n := by
    by_cases h : k % n = 0
    · rw [if_pos h]; exact Int.emod_eq_zero_of_dvd (Int.dvd_neg.2 (Int.dvd_of_emod_eq_zero h))
    · rw [if_neg h, Int.neg_emod]
      rw [if_neg (fun hd => h (Int.emod_eq_zero_of_dvd hd))]
      omega
  have hdm := Int.mul_ediv_add_emod (4 * (k % n)) n
  rw [Int.mul_comm] at hdm
  have hr0 := Int.emod_nonneg (4 * (k % n)) (show n ≠ 0 by omega)
  have hr1 := Int.emod_lt_of_pos (4 * (k % n)) (show 0 < n by omega)
  obtain ⟨q, hq⟩ := Int.eq_ofNat_of_zero_le d0
  have hq4 : q = 0 ∨ q = 1 ∨ q = 2 ∨ q = 3 := by omega
  have hO := octant_le (4 * (k % n) % n) n hr0 hr1 h2
  have f1 : Fin1 (octant (4 * (k % n) % n) n).1 := (Unit1.of_le hO.1).fin1
  have f2 : Fin1 (octant (4 * (k % n) % n) n).2 := (Unit1.of_le hO.2).fin1
  by_cases hr : 4 * (k % n) % n = 0
  · have hoct : octant 0 n = (ONE, 0) := by
      unfold octant; rw [if_pos (by omega)]; unfold eighth; rw [if_pos rfl]
    by_cases hz : k % n = 0
    · unfold pairP
      rw [hm, if_pos hz, hz]
      rw [show (4 : Int) * 0 / n = 0 by simp, show (4 : Int) * 0 % n = 0 by simp, hoct]
      exact ⟨.inl rfl, .inr ⟨Zw.zero, Zw.zero.neg⟩⟩
    · have hk' : 4 * ((-k) % n) = (4 - q : Int) * n := by
        rw [hm, if_neg hz, Int.sub_mul, ← hq]; omega
      have e1 : 4 * ((-k) % n) / n = 4 - q := by rw [hk']; exact Int.mul_ediv_cancel _ (by omega)
      have e2 : 4 * ((-k) % n) % n = 0 := by rw [hk']; exact Int.mul_emod_left _ _
      unfold pairP
      rw [e1, e2, hq, hr, hoct]
      have hq0 : q ≠ 0 := by
        intro h; subst h
        rw [hq, hr] at hdm
        omega
      have k1 : EQv (rot 3 (ONE, 0)).1 (rot 1 (ONE, 0)).1 := .inr ⟨⟨false, by decide +kernel⟩, ⟨true, by decide +kernel⟩⟩
      rcases hq4 with rfl | rfl | rfl | rfl
      · exact absurd rfl hq0
      · exact ⟨.inr ⟨⟨false, by decide +kernel⟩, ⟨true, by decide +kernel⟩⟩, .inl (by decide +kernel)⟩
      · exact ⟨.inl rfl, .inr ⟨⟨true, by decide +kernel⟩, ⟨false, by decide +kernel⟩⟩⟩
      · exact ⟨.inr ⟨⟨true, by decide +kernel⟩, ⟨false, by decide +kernel⟩⟩, .inl (by decide +kernel)⟩
  · have hz : k % n ≠ 0 := by intro h; rw [h] at hr; simp at hr
    have hk' : 4 * ((-k) % n) = (n - 4 * (k % n) % n) + (3 - q : Int) * n := by
      rw [hm, if_neg hz, Int.sub_mul, ← hq]; omega
    have e1 : 4 * ((-k) % n) / n = 3 - q := by
      rw [hk', Int.add_mul_ediv_right _ _ (by omega), Int.ediv_eq_zero_of_lt (by omega) (by omega)]; omega
    have e2 : 4 * ((-k) % n) % n = n - 4 * (k % n) % n := by
      rw [hk', Int.add_mul_emod_self_right, Int.emod_eq_of_lt (by omega) (by omega)]
    unfold pairP
    rw [e1, e2, hq, octant_rest n _ (by omega) hr1]
    generalize octant (4 * (k % n) % n) n = O at f1 f2
    rcases hq4 with rfl | rfl | rfl | rfl
    · refine ⟨.inl ?_, .inl ?_⟩
      · show neg (neg O.1) = O.1; exact f1.neg_neg
      · rfl
    · exact ⟨.inl rfl, .inl rfl⟩
    · refine ⟨.inl rfl, .inl ?_⟩
      show O.2 = neg (neg O.2); exact f2.neg_neg.symm
    · refine ⟨.inl ?_, .inl ?_⟩
      · show O.2 = neg (neg O.2); exact f2.neg_neg.symm
      · show O.1 = neg (neg O.1); exact f1.neg_neg.symm
end Go.Roots
