/-
  The roots' parts are finite, from -1 to 1.
-/
import Derived.Test.YtmadbdecbkmjkaaDoorIe
import Derived.Test.YtmadbdecbkmjkaaDoorRSpec
namespace Go.Roots
open Go.Fl Ieee

theorem ONE_lit : ONE = 0x3ff0000000000000 := rfl
theorem val_of (r m e : Nat) (h1 : rmag r = m) (h2 : rexp r = e) : val r = m * P2 e := by
  unfold val; rw [h1, h2, P2_def]
theorem P2_52 : P2 52 = 4503599627370496 := by rw [P2_def]
theorem val_ONE : val ONE = P2 1074 := by
  rw [val_of ONE 4503599627370496 1022 (by decide) (by decide), ← P2_52, P2_mul]
theorem Rk_ONE : Rk (P2 1074) 0 = ONE := by rw [← val_ONE]; exact Rk_val0 ONE (by decide)
theorem mul_one_left (x : Nat) (h : x < 0x7ff0000000000000) : mul ONE x = x := by
  rw [mul_pos ONE x (by decide) h, val_ONE, Nat.mul_comm, P2_def]
  exact Rk_val x 1074 h
theorem mul_le_ONE {x y z : Nat} (h : x ≤ ONE) (hy : y ≤ z) (hz : z < 0x7ff0000000000000) : mul x y ≤ z := by
  have := mul_mono h hy (by decide) hz
  rwa [mul_one_left z hz] at this

/-- The digits of a quotient of what is no greater. -/
theorem quo_digits {D n T : Nat} (hn : 0 < n) (h : D ≤ n * 2 ^ T) : 2 * (D / n) + (D % n != 0).toNat ≤ 2 ^ (T + 1) := by
  have e := Nat.div_add_mod D n
  have hq : D / n ≤ 2 ^ T := Nat.div_le_of_le_mul h
  rw [Nat.pow_succ]
  by_cases hlt : D / n < 2 ^ T
  · have : (D % n != 0).toNat ≤ 1 := Bool.toNat_le _
    omega
  · have hqe : D / n = 2 ^ T := by omega
    rw [hqe] at e ⊢
    have : D % n = 0 := by omega
    rw [this]; simp; omega
theorem div_le_one {a b : Nat} (h : a ≤ b) (hb : b < 0x7ff0000000000000) (hb0 : b ≠ 0) : div a b ≤ ONE := by
  have hv := (val_le (show a < 0x7ff0000000000000 by omega) hb).2 h
  have hn : rmag b ≠ 0 := fun e => hb0 ((rmag_zero_iff b).1 e)
  have hn' : 0 < rmag b := Nat.pos_of_ne_zero hn
  unfold div Format.div
  rw [read_pos a (by omega), read_pos b hb]
  show ((Datum.quotient 54 _ _).map _).getD NAN ≤ _
  unfold Datum.quotient
  simp only [if_neg hn]
  show double.nearest false _ _ ≤ _
  unfold val at hv
  by_cases hm : rmag a = 0
  · rw [hm]
    have e0 : 2 * ((0 : Nat) <<< (54 + (rmag b).log2 - (0 : Nat).log2) / rmag b) + ((0 : Nat) <<< (54 + (rmag b).log2 - (0 : Nat).log2) % rmag b != 0).toNat = 0 := by simp
    rw [e0]
    unfold Format.nearest
    simp only [if_true, word_false]
    exact Nat.zero_le _
  · generalize hM : 54 + (rmag b).log2 - (rmag a).log2 = more
    have key : ∃ T : Nat, ((-1074 + (rexp a : Int)) - (-1074 + (rexp b : Int)) - (more : Int) - 1 = -((T : Int) + 1)) ∧ rmag a * 2 ^ more ≤ rmag b * 2 ^ T := by
      by_cases hij : rexp a ≤ rexp b
      · obtain ⟨d, hd⟩ : ∃ d, rexp b = rexp a + d := ⟨rexp b - rexp a, by omega⟩
        refine ⟨more + d, by omega, ?_⟩
        rw [hd, Nat.pow_add, Nat.mul_comm (2 ^ rexp a), ← Nat.mul_assoc] at hv
        have h1 := Nat.le_of_mul_le_mul_right hv (Nat.two_pow_pos _)
        rw [Nat.pow_add, Nat.mul_comm (2 ^ more), ← Nat.mul_assoc]
        exact Nat.mul_le_mul_right _ h1
      · obtain ⟨d, hd⟩ : ∃ d, rexp a = rexp b + d := ⟨rexp a - rexp b, by omega⟩
        rw [hd, Nat.pow_add, Nat.mul_comm (2 ^ rexp b), ← Nat.mul_assoc] at hv
        have h1 := Nat.le_of_mul_le_mul_right hv (Nat.two_pow_pos _)
        have hl : (rmag a).log2 + d ≤ (rmag b).log2 := by
          rw [← log2_shift hm d]; exact log2_mono h1
        obtain ⟨T, hT⟩ : ∃ T, more = d + T := ⟨more - d, by omega⟩
        refine ⟨T, by omega, ?_⟩
        rw [hT, Nat.pow_add, ← Nat.mul_assoc]
        exact Nat.mul_le_mul_right _ h1
    obtain ⟨T, hp, hD⟩ := key
    rw [hp, Nat.shiftLeft_eq]
    have hq := quo_digits hn' hD
    generalize 2 * (rmag a * 2 ^ more / rmag b) + (rmag a * 2 ^ more % rmag b != 0).toNat = M at hq ⊢
    by_cases hT : T + 1 ≤ 1074
    · rw [nearest_Rk _ _ _ (1074 - (T + 1)) 0 (by omega), word_false]
      have := Rk_mono (Nat.mul_le_mul_right (2 ^ (1074 - (T + 1))) hq) 0
      have e : (2 : Nat) ^ (T + 1) * 2 ^ (1074 - (T + 1)) = P2 1074 := by
        rw [← P2_def, ← P2_def, P2_mul, show T + 1 + (1074 - (T + 1)) = 1074 by omega]
      rw [e, Rk_ONE] at this
      exact this
    · rw [nearest_Rk _ _ _ 0 (T + 1 - 1074) (by omega), word_false, Nat.pow_zero, Nat.mul_one]
      have := Rk_mono hq (T + 1 - 1074)
      have e : (2 : Nat) ^ (T + 1) = P2 1074 * 2 ^ (T + 1 - 1074) := by
        have h := P2_mul 1074 (T + 1 - 1074)
        rw [show 1074 + (T + 1 - 1074) = T + 1 by omega] at h
        exact (P2_def (T + 1)).symm.trans (h.symm.trans (congrArg (P2 1074 * ·) (P2_def _)))
      have h2 := Rk_scale (P2 1074) 0 (T + 1 - 1074)
      rw [Nat.zero_add, Rk_ONE] at h2
      rw [e, h2] at this
      exact this

theorem mul_ofInt8 (r : Nat) (h : 8 * r < 2 ^ 53) : mul (ofInt 8) (ofInt r) = ofInt ((8 * r : Nat) : Int) := by
  have h8 := val_ofInt 8 (by decide)
  have hr := val_ofInt r (by omega)
  have e8 : (ofInt 8) = ofInt ((8 : Nat) : Int) := rfl
  rw [e8, mul_pos _ _ h8.2 hr.2, h8.1, hr.1, ofInt_pos]
  have := Rk_scaleP0 (8 * r * P2 1074) 1074
  rw [← this]
  congr 1
  generalize P2 1074 = t
  ac_rfl
theorem ofInt_mono {a b : Nat} (h : a ≤ b) : ofInt a ≤ ofInt b := by
  rw [ofInt_pos, ofInt_pos]
  exact Rk_mono (Nat.mul_le_mul_right _ h) 0
theorem PI2_le : PI2 ≤ ofInt 8 := by decide +kernel
/-- The angle of less than an eighth is at most 1. -/
theorem ang_le (r n : Nat) (h : 8 * r ≤ n) (h1 : 1 ≤ n) (hn : n < 2 ^ 53) : ang r n ≤ ONE := by
  unfold ang
  have h8 := val_ofInt 8 (by decide)
  have hr := val_ofInt r (by omega)
  have hv := val_ofInt n hn
  have h2 : mul PI2 (ofInt r) ≤ ofInt ((8 * r : Nat) : Int) := by
    rw [← mul_ofInt8 r (by omega)]
    exact mul_mono PI2_le (Nat.le_refl _) h8.2 hr.2
  refine div_le_one (Nat.le_trans h2 (ofInt_mono h)) hv.2 ?_
  intro e
  have : val (ofInt (n : Int)) = 0 := by rw [e]; exact val_zero
  rw [hv.1] at this
  rcases Nat.mul_eq_zero.1 this with h | h
  · omega
  · exact absurd h (by have := P2_pos 1074; omega)

theorem C_down : ∀ f, f < 2 → ∀ j, j < 8 → C f (8 - j) ≤ C f (7 - j) := by decide +kernel
theorem C_fin : ∀ f, f < 2 → ∀ j, j < 9 → C f j < 0x7ff0000000000000 := by decide +kernel
theorem C_top : ∀ f, f < 2 → C f 0 = ONE := by decide +kernel
theorem hor_le (f : Nat) (hf : f < 2) (y : Nat) (hy : y ≤ ONE) : ∀ j, j ≤ 8 → hor f y j ≤ C f (8 - j)
  | 0, _ => Nat.le_refl _
  | j + 1, h => by
    have ih := hor_le f hf y hy j (by omega)
    have hm := mul_le_ONE hy ih (C_fin f hf _ (by omega))
    have hd := C_down f hf j (by omega)
    show sub (C f (7 - j)) (mul y (hor f y j)) ≤ _
    rw [show 8 - (j + 1) = 7 - j by omega]
    exact sub_le (Nat.le_trans hm hd) (C_fin f hf _ (by omega))
theorem horner_le (f : Nat) (hf : f < 2) (y : Nat) (hy : y ≤ ONE) : horner y f ≤ ONE := by
  have := hor_le f hf y hy 8 (Nat.le_refl _)
  rw [Nat.sub_self, C_top f hf] at this
  exact this
theorem eighth_le (r n : Nat) (h : 8 * r ≤ n) (hn : n < 2 ^ 53) : (eighth r n).1 ≤ ONE ∧ (eighth r n).2 ≤ ONE := by
  unfold eighth
  split
  · exact ⟨Nat.le_refl _, by decide⟩
  · split
    · exact ⟨by decide, by decide⟩
    · rename_i h0 h8
      have ha := ang_le r n h (by omega) hn
      have hy : mul (ang r n) (ang r n) ≤ ONE := mul_le_ONE ha ha (by decide)
      exact ⟨horner_le 0 (by omega) _ hy, mul_le_ONE ha (horner_le 1 (by omega) _ hy) (by decide)⟩
theorem octant_le (r n : Int) (h0 : 0 ≤ r) (h1 : r < n) (hn : n ≤ 4194304) : (octant r n).1 ≤ ONE ∧ (octant r n).2 ≤ ONE := by
  obtain ⟨R, rfl⟩ := Int.eq_ofNat_of_zero_le h0
  obtain ⟨N, rfl⟩ := Int.eq_ofNat_of_zero_le (show 0 ≤ n by omega)
  unfold octant
  split
  · have := eighth_le R (4 * N) (by omega) (by omega)
    simpa using this
  · have := eighth_le (N - R) (4 * N) (by omega) (by omega)
    rw [show ((N : Int) - (R : Int)) = ((N - R : Nat) : Int) by omega]
    exact ⟨by simpa using this.2, by simpa using this.1⟩

/-- A float from -1 to 1. -/
def Unit1 (x : Nat) : Prop := ∃ s z, x = double.word s z ∧ z ≤ ONE
theorem neg_word (s : Bool) (z : Nat) (h : z < 0x7ff0000000000000) : neg (double.word s z) = double.word (!s) z := by
  have hs := signWeight_double
  unfold neg
  have e : Op.negFloat .f64 (double.word s z) = double.word (!s) z := by
    show (double.word s z) ^^^ 2 ^ 63 = _
    unfold Format.word
    rw [hs]
    have hx : ∀ z : Nat, z < 2 ^ 63 → z ^^^ 2 ^ 63 = 2 ^ 63 + z := fun z hz => by
      apply Nat.eq_of_testBit_eq
      intro i
      rw [Nat.testBit_xor]
      by_cases hi : i = 63
      · subst hi
        rw [Nat.testBit_two_pow_self, Nat.testBit_two_pow_add_eq, Nat.testBit_lt_two_pow hz]; rfl
      · rw [Nat.testBit_two_pow_of_ne (Ne.symm hi), Bool.xor_false]
        by_cases hlt : i < 63
        · rw [Nat.testBit_two_pow_add_gt hlt]
        · have h1 : z < 2 ^ i := Nat.lt_of_lt_of_le hz (Nat.pow_le_pow_right (by omega) (by omega))
          have h2 : 2 ^ 63 + z < 2 ^ i := by
            have : (2 : Nat) ^ 64 ≤ 2 ^ i := Nat.pow_le_pow_right (by omega) (by omega)
            omega
          rw [Nat.testBit_lt_two_pow h1, Nat.testBit_lt_two_pow h2]
    cases s
    · simp only [Bool.false_eq_true, if_false, Bool.not_false, if_true]
      exact hx z (by omega)
    · simp only [Bool.not_true, Bool.false_eq_true, if_false, if_true]
      have : (0x8000000000000000 : Nat) + z = z ^^^ 2 ^ 63 := (hx z (by omega)).symm
      rw [this, Nat.xor_assoc, Nat.xor_self, Nat.xor_zero]
  rw [e]
  exact cn_of_not _ (isN_word _ _ (by rw [infRung_double]; omega))

theorem Unit1.fin {x : Nat} (h : Unit1 x) : ∃ s z, x = double.word s z ∧ z < 0x7ff0000000000000 := by
  obtain ⟨s, z, h1, h2⟩ := h
  exact ⟨s, z, h1, Nat.lt_of_le_of_lt h2 (by decide)⟩
theorem Unit1.of_le {x : Nat} (h : x ≤ ONE) : Unit1 x := ⟨false, x, (word_false x).symm, h⟩
theorem Unit1.neg {x : Nat} (h : Unit1 x) : Unit1 (neg x) := by
  obtain ⟨s, z, rfl, hz⟩ := h
  exact ⟨!s, z, neg_word s z (Nat.lt_of_le_of_lt hz (by decide)), hz⟩
theorem Unit1.plus {x : Nat} (h : Unit1 x) : Unit1 (plus x) := by
  unfold Roots.plus; split
  · exact Unit1.of_le (Nat.zero_le _)
  · exact h
theorem unit_rot : ∀ (q : Nat) (p : Nat × Nat), Unit1 p.1 → Unit1 p.2 → Unit1 (rot q p).1 ∧ Unit1 (rot q p).2
  | 0, _, h1, h2 => ⟨h1, h2⟩
  | q + 1, p, h1, h2 => ⟨(unit_rot q p h1 h2).2.neg, (unit_rot q p h1 h2).1⟩
theorem unit_pairP (n k : Int) (h1 : 1 ≤ n) (h2 : n ≤ 4194304) : Unit1 (pairP n k).1 ∧ Unit1 (pairP n k).2 := by
  have h := octant_le (4 * (k % n) % n) n (Int.emod_nonneg _ (by omega)) (Int.emod_lt_of_pos _ (by omega)) h2
  exact unit_rot _ _ (Unit1.of_le h.1) (Unit1.of_le h.2)
theorem unit_pair (n k : Int) (h1 : 1 ≤ n) (h2 : n ≤ 4194304) : Unit1 (pair n k).1 ∧ Unit1 (pair n k).2 :=
  ⟨(unit_pairP n k h1 h2).1.plus, (unit_pairP n k h1 h2).2.plus⟩
theorem unit_root (n k : Int) (h1 : 1 ≤ n) (h2 : n ≤ 4194304) : Unit1 (root n k).1 ∧ Unit1 (root n k).2 :=
  ⟨(unit_pair n k h1 h2).1, (unit_pair n k h1 h2).2.neg.plus⟩
end Go.Roots
