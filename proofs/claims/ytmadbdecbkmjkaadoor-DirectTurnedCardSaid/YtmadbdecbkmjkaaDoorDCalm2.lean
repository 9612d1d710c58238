/-
  Plain law for DirectTurned: what the watch lets by is calm; a calm transform goes with minus, with times i, with times a power of two.
-/
import Derived.Test.YtmadbdecbkmjkaaDoorDCalm
namespace Go.Calm
open Go.Fl Go.Roots Ieee Go.Proofs.YtmadbdecbkmjkaaDoor

def LOW : Nat := 553942754166571008
def HIGH : Nat := 8660422083433463808
/-- A float without its sign, as the watch takes it. -/
def ab (F : Nat) : Nat := if (ord F 0 == some .lt) = true then neg F else F
def calmB (F : Nat) : Bool := (ord (ab F) 0 == some .eq) || ((ord (ab F) LOW == some .gt || ord (ab F) LOW == some .eq) && (ord (ab F) HIGH == some .lt || ord (ab F) HIGH == some .eq))
def calmP (F : Nat) : Prop := calmB F = true
theorem LOW_val : val LOW = P2 174 := by
  have h : val LOW = 4503599627370496 * P2 122 := val_of _ _ _ (by decide) (by decide)
  rw [h, ← P2_52, P2_mul]
theorem HIGH_val : val HIGH = P2 1974 := by
  have h : val HIGH = 4503599627370496 * P2 1922 := val_of _ _ _ (by decide) (by decide)
  rw [h, ← P2_52, P2_mul]
theorem cmp_lt {i j : Int} : (some (compare i j) == some Ordering.lt) = decide (i < j) := by
  rcases Int.lt_trichotomy i j with h | h | h
  · rw [Int.compare_eq_lt.2 h, decide_eq_true h]; rfl
  · subst h; rw [Int.compare_eq_eq.2 rfl, decide_eq_false (by omega)]; rfl
  · rw [Int.compare_eq_gt.2 h, decide_eq_false (by omega)]; rfl
theorem cmp_eq {i j : Int} : (some (compare i j) == some Ordering.eq) = decide (i = j) := by
  rcases Int.lt_trichotomy i j with h | h | h
  · rw [Int.compare_eq_lt.2 h, decide_eq_false (by omega)]; rfl
  · subst h; rw [Int.compare_eq_eq.2 rfl, decide_eq_true rfl]; rfl
  · rw [Int.compare_eq_gt.2 h, decide_eq_false (by omega)]; rfl
theorem cmp_gt {i j : Int} : (some (compare i j) == some Ordering.gt) = decide (j < i) := by
  rcases Int.lt_trichotomy i j with h | h | h
  · rw [Int.compare_eq_lt.2 h, decide_eq_false (by omega)]; rfl
  · subst h; rw [Int.compare_eq_eq.2 rfl, decide_eq_false (by omega)]; rfl
  · rw [Int.compare_eq_gt.2 h, decide_eq_true h]; rfl
theorem calm_size {r : Nat} (hr : r < 0x7ff0000000000000) (h : ((ord r 0 == some .eq) || ((ord r LOW == some .gt || ord r LOW == some .eq) && (ord r HIGH == some .lt || ord r HIGH == some .eq))) = true) : val r = 0 ∨ (P2 174 ≤ val r ∧ val r ≤ P2 1974) := by
  have e0 := ord_words false false r 0 hr (by decide)
  have e1 := ord_words false false r LOW hr (by decide)
  have e2 := ord_words false false r HIGH hr (by decide)
  rw [word_false, word_false] at e0 e1 e2
  rw [e0, e1, e2, cmp_eq, cmp_eq, cmp_eq, cmp_gt, cmp_lt, val_zero, LOW_val, HIGH_val] at h
  unfold sg at h
  simp only [Bool.false_eq_true, if_false, Bool.or_eq_true, Bool.and_eq_true, decide_eq_true_eq] at h
  generalize P2 174 = p at *
  generalize P2 1974 = q at *
  omega
theorem calm_word (s : Bool) (r : Nat) (hr : r ≤ 0x7ff0000000000000) (h : calmP (double.word s r)) : r < 0x7ff0000000000000 ∧ CI (sg s (val r)) := by
  by_cases hi : r = 0x7ff0000000000000
  · subst hi
    exfalso
    revert h
    cases s
    · exact (by decide +kernel : ¬ calmB (double.word false 0x7ff0000000000000) = true)
    · exact (by decide +kernel : ¬ calmB (double.word true 0x7ff0000000000000) = true)
  · have hlt : r < 0x7ff0000000000000 := Nat.lt_of_le_of_ne hr hi
    refine ⟨hlt, ?_⟩
    have e0 := ord_words s false r 0 hlt (by decide)
    rw [word_false, val_zero] at e0
    have hs0 : sg false 0 = 0 := rfl
    rw [hs0] at e0
    unfold calmP calmB ab at h
    rw [e0, cmp_lt] at h
    cases s
    · have hn : ¬ (decide (sg false (val r) < 0)) = true := by rw [decide_eq_true_eq]; unfold sg; simp
      rw [if_neg hn, word_false] at h
      have := calm_size hlt h
      unfold CI sg
      simp only [Bool.false_eq_true, if_false, Int.natAbs_natCast]
      rcases this with h | h
      · exact .inl (by omega)
      · exact .inr h
    · by_cases hv : val r = 0
      · exact .inl (by unfold sg; rw [hv]; rfl)
      · have hn : (decide (sg true (val r) < 0)) = true := by rw [decide_eq_true_eq]; unfold sg; simp; omega
        rw [if_pos hn, neg_word true r hlt] at h
        have := calm_size hlt (by rw [show (!true) = false from rfl, word_false] at h; exact h)
        unfold CI sg
        simp only [if_true, Int.natAbs_neg, Int.natAbs_natCast]
        rcases this with h | h
        · exact .inl (by omega)
        · exact .inr h
/-- A word is a NaN or a number, or infinite. -/
theorem float_cases (F : Nat) (hF : F < 18446744073709551616) (hc : cn F = F) : F = NAN ∨ ∃ s z, F = double.word s z ∧ z ≤ 0x7ff0000000000000 := by
  by_cases hn : isN F = true
  · left; rw [← hc, cn_of F hn]
  · right
    have hs := signWeight_double
    have hi := infRung_double
    have hz : F % double.signWeight ≤ 0x7ff0000000000000 := by
      apply Nat.le_of_not_lt; intro h
      apply hn
      unfold isN Format.read
      simp only
      rw [if_neg (by rw [binade_double]; omega)]
      rw [if_neg (by rw [hi]; omega)]
      rw [if_neg (by rw [hi]; omega)]
      rfl
    rw [hs] at hz
    by_cases h2 : F < 9223372036854775808
    · exact ⟨false, F, (word_false F).symm, by rw [Nat.mod_eq_of_lt h2] at hz; exact hz⟩
    · refine ⟨true, F - 9223372036854775808, ?_, ?_⟩
      · rw [word_pos]; omega
      · have : F % 9223372036854775808 = F - 9223372036854775808 := by omega
        rw [this] at hz; exact hz
theorem calm_FV (F : Nat) (hF : F < 18446744073709551616) (hc : cn F = F) (h : calmP F) : ∃ S, FV F S ∧ CI S := by
  rcases float_cases F hF hc with rfl | ⟨s, z, rfl, hz⟩
  · exact absurd h (by decide +kernel : ¬ calmB NAN = true)
  · obtain ⟨h1, h2⟩ := calm_word s z hz h
    exact ⟨_, ⟨s, z, rfl, h1, rfl⟩, h2⟩

/-! ### What the watch says of a product, a sum, a difference -/
def prodP (A B : Nat) : Prop := calmP (mul A B) ∧ ((ord A 0 == some .eq) = true ∨ (ord B 0 == some .eq) = true ∨ (ord (mul A B) 0 == some .eq) = false)
def sumP (A B : Nat) : Prop := calmP (add A B)
def lessP (A B : Nat) : Prop := calmP (sub A B)
/-- A rounded number that is finite, calm, and not 0 where the number is not. -/
structure Ok (T : Int) (K : Nat) : Prop where
  fin : Rk T.natAbs K < 0x7ff0000000000000
  calm : CI (RI T K)
  nz : T = 0 ∨ RI T K ≠ 0
theorem prod_FV {A B : Nat} {S T : Int} (hA : FV A S) (hB : FV B T) (h : prodP A B) : FV (mul A B) (RI (S * T) 1074) ∧ Ok (S * T) 1074 := by
  obtain ⟨h1, h2⟩ := h
  have hw : ∃ s, mul A B = double.word s (Rk (S * T).natAbs 1074) := by
    obtain ⟨s, a, rfl, ha, rfl⟩ := hA
    obtain ⟨t, b, rfl, hb, rfl⟩ := hB
    exact ⟨_, by rw [mul_words s t a b ha hb, ← sg_mul_abs s t]⟩
  obtain ⟨s, hw⟩ := hw
  have hc := h1
  rw [hw] at hc
  have hfin := (calm_word s _ (Rk_le _ _) hc).1
  have hFV := FV.mul hA hB hfin
  have hcc : CI (RI (S * T) 1074) := by
    have h3 := (calm_word s _ (Rk_le _ _) hc).2
    have h4 : FV (mul A B) (sg s (val (Rk (S * T).natAbs 1074))) := ⟨s, _, hw, hfin, rfl⟩
    rw [hFV.uniq h4]; exact h3
  refine ⟨hFV, hfin, hcc, ?_⟩
  rcases h2 with h2 | h2 | h2
  · left; rw [hA.zero_iff.1 h2, Int.zero_mul]
  · left; rw [hB.zero_iff.1 h2, Int.mul_zero]
  · right; intro h3; have := hFV.zero_iff.2 h3; rw [this] at h2; cases h2
theorem sum_FV {A B : Nat} {S T : Int} (hA : FV A S) (hB : FV B T) (h : sumP A B) : FV (add A B) (RI (S + T) 0) ∧ Ok (S + T) 0 := by
  have hw : ∃ s, add A B = double.word s (Rk (S + T).natAbs 0) := by
    obtain ⟨s, a, rfl, ha, rfl⟩ := hA
    obtain ⟨t, b, rfl, hb, rfl⟩ := hB
    exact ⟨_, add_words s t a b ha hb⟩
  obtain ⟨s, hw⟩ := hw
  have hc : calmP (add A B) := h
  rw [hw] at hc
  obtain ⟨hfin, h3⟩ := calm_word s _ (Rk_le _ _) hc
  have hFV := FV.add hA hB hfin
  have h4 : FV (add A B) (sg s (val (Rk (S + T).natAbs 0))) := ⟨s, _, hw, hfin, rfl⟩
  refine ⟨hFV, hfin, by rw [hFV.uniq h4]; exact h3, ?_⟩
  by_cases h0 : S + T = 0
  · exact .inl h0
  · exact .inr (RI_ne _ h0 hfin)
theorem less_FV {A B : Nat} {S T : Int} (hA : FV A S) (hB : FV B T) (h : lessP A B) : FV (sub A B) (RI (S - T) 0) ∧ Ok (S - T) 0 := by
  have hw : ∃ s, sub A B = double.word s (Rk (S - T).natAbs 0) := by
    obtain ⟨s, a, rfl, ha, rfl⟩ := hA
    obtain ⟨t, b, rfl, hb, rfl⟩ := hB
    exact ⟨_, by rw [sub_words s t a b ha hb, sg_flip, ← Int.sub_eq_add_neg]⟩
  obtain ⟨s, hw⟩ := hw
  have hc : calmP (sub A B) := h
  rw [hw] at hc
  obtain ⟨hfin, h3⟩ := calm_word s _ (Rk_le _ _) hc
  have hFV := FV.sub hA hB hfin
  have h4 : FV (sub A B) (sg s (val (Rk (S - T).natAbs 0))) := ⟨s, _, hw, hfin, rfl⟩
  refine ⟨hFV, hfin, by rw [hFV.uniq h4]; exact h3, ?_⟩
  by_cases h0 : S - T = 0
  · exact .inl h0
  · exact .inr (RI_ne _ h0 hfin)
def mulC (A B : Nat × Nat) : Prop := prodP A.1 B.1 ∧ prodP A.2 B.2 ∧ prodP A.1 B.2 ∧ prodP A.2 B.1 ∧ lessP (mul A.1 B.1) (mul A.2 B.2) ∧ sumP (mul A.1 B.2) (mul A.2 B.1)
def addC (A B : Nat × Nat) : Prop := sumP A.1 B.1 ∧ sumP A.2 B.2
def seeC (A : Nat × Nat) : Prop := calmP A.1 ∧ calmP A.2

/-! ### What goes with the transform -/
structure Mor (R : Int → Int → Int → Int → Prop) : Prop where
  add : ∀ {A B A' B' C D C' D' : Int}, R A B A' B' → R C D C' D' → Ok (A + C) 0 → Ok (B + D) 0 →
    Rk (A' + C').natAbs 0 < 0x7ff0000000000000 ∧ Rk (B' + D').natAbs 0 < 0x7ff0000000000000 ∧ R (RI (A + C) 0) (RI (B + D) 0) (RI (A' + C') 0) (RI (B' + D') 0)
  mul : ∀ {A B A' B' U V : Int}, R A B A' B' → Ok (A * U) 1074 → Ok (B * V) 1074 → Ok (A * V) 1074 → Ok (B * U) 1074 →
    Ok (RI (A * U) 1074 - RI (B * V) 1074) 0 → Ok (RI (A * V) 1074 + RI (B * U) 1074) 0 →
    Rk (A' * U).natAbs 1074 < 0x7ff0000000000000 ∧ Rk (B' * V).natAbs 1074 < 0x7ff0000000000000 ∧ Rk (A' * V).natAbs 1074 < 0x7ff0000000000000 ∧ Rk (B' * U).natAbs 1074 < 0x7ff0000000000000 ∧
    Rk (RI (A' * U) 1074 - RI (B' * V) 1074).natAbs 0 < 0x7ff0000000000000 ∧ Rk (RI (A' * V) 1074 + RI (B' * U) 1074).natAbs 0 < 0x7ff0000000000000 ∧
    R (RI (RI (A * U) 1074 - RI (B * V) 1074) 0) (RI (RI (A * V) 1074 + RI (B * U) 1074) 0) (RI (RI (A' * U) 1074 - RI (B' * V) 1074) 0) (RI (RI (A' * V) 1074 + RI (B' * U) 1074) 0)
theorem fin_neg {T : Int} {K : Nat} (h : Rk T.natAbs K < 0x7ff0000000000000) : Rk (-T).natAbs K < 0x7ff0000000000000 := by rw [Int.natAbs_neg]; exact h
theorem mor_minus : Mor (fun A B A' B' => A' = -A ∧ B' = -B) where
  add := by
    rintro A B A' B' C D C' D' ⟨rfl, rfl⟩ ⟨rfl, rfl⟩ h1 h2
    rw [← Int.neg_add, ← Int.neg_add, RI_neg, RI_neg]
    exact ⟨fin_neg h1.fin, fin_neg h2.fin, rfl, rfl⟩
  mul := by
    rintro A B A' B' U V ⟨rfl, rfl⟩ h1 h2 h3 h4 h5 h6
    rw [Int.neg_mul, Int.neg_mul, Int.neg_mul, Int.neg_mul, RI_neg, RI_neg, RI_neg, RI_neg]
    rw [show -RI (A * U) 1074 - -RI (B * V) 1074 = -(RI (A * U) 1074 - RI (B * V) 1074) by omega, show -RI (A * V) 1074 + -RI (B * U) 1074 = -(RI (A * V) 1074 + RI (B * U) 1074) by omega, RI_neg, RI_neg]
    exact ⟨fin_neg h1.fin, fin_neg h2.fin, fin_neg h3.fin, fin_neg h4.fin, fin_neg h5.fin, fin_neg h6.fin, rfl, rfl⟩
theorem mor_turn : Mor (fun A B A' B' => A' = -B ∧ B' = A) where
  add := by
    rintro A B A' B' C D C' D' ⟨rfl, rfl⟩ ⟨rfl, rfl⟩ h1 h2
    rw [← Int.neg_add, RI_neg]
    exact ⟨fin_neg h2.fin, h1.fin, rfl, rfl⟩
  mul := by
    rintro A B A' B' U V ⟨rfl, rfl⟩ h1 h2 h3 h4 h5 h6
    rw [Int.neg_mul, Int.neg_mul, RI_neg, RI_neg]
    rw [show -RI (B * U) 1074 - RI (B' * V) 1074 = -(RI (B' * V) 1074 + RI (B * U) 1074) by omega, show -RI (B * V) 1074 + RI (B' * U) 1074 = RI (B' * U) 1074 - RI (B * V) 1074 by omega, RI_neg]
    exact ⟨fin_neg h4.fin, h3.fin, fin_neg h2.fin, h1.fin, fin_neg h6.fin, h5.fin, rfl, rfl⟩
theorem scaled_mul {S T U a b : Int} (h : T * a = S * b) : T * U * a = S * U * b := by
  rw [Int.mul_right_comm, h, Int.mul_right_comm]
theorem mor_scale (a b : Nat) (ha : a ≤ 64) (hb : b ≤ 64) : Mor (fun A B A' B' => A' * ((2 ^ a : Nat) : Int) = A * ((2 ^ b : Nat) : Int) ∧ B' * ((2 ^ a : Nat) : Int) = B * ((2 ^ b : Nat) : Int)) where
  add := by
    rintro A B A' B' C D C' D' ⟨e1, e2⟩ ⟨e3, e4⟩ h1 h2
    obtain ⟨f1, g1⟩ := RI_scale (T := A + C) (T' := A' + C') (K := 0) ha hb (by rw [Int.add_mul, Int.add_mul, e1, e3]) h1.fin h1.calm h1.nz
    obtain ⟨f2, g2⟩ := RI_scale (T := B + D) (T' := B' + D') (K := 0) ha hb (by rw [Int.add_mul, Int.add_mul, e2, e4]) h2.fin h2.calm h2.nz
    exact ⟨f1, f2, g1, g2⟩
  mul := by
    rintro A B A' B' U V ⟨e1, e2⟩ h1 h2 h3 h4 h5 h6
    obtain ⟨f1, g1⟩ := RI_scale (T' := A' * U) ha hb (scaled_mul e1) h1.fin h1.calm h1.nz
    obtain ⟨f2, g2⟩ := RI_scale (T' := B' * V) ha hb (scaled_mul e2) h2.fin h2.calm h2.nz
    obtain ⟨f3, g3⟩ := RI_scale (T' := A' * V) ha hb (scaled_mul e1) h3.fin h3.calm h3.nz
    obtain ⟨f4, g4⟩ := RI_scale (T' := B' * U) ha hb (scaled_mul e2) h4.fin h4.calm h4.nz
    obtain ⟨f5, g5⟩ := RI_scale (T' := RI (A' * U) 1074 - RI (B' * V) 1074) ha hb (by rw [Int.sub_mul, Int.sub_mul, g1, g2]) h5.fin h5.calm h5.nz
    obtain ⟨f6, g6⟩ := RI_scale (T' := RI (A' * V) 1074 + RI (B' * U) 1074) ha hb (by rw [Int.add_mul, Int.add_mul, g3, g4]) h6.fin h6.calm h6.nz
    exact ⟨f1, f2, f3, f4, f5, f6, g5, g6⟩

/-- Two complex numbers side by side. -/
def Two (R : Int → Int → Int → Int → Prop) (p q : Nat × Nat) : Prop := ∃ A B A' B', FV p.1 A ∧ FV p.2 B ∧ FV q.1 A' ∧ FV q.2 B' ∧ R A B A' B' ∧ (CI A ∧ CI B)
theorem two_add {R : Int → Int → Int → Int → Prop} (hR : Mor R) {p q x y : Nat × Nat} (h1 : Two R p q) (h2 : Two R x y) (hc : addC p x) : Two R (cadd p x) (cadd q y) := by
  obtain ⟨A, B, A', B', a1, a2, a3, a4, r1, _⟩ := h1
  obtain ⟨C, D, C', D', b1, b2, b3, b4, r2, _⟩ := h2
  obtain ⟨c1, k1⟩ := sum_FV a1 b1 hc.1
  obtain ⟨c2, k2⟩ := sum_FV a2 b2 hc.2
  obtain ⟨f1, f2, r⟩ := hR.add r1 r2 k1 k2
  exact ⟨_, _, _, _, c1, c2, FV.add a3 b3 f1, FV.add a4 b4 f2, r, k1.calm, k2.calm⟩
theorem unit_FV {x : Nat} (h : Unit1 x) : ∃ S, FV x S := by
  obtain ⟨s, z, rfl, hz⟩ := h
  exact ⟨_, s, z, rfl, Nat.lt_of_le_of_lt hz (by decide), rfl⟩
theorem two_mul {R : Int → Int → Int → Int → Prop} (hR : Mor R) {p q w : Nat × Nat} (h1 : Two R p q) (hw : Unit1 w.1 ∧ Unit1 w.2) (hc : mulC p w) : Two R (cmul p w) (cmul q w) := by
  obtain ⟨A, B, A', B', a1, a2, a3, a4, r1, _⟩ := h1
  obtain ⟨U, u1⟩ := unit_FV hw.1
  obtain ⟨V, u2⟩ := unit_FV hw.2
  obtain ⟨c1, c2, c3, c4, c5, c6⟩ := hc
  obtain ⟨m1, k1⟩ := prod_FV a1 u1 c1
  obtain ⟨m2, k2⟩ := prod_FV a2 u2 c2
  obtain ⟨m3, k3⟩ := prod_FV a1 u2 c3
  obtain ⟨m4, k4⟩ := prod_FV a2 u1 c4
  obtain ⟨m5, k5⟩ := less_FV m1 m2 c5
  obtain ⟨m6, k6⟩ := sum_FV m3 m4 c6
  obtain ⟨f1, f2, f3, f4, f5, f6, r⟩ := hR.mul r1 k1 k2 k3 k4 k5 k6
  exact ⟨_, _, _, _, m5, m6, FV.sub (FV.mul a3 u1 f1) (FV.mul a4 u2 f2) f5, FV.add (FV.mul a3 u2 f3) (FV.mul a4 u1 f4) f6, r, k5.calm, k6.calm⟩
/-- What the watch says of sum k, from element 1 up to element j. -/
def sumC (f : Nat → Nat × Nat) (n k j : Nat) : Prop := (j * k % n ≠ 0 → mulC (f j) (root n ((j * k % n : Nat) : Int))) ∧ addC (acc f n k (j - 1)) (term f n k j)
theorem term_zero (f : Nat → Nat × Nat) {n k j : Nat} (hk : k < n) (h : j * k % n = 0) : term f n k j = f j := by
  have hk' : (k : Int) % (n : Int) = (k : Int) := Int.emod_eq_of_lt (by omega) (by omega)
  unfold term
  rw [hk', jq_mod, h]
  exact if_pos (by simp)
theorem term_more (f : Nat → Nat × Nat) {n k j : Nat} (hk : k < n) (h : j * k % n ≠ 0) : term f n k j = cmul (f j) (root n ((j * k % n : Nat) : Int)) := by
  have hl : j * k % n < n := Nat.mod_lt _ (by omega)
  have hk' : (k : Int) % (n : Int) = (k : Int) := Int.emod_eq_of_lt (by omega) (by omega)
  unfold term
  rw [hk', jq_mod]
  have := twist_more (f j) n ((j * k % n : Nat) : Int) (by rw [Int.emod_eq_of_lt (by omega) (by omega)]; omega)
  rwa [Int.emod_eq_of_lt (by omega) (by omega)] at this
theorem acc_two {R : Int → Int → Int → Int → Prop} (hR : Mor R) (f f' : Nat → Nat × Nat) (n k : Nat) (hn : n ≤ 1024) (hk : k < n) (h0 : ∀ j, j < n → Two R (f j) (f' j)) (hc : ∀ j, 1 ≤ j → j < n → sumC f n k j) : ∀ j, j < n → Two R (acc f n k j) (acc f' n k j)
  | 0, h => h0 0 h
  | j + 1, h => by
    have ih := acc_two hR f f' n k hn hk h0 hc j (by omega)
    obtain ⟨c1, c2⟩ := hc (j + 1) (by omega) h
    rw [Nat.add_sub_cancel] at c2
    refine two_add hR ih ?_ c2
    by_cases hz : (j + 1) * k % n = 0
    · rw [term_zero f hk hz, term_zero f' hk hz]; exact h0 _ h
    · rw [term_more f hk hz, term_more f' hk hz]
      exact two_mul hR (h0 _ h) (unit_root n _ (by omega) (by omega)) (c1 hz)

/-! ### The three lists -/
theorem start_two (R : Int → Int → Int → Int → Prop) {p q : Nat × Nat} (b1 : p.1 < 18446744073709551616) (b2 : p.2 < 18446744073709551616) (c1 : cn p.1 = p.1) (c2 : cn p.2 = p.2) (h : seeC p)
    (hq : ∀ A B, FV p.1 A → FV p.2 B → CI A → CI B → ∃ A' B', FV q.1 A' ∧ FV q.2 B' ∧ R A B A' B') : Two R p q := by
  obtain ⟨A, h1, k1⟩ := calm_FV p.1 b1 c1 h.1
  obtain ⟨B, h2, k2⟩ := calm_FV p.2 b2 c2 h.2
  obtain ⟨A', B', h3, h4, r⟩ := hq A B h1 h2 k1 k2
  exact ⟨A, B, A', B', h1, h2, h3, h4, r, k1, k2⟩
/-- 2^k, for k from -64 to 64. -/
def pw (k : Int) : Nat := (1023 + k).toNat * 4503599627370496
theorem pw_FV (k : Int) (h1 : -64 ≤ k) (h2 : k ≤ 64) : FV (pw k) ((P2 (1074 + k).toNat : Nat) : Int) := by
  obtain ⟨e, he, h3⟩ : ∃ e : Nat, (1023 + k).toNat = e + 1 ∧ (1074 + k).toNat = 52 + e := ⟨(1022 + k).toNat, by omega, by omega⟩
  refine ⟨false, pw k, (word_false _).symm, ?_, ?_⟩
  · have he2 : e + 1 ≤ 1087 := by omega
    unfold pw; rw [he]
    exact Nat.lt_of_le_of_lt (Nat.mul_le_mul_right _ he2) (by decide)
  · have : val (pw k) = 4503599627370496 * P2 e := by
      unfold pw
      rw [he, P2_def]
      have := val_q e 4503599627370496 (by omega) (by omega)
      rw [← this, Nat.add_mul, Nat.one_mul]
    rw [this, h3, ← P2_52, P2_mul]
    rfl
theorem scale_FV {u : Nat} {S : Int} (hu : FV u S) (hc : CI S) (k : Int) (a b : Nat) (ha : a ≤ 64) (hb : b ≤ 64) (hab : k = (b : Int) - (a : Int)) : ∃ T, FV (mul u (pw k)) T ∧ T * ((2 ^ a : Nat) : Int) = S * ((2 ^ b : Nat) : Int) := by
  have hF := pw_FV k (by omega) (by omega)
  have hz0 := hu
  obtain ⟨s, z, _, hz, hS⟩ := hz0
  have e1 : (S * ((P2 1074 : Nat) : Int)).natAbs = val z * P2 1074 := by
    rw [Int.natAbs_mul, hS]; unfold sg; cases s <;> simp
  have r1 : Rk (S * ((P2 1074 : Nat) : Int)).natAbs 1074 = z := by rw [e1, P2_def]; exact Rk_val z 1074 hz
  have r2 : RI (S * ((P2 1074 : Nat) : Int)) 1074 = S := by
    unfold RI
    rw [r1]
    have pp := P2_pos 1074
    by_cases h : S * ((P2 1074 : Nat) : Int) < 0
    · rw [if_pos h]
      have hS0 : S < 0 := by
        apply Int.lt_of_not_ge; intro h2
        have := Int.mul_nonneg h2 (show (0 : Int) ≤ ((P2 1074 : Nat) : Int) by omega)
        omega
      rw [hS] at hS0 ⊢
      unfold sg at hS0 ⊢
      cases s <;> simp at hS0 ⊢ <;> omega
    · rw [if_neg h]
      have hS0 : 0 ≤ S := by
        apply Int.le_of_not_gt; intro h2
        have := Int.mul_neg_of_neg_of_pos h2 (show (0 : Int) < ((P2 1074 : Nat) : Int) by omega)
        omega
      rw [hS] at hS0 ⊢
      unfold sg at hS0 ⊢
      cases s <;> simp at hS0 ⊢ <;> omega
  have hpw : P2 (1074 + k).toNat * 2 ^ a = P2 1074 * 2 ^ b := by
    rw [← P2_def a, ← P2_def b, P2_mul, P2_mul]
    congr 1; omega
  have hT : S * ((P2 (1074 + k).toNat : Nat) : Int) * ((2 ^ a : Nat) : Int) = S * ((P2 1074 : Nat) : Int) * ((2 ^ b : Nat) : Int) := by
    rw [Int.mul_assoc, Int.mul_assoc, ← Int.natCast_mul, ← Int.natCast_mul, hpw]
  obtain ⟨f, g⟩ := RI_scale (K := 1074) ha hb hT (by rw [r1]; exact hz) (by rw [r2]; exact hc) (by
    rw [r2]
    by_cases h : S = 0
    · left; rw [h, Int.zero_mul]
    · exact .inr h)
  rw [r2] at g
  exact ⟨_, FV.mul hu hF f, g⟩
theorem scaled_uniq {T T' S : Int} {a b : Nat} (h : T * ((2 ^ a : Nat) : Int) = S * ((2 ^ b : Nat) : Int)) (h' : T' * ((2 ^ a : Nat) : Int) = S * ((2 ^ b : Nat) : Int)) : T = T' := by
  have p := Nat.two_pow_pos a
  exact Int.eq_of_mul_eq_mul_right (show ((2 ^ a : Nat) : Int) ≠ 0 by omega) (h.trans h'.symm)
end Go.Calm
