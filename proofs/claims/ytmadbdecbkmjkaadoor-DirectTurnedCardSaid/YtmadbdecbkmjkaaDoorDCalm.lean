/-
  Plain law for DirectTurned: finite floats as integers; sums and products that are calm go with minus, with times i and with times a power of two.
-/
import Derived.Test.YtmadbdecbkmjkaaDoorRDig
import Derived.Test.YtmadbdecbkmjkaaDoorRTurn
import Derived.Test.YtmadbdecbkmjkaaDoorDSum
namespace Go.Calm
open Go.Fl Go.Roots Ieee

/-- A finite float of that value, in units of 2^-1074. -/
def FV (u : Nat) (S : Int) : Prop := ∃ s z, u = double.word s z ∧ z < 0x7ff0000000000000 ∧ S = sg s (val z)
/-- An integer rounded. -/
def RI (T : Int) (K : Nat) : Int := if T < 0 then -((val (Rk T.natAbs K) : Nat) : Int) else ((val (Rk T.natAbs K) : Nat) : Int)
theorem RI_zero (K : Nat) : RI 0 K = 0 := by unfold RI; rw [if_neg (by omega)]; show ((val (Rk 0 K) : Nat) : Int) = 0; rw [Rk_zero, val_zero]; rfl
theorem RI_neg (T : Int) (K : Nat) : RI (-T) K = -RI T K := by
  by_cases h0 : T = 0
  · subst h0; rw [Int.neg_zero, RI_zero]; rfl
  · unfold RI
    rw [Int.natAbs_neg]
    by_cases h : T < 0
    · rw [if_pos h, if_neg (by omega), Int.neg_neg]
    · rw [if_neg h, if_pos (by omega)]
theorem RI_natAbs (T : Int) (K : Nat) : (RI T K).natAbs = val (Rk T.natAbs K) := by
  unfold RI
  generalize Rk T.natAbs K = r
  by_cases h : T < 0
  · rw [if_pos h, Int.natAbs_neg, Int.natAbs_natCast]
  · rw [if_neg h, Int.natAbs_natCast]
theorem FV.fin {u : Nat} {S : Int} (h : FV u S) : Fin1 u := by
  obtain ⟨s, z, h1, h2, _⟩ := h; exact ⟨s, z, h1, h2⟩
theorem FV.cn {u : Nat} {S : Int} (h : FV u S) : cn u = u := h.fin.cn
theorem FV.neg {u : Nat} {S : Int} (h : FV u S) : FV (neg u) (-S) := by
  obtain ⟨s, z, rfl, hz, rfl⟩ := h
  exact ⟨!s, z, neg_word s z hz, hz, by unfold sg; cases s <;> simp⟩
theorem Rk_le (N K : Nat) : Rk N K ≤ 0x7ff0000000000000 := by unfold Rk; exact Nat.min_le_right _ _
theorem word_pos (a : Nat) : double.word true a = 9223372036854775808 + a := by
  have hs := signWeight_double
  unfold Format.word; rw [hs]; rfl
theorem word_apart {a b : Nat} (hb : b ≤ 0x7ff0000000000000) : 9223372036854775808 + a ≠ b := fun h => by
  rw [← h] at hb
  exact absurd (Nat.le_trans (Nat.le_add_right _ _) hb) (by decide)
theorem word_inj {s t : Bool} {a b : Nat} (ha : a ≤ 0x7ff0000000000000) (hb : b ≤ 0x7ff0000000000000) (h : double.word s a = double.word t b) : a = b ∧ s = t := by
  cases s <;> cases t
  · rw [word_false, word_false] at h; exact ⟨h, rfl⟩
  · rw [word_false, word_pos] at h; exact absurd h.symm (word_apart ha)
  · rw [word_false, word_pos] at h; exact absurd h (word_apart hb)
  · rw [word_pos, word_pos] at h; exact ⟨Nat.add_left_cancel h, rfl⟩
/-- What a finite sum or product is: rounded. -/
theorem fv_rounded (s : Bool) (T : Int) (K : Nat) (hs : T ≠ 0 → s = decide (T < 0)) (h : Rk T.natAbs K < 0x7ff0000000000000) : FV (double.word s (Rk T.natAbs K)) (RI T K) := by
  refine ⟨s, _, rfl, h, ?_⟩
  unfold RI sg
  by_cases h0 : T = 0
  · subst h0
    have : Rk (0 : Int).natAbs K = 0 := Rk_zero K
    rw [this, val_zero]
    cases s <;> simp
  · rw [hs h0]
    by_cases h1 : T < 0
    · rw [if_pos h1, decide_eq_true h1, if_pos rfl]
    · rw [if_neg h1, decide_eq_false h1, if_neg (by decide)]
theorem fin_rounded {s : Bool} {N K : Nat} (h : Fin1 (double.word s (Rk N K))) : Rk N K < 0x7ff0000000000000 := by
  obtain ⟨t, z, h1, h2⟩ := h
  have := (word_inj (Rk_le N K) (Nat.le_of_lt h2) h1).1
  rw [this]; exact h2
theorem sum_sign {S : Int} {b : Bool} (h : S ≠ 0) : (if S = 0 then b else decide (S < 0)) = decide (S < 0) := by rw [if_neg h]
theorem FV.add {u v : Nat} {S T : Int} (hu : FV u S) (hv : FV v T) (h : Rk (S + T).natAbs 0 < 0x7ff0000000000000) : FV (add u v) (RI (S + T) 0) := by
  obtain ⟨s, a, rfl, ha, rfl⟩ := hu
  obtain ⟨t, b, rfl, hb, rfl⟩ := hv
  rw [add_words s t a b ha hb]
  exact fv_rounded _ _ 0 (fun h0 => sum_sign h0) h
theorem FV.add_fin {u v : Nat} {S T : Int} (hu : FV u S) (hv : FV v T) (h : Fin1 (Fl.add u v)) : Rk (S + T).natAbs 0 < 0x7ff0000000000000 := by
  obtain ⟨s, a, rfl, ha, rfl⟩ := hu
  obtain ⟨t, b, rfl, hb, rfl⟩ := hv
  rw [add_words s t a b ha hb] at h
  exact fin_rounded h
theorem sg_flip (t : Bool) (b : Nat) : sg (!t) b = -sg t b := by unfold sg; cases t <;> simp
theorem FV.sub {u v : Nat} {S T : Int} (hu : FV u S) (hv : FV v T) (h : Rk (S - T).natAbs 0 < 0x7ff0000000000000) : FV (sub u v) (RI (S - T) 0) := by
  obtain ⟨s, a, rfl, ha, rfl⟩ := hu
  obtain ⟨t, b, rfl, hb, rfl⟩ := hv
  rw [sub_words s t a b ha hb, sg_flip, ← Int.sub_eq_add_neg]
  exact fv_rounded _ _ 0 (fun h0 => sum_sign h0) h
theorem FV.sub_fin {u v : Nat} {S T : Int} (hu : FV u S) (hv : FV v T) (h : Fin1 (Fl.sub u v)) : Rk (S - T).natAbs 0 < 0x7ff0000000000000 := by
  obtain ⟨s, a, rfl, ha, rfl⟩ := hu
  obtain ⟨t, b, rfl, hb, rfl⟩ := hv
  rw [sub_words s t a b ha hb, sg_flip, ← Int.sub_eq_add_neg] at h
  exact fin_rounded h
theorem sg_mul_abs (s t : Bool) (a b : Nat) : (sg s a * sg t b).natAbs = a * b := by
  rw [Int.natAbs_mul]; unfold sg; cases s <;> cases t <;> simp
theorem sg_mul_sign (s t : Bool) (a b : Nat) (h : sg s a * sg t b ≠ 0) : (s ^^ t) = decide (sg s a * sg t b < 0) := by
  have ha : a ≠ 0 := by intro e; subst e; apply h; unfold sg; cases s <;> simp
  have hb : b ≠ 0 := by intro e; subst e; apply h; unfold sg; cases t <;> simp
  have hp : (0 : Int) < (a : Int) * (b : Int) := Int.mul_pos (by omega) (by omega)
  unfold sg
  cases s <;> cases t
  · simp only [Bool.false_eq_true, if_false, Bool.xor_self]; rw [decide_eq_false (by omega)]
  · simp only [Bool.false_eq_true, if_false, if_true, Bool.false_xor]; rw [Int.mul_neg, decide_eq_true (by omega)]
  · simp only [Bool.false_eq_true, if_false, if_true, Bool.xor_false]; rw [Int.neg_mul, decide_eq_true (by omega)]
  · simp only [if_true, Bool.xor_self]; rw [Int.neg_mul_neg, decide_eq_false (by omega)]
theorem FV.mul {u v : Nat} {S T : Int} (hu : FV u S) (hv : FV v T) (h : Rk (S * T).natAbs 1074 < 0x7ff0000000000000) : FV (mul u v) (RI (S * T) 1074) := by
  obtain ⟨s, a, rfl, ha, rfl⟩ := hu
  obtain ⟨t, b, rfl, hb, rfl⟩ := hv
  rw [mul_words s t a b ha hb, ← sg_mul_abs s t]
  exact fv_rounded _ _ 1074 (fun h0 => sg_mul_sign _ _ _ _ h0) h
theorem FV.mul_fin {u v : Nat} {S T : Int} (hu : FV u S) (hv : FV v T) (h : Fin1 (Fl.mul u v)) : Rk (S * T).natAbs 1074 < 0x7ff0000000000000 := by
  obtain ⟨s, a, rfl, ha, rfl⟩ := hu
  obtain ⟨t, b, rfl, hb, rfl⟩ := hv
  rw [mul_words s t a b ha hb, ← sg_mul_abs s t] at h
  exact fin_rounded h
theorem FV.eq {u v : Nat} {S : Int} (hu : FV u S) (hv : FV v S) : (ord u v == some .eq) = true := by
  obtain ⟨s, a, rfl, ha, rfl⟩ := hu
  obtain ⟨t, b, rfl, hb, h⟩ := hv
  rw [ord_words s t a b ha hb, h, Int.compare_eq_eq.2 rfl]
  rfl
theorem FV.uniq {u : Nat} {S T : Int} (hu : FV u S) (hv : FV u T) : S = T := by
  obtain ⟨s, a, rfl, ha, rfl⟩ := hu
  obtain ⟨t, b, h1, hb, rfl⟩ := hv
  obtain ⟨rfl, rfl⟩ := word_inj (Nat.le_of_lt ha) (Nat.le_of_lt hb) h1
  rfl
theorem FV.zero_iff {u : Nat} {S : Int} (hu : FV u S) : (ord u 0 == some .eq) = true ↔ S = 0 := by
  obtain ⟨s, a, rfl, ha, rfl⟩ := hu
  have e := ord_words s false a 0 ha (by decide)
  rw [word_false, val_zero] at e
  rw [e]
  constructor
  · intro h
    have h1 : compare (sg s (val a)) (sg false 0) = .eq := by
      cases hc : compare (sg s (val a)) (sg false 0) <;> rw [hc] at h <;> first | rfl | (cases h)
    have := Int.compare_eq_eq.1 h1
    rw [this]; rfl
  · intro h
    rw [h]; rfl

/-! ### Calm numbers -/
def CI (S : Int) : Prop := S = 0 ∨ (P2 174 ≤ S.natAbs ∧ S.natAbs ≤ P2 1974)
theorem CI.neg {S : Int} (h : CI S) : CI (-S) := by unfold CI at *; omega
theorem P2_le {a e : Nat} (h : a ≤ e) : P2 a ≤ 2 ^ e := by rw [P2_def]; exact Nat.pow_le_pow_right (by decide) h
theorem e_low {q e : Nat} (hq : q ≤ 2 ^ 53) (h : P2 174 ≤ q * 2 ^ e) : 121 ≤ e := by
  apply Nat.le_of_not_lt; intro he
  have h1 : q * 2 ^ e ≤ 2 ^ 53 * P2 120 := Nat.mul_le_mul hq (by rw [P2_def]; exact Nat.pow_le_pow_right (by decide) (by omega))
  have h2 : (2 : Nat) ^ 53 * P2 120 = P2 173 := by rw [← P2_def, P2_mul]
  have h3 : P2 174 = P2 173 * 2 := by rw [← P2_mul 173 1, P2_def 1]
  have h4 := P2_pos 173
  rw [h2] at h1
  rw [h3] at h
  generalize P2 173 = p at *
  generalize q * 2 ^ e = r at *
  omega
theorem e_high {q e : Nat} (hq : 2 ^ 52 ≤ q) (h : q * 2 ^ e ≤ P2 1974) : e ≤ 1922 := by
  apply Nat.le_of_not_lt; intro he
  have h1 : 2 ^ 52 * P2 1923 ≤ q * 2 ^ e := Nat.mul_le_mul hq (P2_le (by omega))
  have h2 : (2 : Nat) ^ 52 * P2 1923 = P2 1975 := by rw [← P2_def, P2_mul]
  have h3 : P2 1975 = P2 1974 * 2 := by rw [← P2_mul 1974 1, P2_def 1]
  have h4 := P2_pos 1974
  rw [h2, h3] at h1
  generalize P2 1974 = p at *
  generalize q * 2 ^ e = r at *
  omega
theorem rung_lt {e q : Nat} (he : e ≤ 1986) (hq : q ≤ 9007199254740992) : e * 4503599627370496 + q < 0x7ff0000000000000 := by
  have h1 := Nat.mul_le_mul_right 4503599627370496 he
  exact Nat.lt_of_le_of_lt (Nat.add_le_add h1 hq) (by decide)
/-- Rounding a number and the same times a power of two. -/
theorem RI_scale {T T' : Int} {K a b : Nat} (ha : a ≤ 64) (hb : b ≤ 64) (hT : T' * ((2 ^ a : Nat) : Int) = T * ((2 ^ b : Nat) : Int)) (hfin : Rk T.natAbs K < 0x7ff0000000000000) (hc : CI (RI T K)) (hz : T = 0 ∨ RI T K ≠ 0) :
    Rk T'.natAbs K < 0x7ff0000000000000 ∧ RI T' K * ((2 ^ a : Nat) : Int) = RI T K * ((2 ^ b : Nat) : Int) := by
  have pa := Nat.two_pow_pos a
  have pb := Nat.two_pow_pos b
  by_cases h0 : T = 0
  · subst h0
    have h1 : T' = 0 := by
      rw [Int.zero_mul] at hT
      rcases Int.mul_eq_zero.1 hT with h | h
      · exact h
      · omega
    subst h1
    rw [RI_zero, Int.zero_mul, Int.zero_mul]
    refine ⟨?_, rfl⟩
    have : Rk (0 : Int).natAbs K = 0 := Rk_zero K
    rw [this]; decide
  · have hR : RI T K ≠ 0 := by rcases hz with h | h; exact absurd h h0; exact h
    have hcc : P2 174 ≤ (RI T K).natAbs ∧ (RI T K).natAbs ≤ P2 1974 := by
      rcases hc with h | h
      · exact absurd h hR
      · exact h
    rw [RI_natAbs] at hcc
    have hTT : T'.natAbs * 2 ^ a = T.natAbs * 2 ^ b := by
      have := congrArg Int.natAbs hT
      rw [Int.natAbs_mul, Int.natAbs_mul] at this
      exact this
    have hT0 : T.natAbs ≠ 0 := by omega
    have hT'0 : T'.natAbs ≠ 0 := by
      intro h; rw [h, Nat.zero_mul] at hTT
      rcases Nat.mul_eq_zero.1 hTT.symm with h | h
      · exact hT0 h
      · omega
    have hsgn : (T' < 0) ↔ (T < 0) := by
      constructor
      · intro h
        apply Int.lt_of_not_ge; intro h2
        have h3 := Int.mul_nonneg h2 (show (0 : Int) ≤ ((2 ^ b : Nat) : Int) by omega)
        have h4 := Int.mul_neg_of_neg_of_pos h (show (0 : Int) < ((2 ^ a : Nat) : Int) by omega)
        omega
      · intro h
        apply Int.lt_of_not_ge; intro h2
        have h3 := Int.mul_nonneg h2 (show (0 : Int) ≤ ((2 ^ a : Nat) : Int) by omega)
        have h4 := Int.mul_neg_of_neg_of_pos h (show (0 : Int) < ((2 ^ b : Nat) : Int) by omega)
        omega
    obtain ⟨e, q, he, hq, q1, q2, hRk, hv⟩ := Rk_digits T.natAbs K hfin
    have hlog : T'.natAbs.log2 + a = T.natAbs.log2 + b := by rw [← log2_shift hT'0, ← log2_shift hT0, hTT]
    have c53 : (2 : Nat) ^ 53 = 9007199254740992 := by decide
    have c52 : (2 : Nat) ^ 52 = 4503599627370496 := by decide
    rw [hv] at hcc
    have he1 : 121 ≤ e := e_low (by omega) hcc.1
    have he2 : e ≤ 1922 := e_high (by rcases q2 with h | h; omega; omega) hcc.2
    obtain ⟨e', he'⟩ : ∃ e', T'.natAbs.log2 - (52 + K) = e' := ⟨_, rfl⟩
    have hee : e' + a = e + b := by omega
    have hq' : rne T'.natAbs (e' + K) = q := by
      rw [hq, ← rne_scale T'.natAbs (e' + K) a, hTT, ← rne_scale T.natAbs (e + K) b]
      congr 1; omega
    have hlt : e' * 4503599627370496 + q < 0x7ff0000000000000 := rung_lt (by omega) q1
    have hRk' : Rk T'.natAbs K = e' * 4503599627370496 + q := by
      unfold Rk
      rw [c52, he', hq']
      exact Nat.min_eq_left (Nat.le_of_lt hlt)
    have hv' : val (Rk T'.natAbs K) = q * 2 ^ e' := by
      rw [hRk']
      exact val_q e' q q1 (by rcases q2 with h | h; omega; exact .inr h)
    refine ⟨by rw [hRk']; exact hlt, ?_⟩
    have key : q * 2 ^ e' * 2 ^ a = q * 2 ^ e * 2 ^ b := by
      rw [Nat.mul_assoc, ← Nat.pow_add, hee, Nat.pow_add, ← Nat.mul_assoc]
    unfold RI
    rw [hv, hv']
    have key2 : ((q * 2 ^ e' : Nat) : Int) * ((2 ^ a : Nat) : Int) = ((q * 2 ^ e : Nat) : Int) * ((2 ^ b : Nat) : Int) := by
      rw [← Int.natCast_mul, ← Int.natCast_mul, key]
    by_cases h : T < 0
    · rw [if_pos h, if_pos (hsgn.2 h), Int.neg_mul, Int.neg_mul, key2]
    · rw [if_neg h, if_neg (fun h2 => h (hsgn.1 h2)), key2]
theorem RI_ne (T : Int) (h : T ≠ 0) (hf : Rk T.natAbs 0 < 0x7ff0000000000000) : RI T 0 ≠ 0 := by
  intro h0
  have h1 := RI_natAbs T 0
  rw [h0] at h1
  have h2 := val_eq_zero h1.symm
  have h3 : Rk 1 0 ≤ Rk T.natAbs 0 := Rk_mono (by omega) 0
  have h4 : Rk 1 0 = 1 := by decide
  omega
end Go.Calm
