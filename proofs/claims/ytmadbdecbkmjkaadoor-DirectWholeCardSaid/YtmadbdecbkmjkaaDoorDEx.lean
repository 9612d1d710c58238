/-
  Plain law for DirectWhole: floats that are whole numbers; sums, products and quotients of such that are exact.
-/
import Derived.Test.YtmadbdecbkmjkaaDoorRBound
import Derived.Test.YtmadbdecbkmjkaaDoorDInv
namespace Go.Proofs.YtmadbdecbkmjkaaDoor
open Go Go.RowKit Go.Fl Go.Roots Ieee

/-- A float that is the whole number v. -/
def IV (x : Nat) (v : Int) : Prop := ∃ s z, x = double.word s z ∧ z < 0x7ff0000000000000 ∧ sg s (val z) = v * (P2 1074 : Int)
theorem pz : 0 < P2 1074 := P2_pos 1074
theorem rk_whole (m : Nat) (h : m < 2 ^ 53) : val (Rk (m * P2 1074) 0) = m * P2 1074 ∧ Rk (m * P2 1074) 0 < 0x7ff0000000000000 := by
  rw [P2_def]; exact val_Rk m 1074 h (by omega)
theorem iv_word (s : Bool) (v : Int) (h : v.natAbs < 2 ^ 53) (hs : s = true → v ≤ 0) (hs' : s = false → 0 ≤ v) : IV (double.word s (Rk (v.natAbs * P2 1074) 0)) v := by
  obtain ⟨h1, h2⟩ := rk_whole v.natAbs h
  refine ⟨s, _, rfl, h2, ?_⟩
  rw [h1]
  unfold sg
  cases s
  · have := hs' rfl
    rw [if_neg (by decide), Int.natCast_mul, Int.natAbs_of_nonneg this]
  · have := hs rfl
    rw [if_pos rfl, Int.natCast_mul, Int.ofNat_natAbs_of_nonpos this, Int.neg_mul, Int.neg_neg]
theorem iv_zero (s : Bool) : IV (double.word s 0) 0 := ⟨s, 0, rfl, by decide, by rw [val_zero]; unfold sg; cases s <;> simp⟩
theorem iv_ofInt (v : Int) (h : v.natAbs < 2 ^ 53) : IV (ofInt v) v := by
  have e : ofInt v = double.word (decide (v < 0)) (Rk (v.natAbs * P2 1074) 0) := by
    show double.nearest (decide (v < 0)) v.natAbs 0 = _
    rw [nearest_Rk _ _ _ 1074 0 (by omega), P2_def]
  rw [e]
  refine iv_word _ v h (fun e => ?_) (fun e => ?_)
  · have := of_decide_eq_true e; omega
  · have := of_decide_eq_false e; omega
theorem sg_lt {s : Bool} {a : Nat} {v : Int} (h : sg s a = v * (P2 1074 : Int)) : a = v.natAbs * P2 1074 ∧ (s = true → v ≤ 0) ∧ (s = false → 0 ≤ v) := by
  have hp : (0 : Int) < (P2 1074 : Int) := by have := pz; omega
  have hn : a = v.natAbs * P2 1074 := by
    have e : (sg s a).natAbs = a := by unfold sg; cases s <;> simp
    rw [← e, h, Int.natAbs_mul]; rfl
  refine ⟨hn, fun e => ?_, fun e => ?_⟩
  · subst e
    unfold sg at h
    rw [if_pos rfl] at h
    rcases (show (0 : Int) < v ∨ v ≤ 0 by omega) with c | c
    · have := Int.mul_pos c hp; omega
    · exact c
  · subst e
    unfold sg at h
    rw [if_neg (by decide)] at h
    rcases (show v < 0 ∨ 0 ≤ v by omega) with c | c
    · have := Int.mul_neg_of_neg_of_pos c hp; omega
    · exact c
theorem iv_total (s t : Bool) (a b : Nat) (p q : Int) (h1 : sg s a = p * (P2 1074 : Int)) (h2 : sg t b = q * (P2 1074 : Int)) (h : (p + q).natAbs < 2 ^ 53) :
    IV (double.word (if sg s a + sg t b = 0 then s && t else decide (sg s a + sg t b < 0)) (Rk (sg s a + sg t b).natAbs 0)) (p + q) := by
  have hp : (0 : Int) < (P2 1074 : Int) := by have := pz; omega
  have e : sg s a + sg t b = (p + q) * (P2 1074 : Int) := by rw [h1, h2, Int.add_mul]
  rw [e]
  have hn : ((p + q) * (P2 1074 : Int)).natAbs = (p + q).natAbs * P2 1074 := by rw [Int.natAbs_mul]; rfl
  rw [hn]
  by_cases hz : p + q = 0
  · rw [hz, if_pos (by rw [Int.zero_mul])]
    rw [show (0 : Int).natAbs * P2 1074 = 0 by rw [Int.natAbs_zero, Nat.zero_mul], Rk_zero]
    exact iv_zero _
  · have hne : ¬ (p + q) * (P2 1074 : Int) = 0 := fun e => by
      rcases Int.mul_eq_zero.1 e with e | e
      · exact hz e
      · omega
    rw [if_neg hne]
    refine iv_word _ _ h (fun e => ?_) (fun e => ?_)
    · have e := of_decide_eq_true e
      rcases (show (0 : Int) < p + q ∨ p + q ≤ 0 by omega) with c | c
      · have := Int.mul_pos c hp; omega
      · exact c
    · have e := of_decide_eq_false e
      rcases (show p + q < 0 ∨ 0 ≤ p + q by omega) with c | c
      · have := Int.mul_neg_of_neg_of_pos c hp; omega
      · exact c
theorem iv_add {x y : Nat} {p q : Int} (hx : IV x p) (hy : IV y q) (h : (p + q).natAbs < 2 ^ 53) : IV (add x y) (p + q) := by
  obtain ⟨s, a, rfl, ha, h1⟩ := hx
  obtain ⟨t, b, rfl, hb, h2⟩ := hy
  rw [add_words s t a b ha hb]
  exact iv_total s t _ _ p q h1 h2 h
theorem sg_not (t : Bool) (b : Nat) : sg (!t) b = -sg t b := by unfold sg; cases t <;> simp
theorem iv_sub {x y : Nat} {p q : Int} (hx : IV x p) (hy : IV y q) (h : (p - q).natAbs < 2 ^ 53) : IV (sub x y) (p - q) := by
  obtain ⟨s, a, rfl, ha, h1⟩ := hx
  obtain ⟨t, b, rfl, hb, h2⟩ := hy
  rw [sub_words s t a b ha hb]
  have h3 : sg (!t) (val b) = (-q) * (P2 1074 : Int) := by rw [sg_not, h2, Int.neg_mul]
  have := iv_total s (!t) _ _ p (-q) h1 h3 (by rw [← Int.sub_eq_add_neg]; exact h)
  rw [← Int.sub_eq_add_neg] at this
  exact this
theorem iv_neg {x : Nat} {p : Int} (hx : IV x p) : IV (neg x) (-p) := by
  obtain ⟨s, a, rfl, ha, h1⟩ := hx
  refine ⟨!s, a, neg_word s a ha, ha, ?_⟩
  rw [sg_not, h1, Int.neg_mul]
theorem iv_mul {x y : Nat} {p q : Int} (hx : IV x p) (hy : IV y q) (h : (p * q).natAbs < 2 ^ 53) : IV (mul x y) (p * q) := by
  obtain ⟨s, a, rfl, ha, h1⟩ := hx
  obtain ⟨t, b, rfl, hb, h2⟩ := hy
  obtain ⟨v1, s1, s2⟩ := sg_lt h1
  obtain ⟨v2, t1, t2⟩ := sg_lt h2
  rw [mul_words s t a b ha hb, v1, v2]
  have e : p.natAbs * P2 1074 * (q.natAbs * P2 1074) = (p * q).natAbs * P2 1074 * P2 1074 := by rw [Int.natAbs_mul]; ac_rfl
  rw [e, Rk_scaleP0]
  refine iv_word _ _ h (fun e => ?_) (fun e => ?_)
  · cases s <;> cases t <;> simp at e
    · exact Int.mul_nonpos_of_nonneg_of_nonpos (s2 rfl) (t1 rfl)
    · exact Int.mul_nonpos_of_nonpos_of_nonneg (s1 rfl) (t2 rfl)
  · cases s <;> cases t <;> simp at e
    · exact Int.mul_nonneg (s2 rfl) (t2 rfl)
    · exact Int.mul_nonneg_of_nonpos_of_nonpos (s1 rfl) (t1 rfl)
theorem iv_eq {x y : Nat} {p : Int} (hx : IV x p) (hy : IV y p) : (ord x y == some .eq) = true := by
  obtain ⟨s, a, rfl, ha, h1⟩ := hx
  obtain ⟨t, b, rfl, hb, h2⟩ := hy
  rw [ord_words s t a b ha hb, h1, h2, Int.compare_eq_eq.2 rfl]
  rfl
/-- A quotient by 1, 2 or 4 of such a number. -/
theorem iv_div {x : Nat} {p : Int} (e : Nat) (he : e < 3) (hx : IV x (p * 2 ^ e)) (h : p.natAbs < 2 ^ 53) : IV (div x (ofInt ((2 ^ e : Nat) : Int))) p := by
  obtain ⟨s, a, rfl, ha, h1⟩ := hx
  obtain ⟨v1, s1, s2⟩ := sg_lt h1
  have hb : ofInt ((2 ^ e : Nat) : Int) < 0x7ff0000000000000 ∧ rmag (ofInt ((2 ^ e : Nat) : Int)) = 2 ^ 52 ∧ rexp (ofInt ((2 ^ e : Nat) : Int)) = 1022 + e := by
    rcases (show e = 0 ∨ e = 1 ∨ e = 2 by omega) with rfl | rfl | rfl <;> decide +kernel
  obtain ⟨hb1, hb2, hb3⟩ := hb
  generalize ofInt ((2 ^ e : Nat) : Int) = b at *
  have hq : div (double.word s a) b = double.word s (Rk (val a) e) := by
    unfold div Format.div
    rw [read_word s a ha, read_pos b hb1, hb2, hb3]
    unfold Datum.quotient
    have hfb : double.fractionBits = 52 := by decide +kernel
    simp only [hfb]
    rw [if_neg (by decide)]
    have hl : (2 ^ 52 : Nat).log2 = 52 := by decide +kernel
    have hm : (rmag a).log2 ≤ 52 := by
      by_cases h0 : rmag a = 0
      · rw [h0]; decide
      · refine Nat.le_of_lt_succ ((Nat.log2_lt h0).2 ?_)
        unfold rmag
        split
        · omega
        · have := Nat.mod_lt a (show 0 < 2 ^ 52 by decide); omega
    rw [hl]
    obtain ⟨k, hk⟩ : ∃ k, 52 + 2 + 52 - (rmag a).log2 = 52 + k := ⟨54 - (rmag a).log2, by omega⟩
    have hk2 : 2 ≤ k := by omega
    rw [hk]
    have hd : rmag a <<< (52 + k) = rmag a * 2 ^ k * 2 ^ 52 := by rw [Nat.shiftLeft_eq, Nat.pow_add]; ac_rfl
    rw [hd, Nat.mul_div_cancel _ (Nat.two_pow_pos 52), Nat.mul_mod_left]
    show double.write (.number (s ^^ false) (2 * (rmag a * 2 ^ k) + (0 != 0).toNat) _) = _
    show double.nearest (s ^^ false) (2 * (rmag a * 2 ^ k) + 0) _ = _
    have e2 : (2 * (rmag a * 2 ^ k) + 0) * 2 ^ rexp a = val a * 2 ^ (k + 1) := by
      unfold val
      rw [Nat.add_zero, Nat.pow_succ]
      ac_rfl
    rw [Bool.xor_false, nearest_Rk s _ _ (rexp a) (e + (k + 1)) (by omega), e2, Rk_scale]
  rw [hq, v1]
  have e3 : (p * 2 ^ e).natAbs * P2 1074 = p.natAbs * P2 1074 * 2 ^ e := by
    rw [Int.natAbs_mul, Int.natAbs_pow]
    show p.natAbs * 2 ^ e * P2 1074 = _
    ac_rfl
  have e4 : Rk (p.natAbs * P2 1074 * 2 ^ e) (0 + e) = Rk (p.natAbs * P2 1074) 0 := Rk_scale _ 0 e
  rw [Nat.zero_add] at e4
  rw [e3, e4]
  have h2 : (0 : Int) < 2 ^ e := Int.pow_pos (by omega)
  refine iv_word _ _ h (fun c => ?_) (fun c => ?_)
  · have := s1 c
    rcases (show (0 : Int) < p ∨ p ≤ 0 by omega) with d | d
    · have := Int.mul_pos d h2; omega
    · exact d
  · have := s2 c
    rcases (show p < 0 ∨ 0 ≤ p by omega) with d | d
    · have := Int.mul_neg_of_neg_of_pos d h2; omega
    · exact d
/-- A complex number of whole parts. -/
def IC (z : Nat × Nat) (a b : Int) : Prop := IV z.1 a ∧ IV z.2 b
theorem ic_add {x y : Nat × Nat} {a b c d : Int} (hx : IC x a b) (hy : IC y c d) (h1 : (a + c).natAbs < 2 ^ 53) (h2 : (b + d).natAbs < 2 ^ 53) : IC (cadd x y) (a + c) (b + d) :=
  ⟨iv_add hx.1 hy.1 h1, iv_add hx.2 hy.2 h2⟩
theorem ic_mul {x y : Nat × Nat} {a b c d : Int} (hx : IC x a b) (hy : IC y c d) (h1 : (a * c).natAbs < 2 ^ 53) (h2 : (b * d).natAbs < 2 ^ 53) (h3 : (a * d).natAbs < 2 ^ 53) (h4 : (b * c).natAbs < 2 ^ 53)
    (h5 : (a * c - b * d).natAbs < 2 ^ 53) (h6 : (a * d + b * c).natAbs < 2 ^ 53) : IC (cmul x y) (a * c - b * d) (a * d + b * c) :=
  ⟨iv_sub (iv_mul hx.1 hy.1 h1) (iv_mul hx.2 hy.2 h2) h5, iv_add (iv_mul hx.1 hy.2 h3) (iv_mul hx.2 hy.1 h4) h6⟩
/-- Quarter turns backwards of a whole complex number. -/
def qre (q : Nat) (a b : Int) : Int := if q % 4 = 0 then a else if q % 4 = 1 then b else if q % 4 = 2 then -a else -b
def qim (q : Nat) (a b : Int) : Int := if q % 4 = 0 then b else if q % 4 = 1 then -a else if q % 4 = 2 then -b else a
theorem iv_one : IV 4607182418800017408 1 := by
  have := iv_ofInt 1 (by decide)
  rwa [show ofInt 1 = 4607182418800017408 by decide +kernel] at this
theorem iv_mone : IV 13830554455654793216 (-1) := by
  have := iv_ofInt (-1) (by decide)
  rwa [show ofInt (-1) = 13830554455654793216 by decide +kernel] at this
theorem iv_nil : IV 0 0 := by have := iv_zero false; rwa [word_false] at this
theorem root_quarter (e q : Nat) (he : e < 3) (hq : q < 2 ^ e) : ∃ c d : Int, IC (root ((2 ^ e : Nat) : Int) q) c d ∧ (2 ^ (2 - e) * q % 4 = 0 → c = 1 ∧ d = 0) ∧ (2 ^ (2 - e) * q % 4 = 1 → c = 0 ∧ d = -1) ∧ (2 ^ (2 - e) * q % 4 = 2 → c = -1 ∧ d = 0) ∧ (2 ^ (2 - e) * q % 4 = 3 → c = 0 ∧ d = 1) := by
  have k10 : root 1 0 = (4607182418800017408, 0) := by decide +kernel
  have k20 : root 2 0 = (4607182418800017408, 0) := by decide +kernel
  have k21 : root 2 1 = (13830554455654793216, 0) := by decide +kernel
  have k40 : root 4 0 = (4607182418800017408, 0) := by decide +kernel
  have k41 : root 4 1 = (0, 13830554455654793216) := by decide +kernel
  have k42 : root 4 2 = (13830554455654793216, 0) := by decide +kernel
  have k43 : root 4 3 = (0, 4607182418800017408) := by decide +kernel
  rcases (show e = 0 ∨ e = 1 ∨ e = 2 by omega) with rfl | rfl | rfl
  · obtain rfl : q = 0 := by omega
    exact ⟨1, 0, by show IC (root 1 0) 1 0; rw [k10]; exact ⟨iv_one, iv_nil⟩, by decide, by decide, by decide, by decide⟩
  · rcases (show q = 0 ∨ q = 1 by omega) with rfl | rfl
    · exact ⟨1, 0, by show IC (root 2 0) 1 0; rw [k20]; exact ⟨iv_one, iv_nil⟩, by decide, by decide, by decide, by decide⟩
    · exact ⟨-1, 0, by show IC (root 2 1) (-1) 0; rw [k21]; exact ⟨iv_mone, iv_nil⟩, by decide, by decide, by decide, by decide⟩
  · rcases (show q = 0 ∨ q = 1 ∨ q = 2 ∨ q = 3 by omega) with rfl | rfl | rfl | rfl
    · exact ⟨1, 0, by show IC (root 4 0) 1 0; rw [k40]; exact ⟨iv_one, iv_nil⟩, by decide, by decide, by decide, by decide⟩
    · exact ⟨0, -1, by show IC (root 4 1) 0 (-1); rw [k41]; exact ⟨iv_nil, iv_mone⟩, by decide, by decide, by decide, by decide⟩
    · exact ⟨-1, 0, by show IC (root 4 2) (-1) 0; rw [k42]; exact ⟨iv_mone, iv_nil⟩, by decide, by decide, by decide, by decide⟩
    · exact ⟨0, 1, by show IC (root 4 3) 0 1; rw [k43]; exact ⟨iv_nil, iv_one⟩, by decide, by decide, by decide, by decide⟩
end Go.Proofs.YtmadbdecbkmjkaaDoor
