/-
  The roots lie near the circle: the two parts of a root; sums of signed floats; what RootsCircle reckons.
-/
import Derived.Test.YtijbkcjbkioefaaDoorRCirc
namespace Go.Roots
open Go.Fl Ieee Go.Circ

theorem octant_circle (r n : Int) (h0 : 0 ≤ r) (h1 : r < n) (hn : n ≤ 4194304) : Nr (RR (octant r n).1 * RR (octant r n).1 + RR (octant r n).2 * RR (octant r n).2) 1 (111 * hh) := by
  obtain ⟨R, rfl⟩ := Int.eq_ofNat_of_zero_le h0
  obtain ⟨N, rfl⟩ := Int.eq_ofNat_of_zero_le (show 0 ≤ n by omega)
  unfold octant
  split
  · have := eighth_circle R (4 * N) (by omega) (by omega)
    simpa using this
  · have := eighth_circle (N - R) (4 * N) (by omega) (by omega)
    rw [show ((N : Int) - (R : Int)) = ((N - R : Nat) : Int) by omega]
    have e : ((4 * N : Nat) : Int) = 4 * (N : Int) := by omega
    rw [e] at this
    rw [Rat.add_comm]
    exact this
/-- The size of a float. -/
def Sz (x z : Nat) : Prop := ∃ s, x = double.word s z
theorem Sz.neg {x z : Nat} (h : Sz x z) (hz : z ≤ ONE) : Sz (neg x) z := by
  obtain ⟨s, rfl⟩ := h
  exact ⟨!s, neg_word s z (Nat.lt_of_le_of_lt hz (by decide))⟩
theorem Sz.plus {x z : Nat} (h : Sz x z) (hz : z ≤ ONE) : Sz (plus x) z := by
  unfold Roots.plus
  split
  · rename_i h0
    obtain ⟨s, rfl⟩ := h
    have hlt : z < 0x7ff0000000000000 := Nat.lt_of_le_of_lt hz (by decide)
    have e := ord_words s false z 0 hlt (by decide)
    rw [word_false, val_zero] at e
    rw [e] at h0
    have h1 : compare (sg s (val z)) (sg false 0) = .eq := by
      cases hc : compare (sg s (val z)) (sg false 0) <;> rw [hc] at h0 <;> first | rfl | (cases h0)
    have h2 := Int.compare_eq_eq.1 h1
    have h3 : val z = 0 := by
      unfold sg at h2
      cases s <;> simp at h2 <;> omega
    have h4 := Rk_val0 z hlt
    rw [h3, Rk_zero] at h4
    subst h4
    exact ⟨false, (word_false 0).symm⟩
  · exact h
theorem sz_rot (a b : Nat) (ha : a ≤ ONE) (hb : b ≤ ONE) : ∀ (q : Nat) (p : Nat × Nat), Sz p.1 a → Sz p.2 b → (Sz (rot q p).1 a ∧ Sz (rot q p).2 b) ∨ (Sz (rot q p).1 b ∧ Sz (rot q p).2 a)
  | 0, _, h1, h2 => .inl ⟨h1, h2⟩
  | q + 1, p, h1, h2 => by
    rcases sz_rot a b ha hb q p h1 h2 with ⟨i1, i2⟩ | ⟨i1, i2⟩
    · exact .inr ⟨i2.neg hb, i1⟩
    · exact .inl ⟨i2.neg ha, i1⟩
theorem root_circle (n k : Int) (h1 : 1 ≤ n) (h2 : n ≤ 4194304) : ∃ a b, a ≤ ONE ∧ b ≤ ONE ∧ Sz (root n k).1 a ∧ Sz (root n k).2 b ∧ Nr (RR a * RR a + RR b * RR b) 1 (111 * hh) := by
  have r0 := Int.emod_nonneg (4 * (k % n)) (show n ≠ 0 by omega)
  have r1 := Int.emod_lt_of_pos (4 * (k % n)) (show 0 < n by omega)
  have hle := octant_le (4 * (k % n) % n) n r0 r1 h2
  have hc := octant_circle (4 * (k % n) % n) n r0 r1 h2
  have hs := sz_rot _ _ hle.1 hle.2 (4 * (k % n) / n).toNat (octant (4 * (k % n) % n) n) ⟨false, (word_false _).symm⟩ ⟨false, (word_false _).symm⟩
  rcases hs with ⟨s1, s2⟩ | ⟨s1, s2⟩
  · exact ⟨_, _, hle.1, hle.2, s1.plus hle.1, (((s2.plus hle.2).neg hle.2).plus hle.2), hc⟩
  · exact ⟨_, _, hle.2, hle.1, s1.plus hle.2, (((s2.plus hle.1).neg hle.1).plus hle.1), by rw [Rat.add_comm]; exact hc⟩

/-! ### Signed sums -/
/-- A finite float of that value. -/
def SV (x : Nat) (q : Rat) : Prop := ∃ s z, x = double.word s z ∧ z < 0x7ff0000000000000 ∧ q = (sg s (val z) : Rat) * (1 / (P2 1074 : Nat))
theorem sg_rat (s : Bool) (v : Nat) : ((sg s v : Int) : Rat) = if s then -(v : Rat) else (v : Rat) := by
  unfold sg; cases s
  · simp only [Bool.false_eq_true, if_false]; exact Rat.intCast_natCast v
  · simp only [if_true]; rw [Rat.intCast_neg, Rat.intCast_natCast]
theorem SV.of_pos {z : Nat} (h : z < 0x7ff0000000000000) : SV z (RR z) := ⟨false, z, (word_false z).symm, h, by rw [sg_rat]; rfl⟩
theorem SV.of_word (s : Bool) {z : Nat} (h : z < 0x7ff0000000000000) : SV (double.word s z) (if s then -RR z else RR z) := ⟨s, z, rfl, h, by
  rw [sg_rat]; unfold RR; cases s <;> simp [Rat.neg_mul]⟩
theorem SV.cn {x : Nat} {q : Rat} (h : SV x q) : cn x = x := by
  obtain ⟨s, z, rfl, hz, _⟩ := h
  exact cn_of_not _ (isN_word _ _ (by rw [infRung_double]; omega))
theorem SV.neg {x : Nat} {q : Rat} (h : SV x q) : SV (neg x) (-q) := by
  obtain ⟨s, z, rfl, hz, rfl⟩ := h
  refine ⟨!s, z, neg_word s z hz, hz, ?_⟩
  rw [sg_rat, sg_rat]
  cases s <;> simp [Rat.neg_mul]
theorem int_le {a b : Int} (h : a ≤ b) : (a : Rat) ≤ (b : Rat) := Rat.intCast_le_intCast.2 h
theorem p_pos' : 0 < (1 / (P2 1074 : Nat) : Rat) := by
  rcases Rat.le_iff_lt_or_eq.1 p_pos with h | h
  · exact h
  · have := P_inv
    rw [← h] at this
    simp at this
theorem le_of_scaled {a b : Int} (h : (a : Rat) * (1 / (P2 1074 : Nat)) ≤ (b : Rat) * (1 / (P2 1074 : Nat))) : a ≤ b := by
  have := Rat.le_of_mul_le_mul_right h p_pos'
  exact Rat.intCast_le_intCast.1 this
/-- A sum of integers, rounded. -/
theorem round_near (S : Int) (b : Bool) (hb : S ≠ 0 → b = decide (S < 0)) (h : S.natAbs ≤ P2 1074) :
    Rk S.natAbs 0 < 0x7ff0000000000000 ∧ Nr ((sg b (val (Rk S.natAbs 0)) : Rat) * (1 / (P2 1074 : Nat))) ((S : Rat) * (1 / (P2 1074 : Nat))) hh := by
  have e0 : P2 0 = 1 := by rw [P2_def]
  obtain ⟨h1, h2, h3⟩ := Rk_near S.natAbs 0 (by rw [Nat.add_zero]; exact h)
  rw [e0, Nat.mul_one, Nat.add_zero] at h2 h3
  refine ⟨Nat.lt_of_le_of_lt h1 (by decide), ?_⟩
  have key := near_of (D := 1) (N := S.natAbs) (v := val (Rk S.natAbs 0)) (by omega) (by omega) 1 (by decide) (by simp) rfl
  rw [sg_rat]
  by_cases hS : S = 0
  · subst hS
    have : Rk (0 : Int).natAbs 0 = 0 := Rk_zero 0
    rw [this, val_zero]
    have := hh_pos
    unfold Nr
    cases b <;> simp <;> grind
  · have hS2 := hb hS
    by_cases hn : S < 0
    · rw [hS2, decide_eq_true hn, if_pos rfl]
      have : ((S.natAbs : Nat) : Rat) = -(S : Rat) := by
        have h4 : ((S.natAbs : Nat) : Int) = -S := by omega
        have h5 : (((S.natAbs : Nat) : Int) : Rat) = ((-S : Int) : Rat) := by rw [h4]
        rw [Rat.intCast_natCast, Rat.intCast_neg] at h5
        exact h5
      rw [this] at key
      unfold Nr at *
      generalize (1 / (P2 1074 : Nat) : Rat) = p at *
      generalize ((val (Rk S.natAbs 0) : Nat) : Rat) = v at *
      generalize (S : Rat) = t at *
      grind
    · rw [hS2, decide_eq_false hn, if_neg (by simp)]
      have : ((S.natAbs : Nat) : Rat) = (S : Rat) := by
        have h4 : ((S.natAbs : Nat) : Int) = S := by omega
        have h5 : (((S.natAbs : Nat) : Int) : Rat) = ((S : Int) : Rat) := by rw [h4]
        rw [Rat.intCast_natCast] at h5
        exact h5
      rw [this] at key
      unfold Nr at *
      generalize (1 / (P2 1074 : Nat) : Rat) = p at *
      generalize ((val (Rk S.natAbs 0) : Nat) : Rat) = v at *
      generalize (S : Rat) = t at *
      grind
theorem small_sum {S : Int} (h1 : -1 ≤ (S : Rat) * (1 / (P2 1074 : Nat))) (h2 : (S : Rat) * (1 / (P2 1074 : Nat)) ≤ 1) : S.natAbs ≤ P2 1074 := by
  have e := P_inv
  have a : S ≤ ((P2 1074 : Nat) : Int) := by
    apply le_of_scaled
    rw [Rat.intCast_natCast, e]; exact h2
  have b : -((P2 1074 : Nat) : Int) ≤ S := by
    apply le_of_scaled
    rw [Rat.intCast_neg, Rat.intCast_natCast, Rat.neg_mul, e]; exact h1
  omega
theorem SV.add {x y : Nat} {p q : Rat} (hx : SV x p) (hy : SV y q) (h1 : -1 ≤ p + q) (h2 : p + q ≤ 1) : ∃ r, SV (add x y) r ∧ Nr r (p + q) hh := by
  obtain ⟨s, a, rfl, ha, rfl⟩ := hx
  obtain ⟨t, b, rfl, hb, rfl⟩ := hy
  rw [add_words s t a b ha hb]
  have e : (sg s (val a) : Rat) * (1 / (P2 1074 : Nat)) + (sg t (val b) : Rat) * (1 / (P2 1074 : Nat)) = ((sg s (val a) + sg t (val b) : Int) : Rat) * (1 / (P2 1074 : Nat)) := by
    rw [Rat.intCast_add, Rat.add_mul]
  rw [e] at h1 h2 ⊢
  generalize sg s (val a) + sg t (val b) = S at *
  obtain ⟨h3, h4⟩ := round_near S (if S = 0 then s && t else decide (S < 0)) (fun h => by rw [if_neg h]) (small_sum h1 h2)
  exact ⟨_, ⟨_, _, rfl, h3, rfl⟩, h4⟩
theorem SV.sub {x y : Nat} {p q : Rat} (hx : SV x p) (hy : SV y q) (h1 : -1 ≤ p - q) (h2 : p - q ≤ 1) : ∃ r, SV (sub x y) r ∧ Nr r (p - q) hh := by
  obtain ⟨s, a, rfl, ha, rfl⟩ := hx
  obtain ⟨t, b, rfl, hb, rfl⟩ := hy
  rw [sub_words s t a b ha hb]
  have e : (sg s (val a) : Rat) * (1 / (P2 1074 : Nat)) - (sg t (val b) : Rat) * (1 / (P2 1074 : Nat)) = ((sg s (val a) + sg (!t) (val b) : Int) : Rat) * (1 / (P2 1074 : Nat)) := by
    rw [Rat.intCast_add, Rat.add_mul, Rat.sub_eq_add_neg]
    congr 1
    rw [sg_rat, sg_rat]
    cases t <;> simp [Rat.neg_mul]
  rw [e] at h1 h2 ⊢
  generalize sg s (val a) + sg (!t) (val b) = S at *
  obtain ⟨h3, h4⟩ := round_near S (if S = 0 then s && !t else decide (S < 0)) (fun h => by rw [if_neg h]) (small_sum h1 h2)
  exact ⟨_, ⟨_, _, rfl, h3, rfl⟩, h4⟩
theorem SV.lt {x y : Nat} {p q : Rat} (hx : SV x p) (hy : SV y q) (h : p < q) : ord x y = some .lt := by
  obtain ⟨s, a, rfl, ha, rfl⟩ := hx
  obtain ⟨t, b, rfl, hb, rfl⟩ := hy
  rw [ord_words s t a b ha hb]
  congr 1
  rw [Int.compare_eq_lt]
  apply Int.lt_of_not_ge
  intro h2
  have := Rat.mul_le_mul_of_nonneg_right (int_le h2) p_pos
  exact absurd h (Rat.not_lt.2 this)
theorem SV.gt {x y : Nat} {p q : Rat} (hx : SV x p) (hy : SV y q) (h : q < p) : ord x y = some .gt := by
  obtain ⟨s, a, rfl, ha, rfl⟩ := hx
  obtain ⟨t, b, rfl, hb, rfl⟩ := hy
  rw [ord_words s t a b ha hb]
  congr 1
  rw [Int.compare_eq_gt]
  apply Int.lt_of_not_ge
  intro h2
  have := Rat.mul_le_mul_of_nonneg_right (int_le h2) p_pos
  exact absurd h (Rat.not_lt.2 this)
/-- The bound, 2^-47. -/
def LIM : Nat := 0x3d00000000000000
theorem LIM_val : SV LIM (128 * hh) := by
  have v : val LIM = 4503599627370496 * P2 975 := val_of _ _ _ (by decide) (by decide)
  have e : RR LIM = 128 * hh := by
    have h1 : P2 975 * 35184372088832 = P2 1020 := by
      have : P2 45 = 35184372088832 := by rw [P2_def]
      rw [← this, P2_mul]
    have u := U_eq
    unfold RR
    rw [v, Rat.natCast_mul]
    rw [← h1, Rat.natCast_mul] at u
    have c1 : ((35184372088832 : Nat) : Rat) = 35184372088832 := rfl
    have c2 : ((4503599627370496 : Nat) : Rat) = 4503599627370496 := rfl
    rw [c1] at u
    rw [c2]
    generalize (1 / (P2 1074 : Nat) : Rat) = p at *
    generalize ((P2 975 : Nat) : Rat) = t at *
    generalize hh = h at *
    grind
  rw [← e]
  exact SV.of_pos (by decide)
/-- What is left of the squares is small. -/
theorem SMALL_val {z : Nat} (h : z ≤ 971 * 4503599627370496) : 0 ≤ RR z ∧ RR z ≤ 4 * hh := by
  refine ⟨RR_nonneg z, ?_⟩
  have hm := RR_le (y := 971 * 4503599627370496) h (by decide)
  have v : val (971 * 4503599627370496) = 4503599627370496 * P2 970 := val_of _ _ _ (by decide) (by decide)
  have e : RR (971 * 4503599627370496) = 4 * hh := by
    have h1 : P2 970 * 1125899906842624 = P2 1020 := by
      have : P2 50 = 1125899906842624 := by rw [P2_def]
      rw [← this, P2_mul]
    have u := U_eq
    unfold RR
    rw [v, Rat.natCast_mul]
    rw [← h1, Rat.natCast_mul] at u
    have c1 : ((1125899906842624 : Nat) : Rat) = 1125899906842624 := rfl
    have c2 : ((4503599627370496 : Nat) : Rat) = 4503599627370496 := rfl
    rw [c1] at u
    rw [c2]
    generalize (1 / (P2 1074 : Nat) : Rat) = p at *
    generalize ((P2 970 : Nat) : Rat) = t at *
    generalize hh = h at *
    grind
  rw [e] at hm
  exact hm
theorem hh_small : 1000 * hh ≤ 1 := by unfold hh; decide +kernel
/-- What RootsCircle reckons: off is within 2^-47. -/
theorem off_small {a b rx ry : Nat} {qx qy : Rat} (ha : a ≤ ONE) (hb : b ≤ ONE) (hc : Nr (RR a * RR a + RR b * RR b) 1 (111 * hh)) (hx : SV rx qx) (hy : SV ry qy) (x1 : -(4 * hh) ≤ qx) (x2 : qx ≤ 4 * hh) (y1 : -(4 * hh) ≤ qy) (y2 : qy ≤ 4 * hh) :
    ord (add (add (add (sub (mul a a) ONE) (mul b b)) rx) ry) LIM = some .lt ∧ ord (add (add (add (sub (mul a a) ONE) (mul b b)) rx) ry) (neg LIM) = some .gt := by
  obtain ⟨m1, n1⟩ := mul_near ha ha
  obtain ⟨m2, n2⟩ := mul_near hb hb
  have u1 := RR_nonneg (mul a a)
  have u2 := RR_nonneg (mul b b)
  have w1 := RR_le_one m1
  have w2 := RR_le_one m2
  have hpos := hh_pos
  have hsm := hh_small
  have one : ONE < 0x7ff0000000000000 := by decide
  have sx := SV.of_pos (z := mul a a) (by omega)
  have sy := SV.of_pos (z := mul b b) (by omega)
  have so := SV.of_pos one
  rw [RR_ONE] at so
  generalize RR (mul a a) = X at *
  generalize RR (mul b b) = Y at *
  generalize RR a * RR a = A at *
  generalize RR b * RR b = B at *
  unfold Nr at hc n1 n2
  obtain ⟨o1, t1, e1⟩ := sx.sub so (by grind) (by grind)
  unfold Nr at e1
  obtain ⟨o2, t2, e2⟩ := t1.add sy (by grind) (by grind)
  unfold Nr at e2
  obtain ⟨o3, t3, e3⟩ := t2.add hx (by grind) (by grind)
  unfold Nr at e3
  obtain ⟨o4, t4, e4⟩ := t3.add hy (by grind) (by grind)
  unfold Nr at e4
  refine ⟨t4.lt LIM_val ?_, t4.gt LIM_val.neg ?_⟩
  · grind
  · grind

/-! ### The rest of a square -/
theorem top_Rk : Rk (P2 1020) 0 = 969 * 4503599627370496 := by
  have v : val (969 * 4503599627370496) = 4503599627370496 * P2 968 := val_of _ _ _ (by decide) (by decide)
  have e : 4503599627370496 * P2 968 = P2 1020 := by rw [← P2_52, P2_mul]
  rw [← e, ← v]
  exact Rk_val0 _ (by decide)
theorem fma_small (s : Bool) (z : Nat) (hz : z ≤ ONE) : ∃ t u, double.fma (double.word s z) (double.word s z) (double.word true (mul z z)) = some (double.word t u) ∧ u ≤ 971 * 4503599627370496 := by
  have one : ONE < 0x7ff0000000000000 := by decide
  have hz' : z < 0x7ff0000000000000 := by omega
  have vz := (val_le hz' one).2 hz
  rw [val_ONE] at vz
  have m1 := (mul_near hz hz).1
  obtain ⟨_, h2, h3⟩ := Rk_near (val z * val z) 1074 (by rw [← P2_mul]; exact Nat.mul_le_mul vz vz)
  rw [← mul_pos z z hz' hz'] at h2 h3
  generalize mul z z = X at *
  have hX : X < 0x7ff0000000000000 := by omega
  unfold Format.fma
  rw [read_word s z hz', read_word true X hX]
  have ss : (s ^^ s) = false := by cases s <;> rfl
  obtain ⟨J, hJ⟩ : ∃ J, min (rexp z + rexp z) (1074 + rexp X) = J := ⟨_, rfl⟩
  obtain ⟨B, hB⟩ : ∃ B : Int, min ((-1074 + (rexp z : Int)) + (-1074 + (rexp z : Int))) (-1074 + (rexp X : Int)) = B := ⟨_, rfl⟩
  have hBJ : B - (J : Int) = -1074 - ((1074 : Nat) : Int) := by omega
  obtain ⟨T, hT⟩ : ∃ T : Int, signed false (rmag z * rmag z) (((-1074 + (rexp z : Int)) + (-1074 + (rexp z : Int))) - B).toNat + signed true (rmag X) ((-1074 + (rexp X : Int)) - B).toNat = T := ⟨_, rfl⟩
  have k1 : (((-1074 + (rexp z : Int)) + (-1074 + (rexp z : Int))) - B).toNat + J = rexp z + rexp z := by omega
  have k2 : ((-1074 + (rexp X : Int)) - B).toNat + J = 1074 + rexp X := by omega
  have key : T * ((2 ^ J : Nat) : Int) = ((val z * val z : Nat) : Int) - ((val X * P2 1074 : Nat) : Int) := by
    rw [← hT]
    generalize (((-1074 + (rexp z : Int)) + (-1074 + (rexp z : Int))) - B).toNat = a1 at *
    generalize ((-1074 + (rexp X : Int)) - B).toNat = a2 at *
    have e1 : (rmag z * rmag z) <<< a1 * 2 ^ J = val z * val z := by
      unfold val
      rw [Nat.shiftLeft_eq, Nat.mul_assoc, ← Nat.pow_add, k1, Nat.pow_add]
      ac_rfl
    have e2 : (rmag X) <<< a2 * 2 ^ J = val X * P2 1074 := by
      unfold val
      rw [Nat.shiftLeft_eq, Nat.mul_assoc, ← Nat.pow_add, k2, Nat.pow_add, ← P2_def 1074]
      generalize P2 1074 = p
      ac_rfl
    rw [← e1, ← e2, Int.add_mul]
    show (((rmag z * rmag z) <<< a1 : Nat) : Int) * _ + (-(((rmag X) <<< a2 : Nat) : Int)) * _ = _
    rw [Int.neg_mul, ← Int.natCast_mul, ← Int.natCast_mul]
    omega
  refine ⟨if T = 0 then (s ^^ s) && true else decide (T < 0), Rk (T.natAbs * 2 ^ J) 1074, ?_, ?_⟩
  · rw [← nearest_Rk _ _ _ J 1074 hBJ, ← hT, ← hB, ← ss]
    rfl
  · have hle : T.natAbs * 2 ^ J ≤ P2 2094 := by
      have e : T.natAbs * 2 ^ J = (T * ((2 ^ J : Nat) : Int)).natAbs := by rw [Int.natAbs_mul]; rfl
      rw [e, key]
      have h2' : val X * P2 1074 ≤ val z * val z + P2 2094 := h2
      have h3' : val z * val z ≤ val X * P2 1074 + P2 2094 := h3
      clear h2 h3 key e hT k1 k2 hB hBJ
      generalize val X * P2 1074 = m1 at *
      generalize val z * val z = m2 at *
      generalize P2 2094 = m3 at *
      omega
    have h4 := Rk_mono hle 1074
    have h6 : Rk (P2 2094) 1074 = 969 * 4503599627370496 := by
      have h5 : P2 2094 = P2 1020 * P2 1074 := by rw [P2_mul]
      rw [h5, Rk_scaleP0 (P2 1020) 1074]
      exact top_Rk
    rw [h6] at h4
    exact Nat.le_trans h4 (by decide)
end Go.Roots
