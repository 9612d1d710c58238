/-
  Cosine and sine by the series, each operation off by half a last place of 1 at most: near the circle. Rational numbers alone.
-/
import Derived.Test.YtijbkcjbkioefaaDoorIe
namespace Go.Circ
/-- Half a last place of 1. -/
def hh : Rat := 1 / 18014398509481984
def fa : Nat → Rat
  | 0 => 1
  | m + 1 => fa m * (m + 1 : Nat)
def cf (f j : Nat) : Rat := 1 / fa (2 * j + f)
def hp (f : Nat) (y : Rat) : Nat → Rat
  | 0 => cf f 8
  | j + 1 => cf f (7 - j) - y * hp f y j
theorem hh_pos : 0 < hh := by unfold hh; grind
theorem cf_down (f : Nat) (hf : f < 2) (j : Nat) (hj : j < 8) : 0 ≤ cf f (8 - j) ∧ cf f (8 - j) ≤ cf f (7 - j) := by
  have : (∀ f, f < 2 → ∀ j, j < 8 → 0 ≤ cf f (8 - j) ∧ cf f (8 - j) ≤ cf f (7 - j)) := by decide +kernel
  exact this f hf j hj
theorem cf_zero (f : Nat) (hf : f < 2) : cf f 0 = 1 := by
  have : (∀ f, f < 2 → cf f 0 = 1) := by decide +kernel
  exact this f hf
theorem cf_8 (f : Nat) (hf : f < 2) : 0 ≤ cf f 8 := by
  have : (∀ f, f < 2 → 0 ≤ cf f 8) := by decide +kernel
  exact this f hf
theorem mul_in {x a b : Rat} (hx : 0 ≤ x) (h1 : x ≤ 1) (ha : 0 ≤ a) (hb : a ≤ b) : 0 ≤ x * a ∧ x * a ≤ b := by
  have h3 := Rat.mul_nonneg hx ha
  have h4 := Rat.mul_nonneg (show 0 ≤ 1 - x by grind) ha
  grind
theorem hp_in (f : Nat) (hf : f < 2) (y : Rat) (h0 : 0 ≤ y) (h1 : y ≤ 1) : ∀ j, j ≤ 8 → 0 ≤ hp f y j ∧ hp f y j ≤ cf f (8 - j)
  | 0, _ => ⟨cf_8 f hf, Rat.le_refl⟩
  | j + 1, h => by
    have ih := hp_in f hf y h0 h1 j (by omega)
    have d := cf_down f hf j (by omega)
    have m := mul_in h0 h1 ih.1 (Rat.le_trans ih.2 d.2)
    show 0 ≤ cf f (7 - j) - y * hp f y j ∧ cf f (7 - j) - y * hp f y j ≤ cf f (8 - (j + 1))
    rw [show 8 - (j + 1) = 7 - j by omega]
    grind
theorem hp_unit (f : Nat) (hf : f < 2) (y : Rat) (h0 : 0 ≤ y) (h1 : y ≤ 1) : 0 ≤ hp f y 8 ∧ hp f y 8 ≤ 1 := by
  have := hp_in f hf y h0 h1 8 (by omega)
  rw [Nat.sub_self, cf_zero f hf] at this
  exact this
/-- Near. -/
def Nr (a b e : Rat) : Prop := a - b ≤ e ∧ b - a ≤ e
theorem nr_step {y p p' c c' m r e : Rat} (h0 : 0 ≤ y) (h1 : y ≤ 1) (hp : Nr p p' e) (hc : Nr c c' hh) (hm : Nr m (y * p) hh) (hr : Nr r (c - m) hh) : Nr r (c' - y * p') (e + 3 * hh) := by
  unfold Nr at *
  have a1 := Rat.mul_nonneg h0 (show 0 ≤ e - (p - p') by grind)
  have a2 := Rat.mul_nonneg h0 (show 0 ≤ e - (p' - p) by grind)
  have a3 := Rat.mul_nonneg (show 0 ≤ 1 - y by grind) (show 0 ≤ e by grind)
  grind
theorem hp_near (f : Nat) (y : Rat) (h0 : 0 ≤ y) (h1 : y ≤ 1) (p c m : Nat → Rat) (b : Nr (p 0) (cf f 8) hh) (hc : ∀ j, j < 8 → Nr (c (7 - j)) (cf f (7 - j)) hh)
    (hm : ∀ j, j < 8 → Nr (m j) (y * p j) hh) (hr : ∀ j, j < 8 → Nr (p (j + 1)) (c (7 - j) - m j) hh) : ∀ j : Nat, j ≤ 8 → Nr (p j) (hp f y j) ((3 * j + 1 : Nat) * hh)
  | 0, _ => by
    have : ((3 * 0 + 1 : Nat) : Rat) * hh = hh := by grind
    rw [this]; exact b
  | j + 1, h => by
    have ih := hp_near f y h0 h1 p c m b hc hm hr j (by omega)
    have := nr_step h0 h1 ih (hc j (by omega)) (hm j (by omega)) (hr j (by omega))
    have e : ((3 * (j + 1) + 1 : Nat) : Rat) * hh = ((3 * j + 1 : Nat) : Rat) * hh + 3 * hh := by
      have : ((3 * (j + 1) + 1 : Nat) : Rat) = ((3 * j + 1 : Nat) : Rat) + 3 := by
        rw [show 3 * (j + 1) + 1 = (3 * j + 1) + 3 by omega, Rat.natCast_add]; rfl
      rw [this]; grind
    rw [e]
    exact this

theorem hp0_eq (y : Rat) : hp 0 y 8 = ((1/1) - y * ((1/2) - y * ((1/24) - y * ((1/720) - y * ((1/40320) - y * ((1/3628800) - y * ((1/479001600) - y * ((1/87178291200) - y * (1/20922789888000))))))))) := by
  have h : ∀ j, j < 9 → cf 0 j = [1/1, 1/2, 1/24, 1/720, 1/40320, 1/3628800, 1/479001600, 1/87178291200, 1/20922789888000].getD j 0 := by decide +kernel
  simp only [hp, Nat.sub_zero, Nat.reduceSub, h 0 (by omega), h 1 (by omega), h 2 (by omega), h 3 (by omega), h 4 (by omega), h 5 (by omega), h 6 (by omega), h 7 (by omega), h 8 (by omega)]
  rfl
theorem hp1_eq (y : Rat) : hp 1 y 8 = ((1/1) - y * ((1/6) - y * ((1/120) - y * ((1/5040) - y * ((1/362880) - y * ((1/39916800) - y * ((1/6227020800) - y * ((1/1307674368000) - y * (1/355687428096000))))))))) := by
  have h : ∀ j, j < 9 → cf 1 j = [1/1, 1/6, 1/120, 1/5040, 1/362880, 1/39916800, 1/6227020800, 1/1307674368000, 1/355687428096000].getD j 0 := by decide +kernel
  simp only [hp, Nat.sub_zero, Nat.reduceSub, h 0 (by omega), h 1 (by omega), h 2 (by omega), h 3 (by omega), h 4 (by omega), h 5 (by omega), h 6 (by omega), h 7 (by omega), h 8 (by omega)]
  rfl
theorem circ (y : Rat) : hp 0 y 8 * hp 0 y 8 + y * (hp 1 y 8 * hp 1 y 8) = 1 + (1/3201186852864000) * y^9 - (1/7113748561920000) * y^10 + (1/93901481017344000) * y^11 - (1/3073139378749440000) * y^12 + (1/186437122310799360000) * y^13 - (1/18070059547046707200000) * y^14 + (1/2555622707368034304000000) * y^15 - (1/496131554923714392883200000) * y^16 + (1/126513546505547170185216000000) * y^17 := by
  rw [hp0_eq, hp1_eq]
  grind
theorem pow_in {y : Rat} (h0 : 0 ≤ y) (h1 : y ≤ 1) : ∀ k, 0 ≤ y ^ k ∧ y ^ (k + 1) ≤ y ^ k
  | 0 => by simp; exact ⟨by decide, h1⟩
  | k + 1 => by
    obtain ⟨a, b⟩ := pow_in h0 h1 k
    have e1 : y ^ (k + 1) = y ^ k * y := Rat.pow_succ ..
    have e2 : y ^ (k + 1 + 1) = y ^ (k + 1) * y := Rat.pow_succ ..
    have h3 := Rat.mul_nonneg a h0
    have h4 := Rat.mul_nonneg h3 (show 0 ≤ 1 - y by grind)
    rw [← e1] at h3 h4
    refine ⟨h3, ?_⟩
    rw [e2]
    have e : y ^ (k + 1) * (1 - y) = y ^ (k + 1) - y ^ (k + 1) * y := by rw [Rat.sub_eq_add_neg, Rat.mul_add, Rat.mul_one, Rat.mul_neg, ← Rat.sub_eq_add_neg]
    rw [e] at h4
    generalize y ^ (k + 1) * y = u2 at *
    generalize y ^ (k + 1) = u1 at *
    clear e1 e2 a b h0 h1 e
    grind
theorem circ_in (y : Rat) (h0 : 0 ≤ y) (h1 : y ≤ 1) : 0 ≤ hp 0 y 8 * hp 0 y 8 + y * (hp 1 y 8 * hp 1 y 8) - 1 ∧ hp 0 y 8 * hp 0 y 8 + y * (hp 1 y 8 * hp 1 y 8) - 1 ≤ 6 * hh := by
  rw [circ]
  obtain ⟨a9, b9⟩ := pow_in h0 h1 9
  obtain ⟨a10, b10⟩ := pow_in h0 h1 10
  obtain ⟨a11, b11⟩ := pow_in h0 h1 11
  obtain ⟨a12, b12⟩ := pow_in h0 h1 12
  obtain ⟨a13, b13⟩ := pow_in h0 h1 13
  obtain ⟨a14, b14⟩ := pow_in h0 h1 14
  obtain ⟨a15, b15⟩ := pow_in h0 h1 15
  obtain ⟨a16, b16⟩ := pow_in h0 h1 16
  obtain ⟨a17, b17⟩ := pow_in h0 h1 17
  have t9 : y ^ 9 ≤ 1 := by
    obtain ⟨_, c0⟩ := pow_in h0 h1 0; obtain ⟨_, c1⟩ := pow_in h0 h1 1; obtain ⟨_, c2⟩ := pow_in h0 h1 2; obtain ⟨_, c3⟩ := pow_in h0 h1 3; obtain ⟨_, c4⟩ := pow_in h0 h1 4
    obtain ⟨_, c5⟩ := pow_in h0 h1 5; obtain ⟨_, c6⟩ := pow_in h0 h1 6; obtain ⟨_, c7⟩ := pow_in h0 h1 7; obtain ⟨_, c8⟩ := pow_in h0 h1 8
    have : y ^ 0 = 1 := Rat.pow_zero y
    simp only [Nat.reduceAdd] at *
    clear a9 b9 a10 b10 a11 b11 a12 b12 a13 b13 a14 b14 a15 b15 a16 b16 a17 b17
    generalize y ^ 9 = z9 at *; generalize y ^ 8 = z8 at *; generalize y ^ 7 = z7 at *; generalize y ^ 6 = z6 at *; generalize y ^ 5 = z5 at *; generalize y ^ 4 = z4 at *; generalize y ^ 3 = z3 at *; generalize y ^ 2 = z2 at *; generalize y ^ 1 = z1 at *; generalize y ^ 0 = z0 at *
    grind
  simp only [Nat.reduceAdd] at *
  unfold hh
  generalize y ^ 18 = z18 at *; generalize y ^ 17 = z17 at *; generalize y ^ 16 = z16 at *; generalize y ^ 15 = z15 at *; generalize y ^ 14 = z14 at *; generalize y ^ 13 = z13 at *; generalize y ^ 12 = z12 at *; generalize y ^ 11 = z11 at *; generalize y ^ 10 = z10 at *; generalize y ^ 9 = z9 at *
  clear h0 h1
  grind
/-- Squares of near numbers. -/
theorem sq_near {a b e : Rat} (ha : 0 ≤ a) (ha1 : a ≤ 1) (hb : 0 ≤ b) (hb1 : b ≤ 1) (h : Nr a b e) : Nr (a * a) (b * b) (2 * e) := by
  unfold Nr at *
  have he : 0 ≤ e := by grind
  have h1 := Rat.mul_nonneg (show 0 ≤ a + b by grind) (show 0 ≤ e - (a - b) by grind)
  have h2 := Rat.mul_nonneg (show 0 ≤ a + b by grind) (show 0 ≤ e - (b - a) by grind)
  have h3 := Rat.mul_nonneg (show 0 ≤ 2 - (a + b) by grind) he
  grind
/-- Cosine and sine as they are reckoned. -/
theorem on_circle {c s t y S : Rat} (t0 : 0 ≤ t) (t1 : t ≤ 1) (y0 : 0 ≤ y) (y1 : y ≤ 1) (c0 : 0 ≤ c) (c1 : c ≤ 1) (s0 : 0 ≤ s) (s1 : s ≤ 1) (S0 : 0 ≤ S) (S1 : S ≤ 1)
    (hc : Nr c (hp 0 y 8) (25 * hh)) (hS : Nr S (hp 1 y 8) (25 * hh)) (hs : Nr s (t * S) hh) (hy : Nr y (t * t) hh) : Nr (c * c + s * s) 1 (111 * hh) := by
  obtain ⟨C0, C1⟩ := hp_unit 0 (by omega) y y0 y1
  obtain ⟨D0, D1⟩ := hp_unit 1 (by omega) y y0 y1
  obtain ⟨k0, k1⟩ := circ_in y y0 y1
  have k2 := hh_pos
  generalize hp 0 y 8 = C at *
  generalize hp 1 y 8 = D at *
  generalize hh = h at *
  have a1 := sq_near c0 c1 C0 C1 hc
  have tD0 := mul_in t0 t1 D0 D1
  have hs2 : Nr s (t * D) (26 * h) := by
    unfold Nr at *
    have b1 := Rat.mul_nonneg t0 (show 0 ≤ 25 * h - (S - D) by grind)
    have b2 := Rat.mul_nonneg t0 (show 0 ≤ 25 * h - (D - S) by grind)
    have b3 := Rat.mul_nonneg (show 0 ≤ 1 - t by grind) (show 0 ≤ h by grind)
    grind
  have a2 := sq_near s0 s1 tD0.1 tD0.2 hs2
  have DD := mul_in D0 D1 D0 D1
  have a3 : Nr (t * D * (t * D)) (y * (D * D)) h := by
    unfold Nr at *
    have e : t * D * (t * D) = t * t * (D * D) := by grind
    rw [e]
    generalize D * D = Z at *
    generalize t * t = T at *
    have b1 := Rat.mul_nonneg DD.1 (show 0 ≤ h - (y - T) by grind)
    have b2 := Rat.mul_nonneg DD.1 (show 0 ≤ h - (T - y) by grind)
    have b3 := Rat.mul_nonneg (show 0 ≤ 1 - Z by grind) (show 0 ≤ h by grind)
    grind
  unfold Nr at *
  generalize c * c = X1 at *
  generalize C * C = X2 at *
  generalize s * s = X3 at *
  generalize t * D * (t * D) = X4 at *
  generalize y * (D * D) = X5 at *
  clear hs2 tD0 DD hc hS hs hy
  grind
end Go.Circ
