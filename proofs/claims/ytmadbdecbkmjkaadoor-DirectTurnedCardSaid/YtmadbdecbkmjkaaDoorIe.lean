/-
  Rounding to the nearest float: the rung of a value is monotone, and exact where the value is a float's own.
-/
import Derived.Test.YtmadbdecbkmjkaaDoorW
namespace Go.Fl
open Ieee

/-- n / 2^d rounded to the nearest, ties to even. -/
def rne (n d : Nat) : Nat := n / 2 ^ d + (if 2 ^ d < 2 * (n % 2 ^ d) ∨ (2 ^ d = 2 * (n % 2 ^ d) ∧ n / 2 ^ d % 2 = 1) then 1 else 0)

theorem cut_rne (neg : Bool) (n d : Nat) : Toward.even.cut neg n d = rne n d := by
  have key : ∀ g : Nat, (let low := n / g; let rest := n % g
      low + (g < 2 * rest || (g == 2 * rest && low % 2 == 1)).toNat) = n / g + (if g < 2 * (n % g) ∨ (g = 2 * (n % g) ∧ n / g % 2 = 1) then 1 else 0) := by
    intro g
    simp only
    by_cases h1 : g < 2 * (n % g)
    · simp [h1]
    · by_cases h2 : g = 2 * (n % g)
      · have hb : (g == 2 * (n % g)) = true := beq_iff_eq.2 h2
        have hd : decide (g < 2 * (n % g)) = false := decide_eq_false h1
        by_cases h3 : n / g % 2 = 1
        · have hc : (n / g % 2 == 1) = true := beq_iff_eq.2 h3
          rw [hd, hb, hc, if_pos (Or.inr ⟨h2, h3⟩)]; rfl
        · have hc : (n / g % 2 == 1) = false := by simpa using h3
          rw [hd, hb, hc, if_neg (by intro h; rcases h with h | h; exact h1 h; exact h3 h.2)]; rfl
      · simp [h1, h2]
  show (let gap := 1 <<< min d (n.log2 + 2); let low := n / gap; let rest := n % gap
      low + (gap < 2 * rest || (gap == 2 * rest && low % 2 == 1)).toNat) = rne n d
  simp only [Nat.one_shiftLeft]
  by_cases h : d ≤ n.log2 + 2
  · rw [Nat.min_eq_left h]; exact key (2 ^ d)
  · have hd : n.log2 + 2 < d := by omega
    rw [Nat.min_eq_right (by omega)]
    have hn : n < 2 ^ (n.log2 + 1) := Nat.lt_log2_self
    have e1 : (2 : Nat) ^ (n.log2 + 2) = 2 * 2 ^ (n.log2 + 1) := by rw [Nat.pow_succ, Nat.mul_comm]
    have e2 : (2 : Nat) ^ (n.log2 + 2) < 2 ^ d := Nat.pow_lt_pow_right (by omega) hd
    have k1 := key (2 ^ (n.log2 + 2))
    simp only at k1
    rw [k1]
    unfold rne
    have m1 : n / 2 ^ (n.log2 + 2) = 0 := Nat.div_eq_of_lt (by omega)
    have m2 : n % 2 ^ (n.log2 + 2) = n := Nat.mod_eq_of_lt (by omega)
    have m3 : n / 2 ^ d = 0 := Nat.div_eq_of_lt (by omega)
    have m4 : n % 2 ^ d = n := Nat.mod_eq_of_lt (by omega)
    rw [m1, m2, m3, m4, if_neg (by omega), if_neg (by omega)]

theorem rne_scale (n d k : Nat) : rne (n * 2 ^ k) (d + k) = rne n d := by
  unfold rne
  have hk : 0 < 2 ^ k := Nat.two_pow_pos k
  rw [Nat.pow_add, Nat.mul_div_mul_right _ _ hk, Nat.mul_mod_mul_right]
  generalize n % 2 ^ d = r
  generalize hg : 2 ^ d = g
  generalize 2 ^ k = t at *
  have a1 : (g * t < 2 * (r * t)) ↔ g < 2 * r := by
    rw [← Nat.mul_assoc]; exact Nat.mul_lt_mul_right hk
  have a2 : (g * t = 2 * (r * t)) ↔ g = 2 * r := by
    rw [← Nat.mul_assoc]; exact Nat.mul_right_cancel_iff hk
  simp only [a1, a2]
theorem rne_exact (q d : Nat) : rne (q * 2 ^ d) d = q := by
  have := rne_scale q 0 d
  rw [Nat.zero_add] at this
  rw [this]
  unfold rne
  simp [Nat.mod_one]
theorem rne_mono {n n' : Nat} (h : n ≤ n') (d : Nat) : rne n d ≤ rne n' d := by
  unfold rne
  have hg : 0 < 2 ^ d := Nat.two_pow_pos d
  generalize 2 ^ d = g at *
  have e1 := Nat.div_add_mod n g
  have e2 := Nat.div_add_mod n' g
  have hq : n / g ≤ n' / g := Nat.div_le_div_right h
  by_cases hlt : n / g < n' / g
  · split <;> split <;> omega
  · have he : n / g = n' / g := by omega
    rw [he] at e1 ⊢
    have hr : n % g ≤ n' % g := by omega
    split <;> split <;> omega
theorem rne_le {n a d : Nat} (h : n ≤ 2 ^ (a + d)) : rne n d ≤ 2 ^ a := by
  have := rne_mono h d
  rw [Nat.pow_add, rne_exact] at this
  exact this
theorem rne_ge {n a d : Nat} (h : 2 ^ (a + d) ≤ n) : 2 ^ a ≤ rne n d := by
  have := rne_mono h d
  rw [Nat.pow_add, rne_exact] at this
  exact this

theorem log2_mono {a b : Nat} (h : a ≤ b) : a.log2 ≤ b.log2 := by
  by_cases ha : a = 0
  · subst ha; simp
  · exact (Nat.le_log2 (by omega)).2 (Nat.le_trans ((Nat.le_log2 ha).1 (Nat.le_refl _)) h)
theorem log2_shift {m : Nat} (h : m ≠ 0) (j : Nat) : (m * 2 ^ j).log2 = m.log2 + j := by
  have hp : 0 < 2 ^ j := Nat.two_pow_pos j
  have h0 : m * 2 ^ j ≠ 0 := Nat.mul_ne_zero h (by omega)
  apply Nat.le_antisymm
  · apply Nat.le_of_lt_succ
    rw [Nat.log2_lt h0]
    have : m < 2 ^ (m.log2 + 1) := Nat.lt_log2_self
    calc m * 2 ^ j < 2 ^ (m.log2 + 1) * 2 ^ j := Nat.mul_lt_mul_of_pos_right this hp
      _ = 2 ^ (m.log2 + j + 1) := by rw [← Nat.pow_add]; congr 1; omega
  · rw [Nat.le_log2 h0, Nat.pow_add]
    exact Nat.mul_le_mul_right _ ((Nat.le_log2 h).1 (Nat.le_refl _))

/-- The rung of N units of 2^(least - K). -/
def Rk (N K : Nat) : Nat := min ((N.log2 - (52 + K)) * 2 ^ 52 + rne N ((N.log2 - (52 + K)) + K)) 0x7ff0000000000000

theorem Rk_zero (K : Nat) : Rk 0 K = 0 := by
  unfold Rk rne; simp

theorem least_double : double.leastPlace = -1074 := by decide +kernel
theorem nearest_Rk (s : Bool) (mag : Nat) (place : Int) (j K : Nat) (h : place - j = -1074 - (K : Int)) : double.nearest s mag place = double.word s (Rk (mag * 2 ^ j) K) := by
  unfold Format.nearest
  dsimp only
  by_cases h0 : mag = 0
  · rw [if_pos h0, h0, Nat.zero_mul, Rk_zero]
  · rw [if_neg h0, least_double, cut_rne]
    have hl := log2_shift h0 j
    unfold Rk
    rw [hl, infRung_double, binade_double]
    generalize hE : mag.log2 + j - (52 + K) = e
    have hf : (double.fractionBits : Int) = 52 := rfl
    rw [hf]
    have hlast : max (place + (mag.log2 : Int) - 52) (-1074) = -1074 + (e : Int) := by omega
    rw [hlast]
    have he2 : (-1074 + (e : Int) - -1074).toNat = e := by omega
    rw [he2]
    congr 2
    show e * 0x10000000000000 + _ = e * 2 ^ 52 + _
    congr 1
    by_cases hp : -1074 + (e : Int) ≤ place
    · obtain ⟨t, ht⟩ : ∃ t : Nat, place - (-1074 + (e : Int)) = t := ⟨(place - (-1074 + (e : Int))).toNat, by omega⟩
      have hj : j = t + (e + K) := by omega
      have hd : (-1074 + (e : Int) - place).toNat = 0 := by omega
      have hs : (place - (-1074 + (e : Int))).toNat = t := by omega
      rw [hd, hs, hj, Nat.pow_add, ← Nat.mul_assoc, rne_exact, Nat.shiftLeft_eq]
      have := rne_exact (mag * 2 ^ t) 0
      simpa using this
    · obtain ⟨t, ht⟩ : ∃ t : Nat, (-1074 + (e : Int)) - place = t := ⟨((-1074 + (e : Int)) - place).toNat, by omega⟩
      have hd : (-1074 + (e : Int) - place).toNat = t := by omega
      have hs : (place - (-1074 + (e : Int))).toNat = 0 := by omega
      have hk : e + K = t + j := by omega
      rw [hd, hs, hk, rne_scale, Nat.shiftLeft_zero]

theorem Rk_scale (N K t : Nat) : Rk (N * 2 ^ t) (K + t) = Rk N K := by
  by_cases h0 : N = 0
  · subst h0; rw [Nat.zero_mul, Rk_zero, Rk_zero]
  · have a := nearest_Rk false N (-1074 - (K : Int)) 0 K (by omega)
    have b := nearest_Rk false N (-1074 - (K : Int)) t (K + t) (by omega)
    rw [a] at b
    simpa [Format.word] using b.symm
theorem step_up {e e' B x y : Nat} (h : e + 1 ≤ e') (hx : x ≤ 2 * B) (hy : B ≤ y) : e * B + x ≤ e' * B + y := by
  have h5 : (e + 1) * B ≤ e' * B := Nat.mul_le_mul_right _ h
  rw [Nat.add_mul] at h5
  omega
theorem Rk_mono {N N' : Nat} (h : N ≤ N') (K : Nat) : Rk N K ≤ Rk N' K := by
  unfold Rk
  have hl := log2_mono h
  generalize he : N.log2 - (52 + K) = e
  generalize he' : N'.log2 - (52 + K) = e'
  have hm : e * 2 ^ 52 + rne N (e + K) ≤ e' * 2 ^ 52 + rne N' (e' + K) := by
    by_cases heq : e = e'
    · subst heq
      exact Nat.add_le_add_left (rne_mono h _) _
    · have hlt : e < e' := by omega
      have h0 : N' ≠ 0 := by
        intro h0
        rw [h0, Nat.log2_zero] at he'
        omega
      have h1 : 2 ^ (52 + (e' + K)) ≤ N' := by
        have : 52 + (e' + K) = N'.log2 := by omega
        rw [this]; exact (Nat.le_log2 h0).1 (Nat.le_refl _)
      have h2 : N ≤ 2 ^ (53 + (e + K)) := by
        have a : N < 2 ^ (N.log2 + 1) := Nat.lt_log2_self
        have b : (2 : Nat) ^ (N.log2 + 1) ≤ 2 ^ (53 + (e + K)) := Nat.pow_le_pow_right (by omega) (by omega)
        exact Nat.le_of_lt (Nat.lt_of_lt_of_le a b)
      exact step_up hlt (rne_le h2) (rne_ge h1)
  exact Nat.le_min.2 ⟨Nat.le_trans (Nat.min_le_left _ _) hm, Nat.min_le_right _ _⟩

/-- The value of a rung, in units of 2^-1074. -/
def rmag (r : Nat) : Nat := if r < 2 ^ 52 then r else 2 ^ 52 + r % 2 ^ 52
def rexp (r : Nat) : Nat := r / 2 ^ 52 - 1
def val (r : Nat) : Nat := rmag r * 2 ^ rexp r
theorem val_zero : val 0 = 0 := by decide
theorem rmag_zero_iff (r : Nat) : rmag r = 0 ↔ r = 0 := by
  unfold rmag; split <;> omega

theorem Rk_val (r K : Nat) (h : r < 0x7ff0000000000000) : Rk (val r * 2 ^ K) K = r := by
  have hsc := Rk_scale (val r) 0 K
  rw [Nat.zero_add] at hsc
  rw [hsc]
  by_cases h0 : r = 0
  · subst h0; rw [val_zero, Rk_zero]
  · have hm0 : rmag r ≠ 0 := fun e => h0 ((rmag_zero_iff r).1 e)
    unfold Rk val
    rw [log2_shift hm0]
    by_cases hr : r < 2 ^ 52
    · have e1 : rmag r = r := by unfold rmag; rw [if_pos hr]
      have e2 : rexp r = 0 := by unfold rexp; rw [Nat.div_eq_of_lt hr]
      have hl : r.log2 < 52 := (Nat.log2_lt h0).2 hr
      rw [e1, e2]
      have e3 : r.log2 + 0 - (52 + 0) = 0 := by omega
      rw [e3]
      have := rne_exact r 0
      simp at this ⊢
      rw [this]; omega
    · have e1 : rmag r = 2 ^ 52 + r % 2 ^ 52 := by unfold rmag; rw [if_neg hr]
      have hmod : r % 2 ^ 52 < 2 ^ 52 := Nat.mod_lt _ (by decide)
      have hl : (rmag r).log2 = 52 := by
        apply Nat.le_antisymm
        · apply Nat.le_of_lt_succ
          rw [Nat.log2_lt hm0, e1]; show 2 ^ 52 + r % 2 ^ 52 < 2 ^ 53; omega
        · rw [Nat.le_log2 hm0, e1]; omega
      rw [hl]
      have e3 : 52 + rexp r - (52 + 0) = rexp r := by omega
      rw [e3, Nat.add_zero, rne_exact, e1]
      have hd := Nat.div_add_mod r (2 ^ 52)
      have hge : 1 ≤ r / 2 ^ 52 := Nat.div_pos (by omega) (by decide)
      have : rexp r * 2 ^ 52 + (2 ^ 52 + r % 2 ^ 52) = r := by
        unfold rexp
        rw [Nat.sub_mul]
        omega
      rw [this]; omega
theorem Rk_val0 (r : Nat) (h : r < 0x7ff0000000000000) : Rk (val r) 0 = r := by
  have := Rk_val r 0 h; simpa using this
theorem val_le {r r' : Nat} (h : r < 0x7ff0000000000000) (h' : r' < 0x7ff0000000000000) : val r ≤ val r' ↔ r ≤ r' := by
  constructor
  · intro hv
    have := Rk_mono hv 0
    rwa [Rk_val0 r h, Rk_val0 r' h'] at this
  · intro hr
    apply Nat.le_of_not_lt
    intro hv
    have := Rk_mono (Nat.le_of_lt hv) 0
    rw [Rk_val0 r h, Rk_val0 r' h'] at this
    have : r = r' := by omega
    subst this
    omega

/-- What a finite word stands for. -/
theorem read_word (s : Bool) (r : Nat) (h : r < 0x7ff0000000000000) : double.read (double.word s r) = .number s (rmag r) (-1074 + (rexp r : Int)) := by
  have hs := signWeight_double
  have hi := infRung_double
  have hb := binade_double
  have e : double.word s r % double.signWeight = r := by
    unfold Format.word
    cases s
    · simp only [Bool.false_eq_true, if_false]; exact Nat.mod_eq_of_lt (by omega)
    · simp only [if_true]; rw [Nat.add_mod_left]; exact Nat.mod_eq_of_lt (by omega)
  have e2 : (double.word s r / double.signWeight % 2 == 1) = s := by
    unfold Format.word
    rw [hs]
    cases s
    · simp only [Bool.false_eq_true, if_false]
      rw [Nat.div_eq_of_lt (by omega)]; rfl
    · simp only [if_true]
      rw [Nat.add_div_left _ (by omega), Nat.div_eq_of_lt (by omega)]; rfl
  unfold Format.read
  simp only [e, e2, hb, hi, least_double]
  unfold rmag rexp
  by_cases h1 : r < 2 ^ 52
  · rw [if_pos (show r < 0x10000000000000 from h1), if_pos h1, Nat.div_eq_of_lt h1]; simp
  · rw [if_neg (show ¬ r < 0x10000000000000 from h1), if_neg h1, if_pos h]
theorem word_false (r : Nat) : double.word false r = r := by unfold Format.word; simp
theorem read_pos (r : Nat) (h : r < 0x7ff0000000000000) : double.read r = .number false (rmag r) (-1074 + (rexp r : Int)) := by
  have := read_word false r h; rwa [word_false] at this

/-- Products of finite words. -/
theorem mul_words (s t : Bool) (a b : Nat) (ha : a < 0x7ff0000000000000) (hb : b < 0x7ff0000000000000) : mul (double.word s a) (double.word t b) = double.word (s ^^ t) (Rk (val a * val b) 1074) := by
  unfold mul Format.mul
  rw [read_word s a ha, read_word t b hb]
  show double.write (.number (s ^^ t) (rmag a * rmag b) _) = _
  show double.nearest (s ^^ t) (rmag a * rmag b) _ = _
  rw [nearest_Rk _ _ _ (rexp a + rexp b) 1074 (by omega)]
  congr 2
  unfold val
  rw [Nat.pow_add]
  ac_rfl
theorem mul_pos (a b : Nat) (ha : a < 0x7ff0000000000000) (hb : b < 0x7ff0000000000000) : mul a b = Rk (val a * val b) 1074 := by
  have := mul_words false false a b ha hb
  simpa [word_false] using this
theorem mul_mono {a a' b b' : Nat} (ha : a ≤ a') (hb : b ≤ b') (ha' : a' < 0x7ff0000000000000) (hb' : b' < 0x7ff0000000000000) : mul a b ≤ mul a' b' := by
  rw [mul_pos a b (by omega) (by omega), mul_pos a' b' ha' hb']
  exact Rk_mono (Nat.mul_le_mul ((val_le (by omega) ha').2 ha) ((val_le (by omega) hb').2 hb)) _

/-! ### Sums, differences, order -/
def sg (s : Bool) (v : Nat) : Int := if s then -(v : Int) else v
theorem signed_val (s : Bool) (a : Nat) (k : Nat) (hk : k ≤ rexp a) : signed s (rmag a) (rexp a - k) * 2 ^ k = sg s (val a) := by
  have e : rmag a <<< (rexp a - k) * 2 ^ k = val a := by
    unfold val
    rw [Nat.shiftLeft_eq, Nat.mul_assoc, ← Nat.pow_add]
    congr 2; omega
  unfold signed sg
  cases s
  · simp only [Bool.false_eq_true, if_false]
    rw [← e]; simp
  · simp only [if_true]
    rw [Int.neg_mul, ← e, Int.natCast_mul, Int.natCast_pow]; rfl
theorem total_scale (s t : Bool) (a b : Nat) :
    (signed s (rmag a) ((-1074 + (rexp a : Int)) - min (-1074 + (rexp a : Int)) (-1074 + (rexp b : Int))).toNat +
     signed t (rmag b) ((-1074 + (rexp b : Int)) - min (-1074 + (rexp a : Int)) (-1074 + (rexp b : Int))).toNat) * 2 ^ (min (rexp a) (rexp b)) = sg s (val a) + sg t (val b) := by
  have e1 : ((-1074 + (rexp a : Int)) - min (-1074 + (rexp a : Int)) (-1074 + (rexp b : Int))).toNat = rexp a - min (rexp a) (rexp b) := by omega
  have e2 : ((-1074 + (rexp b : Int)) - min (-1074 + (rexp a : Int)) (-1074 + (rexp b : Int))).toNat = rexp b - min (rexp a) (rexp b) := by omega
  rw [e1, e2, Int.add_mul, signed_val s a _ (Nat.min_le_left _ _), signed_val t b _ (Nat.min_le_right _ _)]
theorem pow_pos' (k : Nat) : (0 : Int) < 2 ^ k := Int.pow_pos (by omega)
theorem add_core (s t : Bool) (a b : Nat) (U : Int) (hU : U * 2 ^ (min (rexp a) (rexp b)) = sg s (val a) + sg t (val b)) :
    double.nearest (if U = 0 then s && t else U < 0) U.natAbs (min (-1074 + (rexp a : Int)) (-1074 + (rexp b : Int))) =
    double.word (if sg s (val a) + sg t (val b) = 0 then s && t else decide (sg s (val a) + sg t (val b) < 0)) (Rk (sg s (val a) + sg t (val b)).natAbs 0) := by
  rw [nearest_Rk _ _ _ (min (rexp a) (rexp b)) 0 (by omega), ← hU]
  generalize min (rexp a) (rexp b) = k
  have hp := pow_pos' k
  have e1 : (U * 2 ^ k).natAbs = U.natAbs * 2 ^ k := by
    rw [Int.natAbs_mul, Int.natAbs_pow]; rfl
  have e2 : (U * 2 ^ k = 0) ↔ U = 0 := by
    constructor
    · intro h; rcases Int.mul_eq_zero.1 h with h | h
      · exact h
      · omega
    · intro h; rw [h, Int.zero_mul]
  have e3 : (U * 2 ^ k < 0) ↔ U < 0 := by
    constructor
    · intro h
      apply Int.lt_of_not_ge
      intro h2
      have := Int.mul_nonneg h2 (Int.le_of_lt hp)
      omega
    · intro h; exact Int.mul_neg_of_neg_of_pos h hp
  rw [e1]
  by_cases h : U = 0
  · rw [if_pos h, if_pos (e2.2 h)]
  · rw [if_neg h, if_neg (fun h' => h (e2.1 h'))]
    congr 1
    exact decide_eq_decide.2 e3.symm
theorem add_words (s t : Bool) (a b : Nat) (ha : a < 0x7ff0000000000000) (hb : b < 0x7ff0000000000000) : add (double.word s a) (double.word t b) =
    double.word (if sg s (val a) + sg t (val b) = 0 then s && t else decide (sg s (val a) + sg t (val b) < 0)) (Rk (sg s (val a) + sg t (val b)).natAbs 0) := by
  unfold add Format.add
  rw [read_word s a ha, read_word t b hb]
  exact add_core s t a b _ (total_scale s t a b)
theorem sub_words (s t : Bool) (a b : Nat) (ha : a < 0x7ff0000000000000) (hb : b < 0x7ff0000000000000) : sub (double.word s a) (double.word t b) =
    double.word (if sg s (val a) + sg (!t) (val b) = 0 then s && !t else decide (sg s (val a) + sg (!t) (val b) < 0)) (Rk (sg s (val a) + sg (!t) (val b)).natAbs 0) := by
  unfold sub Format.sub
  rw [read_word s a ha, read_word t b hb]
  exact add_core s (!t) a b _ (total_scale s (!t) a b)
theorem sub_pos {a b : Nat} (h : b ≤ a) (ha : a < 0x7ff0000000000000) : sub a b = Rk (val a - val b) 0 := by
  have hv := (val_le (show b < 0x7ff0000000000000 by omega) ha).2 h
  have := sub_words false false a b ha (by omega)
  rw [word_false, word_false] at this
  rw [this]
  have e : sg false (val a) + sg (!false) (val b) = ((val a - val b : Nat) : Int) := by
    show (val a : Int) + -(val b : Int) = _; omega
  rw [e]
  have e2 : (if ((val a - val b : Nat) : Int) = 0 then false && !false else decide (((val a - val b : Nat) : Int) < 0)) = false := by
    split
    · rfl
    · exact decide_eq_false (by omega)
  rw [e2, word_false]; rfl
theorem sub_le {a b : Nat} (h : b ≤ a) (ha : a < 0x7ff0000000000000) : sub a b ≤ a := by
  rw [sub_pos h ha]
  have := Rk_mono (Nat.sub_le (val a) (val b)) 0
  rwa [Rk_val0 a ha] at this
theorem sub_mono {a a' b b' : Nat} (h1 : a ≤ a') (h2 : b' ≤ b) (h : b ≤ a) (ha : a' < 0x7ff0000000000000) : sub a b ≤ sub a' b' := by
  rw [sub_pos h (by omega), sub_pos (by omega) ha]
  apply Rk_mono
  have := (val_le (show a < 0x7ff0000000000000 by omega) ha).2 h1
  have := (val_le (show b' < 0x7ff0000000000000 by omega) (show b < 0x7ff0000000000000 by omega)).2 h2
  omega
theorem ord_words (s t : Bool) (a b : Nat) (ha : a < 0x7ff0000000000000) (hb : b < 0x7ff0000000000000) : ord (double.word s a) (double.word t b) = some (compare (sg s (val a)) (sg t (val b))) := by
  unfold ord Format.order
  rw [read_word s a ha, read_word t b hb]
  simp only [Datum.order]
  congr 1
  have e1 : ((-1074 + (rexp a : Int)) - min (-1074 + (rexp a : Int)) (-1074 + (rexp b : Int))).toNat = rexp a - min (rexp a) (rexp b) := by omega
  have e2 : ((-1074 + (rexp b : Int)) - min (-1074 + (rexp a : Int)) (-1074 + (rexp b : Int))).toNat = rexp b - min (rexp a) (rexp b) := by omega
  rw [e1, e2, ← signed_val s a _ (Nat.min_le_left (rexp a) (rexp b)), ← signed_val t b _ (Nat.min_le_right (rexp a) (rexp b))]
  generalize signed s (rmag a) (rexp a - min (rexp a) (rexp b)) = x
  generalize signed t (rmag b) (rexp b - min (rexp a) (rexp b)) = y
  have hp := pow_pos' (min (rexp a) (rexp b))
  generalize (2 : Int) ^ (min (rexp a) (rexp b)) = k at hp
  rcases Int.lt_trichotomy x y with h | h | h
  · have h' : x * k < y * k := Int.mul_lt_mul_of_pos_right h hp
    rw [Int.compare_eq_lt.2 h, Int.compare_eq_lt.2 h']
  · subst h; rw [Int.compare_eq_eq.2 rfl, Int.compare_eq_eq.2 rfl]
  · have h' : y * k < x * k := Int.mul_lt_mul_of_pos_right h hp
    rw [Int.compare_eq_gt.2 h, Int.compare_eq_gt.2 h']

/-! ### Whole numbers and other floats that are exact -/
theorem val_Rk (m e : Nat) (hm : m < 2 ^ 53) (he : e ≤ 1990) : val (Rk (m * 2 ^ e) 0) = m * 2 ^ e ∧ Rk (m * 2 ^ e) 0 < 0x7ff0000000000000 := by
  suffices h : ∃ r, r < 0x7ff0000000000000 ∧ val r = m * 2 ^ e by
    obtain ⟨r, h1, h2⟩ := h
    rw [← h2, Rk_val0 r h1]; exact ⟨rfl, h1⟩
  by_cases hs : m * 2 ^ e < 2 ^ 52
  · refine ⟨m * 2 ^ e, by omega, ?_⟩
    unfold val rmag rexp
    rw [if_pos hs, Nat.div_eq_of_lt hs]; simp
  · have hm0 : m ≠ 0 := by intro h; rw [h, Nat.zero_mul] at hs; exact hs (by decide)
    have hl : m.log2 ≤ 52 := Nat.le_of_lt_succ ((Nat.log2_lt hm0).2 hm)
    have hL : 52 ≤ m.log2 + e := by
      rw [← log2_shift hm0 e, Nat.le_log2 (by intro h; rw [h] at hs; exact hs (by decide))]; omega
    obtain ⟨k, hk⟩ : ∃ k, m.log2 + k = 52 := ⟨52 - m.log2, by omega⟩
    obtain ⟨f, rfl⟩ : ∃ f, e = k + f := ⟨e - k, by omega⟩
    have h1 : 2 ^ 52 ≤ m * 2 ^ k := by
      rw [← hk, Nat.pow_add]; exact Nat.mul_le_mul_right _ ((Nat.le_log2 hm0).1 (Nat.le_refl _))
    have h2 : m * 2 ^ k < 2 ^ 53 := by
      have : m < 2 ^ (m.log2 + 1) := Nat.lt_log2_self
      calc m * 2 ^ k < 2 ^ (m.log2 + 1) * 2 ^ k := Nat.mul_lt_mul_of_pos_right this (Nat.two_pow_pos k)
        _ = 2 ^ 53 := by rw [← Nat.pow_add]; congr 1; omega
    rw [Nat.pow_add, ← Nat.mul_assoc]
    generalize m * 2 ^ k = M at h1 h2
    have hf : f ≤ 1990 := by omega
    refine ⟨(f + 1) * 2 ^ 52 + (M - 2 ^ 52), by omega, ?_⟩
    have d1 : ((f + 1) * 2 ^ 52 + (M - 2 ^ 52)) / 2 ^ 52 = f + 1 := by omega
    have d2 : ((f + 1) * 2 ^ 52 + (M - 2 ^ 52)) % 2 ^ 52 = M - 2 ^ 52 := by omega
    unfold val rmag rexp
    rw [if_neg (by omega), d1, d2, Nat.add_sub_cancel, show 2 ^ 52 + (M - 2 ^ 52) = M by omega]
/-- A power of two that is left alone. -/
@[irreducible] def P2 (k : Nat) : Nat := 2 ^ k
theorem P2_def (k : Nat) : P2 k = 2 ^ k := by unfold P2; rfl
theorem P2_pos (k : Nat) : 0 < P2 k := by rw [P2_def]; exact Nat.two_pow_pos k
theorem P2_mul (a b : Nat) : P2 a * P2 b = P2 (a + b) := by rw [P2_def, P2_def, P2_def, Nat.pow_add]
theorem Rk_scaleP (N K t : Nat) : Rk (N * P2 t) (K + t) = Rk N K := by rw [P2_def]; exact Rk_scale N K t
theorem Rk_scaleP0 (N t : Nat) : Rk (N * P2 t) t = Rk N 0 := by
  have := Rk_scaleP N 0 t; rwa [Nat.zero_add] at this
theorem ofInt_pos (n : Nat) : ofInt n = Rk (n * P2 1074) 0 := by
  show double.nearest (decide ((n : Int) < 0)) (n : Int).natAbs 0 = _
  rw [show decide ((n : Int) < 0) = false from decide_eq_false (by omega), nearest_Rk _ _ _ 1074 0 (by omega), word_false, P2_def]
  rfl
theorem val_ofInt (n : Nat) (h : n < 2 ^ 53) : val (ofInt n) = n * P2 1074 ∧ ofInt n < 0x7ff0000000000000 := by
  rw [ofInt_pos, P2_def]; exact val_Rk n 1074 h (by omega)
end Go.Fl
