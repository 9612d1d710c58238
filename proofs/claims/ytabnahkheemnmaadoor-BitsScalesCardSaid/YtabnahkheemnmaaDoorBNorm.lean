/-
  Plain laws of layer 1: bit operations on words; a word's first digit and its power of two; products that are exact.
-/
import Derived.Test.YtabnahkheemnmaaDoorBOrd
import Derived.Laws.Bits64b
namespace Go.Proofs.YtabnahkheemnmaaDoor
open Go Go.RowKit Go.Fl

/-! ### Bits -/
theorem and_split (x y l m k : Nat) (hl : l < 2 ^ k) (hm : m < 2 ^ k) : (2 ^ k * x + l) &&& (2 ^ k * y + m) = 2 ^ k * (x &&& y) + (l &&& m) := by
  have h : l &&& m < 2 ^ k := Nat.and_lt_two_pow _ hm
  apply Nat.eq_of_testBit_eq
  intro i
  rw [Nat.testBit_and, Nat.testBit_two_pow_mul_add _ hl, Nat.testBit_two_pow_mul_add _ hm, Nat.testBit_two_pow_mul_add _ h]
  split
  · rw [Nat.testBit_and]
  · rw [Nat.testBit_and]
theorem or_split (x y l m k : Nat) (hl : l < 2 ^ k) (hm : m < 2 ^ k) : (2 ^ k * x + l) ||| (2 ^ k * y + m) = 2 ^ k * (x ||| y) + (l ||| m) := by
  have h : l ||| m < 2 ^ k := Nat.or_lt_two_pow hl hm
  apply Nat.eq_of_testBit_eq
  intro i
  rw [Nat.testBit_or, Nat.testBit_two_pow_mul_add _ hl, Nat.testBit_two_pow_mul_add _ hm, Nat.testBit_two_pow_mul_add _ h]
  split
  · rw [Nat.testBit_or]
  · rw [Nat.testBit_or]
theorem bits_andNot_u64_nat (a b : Nat) (ha : a < 18446744073709551616) (hb : b < 18446744073709551616) :
    bits .andNot .u64 (a : Int) (b : Int) = ((a &&& (18446744073709551615 - b) : Nat) : Int) := by
  have h1 : (BitVec.ofInt 64 (a : Int)).toNat = a := by
    rw [BitVec.ofInt_natCast, BitVec.toNat_ofNat]; exact Nat.mod_eq_of_lt (by omega)
  have h2 : (BitVec.ofInt 64 (b : Int)).toNat = b := by
    rw [BitVec.ofInt_natCast, BitVec.toNat_ofNat]; exact Nat.mod_eq_of_lt (by omega)
  have hx : a &&& (18446744073709551615 - b) < 2 ^ 64 := Nat.and_lt_two_pow _ (by omega)
  show IntKind.u64.wrap ((BitVec.ofInt 64 (a : Int) &&& ~~~ BitVec.ofInt 64 (b : Int)).toNat : Int) = _
  rw [BitVec.toNat_and, BitVec.toNat_not, h1, h2, IntKind.wrap_u64]
  have e : 2 ^ 64 - 1 - b = 18446744073709551615 - b := by omega
  rw [e]
  omega
theorem and_mask (x k : Nat) : x &&& (2 ^ k - 1) = x % 2 ^ k := Nat.and_two_pow_sub_one_eq_mod x k
/-- A word's sign, as a weight; the rest of it. -/
def sw (a : Nat) : Nat := a / 9223372036854775808 * 9223372036854775808
def lo (a : Nat) : Nat := a % 9223372036854775808
theorem sw_lo (a : Nat) : a = sw a + lo a := by unfold sw lo; omega
theorem lo_lt (a : Nat) : lo a < 9223372036854775808 := by unfold lo; omega
theorem sw_cases {a : Nat} (h : a < 18446744073709551616) : (sw a = 0 ∧ a = lo a) ∨ (sw a = 9223372036854775808 ∧ a = 9223372036854775808 + lo a) := by unfold sw lo; omega
theorem sw_add {a x : Nat} (h : a < 18446744073709551616) (hx : x < 9223372036854775808) : sw (sw a + x) = sw a ∧ lo (sw a + x) = x ∧ sw a + x < 18446744073709551616 := by
  rcases sw_cases h with ⟨e, _⟩ | ⟨e, _⟩ <;> rw [e] <;> unfold sw lo <;> omega
theorem word_of {a : Nat} (h : a < 18446744073709551616) : ∃ s, a = Ieee.double.word s (lo a) ∧ ∀ x, Ieee.double.word s x = sw a + x := by
  have hs := signWeight_double
  rcases sw_cases h with ⟨e, e2⟩ | ⟨e, e2⟩
  · refine ⟨false, ?_, fun x => ?_⟩ <;> unfold Ieee.Format.word <;> simp <;> omega
  · refine ⟨true, ?_, fun x => ?_⟩ <;> unfold Ieee.Format.word <;> simp [hs] <;> omega
theorem b_andNot_sign {a : Nat} (h : a < 18446744073709551616) : bits .andNot .u64 (a : Int) 9223372036854775808 = ((lo a : Nat) : Int) := by
  have := bits_andNot_u64_nat a 9223372036854775808 h (by decide)
  rw [show (18446744073709551615 - 9223372036854775808 : Nat) = 2 ^ 63 - 1 by decide, and_mask] at this
  exact this
theorem b_and_sign {a : Nat} (h : a < 18446744073709551616) : bits .and .u64 (a : Int) 9223372036854775808 = ((sw a : Nat) : Int) := by
  have h1 := bits_and_u64_nat a 9223372036854775808 h (by decide)
  have h2 := and_split (a / 9223372036854775808) 1 (lo a) 0 63 (lo_lt a) (by decide)
  rw [show 2 ^ 63 * (a / 9223372036854775808) + lo a = a by unfold lo; omega, show 2 ^ 63 * 1 + 0 = 9223372036854775808 by decide] at h2
  rw [h2] at h1
  have h3 : a / 9223372036854775808 &&& 1 = a / 9223372036854775808 := by
    have := and_mask (a / 9223372036854775808) 1
    rw [show (2 ^ 1 - 1 : Nat) = 1 by decide] at this
    rw [this]; omega
  rw [h3, Nat.and_zero] at h1
  refine h1.trans ?_
  unfold sw; omega
theorem b_or_sign {a x : Nat} (h : a < 18446744073709551616) (hx : x < 9223372036854775808) : bits .or .u64 (x : Int) ((sw a : Nat) : Int) = ((sw a + x : Nat) : Int) := by
  have hs : sw a < 18446744073709551616 := by unfold sw; omega
  have h1 := bits_or_u64_nat x (sw a) (by omega) hs
  have h2 := or_split 0 (a / 9223372036854775808) x 0 63 hx (by decide)
  rw [show 2 ^ 63 * 0 + x = x by omega, show 2 ^ 63 * (a / 9223372036854775808) + 0 = sw a by unfold sw; omega, Nat.zero_or, Nat.or_zero] at h2
  rw [h2] at h1
  refine h1.trans ?_
  unfold sw; omega
theorem b_and_inf {a : Nat} (h : a < 18446744073709551616) : bits .and .u64 (a : Int) 9218868437227405312 = ((a / 4503599627370496 % 2048 * 4503599627370496 : Nat) : Int) := by
  have h1 := bits_and_u64_nat a 9218868437227405312 h (by decide)
  have h2 := and_split (a / 4503599627370496) 2047 (a % 4503599627370496) 0 52 (by omega) (by decide)
  rw [show 2 ^ 52 * (a / 4503599627370496) + a % 4503599627370496 = a by omega, show 2 ^ 52 * 2047 + 0 = 9218868437227405312 by decide] at h2
  have h3 := and_mask (a / 4503599627370496) 11
  rw [show (2 ^ 11 - 1 : Nat) = 2047 by decide] at h3
  rw [h2, h3, Nat.and_zero] at h1
  refine h1.trans ?_
  omega
theorem b_and_2047 {x : Nat} (h : x < 18446744073709551616) : bits .and .u64 (x : Int) 2047 = ((x % 2048 : Nat) : Int) := by
  have h1 := bits_and_u64_nat x 2047 h (by decide)
  have h3 := and_mask x 11
  rw [show (2 ^ 11 - 1 : Nat) = 2047 by decide] at h3
  rw [h3] at h1
  exact h1
theorem b_and_1 {x : Nat} (h : x < 18446744073709551616) : bits .and .u64 (x : Int) 1 = ((x % 2 : Nat) : Int) := by
  have h1 := bits_and_u64_nat x 1 h (by decide)
  have h3 := and_mask x 1
  rw [show (2 ^ 1 - 1 : Nat) = 1 by decide] at h3
  rw [h3] at h1
  exact h1
theorem b_and_mask {x : Nat} (k : Nat) (hk : k ≤ 63) (h : x < 18446744073709551616) : bits .and .u64 (x : Int) (((2 ^ k - 1 : Nat)) : Int) = ((x % 2 ^ k : Nat) : Int) := by
  have : 2 ^ k ≤ 2 ^ 63 := Nat.pow_le_pow_right (by decide) hk
  have h1 := bits_and_u64_nat x (2 ^ k - 1) h (by omega)
  rw [and_mask] at h1
  exact h1
theorem b_andNot_inf {a : Nat} (h : a < 18446744073709551616) : bits .andNot .u64 (a : Int) 9218868437227405312 = ((sw a + a % 4503599627370496 : Nat) : Int) := by
  have h1 := bits_andNot_u64_nat a 9218868437227405312 h (by decide)
  have h2 := and_split (a / 4503599627370496) 2048 (a % 4503599627370496) 4503599627370495 52 (by omega) (by decide)
  rw [show 2 ^ 52 * (a / 4503599627370496) + a % 4503599627370496 = a by omega, show 2 ^ 52 * 2048 + 4503599627370495 = 18446744073709551615 - 9218868437227405312 by decide] at h2
  have h3 := and_split (a / 9223372036854775808) 1 (a / 4503599627370496 % 2048) 0 11 (by omega) (by decide)
  rw [show 2 ^ 11 * (a / 9223372036854775808) + a / 4503599627370496 % 2048 = a / 4503599627370496 by omega, show 2 ^ 11 * 1 + 0 = 2048 by decide] at h3
  have h5 := and_mask (a / 9223372036854775808) 1
  rw [show (2 ^ 1 - 1 : Nat) = 1 by decide] at h5
  have h4 := and_mask (a % 4503599627370496) 52
  rw [show (2 ^ 52 - 1 : Nat) = 4503599627370495 by decide] at h4
  rw [h2, h3, h4, h5, Nat.and_zero] at h1
  refine h1.trans ?_
  unfold sw; omega
theorem b_or_half {a m : Nat} (h : a < 18446744073709551616) (hm : m < 4503599627370496) : bits .or .u64 ((sw a + m : Nat) : Int) 4602678819172646912 = ((sw a + (4602678819172646912 + m) : Nat) : Int) := by
  have hs : sw a + m < 18446744073709551616 := (sw_add h (by omega)).2.2
  have h1 := bits_or_u64_nat (sw a + m) 4602678819172646912 hs (by decide)
  have h2 := or_split (a / 9223372036854775808 * 2048) 1022 m 0 52 hm (by decide)
  rw [show 2 ^ 52 * (a / 9223372036854775808 * 2048) + m = sw a + m by unfold sw; omega, show 2 ^ 52 * 1022 + 0 = 4602678819172646912 by decide] at h2
  have h3 := or_split (a / 9223372036854775808) 0 0 1022 11 (by decide) (by decide)
  rw [show 2 ^ 11 * (a / 9223372036854775808) + 0 = a / 9223372036854775808 * 2048 by omega, show 2 ^ 11 * 0 + 1022 = 1022 by decide, Nat.or_zero, Nat.zero_or] at h3
  rw [h2, h3, Nat.or_zero] at h1
  refine h1.trans ?_
  unfold sw; omega

/-! ### The first digit -/
/-- By how much a finite number that is not nought is moved up till its first digit stands at 2^52; the digits; the power of two, 2^-1074 being 0. -/
def nl (r : Nat) : Nat := 52 - (rmag r).log2
def nM (r : Nat) : Nat := rmag r * 2 ^ nl r
def nE (r : Nat) : Int := (rexp r : Int) - nl r
theorem nl_normal {r : Nat} (h : 4503599627370496 ≤ r) : nl r = 0 := by
  unfold nl rmag
  rw [if_neg (by omega)]
  have : 52 ≤ (2 ^ 52 + r % 2 ^ 52).log2 := (Nat.le_log2 (by omega)).2 (by omega)
  omega
theorem nM_normal {r : Nat} (h : 4503599627370496 ≤ r) : nM r = 4503599627370496 + r % 4503599627370496 := by
  unfold nM
  rw [nl_normal h]
  unfold rmag
  rw [if_neg (by omega)]
  omega
theorem nE_normal {r : Nat} (h : 4503599627370496 ≤ r) : nE r = ((r / 4503599627370496 : Nat) : Int) - 1 := by
  unfold nE
  rw [nl_normal h]
  unfold rexp
  have : 1 ≤ r / 2 ^ 52 := by omega
  omega
theorem nl_small {r : Nat} (h0 : 0 < r) (h : r < 4503599627370496) : nl r = 52 - r.log2 ∧ r.log2 < 52 ∧ 2 ^ r.log2 ≤ r ∧ r < 2 ^ (r.log2 + 1) := by
  unfold nl rmag
  rw [if_pos (by omega)]
  exact ⟨rfl, (Nat.log2_lt (by omega)).2 (by omega), Nat.log2_self_le (by omega), Nat.lt_log2_self⟩
theorem nM_small {r : Nat} (h0 : 0 < r) (h : r < 4503599627370496) : nM r = r * 2 ^ (52 - r.log2) ∧ 4503599627370496 ≤ nM r ∧ nM r < 9007199254740992 := by
  obtain ⟨h1, h2, h3, h4⟩ := nl_small h0 h
  have e : nM r = r * 2 ^ (52 - r.log2) := by
    unfold nM
    rw [h1]
    unfold rmag
    rw [if_pos (by omega)]
  refine ⟨e, ?_, ?_⟩
  · rw [e]
    calc (4503599627370496 : Nat) = 2 ^ r.log2 * 2 ^ (52 - r.log2) := by rw [← Nat.pow_add, show r.log2 + (52 - r.log2) = 52 by omega]
      _ ≤ _ := Nat.mul_le_mul_right _ h3
  · rw [e]
    calc r * 2 ^ (52 - r.log2) < 2 ^ (r.log2 + 1) * 2 ^ (52 - r.log2) := Nat.mul_lt_mul_of_pos_right h4 (Nat.two_pow_pos _)
      _ = 9007199254740992 := by rw [← Nat.pow_add, show r.log2 + 1 + (52 - r.log2) = 53 by omega]
theorem nE_small {r : Nat} (h0 : 0 < r) (h : r < 4503599627370496) : nE r = (r.log2 : Int) - 52 := by
  obtain ⟨h1, h2, _, _⟩ := nl_small h0 h
  unfold nE
  rw [h1]
  unfold rexp
  rw [Nat.div_eq_of_lt (by omega)]
  omega
theorem nM_bound {r : Nat} (h0 : 0 < r) : 4503599627370496 ≤ nM r ∧ nM r < 9007199254740992 := by
  rcases Nat.lt_or_ge r 4503599627370496 with h | h
  · exact (nM_small h0 h).2
  · rw [nM_normal h]; omega
theorem nE_bound {r : Nat} (h0 : 0 < r) (hr : r < 9218868437227405312) : -52 ≤ nE r ∧ nE r ≤ 2045 := by
  rcases Nat.lt_or_ge r 4503599627370496 with h | h
  · have := (nl_small h0 h).2.1
    rw [nE_small h0 h]; omega
  · rw [nE_normal h]; omega

/-! ### Exact products -/
theorem Rk_exact (M e : Nat) (h1 : 4503599627370496 ≤ M) (h2 : M < 9007199254740992) (he : e ≤ 2045) : Rk (M * 2 ^ e) 0 = e * 4503599627370496 + M := by
  have hl : (M * 2 ^ e).log2 = 52 + e := by
    rw [log2_shift (by omega)]
    have h3 : 52 ≤ M.log2 := (Nat.le_log2 (by omega)).2 (by omega)
    have h4 : M.log2 < 53 := (Nat.log2_lt (by omega)).2 (by omega)
    omega
  unfold Rk
  rw [hl, show 52 + e - (52 + 0) = e by omega, Nat.add_zero, rne_exact]
  omega
theorem mul_sw {a c : Nat} (ha : a < 18446744073709551616) (h : lo a < 9218868437227405312) (hc : c < 9218868437227405312) : mul a c = sw a + Rk (val (lo a) * val c) 1074 := by
  obtain ⟨s, e1, e2⟩ := word_of ha
  have := mul_words s false (lo a) c h hc
  rw [← e1, word_false, Bool.xor_false, e2] at this
  exact this
/-- A word with this power of two: the value of 2^(k - 1023). -/
theorem val_pow (k : Nat) (h : 1 ≤ k) : val (k * 4503599627370496) = P2 (51 + k) := by
  rw [P2_def]
  unfold val rmag rexp
  rw [if_neg (by omega), show k * 4503599627370496 % 2 ^ 52 = 0 by omega, show k * 4503599627370496 / 2 ^ 52 = k by omega, Nat.add_zero, ← Nat.pow_add]
  congr 1; omega
theorem val_form (e M : Nat) (h1 : 4503599627370496 ≤ M) (h2 : M < 9007199254740992) : val (e * 4503599627370496 + M) = M * P2 e := by
  rw [P2_def]
  unfold val rmag rexp
  rw [if_neg (by omega), show 2 ^ 52 + (e * 4503599627370496 + M) % 2 ^ 52 = M by omega, show (e * 4503599627370496 + M) / 2 ^ 52 - 1 = e by omega]
theorem Rk_prod (M e : Nat) (h1 : 4503599627370496 ≤ M) (h2 : M < 9007199254740992) (he : e ≤ 2045) : Rk (M * P2 (e + 1074)) 1074 = e * 4503599627370496 + M := by
  have h6 := Rk_scaleP0 (M * P2 e) 1074
  rw [Nat.mul_assoc, P2_mul] at h6
  rw [h6, P2_def, Rk_exact M e h1 h2 he]
theorem mul_pow {a e M k : Nat} (ha : a < 18446744073709551616) (hl : lo a = e * 4503599627370496 + M) (h1 : 4503599627370496 ≤ M) (h2 : M < 9007199254740992) (he : e ≤ 2045) (hk : 1 ≤ k) (hk2 : k ≤ 2046) (h3 : 1023 ≤ e + k) (h4 : e + k ≤ 3068) :
    mul a (k * 4503599627370496) = sw a + ((e + k - 1023) * 4503599627370496 + M) := by
  rw [mul_sw ha (by omega) (by omega), hl, val_form e M h1 h2, val_pow k hk, Nat.mul_assoc, P2_mul, show e + (51 + k) = (e + k - 1023) + 1074 by omega, Rk_prod M _ h1 h2 (by omega)]
theorem mul_small {a : Nat} (ha : a < 18446744073709551616) (h0 : 0 < lo a) (h : lo a < 4503599627370496) : mul a 4841369599423283200 = sw a + ((lo a).log2 * 4503599627370496 + nM (lo a)) := by
  obtain ⟨e1, e2, e3⟩ := nM_small h0 h
  obtain ⟨_, h2, _, _⟩ := nl_small h0 h
  have hv : val (lo a) = lo a := by unfold val rmag rexp; rw [if_pos (by omega), Nat.div_eq_of_lt (by omega)]; simp
  have hv2 := val_pow 1075 (by decide)
  rw [show 1075 * 4503599627370496 = 4841369599423283200 by decide] at hv2
  rw [mul_sw ha (by omega) (by decide), hv, hv2]
  have h7 := Rk_prod (nM (lo a)) (lo a).log2 e2 e3 (by omega)
  have h8 : lo a * P2 (51 + 1075) = nM (lo a) * P2 ((lo a).log2 + 1074) := by
    rw [e1, ← P2_def, Nat.mul_assoc, P2_mul, show 52 - (lo a).log2 + ((lo a).log2 + 1074) = 51 + 1075 by omega]
  rw [h8, h7]
end Go.Proofs.YtabnahkheemnmaaDoor
