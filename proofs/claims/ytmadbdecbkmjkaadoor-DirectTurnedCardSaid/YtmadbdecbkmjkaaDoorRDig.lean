/-
  A rounded number by its digits.
-/
import Derived.Test.YtmadbdecbkmjkaaDoorRBound
namespace Go.Roots
open Go.Fl Ieee

theorem val_q (e q : Nat) (h : q ≤ 9007199254740992) (h2 : e = 0 ∨ 4503599627370496 ≤ q) : val (e * 4503599627370496 + q) = q * 2 ^ e := by
  have h52 : (2 : Nat) ^ 52 = 4503599627370496 := by decide
  unfold val rmag rexp
  rw [h52]
  by_cases h0 : q = 9007199254740992
  · subst h0
    rw [if_neg (by omega), show (e * 4503599627370496 + 9007199254740992) % 4503599627370496 = 0 by omega, show (e * 4503599627370496 + 9007199254740992) / 4503599627370496 - 1 = e + 1 by omega, Nat.pow_succ]
    omega
  · by_cases h1 : q < 4503599627370496
    · obtain rfl : e = 0 := by omega
      rw [Nat.zero_mul, Nat.zero_add, if_pos h1, show q / 4503599627370496 - 1 = 0 by omega]
    · rw [if_neg (by omega), show (e * 4503599627370496 + q) % 4503599627370496 = q - 4503599627370496 by omega, show (e * 4503599627370496 + q) / 4503599627370496 - 1 = e by omega, show 4503599627370496 + (q - 4503599627370496) = q by omega]
theorem rne_err (n d : Nat) : 2 * (rne n d * 2 ^ d) ≤ 2 * n + 2 ^ d ∧ 2 * n ≤ 2 * (rne n d * 2 ^ d) + 2 ^ d := by
  have e := Nat.div_add_mod n (2 ^ d)
  have l := Nat.mod_lt n (Nat.two_pow_pos d)
  unfold rne
  rw [Nat.mul_comm] at e
  generalize n % 2 ^ d = r at *
  generalize n / 2 ^ d = q at *
  split
  · rename_i h
    rw [Nat.add_mul, Nat.one_mul]
    generalize q * 2 ^ d = s at *
    generalize 2 ^ d = p at *
    omega
  · rename_i h
    rw [Nat.add_zero]
    generalize q * 2 ^ d = s at *
    generalize 2 ^ d = p at *
    omega
/-- The rung, by its digits. -/
theorem Rk_digits (N K : Nat) (h : Rk N K < 0x7ff0000000000000) : ∃ e q : Nat, e = N.log2 - (52 + K) ∧ q = rne N (e + K) ∧ q ≤ 9007199254740992 ∧ (e = 0 ∨ 4503599627370496 ≤ q) ∧ Rk N K = e * 4503599627370496 + q ∧ val (Rk N K) = q * 2 ^ e := by
  have h52 : (2 : Nat) ^ 52 = 4503599627370496 := by decide
  have h53 : (2 : Nat) ^ 53 = 9007199254740992 := by decide
  refine ⟨_, _, rfl, rfl, ?_⟩
  have hR : Rk N K = (N.log2 - (52 + K)) * 4503599627370496 + rne N ((N.log2 - (52 + K)) + K) := by
    unfold Rk at h ⊢
    rw [h52] at h ⊢
    omega
  have hq : rne N ((N.log2 - (52 + K)) + K) ≤ 9007199254740992 := by
    rw [← h53]
    apply rne_le
    have := @Nat.lt_log2_self N
    refine Nat.le_trans (Nat.le_of_lt this) (Nat.pow_le_pow_right (by omega) (by omega))
  have hq2 : N.log2 - (52 + K) = 0 ∨ 4503599627370496 ≤ rne N ((N.log2 - (52 + K)) + K) := by
    by_cases h0 : N.log2 - (52 + K) = 0
    · exact .inl h0
    · right
      rw [← h52]
      apply rne_ge
      have hN : N ≠ 0 := by intro e; subst e; simp at h0
      have := (Nat.le_log2 hN).1 (Nat.le_refl N.log2)
      exact Nat.le_trans (Nat.pow_le_pow_right (by omega) (by omega)) this
  refine ⟨hq, hq2, hR, ?_⟩
  rw [hR]
  exact val_q _ _ hq hq2
end Go.Roots
