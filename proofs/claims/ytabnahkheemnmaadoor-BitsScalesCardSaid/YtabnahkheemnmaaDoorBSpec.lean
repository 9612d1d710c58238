/-
  Plain laws of layer 1: the line of floats; places and words.
-/
import Derived.Test.YtabnahkheemnmaaDoorSame
namespace Go.Proofs.YtabnahkheemnmaaDoor
open Go Go.RowKit Go.Fl

/-- Where a word stands on the line. -/
def pl (b : Nat) : Int := if b < 9223372036854775808 then (b : Int) else -1 - ((b : Int) - 9223372036854775808)
/-- The word at a place. -/
def atw (p : Int) : Nat := if p < 0 then (9223372036854775808 + (-1 - p)).toNat else p.toNat
theorem isN_iff (b : Nat) : isN b = true ↔ 9218868437227405312 < b % 9223372036854775808 := by
  rw [isN_mod]
  simp
  omega
theorem not_isN {b : Nat} (h : isN b = false) : b % 9223372036854775808 ≤ 9218868437227405312 := by
  have h1 := isN_iff b
  rw [h] at h1
  rcases Nat.lt_or_ge 9218868437227405312 (b % 9223372036854775808) with c | c
  · exact absurd (h1.2 c) (by decide)
  · exact c
theorem isN_of_le {b : Nat} (h : b % 9223372036854775808 ≤ 9218868437227405312) : isN b = false := by
  cases hh : isN b with
  | false => rfl
  | true => have := (isN_iff b).1 hh; omega
/-- A word of 64 bits that is no NaN. -/
def Num (b : Nat) : Prop := b < 18446744073709551616 ∧ isN b = false
theorem Num.cn {b : Nat} (h : Num b) : cn b = b := cn_of_not b h.2
theorem Num.bound {b : Nat} (h : Num b) : b ≤ 9218868437227405312 ∨ (9223372036854775808 ≤ b ∧ b ≤ 9223372036854775808 + 9218868437227405312) := by
  have h1 := not_isN h.2
  have h2 := h.1
  omega
theorem Num.pl_bound {b : Nat} (h : Num b) : -9218868437227405313 ≤ pl b ∧ pl b ≤ 9218868437227405312 := by
  have h1 := h.bound
  unfold pl
  split <;> omega
theorem pl_inj {a b : Nat} (e : pl a = pl b) : a = b := by
  unfold pl at e
  split at e <;> split at e <;> omega
theorem atw_pl (b : Nat) : atw (pl b) = b := by
  unfold atw pl
  split <;> split <;> omega
theorem pl_atw {p : Int} (h1 : -9223372036854775808 ≤ p) (h2 : p < 9223372036854775808) : pl (atw p) = p := by
  unfold atw pl
  split <;> split <;> omega
theorem atw_num {p : Int} (h1 : -9218868437227405313 ≤ p) (h2 : p ≤ 9218868437227405312) : Num (atw p) := by
  have hb : atw p < 18446744073709551616 ∧ atw p % 9223372036854775808 ≤ 9218868437227405312 := by
    unfold atw
    split <;> omega
  exact ⟨hb.1, isN_of_le hb.2⟩
/-- The place that the program tells: 0 for a NaN. -/
def place (b : Nat) : Int := if isN b = true then 0 else pl b
/-- The order of the line. -/
def cmpB (a b : Nat) : Int := if isN a = true then (if isN b = true then 0 else 1) else if isN b = true then -1 else if pl a < pl b then -1 else if pl b < pl a then 1 else 0
/-- The next one, and the one ahead. -/
def upB (b : Nat) : Nat := if isN b = true ∨ pl b = 9218868437227405312 then b else atw (pl b + 1)
def downB (b : Nat) : Nat := if isN b = true ∨ pl b = -9218868437227405313 then b else atw (pl b - 1)
/-- The distance. -/
def apartB (a b : Nat) : Nat := (max (pl a) (pl b) - min (pl a) (pl b)).toNat
theorem ord_self (b : Nat) : (ord (cn b) (cn b) == some .eq) = !isN b := by
  rw [ord_cn]
  unfold ord Ieee.Format.order isN
  cases Ieee.double.read b with
  | nan s t => rfl
  | infinity s => cases s <;> rfl
  | number s m p =>
    simp only [Ieee.Datum.isNaN, Bool.not_false]
    unfold Ieee.Datum.order
    simp
end Go.Proofs.YtabnahkheemnmaaDoor
