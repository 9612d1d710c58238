/-
  Layer 7 as plain functions on floats modulo NaN: the series, the eighth, the pair, the root.
-/
import Derived.Test.YtmadbdecbkmjkaaDoorFl
namespace Go.Roots
open Go.Fl

def ONE : Nat := 4607182418800017408
/-- The float factorials. -/
def F : Nat → Nat
  | 0 => ONE
  | m + 1 => mul (F m) (ofInt (m + 1))
def C (first j : Nat) : Nat := div ONE (F (2 * j + first))
def hor (first y : Nat) : Nat → Nat
  | 0 => C first 8
  | j + 1 => sub (C first (7 - j)) (mul y (hor first y j))
def horner (y first : Nat) : Nat := hor first y 8
def PI2 : Nat := 4618760256179416344
def HALF : Nat := 4604544271217802189
/-- The angle r/n of a turn, as the floats tell it. -/
def ang (r n : Int) : Nat := div (mul PI2 (ofInt r)) (ofInt n)
def eighthG (r n : Int) : Nat × Nat := (horner (mul (ang r n) (ang r n)) 0, mul (ang r n) (horner (mul (ang r n) (ang r n)) 1))
def eighth (r n : Int) : Nat × Nat := if r = 0 then (ONE, 0) else if 8 * r = n then (HALF, HALF) else eighthG r n

/-- 0 for -0. -/
def plus (x : Nat) : Nat := if (ord x 0 == some .eq) = true then 0 else x
/-- Quarter turns. -/
def rot : Nat → Nat × Nat → Nat × Nat
  | 0, p => p
  | k + 1, p => (neg (rot k p).2, (rot k p).1)
def octant (r n : Int) : Nat × Nat := if 2 * r ≤ n then eighth r (4 * n) else ((eighth (n - r) (4 * n)).2, (eighth (n - r) (4 * n)).1)
def pairP (n k : Int) : Nat × Nat := rot (4 * (k % n) / n).toNat (octant (4 * (k % n) % n) n)
def pair (n k : Int) : Nat × Nat := (plus (pairP n k).1, plus (pairP n k).2)
def root (n k : Int) : Nat × Nat := ((pair n k).1, plus (neg (pair n k).2))
def twist (a : Nat × Nat) (n k : Int) : Nat × Nat := if k % n = 0 then a else cmul a (root n k)

/-- What the coefficients' array holds when m is the next number of the factorial loop. -/
def cof (first m j : Nat) : Nat := if 1 ≤ 2 * j + first ∧ 2 * j + first < m then C first j else 0
def arr (first m : Nat) : List Value := (List.range 9).map fun j => .float .f64 (cof first m j)

theorem F_fine : ∀ m, m < 19 → fl .mul (F m) (ofInt (m + 1)) ≠ NAN := by decide +kernel
theorem C_fine : ∀ m, m < 19 → fl .quo ONE (F m) ≠ NAN := by decide +kernel
theorem cn_PI2 : cn 4618760256179416344 = PI2 := by decide +kernel
theorem cn_conv (n : Int) : cn (floatOfInt .f64 n) = ofInt n := cn_ofInt n
theorem C_not : ∀ f, f < 2 → ∀ j, j < 9 → cn (C f j) = C f j := by decide +kernel
theorem cn_horner (y : Nat) : ∀ f, cn (horner y f) = horner y f := fun _ => cn_sub _ _
theorem cn_eighth (r n : Int) : cn (eighth r n).1 = (eighth r n).1 ∧ cn (eighth r n).2 = (eighth r n).2 := by
  unfold eighth
  split
  · exact ⟨by decide +kernel, by decide +kernel⟩
  · split
    · exact ⟨by decide +kernel, by decide +kernel⟩
    · exact ⟨cn_horner _ _, cn_mul _ _⟩
theorem cn_octant (r n : Int) : cn (octant r n).1 = (octant r n).1 ∧ cn (octant r n).2 = (octant r n).2 := by
  unfold octant
  split
  · exact cn_eighth _ _
  · exact ⟨(cn_eighth _ _).2, (cn_eighth _ _).1⟩
end Go.Roots
