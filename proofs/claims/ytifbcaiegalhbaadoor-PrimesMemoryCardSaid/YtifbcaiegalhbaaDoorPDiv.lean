/-
  Plain arithmetic of the division of two words by one: a digit's guess, made right by at most two steps.
-/
namespace Go.Pr

/-- The guess is right where the test says so. -/
theorem guess_done {b v1 v0 u d q r : Nat} (hq : u = q * v1 + r) (ht : q * v0 ≤ b * r + d) (hv : 0 < v1 * b + v0)
    (hge : (u * b + d) / (v1 * b + v0) ≤ q) : (u * b + d) / (v1 * b + v0) = q := by
  refine Nat.le_antisymm hge ?_
  rw [Nat.le_div_iff_mul_le hv]
  have e : q * (v1 * b + v0) = q * v1 * b + q * v0 := by grind
  rw [e, hq]
  have e2 : (q * v1 + r) * b + d = q * v1 * b + (b * r + d) := by grind
  omega
/-- The guess is too great where the test says so. -/
theorem guess_down {b v1 v0 u d q r : Nat} (hq : u = q * v1 + r) (ht : b * r + d < q * v0) (hv : 0 < v1 * b + v0) : (u * b + d) / (v1 * b + v0) < q := by
  rw [Nat.div_lt_iff_lt_mul hv]
  have e : q * (v1 * b + v0) = q * v1 * b + q * v0 := by grind
  have e2 : (q * v1 + r) * b + d = q * v1 * b + (b * r + d) := by grind
  rw [hq, e, e2]
  omega
theorem guess_lt {b v u d : Nat} (hu : u < v) (hd : d < b) : (u * b + d) / v < b := by
  rw [Nat.div_lt_iff_lt_mul (by omega)]
  have : (u + 1) * b ≤ v * b := Nat.mul_le_mul_right b hu
  rw [Nat.add_mul] at this
  rw [Nat.mul_comm b v]
  omega
/-- The first guess: not below the digit, at most b + 1. -/
theorem guess_first {b v1 v0 u d : Nat} (hd : d < b) (h1 : 0 < v1) : (u * b + d) / (v1 * b + v0) ≤ u / v1 := by
  have h2 : 0 < v1 * b := Nat.mul_pos h1 (by omega)
  have h3 : (u * b + d) / (v1 * b + v0) ≤ (u * b + d) / (v1 * b) := Nat.div_le_div_left (by omega) h2
  have h4 : (u * b + d) / (v1 * b) = u / v1 := by
    rw [Nat.mul_comm v1, ← Nat.div_div_eq_div_mul]
    congr 1
    rw [Nat.mul_comm, Nat.mul_add_div (by omega), Nat.div_eq_of_lt hd, Nat.add_zero]
  omega
theorem guess_most {b v1 v0 u : Nat} (hu : u < v1 * b + v0) (h0 : v0 < b) (h1 : b ≤ 2 * v1) : u / v1 ≤ b + 1 := by
  have hb : 0 < v1 := by omega
  have : u / v1 < b + 2 := by
    rw [Nat.div_lt_iff_lt_mul hb, Nat.add_mul, Nat.mul_comm b]
    omega
  omega
/-- The second digit's step: what is left of the first is below v, and it is the rest. -/
theorem rest_eq (b v u d : Nat) : u * b + d - (u * b + d) / v * v = (u * b + d) % v := by
  have := Nat.mod_add_div (u * b + d) v
  rw [Nat.mul_comm v] at this
  omega
theorem rest_wrap {x y m B : Nat} (hm : m < B) (e : x = y + m) : ((x % B + (B - y % B)) % B) = m := by
  subst e
  rw [Nat.mod_add_mod]
  have := Nat.mod_add_div y B
  have h2 := Nat.mod_lt y (show 0 < B by omega)
  rw [show y + m + (B - y % B) = m + B * (y / B + 1) by rw [Nat.mul_add]; omega, Nat.add_mul_mod_self_left, Nat.mod_eq_of_lt hm]
/-- Both digits. -/
theorem two_digits (b v h d1 d0 : Nat) : ((h * b + d1) % v * b + d0) % v = ((h * b + d1) * b + d0) % v := by
  rw [Nat.add_mod, Nat.mul_mod, Nat.mod_mod, ← Nat.mul_mod, ← Nat.add_mod]
theorem shifted_mod (x y s : Nat) : (x * 2 ^ s) % (y * 2 ^ s) / 2 ^ s = x % y := by
  rw [Nat.mul_mod_mul_right, Nat.mul_div_cancel _ (Nat.pow_pos (by omega))]
end Go.Pr
