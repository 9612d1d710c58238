/-
  The walks of direct.Inverse at bad lengths, and of Slide.
-/
import Derived.Test.YtnkcjbabfckdgaaDoorDInv
namespace Go.Proofs.YtnkcjbabfckdgaaDoor
open Go Go.RowKit Go.Fl Go.Roots
def csub (p q : Nat × Nat) : Nat × Nat := (sub p.1 q.1, sub p.2 q.2)
def slid (f : Nat → Nat × Nat) (n : Nat) (u v : Nat × Nat) (k : Nat) : Nat × Nat := twist (cadd (csub (f k) u) v) n (-(k : Int))
theorem root_back (n k : Int) : root n (n - k) = root n (-k) := by
  have e : (n - k) % n = (-k) % n := by rw [show n - k = -k + n from by omega, Int.add_emod_right]
  unfold root pair pairP; rw [e]
theorem neg_mod (n k : Nat) (h0 : 0 < k) (h1 : k < n) : (-(k : Int)) % (n : Int) ≠ 0 := by
  rw [show -(k : Int) = (n : Int) - k + n * (-1) from by omega, Int.add_mul_emod_self_left, Int.emod_eq_of_lt (by omega) (by omega)]; omega
theorem slid_zero (f : Nat → Nat × Nat) (n : Nat) (u v : Nat × Nat) : slid f n u v 0 = cadd (csub (f 0) u) v := by
  unfold slid twist; rw [if_pos (by simp)]
theorem slid_pos (f : Nat → Nat × Nat) (n : Nat) (u v : Nat × Nat) (k : Nat) (h0 : 0 < k) (h1 : k < n) : slid f n u v k = cmul (cadd (csub (f k) u) v) (root n ((n - k : Nat) : Int)) := by
  unfold slid twist; rw [if_neg (neg_mod n k h0 h1)]
  rw [show ((n - k : Nat) : Int) = (n : Int) - k from by omega, root_back]
end Go.Proofs.YtnkcjbabfckdgaaDoor
