/-
  The walks of roots.Twist; of RootsTwist.
-/
import Derived.Test.YtnkcjbabfckdgaaDoorRReck
import Derived.Test.YtnkcjbabfckdgaaDoorRMul
namespace Go.Proofs.YtnkcjbabfckdgaaDoor
open Go Go.RowKit Go.Fl Go.Roots

set_option maxRecDepth 100000 in
set_option maxHeartbeats 400000 in
theorem Twist_any (a b : Nat) (n k : Int) (w : World) (h1 : 1 ≤ n) (h2 : n ≤ 4194304) :
    Calls Tryd.prog 35 #[.complex .f64 a b, .int .i64 n, .int .i64 k] w fun e w' => ∃ x y, e = .returned (.tuple #[.complex .f64 x y, .nilIface]) ∧ cn x = (twist (cn a, cn b) n k).1 ∧ cn y = (twist (cn a, cn b) n k).2 ∧ Kp w w' := by
  by_cases hz : k % n = 0
  · have ht : twist (cn a, cn b) n k = (cn a, cn b) := by unfold twist; rw [if_pos hz]
    rw [ht]
    have hb : (k % n == 0) = true := by simpa using hz
    clear hz ht
    go_enter Tryd.func35, Tryd.ntmps35
    go_wp2_with (first
      | (go_at_call 28; (with_reducible refine (Root_any _ _ _ (by omega) (by omega)).mono ?_); rintro e w2 ⟨c, s, rfl, hc, hs, hk2⟩)
      | (go_at_call 47; (with_reducible refine (mod_any _ _ _ h1 (by omega)).mono ?_); rintro e w1 ⟨rfl, rfl⟩))
    go_ret2
    exact ⟨_, _, rfl, rfl, rfl, hk2⟩
  · have ht : twist (cn a, cn b) n k = cmul (cn a, cn b) (root n k) := by unfold twist; rw [if_neg hz]
    rw [ht]
    have hb : (k % n == 0) = false := by simpa using hz
    clear hz ht
    go_enter Tryd.func35, Tryd.ntmps35
    go_wp2_with (first
      | (go_at_call 28; (with_reducible refine (Root_any _ _ _ (by omega) (by omega)).mono ?_); rintro e w2 ⟨c, s, rfl, hc, hs, hk2⟩)
      | (go_at_call 47; (with_reducible refine (mod_any _ _ _ h1 (by omega)).mono ?_); rintro e w1 ⟨rfl, rfl⟩)
      | (go_at_call 48; (with_reducible refine (Mul_any _ _ _ _ _).mono ?_); rintro e w1 ⟨x, y, rfl, hx, hy, hk3⟩))
    go_ret2
    refine ⟨_, _, rfl, ?_, ?_, hk2.trans hk3⟩
    · rw [hx, hc, hs]
    · rw [hy, hc, hs]

set_option maxRecDepth 100000 in
set_option maxHeartbeats 400000 in
theorem Twist_bad (a b : Nat) (n k : Int) (aL : Addr) (w : World) (hL : errAt w 0 aL) (h : n < 1 ∨ 4194304 < n) :
    Calls Tryd.prog 35 #[.complex .f64 a b, .int .i64 n, .int .i64 k] w fun e w' => e = .returned (.tuple #[.complex .f64 0 0, .iface 78 (.pointer (some aL))]) ∧ Kp w w' := by
  have H := Lib.hid h
  clear h
  go_enter Tryd.func35, Tryd.ntmps35
  go_wp2_with (go_at_call 28; (with_reducible refine (Root_bad _ _ aL _ hL H.out).mono ?_); rintro e w2 ⟨rfl, hk2⟩)
  go_ret2
  exact ⟨rfl, hk2⟩

end Go.Proofs.YtnkcjbabfckdgaaDoor
