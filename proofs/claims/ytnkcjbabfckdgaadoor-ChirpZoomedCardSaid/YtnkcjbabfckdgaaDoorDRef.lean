/-
  The walks of the reference of layer 10: prod, Plus, Less, Conj, At.
-/
import Derived.Test.YtnkcjbabfckdgaaDoorDAt
import Derived.StillTailTactics
namespace Go.Proofs.YtnkcjbabfckdgaaDoor
open Go Go.RowKit Go.Fl Go.Roots
set_option maxRecDepth 100000 in
set_option maxHeartbeats 400000 in
theorem Plus_any (a b c d : Nat) (w : World) :
    Calls Tryd.prog 38 #[.complex .f64 a b, .complex .f64 c d] w fun e w' => ∃ x y, e = .returned (.complex .f64 x y) ∧ cn x = (cadd (cn a, cn b) (cn c, cn d)).1 ∧ cn y = (cadd (cn a, cn b) (cn c, cn d)).2 ∧ Kp w w' := by
  go_enter Tryd.func38, Tryd.ntmps38
  go_wp2_with ((with_reducible apply wpList_fl .add rfl); exact rfl; exact rfl; intro r1 m1 hr1)
  go_ret
  exact ⟨_, _, rfl, by simp only [cadd, *, fl_add'], by simp only [cadd, *, fl_add'], (Kp.refl _).drewN _⟩
end Go.Proofs.YtnkcjbabfckdgaaDoor
