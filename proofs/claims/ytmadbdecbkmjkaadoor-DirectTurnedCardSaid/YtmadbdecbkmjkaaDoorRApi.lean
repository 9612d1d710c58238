/-
  The walks of Eighth, Root.
-/
import Derived.Test.YtmadbdecbkmjkaaDoorRApiT
namespace Go.Proofs.YtmadbdecbkmjkaaDoor
open Go Go.RowKit Go.Fl Go.Roots
set_option maxRecDepth 100000 in
set_option maxHeartbeats 400000 in
theorem Root_any (n k : Int) (w : World) (h1 : 1 ≤ n) (h2 : n ≤ 4194304) :
    Calls Tryd.prog 62 #[.int .i64 n, .int .i64 k] w fun e w' => ∃ c s, e = .returned (.tuple #[.complex .f64 c s, .nilIface]) ∧ cn c = (root n k).1 ∧ cn s = (root n k).2 ∧ Kp w w' := by
  go_enter Tryd.func62, Tryd.ntmps62
  go_wp2_with (first
    | (go_at_call 68; (with_reducible refine (pair_any _ _ _ h1 h2).mono ?_); rintro e w1 ⟨c, s, rfl, hc, hs, hk⟩)
    | (go_at_call 69; (with_reducible refine (plus_any _ _).mono ?_); rintro e w2 ⟨r, rfl, hr, rfl⟩))
  go_ret2
  refine ⟨_, _, rfl, hc, ?_, hk⟩
  rw [hr, cn_negFloat, hs]; rfl

set_option maxRecDepth 100000 in
set_option maxHeartbeats 400000 in
theorem Root_bad (n k : Int) (aL : Addr) (w : World) (hL : errAt w 2 aL) (h : n < 1 ∨ 4194304 < n) :
    Calls Tryd.prog 62 #[.int .i64 n, .int .i64 k] w fun e w' => e = .returned (.tuple #[.complex .f64 0 0, .iface 96 (.pointer (some aL))]) ∧ Kp w w' := by
  have H := Lib.hid h
  clear h
  go_enter Tryd.func62, Tryd.ntmps62
  go_wp2_with (go_at_call 68; (with_reducible refine (pair_bad _ _ aL _ hL H.out).mono ?_); rintro e w1 ⟨rfl, hk⟩)
  go_ret2
  exact ⟨rfl, hk⟩
end Go.Proofs.YtmadbdecbkmjkaaDoor
