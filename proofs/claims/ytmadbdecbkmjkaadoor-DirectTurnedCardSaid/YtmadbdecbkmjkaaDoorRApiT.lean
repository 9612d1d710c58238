/-
  The walks of roots.pair at a bad length, Cos, Sin.
-/
import Derived.Test.YtmadbdecbkmjkaaDoorREighth
import Derived.Test.YtmadbdecbkmjkaaDoorErr
namespace Go.Proofs.YtmadbdecbkmjkaaDoor
open Go Go.RowKit Go.Fl Go.Roots

set_option maxRecDepth 100000 in
set_option maxHeartbeats 400000 in
theorem pair_bad (n k : Int) (aL : Addr) (w : World) (hL : errAt w 2 aL) (h : n < 1 ∨ 4194304 < n) :
    Calls Tryd.prog 68 #[.int .i64 n, .int .i64 k] w fun e w' => e = .returned (.tuple #[.float .f64 0, .float .f64 0, .iface 96 (.pointer (some aL))]) ∧ Kp w w' := by
  unfold errAt at hL
  rcases h with h | h
  · have b1 : decide (n < 1) = true := by simpa using h
    go_enter Tryd.func68, Tryd.ntmps68
    go_wp2_with fail
    go_quiet (fail)
    go_wp2_with fail
    go_ret3
    exact ⟨rfl, (Kp.refl _).drewN _⟩
  · have b1 : decide (n < 1) = false := by simp; omega
    have b2 : decide (4194304 < n) = true := by simpa using h
    go_enter Tryd.func68, Tryd.ntmps68
    go_wp2_with fail
    go_quiet (fail)
    go_wp2_with fail
    go_ret3
    exact ⟨rfl, (Kp.refl _).drewN _⟩

end Go.Proofs.YtmadbdecbkmjkaaDoor
