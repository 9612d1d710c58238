/-
  The walks of the reference of layer 7: Eighth, Root.
-/
import Derived.Test.YtmadbdecbkmjkaaDoorRRef2T
namespace Go.Proofs.YtmadbdecbkmjkaaDoor
open Go Go.RowKit Go.Fl Go.Roots
theorem plus_neg (x : Nat) : plus (neg x) = if (ord x 0 == some .eq) = true then 0 else neg x := by
  unfold plus; rw [ord_neg_zero]

set_option maxRecDepth 100000 in
set_option maxHeartbeats 400000 in
theorem rRoot_any (n k : Int) (w : World) (h1 : 1 ≤ n) (h2 : n ≤ 4194304) :
    Calls Tryd.prog 51 #[.int .i64 n, .int .i64 k] w fun e w' => ∃ c s, e = .returned (.complex .f64 c s) ∧ cn c = (root n k).1 ∧ cn s = (root n k).2 ∧ Kp w w' := by
  have e0 := cn_0
  by_cases hz : (ord (pair n k).2 0 == some .eq) = true
  · go_enter Tryd.func51, Tryd.ntmps51
    go_wp2_with (go_at_call 63; (with_reducible refine (rpair_any _ _ _ h1 h2).mono ?_); rintro e w1 ⟨c, s, rfl, hc, hs, hk⟩)
    go_ret
    refine ⟨_, _, rfl, hc, ?_, hk⟩
    show cn 0 = plus (neg (pair n k).2)
    rw [plus_neg, if_pos hz, e0]
  · have hz' : (ord (pair n k).2 0 == some .eq) = false := by simpa using hz
    go_enter Tryd.func51, Tryd.ntmps51
    go_wp2_with (go_at_call 63; (with_reducible refine (rpair_any _ _ _ h1 h2).mono ?_); rintro e w1 ⟨c, s, rfl, hc, hs, hk⟩)
    go_ret
    refine ⟨_, _, rfl, hc, ?_, hk⟩
    rw [cn_negFloat, hs]
    show _ = plus (neg (pair n k).2)
    rw [plus_neg, if_neg hz]
end Go.Proofs.YtmadbdecbkmjkaaDoor
