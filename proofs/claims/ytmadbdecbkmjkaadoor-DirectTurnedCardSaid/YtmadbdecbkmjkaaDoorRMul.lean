/-
  The walks of cplx.Mul and of the reference's Mul and Twist.
-/
import Derived.Test.YtmadbdecbkmjkaaDoorRApi
import Derived.Test.YtmadbdecbkmjkaaDoorRRef2
namespace Go.Proofs.YtmadbdecbkmjkaaDoor
open Go Go.RowKit Go.Fl Go.Roots

set_option maxRecDepth 100000 in
set_option maxHeartbeats 400000 in
theorem Mul_any (a b c d : Nat) (w : World) :
    Calls Tryd.prog 38 #[.complex .f64 a b, .complex .f64 c d] w fun e w' => ∃ x y, e = .returned (.complex .f64 x y) ∧ cn x = (cmul (cn a, cn b) (cn c, cn d)).1 ∧ cn y = (cmul (cn a, cn b) (cn c, cn d)).2 ∧ Kp w w' := by
  go_enter Tryd.func38, Tryd.ntmps38
  go_wp2_with (first
    | ((with_reducible apply wpList_fl .mul rfl); exact rfl; exact rfl; intro r1 n1 hr1)
    | ((with_reducible apply wpList_fl .sub rfl); exact rfl; exact rfl; intro r1 n1 hr1)
    | ((with_reducible apply wpList_fl .add rfl); exact rfl; exact rfl; intro r1 n1 hr1))
  go_ret
  refine ⟨_, _, rfl, ?_, ?_, ?_⟩
  · simp only [cmul, *, fl_mul', fl_sub', fl_add']
  · simp only [cmul, *, fl_mul', fl_sub', fl_add']
  · repeat (first | exact Kp.refl _ | refine Kp.drewN ?_ _ | refine Kp.trans ?_ (by assumption))

set_option maxRecDepth 100000 in
set_option maxHeartbeats 400000 in
theorem rMul_any (a b c d : Nat) (w : World) :
    Calls Tryd.prog 52 #[.complex .f64 a b, .complex .f64 c d] w fun e w' => ∃ x y, e = .returned (.complex .f64 x y) ∧ cn x = (cmul (cn a, cn b) (cn c, cn d)).1 ∧ cn y = (cmul (cn a, cn b) (cn c, cn d)).2 ∧ Kp w w' := by
  go_enter Tryd.func52, Tryd.ntmps52
  go_wp2_with (first
    | ((with_reducible apply wpList_fl .mul rfl); exact rfl; exact rfl; intro r1 n1 hr1)
    | ((with_reducible apply wpList_fl .sub rfl); exact rfl; exact rfl; intro r1 n1 hr1)
    | ((with_reducible apply wpList_fl .add rfl); exact rfl; exact rfl; intro r1 n1 hr1))
  go_ret
  refine ⟨_, _, rfl, ?_, ?_, ?_⟩
  · simp only [cmul, *, fl_mul', fl_sub', fl_add']
  · simp only [cmul, *, fl_mul', fl_sub', fl_add']
  · repeat (first | exact Kp.refl _ | refine Kp.drewN ?_ _ | refine Kp.trans ?_ (by assumption))

set_option maxRecDepth 100000 in
set_option maxHeartbeats 400000 in
theorem rTwist_any (a b : Nat) (n k : Int) (w : World) (h1 : 1 ≤ n) (h2 : n ≤ 4194304) :
    Calls Tryd.prog 41 #[.complex .f64 a b, .int .i64 n, .int .i64 k] w fun e w' => ∃ x y, e = .returned (.complex .f64 x y) ∧ cn x = (twist (cn a, cn b) n k).1 ∧ cn y = (twist (cn a, cn b) n k).2 ∧ Kp w w' := by
  by_cases hz : k % n = 0
  · have ht : twist (cn a, cn b) n k = (cn a, cn b) := by unfold twist; rw [if_pos hz]
    rw [ht]
    have hb : (k % n == 0) = true := by simpa using hz
    clear hz ht
    go_enter Tryd.func41, Tryd.ntmps41
    go_wp2_with (go_at_call 50; (with_reducible refine (rMod_any _ _ _ h1 (by omega)).mono ?_); rintro e w1 ⟨rfl, rfl⟩)
    go_ret
    exact ⟨_, _, rfl, rfl, rfl, Kp.refl _⟩
  · have ht : twist (cn a, cn b) n k = cmul (cn a, cn b) (root n k) := by unfold twist; rw [if_neg hz]
    rw [ht]
    have hb : (k % n == 0) = false := by simpa using hz
    clear hz ht
    go_enter Tryd.func41, Tryd.ntmps41
    go_wp2_with (first
      | (go_at_call 51; (with_reducible refine (rRoot_any _ _ _ (by omega) (by omega)).mono ?_); rintro e w2 ⟨c, s, rfl, hc, hs, hk2⟩)
      | (go_at_call 50; (with_reducible refine (rMod_any _ _ _ h1 (by omega)).mono ?_); rintro e w1 ⟨rfl, rfl⟩)
      | (go_at_call 52; (with_reducible refine (rMul_any _ _ _ _ _).mono ?_); rintro e w1 ⟨x, y, rfl, hx, hy, hk3⟩))
    go_ret
    refine ⟨_, _, rfl, ?_, ?_, hk2.trans hk3⟩
    · rw [hx, hc, hs]
    · rw [hy, hc, hs]
end Go.Proofs.YtmadbdecbkmjkaaDoor
