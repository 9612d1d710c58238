/-
  The walks of roots.Twist; of RootsTwist.
-/
import Derived.Test.YtijbkcjbkioefaaDoorRReck
import Derived.Test.YtijbkcjbkioefaaDoorRMul
namespace Go.Proofs.YtijbkcjbkioefaaDoor
open Go Go.RowKit Go.Fl Go.Roots

set_option maxRecDepth 100000 in
set_option maxHeartbeats 400000 in
theorem Twist_any (a b : Nat) (n k : Int) (w : World) (h1 : 1 ≤ n) (h2 : n ≤ 4194304) :
    Calls Tryd.prog 28 #[.complex .f64 a b, .int .i64 n, .int .i64 k] w fun e w' => ∃ x y, e = .returned (.tuple #[.complex .f64 x y, .nilIface]) ∧ cn x = (twist (cn a, cn b) n k).1 ∧ cn y = (twist (cn a, cn b) n k).2 ∧ Kp w w' := by
  by_cases hz : k % n = 0
  · have ht : twist (cn a, cn b) n k = (cn a, cn b) := by unfold twist; rw [if_pos hz]
    rw [ht]
    have hb : (k % n == 0) = true := by simpa using hz
    clear hz ht
    go_enter Tryd.func28, Tryd.ntmps28
    go_wp2_with (first
      | (go_at_call 16; (with_reducible refine (Root_any _ _ _ (by omega) (by omega)).mono ?_); rintro e w2 ⟨c, s, rfl, hc, hs, hk2⟩)
      | (go_at_call 41; (with_reducible refine (mod_any _ _ _ h1 (by omega)).mono ?_); rintro e w1 ⟨rfl, rfl⟩))
    go_ret2
    exact ⟨_, _, rfl, rfl, rfl, hk2⟩
  · have ht : twist (cn a, cn b) n k = cmul (cn a, cn b) (root n k) := by unfold twist; rw [if_neg hz]
    rw [ht]
    have hb : (k % n == 0) = false := by simpa using hz
    clear hz ht
    go_enter Tryd.func28, Tryd.ntmps28
    go_wp2_with (first
      | (go_at_call 16; (with_reducible refine (Root_any _ _ _ (by omega) (by omega)).mono ?_); rintro e w2 ⟨c, s, rfl, hc, hs, hk2⟩)
      | (go_at_call 41; (with_reducible refine (mod_any _ _ _ h1 (by omega)).mono ?_); rintro e w1 ⟨rfl, rfl⟩)
      | (go_at_call 42; (with_reducible refine (Mul_any _ _ _ _ _).mono ?_); rintro e w1 ⟨x, y, rfl, hx, hy, hk3⟩))
    go_ret2
    refine ⟨_, _, rfl, ?_, ?_, hk2.trans hk3⟩
    · rw [hx, hc, hs]
    · rw [hy, hc, hs]

set_option maxRecDepth 100000 in
set_option maxHeartbeats 400000 in
theorem Twist_bad (a b : Nat) (n k : Int) (aL : Addr) (w : World) (hL : errAt w 0 aL) (h : n < 1 ∨ 4194304 < n) :
    Calls Tryd.prog 28 #[.complex .f64 a b, .int .i64 n, .int .i64 k] w fun e w' => e = .returned (.tuple #[.complex .f64 0 0, .iface 71 (.pointer (some aL))]) ∧ Kp w w' := by
  have H := Lib.hid h
  clear h
  go_enter Tryd.func28, Tryd.ntmps28
  go_wp2_with (go_at_call 16; (with_reducible refine (Root_bad _ _ aL _ hL H.out).mono ?_); rintro e w2 ⟨rfl, hk2⟩)
  go_ret2
  exact ⟨rfl, hk2⟩

set_option maxRecDepth 100000 in
set_option maxHeartbeats 400000 in
theorem walk_RootsTwist (re : Int) (_ : (Lit.int .u64 re).wf = true) (im : Int) (_ : (Lit.int .u64 im).wf = true) (n : Int) (_ : (Lit.int .i64 n).wf = true) (k : Int) (_ : (Lit.int .i64 k).wf = true) (E : Nat → Addr) (w : World) (hE : Errs w E) :
    Calls Tryd.prog 7 #[.int .u64 re, .int .u64 im, .int .i64 n, .int .i64 k] w fun e w' => e = .returned (.bool true) ∧ Kp w w' := by
  by_cases hn : n < 1 ∨ 4194304 < n
  · have HN := Lib.hid hn
    have hb : (decide (n < 1) || decide (4194304 < n)) = true := by simpa using hn
    clear hn
    go_enter Tryd.func7, Tryd.ntmps7
    go_wp2_with (first
      | (go_at_call 10; (with_reducible refine (lives_any _).mono ?_); rintro e w2 ⟨rfl, hk2⟩; have hE := hE.kp hk2)
      | (go_at_call 28; (with_reducible refine (Twist_bad _ _ _ _ (E 6) _ hE.len HN.out).mono ?_); rintro e w2 ⟨rfl, hk2⟩; have hE := hE.kp hk2)
      | (go_at_call 13; (with_reducible refine (Num_len E _ hE).mono ?_); rintro e w2 ⟨rfl, hk2⟩; have hE := hE.kp hk2)
      | (go_at_call 14; (with_reducible refine (same_yes _ _ _ _ _ rfl rfl).mono ?_); rintro e w2 ⟨rfl, rfl⟩))
    all_goals go_ret
    all_goals exact ⟨rfl, by repeat (first | exact Kp.refl _ | refine Kp.drewN ?_ _ | refine Kp.trans ?_ (by assumption))⟩
  · have b1 : decide (n < 1) = false := by simp; omega
    have b2 : decide (4194304 < n) = false := by simp; omega
    have h1 : 1 ≤ n := by omega
    have h2 : n ≤ 4194304 := by omega
    clear hn
    go_enter Tryd.func7, Tryd.ntmps7
    go_wp2_with (first
      | (go_at_call 10; (with_reducible refine (lives_any _).mono ?_); rintro e w2 ⟨rfl, hk2⟩)
      | (go_at_call 28; (with_reducible refine (Twist_any _ _ _ _ _ h1 h2).mono ?_); rintro e w2 ⟨x, y, rfl, hx, hy, hk2⟩)
      | (go_at_call 29; (with_reducible refine (rTwist_any _ _ _ _ _ h1 h2).mono ?_); rintro e w2 ⟨x, y, rfl, hx, hy, hk2⟩)
      | (go_at_call 14; (with_reducible refine (same_yes _ _ _ _ _ (by simp only [*]) (by simp only [*])).mono ?_); rintro e w2 ⟨rfl, rfl⟩))
    go_ret
    exact ⟨rfl, by repeat (first | exact Kp.refl _ | refine Kp.drewN ?_ _ | refine Kp.trans ?_ (by assumption))⟩
end Go.Proofs.YtijbkcjbkioefaaDoor
