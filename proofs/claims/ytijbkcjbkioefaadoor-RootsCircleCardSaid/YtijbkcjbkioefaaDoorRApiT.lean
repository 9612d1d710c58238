/-
  The walks of roots.pair at a bad length, Cos, Sin.
-/
import Derived.Test.YtijbkcjbkioefaaDoorREighth
import Derived.Test.YtijbkcjbkioefaaDoorErr
namespace Go.Proofs.YtijbkcjbkioefaaDoor
open Go Go.RowKit Go.Fl Go.Roots

set_option maxRecDepth 100000 in
set_option maxHeartbeats 400000 in
theorem pair_bad (n k : Int) (aL : Addr) (w : World) (hL : errAt w 0 aL) (h : n < 1 ∨ 4194304 < n) :
    Calls Tryd.prog 33 #[.int .i64 n, .int .i64 k] w fun e w' => e = .returned (.tuple #[.float .f64 0, .float .f64 0, .iface 71 (.pointer (some aL))]) ∧ Kp w w' := by
  unfold errAt at hL
  rcases h with h | h
  · have b1 : decide (n < 1) = true := by simpa using h
    go_enter Tryd.func33, Tryd.ntmps33
    go_wp2_with fail
    go_quiet (fail)
    go_wp2_with fail
    go_ret3
    exact ⟨rfl, (Kp.refl _).drewN _⟩
  · have b1 : decide (n < 1) = false := by simp; omega
    have b2 : decide (4194304 < n) = true := by simpa using h
    go_enter Tryd.func33, Tryd.ntmps33
    go_wp2_with fail
    go_quiet (fail)
    go_wp2_with fail
    go_ret3
    exact ⟨rfl, (Kp.refl _).drewN _⟩

set_option maxRecDepth 100000 in
set_option maxHeartbeats 400000 in
theorem Cos_any (n k : Int) (w : World) (h1 : 1 ≤ n) (h2 : n ≤ 4194304) :
    Calls Tryd.prog 21 #[.int .i64 n, .int .i64 k] w fun e w' => ∃ c, e = .returned (.tuple #[.float .f64 c, .nilIface]) ∧ cn c = (pair n k).1 ∧ Kp w w' := by
  go_enter Tryd.func21, Tryd.ntmps21
  go_wp2_with (go_at_call 33; (with_reducible refine (pair_any _ _ _ h1 h2).mono ?_); rintro e w1 ⟨c, s, rfl, hc, hs, hk⟩)
  go_ret2
  exact ⟨_, rfl, hc, hk⟩

set_option maxRecDepth 100000 in
set_option maxHeartbeats 400000 in
theorem Cos_bad (n k : Int) (aL : Addr) (w : World) (hL : errAt w 0 aL) (h : n < 1 ∨ 4194304 < n) :
    Calls Tryd.prog 21 #[.int .i64 n, .int .i64 k] w fun e w' => e = .returned (.tuple #[.float .f64 0, .iface 71 (.pointer (some aL))]) ∧ Kp w w' := by
  have H := Lib.hid h
  clear h
  go_enter Tryd.func21, Tryd.ntmps21
  go_wp2_with (go_at_call 33; (with_reducible refine (pair_bad _ _ aL _ hL H.out).mono ?_); rintro e w1 ⟨rfl, hk⟩)
  go_ret2
  exact ⟨rfl, hk⟩

set_option maxRecDepth 100000 in
set_option maxHeartbeats 400000 in
theorem Sin_any (n k : Int) (w : World) (h1 : 1 ≤ n) (h2 : n ≤ 4194304) :
    Calls Tryd.prog 23 #[.int .i64 n, .int .i64 k] w fun e w' => ∃ c, e = .returned (.tuple #[.float .f64 c, .nilIface]) ∧ cn c = (pair n k).2 ∧ Kp w w' := by
  go_enter Tryd.func23, Tryd.ntmps23
  go_wp2_with (go_at_call 33; (with_reducible refine (pair_any _ _ _ h1 h2).mono ?_); rintro e w1 ⟨c, s, rfl, hc, hs, hk⟩)
  go_ret2
  exact ⟨_, rfl, hs, hk⟩

set_option maxRecDepth 100000 in
set_option maxHeartbeats 400000 in
theorem Sin_bad (n k : Int) (aL : Addr) (w : World) (hL : errAt w 0 aL) (h : n < 1 ∨ 4194304 < n) :
    Calls Tryd.prog 23 #[.int .i64 n, .int .i64 k] w fun e w' => e = .returned (.tuple #[.float .f64 0, .iface 71 (.pointer (some aL))]) ∧ Kp w w' := by
  have H := Lib.hid h
  clear h
  go_enter Tryd.func23, Tryd.ntmps23
  go_wp2_with (go_at_call 33; (with_reducible refine (pair_bad _ _ aL _ hL H.out).mono ?_); rintro e w1 ⟨rfl, hk⟩)
  go_ret2
  exact ⟨rfl, hk⟩
end Go.Proofs.YtijbkcjbkioefaaDoor
