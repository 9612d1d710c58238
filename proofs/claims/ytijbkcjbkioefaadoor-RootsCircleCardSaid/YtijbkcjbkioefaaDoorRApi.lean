/-
  The walks of Eighth, Root.
-/
import Derived.Test.YtijbkcjbkioefaaDoorRApiT
namespace Go.Proofs.YtijbkcjbkioefaaDoor
open Go Go.RowKit Go.Fl Go.Roots

set_option maxRecDepth 100000 in
set_option maxHeartbeats 400000 in
theorem Eighth_len (r n : Int) (aL : Addr) (w : World) (hL : errAt w 0 aL) (h : n < 1 ∨ 16777216 < n) :
    Calls Tryd.prog 18 #[.int .i64 r, .int .i64 n] w fun e w' => e = .returned (.tuple #[.float .f64 0, .float .f64 0, .iface 71 (.pointer (some aL))]) ∧ Kp w w' := by
  unfold errAt at hL
  rcases h with h | h
  · have b1 : decide (n < 1) = true := by simpa using h
    go_enter Tryd.func18, Tryd.ntmps18
    go_wp2_with fail
    go_quiet (fail)
    go_wp2_with fail
    go_ret3
    exact ⟨rfl, (Kp.refl _).drewN _⟩
  · have b1 : decide (n < 1) = false := by simp; omega
    have b2 : decide (16777216 < n) = true := by simpa using h
    go_enter Tryd.func18, Tryd.ntmps18
    go_wp2_with fail
    go_quiet (fail)
    go_wp2_with fail
    go_ret3
    exact ⟨rfl, (Kp.refl _).drewN _⟩

set_option maxRecDepth 100000 in
set_option maxHeartbeats 400000 in
theorem Eighth_range (r n : Int) (aR : Addr) (w : World) (hR : errAt w 2 aR) (h1 : 1 ≤ n) (h2 : n ≤ 16777216) (h : r < 0 ∨ n / 8 < r) :
    Calls Tryd.prog 18 #[.int .i64 r, .int .i64 n] w fun e w' => e = .returned (.tuple #[.float .f64 0, .float .f64 0, .iface 71 (.pointer (some aR))]) ∧ Kp w w' := by
  unfold errAt at hR
  have b1 : decide (n < 1) = false := by simp; omega
  have b2 : decide (16777216 < n) = false := by simp; omega
  rcases h with h | h
  · have b3 : decide (r < 0) = true := by simpa using h
    go_enter Tryd.func18, Tryd.ntmps18
    go_wp2_with fail
    go_quiet (fail)
    go_wp2_with fail
    go_ret3
    exact ⟨rfl, (Kp.refl _).drewN _⟩
  · have b3 : decide (r < 0) = false := by simp; omega
    have b4 : decide (n / 8 < r) = true := by simpa using h
    go_enter Tryd.func18, Tryd.ntmps18
    go_wp2_with fail
    go_quiet (fail)
    go_wp2_with fail
    go_ret3
    exact ⟨rfl, (Kp.refl _).drewN _⟩

set_option maxRecDepth 100000 in
set_option maxHeartbeats 400000 in
theorem Eighth_any (r n : Int) (w : World) (h1 : 1 ≤ n) (h2 : n ≤ 16777216) (h3 : 0 ≤ r) (h4 : r ≤ n / 8) :
    Calls Tryd.prog 18 #[.int .i64 r, .int .i64 n] w fun e w' => ∃ c s, e = .returned (.tuple #[.float .f64 c, .float .f64 s, .nilIface]) ∧ cn c = (eighth r n).1 ∧ cn s = (eighth r n).2 ∧ Kp w w' := by
  have b1 : decide (n < 1) = false := by simp; omega
  have b2 : decide (16777216 < n) = false := by simp; omega
  have b3 : decide (r < 0) = false := by simp; omega
  have b4 : decide (n / 8 < r) = false := by simp; omega
  go_enter Tryd.func18, Tryd.ntmps18
  go_wp2_with (go_at_call 36; (with_reducible refine (eighth_any _ _ _ (by omega) (by omega) (by omega) (by omega)).mono ?_); rintro e w1 ⟨c, s, rfl, hc, hs, hk⟩)
  go_ret3
  exact ⟨_, _, rfl, hc, hs, hk⟩

set_option maxRecDepth 100000 in
set_option maxHeartbeats 400000 in
theorem Root_any (n k : Int) (w : World) (h1 : 1 ≤ n) (h2 : n ≤ 4194304) :
    Calls Tryd.prog 16 #[.int .i64 n, .int .i64 k] w fun e w' => ∃ c s, e = .returned (.tuple #[.complex .f64 c s, .nilIface]) ∧ cn c = (root n k).1 ∧ cn s = (root n k).2 ∧ Kp w w' := by
  go_enter Tryd.func16, Tryd.ntmps16
  go_wp2_with (first
    | (go_at_call 33; (with_reducible refine (pair_any _ _ _ h1 h2).mono ?_); rintro e w1 ⟨c, s, rfl, hc, hs, hk⟩)
    | (go_at_call 34; (with_reducible refine (plus_any _ _).mono ?_); rintro e w2 ⟨r, rfl, hr, rfl⟩))
  go_ret2
  refine ⟨_, _, rfl, hc, ?_, hk⟩
  rw [hr, cn_negFloat, hs]; rfl

set_option maxRecDepth 100000 in
set_option maxHeartbeats 400000 in
theorem Root_bad (n k : Int) (aL : Addr) (w : World) (hL : errAt w 0 aL) (h : n < 1 ∨ 4194304 < n) :
    Calls Tryd.prog 16 #[.int .i64 n, .int .i64 k] w fun e w' => e = .returned (.tuple #[.complex .f64 0 0, .iface 71 (.pointer (some aL))]) ∧ Kp w w' := by
  have H := Lib.hid h
  clear h
  go_enter Tryd.func16, Tryd.ntmps16
  go_wp2_with (go_at_call 33; (with_reducible refine (pair_bad _ _ aL _ hL H.out).mono ?_); rintro e w1 ⟨rfl, hk⟩)
  go_ret2
  exact ⟨rfl, hk⟩
end Go.Proofs.YtijbkcjbkioefaaDoor
