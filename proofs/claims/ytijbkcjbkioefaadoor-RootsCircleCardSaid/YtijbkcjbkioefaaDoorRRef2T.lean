/-
  The walks of the reference of layer 7: length, Cos, Sin.
-/
import Derived.Test.YtijbkcjbkioefaaDoorRRef
namespace Go.Proofs.YtijbkcjbkioefaaDoor
open Go Go.RowKit Go.Fl Go.Roots

theorem length_yes (n : Int) (w : World) (h1 : 1 ≤ n) (h2 : n ≤ 4194304) :
    Calls Tryd.prog 39 #[.int .i64 n] w fun e w' => e = .returned (.bool true) ∧ w = w' := by
  have b1 : decide (1 ≤ n) = true := by simpa using h1
  have b2 : decide (n ≤ 4194304) = true := by simpa using h2
  go_enter Tryd.func39, Tryd.ntmps39
  go_wp2_with fail
  go_ret
  exact ⟨rfl, rfl⟩

theorem length_no (n : Int) (w : World) (h : n < 1 ∨ 4194304 < n) :
    Calls Tryd.prog 39 #[.int .i64 n] w fun e w' => e = .returned (.bool false) ∧ w = w' := by
  rcases h with h | h
  · have b1 : decide (1 ≤ n) = false := by simp; omega
    go_enter Tryd.func39, Tryd.ntmps39
    go_wp2_with fail
    go_ret
    exact ⟨rfl, rfl⟩
  · have b1 : decide (1 ≤ n) = true := by simp; omega
    have b2 : decide (n ≤ 4194304) = false := by simp; omega
    go_enter Tryd.func39, Tryd.ntmps39
    go_wp2_with fail
    go_ret
    exact ⟨rfl, rfl⟩

set_option maxRecDepth 100000 in
set_option maxHeartbeats 400000 in
theorem rCos_any (n k : Int) (w : World) (h1 : 1 ≤ n) (h2 : n ≤ 4194304) :
    Calls Tryd.prog 22 #[.int .i64 n, .int .i64 k] w fun e w' => ∃ c, e = .returned (.tuple #[.float .f64 c, .int .i64 0]) ∧ cn c = (pair n k).1 ∧ Kp w w' := by
  go_enter Tryd.func22, Tryd.ntmps22
  go_wp2_with (first
    | (go_at_call 39; (with_reducible refine (length_yes _ _ h1 h2).mono ?_); rintro e w1 ⟨rfl, rfl⟩)
    | (go_at_call 40; (with_reducible refine (rpair_any _ _ _ h1 h2).mono ?_); rintro e w1 ⟨c, s, rfl, hc, hs, hk⟩))
  go_ret2
  exact ⟨_, rfl, hc, hk⟩

set_option maxRecDepth 100000 in
set_option maxHeartbeats 400000 in
theorem rCos_bad (n k : Int) (w : World) (h : n < 1 ∨ 4194304 < n) :
    Calls Tryd.prog 22 #[.int .i64 n, .int .i64 k] w fun e w' => e = .returned (.tuple #[.float .f64 0, .int .i64 7]) ∧ Kp w w' := by
  have H := Lib.hid h
  clear h
  go_enter Tryd.func22, Tryd.ntmps22
  go_wp2_with (go_at_call 39; (with_reducible refine (length_no _ _ H.out).mono ?_); rintro e w1 ⟨rfl, rfl⟩)
  go_ret2
  exact ⟨rfl, Kp.refl _⟩

set_option maxRecDepth 100000 in
set_option maxHeartbeats 400000 in
theorem rSin_any (n k : Int) (w : World) (h1 : 1 ≤ n) (h2 : n ≤ 4194304) :
    Calls Tryd.prog 24 #[.int .i64 n, .int .i64 k] w fun e w' => ∃ c, e = .returned (.tuple #[.float .f64 c, .int .i64 0]) ∧ cn c = (pair n k).2 ∧ Kp w w' := by
  go_enter Tryd.func24, Tryd.ntmps24
  go_wp2_with (first
    | (go_at_call 39; (with_reducible refine (length_yes _ _ h1 h2).mono ?_); rintro e w1 ⟨rfl, rfl⟩)
    | (go_at_call 40; (with_reducible refine (rpair_any _ _ _ h1 h2).mono ?_); rintro e w1 ⟨c, s, rfl, hc, hs, hk⟩))
  go_ret2
  exact ⟨_, rfl, hs, hk⟩

set_option maxRecDepth 100000 in
set_option maxHeartbeats 400000 in
theorem rSin_bad (n k : Int) (w : World) (h : n < 1 ∨ 4194304 < n) :
    Calls Tryd.prog 24 #[.int .i64 n, .int .i64 k] w fun e w' => e = .returned (.tuple #[.float .f64 0, .int .i64 7]) ∧ Kp w w' := by
  have H := Lib.hid h
  clear h
  go_enter Tryd.func24, Tryd.ntmps24
  go_wp2_with (go_at_call 39; (with_reducible refine (length_no _ _ H.out).mono ?_); rintro e w1 ⟨rfl, rfl⟩)
  go_ret2
  exact ⟨rfl, Kp.refl _⟩
end Go.Proofs.YtijbkcjbkioefaaDoor
