/-
  The walks of the reference of layer 7: Eighth, Root.
-/
import Derived.Test.YtijbkcjbkioefaaDoorRRef2T
namespace Go.Proofs.YtijbkcjbkioefaaDoor
open Go Go.RowKit Go.Fl Go.Roots

set_option maxRecDepth 100000 in
set_option maxHeartbeats 400000 in
theorem rEighth_len (r n : Int) (w : World) (h : n < 1 ∨ 16777216 < n) :
    Calls Tryd.prog 19 #[.int .i64 r, .int .i64 n] w fun e w' => e = .returned (.tuple #[.float .f64 0, .float .f64 0, .int .i64 7]) ∧ Kp w w' := by
  rcases h with h | h
  · have b1 : decide (n < 1) = true := by simpa using h
    go_enter Tryd.func19, Tryd.ntmps19
    go_wp2_with fail
    go_ret3
    exact ⟨rfl, (Kp.refl _)⟩
  · have b1 : decide (n < 1) = false := by simp; omega
    have b2 : decide (16777216 < n) = true := by simpa using h
    go_enter Tryd.func19, Tryd.ntmps19
    go_wp2_with fail
    go_ret3
    exact ⟨rfl, (Kp.refl _)⟩

set_option maxRecDepth 100000 in
set_option maxHeartbeats 400000 in
theorem rEighth_range (r n : Int) (w : World) (h1 : 1 ≤ n) (h2 : n ≤ 16777216) (h : r < 0 ∨ n / 8 < r) :
    Calls Tryd.prog 19 #[.int .i64 r, .int .i64 n] w fun e w' => e = .returned (.tuple #[.float .f64 0, .float .f64 0, .int .i64 5]) ∧ Kp w w' := by
  have b1 : decide (n < 1) = false := by simp; omega
  have b2 : decide (16777216 < n) = false := by simp; omega
  rcases h with h | h
  · have b3 : decide (r < 0) = true := by simpa using h
    go_enter Tryd.func19, Tryd.ntmps19
    go_wp2_with fail
    go_ret3
    exact ⟨rfl, (Kp.refl _)⟩
  · have b3 : decide (r < 0) = false := by simp; omega
    have b4 : decide (n / 8 < r) = true := by simpa using h
    go_enter Tryd.func19, Tryd.ntmps19
    go_wp2_with fail
    go_ret3
    exact ⟨rfl, (Kp.refl _)⟩

set_option maxRecDepth 100000 in
set_option maxHeartbeats 400000 in
theorem rEighthN_any (r n : Int) (w : World) (h1 : 1 ≤ n) (h2 : n ≤ 16777216) (h3 : 0 ≤ r) (h4 : r ≤ n / 8) :
    Calls Tryd.prog 19 #[.int .i64 r, .int .i64 n] w fun e w' => ∃ c s, e = .returned (.tuple #[.float .f64 c, .float .f64 s, .int .i64 0]) ∧ cn c = (eighth r n).1 ∧ cn s = (eighth r n).2 ∧ Kp w w' := by
  have b1 : decide (n < 1) = false := by simp; omega
  have b2 : decide (16777216 < n) = false := by simp; omega
  have b3 : decide (r < 0) = false := by simp; omega
  have b4 : decide (n / 8 < r) = false := by simp; omega
  go_enter Tryd.func19, Tryd.ntmps19
  go_wp2_with (go_at_call 37; (with_reducible refine (rEighth_any _ _ _ (by omega) (by omega) (by omega) (by omega)).mono ?_); rintro e w1 ⟨c, s, rfl, hc, hs, hk⟩)
  go_ret3
  exact ⟨_, _, rfl, hc, hs, hk⟩

theorem plus_neg (x : Nat) : plus (neg x) = if (ord x 0 == some .eq) = true then 0 else neg x := by
  unfold plus; rw [ord_neg_zero]

set_option maxRecDepth 100000 in
set_option maxHeartbeats 400000 in
theorem rRoot_any (n k : Int) (w : World) (h1 : 1 ≤ n) (h2 : n ≤ 4194304) :
    Calls Tryd.prog 25 #[.int .i64 n, .int .i64 k] w fun e w' => ∃ c s, e = .returned (.complex .f64 c s) ∧ cn c = (root n k).1 ∧ cn s = (root n k).2 ∧ Kp w w' := by
  have e0 := cn_0
  by_cases hz : (ord (pair n k).2 0 == some .eq) = true
  · go_enter Tryd.func25, Tryd.ntmps25
    go_wp2_with (go_at_call 40; (with_reducible refine (rpair_any _ _ _ h1 h2).mono ?_); rintro e w1 ⟨c, s, rfl, hc, hs, hk⟩)
    go_ret
    refine ⟨_, _, rfl, hc, ?_, hk⟩
    show cn 0 = plus (neg (pair n k).2)
    rw [plus_neg, if_pos hz, e0]
  · have hz' : (ord (pair n k).2 0 == some .eq) = false := by simpa using hz
    go_enter Tryd.func25, Tryd.ntmps25
    go_wp2_with (go_at_call 40; (with_reducible refine (rpair_any _ _ _ h1 h2).mono ?_); rintro e w1 ⟨c, s, rfl, hc, hs, hk⟩)
    go_ret
    refine ⟨_, _, rfl, hc, ?_, hk⟩
    rw [cn_negFloat, hs]
    show _ = plus (neg (pair n k).2)
    rw [plus_neg, if_neg hz]
end Go.Proofs.YtijbkcjbkioefaaDoor
