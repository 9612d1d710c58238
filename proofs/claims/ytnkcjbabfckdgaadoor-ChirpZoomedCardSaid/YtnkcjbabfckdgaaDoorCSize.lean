/-
  The walks of layer 13's Size and of the reference's.
-/
import Derived.Test.YtnkcjbabfckdgaaDoorCOther
namespace Go.Proofs.YtnkcjbabfckdgaaDoor
open Go Go.RowKit Go.Fl Go.Roots

theorem two_top {n x : Nat} (h : IsTwo n x) (hn : n ≤ 16384) : x ≤ 16384 := by
  obtain ⟨_, h2, a, rfl⟩ := h
  rcases Nat.lt_or_ge 14 a with c | c
  · have := Nat.pow_le_pow_right (show 0 < 2 by decide) (show 15 ≤ a from c)
    omega
  · exact Nat.pow_le_pow_right (show 0 < 2 by decide) c
set_option maxRecDepth 100000 in
set_option maxHeartbeats 1000000 in
theorem CSize_any (n : Nat) (w : World) (h1 : 1 ≤ n) (h2 : n ≤ 8192) :
    Calls Tryd.prog 15 #[.int .i64 n] w fun e w' => ∃ x : Nat, e = .returned (.tuple #[.int .i64 x, .nilIface]) ∧ Hid (IsTwo (2 * n - 1) x ∧ x ≤ 16384) ∧ w = w' := by
  have b1 : decide ((n : Int) < 1) = false := by simp; omega
  have b2 : decide ((16384 : Int) < n) = false := by simp; omega
  obtain ⟨N, hN⟩ : ∃ N, 2 * n - 1 = N := ⟨_, rfl⟩
  have eN : 2 * (n : Int) - 1 = (N : Int) := by omega
  have hS : Hid (∀ w, Calls Tryd.prog 32 #[.int .i64 N, .int .i64 2] w fun e w' => ∃ x : Nat, e = .returned (.tuple #[.int .i64 x, .nilIface]) ∧ x ≤ 16384 ∧ Hid (IsTwo N x ∧ x ≤ 16384) ∧ w = w') := Lib.hid fun w => by
    refine (Smooth_any N 2 w (by omega) (by omega) (by omega) (by omega)).mono ?_
    rintro e w1 ⟨x, rfl, hx, rfl⟩
    have h3 := smooth_two (by omega) hx.out
    exact ⟨x, rfl, two_top h3 (by omega), Lib.hid ⟨h3, two_top h3 (by omega)⟩, rfl⟩
  rw [hN]
  clear hN
  go_enter Tryd.func15, Tryd.ntmps15
  go_wp2_with (go_at_call 32; (with_reducible refine (hS.out _).mono ?_); rintro e w1 ⟨x, rfl, hx, HX, rfl⟩)
  go_ret2
  exact ⟨x, rfl, HX, rfl⟩
set_option maxRecDepth 100000 in
set_option maxHeartbeats 1000000 in
theorem CSize_bad (n : Int) (aL : Addr) (w : World) (hL : errAt w 0 aL) (h : n < 1 ∨ 8192 < n) :
    Calls Tryd.prog 15 #[.int .i64 n] w fun e w' => e = .returned (.tuple #[.int .i64 0, .iface 78 (.pointer (some aL))]) ∧ Kp w w' := by
  unfold errAt at hL
  by_cases c1 : n < 1
  · have b1 : decide (n < 1) = true := by simpa using c1
    clear h
    go_enter Tryd.func15, Tryd.ntmps15
    go_wp2_with fail
    go_quiet (fail)
    go_wp2_with fail
    go_ret2
    exact ⟨rfl, (Kp.refl _).drewN _⟩
  have b1 : decide (n < 1) = false := by simpa using c1
  by_cases c2 : 16384 < n
  · have b2 : decide (16384 < n) = true := by simpa using c2
    clear h
    go_enter Tryd.func15, Tryd.ntmps15
    go_wp2_with fail
    go_quiet (fail)
    go_wp2_with fail
    go_ret2
    exact ⟨rfl, (Kp.refl _).drewN _⟩
  have b2 : decide (16384 < n) = false := by simpa using c2
  obtain ⟨N, hN⟩ := Int.eq_ofNat_of_zero_le (show 0 ≤ 2 * n - 1 by omega)
  have hS : Hid (∀ w, Calls Tryd.prog 32 #[.int .i64 N, .int .i64 2] w fun e w' => ∃ x : Nat, e = .returned (.tuple #[.int .i64 x, .nilIface]) ∧ 16384 < x ∧ decide ((16384 : Int) < (x : Int)) = true ∧ w = w') := Lib.hid fun w => by
    refine (Smooth_any N 2 w (by omega) (by omega) (by omega) (by omega)).mono ?_
    rintro e w1 ⟨x, rfl, hx, rfl⟩
    have h3 := hx.out.1
    exact ⟨x, rfl, by omega, by simp; omega, rfl⟩
  clear h c1
  go_enter Tryd.func15, Tryd.ntmps15
  go_wp2_with (go_at_call 32; (with_reducible refine (hS.out _).mono ?_); rintro e w1 ⟨x, rfl, hx, dx, rfl⟩)
  go_quiet (fail)
  go_wp2_with fail
  go_ret2
  exact ⟨rfl, (Kp.refl _).drewN _⟩
set_option maxRecDepth 100000 in
set_option maxHeartbeats 1000000 in
theorem rSize_go (n : Nat) (w : World) (h1 : 1 ≤ n) (h2 : n ≤ 16384) :
    Calls Tryd.prog 16 #[.int .i64 n] w fun e w' => ∃ x : Nat, Hid (IsTwo (2 * n - 1) x) ∧ e = .returned (if 16384 < x then .tuple #[.int .i64 0, .int .i64 7] else .tuple #[.int .i64 x, .int .i64 0]) ∧ w = w' := by
  have b1 : decide ((n : Int) < 1) = false := by simp; omega
  have b2 : decide ((16384 : Int) < n) = false := by simp; omega
  obtain ⟨N, hN⟩ : ∃ N, 2 * n - 1 = N := ⟨_, rfl⟩
  have eN : 2 * (n : Int) - 1 = (N : Int) := by omega
  have hNb : 1 ≤ N ∧ N ≤ 32767 := by omega
  rw [hN]
  clear hN
  go_enter Tryd.func16, Tryd.ntmps16
  go_wp2_with fail
  go_loop [4] (fun x => ∃ k : Nat, x = .int .i64 k ∧ k < 2 * N ∧ 1 ≤ k ∧ Hid (∃ a, k = 2 ^ a)) (fun x => 2 * N - (intOf x).toNat)
  case atStart => exact ⟨1, rfl, by omega, by omega, Lib.hid ⟨0, rfl⟩⟩
  case round =>
    obtain ⟨k, rfl, hk, hk1, HK⟩ := hrel
    by_cases hlt : k < N
    · go_wp2_with fail
      go_round
      case rel => exact ⟨2 * k, by go_num, by omega, by omega, Lib.hid (by obtain ⟨a, ha⟩ := HK.out; exact ⟨a + 1, by rw [Nat.pow_succ, ← ha, Nat.mul_comm]⟩)⟩
      case measure => simp [intOf]; omega
    · by_cases hb : 16384 < k
      · have d : decide ((16384 : Int) < (k : Int)) = true := by simp; omega
        go_wp2_with fail
        go_ret2
        exact ⟨k, Lib.hid ⟨by omega, hk, HK.out⟩, by simp [hb], rfl⟩
      · have d : decide ((16384 : Int) < (k : Int)) = false := by simp; omega
        go_wp2_with fail
        go_ret2
        exact ⟨k, Lib.hid ⟨by omega, hk, HK.out⟩, by simp [hb], rfl⟩
theorem rSize_any (n : Nat) (x : Nat) (w : World) (h1 : 1 ≤ n) (h2 : n ≤ 8192) (hx : IsTwo (2 * n - 1) x) :
    Calls Tryd.prog 16 #[.int .i64 n] w fun e w' => e = .returned (.tuple #[.int .i64 x, .int .i64 0]) ∧ w = w' := by
  refine (rSize_go n w h1 (by omega)).mono ?_
  rintro e w1 ⟨y, hy, rfl, rfl⟩
  obtain rfl := two_uniq hx hy.out
  have := two_top hx (by omega)
  exact ⟨by rw [if_neg (by omega)], rfl⟩
theorem rSize_bad (n : Int) (w : World) (h : n < 1 ∨ 8192 < n) :
    Calls Tryd.prog 16 #[.int .i64 n] w fun e w' => e = .returned (.tuple #[.int .i64 0, .int .i64 7]) ∧ Kp w w' := by
  by_cases c1 : n < 1
  · have b1 : decide (n < 1) = true := by simpa using c1
    clear h
    go_enter Tryd.func16, Tryd.ntmps16
    go_wp2_with fail
    go_ret2
    exact ⟨rfl, Kp.refl _⟩
  have b1 : decide (n < 1) = false := by simpa using c1
  by_cases c2 : 16384 < n
  · have b2 : decide (16384 < n) = true := by simpa using c2
    clear h
    go_enter Tryd.func16, Tryd.ntmps16
    go_wp2_with fail
    go_ret2
    exact ⟨rfl, Kp.refl _⟩
  obtain ⟨m, rfl⟩ := Int.eq_ofNat_of_zero_le (show 0 ≤ n by omega)
  refine (rSize_go m w (by omega) (by omega)).mono ?_
  rintro e w1 ⟨y, hy, rfl, rfl⟩
  have := hy.out.1
  exact ⟨by rw [if_pos (by omega)], Kp.refl _⟩
end Go.Proofs.YtnkcjbabfckdgaaDoor
