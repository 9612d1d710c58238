/-
  The walks of layer 13: mod, At, List, Other, Least.
-/
import Derived.Test.YtnkcjbabfckdgaaDoorCSpec
import Derived.Test.YtnkcjbabfckdgaaDoorDInv
namespace Go.Proofs.YtnkcjbabfckdgaaDoor
open Go Go.RowKit Go.Fl Go.Roots

set_option maxHeartbeats 400000 in
theorem cmod_any (k n : Int) (w : World) (h1 : 1 ≤ n) (h2 : n ≤ 16777216) :
    Calls Tryd.prog 27 #[.int .i64 k, .int .i64 n] w fun e w' => e = .returned (.int .i64 (k % n)) ∧ w = w' := by
  obtain ⟨e, l1, l2⟩ := mod_go k n h1
  have E := Lib.hid e
  clear e
  have hn : (n == 0) = false := by simp; omega
  go_enter Tryd.func27, Tryd.ntmps27
  go_wp2_with fail
  go_ret
  exact ⟨congrArg (fun x => Ending.returned (.int .i64 x)) E.out, rfl⟩
theorem sq_small {q : Int} (h0 : 0 ≤ q) (h1 : q < 32768) : 0 ≤ q * q ∧ q * q < 1073741824 := by
  obtain ⟨a, rfl⟩ := Int.eq_ofNat_of_zero_le h0
  have := Nat.mul_le_mul (show a ≤ 32767 by omega) (show a ≤ 32767 by omega)
  rw [← Int.natCast_mul]
  omega
set_option maxHeartbeats 400000 in
theorem CAt_any (n j : Int) (w : World) (h1 : 1 ≤ n) (h2 : n ≤ 16384) :
    Calls Tryd.prog 9 #[.int .i64 n, .int .i64 j] w fun e w' => ∃ c s, e = .returned (.tuple #[.complex .f64 c s, .nilIface]) ∧ cn c = (chirp n j).1 ∧ cn s = (chirp n j).2 ∧ Kp w w' := by
  have b1 : decide (n < 1) = false := by simp; omega
  have b2 : decide (16384 < n) = false := by simp; omega
  have hch : chirp n j = root (2 * n) ((j % (2 * n)) * (j % (2 * n))) := rfl
  have q0 := Int.emod_nonneg j (show 2 * n ≠ 0 by omega)
  have q1 := Int.emod_lt_of_pos j (show 0 < 2 * n by omega)
  have HM : Hid (∀ w, Calls Tryd.prog 27 #[.int .i64 j, .int .i64 (2 * n)] w fun e w' => e = .returned (.int .i64 (j % (2 * n))) ∧ w = w') := Lib.hid fun w => cmod_any j (2 * n) w (by omega) (by omega)
  obtain ⟨q, hq⟩ : ∃ q, j % (2 * n) = q := ⟨_, rfl⟩
  rw [hq] at hch q0 q1 HM
  clear hq
  obtain ⟨s0, s1⟩ := sq_small q0 (by omega)
  obtain ⟨S, hS⟩ : ∃ S, q * q = S := ⟨_, rfl⟩
  rw [hS] at hch s0 s1
  have eS : IntKind.i64.wrap (q * q) = S := by rw [hS]; exact IntWalk.i64_in _ (by omega)
  have HC := Lib.hid hch
  clear hch hS
  go_enter Tryd.func9, Tryd.ntmps9
  go_wp2_with (first
    | (go_at_call 27; (with_reducible refine (HM.out _).mono ?_); rintro e w1 ⟨rfl, rfl⟩)
    | (go_at_call 28; (refine (Root_any _ _ _ (by omega) (by omega)).mono ?_); rintro e w2 ⟨c, s, rfl, hc, hs, hk2⟩))
  go_ret2
  exact ⟨c, s, rfl, by rw [HC.out]; exact hc, by rw [HC.out]; exact hs, hk2⟩
set_option maxHeartbeats 400000 in
theorem CAt_bad (n j : Int) (aL : Addr) (w : World) (hL : errAt w 0 aL) (h : n < 1 ∨ 16384 < n) :
    Calls Tryd.prog 9 #[.int .i64 n, .int .i64 j] w fun e w' => e = .returned (.tuple #[.complex .f64 0 0, .iface 78 (.pointer (some aL))]) ∧ Kp w w' := by
  unfold errAt at hL
  rcases h with h | h
  · have b1 : decide (n < 1) = true := by simpa using h
    go_enter Tryd.func9, Tryd.ntmps9
    go_wp2_with fail
    go_quiet (fail)
    go_wp2_with fail
    go_ret2
    exact ⟨rfl, (Kp.refl _).drewN _⟩
  · have b1 : decide (n < 1) = false := by simp; omega
    have b2 : decide (16384 < n) = true := by simpa using h
    go_enter Tryd.func9, Tryd.ntmps9
    go_wp2_with fail
    go_quiet (fail)
    go_wp2_with fail
    go_ret2
    exact ⟨rfl, (Kp.refl _).drewN _⟩
set_option maxRecDepth 100000 in
set_option maxHeartbeats 400000 in
theorem CList_any (n : Nat) (w : World) (h1 : 1 ≤ n) (h2 : n ≤ 16384) :
    Calls Tryd.prog 17 #[.int .i64 n] w fun e w' => ∃ g xs, e = .returned (.tuple #[.slice (some ⟨g, 0, none⟩) n n, .nilIface]) ∧
      w'.ownsRow w.heap.size 23 1 (.slice (some ⟨g, 0, none⟩) n n) n xs ∧ PartC (fun j => chirp n j) xs n ∧ Kp w w' := by
  have b1 : decide ((n : Int) < 1) = false := by simp; omega
  have b2 : decide ((16384 : Int) < n) = false := by simp; omega
  obtain ⟨i0, hi, hz0, hz1, hz2⟩ := info_parts info_c
  go_enter Tryd.func17, Tryd.ntmps17
  go_wp2_with (at_make; refine wpList_make_full _ rfl _ _ 38 rfl w.heap.size 23 i0 (.complex .f64 0 0) 1 Tryd.underlying38 hi hz0 hz1 _ _ _ _ n rfl rfl rfl rfl (by rw [hz2]; omega) (by unfold maxLen; omega) (Nat.le_refl _) ?_)
  intro w1 hown hgrow
  have hk1 : Kp w w1 := (Kp.refl w).grown hgrow (fun k hk => by cases hk)
  clear hgrow hi hz0 hz1 hz2
  go_wp2_with fail
  go_loopw [5, 17] (fun _ i wr => ∃ (k : Nat) (xs : List Value), k ≤ n ∧ i = .int .i64 k ∧ wr.ownsRow w.heap.size 23 1 (.slice (some ⟨w.heap.size, 0, none⟩) n n) n xs ∧ PartC (fun j => chirp n j) xs k ∧ Kp w wr) (fun _ i _ => n - (intOf i).toNat)
  case atStart => exact ⟨0, _, by omega, rfl, hown, fun j hj => absurd hj (by omega), hk1⟩
  case round =>
    clear hown hk1
    obtain ⟨k, xs, hk, rfl, hown, hp, hkp⟩ := hrel
    have hlen := hown.1
    by_cases hlt : k < n
    · go_wp2_with (go_at_call 9; (refine (CAt_any _ _ _ (by omega) (by omega)).mono ?_); rintro e w2 ⟨c, s, rfl, hc, hs, hk2⟩; have hown2 := hk2.owns hown; have hcell := hown2.cellAt k (by omega); rw [List.getElem?_eq_getElem (show k < xs.length by omega)] at hcell; have hfr := hown2.frozenAt k)
      go_roundw
      case rel => exact ⟨k + 1, _, by omega, by go_num, (hown2.stored k _).1, hp.step (by omega) hc hs, (hkp.trans hk2).setCell (Nat.le_refl _) _⟩
      case measure => simp [intOf]; omega
    · obtain rfl : k = n := by omega
      go_wp2_with fail
      go_ret2
      exact ⟨_, xs, rfl, hown, hp, hkp⟩
set_option maxRecDepth 100000 in
set_option maxHeartbeats 400000 in
theorem CList_bad (n : Int) (aL : Addr) (w : World) (hL : errAt w 0 aL) (h : n < 1 ∨ 16384 < n) :
    Calls Tryd.prog 17 #[.int .i64 n] w fun e w' => e = .returned (.tuple #[.slice none 0 0, .iface 78 (.pointer (some aL))]) ∧ Kp w w' := by
  unfold errAt at hL
  rcases h with h | h
  · have b1 : decide (n < 1) = true := by simpa using h
    go_enter Tryd.func17, Tryd.ntmps17
    go_wp2_with fail
    go_quiet (fail)
    go_wp2_with fail
    go_ret2
    exact ⟨rfl, (Kp.refl _).drewN _⟩
  · have b1 : decide (n < 1) = false := by simp; omega
    have b2 : decide (16384 < n) = true := by simpa using h
    go_enter Tryd.func17, Tryd.ntmps17
    go_wp2_with fail
    go_quiet (fail)
    go_wp2_with fail
    go_ret2
    exact ⟨rfl, (Kp.refl _).drewN _⟩
set_option maxHeartbeats 400000 in
theorem CLeast_any (n : Int) (w : World) :
    Calls Tryd.prog 13 #[.int .i64 n] w fun e w' => e = .returned (.int .i64 (if n < 1 ∨ 16384 < n then 0 else 2 * n - 1)) ∧ w = w' := by
  by_cases h1 : n < 1
  · have b1 : decide (n < 1) = true := by simpa using h1
    rw [if_pos (.inl h1)]
    go_enter Tryd.func13, Tryd.ntmps13
    go_wp2_with fail
    go_ret
    exact ⟨rfl, rfl⟩
  have b1 : decide (n < 1) = false := by simpa using h1
  by_cases h2 : 16384 < n
  · have b2 : decide (16384 < n) = true := by simpa using h2
    rw [if_pos (.inr h2)]
    go_enter Tryd.func13, Tryd.ntmps13
    go_wp2_with fail
    go_ret
    exact ⟨rfl, rfl⟩
  have b2 : decide (16384 < n) = false := by simpa using h2
  rw [if_neg (by omega)]
  go_enter Tryd.func13, Tryd.ntmps13
  go_wp2_with fail
  go_ret
  exact ⟨rfl, rfl⟩
end Go.Proofs.YtnkcjbabfckdgaaDoor
