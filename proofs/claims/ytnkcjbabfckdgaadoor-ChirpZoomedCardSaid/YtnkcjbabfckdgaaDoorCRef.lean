/-
  The walks of the reference of layer 13: At, Chirp, List, May, Least.
-/
import Derived.Test.YtnkcjbabfckdgaaDoorCCh
import Derived.Test.YtnkcjbabfckdgaaDoorDRef2
namespace Go.Proofs.YtnkcjbabfckdgaaDoor
open Go Go.RowKit Go.Fl Go.Roots

set_option maxRecDepth 100000 in
set_option maxHeartbeats 400000 in
theorem rCAt_any (n j : Int) (w : World) (h1 : 1 ≤ n) (h2 : n ≤ 16384) :
    Calls Tryd.prog 29 #[.int .i64 n, .int .i64 j] w fun e w' => ∃ c s, e = .returned (.complex .f64 c s) ∧ cn c = (chirp n j).1 ∧ cn s = (chirp n j).2 ∧ Kp w w' := by
  have hch : chirp n j = root (2 * n) ((j % (2 * n)) * (j % (2 * n)) % (2 * n)) := (chirp_ref n j).symm
  have q0 := Int.emod_nonneg j (show 2 * n ≠ 0 by omega)
  have q1 := Int.emod_lt_of_pos j (show 0 < 2 * n by omega)
  have HM : Hid (∀ w, Calls Tryd.prog 36 #[.int .i64 j, .int .i64 (2 * n)] w fun e w' => e = .returned (.int .i64 (j % (2 * n))) ∧ w = w') := Lib.hid fun w => rMod_any j (2 * n) w (by omega) (by omega)
  obtain ⟨q, hq⟩ : ∃ q, j % (2 * n) = q := ⟨_, rfl⟩
  rw [hq] at hch q0 q1 HM
  clear hq
  obtain ⟨s0, s1⟩ := sq_small q0 (by omega)
  obtain ⟨S, hS⟩ : ∃ S, q * q = S := ⟨_, rfl⟩
  rw [hS] at hch s0 s1
  have eS : IntKind.i64.wrap (q * q) = S := by rw [hS]; exact IntWalk.i64_in _ (by omega)
  have n0 : (2 * n == 0) = false := by rw [beq_eq_false_iff_ne]; omega
  have r0 := Int.emod_nonneg S (show 2 * n ≠ 0 by omega)
  have r1 := Int.emod_lt_of_pos S (show 0 < 2 * n by omega)
  obtain ⟨R, hR⟩ : ∃ R, S % (2 * n) = R := ⟨_, rfl⟩
  rw [hR] at hch r0 r1
  have HC := Lib.hid hch
  clear hch hS
  go_enter Tryd.func29, Tryd.ntmps29
  go_wp2_with (first
    | (go_at_call 36; (with_reducible refine (HM.out _).mono ?_); rintro e w1 ⟨rfl, rfl⟩)
    | (go_at_call 44; (refine (rRoot_any _ _ _ (by omega) (by omega)).mono ?_); rintro e w2 ⟨c, s, rfl, hc, hs, hk2⟩))
  go_ret
  exact ⟨c, s, rfl, by rw [HC.out]; exact hc, by rw [HC.out]; exact hs, hk2⟩
set_option maxHeartbeats 400000 in
theorem rChirp_any (n j : Int) (w : World) (h1 : 1 ≤ n) (h2 : n ≤ 16384) :
    Calls Tryd.prog 10 #[.int .i64 n, .int .i64 j] w fun e w' => ∃ c s, e = .returned (.tuple #[.complex .f64 c s, .int .i64 0]) ∧ cn c = (chirp n j).1 ∧ cn s = (chirp n j).2 ∧ Kp w w' := by
  have b1 : decide (n < 1) = false := by simp; omega
  have b2 : decide (16384 < n) = false := by simp; omega
  go_enter Tryd.func10, Tryd.ntmps10
  go_wp2_with (go_at_call 29; (refine (rCAt_any _ _ _ h1 h2).mono ?_); rintro e w2 ⟨c, s, rfl, hc, hs, hk2⟩)
  go_ret2
  exact ⟨c, s, rfl, hc, hs, hk2⟩
theorem rChirp_bad (n j : Int) (w : World) (h : n < 1 ∨ 16384 < n) :
    Calls Tryd.prog 10 #[.int .i64 n, .int .i64 j] w fun e w' => e = .returned (.tuple #[.complex .f64 0 0, .int .i64 7]) ∧ Kp w w' := by
  rcases h with h | h
  · have b1 : decide (n < 1) = true := by simpa using h
    go_enter Tryd.func10, Tryd.ntmps10
    go_wp2_with fail
    go_ret2
    exact ⟨rfl, Kp.refl _⟩
  · have b1 : decide (n < 1) = false := by simp; omega
    have b2 : decide (16384 < n) = true := by simpa using h
    go_enter Tryd.func10, Tryd.ntmps10
    go_wp2_with fail
    go_ret2
    exact ⟨rfl, Kp.refl _⟩
theorem rLeast_any (n : Int) (w : World) :
    Calls Tryd.prog 14 #[.int .i64 n] w fun e w' => e = .returned (.int .i64 (if n < 1 ∨ 16384 < n then 0 else 2 * n - 1)) ∧ w = w' := by
  by_cases h1 : n < 1
  · have b1 : decide (n < 1) = true := by simpa using h1
    rw [if_pos (.inl h1)]
    go_enter Tryd.func14, Tryd.ntmps14
    go_wp2_with fail
    go_ret
    exact ⟨rfl, rfl⟩
  have b1 : decide (n < 1) = false := by simpa using h1
  by_cases h2 : 16384 < n
  · have b2 : decide (16384 < n) = true := by simpa using h2
    rw [if_pos (.inr h2)]
    go_enter Tryd.func14, Tryd.ntmps14
    go_wp2_with fail
    go_ret
    exact ⟨rfl, rfl⟩
  have b2 : decide (16384 < n) = false := by simpa using h2
  rw [if_neg (by omega)]
  go_enter Tryd.func14, Tryd.ntmps14
  go_wp2_with fail
  go_ret
  exact ⟨rfl, rfl⟩
set_option maxRecDepth 100000 in
set_option maxHeartbeats 1000000 in
theorem rList_any (n : Nat) (w : World) (n1 : 1 ≤ n) (n2 : n ≤ 16384) :
    Calls Tryd.prog 19 #[.int .i64 n] w fun e w' => ∃ v, e = .returned v ∧ CO w' w.heap.size v n (fun k => chirp n k) ∧ Kp w w' := by
  obtain ⟨i0, hi, hz0, hz1, hz2⟩ := info_parts info_c
  have hown0 := owns_empty w
  have hk0 : Kp w (w.alloc (.cells #[] 23)) := (Kp.refl w).alloc _
  go_enter Tryd.func19, Tryd.ntmps19
  go_wp2_with fail
  go_loopw [3, 4] (fun v i wr => ∃ (k : Nat) (xs : List Value), k ≤ n ∧ i = .int .i64 k ∧ wr.ownsRow w.heap.size 23 1 v k xs ∧ PartC (fun k => chirp n k) xs k ∧ Kp w wr) (fun _ i _ => n - (intOf i).toNat)
  case atStart => exact ⟨0, [], by omega, rfl, hown0, fun j hj => absurd hj (by omega), hk0⟩
  case round =>
    clear hown0 hk0
    obtain ⟨k, xs, hk, rfl, hown, hp, hkp⟩ := hrel
    have hlen := hown.1
    by_cases hlt : k < n
    · go_wp2_with (first
        | (go_at_call 29; (refine (rCAt_any _ _ _ (by omega) (by omega)).mono ?_); rintro e w2 ⟨c, s, rfl, hc, hs, hk2⟩; have hown2 := hk2.owns hown; have hkp2 := hkp.trans hk2; clear hkp hown hk2)
        | (at_builtin; refine wpList_append_own _ rfl _ _ 38 rfl w.heap.size 23 i0 (.complex .f64 0 0) 1 16 Tryd.underlying38 hi hz0 hz1 hz2 rfl (by decide) _ _ _ rfl (hown2.alloc _) ⟨w2.heap.size, 0, none⟩ 1 1 [.complex .f64 c s] rfl rfl ?c1 ?c2 ?c3 ?c4 ?c5 ?_))
      case c1 => exact cell_one_new _ _ _
      case c2 => simp [Value.oneCell']
      case c3 => unfold maxLen; omega
      case c4 => omega
      case c5 => have e1 := hkp2.size; simp; omega
      intro v' w5 hown5 hg _
      have hk5 : Kp w w5 := (hkp2.alloc _).grown hg (fun j hj => (hown2.lt j hj).1)
      have hp5 := hp.snoc (c := c) (s := s) (by simpa using hlen) hc hs
      clear hg hc hs
      go_wp2_with fail
      go_roundw
      case rel => exact ⟨k + 1, _, by omega, by go_num, hown5, hp5, hk5⟩
      case measure => simp [intOf]; omega
    · obtain rfl : k = n := by omega
      go_wp2_with fail
      go_ret
      exact ⟨_, rfl, ⟨xs, hown, hp⟩, hkp⟩
end Go.Proofs.YtnkcjbabfckdgaaDoor
