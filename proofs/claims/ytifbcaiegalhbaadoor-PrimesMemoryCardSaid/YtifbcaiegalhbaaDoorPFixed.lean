/-
  The walk of the statements' fixed calls.
-/
import Derived.Test.YtifbcaiegalhbaaDoorPRoot
import Derived.Test.YtifbcaiegalhbaaDoorPJoin
namespace Go.Proofs.YtifbcaiegalhbaaDoor
open Go Go.RowKit Go.Fl Go.Pr

theorem root41 {g : Nat} (h : IsRoot 41 g) : g = 6 := h.uniq ⟨by decide, by decide +kernel, fun h h0 h1 => by
  obtain rfl | rfl | rfl | rfl | rfl : h = 1 ∨ h = 2 ∨ h = 3 ∨ h = 4 ∨ h = 5 := by omega
  all_goals decide +kernel⟩
theorem inv37 : invN 3 7 = 5 := by decide +kernel
theorem join8 : joinN 2 3 3 5 = 8 := by decide +kernel
theorem facts360 : factsI 360 = [2, 2, 2, 3, 3, 5] := by decide +kernel
theorem pri41 : Pri 41 := by decide +kernel
theorem pri97 : primeB 97 = true := by decide +kernel
theorem gcd6 : gcdI (-12) 18 = 6 := by decide +kernel
theorem pow9 : (3 ^ 200 % 13 : Nat) = 9 := by decide +kernel
theorem IL.lit (w : World) (l : List Nat) (hm : l.length ≤ maxLen) : IL (w.alloc (.cells (ints l).toArray 3)) w.heap.size (.slice (Option.some ⟨w.heap.size, 0, Option.none⟩) l.length l.length) l := by
  have := World.ownsRow_lit (base := w.heap.size) (e := 3) (size := 1) w (ints l).toArray l.length (Nat.le_refl _) hm (by simp [ints])
  simpa [IL] using this
theorem Root41 (w : World) : Calls Tryd.prog 25 #[.int .i64 41] w fun e w' => e = .returned (.tuple #[.int .i64 6, .nilIface]) ∧ Kp w w' := by
  have h := Root_yes 41 w pri41 (by omega)
  refine Calls.mono (show Calls Tryd.prog 25 #[.int .i64 41] w _ from h) ?_
  rintro e w' ⟨g, he, hg, _, hk⟩
  refine ⟨?_, hk⟩
  rw [he, root41 hg.out]
  rfl
set_option maxRecDepth 100000 in
set_option maxHeartbeats 2000000 in
theorem fixed_any (E : Nat → Addr) (w : World) (hE : Ers w E) :
    Calls Tryd.prog 11 #[] w fun e w' => e = .returned (.bool true) ∧ Kp w w' := by
  have hI : ∀ w', Ers w' E → Calls Tryd.prog 12 #[.int .u64 3, .int .u64 7] w' fun e w'' => e = .returned (.tuple #[.int .u64 5, .nilIface]) ∧ Dr w' w'' := fun w' h => by
    have := Inverse_yes 3 7 _ w' h.root (by omega) (by omega) (by omega) (by omega) (by decide)
    rw [show invN (Int.toNat 3) (Int.toNat 7) = 5 from inv37] at this; exact this
  have hR := fun w' => Root41 w'
  have hJ : ∀ w', Ers w' E → Calls Tryd.prog 14 #[.int .u64 2, .int .u64 3, .int .u64 3, .int .u64 5] w' fun e w'' => e = .returned (.tuple #[.int .u64 8, .nilIface]) ∧ Dr w' w'' := fun w' h => by
    have := Join_yes 2 3 3 5 _ w' h.root (by omega) (by omega) (by omega) (by omega) (by omega) (by omega) (by omega) (by decide)
    rw [join8] at this; exact this
  have hF : ∀ w', Calls Tryd.prog 26 #[.int .i64 360] w' fun e w'' => ∃ v, e = .returned v ∧ IL w'' w'.heap.size v [2, 2, 2, 3, 3, 5] ∧ Kp w' w'' := fun w' => by
    have := Factors_any 360 w'
    rw [facts360] at this; exact this
  have hP : ∀ w', Calls Tryd.prog 24 #[.int .i64 97] w' fun e w'' => e = .returned (.bool true) ∧ w' = w'' := fun w' => by have := Prime_any 97 w'; rw [pri97] at this; exact this
  have hG : ∀ w', Calls Tryd.prog 21 #[.int .i64 (-12), .int .i64 18] w' fun e w'' => e = .returned (.int .i64 6) ∧ Dr w' w'' := fun w' => by have := Gcd_any (-12) 18 w' (by omega) (by omega) (by omega) (by omega); rw [gcd6] at this; exact this
  have hW : ∀ w', Calls Tryd.prog 19 #[.int .u64 3, .int .u64 200, .int .u64 13] w' fun e w'' => e = .returned (.int .u64 9) ∧ Dr w' w'' := fun w' => by have := Pow_nat 3 200 13 w' (by omega) (by omega) (by omega) (by omega); rw [pow9] at this; exact this
  have HI := Lib.hid hI
  have HR := Lib.hid hR
  have HJ := Lib.hid hJ
  have HF := Lib.hid hF
  have HP := Lib.hid hP
  have HG := Lib.hid hG
  have HW := Lib.hid hW
  have HE := Lib.hid hE
  clear hI hR hJ hF hP hG hW hE
  go_enter Tryd.func11, Tryd.ntmps11
  go_wp2_with (first
    | (go_at_call 12; (with_reducible refine (HI.out _ HE.out).mono ?_); rintro e w1 ⟨rfl, hk1⟩; have HE1 := Lib.hid (HE.out.kp hk1.kp))
    | (go_at_call 25; (with_reducible refine (HR.out _).mono ?_); rintro e w2 ⟨rfl, hk2⟩; have HE2 := Lib.hid (HE1.out.kp hk2))
    | (go_at_call 14; (with_reducible refine (HJ.out _ HE2.out).mono ?_); rintro e w3 ⟨rfl, hk3⟩)
    | (go_at_call 26; (with_reducible refine (HF.out _).mono ?_); rintro e w4 ⟨v, rfl, hIL, hk4⟩; have HIL := Lib.hid hIL; clear hIL)
    | (go_at_call 32; (refine (SameInts_yes _ _ _ _ [2, 2, 2, 3, 3, 5] _ (by decide) (HIL.out.kp ((Kp.refl _).alloc _)) (IL.lit w4 [2, 2, 2, 3, 3, 5] (by decide))).mono ?_); rintro e w5 ⟨rfl, hk5⟩)
    | (go_at_call 24; (with_reducible refine (HP.out _).mono ?_); rintro e w6 ⟨rfl, rfl⟩)
    | (go_at_call 21; (with_reducible refine (HG.out _).mono ?_); rintro e w7 ⟨rfl, hk7⟩)
    | (go_at_call 19; (with_reducible refine (HW.out _).mono ?_); rintro e w8 ⟨rfl, hk8⟩))
  go_ret
  exact ⟨rfl, ((((((hk1.kp.trans hk2).trans hk3.kp).trans hk4).alloc _).trans hk5.kp).trans hk7.kp).trans hk8.kp⟩
end Go.Proofs.YtifbcaiegalhbaaDoor
