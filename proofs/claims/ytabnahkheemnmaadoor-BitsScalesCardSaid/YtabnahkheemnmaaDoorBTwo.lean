/-
  The walk of BitsTwo.
-/
import Derived.Test.YtabnahkheemnmaaDoorBLives
namespace Go.Proofs.YtabnahkheemnmaaDoor
open Go Go.RowKit Go.Fl

theorem wf_u64 {a : Int} (h : (Lit.int .u64 a).wf = true) : ∃ A : Nat, a = (A : Int) ∧ A < 18446744073709551616 := by
  have h1 := h
  simp [Lit.wf, IntKind.min, IntKind.max, IntKind.signed, IntKind.bits] at h1
  exact ⟨a.toNat, by omega, by omega⟩
set_option maxHeartbeats 400000 in
theorem of_any (a : Nat) (w : World) :
    Calls Tryd.prog 11 #[.int .u64 a] w fun e w' => e = .returned (.float .f64 a) ∧ w = w' := by
  go_enter Tryd.func11, Tryd.ntmps11
  go_wp2_with fail
  go_ret
  exact ⟨rfl, rfl⟩
theorem Num_nilb (w : World) : Calls Tryd.prog 14 #[.nilIface] w fun e w' => e = .returned (.int .i64 0) ∧ Kp w w' :=
  (Num_nil w).mono fun e w' ⟨h, hw⟩ => ⟨h, hw ▸ Kp.refl w⟩
theorem Errs.number {w : World} {E : Nat → Addr} (hE : Errs w E) : errAt w 0 (E 12) := hE.cell 12 (by decide)
theorem apart_pair (a b : Nat) (E : Nat → Addr) (w : World) (ha : a < 18446744073709551616) (hb : b < 18446744073709551616) (hE : Errs w E) : ∃ (ev : Value) (q : Int) (n : Nat),
    Hid (∀ w', Kp w w' → Calls Tryd.prog 12 #[.float .f64 a, .float .f64 b] w' fun e w'' => e = .returned (.tuple #[.int .u64 n, ev]) ∧ Kp w' w'') ∧
    Hid (∀ w', Kp w w' → Calls Tryd.prog 13 #[.float .f64 a, .float .f64 b] w' fun e w'' => e = .returned (.tuple #[.int .u64 n, .int .i64 q]) ∧ Kp w' w'') ∧
    Hid (∀ w', Kp w w' → Calls Tryd.prog 14 #[ev] w' fun e w'' => e = .returned (.int .i64 q) ∧ Kp w' w'') := by
  by_cases h : isN a = true ∨ isN b = true
  · refine ⟨.iface 68 (.pointer (some (E 12))), 13, 0, Lib.hid fun w' hk => bApart_nan a b (E 12) w' ha hb (hE.kp hk).number h, Lib.hid fun w' hk => (rApart_nan a b w' ha hb h).mono fun e w'' ⟨he, hw⟩ => ⟨he, hw ▸ Kp.refl w'⟩, Lib.hid fun w' hk => Num_err E 12 (by decide) w' (hE.kp hk)⟩
  · have na : isN a = false := by cases hh : isN a with | false => rfl | true => exact absurd (.inl hh) h
    have nb : isN b = false := by cases hh : isN b with | false => rfl | true => exact absurd (.inr hh) h
    exact ⟨.nilIface, 0, apartB a b, Lib.hid fun w' hk => (bApart_any a b w' ⟨ha, na⟩ ⟨hb, nb⟩).mono fun e w'' ⟨he, hw⟩ => ⟨he, hw ▸ Kp.refl w'⟩, Lib.hid fun w' hk => (rApart_any a b w' ⟨ha, na⟩ ⟨hb, nb⟩).mono fun e w'' ⟨he, hw⟩ => ⟨he, hw ▸ Kp.refl w'⟩, Lib.hid fun w' _ => Num_nilb w'⟩
set_option maxHeartbeats 1000000 in
theorem walk_BitsTwo (a : Int) (wa : (Lit.int .u64 a).wf = true) (b : Int) (wb : (Lit.int .u64 b).wf = true) (E : Nat → Addr) (w : World) (hE : Errs w E) :
    Calls Tryd.prog 3 #[.int .u64 a, .int .u64 b] w fun e w' => e = .returned (.bool true) ∧ Kp w w' := by
  obtain ⟨A, rfl, hA⟩ := wf_u64 wa
  obtain ⟨B, rfl, hB⟩ := wf_u64 wb
  obtain ⟨ev, q, n, A1, A2, A3⟩ := apart_pair A B E w hA hB hE
  clear wa wb hE
  obtain ⟨s, hs⟩ : ∃ s, decide (cn A = cn B) = s := ⟨_, rfl⟩
  have S1 : Hid (∀ w, Calls Tryd.prog 15 #[.float .f64 A, .float .f64 B] w fun e w' => e = .returned (.bool s) ∧ w = w') := Lib.hid fun w => by rw [← hs]; exact bSame_any A B w
  have S2 : Hid (∀ w, Calls Tryd.prog 16 #[.float .f64 A, .float .f64 B] w fun e w' => e = .returned (.bool s) ∧ w = w') := Lib.hid fun w => by rw [← hs]; exact rSame_any A B w
  obtain ⟨c, hc⟩ : ∃ c, cmpB A B = c := ⟨_, rfl⟩
  have C1 : Hid (∀ w, Calls Tryd.prog 17 #[.float .f64 A, .float .f64 B] w fun e w' => e = .returned (.int .i64 c) ∧ w = w') := Lib.hid fun w => by rw [← hc]; exact bCompare_any A B w hA hB
  have C2 : Hid (∀ w, Calls Tryd.prog 18 #[.float .f64 A, .float .f64 B] w fun e w' => e = .returned (.int .i64 c) ∧ w = w') := Lib.hid fun w => by rw [← hc]; exact rCompare_any A B w hA hB
  clear hs hc
  cases s
  all_goals
    go_enter Tryd.func3, Tryd.ntmps3
    go_wp2_with (first
      | (go_at_call 10; (with_reducible refine (blives_any _).mono ?_); rintro e w0 ⟨rfl, hk0⟩)
      | (go_at_call 11; (with_reducible refine (of_any _ _).mono ?_); rintro e w1 ⟨rfl, rfl⟩)
      | (go_at_call 12; (with_reducible refine (A1.out _ hk0).mono ?_); rintro e w2 ⟨rfl, hkx⟩; have hk1 := hk0.trans hkx; clear hk0 hkx)
      | (go_at_call 13; (with_reducible refine (A2.out _ hk1).mono ?_); rintro e w2 ⟨rfl, hkx⟩; have hk2 := hk1.trans hkx; clear hk1 hkx)
      | (go_at_call 14; (with_reducible refine (A3.out _ hk2).mono ?_); rintro e w2 ⟨rfl, hkx⟩; have hk3 := hk2.trans hkx; clear hk2 hkx)
      | (go_at_call 15; (with_reducible refine (S1.out _).mono ?_); rintro e w1 ⟨rfl, rfl⟩)
      | (go_at_call 16; (with_reducible refine (S2.out _).mono ?_); rintro e w1 ⟨rfl, rfl⟩)
      | (go_at_call 17; (with_reducible refine (C1.out _).mono ?_); rintro e w1 ⟨rfl, rfl⟩)
      | (go_at_call 18; (with_reducible refine (C2.out _).mono ?_); rintro e w1 ⟨rfl, rfl⟩))
    go_ret
    exact ⟨rfl, hk3⟩
end Go.Proofs.YtabnahkheemnmaaDoor
