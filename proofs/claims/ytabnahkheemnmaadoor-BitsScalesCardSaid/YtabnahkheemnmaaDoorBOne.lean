/-
  The walk of BitsOne.
-/
import Derived.Test.YtabnahkheemnmaaDoorBWhole
namespace Go.Proofs.YtabnahkheemnmaaDoor
open Go Go.RowKit Go.Fl

theorem exp_fin {a : Nat} (h : ¬ noExp a) : 0 < lo a ∧ lo a < 9218868437227405312 := by unfold noExp at h; omega
theorem exp_pair (a : Nat) (E : Nat → Addr) (w : World) (ha : a < 18446744073709551616) (hE : Errs w E) : ∃ (ev : Value) (q n : Int),
    Hid (∀ w', Kp w w' → Calls Tryd.prog 27 #[.float .f64 a] w' fun e w'' => e = .returned (.tuple #[.int .i64 n, ev]) ∧ Kp w' w'') ∧
    Hid (∀ w', Calls Tryd.prog 34 #[.float .f64 a] w' fun e w'' => e = .returned (.tuple #[.int .i64 n, .int .i64 q]) ∧ w' = w'') ∧
    Hid (∀ w', Kp w w' → Calls Tryd.prog 14 #[ev] w' fun e w'' => e = .returned (.int .i64 q) ∧ Kp w' w'') := by
  by_cases h : noExp a
  · exact ⟨.iface 68 (.pointer (some (E 12))), 13, 0, Lib.hid fun w' hk => bExp_no a (E 12) w' ha (hE.kp hk).number h, Lib.hid fun w' => rExp_no a w' h, Lib.hid fun w' hk => Num_err E 12 (by decide) w' (hE.kp hk)⟩
  · obtain ⟨h1, h2⟩ := exp_fin h
    exact ⟨.nilIface, 0, nE (lo a) - 1022, Lib.hid fun w' _ => bExp_yes a w' ha h1 h2, Lib.hid fun w' => rExp_yes a w' h1 h2, Lib.hid fun w' _ => Num_nilb w'⟩
theorem scale_pair (a : Nat) (k : Int) (ha : a < 18446744073709551616) : ∃ s : Nat,
    Hid (∀ w, Calls Tryd.prog 28 #[.float .f64 a, .int .i64 k] w fun e w' => e = .returned (.float .f64 s) ∧ Kp w w') ∧
    Hid (∀ w, Calls Tryd.prog 42 #[.float .f64 a, .int .i64 k] w fun e w' => e = .returned (.float .f64 s) ∧ w = w') := by
  by_cases h : noExp a
  · exact ⟨a, Lib.hid fun w => (bScale_no a k w ha h).mono fun e w' ⟨he, hw⟩ => ⟨he, hw ▸ Kp.refl w⟩, Lib.hid fun w => rScale_no a k w h⟩
  · obtain ⟨h1, h2⟩ := exp_fin h
    exact ⟨_, Lib.hid fun w => bScale_yes a k w ha h1 h2, Lib.hid fun w => rScale_yes a k w ha h1 h2⟩
set_option maxHeartbeats 2000000 in
theorem walk_BitsOne (a : Int) (wa : (Lit.int .u64 a).wf = true) (k : Int) (_ : (Lit.int .i64 k).wf = true) (E : Nat → Addr) (w : World) (hE : Errs w E) :
    Calls Tryd.prog 9 #[.int .u64 a, .int .i64 k] w fun e w' => e = .returned (.bool true) ∧ Kp w w' := by
  obtain ⟨A, rfl, hA⟩ := wf_u64 wa
  obtain ⟨ev, q, n, X1, X2, X3⟩ := exp_pair A E w hA hE
  obtain ⟨s, S1, S2⟩ := scale_pair A k hA
  have B1 := Lib.hid (bBits_any A)
  have B2 := Lib.hid (Bits_any A)
  have O1 := Lib.hid (bOf_any A)
  have C1 := Lib.hid (bClass_any A · hA)
  have C2 := Lib.hid (rClass_any A · hA)
  have W1 := Lib.hid (bWhole_any A · hA)
  have W2 := Lib.hid (rWhole_any A · hA)
  have U1 := Lib.hid (bUp_any A · hA)
  have U2 := Lib.hid (rUp_any A · hA)
  have D1 := Lib.hid (bDown_any A · hA)
  have D2 := Lib.hid (rDown_any A · hA)
  generalize cn A = cA at B1 B2
  generalize cls A = cl at C1 C2
  generalize (decide (lo A < 9218868437227405312) && whB (lo A)) = wh at W1 W2
  generalize upB A = up at U1 U2
  generalize downB A = dn at D1 D2
  have SS := Lib.hid fun (b : Nat) w => bsame_any b b w rfl
  have hw : (wh != wh) = false := by simp
  have hc : (cl != cl) = false := by simp
  have hn : (n != n) = false := by simp
  have hq : (q != q) = false := by simp
  have hb : ((cA : Int) != (cA : Int)) = false := by simp
  clear wa hE
  go_enter Tryd.func9, Tryd.ntmps9
  go_wp2_with (first
    | (go_at_call 10; (with_reducible refine (blives_any _).mono ?_); rintro e w0 ⟨rfl, hk0⟩)
    | (go_at_call 11; (with_reducible refine (of_any _ _).mono ?_); rintro e w1 ⟨rfl, rfl⟩)
    | (go_at_call 27; (with_reducible refine (X1.out _ hk0).mono ?_); rintro e w2 ⟨rfl, hkx⟩; have hk1 := hk0.trans hkx; clear hk0 hkx)
    | (go_at_call 34; (with_reducible refine (X2.out _).mono ?_); rintro e w2 ⟨rfl, rfl⟩)
    | (go_at_call 14; (with_reducible refine (X3.out _ hk1).mono ?_); rintro e w2 ⟨rfl, hkx⟩; have hk2 := hk1.trans hkx; clear hk1 hkx)
    | (go_at_call 20; (with_reducible refine (B1.out _).mono ?_); rintro e w1 ⟨rfl, rfl⟩)
    | (go_at_call 35; (with_reducible refine (B2.out _).mono ?_); rintro e w1 ⟨rfl, rfl⟩)
    | (go_at_call 19; (with_reducible refine (O1.out _).mono ?_); rintro e w1 ⟨rfl, rfl⟩)
    | (go_at_call 36; (with_reducible refine (SS.out _ _).mono ?_); rintro e w1 ⟨rfl, rfl⟩)
    | (go_at_call 21; (with_reducible refine (C1.out _).mono ?_); rintro e w1 ⟨rfl, rfl⟩)
    | (go_at_call 37; (with_reducible refine (C2.out _).mono ?_); rintro e w1 ⟨rfl, rfl⟩)
    | (go_at_call 38; (with_reducible refine (W1.out _).mono ?_); rintro e w1 ⟨rfl, rfl⟩)
    | (go_at_call 39; (with_reducible refine (W2.out _).mono ?_); rintro e w1 ⟨rfl, rfl⟩)
    | (go_at_call 22; (with_reducible refine (U1.out _).mono ?_); rintro e w1 ⟨rfl, rfl⟩)
    | (go_at_call 40; (with_reducible refine (U2.out _).mono ?_); rintro e w1 ⟨rfl, rfl⟩)
    | (go_at_call 23; (with_reducible refine (D1.out _).mono ?_); rintro e w1 ⟨rfl, rfl⟩)
    | (go_at_call 41; (with_reducible refine (D2.out _).mono ?_); rintro e w1 ⟨rfl, rfl⟩)
    | (go_at_call 28; (with_reducible refine (S1.out _).mono ?_); rintro e w1 ⟨rfl, hkx⟩; have hk3 := hk2.trans hkx; clear hk2 hkx)
    | (go_at_call 42; (with_reducible refine (S2.out _).mono ?_); rintro e w1 ⟨rfl, rfl⟩))
  go_ret
  exact ⟨rfl, hk3⟩
end Go.Proofs.YtabnahkheemnmaaDoor
