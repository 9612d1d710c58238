/-
  The walk of BitsScales.
-/
import Derived.Test.YtabnahkheemnmaaDoorBScPl
namespace Go.Proofs.YtabnahkheemnmaaDoor
open Go Go.RowKit Go.Fl

theorem bSignbit_any (a : Nat) (w : World) (h : a < 18446744073709551616) :
    Calls Tryd.prog 26 #[.float .f64 a] w fun e w' => e = .returned (.bool (decide (0 < sw a))) ∧ w = w' := by
  have e : decide (wrap64 (a : Int) < 0) = decide (0 < sw a) := by
    have h1 := sw_cases h
    have h2 := lo_lt a
    have e2 : wrap64 (a : Int) < 0 ↔ 0 < sw a := by
      simp only [wrap64]
      rcases h1 with ⟨p, q⟩ | ⟨p, q⟩ <;> omega
    simp only [e2]
  have HE := Lib.hid e
  clear e
  go_enter Tryd.func26, Tryd.ntmps26
  go_wp2_with fail
  go_ret
  refine ⟨?_, rfl⟩
  rw [← HE.out]
  rfl
theorem bSame_refl (a : Nat) (w : World) :
    Calls Tryd.prog 15 #[.float .f64 a, .float .f64 a] w fun e w' => e = .returned (.bool true) ∧ w = w' := by
  have := bSame_any a a w
  rw [decide_eq_true rfl] at this
  exact this
set_option maxHeartbeats 1000000 in
theorem bScales_no (A : Nat) (k : Int) (E : Nat → Addr) (w : World) (hA : A < 18446744073709551616) (hE : Errs w E) (hn : noExp A) :
    Calls Tryd.prog 7 #[.int .u64 A, .int .i64 k] w fun e w' => e = .returned (.bool true) ∧ Kp w w' := by
  have X1 : Hid (∀ w', Kp w w' → Calls Tryd.prog 27 #[.float .f64 A] w' fun e w'' => e = .returned (.tuple #[.int .i64 0, .iface 68 (.pointer (some (E 12)))]) ∧ Kp w' w'') := Lib.hid fun w' hk => bExp_no A (E 12) w' hA (hE.kp hk).number hn
  have X3 : Hid (∀ w', Kp w w' → Calls Tryd.prog 14 #[.iface 68 (.pointer (some (E 12)))] w' fun e w'' => e = .returned (.int .i64 13) ∧ Kp w' w'') := Lib.hid fun w' hk => Num_err E 12 (by decide) w' (hE.kp hk)
  have S1 := Lib.hid (bScale_no A k · hA hn)
  have SS := Lib.hid (bSame_refl A)
  clear hE hn
  go_enter Tryd.func7, Tryd.ntmps7
  go_wp2_with (first
    | (go_at_call 10; (with_reducible refine (blives_any _).mono ?_); rintro e w0 ⟨rfl, hk0⟩)
    | (go_at_call 11; (with_reducible refine (of_any _ _).mono ?_); rintro e w1 ⟨rfl, rfl⟩)
    | (go_at_call 27; (with_reducible refine (X1.out _ hk0).mono ?_); rintro e w2 ⟨rfl, hkx⟩; have hk1 := hk0.trans hkx; clear hk0 hkx)
    | (go_at_call 14; (with_reducible refine (X3.out _ hk1).mono ?_); rintro e w2 ⟨rfl, hkx⟩; have hk2 := hk1.trans hkx; clear hk1 hkx)
    | (go_at_call 28; (with_reducible refine (S1.out _).mono ?_); rintro e w1 ⟨rfl, rfl⟩)
    | (go_at_call 15; (with_reducible refine (SS.out _).mono ?_); rintro e w1 ⟨rfl, rfl⟩))
  go_ret
  exact ⟨rfl, hk2⟩
set_option maxHeartbeats 2000000 in
theorem bScales_yes (A : Nat) (k : Int) (w : World) (hA : A < 18446744073709551616) (h0 : 0 < lo A) (hf : lo A < 9218868437227405312) :
    Calls Tryd.prog 7 #[.int .u64 A, .int .i64 k] w fun e w' => e = .returned (.bool true) ∧ Kp w w' := by
  have hb := nE_bound h0 hf
  have X1 := Lib.hid (bExp_yes A · hA h0 hf)
  obtain ⟨x, hx⟩ : ∃ x, nE (lo A) - 1022 = x := ⟨_, rfl⟩
  rw [hx] at X1
  have c1 : clamp (-x) = -x := by unfold clamp; omega
  have c2 : clamp x = x := by unfold clamp; omega
  obtain ⟨G, g1, g2, g3, g4, g5, g6, g7, g8⟩ := sc_word (k := -x) hA h0 (by omega) (by omega)
  have S1 : Hid (∀ w, Calls Tryd.prog 28 #[.float .f64 A, .int .i64 (-x)] w fun e w' => e = .returned (.float .f64 G) ∧ Kp w w') := Lib.hid fun w => by
    have := bScale_yes A (-x) w hA h0 hf; rw [← g1] at this; exact this
  have hbk : sw G + scR (lo G) (nE (lo G) + clamp x) = A := sc_back hA h0 hf g3 g7 (by omega)
  have S2 : Hid (∀ w, Calls Tryd.prog 28 #[.float .f64 G, .int .i64 x] w fun e w' => e = .returned (.float .f64 A) ∧ Kp w w') := Lib.hid fun w => by
    have := bScale_yes G x w g2 g5 g6; rw [hbk] at this; exact this
  have hM := nM_bound h0
  have hGl : 4607182418800017408 ≤ lo G ∧ lo G < 4611686018427387904 := by
    rw [g4, scR_in h0 (by omega) (by omega), show (nE (lo A) + clamp (-x)).toNat = 1022 by omega]
    omega
  have AB : Hid (∀ w, Calls Tryd.prog 29 #[.float .f64 G] w fun e w' => e = .returned (.float .f64 (lo G)) ∧ w = w') := Lib.hid fun w => babs_any G _ w (b_andNot_sign g2)
  have N1 : Hid (∀ w, Calls Tryd.prog 26 #[.float .f64 G] w fun e w' => e = .returned (.bool (decide (0 < sw A))) ∧ w = w') := Lib.hid fun w => by
    have := bSignbit_any G w g2; rw [g3] at this; exact this
  have N2 := Lib.hid (bSignbit_any A · hA)
  have SS := Lib.hid (bSame_refl A)
  have q1 : ((ord (cn (lo G)) (cn 4607182418800017408) == some .gt) = true ∧ (ord (cn (lo G)) (cn 4607182418800017408) == some .eq) = false) ∨ ((ord (cn (lo G)) (cn 4607182418800017408) == some .gt) = false ∧ (ord (cn (lo G)) (cn 4607182418800017408) == some .eq) = true) := by
    by_cases c : lo G = 4607182418800017408
    · right; rw [c]; decide +kernel
    · left
      have hgt : (4607182418800017408 : Nat) < lo G := by omega
      rw [ord_pos g6 (by decide)]
      have e : compare (lo G) 4607182418800017408 = .gt := by
        simp only [compare, compareOfLessAndEq]
        rw [if_neg (by omega), if_neg (by omega)]
      rw [e]; decide
  have q2 : (ord (cn (lo G)) (cn 4611686018427387904) == some .lt) = true := by rw [lt_pos g6 (by decide)]; exact decide_eq_true hGl.2
  have HH : Hid (-3000 ≤ k → k ≤ 3000 → -1022 ≤ x + k → x + k ≤ 1023 → ∃ B, (∀ w, Calls Tryd.prog 28 #[.float .f64 A, .int .i64 k] w fun e w' => e = .returned (.float .f64 B) ∧ Kp w w') ∧
      (∀ w, Calls Tryd.prog 27 #[.float .f64 B] w fun e w' => e = .returned (.tuple #[.int .i64 (x + k), .nilIface]) ∧ Kp w w') ∧
      (∀ w, Calls Tryd.prog 28 #[.float .f64 B, .int .i64 (-k)] w fun e w' => e = .returned (.float .f64 A) ∧ Kp w w')) := Lib.hid fun k1 k2 k3 k4 => by
    have d1 : clamp k = k := by unfold clamp; omega
    have d2 : clamp (-k) = -k := by unfold clamp; omega
    obtain ⟨B, b1, b2, b3, b4, b5, b6, b7, b8⟩ := sc_word (k := k) hA h0 (by omega) (by omega)
    refine ⟨B, fun w => ?_, fun w => ?_, fun w => ?_⟩
    · have := bScale_yes A k w hA h0 hf; rw [← b1] at this; exact this
    · have := bExp_yes B w b2 b5 b6; rw [b8, show nE (lo A) + clamp k - 1022 = x + k by omega] at this; exact this
    · have := bScale_yes B (-k) w b2 b5 b6
      rw [sc_back hA h0 hf b3 b7 (by omega)] at this; exact this
  have hxb : -1074 ≤ x ∧ x ≤ 1023 := by omega
  generalize decide (0 < sw A) = sb at *
  generalize lo G = L at *
  clear c1 c2 g1 g2 g3 g4 g5 g6 g7 g8 hbk hM hGl hb hx h0 hf
  have hsb : (sb != sb) = false := by simp
  rcases q1 with ⟨p1, p2⟩ | ⟨p1, p2⟩
  all_goals
    go_enter Tryd.func7, Tryd.ntmps7
    go_upto_region 11 with (first
      | (go_at_call 10; (with_reducible refine (blives_any _).mono ?_); rintro e w0 ⟨rfl, hk0⟩)
      | (go_at_call 11; (with_reducible refine (of_any _ _).mono ?_); rintro e w1 ⟨rfl, rfl⟩)
      | (go_at_call 27; (with_reducible refine (X1.out _).mono ?_); rintro e w2 ⟨rfl, hkx⟩; have hk1 := hk0.trans hkx; clear hk0 hkx)
      | (go_at_call 28; (with_reducible refine (S1.out _).mono ?_); rintro e w1 ⟨rfl, hkx⟩; have hk2 := hk1.trans hkx; clear hk1 hkx)
      | (go_at_call 28; (with_reducible refine (S2.out _).mono ?_); rintro e w1 ⟨rfl, hkx⟩; have hk3 := hk2.trans hkx; clear hk2 hkx)
      | (go_at_call 29; (with_reducible refine (AB.out _).mono ?_); rintro e w1 ⟨rfl, rfl⟩)
      | (go_at_call 26; (with_reducible refine (N1.out _).mono ?_); rintro e w1 ⟨rfl, rfl⟩)
      | (go_at_call 26; (with_reducible refine (N2.out _).mono ?_); rintro e w1 ⟨rfl, rfl⟩)
      | (go_at_call 15; (with_reducible refine (SS.out _).mono ?_); rintro e w1 ⟨rfl, rfl⟩))
    have HK := Lib.hid hk3
    by_cases c1 : k < -3000
    · have d1 : decide (k < -3000) = true := by simpa using c1
      go_wp2_with fail
      go_ret
      exact ⟨rfl, HK.out⟩
    have d1 : decide (k < -3000) = false := by simpa using c1
    by_cases c2 : 3000 < k
    · have d2 : decide ((3000 : Int) < k) = true := by simpa using c2
      go_wp2_with fail
      go_ret
      exact ⟨rfl, HK.out⟩
    have d2 : decide ((3000 : Int) < k) = false := by simpa using c2
    have hxk : IntKind.i64.wrap (x + k) = x + k := IntWalk.i64_in _ (by omega)
    by_cases c3 : x + k < -1022
    · have d3 : decide (x + k < -1022) = true := by simpa using c3
      go_wp2_with fail
      go_ret
      exact ⟨rfl, HK.out⟩
    have d3 : decide (x + k < -1022) = false := by simpa using c3
    by_cases c4 : 1023 < x + k
    · have d4 : decide ((1023 : Int) < x + k) = true := by simpa using c4
      go_wp2_with fail
      go_ret
      exact ⟨rfl, HK.out⟩
    have d4 : decide ((1023 : Int) < x + k) = false := by simpa using c4
    by_cases c5 : x < -1022
    · have d5 : decide (x < -1022) = true := by simpa using c5
      go_wp2_with fail
      go_ret
      exact ⟨rfl, HK.out⟩
    have d5 : decide (x < -1022) = false := by simpa using c5
    obtain ⟨B, T1, T2, T3⟩ := HH.out (by omega) (by omega) (by omega) (by omega)
    have T1 := Lib.hid T1
    have T2 := Lib.hid T2
    have T3 := Lib.hid T3
    have hxx : (x + k == x + k) = true := by simp
    have hkb : -3000 ≤ k ∧ k ≤ 3000 := by omega
    clear c1 c2 c3 c4 c5 HH S1 S2 X1 hk3
    go_wp2_with (first
      | (go_at_call 28; (with_reducible refine (T1.out _).mono ?_); rintro e w1 ⟨rfl, hkx⟩; have hk4 := HK.out.trans hkx; clear hkx)
      | (go_at_call 27; (with_reducible refine (T2.out _).mono ?_); rintro e w2 ⟨rfl, hkx⟩; have hk5 := hk4.trans hkx; clear hk4 hkx)
      | (go_at_call 28; (with_reducible refine (T3.out _).mono ?_); rintro e w1 ⟨rfl, hkx⟩; have hk6 := hk5.trans hkx; clear hk5 hkx)
      | (go_at_call 15; (with_reducible refine (SS.out _).mono ?_); rintro e w1 ⟨rfl, rfl⟩))
    go_ret
    exact ⟨rfl, hk6⟩
theorem walk_BitsScales (a : Int) (wa : (Lit.int .u64 a).wf = true) (k : Int) (_ : (Lit.int .i64 k).wf = true) (E : Nat → Addr) (w : World) (hE : Errs w E) :
    Calls Tryd.prog 7 #[.int .u64 a, .int .i64 k] w fun e w' => e = .returned (.bool true) ∧ Kp w w' := by
  obtain ⟨A, rfl, hA⟩ := wf_u64 wa
  by_cases h : noExp A
  · exact bScales_no A k E w hA hE h
  · obtain ⟨h1, h2⟩ := exp_fin h
    exact bScales_yes A k w hA h1 h2
end Go.Proofs.YtabnahkheemnmaaDoor
