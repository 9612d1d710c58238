/-
  The walk of layer 1's lives: fixed facts.
-/
import Derived.Test.YtabnahkheemnmaaDoorBAp
namespace Go.Proofs.YtabnahkheemnmaaDoor
open Go Go.RowKit Go.Fl

theorem z_eq : (ord 0 0 == some .eq) = true := by decide +kernel
theorem babs_any (a r : Nat) (w : World) (h : bits BinOp.andNot IntKind.u64 (a : Int) 9223372036854775808 = (r : Int)) :
    Calls Tryd.prog 29 #[.float .f64 a] w fun e w' => e = .returned (.float .f64 r) ∧ w = w' := by
  go_enter Tryd.func29, Tryd.ntmps29
  go_wp2_with fail
  go_ret
  exact ⟨rfl, rfl⟩
theorem bfinite_any (a r : Nat) (b : Bool) (w : World) (h : bits BinOp.and IntKind.u64 (a : Int) 9218868437227405312 = (r : Int)) (hb : ((r : Int) != 9218868437227405312) = b) :
    Calls Tryd.prog 48 #[.float .f64 a] w fun e w' => e = .returned (.bool b) ∧ w = w' := by
  go_enter Tryd.func48, Tryd.ntmps48
  go_wp2_with fail
  go_ret
  exact ⟨by rw [← hb]; rfl, rfl⟩
theorem isinf_lit (a : Nat) (w : World) (r : Nat) (h : bits BinOp.andNot IntKind.u64 (a : Int) 9223372036854775808 = (r : Int)) (h2 : (ord (cn r) (cn 9218868437227405311) == some .gt) = false) :
    Calls Tryd.prog 59 #[.float .f64 a, .int .i64 0] w fun e w' => e = .returned (.bool false) ∧ w = w' := by
  have HA := Lib.hid h
  clear h
  go_enter Tryd.func59, Tryd.ntmps59
  go_wp2_with (go_at_call 29; (with_reducible refine (babs_any a r _ HA.out).mono ?_); rintro e w1 ⟨rfl, rfl⟩)
  go_ret
  exact ⟨rfl, rfl⟩
theorem isnan_lit (a : Nat) (w : World) (h : (ord (cn a) (cn a) != some .eq) = false) :
    Calls Tryd.prog 60 #[.float .f64 a] w fun e w' => e = .returned (.bool false) ∧ w = w' := by
  go_enter Tryd.func60, Tryd.ntmps60
  go_wp2_with fail
  go_ret
  exact ⟨rfl, rfl⟩
theorem norm_lit (a : Nat) (w : World) (r : Nat) (h : bits BinOp.andNot IntKind.u64 (a : Int) 9223372036854775808 = (r : Int)) (h2 : (ord (cn r) (cn 4503599627370496) == some .lt) = false) :
    Calls Tryd.prog 61 #[.float .f64 a] w fun e w' => e = .returned (.tuple #[.float .f64 a, .int .i64 0]) ∧ w = w' := by
  have HA := Lib.hid h
  clear h
  go_enter Tryd.func61, Tryd.ntmps61
  go_wp2_with (go_at_call 29; (with_reducible refine (babs_any a r _ HA.out).mono ?_); rintro e w1 ⟨rfl, rfl⟩)
  go_ret2
  exact ⟨rfl, rfl⟩
set_option maxHeartbeats 1000000 in
theorem frexp_lit (a fr : Nat) (ex : Int) (w : World) (h : bits BinOp.andNot IntKind.u64 (a : Int) 9223372036854775808 = (a : Int)) (h1 : (ord (cn a) 0 == some .eq) = false) (h2 : (ord (cn a) (cn 4503599627370496) == some .lt) = false) (h3 : (ord (cn a) (cn 9218868437227405311) == some .gt) = false) (h4 : (ord (cn a) (cn a) != some .eq) = false)
    (h5 : (bits BinOp.or IntKind.u64 (bits BinOp.andNot IntKind.u64 (a : Int) 9218868437227405312) 4602678819172646912).toNat = fr)
    (h6 : wrap64 (wrap64 (wrap64 (wrap64 (bits BinOp.and IntKind.u64 ((a : Int) / 4503599627370496) 2047) - 1023) + 1)) = ex) :
    Calls Tryd.prog 49 #[.float .f64 a] w fun e w' => e = .returned (.tuple #[.float .f64 fr, .int .i64 ex]) ∧ w = w' := by
  have HA := Lib.hid h
  have H5 := Lib.hid h5
  have H6 := Lib.hid h6
  have e0 := cn_0
  have HF : Hid (∀ w, Calls Tryd.prog 56 #[.float .f64 a] w fun e w' => e = .returned (.tuple #[.float .f64 fr, .int .i64 ex]) ∧ w = w') := Lib.hid fun w => by
    clear h h5 h6
    go_enter Tryd.func56, Tryd.ntmps56
    go_wp2_with (first
      | (go_at_call 59; (with_reducible refine (isinf_lit a _ a HA.out h3).mono ?_); rintro e w1 ⟨rfl, rfl⟩)
      | (go_at_call 60; (with_reducible refine (isnan_lit a _ h4).mono ?_); rintro e w1 ⟨rfl, rfl⟩)
      | (go_at_call 61; (with_reducible refine (norm_lit a _ a HA.out h2).mono ?_); rintro e w1 ⟨rfl, rfl⟩))
    go_ret2
    exact ⟨by rw [← H5.out, ← H6.out]; rfl, rfl⟩
  clear h h5 h6 h1 h2 h3 h4
  go_enter Tryd.func49, Tryd.ntmps49
  go_wp2_with (go_at_call 56; (with_reducible refine (HF.out _).mono ?_); rintro e w1 ⟨rfl, rfl⟩)
  go_ret2
  exact ⟨rfl, rfl⟩
theorem frexp75 (w : World) : Calls Tryd.prog 49 #[.float .f64 4604930618986332160] w fun e w' => e = .returned (.tuple #[.float .f64 4604930618986332160, .int .i64 0]) ∧ w = w' :=
  frexp_lit _ _ _ w (by decide +kernel) (by decide +kernel) (by decide +kernel) (by decide +kernel) (by decide +kernel) (by decide +kernel) (by decide +kernel)
theorem frexp3 (w : World) : Calls Tryd.prog 49 #[.float .f64 4613937818241073152] w fun e w' => e = .returned (.tuple #[.float .f64 4604930618986332160, .int .i64 2]) ∧ w = w' :=
  frexp_lit _ _ _ w (by decide +kernel) (by decide +kernel) (by decide +kernel) (by decide +kernel) (by decide +kernel) (by decide +kernel) (by decide +kernel)
theorem exponent75 (w : World) : Calls Tryd.prog 27 #[.float .f64 4604930618986332160] w fun e w' => e = .returned (.tuple #[.int .i64 (-1), .nilIface]) ∧ w = w' := by
  have e0 := cn_0
  have h1 : (ord (cn 4604930618986332160) 0 == some .eq) = false := by decide +kernel
  go_enter Tryd.func27, Tryd.ntmps27
  go_wp2_with (first
    | (go_at_call 48; (refine (bfinite_any 4604930618986332160 4602678819172646912 true _ (by decide +kernel) (by decide +kernel)).mono ?_); rintro e w1 ⟨rfl, rfl⟩)
    | (go_at_call 49; (refine (frexp75 _).mono ?_); rintro e w1 ⟨rfl, rfl⟩))
  go_ret2
  exact ⟨rfl, rfl⟩
set_option maxHeartbeats 1000000 in
theorem scale3 (w : World) : Calls Tryd.prog 28 #[.float .f64 4613937818241073152, .int .i64 2] w fun e w' => ∃ r, e = .returned (.float .f64 r) ∧ (ord (cn r) (cn 4622945017495814144) == some .eq) = true ∧ Kp w w' := by
  have e0 := cn_0
  have h1 : (ord (cn 4613937818241073152) 0 == some .eq) = false := by decide +kernel
  go_enter Tryd.func28, Tryd.ntmps28
  go_wp2_with (first
    | (go_at_call 48; (refine (bfinite_any 4613937818241073152 4611686018427387904 true _ (by decide +kernel) (by decide +kernel)).mono ?_); rintro e w1 ⟨rfl, rfl⟩)
    | (go_at_call 49; (refine (frexp3 _).mono ?_); rintro e w1 ⟨rfl, rfl⟩)
    | ((with_reducible apply wpList_fl .mul rfl); exact rfl; exact rfl; intro r1 n1 hr1))
  rename_i ra na hra
  go_ret
  refine ⟨_, rfl, ?_, ?_⟩
  · rw [hr1, hra]; decide +kernel
  · repeat (first | exact Kp.refl _ | refine Kp.drewN ?_ _)
theorem find_trunc : Extern.find Tryd.f57 = some (Extern.MathFloor.toIntegral "math.archTrunc" .zero) := by kernel_rfl
theorem run_trunc7 (w : World) : (callFunc 57 #[.float .f64 4619567317775286272]).run Tryd.prog w = .ok (.value (.float .f64 4619567317775286272)) w := by
  rw [run_callFunc_extern Tryd.func57 (by kernel_rfl) (by kernel_rfl) (by kernel_rfl) find_trunc]
  have e : Extern.MathFloor.toIntegral "math.archTrunc" .zero #[.float .f64 4619567317775286272] = pure (.float .f64 4619567317775286272) := by kernel_rfl
  rw [e]
  rfl
theorem trunc7 (w : World) : Calls Tryd.prog 53 #[.float .f64 4619567317775286272] w fun e w' => e = .returned (.float .f64 4619567317775286272) ∧ w = w' := by
  have h1 := run_trunc7
  go_enter Tryd.func53, Tryd.ntmps53
  go_wp2_with fail
  go_ret
  exact ⟨rfl, rfl⟩
theorem class_m1 (w : World) : Calls Tryd.prog 21 #[.float .f64 13830554455654793216] w fun e w' => e = .returned (.int .i64 2) ∧ w = w' := by
  have h1 : (ord (cn 13830554455654793216) (cn 13830554455654793216) != some .eq) = false := by decide +kernel
  have h2 : bits BinOp.andNot IntKind.u64 13830554455654793216 9223372036854775808 = 4607182418800017408 := by decide +kernel
  go_enter Tryd.func21, Tryd.ntmps21
  go_wp2_with fail
  go_ret
  exact ⟨rfl, rfl⟩
theorem whole7 (w : World) : Calls Tryd.prog 38 #[.float .f64 4619567317775286272] w fun e w' => e = .returned (.bool true) ∧ w = w' := by
  have h1 : (ord (cn 4619567317775286272) (cn 4619567317775286272) == some .eq) = true := by decide +kernel
  go_enter Tryd.func38, Tryd.ntmps38
  go_wp2_with (first
    | (go_at_call 48; (refine (bfinite_any 4619567317775286272 4616189618054758400 true _ (by decide +kernel) (by decide +kernel)).mono ?_); rintro e w1 ⟨rfl, rfl⟩)
    | (go_at_call 53; (refine (trunc7 _).mono ?_); rintro e w1 ⟨rfl, rfl⟩))
  go_ret
  exact ⟨rfl, rfl⟩
theorem bOf_any (a : Nat) (w : World) :
    Calls Tryd.prog 19 #[.int .u64 a] w fun e w' => e = .returned (.float .f64 a) ∧ w = w' := by
  go_enter Tryd.func19, Tryd.ntmps19
  go_wp2_with fail
  go_ret
  exact ⟨rfl, rfl⟩
set_option maxRecDepth 100000 in
set_option maxHeartbeats 2000000 in
theorem blives_any (w : World) : Calls Tryd.prog 10 #[] w fun e w' => e = .returned (.bool true) ∧ Kp w w' := by
  have HA : Hid (∀ w, Calls Tryd.prog 12 #[.float .f64 4607182418800017408, .float .f64 4607182418800017409] w fun e w' => e = .returned (.tuple #[.int .u64 1, .nilIface]) ∧ w = w') := Lib.hid fun w => by
    have := bApart_any 4607182418800017408 4607182418800017409 w ⟨by decide, by decide +kernel⟩ ⟨by decide, by decide +kernel⟩
    rw [show apartB 4607182418800017408 4607182418800017409 = 1 by decide +kernel] at this
    exact this
  have HB : Hid (∀ w, Calls Tryd.prog 20 #[.float .f64 4607182418800017408] w fun e w' => e = .returned (.int .u64 4607182418800017408) ∧ w = w') := Lib.hid fun w => by
    have := bBits_any 4607182418800017408 w
    rw [show cn 4607182418800017408 = 4607182418800017408 by decide +kernel] at this
    exact this
  have HO : Hid (∀ w, Calls Tryd.prog 19 #[.int .u64 4611686018427387904] w fun e w' => e = .returned (.float .f64 4611686018427387904) ∧ w = w') := Lib.hid fun w => bOf_any 4611686018427387904 w
  have HS : Hid (∀ w, Calls Tryd.prog 15 #[.float .f64 4611686018427387904, .float .f64 4611686018427387904] w fun e w' => e = .returned (.bool true) ∧ w = w') := Lib.hid fun w => by
    have := bSame_any 4611686018427387904 4611686018427387904 w
    rw [show decide (cn 4611686018427387904 = cn 4611686018427387904) = true from decide_eq_true rfl] at this
    exact this
  have HC : Hid (∀ w, Calls Tryd.prog 17 #[.float .f64 4607182418800017408, .float .f64 4611686018427387904] w fun e w' => e = .returned (.int .i64 (-1)) ∧ w = w') := Lib.hid fun w => by
    have := bCompare_any 4607182418800017408 4611686018427387904 w (by decide) (by decide)
    rw [show cmpB 4607182418800017408 4611686018427387904 = -1 by decide +kernel] at this
    exact this
  have HU : Hid (∀ w, Calls Tryd.prog 22 #[.float .f64 4607182418800017408] w fun e w' => e = .returned (.float .f64 4607182418800017409) ∧ w = w') := Lib.hid fun w => by
    have := bUp_any 4607182418800017408 w (by decide)
    rw [show upB 4607182418800017408 = 4607182418800017409 by decide +kernel] at this
    exact this
  have HD : Hid (∀ w, Calls Tryd.prog 23 #[.float .f64 4607182418800017408] w fun e w' => e = .returned (.float .f64 4607182418800017407) ∧ w = w') := Lib.hid fun w => by
    have := bDown_any 4607182418800017408 w (by decide)
    rw [show downB 4607182418800017408 = 4607182418800017407 by decide +kernel] at this
    exact this
  have t1 : (ord (cn 4611686018427387904) (cn 4611686018427387904) == some .eq) = true := by decide +kernel
  have t2 : (ord (cn 4607182418800017409) (cn 4607182418800017408) == some .gt) = true := by decide +kernel
  have t3 : (ord (cn 4607182418800017407) (cn 4607182418800017408) == some .lt) = true := by decide +kernel
  go_enter Tryd.func10, Tryd.ntmps10
  go_wp2_with (first
    | (go_at_call 12; (with_reducible refine (HA.out _).mono ?_); rintro e w1 ⟨rfl, rfl⟩)
    | (go_at_call 27; (with_reducible refine (exponent75 _).mono ?_); rintro e w1 ⟨rfl, rfl⟩)
    | (go_at_call 20; (with_reducible refine (HB.out _).mono ?_); rintro e w1 ⟨rfl, rfl⟩)
    | (go_at_call 19; (with_reducible refine (HO.out _).mono ?_); rintro e w1 ⟨rfl, rfl⟩)
    | (go_at_call 15; (with_reducible refine (HS.out _).mono ?_); rintro e w1 ⟨rfl, rfl⟩)
    | (go_at_call 21; (with_reducible refine (class_m1 _).mono ?_); rintro e w1 ⟨rfl, rfl⟩)
    | (go_at_call 17; (with_reducible refine (HC.out _).mono ?_); rintro e w1 ⟨rfl, rfl⟩)
    | (go_at_call 22; (with_reducible refine (HU.out _).mono ?_); rintro e w1 ⟨rfl, rfl⟩)
    | (go_at_call 23; (with_reducible refine (HD.out _).mono ?_); rintro e w1 ⟨rfl, rfl⟩)
    | (go_at_call 28; (with_reducible refine (scale3 _).mono ?_); rintro e w1 ⟨r, rfl, hr, hk⟩)
    | (go_at_call 38; (with_reducible refine (whole7 _).mono ?_); rintro e w1 ⟨rfl, rfl⟩))
  go_ret
  exact ⟨rfl, hk⟩
end Go.Proofs.YtabnahkheemnmaaDoor
