/-
  The walk of bits.Scale at any float.
-/
import Derived.Test.YtabnahkheemnmaaDoorBCls
import Derived.Deep.DeepCutAuto
import Derived.Deep.CutBlock
namespace Go.Proofs.YtabnahkheemnmaaDoor
open Go Go.RowKit Go.Fl

/-- A float's rest, of digits r, at the power of two x. -/
def scR (r : Nat) (x : Int) : Nat := if 2045 < x then 9218868437227405312 else if 0 ≤ x then x.toNat * 4503599627370496 + nM r else rne (nM r) (-x).toNat
def clamp (k : Int) : Int := min (max k (-6000)) 6000
instance (a : Nat) : Decidable (noExp a) := by unfold noExp; infer_instance
def scW (a : Nat) (k : Int) : Nat := if noExp a then a else sw a + scR (lo a) (nE (lo a) + clamp k)
set_option maxHeartbeats 800000 in
theorem bScale_no (a : Nat) (k : Int) (w : World) (h : a < 18446744073709551616) (hn : noExp a) :
    Calls Tryd.prog 28 #[.float .f64 a, .int .i64 k] w fun e w' => e = .returned (.float .f64 a) ∧ w = w' := by
  have e0 := cn_0
  rcases hn with hz | hz
  · have z1 : (ord (cn a) 0 == some .eq) = true := by rw [ord_nought h (by omega)]; exact decide_eq_true hz
    clear h hz
    go_enter Tryd.func28, Tryd.ntmps28
    go_wp2_with fail
    go_ret
    exact ⟨rfl, rfl⟩
  · have z1 := ord_big hz h
    have HF : Hid (∀ w, Calls Tryd.prog 48 #[.float .f64 a] w fun e w' => e = .returned (.bool false) ∧ w = w') := Lib.hid fun w => by
      have := bfin_any a w h; rw [decide_eq_false (by omega)] at this; exact this
    clear h hz
    go_enter Tryd.func28, Tryd.ntmps28
    go_wp2_with (go_at_call 48; (with_reducible refine (HF.out _).mono ?_); rintro e w1 ⟨rfl, rfl⟩)
    go_ret
    exact ⟨rfl, rfl⟩
set_option maxHeartbeats 800000 in
theorem bcopy_any (c f : Nat) (w : World) (hc : c < 9223372036854775808) (hf : f < 18446744073709551616) :
    Calls Tryd.prog 50 #[.float .f64 c, .float .f64 f] w fun e w' => e = .returned (.float .f64 (sw f + c)) ∧ w = w' := by
  have h1 := b_andNot_sign (a := c) (by omega)
  rw [show lo c = c by unfold lo; omega] at h1
  have h2 := b_and_sign hf
  have h3 := b_or_sign (x := c) hf hc
  have hs := sw_add (x := c) hf hc
  generalize hq : sw f + c = q at *
  generalize sw f = s at *
  clear hs hc hf
  go_enter Tryd.func50, Tryd.ntmps50
  go_wp2_with fail
  go_ret
  exact ⟨rfl, rfl⟩
theorem binf_any (w : World) : Calls Tryd.prog 24 #[.int .i64 1] w fun e w' => e = .returned (.float .f64 9218868437227405312) ∧ w = w' := by
  go_enter Tryd.func24, Tryd.ntmps24
  go_wp2_with fail
  go_ret
  exact ⟨rfl, rfl⟩
theorem frw_facts {a : Nat} (h : a < 18446744073709551616) (h0 : 0 < lo a) : frw a < 18446744073709551616 ∧ sw (frw a) = sw a ∧ lo (frw a) = 1021 * 4503599627370496 + nM (lo a) := by
  have hb := nM_bound h0
  have := sw_add (a := a) (x := 4602678819172646912 + (nM (lo a) - 4503599627370496)) h (by omega)
  unfold frw
  exact ⟨this.2.2, this.1, by rw [this.2.1]; omega⟩
theorem scl_one {a y M : Nat} (hy : y < 18446744073709551616) (hs : sw y = sw a) (hl : lo y = 1021 * 4503599627370496 + M) (h1 : 4503599627370496 ≤ M) (h2 : M < 9007199254740992) :
    mul y 4611686018427387904 = sw a + (1022 * 4503599627370496 + M) := by
  have := mul_pow (a := y) (e := 1021) (M := M) (k := 1024) hy hl h1 h2 (by decide) (by decide) (by decide) (by decide) (by decide)
  rw [hs] at this
  exact this
theorem scl_two {a y M q : Nat} (hy : y < 18446744073709551616) (hs : sw y = sw a) (hl : lo y = 1022 * 4503599627370496 + M) (h1 : 4503599627370496 ≤ M) (h2 : M < 9007199254740992) (hq : 1 ≤ q) (hq2 : q ≤ 2046) :
    mul y (q * 4503599627370496) = sw a + ((q - 1) * 4503599627370496 + M) := by
  have := mul_pow (a := y) (e := 1022) (M := M) (k := q) hy hl h1 h2 (by decide) hq hq2 (by omega) (by omega)
  rw [hs, show 1022 + q - 1023 = q - 1 by omega] at this
  exact this
theorem scl_three {y M : Nat} (hl : y = 1021 * 4503599627370496 + M) (h1 : 4503599627370496 ≤ M) (h2 : M < 9007199254740992) :
    mul y 4845873199050653696 = 1074 * 4503599627370496 + M := by
  have e1 : lo y = y := by unfold lo; omega
  have e2 : sw y = 0 := by unfold sw; omega
  have := mul_pow (a := y) (e := 1021) (M := M) (k := 1076) (by omega) (by rw [e1]; exact hl) h1 h2 (by decide) (by decide) (by decide) (by decide) (by decide)
  rw [e2, Nat.zero_add] at this
  exact this
theorem scl_int {M : Nat} (h1 : 4503599627370496 ≤ M) (h2 : M < 9007199254740992) : floatToIntVal .f64 (1074 * 4503599627370496 + M) .u64 = some (M : Int) := by
  have hr := read_pos (1074 * 4503599627370496 + M) (by omega)
  have e1 : rmag (1074 * 4503599627370496 + M) = M := by unfold rmag; rw [if_neg (by omega)]; omega
  have e2 : rexp (1074 * 4503599627370496 + M) = 1074 := by unfold rexp; omega
  rw [e1, e2] at hr
  unfold floatToIntVal
  have hd : FloatKind.f64.decode (1074 * 4503599627370496 + M) = .number false M 0 := hr
  rw [hd]
  unfold Ieee.Datum.toInt Ieee.Datum.integral
  have e3 : Ieee.Toward.zero.cut false (M <<< (0 : Int).toNat) (-(0 : Int)).toNat = M := by
    simp [Ieee.Toward.cut]
  simp only [e3]
  have e4 : Ieee.signed false M 0 = (M : Int) := by simp [Ieee.signed]
  rw [e4, if_pos]
  simp [IntKind.min, IntKind.max, IntKind.signed, IntKind.bits]
  omega
theorem scR_eq (r : Nat) (x : Int) : scR r x = if 2045 < x then 9218868437227405312 else if 0 ≤ x then x.toNat * 4503599627370496 + nM r else rne (nM r) (-x).toNat := rfl
set_option maxHeartbeats 1600000 in
theorem bScale_yes (a : Nat) (k : Int) (w : World) (h : a < 18446744073709551616) (h0 : 0 < lo a) (hf : lo a < 9218868437227405312) :
    Calls Tryd.prog 28 #[.float .f64 a, .int .i64 k] w fun e w' => e = .returned (.float .f64 (sw a + scR (lo a) (nE (lo a) + clamp k))) ∧ Kp w w' := by
  have e0 := cn_0
  have z1 := (z_facts h h0 hf).1
  have HX := Lib.hid (frexp_any a · h h0 hf)
  have HF : Hid (∀ w, Calls Tryd.prog 48 #[.float .f64 a] w fun e w' => e = .returned (.bool true) ∧ w = w') := Lib.hid fun w => by
    have := bfin_any a w h; rw [decide_eq_true hf] at this; exact this
  have hb := nE_bound h0 hf
  have hM := nM_bound h0
  obtain ⟨y1, y2, y3⟩ := frw_facts h h0
  have HR := Lib.hid (scR_eq (lo a) (nE (lo a) + clamp k))
  generalize scR (lo a) (nE (lo a) + clamp k) = R at *
  generalize nE (lo a) = x at *
  generalize frw a = y at *
  generalize nM (lo a) = M at *
  have HK : Hid (clamp k = min (max k (-6000)) 6000) := Lib.hid rfl
  go_enter Tryd.func28, Tryd.ntmps28
  go_upto_region 5 with (first
    | (go_at_call 48; (with_reducible refine (HF.out _).mono ?_); rintro e w1 ⟨rfl, rfl⟩)
    | (go_at_call 49; (with_reducible refine (HX.out _).mono ?_); rintro e w1 ⟨rfl, hk1⟩))
  have hK : -6000 ≤ min (max k (-6000)) 6000 ∧ min (max k (-6000)) 6000 ≤ 6000 := by omega
  generalize min (max k (-6000)) 6000 = K at *
  rw [HK.out] at HR
  obtain ⟨z, hz⟩ : ∃ z, x - 1021 + K = z := ⟨_, rfl⟩
  rw [hz]
  obtain rfl : x = z - K + 1021 := by omega
  rw [show z - K + 1021 + K = z + 1021 by omega] at HR
  clear hz HK HX HF
  by_cases c1 : 1024 < z
  · have d1 : decide ((1024 : Int) < z) = true := by simpa using c1
    have HC := Lib.hid (bcopy_any 9218868437227405312 a · (by decide) h)
    have HR2 : Hid (R = 9218868437227405312) := Lib.hid (by rw [HR.out, if_pos (by omega)])
    clear hb hM y1 y2 y3 c1
    go_wp2_with (first
      | (go_at_call 24; (with_reducible refine (binf_any _).mono ?_); rintro e w2 ⟨rfl, rfl⟩)
      | (go_at_call 50; (with_reducible refine (HC.out _).mono ?_); rintro e w2 ⟨rfl, rfl⟩))
    go_ret
    exact ⟨by rw [HR2.out]; rfl, hk1⟩
  have d1 : decide ((1024 : Int) < z) = false := by simpa using c1
  by_cases c2 : -1021 ≤ z
  · have d2 : decide (-1021 ≤ z) = true := by simpa using c2
    obtain ⟨q, hq⟩ : ∃ q : Nat, z = (q : Int) - 1022 := ⟨(z + 1022).toNat, by omega⟩
    have hq1 : 1 ≤ q ∧ q ≤ 2046 := by omega
    subst hq
    have HR2 : Hid (R = (q - 1) * 4503599627370496 + M) := Lib.hid (by
      rw [HR.out, if_neg (by omega), if_pos (by omega)]
      congr 2; omega)
    have M1 := Lib.hid (scl_one (a := a) y1 y2 y3 hM.1 hM.2)
    have g1 : IntKind.u64.wrap ((q : Int) - 1022 - 1 + 1023) = (q : Int) := by rw [IntKind.wrap_u64]; omega
    have g2 : IntKind.u64.wrap ((q : Int) * 4503599627370496) = ((q * 4503599627370496 : Nat) : Int) := by rw [IntKind.wrap_u64]; omega
    have M2 := Lib.hid fun r (hr : r = sw a + (1022 * 4503599627370496 + M)) => by
      obtain ⟨s1, s2, s3⟩ := sw_add (a := a) (x := 1022 * 4503599627370496 + M) h (by omega)
      rw [← hr] at s1 s2 s3
      exact scl_two (a := a) s3 s1 s2 hM.1 hM.2 hq1.1 hq1.2
    have N1 : Hid (isN (sw a + (1022 * 4503599627370496 + M)) = false) := Lib.hid (by
      obtain ⟨s1, s2, s3⟩ := sw_add (a := a) (x := 1022 * 4503599627370496 + M) h (by omega)
      exact isN_of_le (Nat.le_trans (Nat.le_of_eq s2) (by omega)))
    have N2 : Hid (isN (sw a + ((q - 1) * 4503599627370496 + M)) = false) := Lib.hid (by
      obtain ⟨s1, s2, s3⟩ := sw_add (a := a) (x := (q - 1) * 4503599627370496 + M) h (by omega)
      exact isN_of_le (Nat.le_trans (Nat.le_of_eq s2) (by omega)))
    clear hb hM y1 y2 y3 c1 c2
    go_wp2_with (first
      | ((with_reducible apply wpList_fl .mul rfl); exact rfl; exact rfl; intro r1 n1 hr1))
    rename_i ra na hra
    go_ret
    have r1e : ra = sw a + (1022 * 4503599627370496 + M) := cn_num (by rw [hra]; show mul (cn _) (cn _) = _; rw [mul_cn]; exact M1.out) N1.out
    have r2e : r1 = sw a + ((q - 1) * 4503599627370496 + M) := cn_num (by rw [hr1]; show mul (cn _) (cn _) = _; rw [mul_cn]; exact M2.out _ r1e) N2.out
    exact ⟨by rw [r2e, HR2.out]; rfl, (hk1.drewN _)⟩
  · have d2 : decide (-1021 ≤ z) = false := by simpa using c2
    by_cases c3 : z < -1074
    · have d3 : decide (z < -1074) = true := by simpa using c3
      have HC := Lib.hid (bcopy_any 0 a · (by decide) h)
      have HR2 : Hid (R = 0) := Lib.hid (by
        rw [HR.out, if_neg (by omega), if_neg (by omega)]
        obtain ⟨d, hd⟩ : ∃ d, (-(z + 1021)).toNat = d := ⟨_, rfl⟩
        rw [hd]
        have : 2 ^ 54 ≤ 2 ^ d := Nat.pow_le_pow_right (by decide) (by omega)
        unfold rne
        rw [Nat.div_eq_of_lt (by omega), Nat.mod_eq_of_lt (by omega), if_neg (by omega)])
      clear hb hM y1 y2 y3 c1 c2 c3
      go_wp2_with (go_at_call 50; (with_reducible refine (HC.out _).mono ?_); rintro e w2 ⟨rfl, rfl⟩)
      go_ret
      exact ⟨by rw [HR2.out, Nat.add_zero]; rfl, hk1⟩
    · have d3 : decide (z < -1074) = false := by simpa using c3
      obtain ⟨c, hc⟩ : ∃ c : Nat, -1021 - z = (c : Int) := ⟨(-1021 - z).toNat, by omega⟩
      have hc1 : 1 ≤ c ∧ c ≤ 53 := by omega
      have A1 := b_andNot_sign y1
      rw [y3] at A1
      have M1 := Lib.hid (scl_three (y := 1021 * 4503599627370496 + M) rfl hM.1 hM.2)
      have N1 : Hid (isN (1074 * 4503599627370496 + M) = false) := Lib.hid (isN_of_le (by omega))
      have HA : Hid (∀ w, Calls Tryd.prog 29 #[.float .f64 y] w fun e w' => e = .returned (.float .f64 (1021 * 4503599627370496 + M : Nat)) ∧ w = w') := Lib.hid fun w => babs_any y _ w A1
      have HR2 : Hid (R = rne M c) := Lib.hid (by
        rw [HR.out, if_neg (by omega), if_neg (by omega)]
        congr 1; omega)
      have HI := Lib.hid (scl_int hM.1 hM.2)
      have hMM := Lib.hid hM
      obtain ⟨Y, hY⟩ : ∃ Y, 1021 * 4503599627370496 + M = Y := ⟨_, rfl⟩
      obtain ⟨Y2, hY2⟩ : ∃ Y2, 1074 * 4503599627370496 + M = Y2 := ⟨_, rfl⟩
      rw [hY] at HA M1
      rw [hY2] at M1 N1 HI
      clear hY hY2 A1 hM y1 y2 y3 HR hb
      go_upto_region 12 with (first
        | (go_at_call 29; (with_reducible refine (HA.out _).mono ?_); rintro e w2 ⟨rfl, rfl⟩)
        | ((with_reducible apply wpList_fl .mul rfl); exact rfl; exact rfl; intro r1 n1 hr1; obtain rfl : r1 = Y2 := cn_num (by rw [hr1]; show mul (cn _) (cn _) = _; rw [mul_cn]; exact M1.out) N1.out; have HV : ∀ w, (convert 24 22 (.float .f64 r1)).run Tryd.prog w = .ok (.int .u64 M) w := fun w => run_convert_float_int w _ _ _ _ _ _ (by kernel_rfl) Tryd.underlying22 HI.out))
      clear HA M1 N1 HI hr1 z1 e0 c1 c2 c3
      have HCC := Lib.hid hc
      clear hc d1 d2 d3
      go_upto_region 15 with fail
      obtain ⟨W, hW⟩ : ∃ W, M / 2 ^ c = W := ⟨_, rfl⟩
      obtain ⟨Q, hQ⟩ : ∃ Q, M % 2 ^ c = Q := ⟨_, rfl⟩
      obtain ⟨H, hH⟩ : ∃ H, 2 ^ (c - 1) = H := ⟨_, rfl⟩
      have e1 : IntKind.u64.wrap (wrap64 (-1021 - z)) = (c : Int) := w64_in (by have := HCC.out; omega) (by have := HCC.out; omega) HCC.out
      have e0 : min ((c : Int)).toNat 64 = c := by omega
      have e5 : (IntKind.u64.wrap ((c : Int) - 1)).toNat = c - 1 := by rw [IntKind.wrap_u64]; omega
      have e6 : min (c - 1) 64 = c - 1 := by omega
      have p1 : 2 ^ c = 2 * H := by rw [← hH, ← Nat.pow_succ']; congr 1; omega
      have p2 : 2 ^ c ≤ 2 ^ 53 := Nat.pow_le_pow_right (by decide) hc1.2
      have p3 : 2 ^ 1 ≤ 2 ^ c := Nat.pow_le_pow_right (by decide) hc1.1
      have e2 : (M : Int) / 2 ^ c = (W : Int) := by rw [← hW, Int.natCast_ediv, Int.natCast_pow]; rfl
      have e7 : (2 : Int) ^ c = ((2 ^ c : Nat) : Int) := by rw [Int.natCast_pow]; rfl
      have e8 : (2 : Int) ^ (c - 1) = (H : Int) := by rw [← hH, Int.natCast_pow]; rfl
      have e9 : IntKind.u64.wrap (IntKind.u64.wrap ((2 ^ c : Nat) : Int) - 1) = ((2 ^ c - 1 : Nat) : Int) := by rw [IntKind.wrap_u64, IntKind.wrap_u64]; omega
      have e10 := b_and_mask (x := M) c (by omega) (by have := hMM.out.2; omega)
      rw [hQ] at e10
      have e11 : IntKind.u64.wrap (H : Int) = (H : Int) := by rw [IntKind.wrap_u64]; omega
      rw [e1, e0, e5, e6, e2, e7, e8, e9, e10, e11]
      have hWl : W < 9007199254740992 := by rw [← hW]; exact Nat.lt_of_le_of_lt (Nat.div_le_self _ _) hMM.out.2
      have hQl : Q < 2 ^ c := by rw [← hQ]; exact Nat.mod_lt _ (by omega)
      have HRN : Hid (R = W + (if H < Q ∨ (H = Q ∧ W % 2 = 1) then 1 else 0)) := Lib.hid (by
        rw [HR2.out]
        unfold rne
        rw [hW, hQ, p1]
        have q1 : (2 * H < 2 * Q ∨ 2 * H = 2 * Q ∧ W % 2 = 1) ↔ (H < Q ∨ H = Q ∧ W % 2 = 1) := by omega
        simp only [q1])
      have w1e := b_and_1 (x := W) (by omega)
      have HC : ∀ q, q < 9223372036854775808 → Hid (∀ w, Calls Tryd.prog 50 #[.float .f64 q, .float .f64 a] w fun e w' => e = .returned (.float .f64 (sw a + q)) ∧ w = w') := fun q hq => Lib.hid fun w => bcopy_any q a w hq h
      have HC0 := HC W (by omega)
      have HC1 := HC (W + 1) (by omega)
      have g3 : IntKind.u64.wrap ((W : Int) + 1) = ((W + 1 : Nat) : Int) := by rw [IntKind.wrap_u64]; omega
      have hkn := hk1.drewN n1
      clear HC e1 e0 e5 e6 p1 p2 p3 e2 e7 e8 e9 e10 e11 hW hQ hH HR2 hMM HCC HV hK hc1 hQl hWl
      by_cases u1 : H < Q
      · have d1 : decide ((H : Int) < (Q : Int)) = true := by simpa using u1
        have HR3 : Hid (R = W + 1) := Lib.hid (by rw [HRN.out, if_pos (Or.inl u1)])
        have d1' : decide (H < Q) = true := by simpa using u1
        clear HRN w1e
        go_wp2_with (go_at_call 50; (with_reducible refine (HC1.out _).mono ?_); rintro e w2 ⟨rfl, rfl⟩)
        go_ret
        exact ⟨by rw [HR3.out]; rfl, hkn⟩
      · have d1 : decide ((H : Int) < (Q : Int)) = false := by simpa using u1
        have d1' : decide (H < Q) = false := by simpa using u1
        by_cases u2 : Q = H
        · have d2 : ((Q : Int) == (H : Int)) = true := by rw [u2]; simp
          have d2' : (Q == H) = true := by simpa using u2
          by_cases u3 : W % 2 = 1
          · have HR3 : Hid (R = W + 1) := Lib.hid (by rw [HRN.out, if_pos (Or.inr ⟨u2.symm, u3⟩)])
            have w1f : bits .and .u64 (W : Int) 1 = 1 := by rw [w1e, u3]; rfl
            clear HRN w1e
            go_wp2_with (go_at_call 50; (with_reducible refine (HC1.out _).mono ?_); rintro e w2 ⟨rfl, rfl⟩)
            go_ret
            exact ⟨by rw [HR3.out]; rfl, hkn⟩
          · have HR3 : Hid (R = W) := Lib.hid (by rw [HRN.out, if_neg (by omega)]; rfl)
            have w1f : bits .and .u64 (W : Int) 1 = 0 := by rw [w1e, show W % 2 = 0 by omega]; rfl
            clear HRN g3 w1e
            go_wp2_with (go_at_call 50; (with_reducible refine (HC0.out _).mono ?_); rintro e w2 ⟨rfl, rfl⟩)
            go_ret
            exact ⟨by rw [HR3.out]; rfl, hkn⟩
        · have d2 : ((Q : Int) == (H : Int)) = false := by rw [beq_eq_false_iff_ne]; omega
          have HR3 : Hid (R = W) := Lib.hid (by rw [HRN.out, if_neg (by omega)]; rfl)
          have d2' : (Q == H) = false := by simpa using u2
          clear HRN g3 w1e
          go_wp2_with (go_at_call 50; (with_reducible refine (HC0.out _).mono ?_); rintro e w2 ⟨rfl, rfl⟩)
          go_ret
          exact ⟨by rw [HR3.out]; rfl, hkn⟩
end Go.Proofs.YtabnahkheemnmaaDoor
