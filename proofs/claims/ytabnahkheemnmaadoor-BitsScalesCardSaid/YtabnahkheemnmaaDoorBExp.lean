/-
  The walks of Exponent (both), of the reference's parts, of Class (both), of the reference's Up and Down.
-/
import Derived.Test.YtabnahkheemnmaaDoorBFrexp
import Derived.Test.YtabnahkheemnmaaDoorBLen
import Derived.Lib.ItoaNum
import Derived.Test.YtabnahkheemnmaaDoorBTwo
namespace Go.Proofs.YtabnahkheemnmaaDoor
open Go Go.RowKit Go.Fl

theorem rb_fin (a : Nat) (w : World) (h : lo a ≤ 9218868437227405312) :
    Calls Tryd.prog 35 #[.float .f64 a] w fun e w' => e = .returned (.int .u64 a) ∧ w = w' := by
  have := Bits_any a w; rw [cn_lo h] at this; exact this
theorem rb_nan (a : Nat) (w : World) (h : isN a = true) :
    Calls Tryd.prog 35 #[.float .f64 a] w fun e w' => e = .returned (.int .u64 9221120237041090560) ∧ w = w' := by
  have := Bits_any a w; rw [cn_of a h] at this; exact this
theorem lo_mod63 (a : Nat) : (a : Int) % 9223372036854775808 = ((lo a : Nat) : Int) := (Int.natCast_emod a 9223372036854775808).symm
set_option maxHeartbeats 800000 in
theorem rparts_any (a : Nat) (w : World) (hf : lo a < 9218868437227405312) :
    Calls Tryd.prog 51 #[.float .f64 a] w fun e w' => e = .returned (.tuple #[.int .u64 (rmag (lo a)), .int .i64 ((rexp (lo a) : Int) - 1074)]) ∧ w = w' := by
  have HB := Lib.hid (rb_fin a · (Nat.le_of_lt hf))
  have hm := lo_mod63 a
  rcases Nat.lt_or_ge (lo a) 4503599627370496 with hs | hs
  · have e1 : rmag (lo a) = lo a := by unfold rmag; rw [if_pos (by omega)]
    have e2 : (rexp (lo a) : Int) - 1074 = -1074 := by unfold rexp; rw [Nat.div_eq_of_lt (by omega)]; rfl
    rw [e1, e2]
    generalize lo a = r at *
    have d1 : (r : Int) / 4503599627370496 = 0 := by omega
    clear hf hs e1 e2
    go_enter Tryd.func51, Tryd.ntmps51
    go_wp2_with (go_at_call 35; (with_reducible refine (HB.out _).mono ?_); rintro e w1 ⟨rfl, rfl⟩)
    go_ret2
    refine ⟨?_, rfl⟩
    show Ending.returned (.tuple #[.int .u64 ((a : Int) % 9223372036854775808), .int .i64 (-1074)]) = _
    rw [hm]
  · obtain ⟨q, hq⟩ : ∃ q, lo a / 4503599627370496 = q := ⟨_, rfl⟩
    obtain ⟨m, hm2⟩ : ∃ m, lo a % 4503599627370496 = m := ⟨_, rfl⟩
    have e1 : rmag (lo a) = m + 4503599627370496 := by unfold rmag; rw [if_neg (by omega)]; omega
    have e2 : (rexp (lo a) : Int) - 1074 = (q : Int) - 1075 := by unfold rexp; rw [show lo a / 2 ^ 52 = q from hq]; omega
    have hq1 : 1 ≤ q ∧ q ≤ 2047 := by omega
    rw [e1, e2]
    generalize lo a = r at *
    have d1 : (r : Int) / 4503599627370496 = (q : Int) := by omega
    have d2 : ((q : Int) == 0) = false := by rw [beq_eq_false_iff_ne]; omega
    have d3 : (r : Int) % 4503599627370496 = (m : Int) := by omega
    have d4 : IntKind.u64.wrap ((m : Int) + 4503599627370496) = ((m + 4503599627370496 : Nat) : Int) := by rw [IntKind.wrap_u64]; omega
    clear hf hs e1 e2 hq hm2
    go_enter Tryd.func51, Tryd.ntmps51
    go_wp2_with (go_at_call 35; (with_reducible refine (HB.out _).mono ?_); rintro e w1 ⟨rfl, rfl⟩)
    go_ret2
    exact ⟨rfl, rfl⟩
theorem len_exp {r : Nat} (h0 : 0 < r) : (rexp r : Int) - 1074 + (Lib.bitLen (rmag r) : Int) - 1 = nE r - 1022 := by
  have h1 : rmag r ≠ 0 := fun h => by have := (rmag_zero_iff r).1 h; omega
  have h2 : (rmag r).log2 ≤ 52 := by
    have h3 : rmag r < 2 ^ 53 := by unfold rmag; split <;> omega
    have := (Nat.log2_lt h1).2 h3
    omega
  obtain ⟨b1, b2, b3⟩ := Lib.bitLenAux_bounds 64 (rmag r) (by have h3 : rmag r < 2 ^ 53 := (by unfold rmag; split <;> omega); omega) h1
  have b4 : (rmag r).log2 = Lib.bitLenAux 64 (rmag r) - 1 := (Nat.log2_eq_iff h1).2 ⟨b2, by rw [show Lib.bitLenAux 64 (rmag r) - 1 + 1 = Lib.bitLenAux 64 (rmag r) by omega]; exact b3⟩
  unfold Lib.bitLen nE nl
  rw [b4] at h2 ⊢
  omega
theorem rmag_lt (r : Nat) : rmag r < 9007199254740992 := by unfold rmag; split <;> omega
set_option maxHeartbeats 800000 in
theorem rExp_yes (a : Nat) (w : World) (h0 : 0 < lo a) (hf : lo a < 9218868437227405312) :
    Calls Tryd.prog 34 #[.float .f64 a] w fun e w' => e = .returned (.tuple #[.int .i64 (nE (lo a) - 1022), .int .i64 0]) ∧ w = w' := by
  have HB := Lib.hid (rb_fin a · (Nat.le_of_lt hf))
  have HP := Lib.hid (rparts_any a · hf)
  have hb := nE_bound h0 hf
  have hx : rexp (lo a) ≤ 2046 := by unfold rexp; omega
  have hl := len_exp h0
  have hr := rmag_lt (lo a)
  have HL : Hid (∀ w, Calls Tryd.prog 52 #[.int .u64 (rmag (lo a))] w fun e w' => e = .returned (.int .i64 (Lib.bitLen (rmag (lo a)))) ∧ w' = w) := Lib.hid fun w => by
    have := Tryd.bits_Len64 (rmag (lo a)) w (by omega) (by omega)
    rw [Int.toNat_natCast] at this
    exact this
  have hm := lo_mod63 a
  generalize rmag (lo a) = m at *
  generalize Lib.bitLen m = l at *
  generalize nE (lo a) = x at *
  generalize rexp (lo a) = y at *
  generalize lo a = r at *
  have d1 : ((r : Int) == 0) = false := by rw [beq_eq_false_iff_ne]; omega
  have d2 : decide ((9218868437227405312 : Int) ≤ (r : Int)) = false := by simp; omega
  have s1 : wrap64 ((y : Int) - 1074 + (l : Int)) = (y : Int) - 1074 + l := by simp only [wrap64]; omega
  have s2 : wrap64 ((y : Int) - 1074 + (l : Int) - 1) = x - 1022 := by simp only [wrap64]; omega
  have t1 : IntKind.i64.wrap ((y : Int) - 1074 + (l : Int)) = (y : Int) - 1074 + l := by rw [IntWalk.i64_left]; exact s1
  have t2 : IntKind.i64.wrap ((y : Int) - 1074 + (l : Int) - 1) = x - 1022 := by rw [IntWalk.i64_left]; exact s2
  clear hl hb hr hx h0 hf
  go_enter Tryd.func34, Tryd.ntmps34
  go_wp2_with (first
    | (go_at_call 35; (with_reducible refine (HB.out _).mono ?_); rintro e w1 ⟨rfl, rfl⟩)
    | (go_at_call 51; (with_reducible refine (HP.out _).mono ?_); rintro e w1 ⟨rfl, rfl⟩)
    | (go_at_call 52; (with_reducible refine (HL.out _).mono ?_); rintro e w1 ⟨rfl, rfl⟩))
  go_ret2
  exact ⟨rfl, rfl⟩
/-- No exponent: nought, infinity, no number. -/
def noExp (a : Nat) : Prop := lo a = 0 ∨ 9218868437227405312 ≤ lo a
theorem rExp_no (a : Nat) (w : World) (h : noExp a) :
    Calls Tryd.prog 34 #[.float .f64 a] w fun e w' => e = .returned (.tuple #[.int .i64 0, .int .i64 13]) ∧ w = w' := by
  cases hn : isN a with
  | true =>
    have HB := Lib.hid (rb_nan a · hn)
    clear h hn
    go_enter Tryd.func34, Tryd.ntmps34
    go_wp2_with (go_at_call 35; (with_reducible refine (HB.out _).mono ?_); rintro e w1 ⟨rfl, rfl⟩)
    go_ret2
    exact ⟨rfl, rfl⟩
  | false =>
    have hq : lo a ≤ 9218868437227405312 := not_isN hn
    have HB := Lib.hid (rb_fin a · hq)
    have hm := lo_mod63 a
    unfold noExp at h
    generalize lo a = r at *
    rcases h with h | h
    · subst h
      clear hn hq
      go_enter Tryd.func34, Tryd.ntmps34
      go_wp2_with (go_at_call 35; (with_reducible refine (HB.out _).mono ?_); rintro e w1 ⟨rfl, rfl⟩)
      go_ret2
      exact ⟨rfl, rfl⟩
    · obtain rfl : r = 9218868437227405312 := by omega
      clear hn hq h
      go_enter Tryd.func34, Tryd.ntmps34
      go_wp2_with (go_at_call 35; (with_reducible refine (HB.out _).mono ?_); rintro e w1 ⟨rfl, rfl⟩)
      go_ret2
      exact ⟨rfl, rfl⟩
set_option maxHeartbeats 800000 in
theorem bExp_yes (a : Nat) (w : World) (h : a < 18446744073709551616) (h0 : 0 < lo a) (hf : lo a < 9218868437227405312) :
    Calls Tryd.prog 27 #[.float .f64 a] w fun e w' => e = .returned (.tuple #[.int .i64 (nE (lo a) - 1022), .nilIface]) ∧ Kp w w' := by
  have z1 := (z_facts h h0 hf).1
  have HX := Lib.hid (frexp_any a · h h0 hf)
  have HF : Hid (∀ w, Calls Tryd.prog 48 #[.float .f64 a] w fun e w' => e = .returned (.bool true) ∧ w = w') := Lib.hid fun w => by
    have := bfin_any a w h; rw [decide_eq_true hf] at this; exact this
  have hb := nE_bound h0 hf
  have e0 := cn_0
  generalize nE (lo a) = x at *
  generalize frw a = y at *
  have t2 : IntKind.i64.wrap (x - 1021 - 1) = x - 1022 := by rw [IntWalk.i64_left]; simp only [wrap64]; omega
  have t3 : wrap64 (x - 1021 - 1) = x - 1022 := by simp only [wrap64]; omega
  clear h h0 hf hb
  go_enter Tryd.func27, Tryd.ntmps27
  go_wp2_with (first
    | (go_at_call 48; (with_reducible refine (HF.out _).mono ?_); rintro e w1 ⟨rfl, rfl⟩)
    | (go_at_call 49; (with_reducible refine (HX.out _).mono ?_); rintro e w1 ⟨rfl, hk⟩))
  go_ret2
  exact ⟨rfl, hk⟩
theorem ord_big {a : Nat} (h : 9218868437227405312 ≤ lo a) (hs : a < 18446744073709551616) : (ord (cn a) 0 == some .eq) = false := by
  cases hn : isN a with
  | true => rw [cn_of a hn]; decide +kernel
  | false =>
    have hq : lo a ≤ 9218868437227405312 := not_isN hn
    rw [cn_lo hq]
    rcases sw_cases hs with ⟨_, e⟩ | ⟨_, e⟩
    · obtain rfl : a = 9218868437227405312 := by omega
      decide +kernel
    · obtain rfl : a = 18442240474082181120 := by omega
      decide +kernel
set_option maxHeartbeats 800000 in
theorem bExp_no (a : Nat) (aE : Addr) (w : World) (h : a < 18446744073709551616) (hL : errAt w 0 aE) (hn : noExp a) :
    Calls Tryd.prog 27 #[.float .f64 a] w fun e w' => e = .returned (.tuple #[.int .i64 0, .iface 68 (.pointer (some aE))]) ∧ Kp w w' := by
  unfold errAt at hL
  have e0 := cn_0
  rcases hn with hz | hz
  · have z1 : (ord (cn a) 0 == some .eq) = true := by rw [ord_nought h (by omega)]; exact decide_eq_true hz
    clear h hz
    go_enter Tryd.func27, Tryd.ntmps27
    go_wp2_with fail
    go_quiet (fail)
    go_wp2_with fail
    go_ret2
    exact ⟨rfl, (Kp.refl _).drewN _⟩
  · have z1 := ord_big hz h
    have HF : Hid (∀ w, Calls Tryd.prog 48 #[.float .f64 a] w fun e w' => e = .returned (.bool false) ∧ w = w') := Lib.hid fun w => by
      have := bfin_any a w h; rw [decide_eq_false (by omega)] at this; exact this
    clear h hz
    go_enter Tryd.func27, Tryd.ntmps27
    go_wp2_with (go_at_call 48; (with_reducible refine (HF.out _).mono ?_); rintro e w1 ⟨rfl, rfl⟩)
    go_quiet (fail)
    go_wp2_with fail
    go_ret2
    exact ⟨rfl, (Kp.refl _).drewN _⟩
end Go.Proofs.YtabnahkheemnmaaDoor
