/-
  The walks of Class (both), of the reference's Up and Down, of the statements' same.
-/
import Derived.Test.YtabnahkheemnmaaDoorBExp
namespace Go.Proofs.YtabnahkheemnmaaDoor
open Go Go.RowKit Go.Fl

/-- The class of a word that is no NaN, its sign aside. -/
def cl0 (r : Nat) : Int := if r = 0 then 5 else if r < 4503599627370496 then 6 else if r = 9218868437227405312 then 8 else 7
def cls (a : Nat) : Int := if isN a = true then 9 else if 9223372036854775808 ≤ a then 9 - cl0 (lo a) else cl0 (lo a)
theorem cl0_cases (r : Nat) (h : r ≤ 9218868437227405312) :
    (((r : Int) == 0) = true ∧ ((r : Int) == 9218868437227405312) = false ∧ cl0 r = 5) ∨
    (((r : Int) == 0) = false ∧ ((r : Int) == 9218868437227405312) = false ∧ decide ((r : Int) < 4503599627370496) = true ∧ cl0 r = 6) ∨
    (((r : Int) == 0) = false ∧ ((r : Int) == 9218868437227405312) = true ∧ decide ((r : Int) < 4503599627370496) = false ∧ cl0 r = 8) ∨
    (((r : Int) == 0) = false ∧ ((r : Int) == 9218868437227405312) = false ∧ decide ((r : Int) < 4503599627370496) = false ∧ cl0 r = 7) := by
  unfold cl0
  simp only [beq_iff_eq, beq_eq_false_iff_ne, decide_eq_true_eq, decide_eq_false_iff_not]
  by_cases h1 : r = 0
  · left; subst h1; simp
  · by_cases h2 : r < 4503599627370496
    · right; left; rw [if_neg h1, if_pos h2]; refine ⟨?_, ?_, ?_, rfl⟩ <;> omega
    · by_cases h3 : r = 9218868437227405312
      · right; right; left; rw [if_neg h1, if_neg h2, if_pos h3]; refine ⟨?_, ?_, ?_, rfl⟩ <;> omega
      · right; right; right; rw [if_neg h1, if_neg h2, if_neg h3]; refine ⟨?_, ?_, ?_, rfl⟩ <;> omega
set_option maxHeartbeats 1000000 in
theorem bClass_any (a : Nat) (w : World) (h : a < 18446744073709551616) :
    Calls Tryd.prog 21 #[.float .f64 a] w fun e w' => e = .returned (.int .i64 (cls a)) ∧ w = w' := by
  cases hn : isN a with
  | true =>
    have z := nself_no hn
    have hc : cls a = 9 := by unfold cls; rw [if_pos hn]
    rw [hc]
    clear hn h hc
    go_enter Tryd.func21, Tryd.ntmps21
    go_wp2_with fail
    go_ret
    exact ⟨rfl, rfl⟩
  | false =>
    have z := nself_yes hn
    have hq : lo a ≤ 9218868437227405312 := not_isN hn
    have hA := b_andNot_sign h
    have hk := cl0_cases (lo a) hq
    have hc : cls a = if 9223372036854775808 ≤ a then 9 - cl0 (lo a) else cl0 (lo a) := by unfold cls; rw [if_neg (by rw [hn]; decide)]
    generalize lo a = r at *
    clear hn h hq
    by_cases hs : 9223372036854775808 ≤ a
    · have d1 : decide ((9223372036854775808 : Int) ≤ (a : Int)) = true := by simp; omega
      rw [if_pos hs] at hc
      clear hs
      rcases hk with ⟨k1, k2, k3⟩ | ⟨k1, k2, k4, k3⟩ | ⟨k1, k2, k4, k3⟩ | ⟨k1, k2, k4, k3⟩
      all_goals
        rw [k3] at hc
        rw [hc]
        clear hc k3
        go_enter Tryd.func21, Tryd.ntmps21
        go_wp2_with fail
        go_ret
        exact ⟨rfl, rfl⟩
    · have d1 : decide ((9223372036854775808 : Int) ≤ (a : Int)) = false := by simp; omega
      rw [if_neg hs] at hc
      clear hs
      rcases hk with ⟨k1, k2, k3⟩ | ⟨k1, k2, k4, k3⟩ | ⟨k1, k2, k4, k3⟩ | ⟨k1, k2, k4, k3⟩
      all_goals
        rw [k3] at hc
        rw [hc]
        clear hc k3
        go_enter Tryd.func21, Tryd.ntmps21
        go_wp2_with fail
        go_ret
        exact ⟨rfl, rfl⟩
set_option maxHeartbeats 1000000 in
theorem rClass_any (a : Nat) (w : World) (h : a < 18446744073709551616) :
    Calls Tryd.prog 37 #[.float .f64 a] w fun e w' => e = .returned (.int .i64 (cls a)) ∧ w = w' := by
  cases hn : isN a with
  | true =>
    have HB := Lib.hid (rb_nan a · hn)
    have hc : cls a = 9 := by unfold cls; rw [if_pos hn]
    rw [hc]
    clear hn h hc
    go_enter Tryd.func37, Tryd.ntmps37
    go_wp2_with (go_at_call 35; (with_reducible refine (HB.out _).mono ?_); rintro e w1 ⟨rfl, rfl⟩)
    go_ret
    exact ⟨rfl, rfl⟩
  | false =>
    have hq : lo a ≤ 9218868437227405312 := not_isN hn
    have HB := Lib.hid (rb_fin a · hq)
    have hm := lo_mod63 a
    have hk := cl0_cases (lo a) hq
    have hc : cls a = if 9223372036854775808 ≤ a then 9 - cl0 (lo a) else cl0 (lo a) := by unfold cls; rw [if_neg (by rw [hn]; decide)]
    have hne : ((a : Int) == 9221120237041090560) = false := by
      rw [beq_eq_false_iff_ne]; intro e
      have : a = 9221120237041090560 := by omega
      subst this; exact absurd hq (by decide)
    generalize lo a = r at *
    clear hn h hq
    by_cases hs : 9223372036854775808 ≤ a
    · have d1 : decide ((9223372036854775808 : Int) ≤ (a : Int)) = true := by simp; omega
      rw [if_pos hs] at hc
      clear hs
      rcases hk with ⟨k1, k2, k3⟩ | ⟨k1, k2, k4, k3⟩ | ⟨k1, k2, k4, k3⟩ | ⟨k1, k2, k4, k3⟩
      all_goals
        rw [k3] at hc
        rw [hc]
        clear hc k3
        go_enter Tryd.func37, Tryd.ntmps37
        go_wp2_with (go_at_call 35; (with_reducible refine (HB.out _).mono ?_); rintro e w1 ⟨rfl, rfl⟩)
        go_ret
        exact ⟨rfl, rfl⟩
    · have d1 : decide ((9223372036854775808 : Int) ≤ (a : Int)) = false := by simp; omega
      rw [if_neg hs] at hc
      clear hs
      rcases hk with ⟨k1, k2, k3⟩ | ⟨k1, k2, k4, k3⟩ | ⟨k1, k2, k4, k3⟩ | ⟨k1, k2, k4, k3⟩
      all_goals
        rw [k3] at hc
        rw [hc]
        clear hc k3
        go_enter Tryd.func37, Tryd.ntmps37
        go_wp2_with (go_at_call 35; (with_reducible refine (HB.out _).mono ?_); rintro e w1 ⟨rfl, rfl⟩)
        go_ret
        exact ⟨rfl, rfl⟩
theorem rat_any (p : Int) (w : World) (h1 : -9223372036854775808 ≤ p) (h2 : p < 9223372036854775808) :
    Calls Tryd.prog 54 #[.int .i64 p] w fun e w' => e = .returned (.float .f64 (atw p)) ∧ w = w' := by
  by_cases hp : p < 0
  · rw [at_neg hp]
    have d : decide (p < 0) = true := by simpa using hp
    have q1 : IntKind.i64.wrap (-1 - p) = -1 - p := by rw [IntWalk.i64_left]; simp only [wrap64]; omega
    have q2 : IntKind.u64.wrap (-1 - p) = -1 - p := by rw [IntKind.wrap_u64]; omega
    have q3 : IntKind.u64.wrap (-1 - p + 9223372036854775808) = -1 - p + 9223372036854775808 := by rw [IntKind.wrap_u64]; omega
    clear hp
    go_enter Tryd.func54, Tryd.ntmps54
    go_wp2_with fail
    go_ret
    refine ⟨?_, rfl⟩
    rw [show (9223372036854775808 + (-1 - p)).toNat = (-1 - p + 9223372036854775808).toNat by rw [Int.add_comm]]
    rfl
  · rw [at_pos hp]
    have d : decide (p < 0) = false := by simpa using hp
    have q2 : IntKind.u64.wrap p = p := by rw [IntKind.wrap_u64]; omega
    clear hp
    go_enter Tryd.func54, Tryd.ntmps54
    go_wp2_with fail
    go_ret
    exact ⟨rfl, rfl⟩
set_option maxHeartbeats 800000 in
theorem rUp_any (b : Nat) (w : World) (hb : b < 18446744073709551616) :
    Calls Tryd.prog 40 #[.float .f64 b] w fun e w' => e = .returned (.float .f64 (upB b)) ∧ w = w' := by
  have hB : Hid (∀ w, Calls Tryd.prog 45 #[.float .f64 b] w fun e w' => e = .returned (.int .i64 (rpl b)) ∧ w = w') := Lib.hid fun w => rPlace_any b w hb
  cases h : isN b with
  | true =>
    have hu : upB b = b := by unfold upB; rw [if_pos (.inl h)]
    rw [hu]
    rw [rpl_nan h] at hB
    clear hu h
    go_enter Tryd.func40, Tryd.ntmps40
    go_wp2_with (go_at_call 45; (with_reducible refine (hB.out _).mono ?_); rintro e w1 ⟨rfl, rfl⟩)
    go_ret
    exact ⟨rfl, rfl⟩
  | false =>
    have hbd := (show Num b from ⟨hb, h⟩).pl_bound
    rw [rpl_num h] at hB
    by_cases hi : pl b = 9218868437227405312
    · have hu : upB b = b := by unfold upB; rw [if_pos (.inr hi)]
      rw [hu]
      rw [hi] at hB
      clear hu h hi
      go_enter Tryd.func40, Tryd.ntmps40
      go_wp2_with (go_at_call 45; (with_reducible refine (hB.out _).mono ?_); rintro e w1 ⟨rfl, rfl⟩)
      go_ret
      exact ⟨rfl, rfl⟩
    · have hu : upB b = atw (pl b + 1) := by unfold upB; rw [if_neg (by rw [h]; simpa using hi)]
      rw [hu]
      have d : decide ((9218868437227405312 : Int) ≤ pl b) = false := by simp; omega
      have hT : Hid (∀ w, Calls Tryd.prog 54 #[.int .i64 (pl b + 1)] w fun e w' => e = .returned (.float .f64 (atw (pl b + 1))) ∧ w = w') := Lib.hid fun w => rat_any _ w (by omega) (by omega)
      clear hu h
      go_enter Tryd.func40, Tryd.ntmps40
      go_wp2_with (first
        | (go_at_call 45; (with_reducible refine (hB.out _).mono ?_); rintro e w1 ⟨rfl, rfl⟩)
        | (go_at_call 54; (with_reducible refine (hT.out _).mono ?_); rintro e w1 ⟨rfl, rfl⟩))
      go_ret
      exact ⟨rfl, rfl⟩
set_option maxHeartbeats 800000 in
theorem rDown_any (b : Nat) (w : World) (hb : b < 18446744073709551616) :
    Calls Tryd.prog 41 #[.float .f64 b] w fun e w' => e = .returned (.float .f64 (downB b)) ∧ w = w' := by
  have hB : Hid (∀ w, Calls Tryd.prog 45 #[.float .f64 b] w fun e w' => e = .returned (.int .i64 (rpl b)) ∧ w = w') := Lib.hid fun w => rPlace_any b w hb
  cases h : isN b with
  | true =>
    have hu : downB b = b := by unfold downB; rw [if_pos (.inl h)]
    rw [hu]
    rw [rpl_nan h] at hB
    clear hu h
    go_enter Tryd.func41, Tryd.ntmps41
    go_wp2_with (go_at_call 45; (with_reducible refine (hB.out _).mono ?_); rintro e w1 ⟨rfl, rfl⟩)
    go_ret
    exact ⟨rfl, rfl⟩
  | false =>
    have hbd := (show Num b from ⟨hb, h⟩).pl_bound
    rw [rpl_num h] at hB
    by_cases hi : pl b = -9218868437227405313
    · have hu : downB b = b := by unfold downB; rw [if_pos (.inr hi)]
      rw [hu]
      rw [hi] at hB
      clear hu h hi
      go_enter Tryd.func41, Tryd.ntmps41
      go_wp2_with (go_at_call 45; (with_reducible refine (hB.out _).mono ?_); rintro e w1 ⟨rfl, rfl⟩)
      go_ret
      exact ⟨rfl, rfl⟩
    · have hu : downB b = atw (pl b - 1) := by unfold downB; rw [if_neg (by rw [h]; simpa using hi)]
      rw [hu]
      have d : (pl b == -9218868437227405313) = false := by rw [beq_eq_false_iff_ne]; exact hi
      have d2 : (pl b == 9223372036854775807) = false := by rw [beq_eq_false_iff_ne]; omega
      have hT : Hid (∀ w, Calls Tryd.prog 54 #[.int .i64 (pl b - 1)] w fun e w' => e = .returned (.float .f64 (atw (pl b - 1))) ∧ w = w') := Lib.hid fun w => rat_any _ w (by omega) (by omega)
      clear hu h
      go_enter Tryd.func41, Tryd.ntmps41
      go_wp2_with (first
        | (go_at_call 45; (with_reducible refine (hB.out _).mono ?_); rintro e w1 ⟨rfl, rfl⟩)
        | (go_at_call 54; (with_reducible refine (hT.out _).mono ?_); rintro e w1 ⟨rfl, rfl⟩))
      go_ret
      exact ⟨rfl, rfl⟩
/-- The statements' own same. -/
theorem bsame_any (a b : Nat) (w : World) (h : cn a = cn b) :
    Calls Tryd.prog 36 #[.float .f64 a, .float .f64 b] w fun e w' => e = .returned (.bool true) ∧ w = w' := by
  have S : Hid (∀ w, Calls Tryd.prog 16 #[.float .f64 a, .float .f64 b] w fun e w' => e = .returned (.bool true) ∧ w = w') := Lib.hid fun w => by
    have := rSame_any a b w; rw [decide_eq_true h] at this; exact this
  clear h
  go_enter Tryd.func36, Tryd.ntmps36
  go_wp2_with (go_at_call 16; (with_reducible refine (S.out _).mono ?_); rintro e w1 ⟨rfl, rfl⟩)
  go_ret
  exact ⟨rfl, rfl⟩
end Go.Proofs.YtabnahkheemnmaaDoor
