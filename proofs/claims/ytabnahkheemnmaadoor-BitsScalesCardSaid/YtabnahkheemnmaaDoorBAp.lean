/-
  The walks of layer 1's Apart; of the reference's Place, at, Compare, Up, Down, Apart.
-/
import Derived.Test.YtabnahkheemnmaaDoorBPl
namespace Go.Proofs.YtabnahkheemnmaaDoor
open Go Go.RowKit Go.Fl

theorem w64_in {x y : Int} (h0 : 0 ≤ x) (h1 : x < 18446744073709551616) (e : x = y) : IntKind.u64.wrap (wrap64 x) = y := by
  subst e
  unfold IntKind.wrap wrap64; simp [IntKind.bits, IntKind.signed]; omega
theorem u64_sub {p q y : Int} (h0 : 0 ≤ p - q) (h1 : p - q < 18446744073709551616) (e : p - q = y) : IntKind.u64.wrap (IntKind.u64.wrap p - IntKind.u64.wrap q) = y := by
  subst e
  unfold IntKind.wrap; simp [IntKind.bits, IntKind.signed]; omega
set_option maxHeartbeats 800000 in
theorem bApart_any (a b : Nat) (w : World) (ha : Num a) (hb : Num b) :
    Calls Tryd.prog 12 #[.float .f64 a, .float .f64 b] w fun e w' => e = .returned (.tuple #[.int .u64 (apartB a b), .nilIface]) ∧ w = w' := by
  have hA : Hid (∀ w, Calls Tryd.prog 44 #[.float .f64 a] w fun e w' => e = .returned (.tuple #[.int .i64 (pl a), .bool true]) ∧ w = w') := Lib.hid fun w => by have := place_any a w ha.1; rw [place_num ha.2, ha.2] at this; exact this
  have hB : Hid (∀ w, Calls Tryd.prog 44 #[.float .f64 b] w fun e w' => e = .returned (.tuple #[.int .i64 (pl b), .bool true]) ∧ w = w') := Lib.hid fun w => by have := place_any b w hb.1; rw [place_num hb.2, hb.2] at this; exact this
  obtain ⟨p1, p2⟩ := ha.pl_bound
  obtain ⟨q1, q2⟩ := hb.pl_bound
  have hap : (apartB a b : Int) = max (pl a) (pl b) - min (pl a) (pl b) := by unfold apartB; omega
  have HAP := Lib.hid hap
  clear hap
  generalize pl a = p at *
  generalize pl b = q at *
  go_enter Tryd.func12, Tryd.ntmps12
  go_wp2_with (first
    | (go_at_call 44; (with_reducible refine (hA.out _).mono ?_); rintro e w1 ⟨rfl, rfl⟩)
    | (go_at_call 44; (with_reducible refine (hB.out _).mono ?_); rintro e w1 ⟨rfl, rfl⟩))
  all_goals
    go_ret2
    refine ⟨?_, rfl⟩
    rw [HAP.out]
    first
      | exact congrArg (fun z => Ending.returned (.tuple #[.int .u64 z, .nilIface])) (show IntKind.u64.wrap (wrap64 (p - q)) = max p q - min p q from w64_in (by omega) (by omega) (by omega))
      | exact congrArg (fun z => Ending.returned (.tuple #[.int .u64 z, .nilIface])) (show IntKind.u64.wrap (wrap64 (q - p)) = max p q - min p q from w64_in (by omega) (by omega) (by omega))
      | exact congrArg (fun z => Ending.returned (.tuple #[.int .u64 z, .nilIface])) (show IntKind.u64.wrap (wrap64 0) = max p q - min p q from w64_in (by omega) (by omega) (by omega))
set_option maxHeartbeats 800000 in
theorem bApart_nan (a b : Nat) (aE : Addr) (w : World) (ha : a < 18446744073709551616) (hb : b < 18446744073709551616) (hL : errAt w 0 aE) (h : isN a = true ∨ isN b = true) :
    Calls Tryd.prog 12 #[.float .f64 a, .float .f64 b] w fun e w' => e = .returned (.tuple #[.int .u64 0, .iface 68 (.pointer (some aE))]) ∧ Kp w w' := by
  unfold errAt at hL
  have hA : Hid (∀ w, Calls Tryd.prog 44 #[.float .f64 a] w fun e w' => e = .returned (.tuple #[.int .i64 (place a), .bool (!isN a)]) ∧ w = w') := Lib.hid fun w => place_any a w ha
  have hB : Hid (∀ w, Calls Tryd.prog 44 #[.float .f64 b] w fun e w' => e = .returned (.tuple #[.int .i64 (place b), .bool (!isN b)]) ∧ w = w') := Lib.hid fun w => place_any b w hb
  have key : isN a = true ∨ (isN a = false ∧ isN b = true) := by
    cases hh : isN a with
    | true => exact .inl rfl
    | false => exact .inr ⟨rfl, by rcases h with h | h; (rw [hh] at h; cases h); exact h⟩
  clear h
  generalize place a = p at *
  generalize place b = q at *
  rcases key with h1 | ⟨h1, h2⟩
  · rw [h1] at hA
    clear h1
    go_enter Tryd.func12, Tryd.ntmps12
    go_wp2_with (first
      | (go_at_call 44; (with_reducible refine (hA.out _).mono ?_); rintro e w1 ⟨rfl, rfl⟩)
      | (go_at_call 44; (with_reducible refine (hB.out _).mono ?_); rintro e w1 ⟨rfl, rfl⟩))
    go_quiet (fail)
    go_wp2_with fail
    go_ret2
    exact ⟨rfl, (Kp.refl _).drewN _⟩
  · rw [h1] at hA
    rw [h2] at hB
    clear h1 h2
    go_enter Tryd.func12, Tryd.ntmps12
    go_wp2_with (first
      | (go_at_call 44; (with_reducible refine (hA.out _).mono ?_); rintro e w1 ⟨rfl, rfl⟩)
      | (go_at_call 44; (with_reducible refine (hB.out _).mono ?_); rintro e w1 ⟨rfl, rfl⟩))
    go_quiet (fail)
    go_wp2_with fail
    go_ret2
    exact ⟨rfl, (Kp.refl _).drewN _⟩
/-- The reference's place: a NaN is the greatest. -/
def rpl (b : Nat) : Int := if isN b = true then 9223372036854775807 else pl b
theorem rpl_num {b : Nat} (h : isN b = false) : rpl b = pl b := by unfold rpl; rw [if_neg (by rw [h]; decide)]
theorem rpl_nan {b : Nat} (h : isN b = true) : rpl b = 9223372036854775807 := by unfold rpl; rw [if_pos h]
set_option maxHeartbeats 400000 in
theorem rPlace_any (b : Nat) (w : World) (hb : b < 18446744073709551616) :
    Calls Tryd.prog 45 #[.float .f64 b] w fun e w' => e = .returned (.int .i64 (rpl b)) ∧ w = w' := by
  cases h : isN b with
  | true =>
    have hc : Hid (∀ w, Calls Tryd.prog 35 #[.float .f64 b] w fun e w' => e = .returned (.int .u64 9221120237041090560) ∧ w = w') := Lib.hid fun w => by have := Bits_any b w; rw [cn_of b h] at this; exact this
    rw [rpl_nan h]
    clear h
    go_enter Tryd.func45, Tryd.ntmps45
    go_wp2_with (go_at_call 35; (with_reducible refine (hc.out _).mono ?_); rintro e w1 ⟨rfl, rfl⟩)
    go_ret
    exact ⟨rfl, rfl⟩
  | false =>
    have hN : Num b := ⟨hb, h⟩
    have hc : Hid (∀ w, Calls Tryd.prog 35 #[.float .f64 b] w fun e w' => e = .returned (.int .u64 b) ∧ w = w') := Lib.hid fun w => by have := Bits_any b w; rw [cn_of_not b h] at this; exact this
    rw [rpl_num h]
    have hbd := hN.bound
    have d1 : ((b : Int) == 9221120237041090560) = false := by rw [beq_eq_false_iff_ne]; omega
    rcases hbd with h1 | ⟨h1, h2⟩
    · have d2 : decide ((9223372036854775808 : Int) ≤ (b : Int)) = false := by simp; omega
      have hq : Hid (pl b = (b : Int)) := Lib.hid (by unfold pl; rw [if_pos (by omega)])
      clear hN h
      go_enter Tryd.func45, Tryd.ntmps45
      go_wp2_with (go_at_call 35; (with_reducible refine (hc.out _).mono ?_); rintro e w1 ⟨rfl, rfl⟩)
      go_ret
      exact ⟨by rw [hq.out]; rfl, rfl⟩
    · have d2 : decide ((9223372036854775808 : Int) ≤ (b : Int)) = true := by simp; omega
      have hq : Hid (pl b = -1 - ((b : Int) - 9223372036854775808)) := Lib.hid (by unfold pl; rw [if_neg (by omega)])
      clear hN h
      go_enter Tryd.func45, Tryd.ntmps45
      go_wp2_with (go_at_call 35; (with_reducible refine (hc.out _).mono ?_); rintro e w1 ⟨rfl, rfl⟩)
      go_ret
      exact ⟨by rw [hq.out]; rfl, rfl⟩
set_option maxHeartbeats 800000 in
theorem rCompare_any (a b : Nat) (w : World) (ha : a < 18446744073709551616) (hb : b < 18446744073709551616) :
    Calls Tryd.prog 18 #[.float .f64 a, .float .f64 b] w fun e w' => e = .returned (.int .i64 (cmpB a b)) ∧ w = w' := by
  have hA : Hid (∀ w, Calls Tryd.prog 45 #[.float .f64 a] w fun e w' => e = .returned (.int .i64 (rpl a)) ∧ w = w') := Lib.hid fun w => rPlace_any a w ha
  have hB : Hid (∀ w, Calls Tryd.prog 45 #[.float .f64 b] w fun e w' => e = .returned (.int .i64 (rpl b)) ∧ w = w') := Lib.hid fun w => rPlace_any b w hb
  have key : (rpl a < rpl b ∧ cmpB a b = -1) ∨ (¬ rpl a < rpl b ∧ rpl b < rpl a ∧ cmpB a b = 1) ∨ (¬ rpl a < rpl b ∧ ¬ rpl b < rpl a ∧ cmpB a b = 0) := by
    rcases cmp_key a b with ⟨h1, h2, h3⟩ | ⟨h1, h2, h3⟩ | ⟨h1, h2, h3⟩ | ⟨h1, h2, ⟨h4, h3⟩ | ⟨h4, h5, h3⟩ | ⟨h4, h5, h3⟩⟩
    · rw [rpl_nan h1, rpl_nan h2, h3]; omega
    · have := (show Num b from ⟨hb, h2⟩).pl_bound
      rw [rpl_nan h1, rpl_num h2, h3]; omega
    · have := (show Num a from ⟨ha, h1⟩).pl_bound
      rw [rpl_num h1, rpl_nan h2, h3]; omega
    · rw [rpl_num h1, rpl_num h2, h3]; omega
    · rw [rpl_num h1, rpl_num h2, h3]; omega
    · rw [rpl_num h1, rpl_num h2, h3]; omega
  generalize rpl a = p at *
  generalize rpl b = q at *
  rcases key with ⟨h4, h3⟩ | ⟨h4, h5, h3⟩ | ⟨h4, h5, h3⟩
  all_goals
    rw [h3]
    clear h3
    go_enter Tryd.func18, Tryd.ntmps18
    go_wp2_with (first
      | (go_at_call 45; (with_reducible refine (hA.out _).mono ?_); rintro e w1 ⟨rfl, rfl⟩)
      | (go_at_call 45; (with_reducible refine (hB.out _).mono ?_); rintro e w1 ⟨rfl, rfl⟩))
    go_ret
    exact ⟨rfl, rfl⟩
set_option maxHeartbeats 800000 in
theorem rApart_any (a b : Nat) (w : World) (ha : Num a) (hb : Num b) :
    Calls Tryd.prog 13 #[.float .f64 a, .float .f64 b] w fun e w' => e = .returned (.tuple #[.int .u64 (apartB a b), .int .i64 0]) ∧ w = w' := by
  have hA : Hid (∀ w, Calls Tryd.prog 45 #[.float .f64 a] w fun e w' => e = .returned (.int .i64 (pl a)) ∧ w = w') := Lib.hid fun w => by have := rPlace_any a w ha.1; rw [rpl_num ha.2] at this; exact this
  have hB : Hid (∀ w, Calls Tryd.prog 45 #[.float .f64 b] w fun e w' => e = .returned (.int .i64 (pl b)) ∧ w = w') := Lib.hid fun w => by have := rPlace_any b w hb.1; rw [rpl_num hb.2] at this; exact this
  obtain ⟨p1, p2⟩ := ha.pl_bound
  obtain ⟨q1, q2⟩ := hb.pl_bound
  have hap : (apartB a b : Int) = max (pl a) (pl b) - min (pl a) (pl b) := by unfold apartB; omega
  have HAP := Lib.hid hap
  clear hap
  generalize pl a = p at *
  generalize pl b = q at *
  have d1 : (p == 9223372036854775807) = false := by rw [beq_eq_false_iff_ne]; omega
  have d2 : (q == 9223372036854775807) = false := by rw [beq_eq_false_iff_ne]; omega
  go_enter Tryd.func13, Tryd.ntmps13
  go_wp2_with (first
    | (go_at_call 45; (with_reducible refine (hA.out _).mono ?_); rintro e w1 ⟨rfl, rfl⟩)
    | (go_at_call 45; (with_reducible refine (hB.out _).mono ?_); rintro e w1 ⟨rfl, rfl⟩))
  all_goals
    go_ret2
    refine ⟨?_, rfl⟩
    rw [HAP.out]
    first
      | exact congrArg (fun z => Ending.returned (.tuple #[.int .u64 z, .int .i64 0])) (show IntKind.u64.wrap (IntKind.u64.wrap p - IntKind.u64.wrap q) = max p q - min p q from u64_sub (by omega) (by omega) (by omega))
      | exact congrArg (fun z => Ending.returned (.tuple #[.int .u64 z, .int .i64 0])) (show IntKind.u64.wrap (IntKind.u64.wrap q - IntKind.u64.wrap p) = max p q - min p q from u64_sub (by omega) (by omega) (by omega))
      | exact congrArg (fun z => Ending.returned (.tuple #[.int .u64 z, .int .i64 0])) (show IntKind.u64.wrap 0 = max p q - min p q from (u64_in (by omega) (by omega)).trans (by omega))
set_option maxHeartbeats 800000 in
theorem rApart_nan (a b : Nat) (w : World) (ha : a < 18446744073709551616) (hb : b < 18446744073709551616) (h : isN a = true ∨ isN b = true) :
    Calls Tryd.prog 13 #[.float .f64 a, .float .f64 b] w fun e w' => e = .returned (.tuple #[.int .u64 0, .int .i64 13]) ∧ w = w' := by
  have hA : Hid (∀ w, Calls Tryd.prog 45 #[.float .f64 a] w fun e w' => e = .returned (.int .i64 (rpl a)) ∧ w = w') := Lib.hid fun w => rPlace_any a w ha
  have hB : Hid (∀ w, Calls Tryd.prog 45 #[.float .f64 b] w fun e w' => e = .returned (.int .i64 (rpl b)) ∧ w = w') := Lib.hid fun w => rPlace_any b w hb
  have key : (rpl a == 9223372036854775807) = true ∨ ((rpl a == 9223372036854775807) = false ∧ (rpl b == 9223372036854775807) = true) := by
    cases hh : isN a with
    | true => left; rw [rpl_nan hh]; rfl
    | false =>
      have h2 : isN b = true := by rcases h with h | h; (rw [hh] at h; cases h); exact h
      have := (show Num a from ⟨ha, hh⟩).pl_bound
      right
      rw [rpl_num hh, rpl_nan h2]
      exact ⟨by rw [beq_eq_false_iff_ne]; omega, rfl⟩
  clear h
  generalize rpl a = p at *
  generalize rpl b = q at *
  rcases key with h1 | ⟨h1, h2⟩
  all_goals
    go_enter Tryd.func13, Tryd.ntmps13
    go_wp2_with (first
      | (go_at_call 45; (with_reducible refine (hA.out _).mono ?_); rintro e w1 ⟨rfl, rfl⟩)
      | (go_at_call 45; (with_reducible refine (hB.out _).mono ?_); rintro e w1 ⟨rfl, rfl⟩))
    go_ret2
    exact ⟨rfl, rfl⟩
end Go.Proofs.YtabnahkheemnmaaDoor
