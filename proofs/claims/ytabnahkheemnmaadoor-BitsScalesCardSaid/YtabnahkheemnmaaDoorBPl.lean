/-
  The walks of layer 1: Bits, Same, place, at, Compare, Up, Down, Apart; the reference's Place, Compare, Up, Down, Apart.
-/
import Derived.Test.YtabnahkheemnmaaDoorBOrd
import Derived.Test.YtabnahkheemnmaaDoorErr
namespace Go.Proofs.YtabnahkheemnmaaDoor
open Go Go.RowKit Go.Fl

theorem u64_in {x : Int} (h0 : 0 ≤ x) (h1 : x < 18446744073709551616) : IntKind.u64.wrap x = x := by
  unfold IntKind.wrap; simp [IntKind.bits, IntKind.signed]; omega
theorem self_yes {b : Nat} (h : isN b = false) : (ord (cn b) (cn b) == some .eq) = true := by rw [ord_self, h]; rfl
theorem self_no {b : Nat} (h : isN b = true) : (ord (cn b) (cn b) == some .eq) = false := by rw [ord_self, h]; rfl
theorem nself_yes {b : Nat} (h : isN b = false) : (ord (cn b) (cn b) != some .eq) = false := by unfold bne; rw [self_yes h]; rfl
theorem nself_no {b : Nat} (h : isN b = true) : (ord (cn b) (cn b) != some .eq) = true := by unfold bne; rw [self_no h]; rfl
set_option maxHeartbeats 400000 in
theorem bBits_any (b : Nat) (w : World) :
    Calls Tryd.prog 20 #[.float .f64 b] w fun e w' => e = .returned (.int .u64 (cn b)) ∧ w = w' := by
  cases h : isN b with
  | true =>
    have hs := self_no h
    have hs' := nself_no h
    go_enter Tryd.func20, Tryd.ntmps20
    go_wp2_with fail
    go_ret
    exact ⟨by rw [cn_of b h]; rfl, rfl⟩
  | false =>
    have hs := self_yes h
    have hs' := nself_yes h
    go_enter Tryd.func20, Tryd.ntmps20
    go_wp2_with fail
    go_ret
    exact ⟨by rw [cn_of_not b h]; rfl, rfl⟩
set_option maxHeartbeats 400000 in
theorem bSame_any (a b : Nat) (w : World) :
    Calls Tryd.prog 15 #[.float .f64 a, .float .f64 b] w fun e w' => e = .returned (.bool (decide (cn a = cn b))) ∧ w = w' := by
  by_cases h : cn a = cn b
  · have hb : ((cn a : Int) == (cn b : Int)) = true := by rw [h]; simp
    rw [show decide (cn a = cn b) = true from decide_eq_true h]
    clear h
    go_enter Tryd.func15, Tryd.ntmps15
    go_wp2_with (go_at_call 20; (with_reducible refine (bBits_any _ _).mono ?_); rintro e w1 ⟨rfl, rfl⟩)
    go_ret
    exact ⟨rfl, rfl⟩
  · have hb : ((cn a : Int) == (cn b : Int)) = false := by simp; omega
    rw [show decide (cn a = cn b) = false from decide_eq_false h]
    clear h
    go_enter Tryd.func15, Tryd.ntmps15
    go_wp2_with (go_at_call 20; (with_reducible refine (bBits_any _ _).mono ?_); rintro e w1 ⟨rfl, rfl⟩)
    go_ret
    exact ⟨rfl, rfl⟩
theorem rSame_any (a b : Nat) (w : World) :
    Calls Tryd.prog 16 #[.float .f64 a, .float .f64 b] w fun e w' => e = .returned (.bool (decide (cn a = cn b))) ∧ w = w' := by
  by_cases h : cn a = cn b
  · rw [show decide (cn a = cn b) = true from decide_eq_true h]; exact Same_yes a b w h
  · rw [show decide (cn a = cn b) = false from decide_eq_false h]; exact Same_no a b w h
set_option maxHeartbeats 400000 in
theorem place_any (b : Nat) (w : World) (hb : b < 18446744073709551616) :
    Calls Tryd.prog 44 #[.float .f64 b] w fun e w' => e = .returned (.tuple #[.int .i64 (place b), .bool (!isN b)]) ∧ w = w' := by
  cases h : isN b with
  | true =>
    have hc : Hid (∀ w, Calls Tryd.prog 20 #[.float .f64 b] w fun e w' => e = .returned (.int .u64 9221120237041090560) ∧ w = w') := Lib.hid fun w => by have := bBits_any b w; rw [cn_of b h] at this; exact this
    have hp : place b = 0 := by unfold place; rw [if_pos h]
    rw [hp]
    clear hp h
    go_enter Tryd.func44, Tryd.ntmps44
    go_wp2_with (go_at_call 20; (with_reducible refine (hc.out _).mono ?_); rintro e w1 ⟨rfl, rfl⟩)
    go_ret2
    exact ⟨rfl, rfl⟩
  | false =>
    have hN : Num b := ⟨hb, h⟩
    have hc : Hid (∀ w, Calls Tryd.prog 20 #[.float .f64 b] w fun e w' => e = .returned (.int .u64 b) ∧ w = w') := Lib.hid fun w => by have := bBits_any b w; rw [cn_of_not b h] at this; exact this
    have hp : place b = pl b := by unfold place; rw [if_neg (by rw [h]; decide)]
    rw [hp]
    have hbd := hN.bound
    have d1 : ((b : Int) == 9221120237041090560) = false := by rw [beq_eq_false_iff_ne]; omega
    rcases hbd with h1 | ⟨h1, h2⟩
    · have d2 : decide ((9223372036854775808 : Int) ≤ (b : Int)) = false := by simp; omega
      have hq : Hid (pl b = (b : Int)) := Lib.hid (by unfold pl; rw [if_pos (by omega)])
      clear hN h hp
      go_enter Tryd.func44, Tryd.ntmps44
      go_wp2_with (go_at_call 20; (with_reducible refine (hc.out _).mono ?_); rintro e w1 ⟨rfl, rfl⟩)
      go_ret2
      exact ⟨by rw [hq.out]; rfl, rfl⟩
    · have d2 : decide ((9223372036854775808 : Int) ≤ (b : Int)) = true := by simp; omega
      have hq : Hid (pl b = -1 - ((b : Int) - 9223372036854775808)) := Lib.hid (by unfold pl; rw [if_neg (by omega)])
      clear hN h hp
      go_enter Tryd.func44, Tryd.ntmps44
      go_wp2_with (go_at_call 20; (with_reducible refine (hc.out _).mono ?_); rintro e w1 ⟨rfl, rfl⟩)
      go_ret2
      exact ⟨by rw [hq.out]; rfl, rfl⟩
theorem at_neg {p : Int} (h : p < 0) : atw p = (9223372036854775808 + (-1 - p)).toNat := by unfold atw; rw [if_pos h]
theorem at_pos {p : Int} (h : ¬ p < 0) : atw p = p.toNat := by unfold atw; rw [if_neg h]
set_option maxHeartbeats 400000 in
theorem bat_any (p : Int) (w : World) (h1 : -9223372036854775808 ≤ p) (h2 : p < 9223372036854775808) :
    Calls Tryd.prog 47 #[.int .i64 p] w fun e w' => e = .returned (.float .f64 (atw p)) ∧ w = w' := by
  by_cases h : p < 0
  · have d : decide (p < 0) = true := by simpa using h
    rw [at_neg h]
    go_enter Tryd.func47, Tryd.ntmps47
    go_wp2_with fail
    go_ret
    exact ⟨rfl, rfl⟩
  · have d : decide (p < 0) = false := by simpa using h
    rw [at_pos h]
    go_enter Tryd.func47, Tryd.ntmps47
    go_wp2_with fail
    go_ret
    exact ⟨rfl, rfl⟩
/-- How two words stand on the line, as tests. -/
theorem cmp_key (a b : Nat) : (isN a = true ∧ isN b = true ∧ cmpB a b = 0) ∨ (isN a = true ∧ isN b = false ∧ cmpB a b = 1) ∨ (isN a = false ∧ isN b = true ∧ cmpB a b = -1) ∨
    (isN a = false ∧ isN b = false ∧ ((pl a < pl b ∧ cmpB a b = -1) ∨ (¬ pl a < pl b ∧ pl b < pl a ∧ cmpB a b = 1) ∨ (¬ pl a < pl b ∧ ¬ pl b < pl a ∧ cmpB a b = 0))) := by
  cases h1 : isN a <;> cases h2 : isN b
  · refine .inr (.inr (.inr ⟨rfl, rfl, ?_⟩))
    have e : cmpB a b = if pl a < pl b then -1 else if pl b < pl a then 1 else 0 := by unfold cmpB; rw [h1, h2, if_neg (by decide), if_neg (by decide)]
    rw [e]
    by_cases c1 : pl a < pl b
    · left; exact ⟨c1, by rw [if_pos c1]⟩
    · right
      by_cases c2 : pl b < pl a
      · left; exact ⟨by omega, c2, by rw [if_neg c1, if_pos c2]⟩
      · right; exact ⟨by omega, by omega, by rw [if_neg c1, if_neg c2]⟩
  · exact .inr (.inr (.inl ⟨rfl, rfl, by unfold cmpB; rw [h1, h2, if_neg (by decide), if_pos rfl]⟩))
  · exact .inr (.inl ⟨rfl, rfl, by unfold cmpB; rw [h1, h2, if_pos rfl, if_neg (by decide)]⟩)
  · exact .inl ⟨rfl, rfl, by unfold cmpB; rw [h1, h2, if_pos rfl, if_pos rfl]⟩
theorem place_num {b : Nat} (h : isN b = false) : place b = pl b := by unfold place; rw [if_neg (by rw [h]; decide)]
theorem place_nan {b : Nat} (h : isN b = true) : place b = 0 := by unfold place; rw [if_pos h]
set_option maxHeartbeats 800000 in
theorem bCompare_any (a b : Nat) (w : World) (ha : a < 18446744073709551616) (hb : b < 18446744073709551616) :
    Calls Tryd.prog 17 #[.float .f64 a, .float .f64 b] w fun e w' => e = .returned (.int .i64 (cmpB a b)) ∧ w = w' := by
  have hA : Hid (∀ w, Calls Tryd.prog 44 #[.float .f64 a] w fun e w' => e = .returned (.tuple #[.int .i64 (place a), .bool (!isN a)]) ∧ w = w') := Lib.hid fun w => place_any a w ha
  have hB : Hid (∀ w, Calls Tryd.prog 44 #[.float .f64 b] w fun e w' => e = .returned (.tuple #[.int .i64 (place b), .bool (!isN b)]) ∧ w = w') := Lib.hid fun w => place_any b w hb
  rcases cmp_key a b with ⟨h1, h2, h3⟩ | ⟨h1, h2, h3⟩ | ⟨h1, h2, h3⟩ | ⟨h1, h2, ⟨h4, h3⟩ | ⟨h4, h5, h3⟩ | ⟨h4, h5, h3⟩⟩
  all_goals
    rw [h1] at hA
    rw [h2] at hB
    rw [h3]
  all_goals
    (try rw [place_num h1] at hA)
    (try rw [place_num h2] at hB)
    clear h1 h2 h3
  all_goals
    go_enter Tryd.func17, Tryd.ntmps17
    go_wp2_with (first
      | (go_at_call 44; (with_reducible refine (hA.out _).mono ?_); rintro e w1 ⟨rfl, rfl⟩)
      | (go_at_call 44; (with_reducible refine (hB.out _).mono ?_); rintro e w1 ⟨rfl, rfl⟩))
    go_ret
    exact ⟨rfl, rfl⟩
set_option maxHeartbeats 800000 in
theorem bUp_any (b : Nat) (w : World) (hb : b < 18446744073709551616) :
    Calls Tryd.prog 22 #[.float .f64 b] w fun e w' => e = .returned (.float .f64 (upB b)) ∧ w = w' := by
  have hB : Hid (∀ w, Calls Tryd.prog 44 #[.float .f64 b] w fun e w' => e = .returned (.tuple #[.int .i64 (place b), .bool (!isN b)]) ∧ w = w') := Lib.hid fun w => place_any b w hb
  cases h : isN b with
  | true =>
    have hu : upB b = b := by unfold upB; rw [if_pos (.inl h)]
    rw [hu]
    rw [h] at hB
    clear hu h
    go_enter Tryd.func22, Tryd.ntmps22
    go_wp2_with (go_at_call 44; (with_reducible refine (hB.out _).mono ?_); rintro e w1 ⟨rfl, rfl⟩)
    go_ret
    exact ⟨rfl, rfl⟩
  | false =>
    have hbd := (show Num b from ⟨hb, h⟩).pl_bound
    rw [h, place_num h] at hB
    by_cases hi : pl b = 9218868437227405312
    · have hu : upB b = b := by unfold upB; rw [if_pos (.inr hi)]
      rw [hu]
      have d : (pl b == 9218868437227405312) = true := by rw [hi]; rfl
      rw [hi] at hB
      clear hu h d hi
      go_enter Tryd.func22, Tryd.ntmps22
      go_wp2_with (go_at_call 44; (with_reducible refine (hB.out _).mono ?_); rintro e w1 ⟨rfl, rfl⟩)
      go_ret
      exact ⟨rfl, rfl⟩
    · have hu : upB b = atw (pl b + 1) := by unfold upB; rw [if_neg (by rw [h]; simpa using hi)]
      rw [hu]
      have d : (pl b == 9218868437227405312) = false := by rw [beq_eq_false_iff_ne]; exact hi
      have hT : Hid (∀ w, Calls Tryd.prog 47 #[.int .i64 (pl b + 1)] w fun e w' => e = .returned (.float .f64 (atw (pl b + 1))) ∧ w = w') := Lib.hid fun w => bat_any _ w (by omega) (by omega)
      clear hu h
      go_enter Tryd.func22, Tryd.ntmps22
      go_wp2_with (first
        | (go_at_call 44; (with_reducible refine (hB.out _).mono ?_); rintro e w1 ⟨rfl, rfl⟩)
        | (go_at_call 47; (with_reducible refine (hT.out _).mono ?_); rintro e w1 ⟨rfl, rfl⟩))
      go_ret
      exact ⟨rfl, rfl⟩
set_option maxHeartbeats 800000 in
theorem bDown_any (b : Nat) (w : World) (hb : b < 18446744073709551616) :
    Calls Tryd.prog 23 #[.float .f64 b] w fun e w' => e = .returned (.float .f64 (downB b)) ∧ w = w' := by
  have hB : Hid (∀ w, Calls Tryd.prog 44 #[.float .f64 b] w fun e w' => e = .returned (.tuple #[.int .i64 (place b), .bool (!isN b)]) ∧ w = w') := Lib.hid fun w => place_any b w hb
  cases h : isN b with
  | true =>
    have hu : downB b = b := by unfold downB; rw [if_pos (.inl h)]
    rw [hu]
    rw [h] at hB
    clear hu h
    go_enter Tryd.func23, Tryd.ntmps23
    go_wp2_with (go_at_call 44; (with_reducible refine (hB.out _).mono ?_); rintro e w1 ⟨rfl, rfl⟩)
    go_ret
    exact ⟨rfl, rfl⟩
  | false =>
    have hbd := (show Num b from ⟨hb, h⟩).pl_bound
    rw [h, place_num h] at hB
    by_cases hi : pl b = -9218868437227405313
    · have hu : downB b = b := by unfold downB; rw [if_pos (.inr hi)]
      rw [hu]
      rw [hi] at hB
      clear hu h hi
      go_enter Tryd.func23, Tryd.ntmps23
      go_wp2_with (go_at_call 44; (with_reducible refine (hB.out _).mono ?_); rintro e w1 ⟨rfl, rfl⟩)
      go_ret
      exact ⟨rfl, rfl⟩
    · have hu : downB b = atw (pl b - 1) := by unfold downB; rw [if_neg (by rw [h]; simpa using hi)]
      rw [hu]
      have d : (pl b == -9218868437227405313) = false := by rw [beq_eq_false_iff_ne]; exact hi
      have hT : Hid (∀ w, Calls Tryd.prog 47 #[.int .i64 (pl b - 1)] w fun e w' => e = .returned (.float .f64 (atw (pl b - 1))) ∧ w = w') := Lib.hid fun w => bat_any _ w (by omega) (by omega)
      clear hu h
      go_enter Tryd.func23, Tryd.ntmps23
      go_wp2_with (first
        | (go_at_call 44; (with_reducible refine (hB.out _).mono ?_); rintro e w1 ⟨rfl, rfl⟩)
        | (go_at_call 47; (with_reducible refine (hT.out _).mono ?_); rintro e w1 ⟨rfl, rfl⟩))
      go_ret
      exact ⟨rfl, rfl⟩
end Go.Proofs.YtabnahkheemnmaaDoor
