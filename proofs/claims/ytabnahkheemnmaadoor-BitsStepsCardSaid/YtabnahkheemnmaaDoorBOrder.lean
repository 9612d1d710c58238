/-
  The walk of BitsOrder.
-/
import Derived.Test.YtabnahkheemnmaaDoorBBack
namespace Go.Proofs.YtabnahkheemnmaaDoor
open Go Go.RowKit Go.Fl

theorem cmp_rpl (a b : Nat) (ha : a < 18446744073709551616) (hb : b < 18446744073709551616) : (rpl a < rpl b ∧ cmpB a b = -1) ∨ (rpl b < rpl a ∧ cmpB a b = 1) ∨ (rpl a = rpl b ∧ cmpB a b = 0) := by
  rcases cmp_key a b with ⟨h1, h2, h3⟩ | ⟨h1, h2, h3⟩ | ⟨h1, h2, h3⟩ | ⟨h1, h2, ⟨h4, h3⟩ | ⟨h4, h5, h3⟩ | ⟨h4, h5, h3⟩⟩
  · rw [rpl_nan h1, rpl_nan h2, h3]; omega
  · have := (show Num b from ⟨hb, h2⟩).pl_bound
    rw [rpl_nan h1, rpl_num h2, h3]; omega
  · have := (show Num a from ⟨ha, h1⟩).pl_bound
    rw [rpl_num h1, rpl_nan h2, h3]; omega
  · rw [rpl_num h1, rpl_num h2, h3]; omega
  · rw [rpl_num h1, rpl_num h2, h3]; omega
  · rw [rpl_num h1, rpl_num h2, h3]; omega
theorem rpl_eq (a b : Nat) (ha : a < 18446744073709551616) (hb : b < 18446744073709551616) : rpl a = rpl b ↔ cn a = cn b := by
  cases h1 : isN a with
  | true =>
    cases h2 : isN b with
    | true => rw [rpl_nan h1, rpl_nan h2, cn_of a h1, cn_of b h2]; simp
    | false =>
      have := (show Num b from ⟨hb, h2⟩).pl_bound
      rw [rpl_nan h1, rpl_num h2, cn_of a h1, cn_of_not b h2]
      constructor
      · intro e; omega
      · intro e; rw [← e, isN_NAN] at h2; cases h2
  | false =>
    cases h2 : isN b with
    | true =>
      have := (show Num a from ⟨ha, h1⟩).pl_bound
      rw [rpl_num h1, rpl_nan h2, cn_of_not a h1, cn_of b h2]
      constructor
      · intro e; omega
      · intro e; rw [e, isN_NAN] at h1; cases h1
    | false =>
      rw [rpl_num h1, rpl_num h2, cn_of_not a h1, cn_of_not b h2]
      exact ⟨pl_inj, fun e => by rw [e]⟩
/-- What the order of three words may be. -/
theorem order_key (a b c : Nat) (ha : a < 18446744073709551616) (hb : b < 18446744073709551616) (hc : c < 18446744073709551616) :
    (cmpB b a = -cmpB a b ∧ (decide (cn a = cn b) = decide (cmpB a b = 0))) ∧
    ((cmpB a b = 1) ∨ (cmpB a b = 0 ∧ cmpB b c = 1) ∨ (cmpB a b = 0 ∧ cmpB b c = 0 ∧ cmpB a c = 0) ∨ (cmpB a b = 0 ∧ cmpB b c = -1 ∧ cmpB a c = -1) ∨ (cmpB a b = -1 ∧ cmpB b c = 1) ∨ (cmpB a b = -1 ∧ cmpB b c = 0 ∧ cmpB a c = -1) ∨ (cmpB a b = -1 ∧ cmpB b c = -1 ∧ cmpB a c = -1)) := by
  have h1 := cmp_rpl a b ha hb
  have h2 := cmp_rpl b c hb hc
  have h3 := cmp_rpl a c ha hc
  have h4 := cmp_rpl b a hb ha
  have h5 := rpl_eq a b ha hb
  refine ⟨⟨by clear h2 h3 h5; omega, ?_⟩, ?_⟩
  · rw [decide_eq_decide, ← h5]
    clear h2 h3 h4 h5
    omega
  · clear h4 h5
    rcases h1 with ⟨a1, a2⟩ | ⟨a1, a2⟩ | ⟨a1, a2⟩
    · rcases h2 with ⟨b1, b2⟩ | ⟨b1, b2⟩ | ⟨b1, b2⟩
      · exact .inr (.inr (.inr (.inr (.inr (.inr ⟨a2, b2, by omega⟩)))))
      · exact .inr (.inr (.inr (.inr (.inl ⟨a2, b2⟩))))
      · exact .inr (.inr (.inr (.inr (.inr (.inl ⟨a2, b2, by omega⟩)))))
    · exact .inl a2
    · rcases h2 with ⟨b1, b2⟩ | ⟨b1, b2⟩ | ⟨b1, b2⟩
      · exact .inr (.inr (.inr (.inl ⟨a2, b2, by omega⟩)))
      · exact .inr (.inl ⟨a2, b2⟩)
      · exact .inr (.inr (.inl ⟨a2, b2, by omega⟩))
/-- What two words are. -/
theorem words_key (a b : Nat) (ha : a < 18446744073709551616) (hb : b < 18446744073709551616) :
    (isN a = false ∧ isN b = true ∧ cmpB a b = -1) ∨ (isN a = false ∧ isN b = false ∧ cmpB a b = -1 ∧ (ord (cn a) (cn b) == some .lt) = true) ∨ (a = 9223372036854775808 ∧ b = 0 ∧ cmpB a b = -1) ∨
    (isN a = true ∧ isN b = true ∧ cmpB a b = 0) ∨ (isN a = false ∧ isN b = false ∧ cmpB a b = 0) ∨ (isN a = true ∧ isN b = false ∧ cmpB a b = 1) ∨ (isN a = false ∧ isN b = false ∧ cmpB a b = 1) := by
  rcases cmp_key a b with ⟨h1, h2, h3⟩ | ⟨h1, h2, h3⟩ | ⟨h1, h2, h3⟩ | ⟨h1, h2, ⟨h4, h3⟩ | ⟨h4, h5, h3⟩ | ⟨h4, h5, h3⟩⟩
  · exact .inr (.inr (.inr (.inl ⟨h1, h2, h3⟩)))
  · exact .inr (.inr (.inr (.inr (.inr (.inl ⟨h1, h2, h3⟩)))))
  · exact .inl ⟨h1, h2, h3⟩
  · rcases ord_lt ⟨ha, h1⟩ ⟨hb, h2⟩ h4 with h | ⟨e1, e2⟩
    · exact .inr (.inl ⟨h1, h2, h3, by rw [cn_of_not a h1, cn_of_not b h2]; exact h⟩)
    · exact .inr (.inr (.inl ⟨e1, e2, h3⟩))
  · exact .inr (.inr (.inr (.inr (.inr (.inr ⟨h1, h2, h3⟩)))))
  · exact .inr (.inr (.inr (.inr (.inl ⟨h1, h2, h3⟩))))
set_option maxHeartbeats 4000000 in
theorem order_walk (A B C : Nat) (x y z : Int) (w : World)
    (H1 : Hid (∀ w, Calls Tryd.prog 17 #[.float .f64 A, .float .f64 B] w fun e w' => e = .returned (.int .i64 x) ∧ w = w'))
    (H2 : Hid (∀ w, Calls Tryd.prog 17 #[.float .f64 B, .float .f64 C] w fun e w' => e = .returned (.int .i64 y) ∧ w = w'))
    (H3 : Hid (∀ w, Calls Tryd.prog 17 #[.float .f64 A, .float .f64 C] w fun e w' => e = .returned (.int .i64 z) ∧ w = w'))
    (H4 : Hid (∀ w, Calls Tryd.prog 17 #[.float .f64 B, .float .f64 A] w fun e w' => e = .returned (.int .i64 (-x)) ∧ w = w'))
    (H5 : Hid (∀ w, Calls Tryd.prog 15 #[.float .f64 A, .float .f64 B] w fun e w' => e = .returned (.bool (decide (x = 0))) ∧ w = w'))
    (hk : (x = 1) ∨ (x = 0 ∧ y = 1) ∨ (x = 0 ∧ y = 0 ∧ z = 0) ∨ (x = 0 ∧ y = -1 ∧ z = -1) ∨ (x = -1 ∧ y = 1) ∨ (x = -1 ∧ y = 0 ∧ z = -1) ∨ (x = -1 ∧ y = -1 ∧ z = -1))
    (p q : Bool) (hp : (ord (cn A) (cn A) == some .eq) = p) (hq : (ord (cn B) (cn B) == some .eq) = q)
    (hp' : (ord (cn A) (cn A) != some .eq) = !p) (hq' : (ord (cn B) (cn B) != some .eq) = !q)
    (hc : (p = true ∧ q = false ∧ x = -1) ∨ (p = true ∧ q = true ∧ x = -1 ∧ (ord (cn A) (cn B) == some .lt) = true) ∨ (p = false ∧ q = false ∧ x = 0) ∨ (p = true ∧ q = true ∧ x = 0) ∨ (p = false ∧ q = true ∧ x = 1) ∨ (p = true ∧ q = true ∧ x = 1)) :
    Calls Tryd.prog 6 #[.int .u64 A, .int .u64 B, .int .u64 C] w fun e w' => e = .returned (.bool true) ∧ Kp w w' := by
  rcases hc with ⟨rfl, rfl, h1⟩ | ⟨rfl, rfl, h1, hl⟩ | ⟨rfl, rfl, h1⟩ | ⟨rfl, rfl, h1⟩ | ⟨rfl, rfl, h1⟩ | ⟨rfl, rfl, h1⟩
  all_goals
    rcases hk with h2 | ⟨h2, h3⟩ | ⟨h2, h3, h4⟩ | ⟨h2, h3, h4⟩ | ⟨h2, h3⟩ | ⟨h2, h3, h4⟩ | ⟨h2, h3, h4⟩
  all_goals first | (exfalso; omega) | skip
  all_goals
    simp only [Bool.not_true, Bool.not_false] at hp' hq'
    clear h2
    subst h1
    first | (subst h3; subst h4) | (subst h3) | skip
    go_enter Tryd.func6, Tryd.ntmps6
    go_wp2_with (first
      | (go_at_call 10; (with_reducible refine (blives_any _).mono ?_); rintro e w0 ⟨rfl, hk0⟩)
      | (go_at_call 11; (with_reducible refine (of_any _ _).mono ?_); rintro e w1 ⟨rfl, rfl⟩)
      | (go_at_call 17; (with_reducible refine (H1.out _).mono ?_); rintro e w1 ⟨rfl, rfl⟩)
      | (go_at_call 17; (with_reducible refine (H2.out _).mono ?_); rintro e w1 ⟨rfl, rfl⟩)
      | (go_at_call 17; (with_reducible refine (H3.out _).mono ?_); rintro e w1 ⟨rfl, rfl⟩)
      | (go_at_call 17; (with_reducible refine (H4.out _).mono ?_); rintro e w1 ⟨rfl, rfl⟩)
      | (go_at_call 15; (with_reducible refine (H5.out _).mono ?_); rintro e w1 ⟨rfl, rfl⟩))
    go_ret
    exact ⟨rfl, hk0⟩
theorem signbit_m0 (w : World) : Calls Tryd.prog 26 #[.float .f64 9223372036854775808] w fun e w' => e = .returned (.bool true) ∧ w = w' := by
  have h : wrap64 9223372036854775808 = -9223372036854775808 := by decide +kernel
  go_enter Tryd.func26, Tryd.ntmps26
  go_wp2_with fail
  go_ret
  exact ⟨rfl, rfl⟩
set_option maxHeartbeats 4000000 in
theorem order_zero (C : Nat) (y z : Int) (w : World)
    (H1 : Hid (∀ w, Calls Tryd.prog 17 #[.float .f64 9223372036854775808, .float .f64 0] w fun e w' => e = .returned (.int .i64 (-1)) ∧ w = w'))
    (H2 : Hid (∀ w, Calls Tryd.prog 17 #[.float .f64 0, .float .f64 C] w fun e w' => e = .returned (.int .i64 y) ∧ w = w'))
    (H3 : Hid (∀ w, Calls Tryd.prog 17 #[.float .f64 9223372036854775808, .float .f64 C] w fun e w' => e = .returned (.int .i64 z) ∧ w = w'))
    (hk : (y = 1) ∨ (y = 0 ∧ z = -1) ∨ (y = -1 ∧ z = -1)) :
    Calls Tryd.prog 6 #[.int .u64 9223372036854775808, .int .u64 0, .int .u64 C] w fun e w' => e = .returned (.bool true) ∧ Kp w w' := by
  have H4 : Hid (∀ w, Calls Tryd.prog 17 #[.float .f64 0, .float .f64 9223372036854775808] w fun e w' => e = .returned (.int .i64 1) ∧ w = w') := Lib.hid fun w => by
    have := bCompare_any 0 9223372036854775808 w (by decide) (by decide)
    rw [show cmpB 0 9223372036854775808 = 1 by decide +kernel] at this
    exact this
  have H5 : Hid (∀ w, Calls Tryd.prog 15 #[.float .f64 9223372036854775808, .float .f64 0] w fun e w' => e = .returned (.bool false) ∧ w = w') := Lib.hid fun w => by
    have := bSame_any 9223372036854775808 0 w
    rw [show decide (cn 9223372036854775808 = cn 0) = false by decide +kernel] at this
    exact this
  have O1 : Hid (∀ w, Calls Tryd.prog 11 #[.int .u64 9223372036854775808] w fun e w' => e = .returned (.float .f64 9223372036854775808) ∧ w = w') := Lib.hid fun w => of_any 9223372036854775808 w
  have O2 : Hid (∀ w, Calls Tryd.prog 11 #[.int .u64 0] w fun e w' => e = .returned (.float .f64 0) ∧ w = w') := Lib.hid fun w => of_any 0 w
  have e0 := cn_0
  have t1 : (ord (cn 9223372036854775808) (cn 9223372036854775808) == some .eq) = true := by decide +kernel
  have t1' : (ord (cn 9223372036854775808) (cn 9223372036854775808) != some .eq) = false := by decide +kernel
  have t2 : (ord 0 0 == some .eq) = true := by decide +kernel
  have t2' : (ord 0 0 != some .eq) = false := by decide +kernel
  have t3 : (ord (cn 9223372036854775808) 0 == some .lt) = false := by decide +kernel
  have t4 : (ord (cn 9223372036854775808) 0 == some .eq) = true := by decide +kernel
  rcases hk with h3 | ⟨h3, h4⟩ | ⟨h3, h4⟩
  all_goals
    first | (subst h3; subst h4) | (subst h3)
    go_enter Tryd.func6, Tryd.ntmps6
    go_wp2_with (first
      | (go_at_call 10; (with_reducible refine (blives_any _).mono ?_); rintro e w0 ⟨rfl, hk0⟩)
      | (go_at_call 11; (with_reducible refine (O1.out _).mono ?_); rintro e w1 ⟨rfl, rfl⟩)
      | (go_at_call 11; (with_reducible refine (O2.out _).mono ?_); rintro e w1 ⟨rfl, rfl⟩)
      | (go_at_call 11; (with_reducible refine (of_any C _).mono ?_); rintro e w1 ⟨rfl, rfl⟩)
      | (go_at_call 17; (with_reducible refine (H1.out _).mono ?_); rintro e w1 ⟨rfl, rfl⟩)
      | (go_at_call 17; (with_reducible refine (H2.out _).mono ?_); rintro e w1 ⟨rfl, rfl⟩)
      | (go_at_call 17; (with_reducible refine (H3.out _).mono ?_); rintro e w1 ⟨rfl, rfl⟩)
      | (go_at_call 17; (with_reducible refine (H4.out _).mono ?_); rintro e w1 ⟨rfl, rfl⟩)
      | (go_at_call 15; (with_reducible refine (H5.out _).mono ?_); rintro e w1 ⟨rfl, rfl⟩)
      | (go_at_call 26; (with_reducible refine (signbit_m0 _).mono ?_); rintro e w1 ⟨rfl, rfl⟩))
    go_ret
    exact ⟨rfl, hk0⟩
theorem walk_BitsOrder (a : Int) (wa : (Lit.int .u64 a).wf = true) (b : Int) (wb : (Lit.int .u64 b).wf = true) (c : Int) (wc : (Lit.int .u64 c).wf = true) (w : World) :
    Calls Tryd.prog 6 #[.int .u64 a, .int .u64 b, .int .u64 c] w fun e w' => e = .returned (.bool true) ∧ Kp w w' := by
  obtain ⟨A, rfl, hA⟩ := wf_u64 wa
  obtain ⟨B, rfl, hB⟩ := wf_u64 wb
  obtain ⟨C, rfl, hC⟩ := wf_u64 wc
  obtain ⟨⟨k1, k2⟩, k3⟩ := order_key A B C hA hB hC
  have X1 := fun w => bCompare_any A B w hA hB
  have X2 := fun w => bCompare_any B C w hB hC
  have X3 := fun w => bCompare_any A C w hA hC
  have X4 := fun w => bCompare_any B A w hB hA
  have X5 := fun w => bSame_any A B w
  rw [k1] at X4
  rw [k2] at X5
  by_cases hz : A = 9223372036854775808 ∧ B = 0
  · obtain ⟨rfl, rfl⟩ := hz
    have hm : cmpB 9223372036854775808 0 = -1 := by decide +kernel
    rw [hm] at X1
    refine order_zero C (cmpB 0 C) (cmpB 9223372036854775808 C) w (Lib.hid X1) (Lib.hid X2) (Lib.hid X3) ?_
    rw [hm] at k3
    omega
  · have hw := words_key A B hA hB
    generalize cmpB A B = x at *
    refine order_walk A B C x (cmpB B C) (cmpB A C) w (Lib.hid X1) (Lib.hid X2) (Lib.hid X3) (Lib.hid X4) (Lib.hid X5) k3 (!isN A) (!isN B) (ord_self A) (ord_self B) (by unfold bne; rw [ord_self]) (by unfold bne; rw [ord_self]) ?_
    rcases hw with ⟨h1, h2, h3⟩ | ⟨h1, h2, h3, h4⟩ | ⟨h1, h2, h3⟩ | ⟨h1, h2, h3⟩ | ⟨h1, h2, h3⟩ | ⟨h1, h2, h3⟩ | ⟨h1, h2, h3⟩
    · rw [h1, h2]; exact .inl ⟨rfl, rfl, h3⟩
    · rw [h1, h2]; exact .inr (.inl ⟨rfl, rfl, h3, h4⟩)
    · exact absurd ⟨h1, h2⟩ hz
    · rw [h1, h2]; exact .inr (.inr (.inl ⟨rfl, rfl, h3⟩))
    · rw [h1, h2]; exact .inr (.inr (.inr (.inl ⟨rfl, rfl, h3⟩)))
    · rw [h1, h2]; exact .inr (.inr (.inr (.inr (.inl ⟨rfl, rfl, h3⟩))))
    · rw [h1, h2]; exact .inr (.inr (.inr (.inr (.inr ⟨rfl, rfl, h3⟩))))
end Go.Proofs.YtabnahkheemnmaaDoor
