/-
  The walk of BitsBack.
-/
import Derived.Test.YtabnahkheemnmaaDoorBTwo
namespace Go.Proofs.YtabnahkheemnmaaDoor
open Go Go.RowKit Go.Fl

set_option maxRecDepth 100000 in
theorem bClass_nan (a : Nat) (w : World) (h : isN a = true) :
    Calls Tryd.prog 21 #[.float .f64 a] w fun e w' => e = .returned (.int .i64 9) ∧ w = w' := by
  have hs := self_no h
  have hs' := nself_no h
  clear h
  go_enter Tryd.func21, Tryd.ntmps21
  go_wp2_with fail
  go_ret
  exact ⟨rfl, rfl⟩
theorem isN_ne {a b : Nat} (h1 : isN a = false) (h2 : isN b = true) : a ≠ b := fun e => by rw [e, h2] at h1; cases h1
set_option maxRecDepth 100000 in
set_option maxHeartbeats 2000000 in
theorem walk_BitsBack (a : Int) (wa : (Lit.int .u64 a).wf = true) (b : Int) (wb : (Lit.int .u64 b).wf = true) (w : World) :
    Calls Tryd.prog 4 #[.int .u64 a, .int .u64 b] w fun e w' => e = .returned (.bool true) ∧ Kp w w' := by
  obtain ⟨A, rfl, hA⟩ := wf_u64 wa
  obtain ⟨B, rfl, hB⟩ := wf_u64 wb
  have X1 := fun w => bBits_any A w
  have X2 := fun w => bBits_any B w
  have X3 := fun w => bSame_any (cn A) A w
  have X4 := fun w => bSame_any A B w
  have X5 := fun w => bSame_any B A w
  have X6 := bClass_nan A
  rw [show decide (cn (cn A) = cn A) = true from decide_eq_true (cn_cn A)] at X3
  have key : (isN A = true ∧ isN B = true) ∨ (isN A = true ∧ isN B = false) ∨ (isN A = false ∧ A = B) ∨ (isN A = false ∧ A ≠ B) := by
    cases isN A <;> cases isN B <;> simp <;> omega
  have HO : Hid (∀ w, Calls Tryd.prog 19 #[.int .u64 9221120237041090560] w fun e w' => e = .returned (.float .f64 9221120237041090560) ∧ w = w') := Lib.hid fun w => bOf_any 9221120237041090560 w
  clear wa wb hA hB
  rcases key with ⟨h1, h2⟩ | ⟨h1, h2⟩ | ⟨h1, h2⟩ | ⟨h1, h2⟩
  · have hs := self_no h1
    have ht := self_no h2
    have hs' := nself_no h1
    have ht' := nself_no h2
    rw [cn_of A h1] at X1 X3 X4 X5
    rw [cn_of B h2] at X2 X4 X5
    have H1 : Hid (∀ w, Calls Tryd.prog 20 #[.float .f64 A] w fun e w' => e = .returned (.int .u64 9221120237041090560) ∧ w = w') := Lib.hid X1
    have H2 : Hid (∀ w, Calls Tryd.prog 20 #[.float .f64 B] w fun e w' => e = .returned (.int .u64 9221120237041090560) ∧ w = w') := Lib.hid X2
    have H3 : Hid (∀ w, Calls Tryd.prog 15 #[.float .f64 9221120237041090560, .float .f64 A] w fun e w' => e = .returned (.bool true) ∧ w = w') := Lib.hid X3
    have H4 : Hid (∀ w, Calls Tryd.prog 15 #[.float .f64 A, .float .f64 B] w fun e w' => e = .returned (.bool true) ∧ w = w') := Lib.hid X4
    have H5 : Hid (∀ w, Calls Tryd.prog 15 #[.float .f64 B, .float .f64 A] w fun e w' => e = .returned (.bool true) ∧ w = w') := Lib.hid X5
    have H6 : Hid (∀ w, Calls Tryd.prog 21 #[.float .f64 A] w fun e w' => e = .returned (.int .i64 9) ∧ w = w') := Lib.hid fun w => X6 w h1
    clear X1 X2 X3 X4 X5 X6 h1 h2
    go_enter Tryd.func4, Tryd.ntmps4
    go_wp2_with (first
      | (go_at_call 10; (with_reducible refine (blives_any _).mono ?_); rintro e w0 ⟨rfl, hk0⟩)
      | (go_at_call 11; (with_reducible refine (of_any _ _).mono ?_); rintro e w1 ⟨rfl, rfl⟩)
      | (go_at_call 19; (with_reducible refine (HO.out _).mono ?_); rintro e w1 ⟨rfl, rfl⟩)
      | (go_at_call 20; (with_reducible refine (H1.out _).mono ?_); rintro e w1 ⟨rfl, rfl⟩)
      | (go_at_call 20; (with_reducible refine (H2.out _).mono ?_); rintro e w1 ⟨rfl, rfl⟩)
      | (go_at_call 15; (with_reducible refine (H3.out _).mono ?_); rintro e w1 ⟨rfl, rfl⟩)
      | (go_at_call 15; (with_reducible refine (H4.out _).mono ?_); rintro e w1 ⟨rfl, rfl⟩)
      | (go_at_call 15; (with_reducible refine (H5.out _).mono ?_); rintro e w1 ⟨rfl, rfl⟩)
      | (go_at_call 21; (with_reducible refine (H6.out _).mono ?_); rintro e w1 ⟨rfl, rfl⟩))
    go_ret
    exact ⟨rfl, hk0⟩
  · have hs := self_no h1
    have ht := self_yes h2
    have hs' := nself_no h1
    have ht' := nself_yes h2
    have hne : NAN ≠ B := fun e => by rw [← e, isN_NAN] at h2; cases h2
    rw [cn_of A h1] at X1 X3 X4 X5
    rw [cn_of_not B h2] at X2 X4 X5
    rw [show decide (NAN = B) = false from decide_eq_false hne] at X4
    rw [show decide (B = NAN) = false from decide_eq_false hne.symm] at X5
    have d1 : ((9221120237041090560 : Int) == (B : Int)) = false := by rw [beq_eq_false_iff_ne]; intro e; exact hne (Int.ofNat_inj.1 e)
    have H1 : Hid (∀ w, Calls Tryd.prog 20 #[.float .f64 A] w fun e w' => e = .returned (.int .u64 9221120237041090560) ∧ w = w') := Lib.hid X1
    have H2 : Hid (∀ w, Calls Tryd.prog 20 #[.float .f64 B] w fun e w' => e = .returned (.int .u64 B) ∧ w = w') := Lib.hid X2
    have H3 : Hid (∀ w, Calls Tryd.prog 15 #[.float .f64 9221120237041090560, .float .f64 A] w fun e w' => e = .returned (.bool true) ∧ w = w') := Lib.hid X3
    have H4 : Hid (∀ w, Calls Tryd.prog 15 #[.float .f64 A, .float .f64 B] w fun e w' => e = .returned (.bool false) ∧ w = w') := Lib.hid X4
    have H5 : Hid (∀ w, Calls Tryd.prog 15 #[.float .f64 B, .float .f64 A] w fun e w' => e = .returned (.bool false) ∧ w = w') := Lib.hid X5
    have H6 : Hid (∀ w, Calls Tryd.prog 21 #[.float .f64 A] w fun e w' => e = .returned (.int .i64 9) ∧ w = w') := Lib.hid fun w => X6 w h1
    clear X1 X2 X3 X4 X5 X6 h1 h2 hne
    go_enter Tryd.func4, Tryd.ntmps4
    go_wp2_with (first
      | (go_at_call 10; (with_reducible refine (blives_any _).mono ?_); rintro e w0 ⟨rfl, hk0⟩)
      | (go_at_call 11; (with_reducible refine (of_any _ _).mono ?_); rintro e w1 ⟨rfl, rfl⟩)
      | (go_at_call 19; (with_reducible refine (HO.out _).mono ?_); rintro e w1 ⟨rfl, rfl⟩)
      | (go_at_call 20; (with_reducible refine (H1.out _).mono ?_); rintro e w1 ⟨rfl, rfl⟩)
      | (go_at_call 20; (with_reducible refine (H2.out _).mono ?_); rintro e w1 ⟨rfl, rfl⟩)
      | (go_at_call 15; (with_reducible refine (H3.out _).mono ?_); rintro e w1 ⟨rfl, rfl⟩)
      | (go_at_call 15; (with_reducible refine (H4.out _).mono ?_); rintro e w1 ⟨rfl, rfl⟩)
      | (go_at_call 15; (with_reducible refine (H5.out _).mono ?_); rintro e w1 ⟨rfl, rfl⟩)
      | (go_at_call 21; (with_reducible refine (H6.out _).mono ?_); rintro e w1 ⟨rfl, rfl⟩))
    go_ret
    exact ⟨rfl, hk0⟩
  · subst h2
    have hs := self_yes h1
    have hs' := nself_yes h1
    rw [cn_of_not A h1] at X1 X3 X4
    rw [show decide (A = A) = true from decide_eq_true rfl] at X4
    have H1 : Hid (∀ w, Calls Tryd.prog 20 #[.float .f64 A] w fun e w' => e = .returned (.int .u64 A) ∧ w = w') := Lib.hid X1
    have H4 : Hid (∀ w, Calls Tryd.prog 15 #[.float .f64 A, .float .f64 A] w fun e w' => e = .returned (.bool true) ∧ w = w') := Lib.hid X4
    clear X1 X2 X3 X4 X5 X6 h1
    go_enter Tryd.func4, Tryd.ntmps4
    go_wp2_with (first
      | (go_at_call 10; (with_reducible refine (blives_any _).mono ?_); rintro e w0 ⟨rfl, hk0⟩)
      | (go_at_call 11; (with_reducible refine (of_any _ _).mono ?_); rintro e w1 ⟨rfl, rfl⟩)
      | (go_at_call 19; (with_reducible refine (bOf_any _ _).mono ?_); rintro e w1 ⟨rfl, rfl⟩)
      | (go_at_call 20; (with_reducible refine (H1.out _).mono ?_); rintro e w1 ⟨rfl, rfl⟩)
      | (go_at_call 15; (with_reducible refine (H4.out _).mono ?_); rintro e w1 ⟨rfl, rfl⟩))
    go_ret
    exact ⟨rfl, hk0⟩
  · have hs := self_yes h1
    have hs' := nself_yes h1
    have hne : A ≠ cn B := by
      cases hh : isN B with
      | false => rw [cn_of_not B hh]; exact h2
      | true => rw [cn_of B hh]; exact isN_ne h1 isN_NAN
    rw [cn_of_not A h1] at X1 X3 X4 X5
    rw [show decide (A = cn B) = false from decide_eq_false hne] at X4
    rw [show decide (cn B = A) = false from decide_eq_false hne.symm] at X5
    obtain ⟨C, hC⟩ : ∃ C, cn B = C := ⟨_, rfl⟩
    rw [hC] at X2 hne
    have d1 : ((A : Int) == (C : Int)) = false := by rw [beq_eq_false_iff_ne]; intro e; exact hne (Int.ofNat_inj.1 e)
    have d2 : ((A : Int) == (B : Int)) = false := by rw [beq_eq_false_iff_ne]; intro e; exact h2 (Int.ofNat_inj.1 e)
    have H1 : Hid (∀ w, Calls Tryd.prog 20 #[.float .f64 A] w fun e w' => e = .returned (.int .u64 A) ∧ w = w') := Lib.hid X1
    have H2 : Hid (∀ w, Calls Tryd.prog 20 #[.float .f64 B] w fun e w' => e = .returned (.int .u64 C) ∧ w = w') := Lib.hid X2
    have H3 : Hid (∀ w, Calls Tryd.prog 15 #[.float .f64 A, .float .f64 A] w fun e w' => e = .returned (.bool true) ∧ w = w') := Lib.hid X3
    have H4 : Hid (∀ w, Calls Tryd.prog 15 #[.float .f64 A, .float .f64 B] w fun e w' => e = .returned (.bool false) ∧ w = w') := Lib.hid X4
    have H5 : Hid (∀ w, Calls Tryd.prog 15 #[.float .f64 B, .float .f64 A] w fun e w' => e = .returned (.bool false) ∧ w = w') := Lib.hid X5
    clear X1 X2 X3 X4 X5 X6 h1 hC
    go_enter Tryd.func4, Tryd.ntmps4
    go_wp2_with (first
      | (go_at_call 10; (with_reducible refine (blives_any _).mono ?_); rintro e w0 ⟨rfl, hk0⟩)
      | (go_at_call 11; (with_reducible refine (of_any _ _).mono ?_); rintro e w1 ⟨rfl, rfl⟩)
      | (go_at_call 19; (with_reducible refine (bOf_any _ _).mono ?_); rintro e w1 ⟨rfl, rfl⟩)
      | (go_at_call 20; (with_reducible refine (H1.out _).mono ?_); rintro e w1 ⟨rfl, rfl⟩)
      | (go_at_call 20; (with_reducible refine (H2.out _).mono ?_); rintro e w1 ⟨rfl, rfl⟩)
      | (go_at_call 15; (with_reducible refine (H3.out _).mono ?_); rintro e w1 ⟨rfl, rfl⟩)
      | (go_at_call 15; (with_reducible refine (H4.out _).mono ?_); rintro e w1 ⟨rfl, rfl⟩)
      | (go_at_call 15; (with_reducible refine (H5.out _).mono ?_); rintro e w1 ⟨rfl, rfl⟩))
    go_ret
    exact ⟨rfl, hk0⟩
end Go.Proofs.YtabnahkheemnmaaDoor
