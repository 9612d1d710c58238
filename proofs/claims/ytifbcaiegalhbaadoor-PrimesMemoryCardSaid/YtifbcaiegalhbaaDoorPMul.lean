/-
  The walks of Mul and Pow, and of the references' own.
-/
import Derived.Test.YtifbcaiegalhbaaDoorPRem
namespace Go.Proofs.YtifbcaiegalhbaaDoor
open Go Go.RowKit Go.Fl Go.Pr

theorem mulmod (a b m : Int) : ((a % m) * (b % m) / 18446744073709551616 * 18446744073709551616 + (a % m) * (b % m) % 18446744073709551616) % m = a * b % m := by
  rw [Int.ediv_mul_add_emod, ← Int.mul_emod]
theorem Mul64_any (x y : Int) (w : World) (h0 : 0 ≤ x) (h1 : x < 18446744073709551616) (h2 : 0 ≤ y) (h3 : y < 18446744073709551616) :
    Calls Tryd.prog 22 #[.int .u64 x, .int .u64 y] w fun e w' => e = .returned (.tuple #[.int .u64 (x * y / 18446744073709551616), .int .u64 (x * y % 18446744073709551616)]) ∧ w' = w := by
  obtain ⟨x, rfl⟩ := Int.eq_ofNat_of_zero_le h0
  obtain ⟨y, rfl⟩ := Int.eq_ofNat_of_zero_le h2
  have := Tryd.bits_Mul64 x y (by omega) (by omega) w
  simpa using this
theorem hi_lt {x y : Int} (h0 : 0 ≤ x) (h1 : x < 18446744073709551616) (h2 : 0 ≤ y) (h3 : y < 18446744073709551616) : 0 ≤ x * y / 18446744073709551616 ∧ x * y / 18446744073709551616 < 18446744073709551616 := by
  have h4 := Int.mul_nonneg h0 h2
  have h5 : x * y ≤ 18446744073709551615 * 18446744073709551615 := Int.mul_le_mul (by omega) (by omega) h2 (by omega)
  omega

set_option maxHeartbeats 1000000 in
theorem Mul_any (a b m : Int) (w : World) (h1 : 0 ≤ a) (h2 : a ≤ 18446744073709551615) (h3 : 0 ≤ b) (h4 : b ≤ 18446744073709551615) (h5 : 0 < m) (h6 : m ≤ 18446744073709551615) :
    Calls Tryd.prog 17 #[.int .u64 a, .int .u64 b, .int .u64 m] w fun e w' => e = .returned (.int .u64 (a * b % m)) ∧ Dr w w' := by
  have a1 := Int.emod_nonneg a (show m ≠ 0 by omega)
  have a2 := Int.emod_lt_of_pos a h5
  have b1 := Int.emod_nonneg b (show m ≠ 0 by omega)
  have b2 := Int.emod_lt_of_pos b h5
  have hh := hi_lt a1 (by omega) b1 (by omega)
  have hl := Int.emod_nonneg ((a % m) * (b % m)) (show (18446744073709551616 : Int) ≠ 0 by omega)
  have hl2 := Int.emod_lt_of_pos ((a % m) * (b % m)) (show (0 : Int) < 18446744073709551616 by omega)
  have c := fun w' => Mul64_any (a % m) (b % m) w' a1 (by omega) b1 (by omega)
  have HH := Lib.hid (And.intro hh (And.intro hl hl2))
  have d := fun w' => Rem64_any (a % m * (b % m) / 18446744073709551616) (a % m * (b % m) % 18446744073709551616) m w' HH.out.1.1 HH.out.1.2 h5 (by omega) HH.out.2.1 HH.out.2.2
  have C := Lib.hid c
  have D := Lib.hid d
  have d1 : (m == 0) = false := by rw [beq_eq_false_iff_ne]; omega
  clear a1 a2 b1 b2 hh hl hl2 c d HH
  go_enter Tryd.func17, Tryd.ntmps17
  go_wp2_with fail
  go_quiet ((go_at_call 22; exact Calls.quiet_of_same (C.out _)))
  go_wp2_with (go_at_call 23; (with_reducible refine (D.out _).mono ?_); rintro e w1 ⟨rfl, hk⟩)
  go_ret
  exact ⟨ret_u (mulmod a b m), ((Dr.refl w).drewN nq).trans hk⟩
set_option maxHeartbeats 1000000 in
theorem rMul_any (a b m : Int) (w : World) (h1 : 0 ≤ a) (h2 : a ≤ 18446744073709551615) (h3 : 0 ≤ b) (h4 : b ≤ 18446744073709551615) (h5 : 0 < m) (h6 : m ≤ 18446744073709551615) :
    Calls Tryd.prog 18 #[.int .u64 a, .int .u64 b, .int .u64 m] w fun e w' => e = .returned (.int .u64 (a * b % m)) ∧ Dr w w' := by
  have a1 := Int.emod_nonneg a (show m ≠ 0 by omega)
  have a2 := Int.emod_lt_of_pos a h5
  have b1 := Int.emod_nonneg b (show m ≠ 0 by omega)
  have b2 := Int.emod_lt_of_pos b h5
  have hh := hi_lt a1 (by omega) b1 (by omega)
  have hl := Int.emod_nonneg ((a % m) * (b % m)) (show (18446744073709551616 : Int) ≠ 0 by omega)
  have hl2 := Int.emod_lt_of_pos ((a % m) * (b % m)) (show (0 : Int) < 18446744073709551616 by omega)
  have c := fun w' => Mul64_any (a % m) (b % m) w' a1 (by omega) b1 (by omega)
  have HH := Lib.hid (And.intro hh (And.intro hl hl2))
  have d := fun w' => Rem64_any (a % m * (b % m) / 18446744073709551616) (a % m * (b % m) % 18446744073709551616) m w' HH.out.1.1 HH.out.1.2 h5 (by omega) HH.out.2.1 HH.out.2.2
  have C := Lib.hid c
  have D := Lib.hid d
  have d1 : (m == 0) = false := by rw [beq_eq_false_iff_ne]; omega
  clear a1 a2 b1 b2 hh hl hl2 c d HH
  go_enter Tryd.func18, Tryd.ntmps18
  go_wp2_with fail
  go_quiet ((go_at_call 22; exact Calls.quiet_of_same (C.out _)))
  go_wp2_with (go_at_call 23; (with_reducible refine (D.out _).mono ?_); rintro e w1 ⟨rfl, hk⟩)
  go_ret
  exact ⟨ret_u (mulmod a b m), ((Dr.refl w).drewN nq).trans hk⟩
theorem Mul_zero (a b : Int) (w : World) : Calls Tryd.prog 17 #[.int .u64 a, .int .u64 b, .int .u64 0] w fun e w' => e = .returned (.int .u64 0) ∧ Dr w w' := by
  go_enter Tryd.func17, Tryd.ntmps17
  go_wp2_with fail
  go_ret
  exact ⟨rfl, Dr.refl w⟩
theorem rMul_zero (a b : Int) (w : World) : Calls Tryd.prog 18 #[.int .u64 a, .int .u64 b, .int .u64 0] w fun e w' => e = .returned (.int .u64 0) ∧ Dr w w' := by
  go_enter Tryd.func18, Tryd.ntmps18
  go_wp2_with fail
  go_ret
  exact ⟨rfl, Dr.refl w⟩
theorem Pow_zero (a b : Int) (w : World) : Calls Tryd.prog 19 #[.int .u64 a, .int .u64 b, .int .u64 0] w fun e w' => e = .returned (.int .u64 0) ∧ Dr w w' := by
  go_enter Tryd.func19, Tryd.ntmps19
  go_wp2_with fail
  go_ret
  exact ⟨rfl, Dr.refl w⟩
theorem rPow_zero (a b : Int) (w : World) : Calls Tryd.prog 20 #[.int .u64 a, .int .u64 b, .int .u64 0] w fun e w' => e = .returned (.int .u64 0) ∧ Dr w w' := by
  go_enter Tryd.func20, Tryd.ntmps20
  go_wp2_with fail
  go_ret
  exact ⟨rfl, Dr.refl w⟩

theorem and_one (k : Nat) (h : k < 18446744073709551616) : bits .and .u64 (k : Int) 1 = ((k % 2 : Nat) : Int) := by
  have := bits_and_u64_nat k 1 h (by omega)
  rw [Nat.and_one_is_mod] at this
  exact this
theorem emod_in {a m : Int} (h : 0 < m) : 0 ≤ a % m ∧ a % m < m := ⟨Int.emod_nonneg a (by omega), Int.emod_lt_of_pos a h⟩
theorem mul_cast (a b m : Nat) : (a : Int) * (b : Int) % (m : Int) = ((a * b % m : Nat) : Int) := by simp
theorem pow_step0 (o x k m : Nat) (h : k % 2 = 0) : o * (x * x % m) ^ (k / 2) % m = o * x ^ k % m := by
  have e : k = 2 * (k / 2) := by omega
  conv => rhs; rw [e, Nat.pow_mul, Nat.pow_two]
  rw [Nat.mul_mod, ← Nat.pow_mod, ← Nat.mul_mod]
theorem pow_step1 (o x k m : Nat) (h : k % 2 = 1) : (o * x % m) * (x * x % m) ^ (k / 2) % m = o * x ^ k % m := by
  have e : k = 2 * (k / 2) + 1 := by omega
  conv => rhs; rw [e, Nat.pow_succ, Nat.pow_mul, Nat.pow_two]
  rw [Nat.mul_mod, Nat.mod_mod, ← Nat.pow_mod, ← Nat.mul_mod, Nat.mul_right_comm, Nat.mul_assoc]
set_option maxHeartbeats 1000000 in
theorem Pow_nat (A E m : Nat) (w : World) (h2 : A ≤ 18446744073709551615) (h4 : E ≤ 18446744073709551615) (h5 : 0 < m) (h6 : m ≤ 18446744073709551615) :
    Calls Tryd.prog 19 #[.int .u64 A, .int .u64 E, .int .u64 m] w fun e w' => e = .returned (.int .u64 ((A ^ E % m : Nat) : Int)) ∧ Dr w w' := by
  have d1 : ((m : Int) == 0) = false := by rw [beq_eq_false_iff_ne]; omega
  go_enter Tryd.func19, Tryd.ntmps19
  go_wp2_with fail
  go_loopw [0, 1, 7] (fun x y z wr => ∃ p k o : Nat, x = .int .u64 p ∧ y = .int .u64 k ∧ z = .int .u64 o ∧ p ≤ 18446744073709551615 ∧ k ≤ 18446744073709551615 ∧ o < m ∧ Hid (o * p ^ k % m = A ^ E % m) ∧ Dr w wr) (fun _ y _ _ => (intOf y).toNat)
  case atStart => exact ⟨A, E, 1 % m, rfl, rfl, by simp, h2, h4, Nat.mod_lt _ h5, Lib.hid (by rw [Nat.mod_mul_mod, Nat.one_mul]), Dr.refl w⟩
  case round =>
    obtain ⟨p, k, o, rfl, rfl, rfl, hp, hk4, ho, HG, hk⟩ := hrel
    rcases Nat.eq_zero_or_pos k with rfl | hk0
    · go_wp2_with fail
      go_ret
      exact ⟨ret_u (by rw [← HG.out, Nat.pow_zero, Nat.mul_one, Nat.mod_eq_of_lt ho]), hk⟩
    · rcases Nat.mod_two_eq_zero_or_one k with hpar | hpar
      · have e1 := and_one k (by omega)
        rw [hpar] at e1
        have HP := Lib.hid hpar
        clear hpar
        go_wp2_with (go_at_call 17; (with_reducible refine (Mul_any _ _ _ _ (by omega) (by omega) (by omega) (by omega) (by omega) (by omega)).mono ?_); rintro e w1 ⟨rfl, hd1⟩; have hk' := hk.trans hd1)
        go_roundw
        case rel => exact ⟨p * p % m, k / 2, o, by simp, by simp, rfl, by have := Nat.mod_lt (p * p) h5; omega, by omega, ho, Lib.hid ((pow_step0 o p k m HP.out).trans HG.out), hk'⟩
        case measure => simp [intOf]; omega
      · have e1 := and_one k (by omega)
        rw [hpar] at e1
        have HP := Lib.hid hpar
        clear hpar
        go_wp2_with (first
          | (go_at_call 17; (with_reducible refine (Mul_any (o : Int) (p : Int) (m : Int) _ (by omega) (by omega) (by omega) (by omega) (by omega) (by omega)).mono ?_); rintro e w1 ⟨rfl, hd1⟩)
          | (go_at_call 17; (with_reducible refine (Mul_any (p : Int) (p : Int) (m : Int) _ (by omega) (by omega) (by omega) (by omega) (by omega) (by omega)).mono ?_); rintro e w2 ⟨rfl, hd2⟩))
        go_roundw
        case rel => exact ⟨p * p % m, k / 2, o * p % m, by simp, by simp, by simp, by have := Nat.mod_lt (p * p) h5; omega, by omega, Nat.mod_lt _ h5, Lib.hid ((pow_step1 o p k m HP.out).trans HG.out), (hk.trans hd1).trans hd2⟩
        case measure => simp [intOf]; omega
theorem Pow_any (a e m : Int) (w : World) (h1 : 0 ≤ a) (h2 : a ≤ 18446744073709551615) (h3 : 0 ≤ e) (h4 : e ≤ 18446744073709551615) (h5 : 0 < m) (h6 : m ≤ 18446744073709551615) :
    Calls Tryd.prog 19 #[.int .u64 a, .int .u64 e, .int .u64 m] w fun x w' => x = .returned (.int .u64 (a ^ e.toNat % m)) ∧ Dr w w' := by
  obtain ⟨a, rfl⟩ := Int.eq_ofNat_of_zero_le h1
  obtain ⟨e, rfl⟩ := Int.eq_ofNat_of_zero_le h3
  obtain ⟨m, rfl⟩ := Int.eq_ofNat_of_zero_le (show 0 ≤ m by omega)
  refine (Pow_nat a e m w (by omega) (by omega) (by omega) (by omega)).mono ?_
  rintro x w' ⟨rfl, hk⟩
  exact ⟨ret_u (by simp), hk⟩
theorem half_bit (E j : Nat) : E / 2 ^ j = 2 * (E / 2 ^ (j + 1)) + E / 2 ^ j % 2 := by
  have : E / 2 ^ (j + 1) = E / 2 ^ j / 2 := by rw [Nat.pow_succ, Nat.div_div_eq_div_mul]
  omega
theorem sq_mod (A k m : Nat) : (A ^ k % m) * (A ^ k % m) % m = A ^ (2 * k) % m := by
  rw [← Nat.mul_mod, ← Nat.pow_add]; congr 2; omega
set_option maxHeartbeats 1000000 in
theorem rPow_nat (A E m : Nat) (w : World) (h2 : A ≤ 18446744073709551615) (h4 : E ≤ 18446744073709551615) (h5 : 0 < m) (h6 : m ≤ 18446744073709551615) :
    Calls Tryd.prog 20 #[.int .u64 A, .int .u64 E, .int .u64 m] w fun e w' => e = .returned (.int .u64 ((A ^ E % m : Nat) : Int)) ∧ Dr w w' := by
  have d1 : ((m : Int) == 0) = false := by rw [beq_eq_false_iff_ne]; omega
  go_enter Tryd.func20, Tryd.ntmps20
  go_wp2_with fail
  go_loopw [7, 8] (fun z y wr => ∃ j o : Nat, y = .int .i64 ((j : Int) - 1) ∧ z = .int .u64 o ∧ j ≤ 64 ∧ o < m ∧ Hid (o = A ^ (E / 2 ^ j) % m) ∧ Dr w wr) (fun _ y _ => (intOf y + 1).toNat)
  case atStart => exact ⟨64, 1 % m, rfl, by simp, by omega, Nat.mod_lt _ h5, Lib.hid (by rw [Nat.div_eq_of_lt (by omega), Nat.pow_zero]), Dr.refl w⟩
  case round =>
    obtain ⟨j, o, rfl, rfl, hj, ho, HG, hk⟩ := hrel
    cases j with
    | zero =>
      go_wp2_with fail
      go_ret
      exact ⟨ret_u (by rw [HG.out, Nat.pow_zero, Nat.div_one]), hk⟩
    | succ j =>
      have e0 : ((j + 1 : Nat) : Int) - 1 = (j : Int) := by omega
      have HB := Lib.hid (half_bit E j)
      obtain ⟨F, hF⟩ : ∃ F, E / 2 ^ j = F := ⟨_, rfl⟩
      have e2 : (E : Int) / 2 ^ j = (F : Int) := by rw [← hF, Int.natCast_ediv, Int.natCast_pow]; rfl
      have hFb : F ≤ 18446744073709551615 := by rw [← hF]; exact Nat.le_trans (Nat.div_le_self _ _) h4
      have HF := Lib.hid hF
      clear hF
      have e1 := and_one F (by omega)
      rcases Nat.mod_two_eq_zero_or_one F with hpar | hpar
      · rw [hpar] at e1
        have HN : Hid (o * o % m = A ^ (E / 2 ^ j) % m) := Lib.hid (by rw [HG.out, sq_mod]; congr 2; have := HB.out; rw [HF.out] at *; omega)
        clear hpar
        rw [e0]
        go_wp2_with (go_at_call 18; (with_reducible refine (rMul_any _ _ _ _ (by omega) (by omega) (by omega) (by omega) (by omega) (by omega)).mono ?_); rintro e w1 ⟨rfl, hd1⟩; have hk' := hk.trans hd1)
        go_roundw
        case rel => exact ⟨j, o * o % m, by go_num, by simp, by omega, Nat.mod_lt _ h5, HN, hk'⟩
        case measure => simp [intOf]
      · rw [hpar] at e1
        have HN : Hid (o * o % m * A % m = A ^ (E / 2 ^ j) % m) := Lib.hid (by
          rw [HG.out, sq_mod, Nat.mod_mul_mod, ← Nat.pow_succ]; congr 2; have := HB.out; rw [HF.out] at *; omega)
        clear hpar
        rw [e0]
        have hoo := emod_in (a := (o : Int) * o) (m := (m : Int)) (by omega)
        go_wp2_with (first
          | (go_at_call 18; (with_reducible refine (rMul_any (o : Int) (o : Int) (m : Int) _ (by omega) (by omega) (by omega) (by omega) (by omega) (by omega)).mono ?_); rintro e w1 ⟨rfl, hd1⟩)
          | (go_at_call 18; (with_reducible refine (rMul_any ((o : Int) * (o : Int) % (m : Int)) (A : Int) (m : Int) _ (by omega) (by omega) (by omega) (by omega) (by omega) (by omega)).mono ?_); rintro e w2 ⟨rfl, hd2⟩))
        go_roundw
        case rel => exact ⟨j, o * o % m * A % m, by go_num, by rw [Int.natCast_emod, Int.natCast_mul, Int.natCast_emod, Int.natCast_mul], by omega, Nat.mod_lt _ h5, HN, (hk.trans hd1).trans hd2⟩
        case measure => simp [intOf]
theorem rPow_any (a e m : Int) (w : World) (h1 : 0 ≤ a) (h2 : a ≤ 18446744073709551615) (h3 : 0 ≤ e) (h4 : e ≤ 18446744073709551615) (h5 : 0 < m) (h6 : m ≤ 18446744073709551615) :
    Calls Tryd.prog 20 #[.int .u64 a, .int .u64 e, .int .u64 m] w fun x w' => x = .returned (.int .u64 (a ^ e.toNat % m)) ∧ Dr w w' := by
  obtain ⟨a, rfl⟩ := Int.eq_ofNat_of_zero_le h1
  obtain ⟨e, rfl⟩ := Int.eq_ofNat_of_zero_le h3
  obtain ⟨m, rfl⟩ := Int.eq_ofNat_of_zero_le (show 0 ≤ m by omega)
  refine (rPow_nat a e m w (by omega) (by omega) (by omega) (by omega)).mono ?_
  rintro x w' ⟨rfl, hk⟩
  exact ⟨ret_u (by simp), hk⟩
end Go.Proofs.YtifbcaiegalhbaaDoor
