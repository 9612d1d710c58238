/-
  The walks of Join, and of the reference's own.
-/
import Derived.Test.YtifbcaiegalhbaaDoorPInv
namespace Go.Proofs.YtifbcaiegalhbaaDoor
open Go Go.RowKit Go.Fl Go.Pr

def joinN (a m b n : Nat) : Nat := a % m + m * (less (b % n) (a % m % n) n * invN m n % n)
theorem joinN_lt {a m b n : Nat} (hm : 0 < m) (hn : 0 < n) : joinN a m b n < m * n := by
  unfold joinN
  have h1 := Nat.mod_lt a hm
  have h2 := Nat.mod_lt (less (b % n) (a % m % n) n * invN m n) hn
  generalize less (b % n) (a % m % n) n * invN m n % n = k at *
  have := Nat.mul_le_mul_left m (show k + 1 ≤ n from h2)
  rw [Nat.mul_add] at this
  omega
/-- What stands in the last sum. -/
theorem join_setup (a m b n : Nat) (hm : 0 < m) (hn : 0 < n) (h6 : m ≤ 18446744073709551615) (h7 : n ≤ 18446744073709551615) (hmn : m * n < 18446744073709551616) :
    ∃ X B Y L K P J v : Nat, (a : Int) % (m : Int) = (X : Int) ∧ (b : Int) % (n : Int) = (B : Int) ∧ (X : Int) % (n : Int) = (Y : Int) ∧ IntKind.u64.wrap ((m : Int) * (K : Int)) = (P : Int) ∧ IntKind.u64.wrap ((X : Int) + (P : Int)) = (J : Int) ∧
      Hid (lessI B Y n = (L : Int) ∧ (L : Int) * (v : Int) % (n : Int) = (K : Int) ∧ B < n ∧ Y < n ∧ L < n ∧ v < n ∧ v = invN m n ∧ J = joinN a m b n) := by
  have h1 := joinN_lt (a := a) (b := b) hm hn
  have hB := Nat.mod_lt b hn
  have hY := Nat.mod_lt (a % m) hn
  have hX := Nat.mod_lt a hm
  refine ⟨a % m, b % n, a % m % n, less (b % n) (a % m % n) n, less (b % n) (a % m % n) n * invN m n % n, m * (less (b % n) (a % m % n) n * invN m n % n), joinN a m b n, invN m n, by simp, by simp, by simp, ?_, ?_, Lib.hid ⟨lessI_nat (by omega), by simp, hB, hY, less_lt hB, inv_snd_lt hn, rfl, rfl⟩⟩
  · rw [← Int.natCast_mul, wrapN]
    unfold joinN at h1; omega
  · rw [← Int.natCast_add, wrapN]
    · rfl
    · unfold joinN at h1; omega
set_option maxHeartbeats 1000000 in
theorem Join_zero (a m b n : Int) (aE : Addr) (w : World) (hE : errAt w 1 aE) (h : m = 0 ∨ n = 0) :
    Calls Tryd.prog 14 #[.int .u64 a, .int .u64 m, .int .u64 b, .int .u64 n] w fun e w' => e = .returned (.tuple #[.int .u64 0, errR aE]) ∧ Dr w w' := by
  unfold errAt at hE
  by_cases h0 : m = 0
  · subst h0
    clear h
    go_enter Tryd.func14, Tryd.ntmps14
    go_wp2_with fail
    go_quiet (fail)
    go_wp2_with fail
    go_ret2
    exact ⟨rfl, (Dr.refl w).drewN nq⟩
  · obtain rfl : n = 0 := h.resolve_left h0
    have d1 : (m == 0) = false := by rw [beq_eq_false_iff_ne]; exact h0
    clear h h0
    go_enter Tryd.func14, Tryd.ntmps14
    go_wp2_with fail
    go_quiet (fail)
    go_wp2_with fail
    go_ret2
    exact ⟨rfl, (Dr.refl w).drewN nq⟩
theorem Mul64_parts (m n : Nat) (w : World) (h6 : m ≤ 18446744073709551615) (h7 : n ≤ 18446744073709551615) :
    Calls Tryd.prog 22 #[.int .u64 m, .int .u64 n] w fun e w' => e = .returned (.tuple #[.int .u64 ((m * n / 18446744073709551616 : Nat) : Int), .int .u64 ((m * n % 18446744073709551616 : Nat) : Int)]) ∧ w' = w :=
  Tryd.bits_Mul64 m n (by omega) (by omega) w
set_option maxHeartbeats 1000000 in
theorem Join_big (a b : Int) (m n : Nat) (aE : Addr) (w : World) (hE : errAt w 1 aE) (hm : 0 < m) (hn : 0 < n) (h6 : m ≤ 18446744073709551615) (h7 : n ≤ 18446744073709551615) (h : 18446744073709551616 ≤ m * n) :
    Calls Tryd.prog 14 #[.int .u64 a, .int .u64 m, .int .u64 b, .int .u64 n] w fun e w' => e = .returned (.tuple #[.int .u64 0, errR aE]) ∧ Dr w w' := by
  unfold errAt at hE
  have d1 : ((m : Int) == 0) = false := by rw [beq_eq_false_iff_ne]; omega
  have d2 : ((n : Int) == 0) = false := by rw [beq_eq_false_iff_ne]; omega
  have hc := fun w' => Mul64_parts m n w' h6 h7
  have hh : 0 < m * n / 18446744073709551616 := Nat.div_pos h (by omega)
  generalize m * n / 18446744073709551616 = H at *
  generalize m * n % 18446744073709551616 = L at *
  have HC := Lib.hid hc
  clear h hc
  go_enter Tryd.func14, Tryd.ntmps14
  go_wp2_with (go_at_call 22; (with_reducible refine (HC.out _).mono ?_); rintro e w1 ⟨rfl, rfl⟩)
  go_quiet (fail)
  go_wp2_with fail
  go_ret2
  exact ⟨rfl, (Dr.refl _).drewN nq⟩
set_option maxHeartbeats 1000000 in
theorem Join_no (a b : Int) (m n : Nat) (aE : Addr) (w : World) (hE : errAt w 0 aE) (hm : 0 < m) (hn : 0 < n) (h6 : m ≤ 18446744073709551615) (h7 : n ≤ 18446744073709551615) (h : m * n < 18446744073709551616) (hg : Nat.gcd n m ≠ 1) :
    Calls Tryd.prog 14 #[.int .u64 a, .int .u64 m, .int .u64 b, .int .u64 n] w fun e w' => e = .returned (.tuple #[.int .u64 0, errR aE]) ∧ Dr w w' := by
  have d1 : ((m : Int) == 0) = false := by rw [beq_eq_false_iff_ne]; omega
  have d2 : ((n : Int) == 0) = false := by rw [beq_eq_false_iff_ne]; omega
  have hc := fun w' => Mul64_parts m n w' h6 h7
  have hh : m * n / 18446744073709551616 = 0 := Nat.div_eq_of_lt h
  rw [hh] at hc
  generalize m * n % 18446744073709551616 = L at *
  have HC := Lib.hid hc
  have hI := Inverse_no m n aE w hE (by omega) (by omega) (by omega) (by omega) (Or.inr hg)
  have HI := Lib.hid hI
  clear h hc hh hI hE hg
  go_enter Tryd.func14, Tryd.ntmps14
  go_wp2_with (first
    | (go_at_call 22; (with_reducible refine (HC.out _).mono ?_); rintro e w1 ⟨rfl, rfl⟩)
    | (go_at_call 12; (with_reducible refine HI.out.mono ?_); rintro e w2 ⟨rfl, hk⟩))
  go_ret2
  exact ⟨rfl, hk⟩
set_option maxHeartbeats 1000000 in
theorem Join_yes (a b : Nat) (m n : Nat) (aE : Addr) (w : World) (hE : errAt w 0 aE) (h1 : a ≤ 18446744073709551615) (h2 : b ≤ 18446744073709551615) (hm : 0 < m) (hn : 0 < n) (h6 : m ≤ 18446744073709551615) (h7 : n ≤ 18446744073709551615) (h : m * n < 18446744073709551616) (hg : Nat.gcd n m = 1) :
    Calls Tryd.prog 14 #[.int .u64 a, .int .u64 m, .int .u64 b, .int .u64 n] w fun e w' => e = .returned (.tuple #[.int .u64 (joinN a m b n : Nat), .nilIface]) ∧ Dr w w' := by
  have d1 : ((m : Int) == 0) = false := by rw [beq_eq_false_iff_ne]; omega
  have d2 : ((n : Int) == 0) = false := by rw [beq_eq_false_iff_ne]; omega
  have hc := fun w' => Mul64_parts m n w' h6 h7
  have hh : m * n / 18446744073709551616 = 0 := Nat.div_eq_of_lt h
  rw [hh] at hc
  generalize m * n % 18446744073709551616 = L0 at *
  have HC := Lib.hid hc
  have hI := Inverse_yes m n aE w hE (by omega) (by omega) (by omega) (by omega) hg
  simp only [Int.toNat_natCast] at hI
  obtain ⟨X, B, Y, L, K, P, J, v, eX, eB, eY, eP, eJ, HH⟩ := join_setup a m b n hm hn h6 h7 h
  rw [← HH.out.2.2.2.2.2.2.1] at hI
  have HI := Lib.hid hI
  have hl : ∀ w', Calls Tryd.prog 38 #[.int .u64 B, .int .u64 Y, .int .u64 n] w' fun e w'' => e = .returned (.int .u64 L) ∧ Dr w' w'' := fun w' =>
    (less_any B Y n w' (by omega) (by have := HH.out.2.2.1; omega) (by omega) (by have := HH.out.2.2.2.1; omega) (by omega)).mono fun e w'' ⟨he, hk⟩ => ⟨by rw [he, HH.out.1], hk⟩
  have hu : ∀ w', Calls Tryd.prog 17 #[.int .u64 L, .int .u64 v, .int .u64 n] w' fun e w'' => e = .returned (.int .u64 K) ∧ Dr w' w'' := fun w' =>
    (Mul_any L v n w' (by omega) (by have := HH.out.2.2.2.2.1; omega) (by omega) (by have := HH.out.2.2.2.2.2.1; omega) (by omega) (by omega)).mono fun e w'' ⟨he, hk⟩ => ⟨by rw [he, HH.out.2.1], hk⟩
  have HL := Lib.hid hl
  have HU := Lib.hid hu
  have HJ := Lib.hid HH.out.2.2.2.2.2.2.2
  clear h hc hh hI hE hg hl hu HH h1 h2
  go_enter Tryd.func14, Tryd.ntmps14
  go_wp2_with (first
    | (go_at_call 22; (with_reducible refine (HC.out _).mono ?_); rintro e w1 ⟨rfl, rfl⟩)
    | (go_at_call 12; (with_reducible refine HI.out.mono ?_); rintro e w2 ⟨rfl, hk⟩))
  go_quiet ((first | (go_at_call 38; exact Dr.quiet (HL.out _)) | (go_at_call 17; exact Dr.quiet (HU.out _))))
  go_wp2_with fail
  go_ret2
  refine ⟨?_, hk.drewN nq⟩
  rw [HJ.out]
  rfl

/-! ### The reference's -/
set_option maxHeartbeats 1000000 in
theorem rJoin_zero (a m b n : Int) (w : World) (h : m = 0 ∨ n = 0) :
    Calls Tryd.prog 15 #[.int .u64 a, .int .u64 m, .int .u64 b, .int .u64 n] w fun e w' => e = .returned (.tuple #[.int .u64 0, .int .i64 5]) ∧ Dr w w' := by
  by_cases h0 : m = 0
  · subst h0
    clear h
    go_enter Tryd.func15, Tryd.ntmps15
    go_wp2_with fail
    go_ret2
    exact ⟨rfl, Dr.refl w⟩
  · obtain rfl : n = 0 := h.resolve_left h0
    have d1 : (m == 0) = false := by rw [beq_eq_false_iff_ne]; exact h0
    clear h h0
    go_enter Tryd.func15, Tryd.ntmps15
    go_wp2_with fail
    go_ret2
    exact ⟨rfl, Dr.refl w⟩
set_option maxHeartbeats 1000000 in
theorem rJoin_big (a b : Int) (m n : Nat) (w : World) (hm : 0 < m) (hn : 0 < n) (h6 : m ≤ 18446744073709551615) (h7 : n ≤ 18446744073709551615) (h : 18446744073709551616 ≤ m * n) :
    Calls Tryd.prog 15 #[.int .u64 a, .int .u64 m, .int .u64 b, .int .u64 n] w fun e w' => e = .returned (.tuple #[.int .u64 0, .int .i64 5]) ∧ Dr w w' := by
  have d1 : ((m : Int) == 0) = false := by rw [beq_eq_false_iff_ne]; omega
  have d2 : ((n : Int) == 0) = false := by rw [beq_eq_false_iff_ne]; omega
  have hc := fun w' => Mul64_parts m n w' h6 h7
  have hh : 0 < m * n / 18446744073709551616 := Nat.div_pos h (by omega)
  generalize m * n / 18446744073709551616 = H at *
  generalize m * n % 18446744073709551616 = L at *
  have d3 : ((H : Int) != 0) = true := by rw [bne_iff_ne]; omega
  have HC := Lib.hid hc
  clear h hc
  go_enter Tryd.func15, Tryd.ntmps15
  go_wp2_with (go_at_call 22; (with_reducible refine (HC.out _).mono ?_); rintro e w1 ⟨rfl, rfl⟩)
  go_ret2
  exact ⟨rfl, Dr.refl _⟩
set_option maxHeartbeats 1000000 in
theorem rJoin_no (a b : Int) (m n : Nat) (w : World) (hm : 0 < m) (hn : 0 < n) (h6 : m ≤ 18446744073709551615) (h7 : n ≤ 18446744073709551615) (h : m * n < 18446744073709551616) (hg : Nat.gcd n m ≠ 1) :
    Calls Tryd.prog 15 #[.int .u64 a, .int .u64 m, .int .u64 b, .int .u64 n] w fun e w' => e = .returned (.tuple #[.int .u64 0, .int .i64 11]) ∧ Dr w w' := by
  have d1 : ((m : Int) == 0) = false := by rw [beq_eq_false_iff_ne]; omega
  have d2 : ((n : Int) == 0) = false := by rw [beq_eq_false_iff_ne]; omega
  have hc := fun w' => Mul64_parts m n w' h6 h7
  have hh : m * n / 18446744073709551616 = 0 := Nat.div_eq_of_lt h
  rw [hh] at hc
  generalize m * n % 18446744073709551616 = L at *
  have HC := Lib.hid hc
  have hg' : Int.gcd (m : Int) (n : Int) = Nat.gcd n m := by rw [Int.gcd_natCast_natCast, Nat.gcd_comm]
  generalize Nat.gcd n m = g at hg hg'
  have hI : ∀ w', Calls Tryd.prog 39 #[.int .u64 m, .int .u64 n] w' fun e w'' => e = .returned (.int .u64 g) ∧ Dr w' w'' := fun w' =>
    (rgcd_any m n w' (by omega) (by omega) (by omega) (by omega)).mono fun e w'' ⟨he, hk⟩ => ⟨by rw [he, hg'], hk⟩
  have HI := Lib.hid hI
  have dg : ((g : Int) != 1) = true := by rw [bne_iff_ne]; omega
  clear h hc hh hI hg hg'
  go_enter Tryd.func15, Tryd.ntmps15
  go_wp2_with (first
    | (go_at_call 22; (with_reducible refine (HC.out _).mono ?_); rintro e w1 ⟨rfl, rfl⟩)
    | (go_at_call 39; (with_reducible refine (HI.out _).mono ?_); rintro e w2 ⟨rfl, hk⟩))
  go_ret2
  exact ⟨rfl, hk⟩
theorem invN_mod (m n : Nat) : invN (m % n) n = invN m n := by
  unfold invN inv
  rw [Nat.mod_mod]
set_option maxHeartbeats 1000000 in
theorem rJoin_yes (a b : Nat) (m n : Nat) (w : World) (h1 : a ≤ 18446744073709551615) (h2 : b ≤ 18446744073709551615) (hm : 0 < m) (hn : 0 < n) (h6 : m ≤ 18446744073709551615) (h7 : n ≤ 18446744073709551615) (h : m * n < 18446744073709551616) (hg : Nat.gcd n m = 1) :
    Calls Tryd.prog 15 #[.int .u64 a, .int .u64 m, .int .u64 b, .int .u64 n] w fun e w' => e = .returned (.tuple #[.int .u64 (joinN a m b n : Nat), .int .i64 0]) ∧ Dr w w' := by
  have d1 : ((m : Int) == 0) = false := by rw [beq_eq_false_iff_ne]; omega
  have d2 : ((n : Int) == 0) = false := by rw [beq_eq_false_iff_ne]; omega
  have hc := fun w' => Mul64_parts m n w' h6 h7
  have hh : m * n / 18446744073709551616 = 0 := Nat.div_eq_of_lt h
  rw [hh] at hc
  generalize m * n % 18446744073709551616 = L0 at *
  have HC := Lib.hid hc
  have hg' : Int.gcd (m : Int) (n : Int) = 1 := by rw [Int.gcd_natCast_natCast, Nat.gcd_comm]; exact hg
  have hG : ∀ w', Calls Tryd.prog 39 #[.int .u64 m, .int .u64 n] w' fun e w'' => e = .returned (.int .u64 1) ∧ Dr w' w'' := fun w' =>
    (rgcd_any m n w' (by omega) (by omega) (by omega) (by omega)).mono fun e w'' ⟨he, hk⟩ => ⟨by rw [he, hg']; rfl, hk⟩
  have HG := Lib.hid hG
  obtain ⟨M, hM⟩ : ∃ M, m % n = M := ⟨_, rfl⟩
  have hMl : M < n := by rw [← hM]; exact Nat.mod_lt _ hn
  have hI := fun w' => rInverse_yes M n w' (by omega) hn h7 (by rw [← hM, gcd_mod]; exact hg)
  rw [show invN M n = invN m n by rw [← hM]; exact invN_mod m n] at hI
  have eM : (m : Int) % (n : Int) = (M : Int) := by rw [← hM]; simp
  obtain ⟨X, B, Y, L, K, P, J, v, eX, eB, eY, eP, eJ, HH⟩ := join_setup a m b n hm hn h6 h7 h
  rw [← HH.out.2.2.2.2.2.2.1] at hI
  have HI := Lib.hid hI
  have hl : ∀ w', Calls Tryd.prog 40 #[.int .u64 B, .int .u64 Y, .int .u64 n] w' fun e w'' => e = .returned (.int .u64 L) ∧ Dr w' w'' := fun w' =>
    (rless_any B Y n w' (by omega) (by have := HH.out.2.2.1; omega) (by omega) (by have := HH.out.2.2.2.1; omega) (by omega)).mono fun e w'' ⟨he, hk⟩ => ⟨by rw [he, HH.out.1], hk⟩
  have hu : ∀ w', Calls Tryd.prog 18 #[.int .u64 L, .int .u64 v, .int .u64 n] w' fun e w'' => e = .returned (.int .u64 K) ∧ Dr w' w'' := fun w' =>
    (rMul_any L v n w' (by omega) (by have := HH.out.2.2.2.2.1; omega) (by omega) (by have := HH.out.2.2.2.2.2.1; omega) (by omega) (by omega)).mono fun e w'' ⟨he, hk⟩ => ⟨by rw [he, HH.out.2.1], hk⟩
  have HL := Lib.hid hl
  have HU := Lib.hid hu
  have HJ := Lib.hid HH.out.2.2.2.2.2.2.2
  clear h hc hh hI hg hl hu HH h1 h2 hG hg' hM
  go_enter Tryd.func15, Tryd.ntmps15
  go_wp2_with (first
    | (go_at_call 22; (with_reducible refine (HC.out _).mono ?_); rintro e w1 ⟨rfl, rfl⟩)
    | (go_at_call 39; (with_reducible refine (HG.out _).mono ?_); rintro e w2 ⟨rfl, hk1⟩)
    | (go_at_call 13; (with_reducible refine (HI.out _).mono ?_); rintro e w3 ⟨rfl, hk2⟩))
  go_quiet ((first | (go_at_call 40; exact Dr.quiet (HL.out _)) | (go_at_call 18; exact Dr.quiet (HU.out _))))
  go_wp2_with fail
  go_ret2
  refine ⟨?_, (hk1.trans hk2).drewN nq⟩
  rw [HJ.out]
  rfl
end Go.Proofs.YtifbcaiegalhbaaDoor
