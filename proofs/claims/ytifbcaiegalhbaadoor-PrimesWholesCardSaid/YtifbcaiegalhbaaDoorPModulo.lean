/-
  The walk of PrimesModulo: every Mul, Pow, Inverse and Join is the reference's.
-/
import Derived.Test.YtifbcaiegalhbaaDoorPFixed
namespace Go.Proofs.YtifbcaiegalhbaaDoor
open Go Go.RowKit Go.Fl Go.Pr

theorem wf_u {a : Int} (h : (Lit.int .u64 a).wf = true) : 0 ≤ a ∧ a ≤ 18446744073709551615 := by
  have := h
  simp [Lit.wf, IntKind.min, IntKind.max, IntKind.signed, IntKind.bits] at this
  omega
theorem wf_i {a : Int} (h : (Lit.int .i64 a).wf = true) : -9223372036854775808 ≤ a ∧ a ≤ 9223372036854775807 := by
  have := h
  simp [Lit.wf, IntKind.min, IntKind.max, IntKind.signed, IntKind.bits] at this
  omega
theorem Num_root (E : Nat → Addr) (w : World) (hE : Errs w E) :
    Calls Tryd.prog 16 #[errR (E 10)] w fun e w' => e = .returned (.int .i64 11) ∧ Kp w w' := Num_err E 10 (by decide) w hE
theorem Num_nilk (w : World) : Calls Tryd.prog 16 #[.nilIface] w fun e w' => e = .returned (.int .i64 0) ∧ Kp w w' :=
  (Num_nil w).mono fun e w' ⟨h, hw⟩ => ⟨h, hw ▸ Kp.refl w⟩
theorem inverse_pair (a m : Int) (E : Nat → Addr) (h1 : 0 ≤ a) (h2 : a ≤ 18446744073709551615) (h3 : 0 ≤ m) (h4 : m ≤ 18446744073709551615) :
    ∃ (x : Int) (ev : Value) (k : Int), Hid (∀ w', Errs w' E → Calls Tryd.prog 12 #[.int .u64 a, .int .u64 m] w' fun e w'' => e = .returned (.tuple #[.int .u64 x, ev]) ∧ Dr w' w'') ∧
      Hid (∀ w', Calls Tryd.prog 13 #[.int .u64 a, .int .u64 m] w' fun e w'' => e = .returned (.tuple #[.int .u64 x, .int .i64 k]) ∧ Dr w' w'') ∧
      Hid (∀ w', Errs w' E → Calls Tryd.prog 16 #[ev] w' fun e w'' => e = .returned (.int .i64 k) ∧ Kp w' w'') := by
  obtain ⟨a, rfl⟩ := Int.eq_ofNat_of_zero_le h1
  obtain ⟨m, rfl⟩ := Int.eq_ofNat_of_zero_le h3
  rcases Nat.eq_zero_or_pos m with rfl | hm
  · exact ⟨0, errR (E 10), 11, Lib.hid fun w' h => Inverse_bad0 _ _ w' h.root, Lib.hid fun w' => rInverse_no0 _ w', Lib.hid fun w' h => Num_root E w' h⟩
  by_cases hg : Nat.gcd m a = 1
  · exact ⟨invN a m, .nilIface, 0, Lib.hid fun w' h => (Inverse_nat a m _ w' h.root (by omega) hm (by omega)).mono fun e w'' ⟨h, hk⟩ => ⟨h.1 hg, hk⟩, Lib.hid fun w' => rInverse_yes a m w' (by omega) hm (by omega) hg, Lib.hid fun w' _ => Num_nilk w'⟩
  · exact ⟨0, errR (E 10), 11, Lib.hid fun w' h => (Inverse_nat a m _ w' h.root (by omega) hm (by omega)).mono fun e w'' ⟨h, hk⟩ => ⟨h.2 hg, hk⟩, Lib.hid fun w' => rInverse_no a m w' (by omega) hm (by omega) hg, Lib.hid fun w' h => Num_root E w' h⟩
theorem join_pair (a m b n : Int) (E : Nat → Addr) (h1 : 0 ≤ a) (h2 : a ≤ 18446744073709551615) (h3 : 0 ≤ m) (h4 : m ≤ 18446744073709551615) (h5 : 0 ≤ b) (h6 : b ≤ 18446744073709551615) (h7 : 0 ≤ n) (h8 : n ≤ 18446744073709551615) :
    ∃ (x : Int) (ev : Value) (k : Int), Hid (∀ w', Errs w' E → Calls Tryd.prog 14 #[.int .u64 a, .int .u64 m, .int .u64 b, .int .u64 n] w' fun e w'' => e = .returned (.tuple #[.int .u64 x, ev]) ∧ Dr w' w'') ∧
      Hid (∀ w', Calls Tryd.prog 15 #[.int .u64 a, .int .u64 m, .int .u64 b, .int .u64 n] w' fun e w'' => e = .returned (.tuple #[.int .u64 x, .int .i64 k]) ∧ Dr w' w'') ∧
      Hid (∀ w', Errs w' E → Calls Tryd.prog 16 #[ev] w' fun e w'' => e = .returned (.int .i64 k) ∧ Kp w' w'') := by
  obtain ⟨a, rfl⟩ := Int.eq_ofNat_of_zero_le h1
  obtain ⟨m, rfl⟩ := Int.eq_ofNat_of_zero_le h3
  obtain ⟨b, rfl⟩ := Int.eq_ofNat_of_zero_le h5
  obtain ⟨n, rfl⟩ := Int.eq_ofNat_of_zero_le h7
  by_cases hz : (m : Int) = 0 ∨ (n : Int) = 0
  · exact ⟨0, errR (E 4), 5, Lib.hid fun w' h => Join_zero _ _ _ _ _ w' h.range hz, Lib.hid fun w' => rJoin_zero _ _ _ _ w' hz, Lib.hid fun w' h => Num_range E w' h⟩
  by_cases hb : 18446744073709551616 ≤ m * n
  · exact ⟨0, errR (E 4), 5, Lib.hid fun w' h => Join_big _ _ m n _ w' h.range (by omega) (by omega) (by omega) (by omega) hb, Lib.hid fun w' => rJoin_big _ _ m n w' (by omega) (by omega) (by omega) (by omega) hb, Lib.hid fun w' h => Num_range E w' h⟩
  by_cases hg : Nat.gcd n m = 1
  · exact ⟨joinN a m b n, .nilIface, 0, Lib.hid fun w' h => Join_yes a b m n _ w' h.root (by omega) (by omega) (by omega) (by omega) (by omega) (by omega) (by omega) hg, Lib.hid fun w' => rJoin_yes a b m n w' (by omega) (by omega) (by omega) (by omega) (by omega) (by omega) (by omega) hg, Lib.hid fun w' _ => Num_nilk w'⟩
  · exact ⟨0, errR (E 10), 11, Lib.hid fun w' h => Join_no _ _ m n _ w' h.root (by omega) (by omega) (by omega) (by omega) (by omega) hg, Lib.hid fun w' => rJoin_no _ _ m n w' (by omega) (by omega) (by omega) (by omega) (by omega) hg, Lib.hid fun w' h => Num_root E w' h⟩
theorem mul_pair (a b m : Int) (h1 : 0 ≤ a) (h2 : a ≤ 18446744073709551615) (h3 : 0 ≤ b) (h4 : b ≤ 18446744073709551615) (h5 : 0 ≤ m) (h6 : m ≤ 18446744073709551615) :
    ∃ x : Int, Hid (∀ w', Calls Tryd.prog 17 #[.int .u64 a, .int .u64 b, .int .u64 m] w' fun e w'' => e = .returned (.int .u64 x) ∧ Dr w' w'') ∧
      Hid (∀ w', Calls Tryd.prog 18 #[.int .u64 a, .int .u64 b, .int .u64 m] w' fun e w'' => e = .returned (.int .u64 x) ∧ Dr w' w'') := by
  by_cases h0 : m = 0
  · subst h0; exact ⟨0, Lib.hid fun w' => Mul_zero _ _ w', Lib.hid fun w' => rMul_zero _ _ w'⟩
  · exact ⟨_, Lib.hid fun w' => Mul_any a b m w' h1 h2 h3 h4 (by omega) h6, Lib.hid fun w' => rMul_any a b m w' h1 h2 h3 h4 (by omega) h6⟩
theorem pow_pair (a b m : Int) (h1 : 0 ≤ a) (h2 : a ≤ 18446744073709551615) (h3 : 0 ≤ b) (h4 : b ≤ 18446744073709551615) (h5 : 0 ≤ m) (h6 : m ≤ 18446744073709551615) :
    ∃ x : Int, Hid (∀ w', Calls Tryd.prog 19 #[.int .u64 a, .int .u64 b, .int .u64 m] w' fun e w'' => e = .returned (.int .u64 x) ∧ Dr w' w'') ∧
      Hid (∀ w', Calls Tryd.prog 20 #[.int .u64 a, .int .u64 b, .int .u64 m] w' fun e w'' => e = .returned (.int .u64 x) ∧ Dr w' w'') := by
  by_cases h0 : m = 0
  · subst h0; exact ⟨0, Lib.hid fun w' => Pow_zero _ _ w', Lib.hid fun w' => rPow_zero _ _ w'⟩
  · exact ⟨_, Lib.hid fun w' => Pow_any a b m w' h1 h2 h3 h4 (by omega) h6, Lib.hid fun w' => rPow_any a b m w' h1 h2 h3 h4 (by omega) h6⟩
set_option maxRecDepth 100000 in
set_option maxHeartbeats 2000000 in
theorem walk_PrimesModulo (a : Int) (wa : (Lit.int .u64 a).wf = true) (b : Int) (wb : (Lit.int .u64 b).wf = true) (m : Int) (wm : (Lit.int .u64 m).wf = true) (n : Int) (wn : (Lit.int .u64 n).wf = true) (E : Nat → Addr) (w : World) (hE : Errs w E) :
    Calls Tryd.prog 3 #[.int .u64 a, .int .u64 b, .int .u64 m, .int .u64 n] w fun e w' => e = .returned (.bool true) ∧ Kp w w' := by
  obtain ⟨a1, a2⟩ := wf_u wa
  obtain ⟨b1, b2⟩ := wf_u wb
  obtain ⟨m1, m2⟩ := wf_u wm
  obtain ⟨n1, n2⟩ := wf_u wn
  obtain ⟨x, ex, kx, X1, X2, X3⟩ := inverse_pair a m E a1 a2 m1 m2
  obtain ⟨y, ey, ky, Y1, Y2, Y3⟩ := join_pair a m b n E a1 a2 m1 m2 b1 b2 n1 n2
  obtain ⟨u, U1, U2⟩ := mul_pair a b m a1 a2 b1 b2 m1 m2
  obtain ⟨v, V1, V2⟩ := pow_pair a b m a1 a2 b1 b2 m1 m2
  have HE := Lib.hid hE
  clear wa wb wm wn a1 a2 b1 b2 m1 m2 n1 n2 hE
  go_enter Tryd.func3, Tryd.ntmps3
  go_wp2_with (first
    | (go_at_call 11; (with_reducible refine (fixed_any E _ HE.out.ers).mono ?_); rintro e w0 ⟨rfl, hk0⟩; have HE0 := Lib.hid (HE.out.kp hk0))
    | (go_at_call 12; (with_reducible refine (X1.out _ HE0.out).mono ?_); rintro e w1 ⟨rfl, hk1⟩; have HE1 := Lib.hid (HE0.out.kp hk1.kp))
    | (go_at_call 13; (with_reducible refine (X2.out _).mono ?_); rintro e w2 ⟨rfl, hk2⟩; have HE2 := Lib.hid (HE1.out.kp hk2.kp))
    | (go_at_call 14; (with_reducible refine (Y1.out _ HE2.out).mono ?_); rintro e w3 ⟨rfl, hk3⟩; have HE3 := Lib.hid (HE2.out.kp hk3.kp))
    | (go_at_call 15; (with_reducible refine (Y2.out _).mono ?_); rintro e w4 ⟨rfl, hk4⟩; have HE4 := Lib.hid (HE3.out.kp hk4.kp))
    | (go_at_call 16; (with_reducible refine (X3.out _ HE4.out).mono ?_); rintro e w5 ⟨rfl, hk5⟩; have HE5 := Lib.hid (HE4.out.kp hk5))
    | (go_at_call 16; (with_reducible refine (Y3.out _ HE5.out).mono ?_); rintro e w6 ⟨rfl, hk6⟩)
    | (go_at_call 17; (with_reducible refine (U1.out _).mono ?_); rintro e w7 ⟨rfl, hk7⟩)
    | (go_at_call 18; (with_reducible refine (U2.out _).mono ?_); rintro e w8 ⟨rfl, hk8⟩)
    | (go_at_call 19; (with_reducible refine (V1.out _).mono ?_); rintro e w9 ⟨rfl, hk9⟩)
    | (go_at_call 20; (with_reducible refine (V2.out _).mono ?_); rintro e w10 ⟨rfl, hk10⟩))
  go_ret
  exact ⟨rfl, (((((((((hk0.trans hk1.kp).trans hk2.kp).trans hk3.kp).trans hk4.kp).trans hk5).trans hk6).trans hk7.kp).trans hk8.kp).trans hk9.kp).trans hk10.kp⟩
end Go.Proofs.YtifbcaiegalhbaaDoor
