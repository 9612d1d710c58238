/-
  The walk of PrimesPowers: powers of sums, inverses, Fermat.
-/
import Derived.Test.YtifbcaiegalhbaaDoorPModulo
import Derived.Deep.DeepCutAuto
namespace Go.Proofs.YtifbcaiegalhbaaDoor
open Go Go.RowKit Go.Fl Go.Pr

/-- What the calls at m answer. -/
theorem pow_setup (a E F m : Nat) (h1 : a ≤ 18446744073709551615) (h2 : E ≤ 9223372036854775807) (h3 : F ≤ 9223372036854775807) (h5 : 0 < m) (h6 : m ≤ 18446744073709551615) :
    ∃ X Y H L M P P1 P2 O : Nat, (a : Int) % (m : Int) = (X : Int) ∧ (E : Int) % (m : Int) = (Y : Int) ∧ (1 : Int) % (m : Int) = (O : Int) ∧
      Hid (∀ w', Calls Tryd.prog 22 #[.int .u64 X, .int .u64 Y] w' fun e w'' => e = .returned (.tuple #[.int .u64 H, .int .u64 L]) ∧ w'' = w') ∧
      Hid (∀ w', Calls Tryd.prog 17 #[.int .u64 a, .int .u64 E, .int .u64 m] w' fun e w'' => e = .returned (.int .u64 M) ∧ Dr w' w'') ∧
      Hid (∀ w', Calls Tryd.prog 23 #[.int .u64 H, .int .u64 L, .int .u64 m] w' fun e w'' => e = .returned (.int .u64 M) ∧ Dr w' w'') ∧
      Hid (∀ w', Calls Tryd.prog 19 #[.int .u64 a, .int .u64 ((E : Int) + (F : Int)), .int .u64 m] w' fun e w'' => e = .returned (.int .u64 P) ∧ Dr w' w'') ∧
      Hid (∀ w', Calls Tryd.prog 19 #[.int .u64 a, .int .u64 E, .int .u64 m] w' fun e w'' => e = .returned (.int .u64 P1) ∧ Dr w' w'') ∧
      Hid (∀ w', Calls Tryd.prog 19 #[.int .u64 a, .int .u64 F, .int .u64 m] w' fun e w'' => e = .returned (.int .u64 P2) ∧ Dr w' w'') ∧
      Hid (∀ w', Calls Tryd.prog 17 #[.int .u64 P1, .int .u64 P2, .int .u64 m] w' fun e w'' => e = .returned (.int .u64 P) ∧ Dr w' w'') ∧
      Hid (∀ w', Calls Tryd.prog 19 #[.int .u64 a, .int .u64 1, .int .u64 m] w' fun e w'' => e = .returned (.int .u64 X) ∧ Dr w' w'') ∧
      Hid (∀ w', Calls Tryd.prog 19 #[.int .u64 a, .int .u64 0, .int .u64 m] w' fun e w'' => e = .returned (.int .u64 O) ∧ Dr w' w'') ∧ Hid (O = 1 % m) := by
  have hX := Nat.mod_lt a h5
  have hY := Nat.mod_lt E h5
  have hH := hi_lt (x := ((a % m : Nat) : Int)) (y := ((E % m : Nat) : Int)) (by omega) (by omega) (by omega) (by omega)
  have hp1 := Nat.mod_lt (a ^ E) h5
  have hp2 := Nat.mod_lt (a ^ F) h5
  refine ⟨a % m, E % m, (a % m) * (E % m) / 18446744073709551616, (a % m) * (E % m) % 18446744073709551616, a * E % m, a ^ (E + F) % m, a ^ E % m, a ^ F % m, 1 % m, by simp, by simp, by simp,
    Lib.hid fun w' => ?_, Lib.hid fun w' => ?_, Lib.hid fun w' => ?_, Lib.hid fun w' => ?_, Lib.hid fun w' => ?_, Lib.hid fun w' => ?_, Lib.hid fun w' => ?_, Lib.hid fun w' => ?_, Lib.hid fun w' => ?_, Lib.hid rfl⟩
  · exact Mul64_parts _ _ w' (by omega) (by omega)
  · exact (Mul_any a E m w' (by omega) (by omega) (by omega) (by omega) (by omega) (by omega)).mono fun e w'' ⟨he, hk⟩ => ⟨by rw [he, mul_cast], hk⟩
  · have e1 : ((a % m * (E % m) / 18446744073709551616 : Nat) : Int) = ((a % m : Nat) : Int) * ((E % m : Nat) : Int) / 18446744073709551616 := by simp
    have := hH
    rw [← e1] at this
    refine (Rem64_any _ _ m w' this.1 this.2 (by omega) (by omega) (by omega) (by omega)).mono fun e w'' ⟨he, hk⟩ => ⟨?_, hk⟩
    rw [he]
    refine ret_u ?_
    have e2 : (a % m) * (E % m) / 18446744073709551616 * 18446744073709551616 + (a % m) * (E % m) % 18446744073709551616 = (a % m) * (E % m) := Nat.div_add_mod' _ _
    rw [show ((a % m * (E % m) / 18446744073709551616 : Nat) : Int) * 18446744073709551616 + ((a % m * (E % m) % 18446744073709551616 : Nat) : Int) = ((a % m * (E % m) : Nat) : Int) by omega, ← Int.natCast_emod, ← Nat.mul_mod]
  · exact Pow_nat a (E + F) m w' h1 (by omega) h5 h6
  · exact Pow_nat a E m w' h1 (by omega) h5 h6
  · exact Pow_nat a F m w' h1 (by omega) h5 h6
  · exact (Mul_any _ _ m w' (by omega) (by omega) (by omega) (by omega) (by omega) (by omega)).mono fun e w'' ⟨he, hk⟩ => ⟨by rw [he, mul_cast, ← Nat.mul_mod, ← Nat.pow_add], hk⟩
  · exact (Pow_nat a 1 m w' h1 (by omega) h5 h6).mono fun e w'' ⟨he, hk⟩ => ⟨by rw [he, Nat.pow_one], hk⟩
  · exact (Pow_nat a 0 m w' h1 (by omega) h5 h6).mono fun e w'' ⟨he, hk⟩ => ⟨by rw [he, Nat.pow_zero], hk⟩
/-- What the calls at a prime answer. -/
theorem prime_setup (a p : Nat) (E : Nat → Addr) (h1 : a ≤ 18446744073709551615) (hp : Pri p) (hpb : p ≤ 4294967296) (ha : ¬ a % p = 0) :
    ∃ J K : Nat, Hid (∀ w', Ers w' E → Calls Tryd.prog 12 #[.int .u64 a, .int .u64 p] w' fun e w'' => e = .returned (.tuple #[.int .u64 J, .nilIface]) ∧ Dr w' w'') ∧
      Hid (∀ w', Calls Tryd.prog 19 #[.int .u64 a, .int .u64 ((p : Int) - 1), .int .u64 p] w' fun e w'' => e = .returned (.int .u64 1) ∧ Dr w' w'') ∧
      Hid (∀ w', Calls Tryd.prog 19 #[.int .u64 a, .int .u64 ((p : Int) - 2), .int .u64 p] w' fun e w'' => e = .returned (.int .u64 K) ∧ Dr w' w'') ∧ (K : Int) % (p : Int) = (J : Int) := by
  have h2 := hp.1
  have hnd : ¬ p ∣ a := fun h => ha (Nat.mod_eq_zero_of_dvd h)
  have hc := hp.coprime hnd
  obtain ⟨hJ, hJm⟩ := invN_mul hp.pos hc
  refine ⟨invN a p, a ^ (p - 2) % p, Lib.hid fun w' h => (Inverse_nat a p _ w' h.root h1 hp.pos (by omega)).mono fun e w'' ⟨h, hk⟩ => ⟨h.1 hc, hk⟩, Lib.hid fun w' => ?_, Lib.hid fun w' => ?_, ?_⟩
  · rw [show (p : Int) - 1 = ((p - 1 : Nat) : Int) by omega]
    refine (Pow_nat a (p - 1) p w' h1 (by omega) hp.pos (by omega)).mono fun e w'' ⟨he, hk⟩ => ⟨?_, hk⟩
    rw [he, fermat hp hnd]; rfl
  · rw [show (p : Int) - 2 = ((p - 2 : Nat) : Int) by omega]
    exact Pow_nat a (p - 2) p w' h1 (by omega) hp.pos (by omega)
  · rw [← Int.natCast_emod, Nat.mod_mod]
    congr 1
    have h3 := fermat hp hnd
    rw [show p - 1 = (p - 2) + 1 by omega, Nat.pow_succ, Nat.mul_comm] at h3
    have h4 := cancel (x := a ^ (p - 2)) (y := invN a p) hp.pos hc (by rw [h3, hJm, Nat.mod_eq_of_lt hp.1])
    rw [h4, Nat.mod_eq_of_lt hJ]
set_option maxRecDepth 100000 in
set_option maxHeartbeats 4000000 in
theorem walk_PrimesPowers (a : Int) (wa : (Lit.int .u64 a).wf = true) (e : Int) (we : (Lit.int .u64 e).wf = true) (f : Int) (wf : (Lit.int .u64 f).wf = true) (m : Int) (wm : (Lit.int .u64 m).wf = true) (p : Int) (wp : (Lit.int .i64 p).wf = true) (E : Nat → Addr) (w : World) (hE : Ers w E) :
    Calls Tryd.prog 5 #[.int .u64 a, .int .u64 e, .int .u64 f, .int .u64 m, .int .i64 p] w fun e w' => e = .returned (.bool true) ∧ Kp w w' := by
  obtain ⟨a1, a2⟩ := wf_u wa
  obtain ⟨e1, e2⟩ := wf_u we
  obtain ⟨f1, f2⟩ := wf_u wf
  obtain ⟨m1, m2⟩ := wf_u wm
  have HE := Lib.hid hE
  by_cases hm0 : m = 0
  · subst hm0
    clear hE wa we wf wm wp a1 a2 e1 e2 f1 f2 m1 m2
    go_enter Tryd.func5, Tryd.ntmps5
    go_wp2_with (first
      | (go_at_call 11; (with_reducible refine (fixed_any E _ HE.out).mono ?_); rintro e w0 ⟨rfl, hk0⟩)
      | (go_at_call 17; (with_reducible refine (Mul_zero _ _ _).mono ?_); rintro e w1 ⟨rfl, hk1⟩)
      | (go_at_call 19; (with_reducible refine (Pow_zero _ _ _).mono ?_); rintro e w2 ⟨rfl, hk2⟩))
    go_ret
    exact ⟨rfl, (hk0.trans hk1.kp).trans hk2.kp⟩
  obtain ⟨a, rfl⟩ := Int.eq_ofNat_of_zero_le a1
  obtain ⟨e, rfl⟩ := Int.eq_ofNat_of_zero_le e1
  obtain ⟨f, rfl⟩ := Int.eq_ofNat_of_zero_le f1
  obtain ⟨m, rfl⟩ := Int.eq_ofNat_of_zero_le m1
  obtain ⟨e', he'⟩ : ∃ e', e / 2 = e' := ⟨_, rfl⟩
  obtain ⟨f', hf'⟩ : ∃ f', f / 2 = f' := ⟨_, rfl⟩
  have ee : (e : Int) / 2 = (e' : Int) := by omega
  have ef : (f : Int) / 2 = (f' : Int) := by omega
  have eb : e' ≤ 9223372036854775807 := by omega
  have fb : f' ≤ 9223372036854775807 := by omega
  obtain ⟨X, Y, H, L, M, P, P1, P2, O, x1, x2, x3, C1, C2, C3, C4, C5, C6, C7, C8, C9, HO⟩ := pow_setup a e' f' m (by omega) eb fb (by omega) (by omega)
  have d0 : ((m : Int) == 0) = false := by rw [beq_eq_false_iff_ne]; exact hm0
  have Ha : Hid (a ≤ 18446744073709551615) := Lib.hid (by omega)
  have Hm : Hid (0 < m ∧ m ≤ 18446744073709551615) := Lib.hid ⟨by omega, by omega⟩
  have hm1 : 0 < m := by omega
  have HP := Lib.hid (wf_i wp)
  clear hE wa we wf wm wp a1 a2 e1 e2 f1 f2 m1 m2 he' hf' hm0
  go_enter Tryd.func5, Tryd.ntmps5
  go_wp2_with (go_at_call 11; (with_reducible refine (fixed_any E _ HE.out).mono ?_); rintro e w0 ⟨rfl, hk0⟩; have HE0 := Lib.hid (HE.out.kp hk0))
  go_quiet ((go_at_call 22; exact Calls.quiet_of_same (C1.out _)))
  go_wp2_with fail
  have hk1 : Kp w (w0.drewN nq) := hk0.drewN nq
  have HE1 := Lib.hid (HE0.out.drewN nq)
  generalize w0.drewN nq = w1 at *
  clear hk0 HE0 HE
  go_quiet ((first
    | (go_at_call 17; with_reducible exact Dr.quiet (C2.out _))
    | (go_at_call 23; with_reducible exact Dr.quiet (C3.out _))
    | (go_at_call 19; with_reducible exact Dr.quiet (C4.out _))
    | (go_at_call 19; with_reducible exact Dr.quiet (C5.out _))
    | (go_at_call 19; with_reducible exact Dr.quiet (C6.out _))
    | (go_at_call 17; with_reducible exact Dr.quiet (C7.out _))
    | (go_at_call 19; with_reducible exact Dr.quiet (C8.out _))
    | (go_at_call 19; with_reducible exact Dr.quiet (C9.out _))))
  go_upto_region 9 with fail
  have hk2 : Kp w (w1.drewN nq) := hk1.drewN nq
  have HE2 := Lib.hid (HE1.out.drewN nq)
  generalize w1.drewN nq = w2 at *
  clear hk1 HE1 C1 C2 C3 C4 C5 C6 C7 C8 C9
  by_cases hg : Nat.gcd m a = 1
  case' pos =>
    obtain ⟨I, hI⟩ : ∃ I, invN a m = I := ⟨_, rfl⟩
    obtain ⟨hIm, hIa⟩ := invN_mul Hm.out.1 hg
    rw [hI] at hIm hIa
    have D1 : Hid (∀ w', Ers w' E → Calls Tryd.prog 12 #[.int .u64 a, .int .u64 m] w' fun e w'' => e = .returned (.tuple #[.int .u64 I, .nilIface]) ∧ Dr w' w'') := Lib.hid fun w' h => (Inverse_nat a m _ w' h.root Ha.out Hm.out.1 Hm.out.2).mono fun e w'' ⟨h, hk⟩ => ⟨by rw [← hI]; exact h.1 hg, hk⟩
    have D2 : Hid (∀ w', Calls Tryd.prog 17 #[.int .u64 a, .int .u64 I, .int .u64 m] w' fun e w'' => e = .returned (.int .u64 O) ∧ Dr w' w'') := Lib.hid fun w' => by
      have := Hm.out
      have := Ha.out
      exact (Mul_any a I m w' (by omega) (by omega) (by omega) (by omega) (by omega) (by omega)).mono fun e w'' ⟨he, hk⟩ => ⟨by rw [he, mul_cast, hIa, HO.out], hk⟩
    have d3 : decide ((m : Int) ≤ (I : Int)) = false := by simp; omega
    have d3' : ¬ m ≤ I := by omega
    clear hg hI hIa
    go_wp2_with (go_at_call 12; (with_reducible refine (D1.out _ HE2.out).mono ?_); rintro e w3 ⟨rfl, hk3⟩; have hk4 := hk2.trans hk3.kp; have HE3 := Lib.hid (HE2.out.kp hk3.kp); clear hk2 HE2 hk3)
    go_quiet ((go_at_call 17; with_reducible exact Dr.quiet (D2.out _)))
    go_upto_region 12 with fail
    have hk5 : Kp w (w3.drewN nq) := hk4.drewN nq
    have HE4 := Lib.hid (HE3.out.drewN nq)
    generalize w3.drewN nq = w4 at *
    clear hk4 HE3 D1 D2
  case' neg =>
    have D1 : Hid (∀ w', Ers w' E → Calls Tryd.prog 12 #[.int .u64 a, .int .u64 m] w' fun e w'' => e = .returned (.tuple #[.int .u64 0, errR (E 10)]) ∧ Dr w' w'') := Lib.hid fun w' h => (Inverse_nat a m _ w' h.root Ha.out Hm.out.1 Hm.out.2).mono fun e w'' ⟨h, hk⟩ => ⟨h.2 hg, hk⟩
    have hne := err_eq_nil (E 10)
    clear hg
    go_wp2_with (go_at_call 12; (with_reducible refine (D1.out _ HE2.out).mono ?_); rintro e w3 ⟨rfl, hk3⟩; have hk4 := hk2.trans hk3.kp; have HE3 := Lib.hid (HE2.out.kp hk3.kp); clear hk2 HE2 hk3)
    go_quiet (fail)
    go_upto_region 12 with fail
    have hk5 : Kp w (w3.drewN nq) := hk4.drewN nq
    have HE4 := Lib.hid (HE3.out.drewN nq)
    generalize w3.drewN nq = w4 at *
    clear hk4 HE3 D1 hne
  all_goals
    by_cases hpb : primeB p = true
    · have hp3 : 2 ≤ p ∧ p ≤ 4294967296 ∧ Pri p.toNat := by unfold primeB at hpb; simpa using hpb
      obtain ⟨q, rfl⟩ := Int.eq_ofNat_of_zero_le (show 0 ≤ p by omega)
      rw [Int.toNat_natCast] at hp3
      have hq2 : 2 ≤ q := by omega
      have hqb : q ≤ 4294967296 := by omega
      have F1 : Hid (∀ w', Calls Tryd.prog 24 #[.int .i64 q] w' fun e w'' => e = .returned (.bool true) ∧ w' = w'') := Lib.hid fun w' => by have := Prime_any q w'; rw [hpb] at this; exact this
      by_cases haq : a % q = 0
      · have d5 : ((a : Int) % (q : Int) == 0) = true := by rw [← Int.natCast_emod, haq]; rfl
        clear hpb hp3 haq
        go_wp2_with (go_at_call 24; (with_reducible refine (F1.out _).mono ?_); rintro e w6 ⟨rfl, rfl⟩)
        go_ret
        exact ⟨rfl, hk5⟩
      · obtain ⟨J, K, G1, G2, G3, g4⟩ := prime_setup a q E Ha.out hp3.2.2 hqb haq
        have d5 : ((a : Int) % (q : Int) == 0) = false := by rw [← Int.natCast_emod, beq_eq_false_iff_ne]; omega
        have e7 : IntKind.u64.wrap ((q : Int) - 1) = (q : Int) - 1 := by rw [IntKind.wrap_u64]; omega
        have e8 : IntKind.u64.wrap ((q : Int) - 2) = (q : Int) - 2 := by rw [IntKind.wrap_u64]; omega
        clear hpb hp3 haq
        go_wp2_with (first
          | (go_at_call 24; (with_reducible refine (F1.out _).mono ?_); rintro e w6 ⟨rfl, rfl⟩)
          | (go_at_call 12; (with_reducible refine (G1.out _ HE4.out).mono ?_); rintro e w7 ⟨rfl, hk7⟩)
          | (go_at_call 19; (with_reducible refine (G2.out _).mono ?_); rintro e w8 ⟨rfl, hk8⟩)
          | (go_at_call 19; (with_reducible refine (G3.out _).mono ?_); rintro e w9 ⟨rfl, hk9⟩))
        go_ret
        exact ⟨rfl, ((hk5.trans hk7.kp).trans hk8.kp).trans hk9.kp⟩
    · have hpb' : primeB p = false := by simpa using hpb
      have F1 : Hid (∀ w', Calls Tryd.prog 24 #[.int .i64 p] w' fun e w'' => e = .returned (.bool false) ∧ w' = w'') := Lib.hid fun w' => by have := Prime_any p w'; rw [hpb'] at this; exact this
      clear hpb hpb'
      go_wp2_with (go_at_call 24; (with_reducible refine (F1.out _).mono ?_); rintro e w6 ⟨rfl, rfl⟩)
      go_ret
      exact ⟨rfl, hk5⟩
end Go.Proofs.YtifbcaiegalhbaaDoor
