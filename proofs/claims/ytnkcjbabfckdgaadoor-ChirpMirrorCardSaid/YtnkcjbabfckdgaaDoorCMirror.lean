/-
  The walk of ChirpMirror.
-/
import Derived.Test.YtnkcjbabfckdgaaDoorCZooms
import Derived.Test.YtnkcjbabfckdgaaDoorCMirP
namespace Go.Proofs.YtnkcjbabfckdgaaDoor
open Go Go.RowKit Go.Fl Go.Roots

theorem and_two : ∀ a, a < 15 → bits BinOp.and IntKind.i64 ((2 ^ a : Nat) : Int) (((2 ^ a : Nat) : Int) - 1) = 0 := by decide +kernel
set_option maxRecDepth 100000 in
set_option maxHeartbeats 8000000 in
theorem walk_ChirpMirror (n : Int) (_ : (Lit.int .i64 n).wf = true) (j : Int) (_ : (Lit.int .i64 j).wf = true) (more : Int) (_ : (Lit.int .i64 more).wf = true) (w : World) :
    Calls Tryd.prog 6 #[.int .i64 n, .int .i64 j, .int .i64 more] w fun e w' => e = .returned (.bool true) ∧ Kp w w' := by
  obtain ⟨N, R, ⟨hN1, hN2, hR⟩, eN, eR⟩ := mirror_nums n more
  have HN := Lib.hid eN
  have HR := Lib.hid eR
  clear eN eR
  have e0 := cn_0
  have z8 := nil_eq
  go_enter Tryd.func6, Tryd.ntmps6
  go_upto_region 5 with (go_at_call 8; (refine (clives_any _).mono ?_); rintro e w0 ⟨rfl, hk0⟩)
  rw [HN.out]
  have j1 := Int.tmod_lt_of_pos j (show (0 : Int) < 1099511627776 by omega)
  have j2 := Int.lt_tmod_of_pos j (show (0 : Int) < 1099511627776 by omega)
  obtain ⟨J, hJ⟩ : ∃ J, j.tmod 1099511627776 = J := ⟨_, rfl⟩
  rw [hJ] at j1 j2 ⊢
  clear hJ HN
  have H1 : Hid (∀ w, Calls Tryd.prog 9 #[.int .i64 N, .int .i64 J] w fun e w' => ∃ c s, e = .returned (.tuple #[.complex .f64 c s, .nilIface]) ∧ cn c = (chirp N J).1 ∧ cn s = (chirp N J).2 ∧ Kp w w') := Lib.hid fun w => CAt_any N J w (by omega) (by omega)
  have H2 : Hid (∀ w, Calls Tryd.prog 9 #[.int .i64 N, .int .i64 (-J)] w fun e w' => ∃ c s, e = .returned (.tuple #[.complex .f64 c s, .nilIface]) ∧ cn c = (chirp N J).1 ∧ cn s = (chirp N J).2 ∧ Kp w w') := Lib.hid fun w => by have := CAt_any N (-J) w (by omega) (by omega); rw [chirp_neg] at this; exact this
  have H3 : Hid (∀ w, Calls Tryd.prog 9 #[.int .i64 N, .int .i64 (J + 2 * (N : Int))] w fun e w' => ∃ c s, e = .returned (.tuple #[.complex .f64 c s, .nilIface]) ∧ cn c = (chirp N J).1 ∧ cn s = (chirp N J).2 ∧ Kp w w') := Lib.hid fun w => by have := CAt_any N (J + 2 * (N : Int)) w (by omega) (by omega); rw [chirp_more] at this; exact this
  have H4 : Hid (∀ w, Calls Tryd.prog 9 #[.int .i64 N, .int .i64 0] w fun e w' => ∃ c s, e = .returned (.tuple #[.complex .f64 c s, .nilIface]) ∧ (ord (cn c) (cn 4607182418800017408) == some .eq) = true ∧ (ord (cn s) 0 == some .eq) = true ∧ Kp w w') := Lib.hid fun w => by
    refine (CAt_any N 0 w (by omega) (by omega)).mono ?_
    rintro e w1 ⟨c, s, rfl, hc, hs, hk⟩
    rw [chirp_zero N (by omega)] at hc hs
    exact ⟨c, s, rfl, by rw [hc]; decide +kernel, by rw [hs]; decide +kernel, hk⟩
  go_upto_region 12 with (first
    | (go_at_call 9; (with_reducible refine (H1.out _).mono ?_); rintro e w1 ⟨c1, s1, rfl, hc1, hs1, hk1⟩)
    | (go_at_call 9; (with_reducible refine (H2.out _).mono ?_); rintro e w2 ⟨c2, s2, rfl, hc2, hs2, hk2⟩; have HE1 := Lib.hid (And.intro (hc1.trans hc2.symm) (hs1.trans hs2.symm)); clear hc2 hs2)
    | (go_at_call 9; (with_reducible refine (H3.out _).mono ?_); rintro e w3 ⟨c3, s3, rfl, hc3, hs3, hk3⟩; have HE2 := Lib.hid (And.intro (hc1.trans hc3.symm) (hs1.trans hs3.symm)); clear hc3 hs3 hc1 hs1)
    | (go_at_call 9; (with_reducible refine (H4.out _).mono ?_); rintro e w4 ⟨c4, s4, rfl, p4, p4', hk4⟩; have hk04 := (((hk0.trans hk1).trans hk2).trans hk3).trans hk4; clear hk0 hk1 hk2 hk3 hk4)
    | (go_at_call 12; (with_reducible refine (dsame_yes _ _ _ _ _ HE1.out.1 HE1.out.2).mono ?_); rintro e w6 ⟨rfl, rfl⟩)
    | (go_at_call 12; (with_reducible refine (dsame_yes _ _ _ _ _ HE2.out.1 HE2.out.2).mono ?_); rintro e w6 ⟨rfl, rfl⟩))
  clear H1 H2 H3 H4 p4 p4' HE1 HE2
  rw [HR.out]
  obtain ⟨L, hL⟩ : ∃ L : Nat, 2 * N - 1 = L := ⟨_, rfl⟩
  have eL : 2 * (N : Int) - 1 = (L : Int) := by omega
  obtain ⟨M, hM⟩ : ∃ M : Nat, L + R = M := ⟨_, rfl⟩
  have eM : (L : Int) + (R : Int) = (M : Int) := by omega
  have hMb : 2 * N ≤ M + 1 := by omega
  have hM5 : M ≤ 5000 := by omega
  have HLe : Hid (∀ w, Calls Tryd.prog 13 #[.int .i64 N] w fun e w' => e = .returned (.int .i64 L) ∧ w = w') := Lib.hid fun w => by
    have := CLeast_any N w
    rw [if_neg (by omega), eL] at this
    exact this
  have eM2 : wrap64 (2 * (N : Int) - 1 + (R : Int)) = (M : Int) := by rw [eL, eM]; exact IntWalk.wrap64_in _ (by omega)
  rw [eM2]
  clear eM eM2 HR
  go_upto_region 15 with (first
    | (go_at_call 20; (refine (COther_any N M _ hN1 hMb (by omega)).mono ?_); rintro e w5 ⟨gO, xs, rfl, hox, hpx, hk5⟩; have HO : Hid (Has w5 gO M (oth N M N)) := Lib.hid (Has.own hox (Nat.le_refl _) hpx); clear hox hpx)
    | (go_at_call 13; (with_reducible refine (HLe.out _).mono ?_); rintro e w6 ⟨rfl, rfl⟩))
  have hk05 := hk04.trans hk5
  clear HLe hk5 hk04
  go_wp2_with fail
  go_loopw [17, 18] (fun a b wr => ∃ i : Nat, 1 ≤ i ∧ i ≤ M ∧ a = .int .i64 (noughts N M i) ∧ b = .int .i64 i ∧ Kp w5 wr) (fun _ b _ => M - (intOf b).toNat)
  case atStart => exact ⟨1, by omega, by omega, by rw [noughts_one hN1]; rfl, rfl, Kp.refl _⟩
  case round =>
    obtain ⟨i, i1, iM, rfl, rfl, hkr⟩ := hrel
    by_cases hlt : i < M
    · obtain ⟨p, hp⟩ : ∃ p, M - i = p := ⟨_, rfl⟩
      have ep : (M : Int) - (i : Int) = (p : Int) := by omega
      have hpM : p < M := by omega
      obtain ⟨c1, s1, q1, hc1, hs1⟩ := (HO.out.kp hkr) i hlt
      obtain ⟨c2, s2, q2, hc2, hs2⟩ := (HO.out.kp hkr) p hpM
      have hend := oth_end hMb i1 hlt
      rw [hp] at hend
      have HE : Hid (cn c1 = cn c2 ∧ cn s1 = cn s2) := Lib.hid ⟨by rw [hc1, hc2, hend], by rw [hs1, hs2, hend]⟩
      have key : ((ord (cn c1) 0 == some .eq) = true ∧ (ord (cn s1) 0 == some .eq) = true ∧ noughts N M (i + 1) = noughts N M i + 1) ∨ (((ord (cn c1) 0 == some .eq) = false ∨ (ord (cn s1) 0 == some .eq) = false) ∧ noughts N M (i + 1) = noughts N M i) := by
        by_cases hmid : i < N ∨ M - i < N
        · right
          refine ⟨?_, noughts_rim hMb hlt hmid⟩
          rw [hc1, hs1]
          exact oth_rim hN1 hN2 hmid
        · left
          refine ⟨?_, ?_, noughts_mid hMb hlt (by omega) (by omega)⟩
          · rw [hc1, oth_mid (by omega) (by omega)]; exact z8
          · rw [hs1, oth_mid (by omega) (by omega)]; exact z8
      have hzb : noughts N M i ≤ M := by unfold noughts; omega
      generalize noughts N M i = z at *
      clear hc1 hs1 hc2 hs2 hend hp
      rcases key with ⟨p1, p2, hz⟩ | ⟨p1 | p1, hz⟩
      all_goals
        have HZ := Lib.hid hz
        clear hz
        go_wp2_with fail
        go_quiet ((go_at_call 12; exact Calls.quiet_of_same ((dsame_yes _ _ _ _ _ HE.out.1 HE.out.2).mono fun e w' ⟨he, hw⟩ => ⟨he, hw.symm⟩)))
        go_wp2_with fail
        go_roundw
        case rel => exact ⟨i + 1, by omega, by omega, by rw [HZ.out]; try (first | rfl | go_num), by go_num, hkr.drewN nq⟩
        case measure => simp [intOf]; omega
    · obtain rfl : i = M := by omega
      rw [noughts_all hN1 hMb, hL]
      obtain ⟨z, hz⟩ : ∃ z, i - L = z := ⟨_, rfl⟩
      have ez : (i : Int) - (L : Int) = (z : Int) := by omega
      rw [hz]
      go_upto_region 24 with (go_at_call 15; (refine (CSize_any N _ hN1 (by omega)).mono ?_); rintro e w7 ⟨x, rfl, HX, rfl⟩)
      obtain ⟨⟨hx1, hx2, a, ha⟩, hx3⟩ := HX.out
      rw [hL] at hx1 hx2
      have HA := Lib.hid ha
      have dx1 : decide ((L : Int) ≤ (x : Int)) = true := by simp; omega
      have dx2 : decide ((x : Int) < 2 * (L : Int)) = true := by simp; omega
      have hL2 : L ≤ 4000 := by omega
      have hx4 : 1 ≤ x := by omega
      have eA : bits BinOp.and IntKind.i64 (x : Int) ((x : Int) - 1) = 0 := by
        have h15 : a < 15 := by
          rcases Nat.lt_or_ge a 15 with c | c
          · exact c
          · have := Nat.pow_le_pow_right (show 0 < 2 by decide) c
            omega
        rw [ha]; exact and_two a h15
      have e1 : bits BinOp.and IntKind.i64 1 0 = 0 := by decide +kernel
      clear ha HX HO hlt hz hM hMb iM
      go_wp2_with fail
      all_goals
        go_ret
        exact ⟨rfl, hk05.trans hkr⟩
end Go.Proofs.YtnkcjbabfckdgaaDoor
