/-
  The walk of PrimesGcd: Euclid's step, order, signs, every common divisor.
-/
import Derived.Test.YtifbcaiegalhbaaDoorPModulo
import Derived.Deep.DeepCutAuto
namespace Go.Proofs.YtifbcaiegalhbaaDoor
open Go Go.RowKit Go.Fl Go.Pr

theorem gcdI_comm (a b : Int) : gcdI a b = gcdI b a := by unfold gcdI; rw [Int.gcd_comm]
theorem gcdI_step (a b : Int) : gcdI b (a.tmod b) = gcdI a b := by
  unfold gcdI
  congr 2
  show Nat.gcd b.natAbs (a.tmod b).natAbs = Nat.gcd a.natAbs b.natAbs
  rw [Int.natAbs_tmod, Nat.gcd_comm, ← Nat.gcd_rec, Nat.gcd_comm]
theorem gcdI_neg (a b : Int) : gcdI (-a) b = gcdI a b := by unfold gcdI; rw [Int.neg_gcd]
/-- The number g: it is the divisor, or 2^63's wrap. -/
theorem gcdI_cases (a b : Int) (h1 : -9223372036854775808 ≤ a) (h2 : a ≤ 9223372036854775807) (h3 : -9223372036854775808 ≤ b) (h4 : b ≤ 9223372036854775807) :
    (gcdI a b = 0 ∧ a = 0 ∧ b = 0) ∨ (gcdI a b = -9223372036854775808 ∧ (a = -9223372036854775808 ∨ a = 0) ∧ (b = -9223372036854775808 ∨ b = 0)) ∨
      (0 < gcdI a b ∧ gcdI a b ≤ 9223372036854775807 ∧ a.tmod (gcdI a b) = 0 ∧ b.tmod (gcdI a b) = 0 ∧ ∀ d : Int, a.tmod d = 0 → b.tmod d = 0 → (gcdI a b).tmod d = 0) := by
  have hA : a.natAbs ≤ 9223372036854775808 := by omega
  have hB : b.natAbs ≤ 9223372036854775808 := by omega
  have hda := Int.gcd_dvd_left (a := a) (b := b)
  have hdb := Int.gcd_dvd_right (a := a) (b := b)
  have hna : Int.gcd a b ∣ a.natAbs := Nat.gcd_dvd_left _ _
  have hnb : Int.gcd a b ∣ b.natAbs := Nat.gcd_dvd_right _ _
  have hgr : ∀ d : Int, d ∣ a → d ∣ b → d ∣ (Int.gcd a b : Int) := fun d h1 h2 => Int.dvd_coe_gcd h1 h2
  have h0 : Int.gcd a b = 0 → a = 0 ∧ b = 0 := fun h => Int.gcd_eq_zero_iff.1 h
  unfold gcdI
  generalize Int.gcd a b = G at *
  have hGb : G ≤ 9223372036854775808 := by
    by_cases ha : a.natAbs = 0
    · by_cases hb : b.natAbs = 0
      · rw [ha] at hna; rw [hb] at hnb
        refine Nat.le_of_not_lt fun h => ?_
        have := hgr 9223372036854775809 (by rw [Int.natAbs_eq_zero.1 ha]; exact Int.dvd_zero _) (by rw [Int.natAbs_eq_zero.1 hb]; exact Int.dvd_zero _)
        have h5 := hgr 0 (by rw [Int.natAbs_eq_zero.1 ha]; exact Int.dvd_refl _) (by rw [Int.natAbs_eq_zero.1 hb]; exact Int.dvd_refl _)
        have := Int.zero_dvd.1 h5
        omega
      · exact Nat.le_trans (Nat.le_of_dvd (by omega) hnb) hB
    · exact Nat.le_trans (Nat.le_of_dvd (by omega) hna) hA
  by_cases hG0 : G = 0
  · left
    subst hG0
    exact ⟨by unfold wrap64; omega, h0 rfl⟩
  · by_cases hG : G = 9223372036854775808
    · right; left
      subst hG
      refine ⟨by unfold wrap64; omega, ?_, ?_⟩
      · rcases Nat.eq_zero_or_pos a.natAbs with h | h
        · right; omega
        · have := Nat.le_of_dvd h hna
          left; omega
      · rcases Nat.eq_zero_or_pos b.natAbs with h | h
        · right; omega
        · have := Nat.le_of_dvd h hnb
          left; omega
    · right; right
      have e : wrap64 ((G : Nat) : Int) = (G : Int) := by unfold wrap64; omega
      rw [e]
      exact ⟨by omega, by omega, Int.tmod_eq_zero_of_dvd hda, Int.tmod_eq_zero_of_dvd hdb, fun d h5 h6 => Int.tmod_eq_zero_of_dvd (hgr d (Int.dvd_of_tmod_eq_zero h5) (Int.dvd_of_tmod_eq_zero h6))⟩
set_option maxRecDepth 100000 in
set_option maxHeartbeats 2000000 in
theorem walk_PrimesGcd (a : Int) (wa : (Lit.int .i64 a).wf = true) (b : Int) (wb : (Lit.int .i64 b).wf = true) (d : Int) (wd : (Lit.int .i64 d).wf = true) (E : Nat → Addr) (w : World) (hE : Ers w E) :
    Calls Tryd.prog 4 #[.int .i64 a, .int .i64 b, .int .i64 d] w fun e w' => e = .returned (.bool true) ∧ Kp w w' := by
  obtain ⟨a1, a2⟩ := wf_i wa
  obtain ⟨b1, b2⟩ := wf_i wb
  obtain ⟨g, hg⟩ : ∃ g, gcdI a b = g := ⟨_, rfl⟩
  have C1 : Hid (∀ w', Calls Tryd.prog 21 #[.int .i64 a, .int .i64 b] w' fun e w'' => e = .returned (.int .i64 g) ∧ Dr w' w'') := Lib.hid fun w' => by rw [← hg]; exact Gcd_any a b w' a1 a2 b1 b2
  have C2 : Hid (∀ w', Calls Tryd.prog 21 #[.int .i64 b, .int .i64 a] w' fun e w'' => e = .returned (.int .i64 g) ∧ Dr w' w'') := Lib.hid fun w' => by rw [← hg, gcdI_comm]; exact Gcd_any b a w' b1 b2 a1 a2
  have C3 : Hid (b ≠ 0 → ∀ w', Calls Tryd.prog 21 #[.int .i64 b, .int .i64 (a.tmod b)] w' fun e w'' => e = .returned (.int .i64 g) ∧ Dr w' w'') := Lib.hid fun h w' => by
    rw [← hg, ← gcdI_step]
    have h5 : (a.tmod b).natAbs ≤ a.natAbs := by rw [Int.natAbs_tmod]; exact Nat.mod_le _ _
    have h6 : b.natAbs ≠ 0 := by omega
    have h7 : (a.tmod b).natAbs < b.natAbs := by rw [Int.natAbs_tmod]; exact Nat.mod_lt _ (by omega)
    exact Gcd_any b (a.tmod b) w' b1 b2 (by omega) (by omega)
  have C4 : Hid (a ≠ -9223372036854775808 → ∀ w', Calls Tryd.prog 21 #[.int .i64 (-a), .int .i64 b] w' fun e w'' => e = .returned (.int .i64 g) ∧ Dr w' w'') := Lib.hid fun h w' => by
    rw [← hg, ← gcdI_neg]
    exact Gcd_any (-a) b w' (by omega) (by omega) b1 b2
  have HC := Lib.hid (gcdI_cases a b a1 a2 b1 b2)
  rw [hg] at HC
  have HE := Lib.hid hE
  clear wa wb wd hE hg
  go_enter Tryd.func4, Tryd.ntmps4
  go_upto_region 4 with (first
    | (go_at_call 11; (with_reducible refine (fixed_any E _ HE.out).mono ?_); rintro e w0 ⟨rfl, hk0⟩)
    | (go_at_call 21; (with_reducible refine (C1.out _).mono ?_); rintro e w1 ⟨rfl, hk1⟩; have hk := hk0.trans hk1.kp; clear hk0 hk1))
  go_cut [42] (fun c wx => c = .bool false ∧ Kp w wx)
  case first =>
    by_cases hb : b = 0
    · subst hb
      by_cases ha : a = -9223372036854775808
      · have d1 : (a != -9223372036854775808) = false := by rw [ha]; rfl
        clear ha
        go_wp2_with (go_at_call 21; (with_reducible refine (C2.out _).mono ?_); rintro e w2 ⟨rfl, hk2⟩; clear C2)
        go_meet
        exact ⟨rfl, hk.trans hk2.kp⟩
      · have d1 : (a != -9223372036854775808) = true := by rw [bne_iff_ne]; exact ha
        have e1 : IntKind.i64.wrap (-a) = -a := IntWalk.i64_in _ (by omega)
        have HA := Lib.hid (C4.out ha)
        clear ha
        go_wp2_with (first
          | (go_at_call 21; (with_reducible refine (C2.out _).mono ?_); rintro e w2 ⟨rfl, hk2⟩; clear C2)
          | (go_at_call 21; (with_reducible refine (HA.out _).mono ?_); rintro e w3 ⟨rfl, hk3⟩; clear HA))
        go_meet
        exact ⟨rfl, (hk.trans hk2.kp).trans hk3.kp⟩
    · have d0 : (b != 0) = true := by rw [bne_iff_ne]; exact hb
      have HB := Lib.hid (C3.out hb)
      by_cases ha : a = -9223372036854775808
      · have d1 : (a != -9223372036854775808) = false := by rw [ha]; rfl
        clear ha
        go_wp2_with (first
          | (go_at_call 21; (with_reducible refine (C2.out _).mono ?_); rintro e w2 ⟨rfl, hk2⟩; clear C2)
          | (go_at_call 21; (with_reducible refine (HB.out _).mono ?_); rintro e w3 ⟨rfl, hk3⟩; clear HB))
        go_meet
        exact ⟨rfl, (hk.trans hk2.kp).trans hk3.kp⟩
      · have d1 : (a != -9223372036854775808) = true := by rw [bne_iff_ne]; exact ha
        have e1 : IntKind.i64.wrap (-a) = -a := IntWalk.i64_in _ (by omega)
        have HA := Lib.hid (C4.out ha)
        clear ha
        go_wp2_with (first
          | (go_at_call 21; (with_reducible refine (C2.out _).mono ?_); rintro e w2 ⟨rfl, hk2⟩; clear C2)
          | (go_at_call 21; (with_reducible refine (HB.out _).mono ?_); rintro e w3 ⟨rfl, hk3⟩; clear HB)
          | (go_at_call 21; (with_reducible refine (HA.out _).mono ?_); rintro e w4 ⟨rfl, hk4⟩; clear HA))
        go_meet
        exact ⟨rfl, ((hk.trans hk2.kp).trans hk3.kp).trans hk4.kp⟩
  case rest =>
    obtain ⟨rfl, hk⟩ := hcut
    clear C1 C2 C3 C4
    rcases HC.out with ⟨rfl, rfl, rfl⟩ | ⟨rfl, ha, hb⟩ | ⟨g0, g1, ga, gb, gd⟩
    · go_wp2_with fail
      go_ret
      exact ⟨rfl, hk⟩
    · rcases ha with rfl | rfl <;> rcases hb with rfl | rfl
      all_goals
        go_wp2_with fail
        go_ret
        exact ⟨rfl, hk⟩
    · have n0 : (g == 0) = false := by rw [beq_eq_false_iff_ne]; omega
      have n0' : ¬ g = 0 := by omega
      have n1 : (g == -9223372036854775808) = false := by rw [beq_eq_false_iff_ne]; omega
      have n2 : decide (g < 0) = false := by simp; omega
      have GD := Lib.hid gd
      clear gd
      by_cases hd0 : d = 0
      · subst hd0
        go_wp2_with fail
        go_ret
        exact ⟨rfl, hk⟩
      · have m0 : (d == 0) = false := by rw [beq_eq_false_iff_ne]; exact hd0
        by_cases hd1 : d = -1
        · subst hd1
          go_wp2_with fail
          go_ret
          exact ⟨rfl, hk⟩
        · have m1 : (d == -1) = false := by rw [beq_eq_false_iff_ne]; exact hd1
          by_cases hda : a.tmod d = 0
          · by_cases hdb : b.tmod d = 0
            · have hdg := GD.out d hda hdb
              go_wp2_with fail
              go_ret
              exact ⟨rfl, hk⟩
            · have m2 : (b.tmod d != 0) = true := by rw [bne_iff_ne]; exact hdb
              go_wp2_with fail
              go_ret
              exact ⟨rfl, hk⟩
          · have m2 : (a.tmod d != 0) = true := by rw [bne_iff_ne]; exact hda
            go_wp2_with fail
            go_ret
            exact ⟨rfl, hk⟩
end Go.Proofs.YtifbcaiegalhbaaDoor
