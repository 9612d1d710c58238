/-
  The walk of RootsTurned.
-/
import Derived.Test.YtijbkcjbkioefaaDoorRPlaces
import Derived.Test.YtijbkcjbkioefaaDoorRScale
namespace Go.Proofs.YtijbkcjbkioefaaDoor
open Go Go.RowKit Go.Fl Go.Roots

set_option maxRecDepth 100000 in
set_option maxHeartbeats 400000 in
theorem equal_yes (a1 a2 b1 b2 : Nat) (w : World) (f1 : Fin1 (cn a1)) (f2 : Fin1 (cn a2)) (h1 : EQv (cn a1) (cn b1)) (h2 : EQv (cn a2) (cn b2)) :
    Calls Tryd.prog 26 #[.complex .f64 a1 a2, .complex .f64 b1 b2] w fun e w' => e = .returned (.bool true) ∧ w = w' := by
  have t1 := ord_eq_of f1 h1
  have t2 := ord_eq_of f2 h2
  have e0 := cn_0
  have n1 : (ord (cn a1) 0 == some .eq) = false → cn a1 = cn b1 := fun h => by
    rcases h1 with h1 | ⟨z, _⟩
    · exact h1
    · rw [ord_of_Zw z] at h; cases h
  have n2 : (ord (cn a2) 0 == some .eq) = false → cn a2 = cn b2 := fun h => by
    rcases h2 with h2 | ⟨z, _⟩
    · exact h2
    · rw [ord_of_Zw z] at h; cases h
  have N1 := Lib.hid n1
  have N2 := Lib.hid n2
  clear n1 n2 h1 h2 f1 f2
  by_cases z1 : (ord (cn a1) 0 == some .eq) = true
  · go_enter Tryd.func26, Tryd.ntmps26
    go_wp2_with fail
    go_ret
    exact ⟨rfl, rfl⟩
  · have z1' : (ord (cn a1) 0 == some .eq) = false := by simpa using z1
    clear z1
    by_cases z2 : (ord (cn a2) 0 == some .eq) = true
    · go_enter Tryd.func26, Tryd.ntmps26
      go_wp2_with fail
      go_ret
      exact ⟨rfl, rfl⟩
    · have z2' : (ord (cn a2) 0 == some .eq) = false := by simpa using z2
      clear z2
      have M1 := Lib.hid (N1.out z1')
      have M2 := Lib.hid (N2.out z2')
      go_enter Tryd.func26, Tryd.ntmps26
      go_wp2_with (go_at_call 14; (with_reducible refine (same_yes _ _ _ _ _ M1.out M2.out).mono ?_); rintro e w1 ⟨rfl, rfl⟩)
      go_ret
      exact ⟨rfl, rfl⟩

theorem shift_one (j : Nat) (hj : j < 8) (w : World) : (Op.shift BinOp.shl IntKind.i64 1 IntKind.u64 (j : Int)).run Tryd.prog w = .ok (.int .i64 (P2 j)) w := by
  rw [P2_def]
  have h : j = 0 ∨ j = 1 ∨ j = 2 ∨ j = 3 ∨ j = 4 ∨ j = 5 ∨ j = 6 ∨ j = 7 := by omega
  rcases h with rfl | rfl | rfl | rfl | rfl | rfl | rfl | rfl <;> rfl
theorem shift_by (m : Int) : ∃ B : Int, (∀ w, (Op.shift BinOp.shl IntKind.i64 1 IntKind.u64 ((IntKind.u64.wrap m).tmod 8)).run Tryd.prog w = .ok (.int .i64 B) w) ∧ 1 ≤ B ∧ B ≤ 128 ∧
    ∀ n k : Int, 1 ≤ n → n ≤ 4194303 → root (n * B) (k * B) = root n k := by
  obtain ⟨j, hj, hj8⟩ : ∃ j : Nat, (IntKind.u64.wrap m).tmod 8 = j ∧ j < 8 := by
    rw [show IntKind.u64.wrap m = m % 18446744073709551616 from rfl, Int.tmod_eq_emod_of_nonneg (by omega)]
    exact ⟨(m % 18446744073709551616 % 8).toNat, by omega, by omega⟩
  refine ⟨P2 j, fun w => by rw [hj]; exact shift_one j hj8 w, ?_, ?_, fun n k h1 h2 => root_up n k j h1 h2 (by omega)⟩
  · have := P2_pos j; omega
  · have := P2_mono (show j ≤ 7 by omega); rw [P2_def 7] at this; omega
theorem turned_back (n k : Int) (h1 : 1 ≤ n) (h2 : n ≤ 4194304) : EQv (root n (-k)).1 (root n k).1 ∧ EQv (root n (-k)).2 (neg (root n k).2) := by
  have a := root_EQ n (-k) h1 h2
  have b := root_EQ n k h1 h2
  have c := conj_turn n k h1 h2
  exact ⟨(a.1.trans c.1).trans b.1.symm, (a.2.trans c.2.neg).trans b.2.neg.symm⟩
theorem turned_half (n k : Int) (h1 : 1 ≤ n) (h2 : n ≤ 4194304) (h4 : n % 2 = 0) : EQv (root n (k + n / 2)).1 (neg (root n k).1) ∧ EQv (root n (k + n / 2)).2 (neg (root n k).2) := by
  have a := root_EQ n (k + n / 2) h1 h2
  have b := root_EQ n k h1 h2
  rw [half_turn n k h1 h2 h4] at a
  exact ⟨a.1.trans b.1.neg.symm, a.2.trans b.2.neg.symm⟩
theorem turned_quarter (n k : Int) (h1 : 1 ≤ n) (h2 : n ≤ 4194304) (h4 : n % 4 = 0) : EQv (root n (k + n / 4)).1 (root n k).2 ∧ EQv (root n (k + n / 4)).2 (neg (root n k).1) := by
  have a := root_EQ n (k + n / 4) h1 h2
  have b := root_EQ n k h1 h2
  rw [quarter_turn n k h1 h2 h4] at a
  exact ⟨a.1.trans b.2.symm, a.2.trans b.1.neg.symm⟩

set_option maxRecDepth 100000 in
set_option maxHeartbeats 1000000 in
theorem walk_RootsTurned (n0 : Int) (hwn : (Lit.int .i64 n0).wf = true) (k0 : Int) (_ : (Lit.int .i64 k0).wf = true) (m : Int) (_ : (Lit.int .i64 m).wf = true) (w : World) :
    Calls Tryd.prog 6 #[.int .i64 n0, .int .i64 k0, .int .i64 m] w fun e w' => e = .returned (.bool true) ∧ Kp w w' := by
  go_enter Tryd.func6, Tryd.ntmps6
  go_wp2_with fail
  refine (lives_any _).mono ?_
  rintro e w1 ⟨rfl, hk1⟩
  go_wp2_with fail
  refine (fit_any _ _ _ hwn).mono ?_
  rintro e w2 ⟨k, rfl, kl, ku, rfl⟩
  have n1 : 1 ≤ 1 + n0 % 4194304 := by omega
  have n2 : 1 + n0 % 4194304 ≤ 4194304 := by omega
  generalize 1 + n0 % 4194304 = n at n1 n2 ⊢
  clear hwn
  go_wp2_with fail
  refine (Root_any _ _ _ n1 n2).mono ?_
  rintro e w3 ⟨c, s, rfl, hc, hs, hk3⟩
  go_wp2_with fail
  refine (Root_any _ _ _ n1 n2).mono ?_
  rintro e w4 ⟨c4, s4, rfl, hc4, hs4, hk4⟩
  go_wp2_with fail
  refine (Root_any _ _ _ n1 n2).mono ?_
  rintro e w5 ⟨c5, s5, rfl, hc5, hs5, hk5⟩
  rw [whole_turn] at hc4 hs4
  have u := unit_root n k n1 n2
  have u5 := unit_root n (-k) n1 n2
  have tb := turned_back n k n1 n2
  have q1 : Fin1 (cn c5) := by rw [hc5]; exact u5.1.fin1
  have q2 : Fin1 (cn s5) := by rw [hs5]; exact u5.2.fin1
  have q3 : EQv (cn c5) (cn c) := by rw [hc5, hc]; exact tb.1
  have q4 : EQv (cn s5) (cn (Op.negFloat .f64 s)) := by rw [hs5, cn_negFloat, hs]; exact tb.2
  have Q : Hid _ := Lib.hid (And.intro q1 (And.intro q2 (And.intro q3 q4)))
  have S : Hid _ := Lib.hid (And.intro (hc.trans hc4.symm) (hs.trans hs4.symm))
  clear q1 q2 q3 q4 tb u5 hc5 hs5 hc4 hs4
  go_wp2_with fail
  refine (same_yes _ _ _ _ _ S.out.1 S.out.2).mono ?_
  rintro e w6 ⟨rfl, rfl⟩
  go_wp2_with fail
  refine (equal_yes _ _ _ _ _ Q.out.1 Q.out.2.1 Q.out.2.2.1 Q.out.2.2.2).mono ?_
  rintro e w6 ⟨rfl, rfl⟩
  clear Q S
  obtain ⟨B, hsh, hb1, hb2, hup⟩ := shift_by m
  have m1 : 1 ≤ n * B := by have := Int.mul_le_mul n1 hb1 (by omega) (by omega); omega
  have m2 : n * B ≤ 536870912 := by have := Int.mul_le_mul n2 hb2 (by omega) (by omega); omega
  have m3 : k * B ≤ 140737488355328 := by have := Int.mul_le_mul (Int.le_of_lt ku) hb2 (by omega) (by omega); omega
  have m4 : -140737488355328 ≤ k * B := by
    have := Int.mul_le_mul (show -k ≤ 1099511627776 by omega) hb2 (by omega) (by omega)
    rw [Int.neg_mul] at this; omega
  have hup2 : n * B ≤ 4194304 → root (n * B) (k * B) = root n k := fun h => by
    by_cases h3 : n ≤ 4194303
    · exact hup n k n1 h3
    · have hn : n = 4194304 := by omega
      have hB : B = 1 := by rw [hn] at h; omega
      rw [hB, Int.mul_one, Int.mul_one]
  have HU := Lib.hid hup2
  clear hup hup2
  have ts : (ord (pair n k).2 (neg (root n k).2) == some .eq) = true := ord_eq_of (unit_pair n k n1 n2).2.fin1 (sin_EQ n k n1 n2)
  clear u
  by_cases hb : n * B ≤ 4194304
  · by_cases h2 : n % 2 = 0
    · by_cases h4 : n % 4 = 0
      · have hU := HU.out hb
        go_wp2_with fail
        refine (Root_any _ _ _ m1 hb).mono ?_
        rintro e w7 ⟨c7, s7, rfl, hc7, hs7, hk7⟩
        rw [hU] at hc7 hs7
        have S : Hid _ := Lib.hid (And.intro (hc7.trans hc.symm) (hs7.trans hs.symm))
        clear hU HU hc7 hs7
        go_wp2_with fail
        refine (same_yes _ _ _ _ _ S.out.1 S.out.2).mono ?_
        rintro e w8 ⟨rfl, rfl⟩
        clear S
        have th := turned_half n k n1 n2 h2
        have uh := unit_root n (k + n / 2) n1 n2
        have TH := Lib.hid th
        have UH := Lib.hid uh
        have b2 : (n % 2 == 0) = true := by simp [h2]
        clear th uh h2
        go_wp2_with fail
        refine (Root_any _ _ _ n1 n2).mono ?_
        rintro e w9 ⟨c9, s9, rfl, hc9, hs9, hk9⟩
        have Q : Hid (Fin1 (cn c9) ∧ Fin1 (cn s9) ∧ EQv (cn c9) (cn (Op.negFloat .f64 c)) ∧ EQv (cn s9) (cn (Op.negFloat .f64 s))) := by
          refine Lib.hid ?_
          rw [hc9, hs9, cn_negFloat, cn_negFloat, hc, hs]
          exact ⟨UH.out.1.fin1, UH.out.2.fin1, TH.out.1, TH.out.2⟩
        clear hc9 hs9 TH UH
        go_wp2_with fail
        refine (equal_yes _ _ _ _ _ Q.out.1 Q.out.2.1 Q.out.2.2.1 Q.out.2.2.2).mono ?_
        rintro e w10 ⟨rfl, rfl⟩
        clear Q
        have th := turned_quarter n k n1 n2 h4
        have uh := unit_root n (k + n / 4) n1 n2
        have TH := Lib.hid th
        have UH := Lib.hid uh
        have b4 : (n % 4 == 0) = true := by simp [h4]
        clear th uh h4
        go_wp2_with fail
        refine (Root_any _ _ _ n1 n2).mono ?_
        rintro e w11 ⟨c11, s11, rfl, hc11, hs11, hk11⟩
        have Q : Hid (Fin1 (cn c11) ∧ Fin1 (cn s11) ∧ EQv (cn c11) (cn s) ∧ EQv (cn s11) (cn (Op.negFloat .f64 c))) := by
          refine Lib.hid ?_
          rw [hc11, hs11, cn_negFloat, hc, hs]
          exact ⟨UH.out.1.fin1, UH.out.2.fin1, TH.out.1, TH.out.2⟩
        clear hc11 hs11 TH UH
        go_wp2_with fail
        refine (equal_yes _ _ _ _ _ Q.out.1 Q.out.2.1 Q.out.2.2.1 Q.out.2.2.2).mono ?_
        rintro e w12 ⟨rfl, rfl⟩
        clear Q
        go_wp2_with fail
        refine (Cos_any _ _ _ n1 n2).mono ?_
        rintro e w13 ⟨c13, rfl, hc13, hk13⟩
        have S : Hid (cn c13 = cn c) := Lib.hid (hc13.trans hc.symm)
        clear hc13
        go_wp2_with fail
        refine (Sin_any _ _ _ n1 n2).mono ?_
        rintro e w14 ⟨c14, rfl, hc14, hk14⟩
        go_wp2_with fail
        refine (Same_yes _ _ _ S.out).mono ?_
        rintro e w15 ⟨rfl, rfl⟩
        clear S
        go_wp2_with fail
        go_ret
        exact ⟨rfl, by repeat (first | exact Kp.refl _ | refine Kp.drewN ?_ _ | refine Kp.trans ?_ (by assumption))⟩
      · have hU := HU.out hb
        go_wp2_with fail
        refine (Root_any _ _ _ m1 hb).mono ?_
        rintro e w7 ⟨c7, s7, rfl, hc7, hs7, hk7⟩
        rw [hU] at hc7 hs7
        have S : Hid _ := Lib.hid (And.intro (hc7.trans hc.symm) (hs7.trans hs.symm))
        clear hU HU hc7 hs7
        go_wp2_with fail
        refine (same_yes _ _ _ _ _ S.out.1 S.out.2).mono ?_
        rintro e w8 ⟨rfl, rfl⟩
        clear S
        have th := turned_half n k n1 n2 h2
        have uh := unit_root n (k + n / 2) n1 n2
        have TH := Lib.hid th
        have UH := Lib.hid uh
        have b2 : (n % 2 == 0) = true := by simp [h2]
        clear th uh h2
        go_wp2_with fail
        refine (Root_any _ _ _ n1 n2).mono ?_
        rintro e w9 ⟨c9, s9, rfl, hc9, hs9, hk9⟩
        have Q : Hid (Fin1 (cn c9) ∧ Fin1 (cn s9) ∧ EQv (cn c9) (cn (Op.negFloat .f64 c)) ∧ EQv (cn s9) (cn (Op.negFloat .f64 s))) := by
          refine Lib.hid ?_
          rw [hc9, hs9, cn_negFloat, cn_negFloat, hc, hs]
          exact ⟨UH.out.1.fin1, UH.out.2.fin1, TH.out.1, TH.out.2⟩
        clear hc9 hs9 TH UH
        go_wp2_with fail
        refine (equal_yes _ _ _ _ _ Q.out.1 Q.out.2.1 Q.out.2.2.1 Q.out.2.2.2).mono ?_
        rintro e w10 ⟨rfl, rfl⟩
        clear Q
        have b4 : (n % 4 == 0) = false := by simp; omega
        clear h4
        go_wp2_with fail
        refine (Cos_any _ _ _ n1 n2).mono ?_
        rintro e w13 ⟨c13, rfl, hc13, hk13⟩
        have S : Hid (cn c13 = cn c) := Lib.hid (hc13.trans hc.symm)
        clear hc13
        go_wp2_with fail
        refine (Sin_any _ _ _ n1 n2).mono ?_
        rintro e w14 ⟨c14, rfl, hc14, hk14⟩
        go_wp2_with fail
        refine (Same_yes _ _ _ S.out).mono ?_
        rintro e w15 ⟨rfl, rfl⟩
        clear S
        go_wp2_with fail
        go_ret
        exact ⟨rfl, by repeat (first | exact Kp.refl _ | refine Kp.drewN ?_ _ | refine Kp.trans ?_ (by assumption))⟩
    · have h4 : n % 4 ≠ 0 := by omega
      have hU := HU.out hb
      go_wp2_with fail
      refine (Root_any _ _ _ m1 hb).mono ?_
      rintro e w7 ⟨c7, s7, rfl, hc7, hs7, hk7⟩
      rw [hU] at hc7 hs7
      have S : Hid _ := Lib.hid (And.intro (hc7.trans hc.symm) (hs7.trans hs.symm))
      clear hU HU hc7 hs7
      go_wp2_with fail
      refine (same_yes _ _ _ _ _ S.out.1 S.out.2).mono ?_
      rintro e w8 ⟨rfl, rfl⟩
      clear S
      have b2 : (n % 2 == 0) = false := by simp; omega
      have b4 : (n % 4 == 0) = false := by simp; omega
      clear h4
      clear h2
      go_wp2_with fail
      refine (Cos_any _ _ _ n1 n2).mono ?_
      rintro e w13 ⟨c13, rfl, hc13, hk13⟩
      have S : Hid (cn c13 = cn c) := Lib.hid (hc13.trans hc.symm)
      clear hc13
      go_wp2_with fail
      refine (Sin_any _ _ _ n1 n2).mono ?_
      rintro e w14 ⟨c14, rfl, hc14, hk14⟩
      go_wp2_with fail
      refine (Same_yes _ _ _ S.out).mono ?_
      rintro e w15 ⟨rfl, rfl⟩
      clear S
      go_wp2_with fail
      go_ret
      exact ⟨rfl, by repeat (first | exact Kp.refl _ | refine Kp.drewN ?_ _ | refine Kp.trans ?_ (by assumption))⟩
  · by_cases h2 : n % 2 = 0
    · by_cases h4 : n % 4 = 0
      · clear HU
        have th := turned_half n k n1 n2 h2
        have uh := unit_root n (k + n / 2) n1 n2
        have TH := Lib.hid th
        have UH := Lib.hid uh
        have b2 : (n % 2 == 0) = true := by simp [h2]
        clear th uh h2
        go_wp2_with fail
        refine (Root_any _ _ _ n1 n2).mono ?_
        rintro e w9 ⟨c9, s9, rfl, hc9, hs9, hk9⟩
        have Q : Hid (Fin1 (cn c9) ∧ Fin1 (cn s9) ∧ EQv (cn c9) (cn (Op.negFloat .f64 c)) ∧ EQv (cn s9) (cn (Op.negFloat .f64 s))) := by
          refine Lib.hid ?_
          rw [hc9, hs9, cn_negFloat, cn_negFloat, hc, hs]
          exact ⟨UH.out.1.fin1, UH.out.2.fin1, TH.out.1, TH.out.2⟩
        clear hc9 hs9 TH UH
        go_wp2_with fail
        refine (equal_yes _ _ _ _ _ Q.out.1 Q.out.2.1 Q.out.2.2.1 Q.out.2.2.2).mono ?_
        rintro e w10 ⟨rfl, rfl⟩
        clear Q
        have th := turned_quarter n k n1 n2 h4
        have uh := unit_root n (k + n / 4) n1 n2
        have TH := Lib.hid th
        have UH := Lib.hid uh
        have b4 : (n % 4 == 0) = true := by simp [h4]
        clear th uh h4
        go_wp2_with fail
        refine (Root_any _ _ _ n1 n2).mono ?_
        rintro e w11 ⟨c11, s11, rfl, hc11, hs11, hk11⟩
        have Q : Hid (Fin1 (cn c11) ∧ Fin1 (cn s11) ∧ EQv (cn c11) (cn s) ∧ EQv (cn s11) (cn (Op.negFloat .f64 c))) := by
          refine Lib.hid ?_
          rw [hc11, hs11, cn_negFloat, hc, hs]
          exact ⟨UH.out.1.fin1, UH.out.2.fin1, TH.out.1, TH.out.2⟩
        clear hc11 hs11 TH UH
        go_wp2_with fail
        refine (equal_yes _ _ _ _ _ Q.out.1 Q.out.2.1 Q.out.2.2.1 Q.out.2.2.2).mono ?_
        rintro e w12 ⟨rfl, rfl⟩
        clear Q
        go_wp2_with fail
        refine (Cos_any _ _ _ n1 n2).mono ?_
        rintro e w13 ⟨c13, rfl, hc13, hk13⟩
        have S : Hid (cn c13 = cn c) := Lib.hid (hc13.trans hc.symm)
        clear hc13
        go_wp2_with fail
        refine (Sin_any _ _ _ n1 n2).mono ?_
        rintro e w14 ⟨c14, rfl, hc14, hk14⟩
        go_wp2_with fail
        refine (Same_yes _ _ _ S.out).mono ?_
        rintro e w15 ⟨rfl, rfl⟩
        clear S
        go_wp2_with fail
        go_ret
        exact ⟨rfl, by repeat (first | exact Kp.refl _ | refine Kp.drewN ?_ _ | refine Kp.trans ?_ (by assumption))⟩
      · clear HU
        have th := turned_half n k n1 n2 h2
        have uh := unit_root n (k + n / 2) n1 n2
        have TH := Lib.hid th
        have UH := Lib.hid uh
        have b2 : (n % 2 == 0) = true := by simp [h2]
        clear th uh h2
        go_wp2_with fail
        refine (Root_any _ _ _ n1 n2).mono ?_
        rintro e w9 ⟨c9, s9, rfl, hc9, hs9, hk9⟩
        have Q : Hid (Fin1 (cn c9) ∧ Fin1 (cn s9) ∧ EQv (cn c9) (cn (Op.negFloat .f64 c)) ∧ EQv (cn s9) (cn (Op.negFloat .f64 s))) := by
          refine Lib.hid ?_
          rw [hc9, hs9, cn_negFloat, cn_negFloat, hc, hs]
          exact ⟨UH.out.1.fin1, UH.out.2.fin1, TH.out.1, TH.out.2⟩
        clear hc9 hs9 TH UH
        go_wp2_with fail
        refine (equal_yes _ _ _ _ _ Q.out.1 Q.out.2.1 Q.out.2.2.1 Q.out.2.2.2).mono ?_
        rintro e w10 ⟨rfl, rfl⟩
        clear Q
        have b4 : (n % 4 == 0) = false := by simp; omega
        clear h4
        go_wp2_with fail
        refine (Cos_any _ _ _ n1 n2).mono ?_
        rintro e w13 ⟨c13, rfl, hc13, hk13⟩
        have S : Hid (cn c13 = cn c) := Lib.hid (hc13.trans hc.symm)
        clear hc13
        go_wp2_with fail
        refine (Sin_any _ _ _ n1 n2).mono ?_
        rintro e w14 ⟨c14, rfl, hc14, hk14⟩
        go_wp2_with fail
        refine (Same_yes _ _ _ S.out).mono ?_
        rintro e w15 ⟨rfl, rfl⟩
        clear S
        go_wp2_with fail
        go_ret
        exact ⟨rfl, by repeat (first | exact Kp.refl _ | refine Kp.drewN ?_ _ | refine Kp.trans ?_ (by assumption))⟩
    · have h4 : n % 4 ≠ 0 := by omega
      clear HU
      have b2 : (n % 2 == 0) = false := by simp; omega
      have b4 : (n % 4 == 0) = false := by simp; omega
      clear h4
      clear h2
      go_wp2_with fail
      refine (Cos_any _ _ _ n1 n2).mono ?_
      rintro e w13 ⟨c13, rfl, hc13, hk13⟩
      have S : Hid (cn c13 = cn c) := Lib.hid (hc13.trans hc.symm)
      clear hc13
      go_wp2_with fail
      refine (Sin_any _ _ _ n1 n2).mono ?_
      rintro e w14 ⟨c14, rfl, hc14, hk14⟩
      go_wp2_with fail
      refine (Same_yes _ _ _ S.out).mono ?_
      rintro e w15 ⟨rfl, rfl⟩
      clear S
      go_wp2_with fail
      go_ret
      exact ⟨rfl, by repeat (first | exact Kp.refl _ | refine Kp.drewN ?_ _ | refine Kp.trans ?_ (by assumption))⟩
end Go.Proofs.YtijbkcjbkioefaaDoor
