/-
  The walks of layer 13's lives, of its Zoom's refusals, and of ChirpNumbers.
-/
import Derived.Test.YtnkcjbabfckdgaaDoorCRZoom
namespace Go.Proofs.YtnkcjbabfckdgaaDoor
open Go Go.RowKit Go.Fl Go.Roots

/-- Literal lists. -/
def LF (l : List (Nat × Nat)) (j : Nat) : Nat × Nat := ((cn (l.getD j (0, 0)).1), cn (l.getD j (0, 0)).2)
theorem Has.lit (w : World) (l : List (Nat × Nat)) (hm : l.length ≤ maxLen) : Has (w.alloc (.cells (l.map fun p => Value.complex .f64 p.1 p.2).toArray 23)) w.heap.size l.length (LF l) := by
  have h := World.ownsRow_lit (base := w.heap.size) (e := 23) (size := 1) w (l.map fun p => Value.complex .f64 p.1 p.2).toArray l.length (Nat.le_refl _) hm (by simp)
  refine Has.own h (Nat.le_refl _) fun j hj => ?_
  refine ⟨(l.getD j (0, 0)).1, (l.getD j (0, 0)).2, ?_, rfl, rfl⟩
  simp [List.getElem?_eq_getElem hj, List.getD_eq_getElem?_getD]
theorem has_part {w : World} {g n : Nat} {f : Nat → Nat × Nat} (ho : Has w g n f) (j : Nat) (hj : j < n) (a b : Nat)
    (h1 : (ord (f j).1 a == some .eq) = true) (h2 : (ord (f j).2 b == some .eq) = true) :
    ∃ c s, w.cell? ⟨g, j, none⟩ = some (.complex .f64 c s) ∧ (ord (cn c) a == some .eq) = true ∧ (ord (cn s) b == some .eq) = true := by
  obtain ⟨c, s, h3, h4, h5⟩ := ho j hj
  exact ⟨c, s, h3, by rw [h4]; exact h1, by rw [h5]; exact h2⟩
abbrev L12 : List (Nat × Nat) := [(4607182418800017408, 0), (4611686018427387904, 0)]
theorem two_five : IsTwo 5 8 := ⟨by decide, by decide, 3, rfl⟩
set_option maxRecDepth 100000 in
set_option maxHeartbeats 4000000 in
theorem clives_any (w : World) :
    Calls Tryd.prog 8 #[] w fun e w' => e = .returned (.bool true) ∧ Kp w w' := by
  have e0 := cn_0
  have HL : Hid (∀ w, Calls Tryd.prog 13 #[.int .i64 3] w fun e w' => e = .returned (.int .i64 5) ∧ w = w') := Lib.hid fun w => CLeast_any 3 w
  have HS : Hid (∀ w, Calls Tryd.prog 15 #[.int .i64 3] w fun e w' => e = .returned (.tuple #[.int .i64 8, .nilIface]) ∧ w = w') := Lib.hid fun w => by
    refine (CSize_any 3 w (by omega) (by omega)).mono ?_
    rintro e w1 ⟨x, rfl, hx, rfl⟩
    obtain rfl := two_uniq hx.out.1 two_five
    exact ⟨rfl, rfl⟩
  have HZ : Hid (∀ w, Calls Tryd.prog 24 #[.slice (some ⟨w.heap.size, 0, none⟩) 2 2, .int .i64 2, .int .i64 0, .int .i64 2] (w.alloc (.cells #[.complex .f64 4607182418800017408 0, .complex .f64 4611686018427387904 0] 23)) fun e w' => ∃ g c, e = .returned (.tuple #[.slice (some ⟨g, 0, none⟩) 2 c, .nilIface]) ∧ Has w' g 2 (zoom (LF L12) 2 (2 : Nat) 0) ∧ Kp w w') := Lib.hid fun w => by
    refine (CZoom_any _ 2 2 2 0 2 _ _ (by omega) (by omega) (by omega) (by omega) (by decide) (Has.lit w L12 (by decide))).mono ?_
    rintro e w1 ⟨v, rfl, hco, hk⟩
    obtain ⟨g, c, rfl, hh⟩ := hco.some (by omega)
    exact ⟨g, c, rfl, hh, ((Kp.refl w).alloc _).trans hk⟩
  go_enter Tryd.func8, Tryd.ntmps8
  go_wp2_with (first
    | (go_at_call 9; (refine (CAt_any 2 1 _ (by omega) (by omega)).mono ?_); rintro e w1 ⟨c6, s6, rfl, hc6, hs6, hka⟩;
       have p6 : (ord (cn c6) 0 == some .eq) = true := (by rw [hc6]; decide +kernel);
       have p6' : (ord (cn s6) (cn 13830554455654793216) == some .eq) = true := (by rw [hs6]; decide +kernel); clear hc6 hs6)
    | (go_at_call 17; (refine (CList_any 2 _ (by omega) (by omega)).mono ?_); rintro e w2 ⟨g1, x1, rfl, ho1, hp1, hkb⟩;
       obtain ⟨c1, s1, q1, p1, p1'⟩ := has_part (Has.own ho1 (Nat.le_refl _) hp1) 1 (by omega) 0 (cn 13830554455654793216) (by decide +kernel) (by decide +kernel); clear ho1 hp1)
    | (go_at_call 20; (refine (COther_any 2 4 _ (by omega) (by omega) (by omega)).mono ?_); rintro e w3 ⟨g2, x2, rfl, ho2, hp2, hkc⟩;
       obtain ⟨c2, s2, q2, p2, p2'⟩ := has_part (Has.own ho2 (Nat.le_refl _) hp2) 2 (by omega) 0 0 (by decide +kernel) (by decide +kernel);
       obtain ⟨c3, s3, q3, p3, p3'⟩ := has_part (Has.own ho2 (Nat.le_refl _) hp2) 3 (by omega) 0 (cn 4607182418800017408) (by decide +kernel) (by decide +kernel); clear ho2 hp2)
    | (go_at_call 15; (refine (HS.out _).mono ?_); rintro e w4 ⟨rfl, rfl⟩)
    | (go_at_call 13; (refine (HL.out _).mono ?_); rintro e w4 ⟨rfl, rfl⟩)
    | (go_at_call 24; (refine (HZ.out _).mono ?_); rintro e w5 ⟨g5, cp5, rfl, hh5, hkd⟩;
       obtain ⟨c4, s4, q4, p4, p4'⟩ := has_part hh5 0 (by omega) (cn 4613937818241073152) 0 (by decide +kernel) (by decide +kernel);
       obtain ⟨c5, s5, q5, p5, p5'⟩ := has_part hh5 1 (by omega) (cn 13830554455654793216) 0 (by decide +kernel) (by decide +kernel);
       have r1 := (hkc.trans hkd).later q1; have r2 := hkd.later q2; have r3 := hkd.later q3;
       have hkz := hka.trans (hkb.trans (hkc.trans hkd)); clear hka hkb hkc hkd q1 q2 q3 hh5))
  go_ret
  exact ⟨rfl, hkz⟩
set_option maxRecDepth 100000 in
set_option maxHeartbeats 1000000 in
theorem CZoom_bad (o : Option Addr) (n cap : Nat) (m from' count : Int) (aL : Addr) (w : World) (hL : errAt w 0 aL) (hn : n ≤ 8796093022208) (h : n = 0 ∨ m < 1 ∨ 4194304 < m ∨ count < 0 ∨ (1048576 : Int) / (n : Int) < count) :
    Calls Tryd.prog 24 #[.slice o n cap, .int .i64 m, .int .i64 from', .int .i64 count] w fun e w' => e = .returned (.tuple #[.slice none 0 0, .iface 78 (.pointer (some aL))]) ∧ Kp w w' := by
  unfold errAt at hL
  by_cases c0 : n = 0
  · subst c0
    clear h
    go_enter Tryd.func24, Tryd.ntmps24
    go_wp2_with fail
    go_quiet (fail)
    go_wp2_with fail
    go_ret2
    exact ⟨rfl, (Kp.refl _).drewN _⟩
  obtain ⟨Q, hQ⟩ : ∃ Q : Nat, 1048576 / (n : Int) = (Q : Int) := Int.eq_ofNat_of_zero_le (Int.ediv_nonneg (by omega) (by omega))
  have hQb : Q ≤ 1048576 := by
    have := Int.ediv_le_self (a := 1048576) (n : Int) (by omega)
    omega
  have hQw : IntKind.i64.wrap (Q : Int) = (Q : Int) := IntWalk.i64_in _ (by omega)
  have d0 : ((n : Int) == 0) = false := by rw [beq_eq_false_iff_ne]; omega
  have key : decide (m < 1) = true ∨ (decide (m < 1) = false ∧ decide (4194304 < m) = true) ∨ (decide (m < 1) = false ∧ decide (4194304 < m) = false ∧ decide (count < 0) = true) ∨ (decide (m < 1) = false ∧ decide (4194304 < m) = false ∧ decide (count < 0) = false ∧ decide ((Q : Int) < count) = true) := by
    rw [hQ] at h
    simp only [decide_eq_true_eq, decide_eq_false_iff_not]
    omega
  clear h
  rcases key with b1 | ⟨b1, b2⟩ | ⟨b1, b2, b3⟩ | ⟨b1, b2, b3, b4⟩
  all_goals
    go_enter Tryd.func24, Tryd.ntmps24
    go_wp2_with fail
    go_quiet (fail)
    go_wp2_with fail
    go_ret2
    exact ⟨rfl, (Kp.refl _).drewN _⟩
set_option maxRecDepth 100000 in
set_option maxHeartbeats 1000000 in
theorem rZoom_bad (o : Option Addr) (n cap : Nat) (m from' count : Int) (w : World) (hn : n ≤ 8796093022208) (h : n = 0 ∨ m < 1 ∨ 4194304 < m ∨ count < 0 ∨ (1048576 : Int) / (n : Int) < count) :
    Calls Tryd.prog 25 #[.slice o n cap, .int .i64 m, .int .i64 from', .int .i64 count] w fun e w' => e = .returned (.tuple #[.slice none 0 0, .int .i64 7]) ∧ Kp w w' := by
  by_cases c0 : n = 0
  · subst c0
    clear h
    go_enter Tryd.func25, Tryd.ntmps25
    go_wp2_with fail
    go_ret2
    exact ⟨rfl, Kp.refl _⟩
  obtain ⟨Q, hQ⟩ : ∃ Q : Nat, 1048576 / (n : Int) = (Q : Int) := Int.eq_ofNat_of_zero_le (Int.ediv_nonneg (by omega) (by omega))
  have hQb : Q ≤ 1048576 := by
    have := Int.ediv_le_self (a := 1048576) (n : Int) (by omega)
    omega
  have hQw : IntKind.i64.wrap (Q : Int) = (Q : Int) := IntWalk.i64_in _ (by omega)
  have d0 : ((n : Int) == 0) = false := by rw [beq_eq_false_iff_ne]; omega
  have key : decide (m < 1) = true ∨ (decide (m < 1) = false ∧ decide (4194304 < m) = true) ∨ (decide (m < 1) = false ∧ decide (4194304 < m) = false ∧ decide (count < 0) = true) ∨ (decide (m < 1) = false ∧ decide (4194304 < m) = false ∧ decide (count < 0) = false ∧ decide ((Q : Int) < count) = true) := by
    rw [hQ] at h
    simp only [decide_eq_true_eq, decide_eq_false_iff_not]
    omega
  clear h
  rcases key with b1 | ⟨b1, b2⟩ | ⟨b1, b2, b3⟩ | ⟨b1, b2, b3, b4⟩
  all_goals
    go_enter Tryd.func25, Tryd.ntmps25
    go_wp2_with fail
    go_ret2
    exact ⟨rfl, Kp.refl _⟩
end Go.Proofs.YtnkcjbabfckdgaaDoor
