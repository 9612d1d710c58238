/-
  planner.Cost; the reference's cost and Cost.
-/
import Derived.Test.YtgjlldapnodfbaaDoorOCost2
import Derived.BigQuiet
namespace Go.Ord
/-- Cost's number, Cost's error: 0 none, 8 it isn't good, 3 too dear. -/
def Tr.cost (T : Tr) : Int × Nat := if T.Len = 0 then (0, 8) else if 4611686018427387904 < T.C then (0, 3) else (T.C, 0)
theorem Len_ne {T : Tr} (h : T.Len ≠ 0) : T.parts ≤ 4096 ∧ T.depth ≤ 16 ∧ T.len ≠ 0 := by
  unfold Tr.Len at h
  by_cases c : T.parts ≤ 4096 ∧ T.depth ≤ 16
  · rw [if_pos c] at h; exact ⟨c.1, c.2, h⟩
  · rw [if_neg c] at h; exact absurd rfl h
theorem cost_bad {T : Tr} (h : T.Len = 0) : T.cost = (0, 8) := by unfold Tr.cost; rw [if_pos h]
theorem cost_dear {T : Tr} (h : T.Len ≠ 0) (h2 : 4611686018427387904 < T.C) : T.cost = (0, 3) := by unfold Tr.cost; rw [if_neg h, if_pos h2]
theorem cost_good {T : Tr} (h : T.Len ≠ 0) (h2 : ¬ 4611686018427387904 < T.C) : T.cost = (T.C, 0) := by unfold Tr.cost; rw [if_neg h, if_neg h2]
end Go.Ord
namespace Go.Proofs.YtgjlldapnodfbaaDoor
open Go Go.RowKit Go.Fl Go.Ord

/-- An error by its number: none, ErrOrder, ErrLimit. -/
def errNo (aO aL : Addr) (e : Nat) : Value := if e = 8 then errV aO else if e = 3 then errV aL else .nilIface
theorem errNo8 (aO aL : Addr) : errNo aO aL 8 = .iface 114 (.pointer (some aO)) := rfl
theorem errNo3 (aO aL : Addr) : errNo aO aL 3 = .iface 114 (.pointer (some aL)) := rfl
theorem errNo0 (aO aL : Addr) : errNo aO aL 0 = .nilIface := rfl
set_option maxRecDepth 100000 in
set_option maxHeartbeats 1000000 in
theorem pCost_any (T : Tr) (v : Value) (aO aL : Addr) (w : World) (hT : OIn w T v) (hO : errAt w 2 aO) (hL : errAt w 3 aL) :
    Calls Tryd.prog 18 #[v] w fun e w' => e = .returned (.tuple #[.int .i64 T.cost.1, errNo aO aL T.cost.2]) ∧ Kp w w' := by
  have hT0 := hT
  obtain _ | ⟨k, n, m, kid⟩ := T
  · exact (OIn.nil hT).elim
  obtain ⟨o, c, rfl, _, _⟩ := hT0
  have hk0 := (Kp.refl w).alloc (.cells #[.int .i64 k, .int .i64 n, .slice o m c] 28)
  obtain ⟨r1, r2, r3⟩ := box3 w (.int .i64 k) (.int .i64 n) (.slice o m c) 28
  obtain ⟨W1, hW1⟩ : ∃ W1, w.alloc (.cells #[.int .i64 k, .int .i64 n, .slice o m c] 28) = W1 := ⟨_, rfl⟩
  rw [hW1] at hk0 r1 r2 r3
  have nn := err_eq_nil aO
  by_cases hl : (Tr.mk k n m kid).Len = 0
  · have h1 := Lib.hid (Check_no _ _ aO W1 (hT.kp hk0) hl (hk0.later hO))
    have HL := Lib.hid hL
    have HO := Lib.hid hO
    rw [cost_bad hl, errNo8]
    clear hl hT hL hO
    go_enter Tryd.func18, Tryd.ntmps18
    go_upto_region 2 with (go_at_call 25; (with_reducible refine h1.out.mono ?_); rintro e w2 ⟨rfl, hk1⟩; have c1 := (hk0.trans hk1).later HO.out)
    go_quiet (fail)
    go_wp2_with fail
    go_ret2
    exact ⟨rfl, (hk0.trans hk1).drewN _⟩
  · have h1 := Lib.hid (Check_yes _ _ W1 (hT.kp hk0) hl)
    obtain ⟨hp, hd, hl0⟩ := Len_ne hl
    have h2 : Hid (∀ w', Kp W1 w' → Calls Tryd.prog 34 #[.agg #[.int .i64 k, .int .i64 n, .slice o m c]] w' fun e w'' => e = .returned (.int .i64 (sat (Tr.mk k n m kid).C)) ∧ Kp w' w'') := Lib.hid fun w' hk => pcost_any _ _ w' (hT.kp (hk0.trans hk)) hl0 hp hd
    have hC := C_nonneg _ hl0
    have HL := Lib.hid hL
    by_cases hc : 4611686018427387904 < (Tr.mk k n m kid).C
    · rw [cost_dear hl hc, errNo3]
      rw [sat_big _ hc] at h2
      clear hl hT hL hO hl0 hp hd hC hc
      go_enter Tryd.func18, Tryd.ntmps18
      go_upto_region 5 with (first
        | (go_at_call 25; (with_reducible refine h1.out.mono ?_); rintro e w2 ⟨rfl, hk1⟩; have r1 := hk1.later r1; have r2 := hk1.later r2; have r3 := hk1.later r3)
        | (go_at_call 34; (with_reducible refine (h2.out _ hk1).mono ?_); rintro e w3 ⟨rfl, hk2⟩; have c1 := ((hk0.trans hk1).trans hk2).later HL.out))
      go_quiet (fail)
      go_wp2_with fail
      go_ret2
      exact ⟨rfl, ((hk0.trans hk1).trans hk2).drewN _⟩
    · rw [cost_good hl hc, errNo0]
      rw [sat_small _ (by omega)] at h2
      obtain ⟨C, hC0⟩ : ∃ C, (Tr.mk k n m kid).C = C := ⟨_, rfl⟩
      rw [hC0] at h2 hC hc ⊢
      have d1 : decide (4611686018427387904 < C) = false := by simpa using hc
      clear hl hT hL hO hl0 hp hd hC0
      go_enter Tryd.func18, Tryd.ntmps18
      go_wp2_with (first
        | (go_at_call 25; (with_reducible refine h1.out.mono ?_); rintro e w2 ⟨rfl, hk1⟩; have r1 := hk1.later r1; have r2 := hk1.later r2; have r3 := hk1.later r3)
        | (go_at_call 34; (with_reducible refine (h2.out _ hk1).mono ?_); rintro e w3 ⟨rfl, hk2⟩))
      go_ret2
      exact ⟨rfl, by first | exact (hk0.trans hk1).trans hk2 | exact ((hk0.trans hk1).trans hk2).drewN _⟩

theorem row6 (w : World) (a b c d e f : Value) (t : TypeId) : (w.alloc (.cells #[a, b, c, d, e, f] t)).cell? ⟨w.heap.size, 2, none⟩ = some c ∧ (w.alloc (.cells #[a, b, c, d, e, f] t)).cell? ⟨w.heap.size, 3, none⟩ = some d ∧ (w.alloc (.cells #[a, b, c, d, e, f] t)).cell? ⟨w.heap.size, 4, none⟩ = some e ∧ (w.alloc (.cells #[a, b, c, d, e, f] t)).cell? ⟨w.heap.size, 5, none⟩ = some f := by
  have h := World.ownsRow_lit (base := w.heap.size) (e := t) (size := 1) w #[a, b, c, d, e, f] 6 (Nat.le_refl _) (by decide) rfl
  exact ⟨h.cellAt 2 (by decide), h.cellAt 3 (by decide), h.cellAt 4 (by decide), h.cellAt 5 (by decide)⟩
theorem rWork_any (n : Int) (w : World) : Calls Tryd.prog 59 #[.int .i64 n] w fun e w' => (∃ s p : Int, e = .returned (.tuple #[.int .i64 s, .int .i64 p]) ∧ s + p = wk n ∧ 0 ≤ s ∧ s ≤ 48 ∧ 0 ≤ p ∧ p ≤ 48) ∧ Kp w w' := by
  obtain ⟨x2, x3, x4, x5⟩ := row6 w (.int .i64 0) (.int .i64 0) (.int .i64 4) (.int .i64 12) (.int .i64 16) (.int .i64 32) 3
  obtain ⟨y2, y3, y4, y5⟩ := row6 (w.alloc (.cells #[.int .i64 0, .int .i64 0, .int .i64 4, .int .i64 12, .int .i64 16, .int .i64 32] 3)) (.int .i64 0) (.int .i64 0) (.int .i64 0) (.int .i64 4) (.int .i64 0) (.int .i64 16) 3
  rw [World.size_alloc] at y2 y3 y4 y5
  have k2 := (Kp.refl (w.alloc (.cells #[.int .i64 0, .int .i64 0, .int .i64 4, .int .i64 12, .int .i64 16, .int .i64 32] 3))).alloc (.cells #[.int .i64 0, .int .i64 0, .int .i64 0, .int .i64 4, .int .i64 0, .int .i64 16] 3)
  have hk := ((Kp.refl w).alloc (.cells #[.int .i64 0, .int .i64 0, .int .i64 4, .int .i64 12, .int .i64 16, .int .i64 32] 3)).trans k2
  have HX := Lib.hid (And.intro (And.intro (k2.later x2) (And.intro (k2.later x3) (And.intro (k2.later x4) (k2.later x5)))) (And.intro y2 (And.intro y3 (And.intro y4 y5))))
  clear x2 x3 x4 x5 y2 y3 y4 y5 k2
  obtain ⟨W2, hW2⟩ : ∃ W2, (w.alloc (.cells #[.int .i64 0, .int .i64 0, .int .i64 4, .int .i64 12, .int .i64 16, .int .i64 32] 3)).alloc (.cells #[.int .i64 0, .int .i64 0, .int .i64 0, .int .i64 4, .int .i64 0, .int .i64 16] 3) = W2 := ⟨_, rfl⟩
  rw [hW2] at HX hk

  by_cases h2 : n = 2
  · subst h2
    go_enter Tryd.func59, Tryd.ntmps59
    go_upto_region 5 with fail
    obtain ⟨⟨x2, x3, x4, x5⟩, y2, y3, y4, y5⟩ := HX.out
    clear HX hW2
    go_quiet (fail)
    go_wp2_with fail
    go_ret2
    exact ⟨⟨_, _, rfl, by decide, by decide, by decide, by decide, by decide⟩, hk.drewN _⟩
  by_cases h3 : n = 3
  · subst h3
    go_enter Tryd.func59, Tryd.ntmps59
    go_upto_region 5 with fail
    obtain ⟨⟨x2, x3, x4, x5⟩, y2, y3, y4, y5⟩ := HX.out
    clear HX hW2
    go_quiet (fail)
    go_wp2_with fail
    go_ret2
    exact ⟨⟨_, _, rfl, by decide, by decide, by decide, by decide, by decide⟩, hk.drewN _⟩
  by_cases h4 : n = 4
  · subst h4
    go_enter Tryd.func59, Tryd.ntmps59
    go_upto_region 5 with fail
    obtain ⟨⟨x2, x3, x4, x5⟩, y2, y3, y4, y5⟩ := HX.out
    clear HX hW2
    go_quiet (fail)
    go_wp2_with fail
    go_ret2
    exact ⟨⟨_, _, rfl, by decide, by decide, by decide, by decide, by decide⟩, hk.drewN _⟩
  by_cases h5 : n = 5
  · subst h5
    go_enter Tryd.func59, Tryd.ntmps59
    go_upto_region 5 with fail
    obtain ⟨⟨x2, x3, x4, x5⟩, y2, y3, y4, y5⟩ := HX.out
    clear HX hW2
    go_quiet (fail)
    go_wp2_with fail
    go_ret2
    exact ⟨⟨_, _, rfl, by decide, by decide, by decide, by decide, by decide⟩, hk.drewN _⟩
  have d2 : (n == 2) = false := by simpa using h2
  have d3 : (n == 3) = false := by simpa using h3
  have d4 : (n == 4) = false := by simpa using h4
  have d5 : (n == 5) = false := by simpa using h5
  have e : Hid (wk n = 0 + 0) := Lib.hid (by unfold wk; rw [if_neg h2, if_neg h3, if_neg h4, if_neg h5]; rfl)
  go_enter Tryd.func59, Tryd.ntmps59
  go_wp2_with fail
  all_goals go_ret2
  all_goals exact ⟨⟨_, _, rfl, e.out.symm, by decide, by decide, by decide, by decide⟩, hk⟩
end Go.Proofs.YtgjlldapnodfbaaDoor
