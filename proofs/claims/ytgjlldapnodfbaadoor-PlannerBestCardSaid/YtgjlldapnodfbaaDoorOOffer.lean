/-
  The chooser's best so far, and the walk of offer (cheapest$1).
-/
import Derived.Test.YtgjlldapnodfbaaDoorOHeads2
namespace Go.Ord
/-- The cheaper of the best so far and an offer; the first at a tie. -/
def offer (b : Option (Tr × Int)) (T : Tr) (c : Int) : Option (Tr × Int) :=
  match b with
  | none => some (T, c)
  | some (T0, c0) => if c < c0 then some (T, c) else some (T0, c0)
end Go.Ord
namespace Go.Proofs.YtgjlldapnodfbaaDoor
open Go Go.RowKit Go.Fl Go.Ord Go.Pr

/-- A value is the best: an order and what it costs; none: it costs -1. -/
def BVal (Q : Nat → Prop) (w : World) (b : Option (Tr × Int)) (k n : Int) (s : Value) (c : Int) : Prop :=
  match b with
  | none => c = -1 ∧ k = 0 ∧ n = 0 ∧ s = .slice none 0 0
  | some (T, C) => c = C ∧ 0 ≤ C ∧ C ≤ 4611686018427387905 ∧ OX Q w T (.agg #[.int .i64 k, .int .i64 n, s])
/-- The best so far lies at bb. -/
def BB (Q : Nat → Prop) (w : World) (bb : Nat) (b : Option (Tr × Int)) : Prop :=
  ∃ k n o m c cost, w.heap[bb]? = some (.cells #[.int .i64 k, .int .i64 n, .slice o m c, .int .i64 cost] 65 (0, 0)) ∧ BVal Q w b k n (.slice o m c) cost
theorem BVal.kp {Q : Nat → Prop} {w w' : World} {b : Option (Tr × Int)} {k n : Int} {s : Value} {c : Int} (h : BVal Q w b k n s c) (hk : Kp w w') : BVal Q w' b k n s c := by
  cases b with
  | none => exact h
  | some p => exact ⟨h.1, h.2.1, h.2.2.1, h.2.2.2.kp hk⟩
theorem BVal.kb {Q : Nat → Prop} {w w' : World} {bb : Nat} {b : Option (Tr × Int)} {k n : Int} {s : Value} {c : Int} (hQ : ∀ g, Q g → g ≠ bb) (h : BVal Q w b k n s c) (hk : Kb bb w w') : BVal Q w' b k n s c := by
  cases b with
  | none => exact h
  | some p => exact ⟨h.1, h.2.1, h.2.2.1, h.2.2.2.stay hk.size (fun g hg hq => hk.block g hg (hQ g hq)) (fun _ _ h => h)⟩
theorem BB.kp {Q : Nat → Prop} {w w' : World} {bb : Nat} {b : Option (Tr × Int)} (h : BB Q w bb b) (hk : Kp w w') : BB Q w' bb b := by
  obtain ⟨k, n, o, m, c, cost, h1, h2⟩ := h
  exact ⟨k, n, o, m, c, cost, (hk.block bb (Array.getElem?_eq_some_iff.1 h1).1).trans h1, h2.kp hk⟩
theorem heap_set4 (w : World) (g : Nat) (x y z u a b c d : Value) (t : TypeId) (fr : Nat × Nat) (h : w.heap[g]? = some (.cells #[x, y, z, u] t fr)) : ((((w.setCell ⟨g, 0, none⟩ a).setCell ⟨g, 1, none⟩ b).setCell ⟨g, 2, none⟩ c).setCell ⟨g, 3, none⟩ d).heap[g]? = some (.cells #[a, b, c, d] t fr) := by
  have step : ∀ (w : World) (cs : Array Value) (j : Nat) (u : Value), w.heap[g]? = some (.cells cs t fr) → j < cs.size → (w.setCell ⟨g, j, none⟩ u).heap[g]? = some (.cells (cs.setIfInBounds j u) t fr) := by
    intro w cs j u h hj
    show (w.heap.modify g _)[g]? = _
    obtain ⟨hlt, h'⟩ := Array.getElem?_eq_some_iff.1 h
    rw [Array.getElem?_eq_getElem (by rw [Array.size_modify]; exact hlt), Array.getElem_modify_self, h']
    rfl
  exact step _ _ 3 d (step _ _ 2 c (step _ _ 1 b (step _ _ 0 a h (by simp)) (by simp)) (by simp)) (by simp)
theorem set4_other (w : World) (R : Nat) (a b c d : Value) (q : Nat) (h : q ≠ R) : ((((w.setCell ⟨R, 0, none⟩ a).setCell ⟨R, 1, none⟩ b).setCell ⟨R, 2, none⟩ c).setCell ⟨R, 3, none⟩ d).heap[q]? = w.heap[q]? := by
  rw [heap_set_other _ _ _ _ h, heap_set_other _ _ _ _ h, heap_set_other _ _ _ _ h, heap_set_other _ _ _ _ h]
theorem bb_write {Q : Nat → Prop} {bb : Nat} {WF : World} {T : Tr} {k n : Int} {o : Option Addr} {m c : Nat} {C : Int} (h : WF.heap[bb]? = some (.cells #[.int .i64 k, .int .i64 n, .slice o m c, .int .i64 C] 65 (0, 0))) (c0 : 0 ≤ C) (c1 : C ≤ 4611686018427387905) (hT : OX Q WF T (.agg #[.int .i64 k, .int .i64 n, .slice o m c])) : BB Q WF bb (some (T, C)) :=
  ⟨k, n, o, m, c, C, h, rfl, c0, c1, hT⟩
set_option maxRecDepth 100000 in
set_option maxHeartbeats 1000000 in
theorem offer_any (Q : Nat → Prop) (bb : Nat) (b : Option (Tr × Int)) (T : Tr) (k n : Int) (o : Option Addr) (m c : Nat) (C : Int) (w : World) (hQ : ∀ g, Q g → g ≠ bb) (hb : BB Q w bb b) (hT : OX Q w T (.agg #[.int .i64 k, .int .i64 n, .slice o m c])) (c0 : 0 ≤ C) (c1 : C ≤ 4611686018427387905) :
    Calls Tryd.prog 45 #[.agg #[.int .i64 k, .int .i64 n, .slice o m c], .int .i64 C, .pointer (some ⟨bb, 0, none⟩)] w fun e w' => (∃ v, e = .returned v) ∧ BB Q w' bb (offer b T C) ∧ Kb bb w w' := by
  obtain ⟨k0, n0, o0, m0, cc0, cost, hbb, hv⟩ := hb
  have hlt : bb < w.heap.size := (Array.getElem?_eq_some_iff.1 hbb).1
  have hne : ¬ bb = w.heap.size := Nat.ne_of_lt hlt
  have y0 := cell_of_row w bb 0 _ _ _ hbb
  have y1 := cell_of_row w bb 1 _ _ _ hbb
  have y2 := cell_of_row w bb 2 _ _ _ hbb
  have y3 := cell_of_row w bb 3 _ _ _ hbb
  have f0 : w.frozen? ⟨bb, 0, none⟩ = false := by simp [World.frozen?, hbb]
  have f1 : w.frozen? ⟨bb, 1, none⟩ = false := by simp [World.frozen?, hbb]
  have f2 : w.frozen? ⟨bb, 2, none⟩ = false := by simp [World.frozen?, hbb]
  have f3 : w.frozen? ⟨bb, 3, none⟩ = false := by simp [World.frozen?, hbb]
  have HB := Lib.hid hbb
  have HV := Lib.hid hv
  have HT := Lib.hid hT
  have HQ := Lib.hid hQ
  clear hbb hv hT hQ
  have key : (cost < 0 ∧ b = none) ∨ (¬ cost < 0 ∧ C < cost ∧ offer b T C = some (T, C)) ∨ (¬ cost < 0 ∧ ¬ C < cost ∧ offer b T C = b) := by
    cases b with
    | none =>
      obtain ⟨h, _⟩ := HV.out
      exact .inl ⟨by omega, rfl⟩
    | some p =>
      obtain ⟨T0, C0⟩ := p
      obtain ⟨h1, h2, _⟩ := HV.out
      by_cases hc : C < C0
      · exact .inr (.inl ⟨by omega, by omega, by simp [offer, hc]⟩)
      · exact .inr (.inr ⟨by omega, by omega, by simp [offer, hc]⟩)
  have HK := Lib.hid key
  obtain ⟨WF, hWF⟩ : ∃ WF, ((((w.setCell ⟨bb, 0, none⟩ (.int .i64 k)).setCell ⟨bb, 1, none⟩ (.int .i64 n)).setCell ⟨bb, 2, none⟩ (.slice o m c)).setCell ⟨bb, 3, none⟩ (.int .i64 C)) = WF := ⟨_, rfl⟩
  have hF1 : WF.heap[bb]? = some (.cells #[.int .i64 k, .int .i64 n, .slice o m c, .int .i64 C] 65 (0, 0)) := by rw [← hWF]; exact heap_set4 w bb _ _ _ _ _ _ _ _ _ _ HB.out
  have hF2 : Kb bb w WF := by rw [← hWF]; exact ⟨rfl, rfl, rfl, by simp, fun q _ hq => set4_other w bb _ _ _ _ q hq⟩
  have wr : Hid (BB Q (WF.alloc (.cells #[.int .i64 k, .int .i64 n, .slice o m c] 28)) bb (some (T, C)) ∧ Kb bb w (WF.alloc (.cells #[.int .i64 k, .int .i64 n, .slice o m c] 28))) := Lib.hid
    ⟨BB.kp (bb_write hF1 c0 c1 (HT.out.stay hF2.size (fun g hg hq => hF2.block g hg (HQ.out g hq)) (fun _ _ h => h))) ((Kp.refl _).alloc _), hF2.kp ((Kp.refl _).alloc _)⟩
  rw [← hWF] at wr
  clear hWF hF1 hF2
  have st : Hid (offer b T C = b → BB Q (w.alloc (.cells #[.int .i64 k, .int .i64 n, .slice o m c] 28)) bb (offer b T C)) := Lib.hid fun h => by
    rw [h]
    exact BB.kp ⟨k0, n0, o0, m0, cc0, cost, HB.out, HV.out⟩ ((Kp.refl w).alloc _)
  clear key
  rcases HK.out with ⟨h1, rfl⟩ | ⟨h1, h2, h3⟩ | ⟨h1, h2, h3⟩
  · have d1 : decide (cost < 0) = true := by simpa using h1
    go_enter Tryd.func45, Tryd.ntmps45
    go_wp2_with fail
    go_end0
    exact ⟨⟨_, rfl⟩, wr.out⟩
  · have d1 : decide (cost < 0) = false := by simpa using h1
    have d2 : decide (C < cost) = true := by simpa using h2
    have H3 := Lib.hid h3
    clear h3
    go_enter Tryd.func45, Tryd.ntmps45
    go_wp2_with fail
    go_end0
    rw [H3.out]
    exact ⟨⟨_, rfl⟩, wr.out⟩
  · have d1 : decide (cost < 0) = false := by simpa using h1
    have d2 : decide (C < cost) = false := by simpa using h2
    have H3 := Lib.hid h3
    clear h3
    go_enter Tryd.func45, Tryd.ntmps45
    go_wp2_with fail
    go_end0
    exact ⟨⟨_, rfl⟩, st.out H3.out, Kb.of ((Kp.refl w).alloc _)⟩
end Go.Proofs.YtgjlldapnodfbaaDoor
