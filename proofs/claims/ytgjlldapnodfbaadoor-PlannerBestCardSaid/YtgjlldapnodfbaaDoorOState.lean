/-
  What holds within a call of the chooser's cheapest.
-/
import Derived.Test.YtgjlldapnodfbaaDoorOHit
import Derived.Deep.DeepCutAuto
import Derived.Deep.CutBlock
import Derived.RangeFuncNested
namespace Go.Proofs.YtgjlldapnodfbaaDoor
open Go Go.RowKit Go.Fl Go.Ord Go.Pr

/-! ### How many lengths are known -/
def cntTo (f : Nat → Option Value) : Nat → Nat
  | 0 => 0
  | k + 1 => cntTo f k + (if (f k).isSome = true then 1 else 0)
theorem cntTo_le (f : Nat → Option Value) : ∀ k, cntTo f k ≤ k
  | 0 => Nat.le_refl _
  | k + 1 => by have := cntTo_le f k; unfold cntTo; split <;> omega
theorem cntTo_put {f : Nat → Option Value} {i : Nat} (hi : f i = none) (v : Value) : ∀ k, cntTo (fun j => if j = i then some v else f j) k = cntTo f k + (if i < k then 1 else 0)
  | 0 => by simp [cntTo]
  | k + 1 => by
    unfold cntTo
    rw [cntTo_put hi v k]
    by_cases e : k = i
    · subst e; simp [hi]
    · have e1 : (if k = i then some v else f k) = f k := if_neg e
      rw [e1]
      by_cases h : i < k
      · rw [if_pos h, if_pos (show i < k + 1 by omega)]; omega
      · rw [if_neg h, if_neg (show ¬ i < k + 1 by omega)]; omega
@[irreducible] def cnt (f : Nat → Option Value) : Nat := cntTo f 20000
theorem cnt_le (f : Nat → Option Value) : cnt f ≤ 20000 := by unfold cnt; exact cntTo_le f _
theorem cnt_put {f : Nat → Option Value} {i : Nat} (hi : f i = none) (h : i < 20000) (v : Value) : cnt (fun j => if j = i then some v else f j) = cnt f + 1 := by
  unfold cnt; rw [cntTo_put hi, if_pos h]

/-! ### Two blocks may turn -/
structure K2 (b1 b2 : Nat) (w w' : World) : Prop where
  os : w'.os = w.os
  tape : w'.tape = w.tape
  output : w'.output = w.output
  size : w.heap.size ≤ w'.heap.size
  block : ∀ k, k < w.heap.size → k ≠ b1 → k ≠ b2 → w'.heap[k]? = w.heap[k]?
theorem K2.refl (b1 b2 : Nat) (w : World) : K2 b1 b2 w w := ⟨rfl, rfl, rfl, Nat.le_refl _, fun _ _ _ _ => rfl⟩
theorem K2.trans {b1 b2 : Nat} {a b c : World} (h : K2 b1 b2 a b) (k : K2 b1 b2 b c) : K2 b1 b2 a c :=
  ⟨k.os.trans h.os, k.tape.trans h.tape, k.output.trans h.output, Nat.le_trans h.size k.size, fun j hj h1 h2 => (k.block j (Nat.lt_of_lt_of_le hj h.size) h1 h2).trans (h.block j hj h1 h2)⟩
theorem K2.of1 {b1 b2 : Nat} {a b : World} (h : Kb b1 a b) : K2 b1 b2 a b := ⟨h.os, h.tape, h.output, h.size, fun k hk h1 _ => h.block k hk h1⟩
theorem K2.of2 {b1 b2 : Nat} {a b : World} (h : Kb b2 a b) : K2 b1 b2 a b := ⟨h.os, h.tape, h.output, h.size, fun k hk _ h2 => h.block k hk h2⟩
theorem K2.of {b1 b2 : Nat} {a b : World} (h : Kp a b) : K2 b1 b2 a b := .of1 (.of h)
theorem K2.kp {b1 b2 : Nat} {a b c : World} (h : K2 b1 b2 a b) (k : Kp b c) : K2 b1 b2 a c := h.trans (.of k)
theorem K2.later {b1 b2 : Nat} {w w' : World} (h : K2 b1 b2 w w') {g j : Nat} {v : Value} (hc : w.cell? ⟨g, j, none⟩ = some v) (h1 : g ≠ b1) (h2 : g ≠ b2) : w'.cell? ⟨g, j, none⟩ = some v :=
  (World.cell?_of_block (h.block g (World.block_lt_of_cell? w ⟨g, j, none⟩ hc) h1 h2)).trans hc
/-- Seen from a world in which the second block was not there yet. -/
theorem K2.up {b1 b2 : Nat} {w0 w w' : World} (h : K2 b1 b2 w w') (k : Kp w0 w) (hb : w0.heap.size ≤ b2) : Kb b1 w0 w' :=
  ⟨h.os.trans k.os, h.tape.trans k.tape, h.output.trans k.output, Nat.le_trans k.size h.size, fun j hj h1 => (h.block j (Nat.lt_of_lt_of_le hj k.size) h1 (by omega)).trans (k.block j hj)⟩
/-- A block that is no cells has turned. -/
theorem Kb.of_grown {w w' : World} {r : Nat} (h : w.grownBy w' (some r)) : Kb r w w' := ⟨h.os, h.tape, h.output, h.size, fun k hk hne => h.block k hk (fun e => hne (by cases e; rfl))⟩
theorem Kp.of_grown {w w' : World} (h : w.grownBy w' none) : Kp w w' := ⟨h.os, h.tape, h.output, h.size, fun k hk => h.block k hk (by simp)⟩
theorem no_cells {w : World} {r : Nat} {o : Obj} (h : w.heap[r]? = some o) (ho : o.isCells = false) (j : Nat) : w.cell? ⟨r, j, none⟩ = none := by
  cases o <;> simp [World.cell?, h] <;> simp [Obj.isCells] at ho

/-! ### What the map holds -/
def MM (p : Pol) (Q : Nat → Prop) (w : World) (bm : Nat) (f : Nat → Option Value) : Prop :=
  MP w bm (cnt f) f ∧ Memo p Q w f ∧ ∀ i v, f i = some v → i ≤ 16384
theorem MM.kp {p : Pol} {Q : Nat → Prop} {w w' : World} {bm : Nat} {f : Nat → Option Value} (h : MM p Q w bm f) (k : Kp w w') : MM p Q w' bm f := ⟨h.1.kp k, h.2.1.kp k, h.2.2⟩
theorem Memo.mono {p : Pol} {Q Q' : Nat → Prop} {w : World} {f : Nat → Option Value} (h : Memo p Q w f) (hQ : ∀ g, g < w.heap.size → Q g → Q' g) : Memo p Q' w f := fun i v hv => by
  obtain ⟨h1, k, n, o, m, c, cost, e, hB⟩ := h i v hv
  refine ⟨h1, k, n, o, m, c, cost, e, ?_⟩
  cases hb : best p i with
  | none => rw [hb] at hB; exact hB
  | some x => rw [hb] at hB; exact ⟨hB.1, hB.2.1, hB.2.2.1, hB.2.2.2.mono hQ⟩
theorem MM.mono {p : Pol} {Q Q' : Nat → Prop} {w : World} {bm : Nat} {f : Nat → Option Value} (h : MM p Q w bm f) (hQ : ∀ g, g < w.heap.size → Q g → Q' g) : MM p Q' w bm f := ⟨h.1, h.2.1.mono hQ, h.2.2⟩
theorem BVal.mono {Q Q' : Nat → Prop} {w : World} {b : Option (Tr × Int)} {k n : Int} {s : Value} {c : Int} (h : BVal Q w b k n s c) (hQ : ∀ g, g < w.heap.size → Q g → Q' g) : BVal Q' w b k n s c := by
  cases b with
  | none => exact h
  | some x => exact ⟨h.1, h.2.1, h.2.2.1, h.2.2.2.mono hQ⟩
/-- Block bb, in which no tree lies, has turned. -/
theorem Memo.kbb {p : Pol} {Q : Nat → Prop} {w w' : World} {bb : Nat} {f : Nat → Option Value} (h : Memo p Q w f) (hQ : ∀ g, Q g → g ≠ bb) (hk : Kb bb w w') : Memo p Q w' f := fun i v hv => by
  obtain ⟨h1, k, n, o, m, c, cost, e, hB⟩ := h i v hv
  exact ⟨h1, k, n, o, m, c, cost, e, hB.kb hQ hk⟩
theorem MM.kbb {p : Pol} {Q : Nat → Prop} {w w' : World} {bm bb : Nat} {f : Nat → Option Value} (h : MM p Q w bm f) (hb : bm ≠ bb) (hQ : ∀ g, Q g → g ≠ bb) (hk : Kb bb w w') : MM p Q w' bm f :=
  ⟨h.1.block (hk.block bm h.1.lt hb), h.2.1.kbb hQ hk, h.2.2⟩
/-- A block that is no cells, and not the map's, has turned. -/
theorem MM.knc {p : Pol} {Q : Nat → Prop} {w w' : World} {bm r : Nat} {f : Nat → Option Value} (h : MM p Q w bm f) (hb : bm ≠ r) (hr : ∀ j, w.cell? ⟨r, j, none⟩ = none) (hk : Kb r w w') : MM p Q w' bm f :=
  ⟨h.1.block (hk.block bm h.1.lt hb), h.2.1.kb hr hk, h.2.2⟩
theorem BB.knc {Q : Nat → Prop} {w w' : World} {bb r : Nat} {b : Option (Tr × Int)} (h : BB Q w bb b) (hb : bb ≠ r) (hr : ∀ j, w.cell? ⟨r, j, none⟩ = none) (hk : Kb r w w') : BB Q w' bb b := by
  obtain ⟨k, n, o, m, c, cost, h1, h2⟩ := h
  exact ⟨k, n, o, m, c, cost, (hk.block bb (Array.getElem?_eq_some_iff.1 h1).1 hb).trans h1, h2.kmap hr hk⟩
theorem BB.lt {Q : Nat → Prop} {w : World} {bb : Nat} {b : Option (Tr × Int)} (h : BB Q w bb b) : bb < w.heap.size := by
  obtain ⟨k, n, o, m, c, cost, h1, h2⟩ := h
  exact (Array.getElem?_eq_some_iff.1 h1).1

/-! ### The state within a call -/
/-- w0: the world behind the boxes; f0: what the map held at the call's beginning; b: the best so far, at bb. -/
def CS (p : Pol) (Q : Nat → Prop) (bm bb n : Nat) (w0 : World) (f0 : Nat → Option Value) (b : Option (Tr × Int)) (wr : World) : Prop :=
  ∃ f, MM p (fun g => Q g ∧ g ≠ bb) wr bm f ∧ (∀ i, rank n ≤ rank i → f i = f0 i) ∧ BB (fun g => Q g ∧ g ≠ bb) wr bb b ∧ K2 bm bb w0 wr ∧ bm ≠ bb
section
variable {p : Pol} {Q : Nat → Prop} {bm bb n : Nat} {w0 : World} {f0 : Nat → Option Value} {b : Option (Tr × Int)} {wr w' : World}
theorem CS.kp (h : CS p Q bm bb n w0 f0 b wr) (k : Kp wr w') : CS p Q bm bb n w0 f0 b w' := by
  obtain ⟨f, h1, h2, h3, h4, h5⟩ := h
  exact ⟨f, h1.kp k, h2, h3.kp k, h4.kp k, h5⟩
theorem CS.k2 (h : CS p Q bm bb n w0 f0 b wr) : K2 bm bb w0 wr := by
  obtain ⟨f, h1, h2, h3, h4, h5⟩ := h
  exact h4
theorem CS.bbIs (h : CS p Q bm bb n w0 f0 b wr) : BB (fun g => Q g ∧ g ≠ bb) wr bb b := by
  obtain ⟨f, h1, h2, h3, h4, h5⟩ := h
  exact h3
/-- An offer is over. -/
theorem CS.offer {b' : Option (Tr × Int)} (h : CS p Q bm bb n w0 f0 b wr) (hk : Kb bb wr w') (hb : BB (fun g => Q g ∧ g ≠ bb) w' bb b') : CS p Q bm bb n w0 f0 b' w' := by
  obtain ⟨f, h1, h2, h3, h4, h5⟩ := h
  exact ⟨f, h1.kbb h5 (fun g hg => hg.2) hk, h2, hb, h4.trans (.of2 hk), h5⟩
/-- A call within is over. -/
theorem CS.inner {f f' : Nat → Option Value} {m : Nat} (h : CS p Q bm bb n w0 f0 b wr) (hm : rank m < rank n) (h1 : MM p (fun g => Q g ∧ g ≠ bb) w' bm f') (h2 : ∀ i, rank m < rank i → f' i = f i) (hf : ∀ i, rank n ≤ rank i → f i = f0 i) (hM : MP wr bm (cnt f) f) (hk : Kb bm wr w') : CS p Q bm bb n w0 f0 b w' := by
  obtain ⟨_, _, _, h3, h4, h5⟩ := h
  exact ⟨f', h1, fun i hi => (h2 i (by omega)).trans (hf i hi), h3.knc (Ne.symm h5) hM.no_cell hk, h4.trans (.of1 hk), h5⟩
/-- A block that is no cells has turned. -/
theorem CS.own {B : Nat} (hB0 : w0.heap.size ≤ B) (hB1 : bm < B) (hB2 : bb < B) : OwnFrom B (fun (_ : Unit) W => CS p Q bm bb n w0 f0 b W) := by
  intro _ W W' row h hg hr
  cases row with
  | none => exact h.kp (Kp.of_grown hg)
  | some r =>
    obtain ⟨hB, o, ho, hc⟩ := hr r rfl
    obtain ⟨f, h1, h2, h3, h4, h5⟩ := h
    have hk := Kb.of_grown hg
    have hn := no_cells ho hc
    refine ⟨f, h1.knc (by omega) hn hk, h2, h3.knc (by omega) hn hk, ?_, h5⟩
    refine ⟨hk.os.trans h4.os, hk.tape.trans h4.tape, hk.output.trans h4.output, Nat.le_trans h4.size hk.size, fun k hk0 k1 k2 => ?_⟩
    by_cases e : k = r
    · omega
    · exact (hk.block k (Nat.lt_of_lt_of_le hk0 h4.size) e).trans (h4.block k hk0 k1 k2)
end
/-! ### What lies around -/
def FlN (w : World) (v : Value) (l : List Int) (bm bb : Nat) : Prop :=
  ∃ o c, v = .slice o l.length c ∧ (0 < l.length → ∃ g off, o = some ⟨g, off, none⟩ ∧ (g < w.heap.size ∧ g ≠ bm ∧ g ≠ bb) ∧ ∀ i, i < l.length → w.cell? ⟨g, off + i, none⟩ = some (.int .i64 (l.getD i 0)))
theorem FlN.fl {w : World} {v : Value} {l : List Int} {bm bb : Nat} (h : FlN w v l bm bb) : FlIn w v l := by
  obtain ⟨o, c, e, h⟩ := h
  refine ⟨o, c, e, fun hl => ?_⟩
  obtain ⟨g, off, e2, hg, hc⟩ := h hl
  exact ⟨g, off, e2, hg.1, hc⟩
theorem FlN.k2 {w w' : World} {v : Value} {l : List Int} {bm bb : Nat} (h : FlN w v l bm bb) (k : K2 bm bb w w') : FlN w' v l bm bb := by
  obtain ⟨o, c, e, h⟩ := h
  refine ⟨o, c, e, fun hl => ?_⟩
  obtain ⟨g, off, e2, hg, hc⟩ := h hl
  exact ⟨g, off, e2, ⟨Nat.lt_of_lt_of_le hg.1 k.size, hg.2⟩, fun i hi => k.later (hc i hi) hg.2.1 hg.2.2⟩
theorem FlN.of {w : World} {v : Value} {l : List Int} {bm bb : Nat} (h : FlIn w v l) (hm : ∀ j, w.cell? ⟨bm, j, none⟩ = none) (hb : w.heap.size ≤ bb) : FlN w v l bm bb := by
  obtain ⟨o, c, e, h⟩ := h
  refine ⟨o, c, e, fun hl => ?_⟩
  obtain ⟨g, off, e2, hg, hc⟩ := h hl
  refine ⟨g, off, e2, ⟨hg, fun e3 => ?_, by omega⟩, hc⟩
  have := hc 0 hl
  rw [e3, hm] at this
  cases this
/-- The boxes of a call, the chooser, its list. -/
structure FR (p : Pol) (bc bm : Nat) (vf : Value) (n A B1 B2 bb bo : Nat) (W : World) : Prop where
  h0 : W.heap[A]? = some (.cells #[.pointer (some ⟨bc, 0, none⟩)] 66 (0, 0))
  h1 : W.heap[B1]? = some (.cells #[.int .i64 (n : Int)] 3 (0, 0))
  h2 : W.heap[B2]? = some (.cells #[.int .i64 0, .int .i64 0, .slice none 0 0, .int .i64 0] 65 (0, 0))
  h5 : W.heap[bo]? = some (.cells #[.func (.func 45) #[] #[.pointer (some ⟨bb, 0, none⟩)]] 88 (0, 0))
  hc : CH W bc p vf bm
  hf : FlN W vf p.fl bm bb
  nm : A ≠ bm ∧ B1 ≠ bm ∧ B2 ≠ bm ∧ bo ≠ bm ∧ bc ≠ bm ∧ bb ≠ bm
  nb : A ≠ bb ∧ B1 ≠ bb ∧ B2 ≠ bb ∧ bo ≠ bb ∧ bc ≠ bb
theorem FR.k2 {p : Pol} {bc bm : Nat} {vf : Value} {n A B1 B2 bb bo : Nat} {W W' : World} (h : FR p bc bm vf n A B1 B2 bb bo W) (k : K2 bm bb W W') : FR p bc bm vf n A B1 B2 bb bo W' :=
  have s : ∀ {g : Nat} {o : Obj}, W.heap[g]? = some o → g ≠ bm → g ≠ bb → W'.heap[g]? = some o := fun {g o} e h1 h2 => (k.block g (Array.getElem?_eq_some_iff.1 e).1 h1 h2).trans e
  ⟨s h.h0 h.nm.1 h.nb.1, s h.h1 h.nm.2.1 h.nb.2.1, s h.h2 h.nm.2.2.1 h.nb.2.2.1, s h.h5 h.nm.2.2.2.1 h.nb.2.2.2.1, s h.hc h.nm.2.2.2.2.1 h.nb.2.2.2.2, h.hf.k2 k, h.nm, h.nb⟩
/-- What the walk loads. -/
theorem FR.cells {p : Pol} {bc bm : Nat} {vf : Value} {n A B1 B2 bb bo : Nat} {W : World} (h : FR p bc bm vf n A B1 B2 bb bo W) :
    W.cell? ⟨A, 0, none⟩ = some (.pointer (some ⟨bc, 0, none⟩)) ∧ W.cell? ⟨B1, 0, none⟩ = some (.int .i64 (n : Int)) ∧ W.cell? ⟨bo, 0, none⟩ = some (.func (.func 45) #[] #[.pointer (some ⟨bb, 0, none⟩)]) ∧ W.cell? ⟨bc, 3, none⟩ = some (.map (some bm)) :=
  ⟨cell_of_row W A 0 _ _ _ h.h0, cell_of_row W B1 0 _ _ _ h.h1, cell_of_row W bo 0 _ _ _ h.h5, cell_of_row W bc 3 _ _ _ h.hc⟩
theorem CS.start {p : Pol} {Q : Nat → Prop} {bm bb n : Nat} {w W0 : World} {f : Nat → Option Value} (hM : MM p Q w bm f) (k : Kp w W0) (hb : w.heap.size ≤ bb) (h : W0.heap[bb]? = some (.cells #[.int .i64 0, .int .i64 0, .slice none 0 0, .int .i64 (-1)] 65 (0, 0))) :
    CS p Q bm bb n W0 f none W0 :=
  ⟨f, (hM.mono (fun g hg hq => ⟨hq, by omega⟩)).kp k, fun _ _ => rfl, ⟨_, _, _, _, _, _, h, rfl, rfl, rfl, rfl⟩, K2.refl _ _ _, by have := hM.1.lt; omega⟩
theorem leaf_ox (Q : Nat → Prop) (w : World) (k a : Int) (h0 : -9223372036854775808 ≤ a) (h1 : a ≤ 9223372036854775807) : OX Q w (leaf k a) (.agg #[.int .i64 k, .int .i64 a, .slice none 0 0]) :=
  ⟨none, 0, rfl, ⟨by decide, h0, h1⟩, fun h => absurd h (by decide)⟩
theorem leaf_depth (k a : Int) : (leaf k a).depth = 1 := rfl
/-- planner.cost of a leaf. -/
theorem cost_leaf {p : Pol} (hp : p.Good) {a k : Int} (ha : 1 ≤ a) (ha2 : a ≤ 16384) (hk : k ∈ p.heads a) (w : World) :
    Calls Tryd.prog 34 #[.agg #[.int .i64 k, .int .i64 a, .slice none 0 0]] w fun e w' => e = .returned (.int .i64 (sat (leaf k a).C)) ∧ Kp w w' :=
  pcost_any (leaf k a) _ w (leaf_ox (fun _ => True) w k a (by omega) (by omega)).oin (by rw [leaf_len hp ha hk]; omega) (by rw [leaf_parts]; decide) (by rw [leaf_depth]; decide)
theorem foldl_snoc {α β : Type} (g : β → α → β) (b : β) (l : List α) (i : Nat) (h : i < l.length) : (l.take (i + 1)).foldl g b = g ((l.take i).foldl g b) l[i] := by
  rw [List.take_succ_eq_append_getElem h, List.foldl_append]; rfl
theorem hl_away {w w' : World} {base bm bb g : Nat} {a : Int} {ks : List Int} {m c : Nat} (h : HL w base (.slice (some ⟨g, 0, none⟩) m c) a ks) (hm : ks.length = m) (k : K2 bm bb w w') (h1 : bm < base) (h2 : bb < base) (i : Nat) (hi : i < ks.length) :
    w'.cell? ⟨g, i * 3, none⟩ = some (.int .i64 ks[i]) ∧ w'.cell? ⟨g, i * 3 + 1, none⟩ = some (.int .i64 a) ∧ w'.cell? ⟨g, i * 3 + 2, none⟩ = some (.slice none 0 0) := by
  subst hm
  have hg := (h.lt g rfl).1
  obtain ⟨q1, q2, q3⟩ := h.cell i hi
  exact ⟨k.later q1 (by omega) (by omega), k.later q2 (by omega) (by omega), k.later q3 (by omega) (by omega)⟩
theorem row3 (w : World) (a b c : Value) (t : TypeId) : (w.alloc (.cells #[a, b, c] t)).cell? ⟨w.heap.size, 0, none⟩ = some a ∧ (w.alloc (.cells #[a, b, c] t)).cell? ⟨w.heap.size, 1, none⟩ = some b ∧ (w.alloc (.cells #[a, b, c] t)).cell? ⟨w.heap.size, 2, none⟩ = some c :=
  ⟨cell_of_row _ _ 0 _ _ _ (heap_alloc_new _ _), cell_of_row _ _ 1 _ _ _ (heap_alloc_new _ _), cell_of_row _ _ 2 _ _ _ (heap_alloc_new _ _)⟩
theorem hl_some {w : World} {base m c : Nat} {a : Int} {ks : List Int} {o : Option Addr} (h : HL w base (.slice o m c) a ks) (hn : 0 < ks.length) : ∃ g, o = some ⟨g, 0, none⟩ := by
  obtain ⟨g, c', e⟩ := HL.some h hn
  injection e with e1
  exact ⟨g, e1⟩
theorem CS.own' {p : Pol} {Q : Nat → Prop} {bm bb n B : Nat} {w0 : World} {f0 : Nat → Option Value} {β : Type} (g : β → Option (Tr × Int)) (hB0 : w0.heap.size ≤ B) (hB1 : bm < B) (hB2 : bb < B) : OwnFrom B (fun (s : β) W => Hid (CS p Q bm bb n w0 f0 (g s) W)) :=
  fun s W W' row h hg hr => Lib.hid (CS.own hB0 hB1 hB2 () W W' row h.out hg hr)
theorem K2.keeps {b1 b2 B : Nat} {w w' : World} (h : K2 b1 b2 w w') (h1 : b1 < B) (h2 : b2 < B) : KeepsFrom B w w' :=
  ⟨h.size, fun k o hk e _ => (h.block k (Array.getElem?_eq_some_iff.1 e).1 (by omega) (by omega)).trans e⟩
theorem K2.kc {b1 b2 Bn : Nat} {w w' : World} (h : K2 b1 b2 w w') (hB : Bn < w.heap.size) (h1 : b1 ≠ Bn) (h2 : b2 ≠ Bn) : Kc Bn w w' := h.block Bn hB (Ne.symm h1) (Ne.symm h2)
theorem fold_map_snoc {α β : Type} (g : β → Nat → β) (v : α → Nat) (b : β) (l : List α) (x : α) : ((l ++ [x]).map v).foldl g b = g ((l.map v).foldl g b) (v x) := by
  rw [List.map_append, List.foldl_append]; rfl
theorem CS.own2 {p : Pol} {Q : Nat → Prop} {bm bb n B N : Nat} {w0 : World} {f0 : Nat → Option Value} {β : Type} (g : β → Option (Tr × Int)) (hB0 : w0.heap.size ≤ B) (hB1 : bm < B) (hB2 : bb < B) : OwnFrom B (fun (s : β) W => Hid (CS p Q bm bb n w0 f0 (g s) W) ∧ Hid (N ≤ W.heap.size)) :=
  OwnFrom.and (CS.own' g hB0 hB1 hB2) (fun _ _ _ _ h hg _ => Lib.hid (Nat.le_trans h.out hg.size))
theorem BB.mono {Q Q' : Nat → Prop} {w : World} {bb : Nat} {b : Option (Tr × Int)} (h : BB Q w bb b) (hQ : ∀ g, g < w.heap.size → Q g → Q' g) : BB Q' w bb b := by
  obtain ⟨k, n, o, m, c, cost, h1, h2⟩ := h
  exact ⟨k, n, o, m, c, cost, h1, h2.mono hQ⟩
theorem CS.mono {p : Pol} {Q Q' : Nat → Prop} {bm bb n : Nat} {w0 : World} {f0 : Nat → Option Value} {b : Option (Tr × Int)} {wr : World} (h : CS p Q bm bb n w0 f0 b wr) (hQ : ∀ g, g < wr.heap.size → Q g → Q' g) : CS p Q' bm bb n w0 f0 b wr := by
  obtain ⟨f, h1, h2, h3, h4, h5⟩ := h
  exact ⟨f, h1.mono (fun g hg hq => ⟨hQ g hg hq.1, hq.2⟩), h2, h3.mono (fun g hg hq => ⟨hQ g hg hq.1, hq.2⟩), h4, h5⟩
/-- A block of cells in which no tree lies has turned. -/
theorem CS.kg {p : Pol} {Q : Nat → Prop} {bm bb n G : Nat} {w0 : World} {f0 : Nat → Option Value} {b : Option (Tr × Int)} {wr w' : World} (h : CS p Q bm bb n w0 f0 b wr) (hQ : ∀ g, Q g → g ≠ G) (h0 : w0.heap.size ≤ G) (hm : bm ≠ G) (hb : bb ≠ G) (hk : Kb G wr w') : CS p Q bm bb n w0 f0 b w' := by
  obtain ⟨f, h1, h2, h3, h4, h5⟩ := h
  obtain ⟨k, n, o, m, c, cost, e1, e2⟩ := h3
  refine ⟨f, h1.kbb hm (fun g hg => hQ g hg.1) hk, h2, ⟨k, n, o, m, c, cost, (hk.block bb (Array.getElem?_eq_some_iff.1 e1).1 hb).trans e1, e2.kb (fun g hg => hQ g hg.1) hk⟩, ?_, h5⟩
  refine ⟨hk.os.trans h4.os, hk.tape.trans h4.tape, hk.output.trans h4.output, Nat.le_trans h4.size hk.size, fun k hk0 k1 k2 => ?_⟩
  exact (hk.block k (Nat.lt_of_lt_of_le hk0 h4.size) (by omega)).trans (h4.block k hk0 k1 k2)
/-- A box of four cells is filled. -/
theorem kb_set4 (w : World) (G : Nat) (a b c d : Value) : Kb G w ((((w.setCell ⟨G, 0, none⟩ a).setCell ⟨G, 1, none⟩ b).setCell ⟨G, 2, none⟩ c).setCell ⟨G, 3, none⟩ d) :=
  ⟨rfl, rfl, rfl, by simp, fun q _ hq => set4_other w G _ _ _ _ q hq⟩
theorem K2.kg {b1 b2 G : Nat} {a b c : World} (h : K2 b1 b2 a b) (k : Kb G b c) (hG : a.heap.size ≤ G) : K2 b1 b2 a c :=
  ⟨k.os.trans h.os, k.tape.trans h.tape, k.output.trans h.output, Nat.le_trans h.size k.size, fun j hj h1 h2 => (k.block j (Nat.lt_of_lt_of_le hj h.size) (by omega)).trans (h.block j hj h1 h2)⟩
theorem row4_facts {w : World} {G : Nat} {a b c d : Value} {t : TypeId} (h : w.heap[G]? = some (.cells #[a, b, c, d] t (0, 0))) : (w.cell? ⟨G, 0, none⟩ = some a ∧ w.cell? ⟨G, 1, none⟩ = some b ∧ w.cell? ⟨G, 2, none⟩ = some c ∧ w.cell? ⟨G, 3, none⟩ = some d) ∧ (w.frozen? ⟨G, 0, none⟩ = false ∧ w.frozen? ⟨G, 1, none⟩ = false ∧ w.frozen? ⟨G, 2, none⟩ = false ∧ w.frozen? ⟨G, 3, none⟩ = false) :=
  ⟨⟨cell_of_row w G 0 _ _ _ h, cell_of_row w G 1 _ _ _ h, cell_of_row w G 2 _ _ _ h, cell_of_row w G 3 _ _ _ h⟩, by simp [World.frozen?, h]⟩
/-- The length is known now; the result's box and the range's mark have turned. -/
theorem MM.finish {p : Pol} {Q Q' : Nat → Prop} {w1 w9 wA wF : World} {bm B2 D n : Nat} {f1 : Nat → Option Value} {k n0 : Int} {o : Option Addr} {m c : Nat} {cost : Int} (h : MM p Q' w1 bm f1) (hv : BVal Q' w1 (best p n) k n0 (.slice o m c) cost) (hf : f1 n = none) (hn1 : 1 ≤ n) (hn2 : n ≤ 16384)
    (hP : MP w9 bm (cnt f1 + 1) (fun j => if j = n then some (.agg #[.int .i64 k, .int .i64 n0, .slice o m c, .int .i64 cost]) else f1 j)) (hg : w1.grownBy w9 (some bm)) (hkA : Kb B2 w9 wA) (hkD : Kb D wA wF) (hD : ∀ j, wA.cell? ⟨D, j, none⟩ = none) (hB2 : ∀ g, Q' g → g ≠ B2) (hQ : ∀ g, Q' g → Q g) (hb2 : bm ≠ B2) (hbD : bm ≠ D) :
    MM p Q wF bm (fun j => if j = n then some (.agg #[.int .i64 k, .int .i64 n0, .slice o m c, .int .i64 cost]) else f1 j) ∧ BVal Q wF (best p n) k n0 (.slice o m c) cost := by
  have hk := Kb.of_grown hg
  have hv9 := hv.kmap h.1.no_cell hk
  have h9 : MM p Q' w9 bm (fun j => if j = n then some (.agg #[.int .i64 k, .int .i64 n0, .slice o m c, .int .i64 cost]) else f1 j) := by
    refine ⟨by rw [cnt_put hf (by omega)]; exact hP, (h.2.1.kb h.1.no_cell hk).put hn1 hv9, fun i v hi => ?_⟩
    by_cases e : i = n
    · omega
    · simp only [if_neg e] at hi; exact h.2.2 i v hi
  exact ⟨((h9.kbb hb2 hB2 hkA).knc hbD hD hkD).mono (fun g _ h => hQ g h), ((hv9.kb hB2 hkA).kmap hD hkD).mono (fun g _ h => hQ g h)⟩
theorem kb_putObj (w : World) (D : Nat) (o : Obj) : Kb D w (w.putObj D o) := Kb.of_grown (grownBy_putObj' w D o)
theorem twoOf_two {n : Nat} (h1 : 1 ≤ n) (h2 : n ≤ 8192) {x : Nat} (h : IsTwo (2 * n - 1) x) : twoOf (2 * n - 1) = x := by
  obtain ⟨a, b, c⟩ := twoOf_is (N := 2 * n - 1) (by omega) (by omega)
  exact two_uniq ⟨a, b, c⟩ h
theorem Kb.kg {b G : Nat} {a x y : World} (h : Kb b a x) (k : Kb G x y) (hG : a.heap.size ≤ G) : Kb b a y :=
  ⟨k.os.trans h.os, k.tape.trans h.tape, k.output.trans h.output, Nat.le_trans h.size k.size, fun j hj h1 => (k.block j (Nat.lt_of_lt_of_le hj h.size) (by omega)).trans (h.block j hj h1)⟩
/-- The contract of cheapest at a length. -/
def CSpec (p : Pol) (bc bm : Nat) (vf : Value) (n : Nat) : Prop := ∀ (Q : Nat → Prop) (w : World) (f : Nat → Option Value), (∀ g, w.heap.size ≤ g → Q g) → CH w bc p vf bm → FlIn w vf p.fl → MM p Q w bm f →
  Calls Tryd.prog 31 #[.pointer (some ⟨bc, 0, none⟩), .int .i64 n] w fun e w' => ∃ k n0 o m c cost f', e = .returned (.agg #[.int .i64 k, .int .i64 n0, .slice o m c, .int .i64 cost]) ∧
    BVal Q w' (best p n) k n0 (.slice o m c) cost ∧ MM p Q w' bm f' ∧ Kb bm w w' ∧ ∀ i, rank n < rank i → f' i = f i
end Go.Proofs.YtgjlldapnodfbaaDoor
