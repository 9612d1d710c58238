/-
  A map from numbers to priced orders, told by a function.
-/
import Derived.Test.YtgjlldapnodfbaaDoorOTimes
import Derived.Maps.OwnSet
namespace Go.Proofs.YtgjlldapnodfbaaDoor
open Go Go.RowKit Go.Fl Go.Ord Go.Maps

/-- An element reads as itself. -/
def Rv (v : Value) : Option (DataW Value × List MemPlace) := some (.held v, [])
theorem int_law : Keyed Tryd.prog 3 := int_keyed Tryd.underlying3
theorem zero_priced (w : World) : (zeroValue 65).run Tryd.prog w = .ok (.agg #[.int .i64 0, .int .i64 0, .slice none 0 0, .int .i64 0]) w := by kernel_rfl
/-- Block b is a map of at most n entries that holds f. -/
def MP (w : World) (b n : Nat) (f : Nat → Option Value) : Prop :=
  ∃ D, w.ownsMap Tryd.prog 3 Rv b n D ∧ ∀ i : Nat, Maps.has D (.int .i64 i) = (f i).isSome ∧ ∀ z, D.atKey (.int .i64 i) z = (match f i with | some v => .held v | none => z)
theorem MP.kp {w w' : World} {b n : Nat} {f : Nat → Option Value} (h : MP w b n f) (k : Kp w w') : MP w' b n f := by
  obtain ⟨D, h1, h2⟩ := h
  have hlt := h1.lt
  obtain ⟨es, clock, hb, r⟩ := h1
  exact ⟨D, ⟨es, clock, (k.block b hlt).trans hb, r⟩, h2⟩
theorem MP.lt {w : World} {b n : Nat} {f : Nat → Option Value} (h : MP w b n f) : b < w.heap.size := by
  obtain ⟨D, h1, _⟩ := h
  exact h1.lt
theorem MP.block {w w' : World} {b n : Nat} {f : Nat → Option Value} (h : MP w b n f) (k : w'.heap[b]? = w.heap[b]?) : MP w' b n f := by
  obtain ⟨D, ⟨es, clock, hb, r⟩, h2⟩ := h
  exact ⟨D, ⟨es, clock, k.trans hb, r⟩, h2⟩
theorem MP.made (w : World) : MP (w.alloc (.map #[] 0)) w.heap.size 0 (fun _ => none) :=
  ⟨_, World.ownsMap_made w _ _ _, fun i => ⟨rfl, fun z => rfl⟩⟩
theorem MP.look {w : World} {b n : Nat} {f : Nat → Option Value} (h : MP w b n f) (i : Nat) (hi : i ≤ 1000000) :
    (Instr.lookup 84 (.map (some b)) (.int .i64 (i : Int)) true).run Tryd.prog w = .ok (.tuple #[(f i).getD (.agg #[.int .i64 0, .int .i64 0, .slice none 0 0, .int .i64 0]), .bool (f i).isSome]) w := by
  obtain ⟨D, h1, h2⟩ := h
  obtain ⟨v, ps, hr, hv⟩ := h1.look_ok (t := 84) (e := 65) int_law Tryd.underlying84 (zero_priced w) (zd := .held (.agg #[.int .i64 0, .int .i64 0, .slice none 0 0, .int .i64 0])) (zp := []) rfl
    (keyOf_int_mk Tryd.underlying3 (a := (i : Int)) (WalkArith.wf_i64 (by omega)))
  have h3 := (h2 i).2 (.held (.agg #[.int .i64 0, .int .i64 0, .slice none 0 0, .int .i64 0]))
  have e : v = (f i).getD (.agg #[.int .i64 0, .int .i64 0, .slice none 0 0, .int .i64 0]) := by
    have : DataW.held v = (match f i with | some v => DataW.held v | none => .held (.agg #[.int .i64 0, .int .i64 0, .slice none 0 0, .int .i64 0])) := by
      exact (Prod.mk.inj (Option.some.inj hv)).1.trans h3
    cases hf : f i with
    | none => rw [hf] at this; injection this
    | some u => rw [hf] at this; injection this
  rw [← e, ← (h2 i).1]
  exact hr
theorem MP.put {w : World} {b n : Nat} {f : Nat → Option Value} (h : MP w b n f) (i : Nat) (hi : i ≤ 1000000) (hn : n < maxLen) (v : Value) :
    ∃ w', (Instr.mapUpdate 84 (.map (some b)) (.int .i64 (i : Int)) v).run Tryd.prog w = .ok () w' ∧ MP w' b (n + 1) (fun j => if j = i then some v else f j) ∧ w.grownBy w' (some b) := by
  obtain ⟨D, h1, h2⟩ := h
  obtain ⟨w', hr, h3, h4⟩ := h1.update (t := 84) (e := 65) int_law Tryd.underlying84 hn (key := .int .i64 (i : Int)) (val := v) (d := .held v) (ps := [])
    (keyOf_int_mk Tryd.underlying3 (a := (i : Int)) (WalkArith.wf_i64 (by omega))) rfl
  refine ⟨w', hr, ⟨_, h3, fun j => ?_⟩, h4⟩
  have hM := h1.isMap
  by_cases e : j = i
  · subst e
    simp only [if_pos]
    exact ⟨has_put_same hM (show WideAt.IsKeyLit (.int .i64 (j : Int)) from trivial) _, fun z => atKey_put_same hM (show WideAt.IsKeyLit (.int .i64 (j : Int)) from trivial) _ _⟩
  · have hne : (Lit.int .i64 (j : Int)) ≠ (Lit.int .i64 (i : Int)) := by
      intro h; injection h with _ h; omega
    simp only [if_neg e]
    exact ⟨(has_put_other hne _).trans (h2 j).1, fun z => (atKey_put_other hne _ _).trans ((h2 j).2 z)⟩
end Go.Proofs.YtgjlldapnodfbaaDoor
