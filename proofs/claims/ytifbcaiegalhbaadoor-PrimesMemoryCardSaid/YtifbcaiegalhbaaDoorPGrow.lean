/-
  Two lists that grow side by side: what stays, what is there.
-/
import Derived.Test.YtifbcaiegalhbaaDoorPMark
namespace Go.Proofs.YtifbcaiegalhbaaDoor
open Go Go.RowKit Go.Fl Go.Pr

/-- What was there stays, but for the blocks of B. -/
structure Kx (B : Nat → Prop) (w w' : World) : Prop where
  os : w'.os = w.os
  tape : w'.tape = w.tape
  output : w'.output = w.output
  size : w.heap.size ≤ w'.heap.size
  block : ∀ k, k < w.heap.size → ¬ B k → w'.heap[k]? = w.heap[k]?
theorem Kx.refl (B : Nat → Prop) (w : World) : Kx B w w := ⟨rfl, rfl, rfl, Nat.le_refl _, fun _ _ _ => rfl⟩
theorem Kx.kp {B : Nat → Prop} {w a b : World} (h : Kx B w a) (k : Kp a b) : Kx B w b :=
  ⟨k.os.trans h.os, k.tape.trans h.tape, k.output.trans h.output, Nat.le_trans h.size k.size, fun j hj hb => (k.block j (Nat.lt_of_lt_of_le hj h.size)).trans (h.block j hj hb)⟩
theorem Kx.grown {B : Nat → Prop} {w a b : World} {row : Option Nat} (h : Kx B w a) (hg : a.grownBy b row) (hr : ∀ k, row = some k → B k ∨ w.heap.size ≤ k) : Kx B w b :=
  ⟨hg.os.trans h.os, hg.tape.trans h.tape, hg.output.trans h.output, Nat.le_trans h.size hg.size, fun j hj hb =>
    (hg.block j (Nat.lt_of_lt_of_le hj h.size) (fun e => by rcases hr j e.symm with h1 | h1; exact hb h1; omega)).trans (h.block j hj hb)⟩
theorem Kx.cell {B : Nat → Prop} {w w' : World} (h : Kx B w w') {p : Addr} (hp : p.block < w.heap.size) (hb : ¬ B p.block) : w'.cell? p = w.cell? p :=
  World.cell?_of_block (h.block p.block hp hb)
theorem Kx.owns {B : Nat → Prop} {w w' : World} {base : Nat} {e : TypeId} {v : Value} {n : Nat} {xs : List Value} (h : Kx B w w') (ho : w.ownsRow base e 1 v n xs) (hb : ∀ g, v.ownBlock = some g → ¬ B g) : w'.ownsRow base e 1 v n xs := by
  refine ⟨ho.1, ?_⟩
  rcases ho.2 with hn | ⟨g, cap, cur, rfl, h1, hg, rest⟩
  · exact .inl hn
  · have hl : g < w.heap.size := (Array.getElem?_eq_some_iff.1 hg).1
    exact .inr ⟨g, cap, cur, rfl, h1, (h.block g hl (hb g rfl)).trans hg, rest⟩
/-- The first k are marks. -/
def Mkd (i : Nat) (xs : List Value) (k : Nat) : Prop := ∀ t, t < k → xs[t]? = some (.int .i64 (mk i t))
theorem Mkd.set {i k : Nat} {xs : List Value} (h : Mkd i xs k) (hk : k < xs.length) : Mkd i (xs.set k (.int .i64 (mk i k))) (k + 1) := fun t ht => by
  by_cases e : t = k
  · subst e; simp [hk]
  · rw [List.getElem?_set_ne (by omega)]; exact h t (by omega)
theorem Mkd.snoc {i k : Nat} {xs : List Value} (h : Mkd i xs k) (hk : xs.length = k) : Mkd i (xs ++ [.int .i64 (mk i k)]) (k + 1) := fun t ht => by
  by_cases e : t = k
  · subst e; simp [hk]
  · rw [List.getElem?_append_left (by omega)]; exact h t (by omega)
/-- The lists' own blocks. -/
def Bl (V : Nat → Value) (k : Nat) : Prop := ∃ i, i < 2 ∧ (V i).ownBlock = some k
/-- Two lists grown out of V, lengths N, in a list of their own at gg. -/
def GS (w : World) (base n : Nat) (V : Nat → Value) (gg cg : Nat) (wr : World) (N : Nat → Nat) : Prop :=
  ∃ (U : Nat → Value) (Xs : Nat → List Value) (ys : List Value),
    (∀ i, i < 2 → wr.ownsRow base 3 1 (U i) (N i) (Xs i) ∧ Mkd i (Xs i) (N i) ∧ (U i).ownBlock ≠ some gg ∧ ys[i]? = some (U i) ∧
      (∀ g, (V i).ownBlock = some g → ∀ t, t < n → wr.cell? ⟨g, t, none⟩ = some (.int .i64 (mk i t)))) ∧
    (∀ i j, i < 2 → j < 2 → i ≠ j → ∀ g, (U i).ownBlock = some g → (U j).ownBlock ≠ some g ∧ (V j).ownBlock ≠ some g) ∧
    (∀ i, i < 2 → ∀ g, (U i).ownBlock = some g → Bl V g ∨ w.heap.size ≤ g) ∧
    wr.ownsRow base 44 1 (.slice (some ⟨gg, 0, none⟩) 2 cg) 2 ys ∧ Kx (Bl V) w wr
theorem GS.kp {w : World} {base n : Nat} {V : Nat → Value} {gg cg : Nat} {a b : World} {N : Nat → Nat} (h : GS w base n V gg cg a N) (k : Kp a b) : GS w base n V gg cg b N := by
  obtain ⟨U, Xs, ys, h1, h2, h3, h4, h5⟩ := h
  exact ⟨U, Xs, ys, fun i hi => ⟨k.owns (h1 i hi).1, (h1 i hi).2.1, (h1 i hi).2.2.1, (h1 i hi).2.2.2.1, fun g hg t ht => k.later ((h1 i hi).2.2.2.2 g hg t ht)⟩, h2, h3, k.owns h4, h5.kp k⟩
theorem GS.step {w : World} {base n : Nat} {V : Nat → Value} {gg cg : Nat} {a b : World} {N : Nat → Nat} {i : Nat} (hi : i < 2)
    (h : GS w base n V gg cg a N) (hgg : w.heap.size ≤ gg) (hV : ∀ i, i < 2 → ∀ g, (V i).ownBlock = some g → g < w.heap.size) (hn : n ≤ N i) (u : Value) (hu : a.cell? ⟨gg, i, none⟩ = some u) (g cap : Nat)
    (ho : ∀ xs, a.ownsRow base 3 1 u (N i) xs → b.ownsRow base 3 1 (.slice (some ⟨g, 0, none⟩) (N i + 1) cap) (N i + 1) (xs ++ [.int .i64 (mk i (N i))]))
    (hm : (u.ownBlock = some g ∧ a.grownBy b (some g)) ∨ (g = a.heap.size ∧ a.grownBy b none)) :
    GS w base n V gg cg (b.setCell ⟨gg, i, none⟩ (.slice (some ⟨g, 0, none⟩) (N i + 1) cap)) (fun t => if t = i then N i + 1 else N t) := by
  obtain ⟨U, Xs, ys, h1, h2, h3, h4, h5⟩ := h
  obtain ⟨hy, hcur⟩ : ys.length = 2 ∧ u = U i := by
    refine ⟨by simpa using h4.1, ?_⟩
    have := h4.cellAt i (by omega)
    rw [hu, (h1 i hi).2.2.2.1] at this
    injection this
  subst hcur
  have hgl : gg < a.heap.size := (h4.lt gg rfl).2
  have hb := ho _ (h1 i hi).1
  have hNe : g ≠ gg := by
    rcases hm with ⟨e, _⟩ | ⟨e, _⟩
    · intro e2; subst e2; exact (h1 i hi).2.2.1 e
    · omega
  -- what the append leaves alone
  have hfar : ∀ k, k < a.heap.size → (U i).ownBlock ≠ some k → b.heap[k]? = a.heap[k]? := by
    intro k hk hne
    rcases hm with ⟨e, hg⟩ | ⟨e, hg⟩
    · exact hg.block k hk (fun e2 => hne (by rw [e, e2]))
    · exact hg.block k hk (by simp)
  have hgrow : a.grownBy b (U i).ownBlock := by
    rcases hm with ⟨e, hg⟩ | ⟨e, hg⟩
    · rw [e]; exact hg
    · exact ⟨hg.os, hg.tape, hg.output, hg.size, fun k hk _ => hg.block k hk (by simp)⟩
  have h4b : b.ownsRow base 44 1 (.slice (some ⟨gg, 0, none⟩) 2 cg) 2 ys := h4.kept hgrow (.inr (fun e => (h1 i hi).2.2.1 e.symm))
  obtain ⟨st1, st2⟩ := h4b.stored i (.slice (some ⟨g, 0, none⟩) (N i + 1) cap)
  refine ⟨fun t => if t = i then .slice (some ⟨g, 0, none⟩) (N i + 1) cap else U t, fun t => if t = i then Xs i ++ [.int .i64 (mk i (N i))] else Xs t, ys.set i (.slice (some ⟨g, 0, none⟩) (N i + 1) cap), ?_, ?_, ?_, st1, ?_⟩
  · intro t ht
    by_cases e : t = i
    · subst e
      have hNe2 : (some g : Option Nat) ≠ some gg := fun e => hNe (by injection e)
      simp only [if_pos]
      refine ⟨hb.kept st2 (.inr hNe2), (h1 t ht).2.1.snoc (by have := (h1 t ht).1.1; omega), hNe2, List.getElem?_set_self (by omega), fun g' hg' s hs => ?_⟩
      have hg'l := hV t ht g' hg'
      have hggl : g' ≠ gg := by omega
      rw [st2.cell_far _ (by have := hgrow.size; have := h5.size; show g' < _; omega) (by simpa using hggl)]
      rcases hm with ⟨e4, hg4⟩ | ⟨e4, hg4⟩
      · by_cases e3 : g' = g
        · subst e3
          have hxl := (h1 t ht).1.1
          have := hb.cellAt s (by omega)
          rw [this, List.getElem?_append_left (by omega)]
          exact (h1 t ht).2.1 s (by omega)
        · rw [World.cell?_of_block (hg4.block g' (by have := h5.size; omega) (by simpa using e3))]
          exact (h1 t ht).2.2.2.2 g' hg' s hs
      · rw [World.cell?_of_block (hg4.block g' (by have := h5.size; omega) (by simp))]
        exact (h1 t ht).2.2.2.2 g' hg' s hs
    · simp only [if_neg e]
      refine ⟨?_, (h1 t ht).2.1, (h1 t ht).2.2.1, by rw [List.getElem?_set_ne (by omega)]; exact (h1 t ht).2.2.2.1, fun g' hg' s hs => ?_⟩
      · refine ((h1 t ht).1.kept hgrow ?_).kept st2 (.inr (h1 t ht).2.2.1)
        cases hq : (U t).ownBlock with
        | none => exact .inl rfl
        | some q => exact .inr (fun e5 => (h2 i t hi ht (Ne.symm e) q e5.symm).1 hq)
      · have hg'l := hV t ht g' hg'
        rw [st2.cell_far _ (by have := hgrow.size; have := h5.size; show g' < _; omega) (by simp; omega)]
        rw [World.cell?_of_block (hfar g' (by have := h5.size; omega) (fun e5 => (h2 i t hi ht (Ne.symm e) g' e5).2 hg'))]
        exact (h1 t ht).2.2.2.2 g' hg' s hs
  · intro p q hp hq hpq g0 hg0
    dsimp only at hg0 ⊢
    by_cases ep : p = i
    · subst ep
      have eq : ¬ q = p := fun e => hpq e.symm
      rw [if_pos rfl] at hg0
      rw [if_neg eq]
      obtain rfl : g = g0 := by simpa [Value.ownBlock] using hg0
      rcases hm with ⟨e4, _⟩ | ⟨e4, _⟩
      · exact h2 p q hp hq hpq g e4
      · exact ⟨fun e5 => by have := ((h1 q hq).1.lt g e5).2; omega, fun e5 => by have := hV q hq g e5; have := h5.size; omega⟩
    · rw [if_neg ep] at hg0
      by_cases eq : q = i
      · subst eq
        rw [if_pos rfl]
        refine ⟨fun e5 => ?_, (h2 p q hp hq hpq g0 hg0).2⟩
        obtain rfl : g = g0 := by simpa [Value.ownBlock] using e5
        rcases hm with ⟨e4, _⟩ | ⟨e4, _⟩
        · exact (h2 p q hp hq hpq g hg0).1 e4
        · have := ((h1 p hp).1.lt g hg0).2; omega
      · rw [if_neg eq]
        exact h2 p q hp hq hpq g0 hg0
  · intro t ht g0 hg0
    dsimp only at hg0
    by_cases e : t = i
    · subst e
      rw [if_pos rfl] at hg0
      obtain rfl : g = g0 := by simpa [Value.ownBlock] using hg0
      rcases hm with ⟨e4, _⟩ | ⟨e4, _⟩
      · exact h3 t ht g e4
      · exact .inr (by have := h5.size; omega)
    · rw [if_neg e] at hg0
      exact h3 t ht g0 hg0
  · refine (h5.grown hgrow (fun k hk => h3 i hi k hk)).grown st2 (fun k hk => .inr ?_)
    injection hk with hk
    omega
end Go.Proofs.YtifbcaiegalhbaaDoor
