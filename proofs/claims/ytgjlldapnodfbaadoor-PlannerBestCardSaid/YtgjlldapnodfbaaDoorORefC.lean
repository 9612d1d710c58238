/-
  The reference's Known in memory: what a call of its cheapest keeps.
-/
import Derived.Test.YtgjlldapnodfbaaDoorORefB
namespace Go.Proofs.YtgjlldapnodfbaaDoor
open Go Go.RowKit Go.Fl Go.Ord Go.Pr

/-! ### The blocks of S may turn; S grows by new blocks alone -/
structure KX (S : Nat → Prop) (w : World) (S' : Nat → Prop) (w' : World) : Prop where
  os : w'.os = w.os
  tape : w'.tape = w.tape
  output : w'.output = w.output
  size : w.heap.size ≤ w'.heap.size
  block : ∀ k, k < w.heap.size → ¬ S k → w'.heap[k]? = w.heap[k]?
  grow : ∀ k, S' k → S k ∨ w.heap.size ≤ k
theorem KX.refl (S : Nat → Prop) (w : World) : KX S w S w := ⟨rfl, rfl, rfl, Nat.le_refl _, fun _ _ _ => rfl, fun _ h => .inl h⟩
theorem KX.of {S : Nat → Prop} {w w' : World} (h : Kp w w') : KX S w S w' := ⟨h.os, h.tape, h.output, h.size, fun k hk _ => h.block k hk, fun _ h => .inl h⟩
theorem KX.outS {S S' : Nat → Prop} {w w' : World} (h : KX S w S' w') {k : Nat} (hk : k < w.heap.size) (hS : ¬ S k) : ¬ S' k := fun h1 => by
  rcases h.grow k h1 with h2 | h2
  · exact hS h2
  · omega
theorem KX.trans {S S' S'' : Nat → Prop} {a b c : World} (h : KX S a S' b) (k : KX S' b S'' c) : KX S a S'' c :=
  ⟨k.os.trans h.os, k.tape.trans h.tape, k.output.trans h.output, Nat.le_trans h.size k.size, fun j hj hS => (k.block j (Nat.lt_of_lt_of_le hj h.size) (h.outS hj hS)).trans (h.block j hj hS), fun j hj => by
    rcases k.grow j hj with h1 | h1
    · exact h.grow j h1
    · exact .inr (Nat.le_trans h.size h1)⟩
theorem KX.kp {S S' : Nat → Prop} {a b c : World} (h : KX S a S' b) (k : Kp b c) : KX S a S' c := h.trans (.of k)
theorem KX.later {S S' : Nat → Prop} {w w' : World} (h : KX S w S' w') {g j : Nat} {v : Value} (hc : w.cell? ⟨g, j, none⟩ = some v) (hS : ¬ S g) : w'.cell? ⟨g, j, none⟩ = some v :=
  (World.cell?_of_block (h.block g (World.block_lt_of_cell? w ⟨g, j, none⟩ hc) hS)).trans hc
/-- One block more that may turn. -/
theorem KX.or {S S' : Nat → Prop} {w w' : World} (h : KX S w S' w') (b : Nat) : KX (fun g => S g ∨ g = b) w (fun g => S' g ∨ g = b) w' :=
  ⟨h.os, h.tape, h.output, h.size, fun k hk hS => h.block k hk (fun e => hS (.inl e)), fun k hk => by
    rcases hk with hk | hk
    · exact (h.grow k hk).imp .inl id
    · exact .inl (.inr hk)⟩
theorem KX.kb {S : Nat → Prop} {b : Nat} {w w' : World} (h : Kb b w w') : KX (fun g => S g ∨ g = b) w (fun g => S g ∨ g = b) w' :=
  ⟨h.os, h.tape, h.output, h.size, fun k hk hS => h.block k hk (fun e => hS (.inr e)), fun _ h => .inl h⟩
/-- Seen from a world in which the block was not there yet. -/
theorem KX.up {S S' : Nat → Prop} {b : Nat} {w0 w w' : World} (h : KX (fun g => S g ∨ g = b) w (fun g => S' g ∨ g = b) w') (k : Kp w0 w) (hb : w0.heap.size ≤ b) : KX S w0 S' w' :=
  ⟨h.os.trans k.os, h.tape.trans k.tape, h.output.trans k.output, Nat.le_trans k.size h.size, fun j hj hS => (h.block j (Nat.lt_of_lt_of_le hj k.size) (fun e => by
    rcases e with e | e
    · exact hS e
    · omega)).trans (k.block j hj), fun j hj => by
    rcases h.grow j (.inl hj) with (h1 | h1) | h1
    · exact .inl h1
    · exact .inr (by omega)
    · exact .inr (Nat.le_trans k.size h1)⟩
/-- A new block has turned. -/
theorem KX.fresh {S S' : Nat → Prop} {b : Nat} {w w' w'' : World} (h : KX S w S' w') (hb : w.heap.size ≤ b) (k : Kb b w' w'') : KX S w S' w'' :=
  ⟨k.os.trans h.os, k.tape.trans h.tape, k.output.trans h.output, Nat.le_trans h.size k.size, fun j hj hS => (k.block j (Nat.lt_of_lt_of_le hj h.size) (by omega)).trans (h.block j hj hS), h.grow⟩
theorem OX.kx {Q S S' : Nat → Prop} {w w' : World} {T : Tr} {v : Value} (h : OX (fun g => Q g ∧ ¬ S g) w T v) (k : KX S w S' w') : OX (fun g => Q g ∧ ¬ S' g) w' T v :=
  h.stay k.size (fun g hg hq => k.block g hg hq.2) (fun g hg hq => ⟨hq.1, k.outS hg hq.2⟩)
theorem BVal.kx {Q S S' : Nat → Prop} {w w' : World} {b : Option (Tr × Int)} {k n : Int} {s : Value} {c : Int} (h : BVal (fun g => Q g ∧ ¬ S g) w b k n s c) (x : KX S w S' w') : BVal (fun g => Q g ∧ ¬ S' g) w' b k n s c := by
  cases b with
  | none => exact h
  | some p => exact ⟨h.1, h.2.1, h.2.2.1, h.2.2.2.kx x⟩
theorem owns_block {w w' : World} {base : Nat} {e : TypeId} {size : Nat} {v : Value} {n : Nat} {xs : List Value} (h : w.ownsRow base e size v n xs) (hb : ∀ g, v.ownBlock = some g → w'.heap[g]? = w.heap[g]?) : w'.ownsRow base e size v n xs := by
  obtain ⟨h1, h2⟩ := h
  refine ⟨h1, ?_⟩
  rcases h2 with h2 | ⟨g, cap, cur, hv, hg, hh, r⟩
  · exact Or.inl h2
  · exact Or.inr ⟨g, cap, cur, hv, hg, (hb g (by rw [hv]; rfl)).trans hh, r⟩
theorem owns_form2 {w : World} {base : Nat} {e : TypeId} {size : Nat} {v : Value} {n : Nat} {xs : List Value} (h : w.ownsRow base e size v n xs) : ∃ o c, v = .slice o n c := by
  rcases h.2 with ⟨h1, h2⟩ | ⟨g, cap, cur, h1, _⟩
  · exact ⟨none, 0, by rw [h1, h2]⟩
  · exact ⟨_, _, h1⟩

/-! ### The three rows -/
structure KM (S : Nat → Prop) (bk : Nat) (w : World) (vN : Value) (nN : Nat) (xs : List Value) (vO : Value) (nO : Nat) (es : List Value) (vC : Value) (nC : Nat) (cs : List Value) : Prop where
  row : w.heap[bk]? = some (.cells #[vN, vO, vC] 72 (0, 0))
  lt : ∀ g, S g → g < w.heap.size
  sk : S bk
  rN : w.ownsRow 0 3 1 vN nN xs
  rO : w.ownsRow 0 28 3 vO nO es
  rC : w.ownsRow 0 3 1 vC nC cs
  oN : ∀ g, vN.ownBlock = some g → S g ∧ g ≠ bk ∧ vO.ownBlock ≠ some g ∧ vC.ownBlock ≠ some g
  oO : ∀ g, vO.ownBlock = some g → S g ∧ g ≠ bk ∧ vC.ownBlock ≠ some g
  oC : ∀ g, vC.ownBlock = some g → S g ∧ g ≠ bk
section
variable {S : Nat → Prop} {bk : Nat} {w wa w1 w2 : World} {vN : Value} {nN : Nat} {xs : List Value} {vO : Value} {nO : Nat} {es : List Value} {vC : Value} {nC : Nat} {cs : List Value}
theorem KM.stay {w' : World} (h : KM S bk w vN nN xs vO nO es vC nC cs) (hs : w.heap.size ≤ w'.heap.size) (hb : ∀ g, S g → w'.heap[g]? = w.heap[g]?) : KM S bk w' vN nN xs vO nO es vC nC cs :=
  ⟨(hb bk h.sk).trans h.row, fun g hg => Nat.lt_of_lt_of_le (h.lt g hg) hs, h.sk, owns_block h.rN fun g hg => hb g (h.oN g hg).1, owns_block h.rO fun g hg => hb g (h.oO g hg).1, owns_block h.rC fun g hg => hb g (h.oC g hg).1, h.oN, h.oO, h.oC⟩
theorem KM.kp {w' : World} (h : KM S bk w vN nN xs vO nO es vC nC cs) (k : Kp w w') : KM S bk w' vN nN xs vO nO es vC nC cs := h.stay k.size fun g hg => k.block g (h.lt g hg)
theorem KM.kb {w' : World} {b : Nat} (h : KM S bk w vN nN xs vO nO es vC nC cs) (hb : ¬ S b) (k : Kb b w w') : KM S bk w' vN nN xs vO nO es vC nC cs := h.stay k.size fun g hg => k.block g (h.lt g hg) (fun e => hb (e ▸ hg))
theorem KM.kx {own : Option Nat} {g : Nat} {u : Value} {j : Nat} (h : KM S bk w vN nN xs vO nO es vC nC cs) (hk : Kp w wa) (hg : wa.grownBy w1 own) (how : ∀ k, own = some k → S k) (hat : own = some g ∨ g = wa.heap.size) (h12 : Kb g w1 w2) :
    KX S w (fun k => S k ∨ k = g) (w2.setCell ⟨bk, j, none⟩ u) := by
  have hs := Nat.le_trans hk.size (Nat.le_trans hg.size h12.size)
  refine ⟨h12.os.trans (hg.os.trans hk.os), h12.tape.trans (hg.tape.trans hk.tape), h12.output.trans (hg.output.trans hk.output), by simpa using hs, fun k hkk hS => ?_, fun k hkk => ?_⟩
  · have e1 : k ≠ bk := fun e => hS (e ▸ h.sk)
    have e2 : k ≠ g := fun e => by
      rcases hat with h1 | h1
      · exact hS (e ▸ how g h1)
      · have := hk.size; omega
    rw [heap_set_other _ _ _ _ e1, h12.block k (Nat.lt_of_lt_of_le hkk (Nat.le_trans hk.size hg.size)) e2, hg.block k (Nat.lt_of_lt_of_le hkk hk.size) (fun e => hS (how k e.symm)), hk.block k hkk]
  · rcases hkk with h1 | rfl
    · exact .inl h1
    · rcases hat with h1 | h1
      · exact .inl (how k h1)
      · exact .inr (by have := hk.size; omega)
/-- What an append to one of the rows leaves as it was. -/
theorem KM.rest {own : Option Nat} {g : Nat} {u : Value} {j : Nat} (h : KM S bk w vN nN xs vO nO es vC nC cs) (hk : Kp w wa) (hg : wa.grownBy w1 own) (hat : own = some g ∨ g = wa.heap.size) (h12 : Kb g w1 w2) {q : Nat} (hq : S q) (hqb : q ≠ bk) (hqo : own ≠ some q) :
    (w2.setCell ⟨bk, j, none⟩ u).heap[q]? = w.heap[q]? := by
  have hl := h.lt q hq
  have e2 : q ≠ g := fun e => by
    rcases hat with h1 | h1
    · exact hqo (e ▸ h1)
    · have := hk.size; omega
  rw [heap_set_other _ _ _ _ hqb, h12.block q (Nat.lt_of_lt_of_le hl (Nat.le_trans hk.size hg.size)) e2, hg.block q (Nat.lt_of_lt_of_le hl hk.size) (fun e => hqo e.symm), hk.block q hl]
theorem KM.lts {own : Option Nat} {g : Nat} {u : Value} {j : Nat} (h : KM S bk w vN nN xs vO nO es vC nC cs) (hk : Kp w wa) (hg : wa.grownBy w1 own) (h12 : Kb g w1 w2) (hlt : g < w1.heap.size) : ∀ k, (S k ∨ k = g) → k < (w2.setCell ⟨bk, j, none⟩ u).heap.size := fun k hkk => by
  rw [World.size_setCell]
  rcases hkk with h1 | rfl
  · exact Nat.lt_of_lt_of_le (h.lt k h1) (Nat.le_trans hk.size (Nat.le_trans hg.size h12.size))
  · exact Nat.lt_of_lt_of_le hlt h12.size
theorem KM.rowOld {own : Option Nat} {g : Nat} (h : KM S bk w vN nN xs vO nO es vC nC cs) (hk : Kp w wa) (hg : wa.grownBy w1 own) (hob : own ≠ some bk) (hat : own = some g ∨ g = wa.heap.size) (h12 : Kb g w1 w2) : w2.heap[bk]? = some (.cells #[vN, vO, vC] 72 (0, 0)) := by
  have hl := h.lt bk h.sk
  have e2 : bk ≠ g := fun e => by
    rcases hat with h1 | h1
    · exact hob (e ▸ h1)
    · have := hk.size; omega
  rw [h12.block bk (Nat.lt_of_lt_of_le hl (Nat.le_trans hk.size hg.size)) e2, hg.block bk (Nat.lt_of_lt_of_le hl hk.size) (fun e => hob e.symm), hk.block bk hl]
  exact h.row
theorem KM.new {own : Option Nat} {g : Nat} (h : KM S bk w vN nN xs vO nO es vC nC cs) (hk : Kp w wa) (hat : own = some g ∨ g = wa.heap.size) {q : Nat} (hq : S q) (hqo : own ≠ some q) : g ≠ q := fun e => by
  rcases hat with h1 | h1
  · exact hqo (e ▸ h1)
  · have := hk.size; have := h.lt q hq; omega
theorem KM.pushN {g cap m : Nat} {ys : List Value} (h : KM S bk w vN nN xs vO nO es vC nC cs) (hk : Kp w wa) (hg : wa.grownBy w1 vN.ownBlock) (hat : vN.ownBlock = some g ∨ g = wa.heap.size) (hlt : g < w1.heap.size) (h12 : Kb g w1 w2)
    (hown : w2.ownsRow 0 3 1 (.slice (some ⟨g, 0, none⟩) m cap) m ys) :
    KM (fun k => S k ∨ k = g) bk (w2.setCell ⟨bk, 0, none⟩ (.slice (some ⟨g, 0, none⟩) m cap)) (.slice (some ⟨g, 0, none⟩) m cap) m ys vO nO es vC nC cs ∧ KX S w (fun k => S k ∨ k = g) (w2.setCell ⟨bk, 0, none⟩ (.slice (some ⟨g, 0, none⟩) m cap)) := by
  have hob : vN.ownBlock ≠ some bk := fun e => (h.oN bk e).2.1 rfl
  have gb : g ≠ bk := h.new hk hat h.sk hob
  have gO : ∀ q, vO.ownBlock = some q → g ≠ q := fun q hq => h.new hk hat (h.oO q hq).1 (fun e => (h.oN q e).2.2.1 hq)
  have gC : ∀ q, vC.ownBlock = some q → g ≠ q := fun q hq => h.new hk hat (h.oC q hq).1 (fun e => (h.oN q e).2.2.2 hq)
  refine ⟨⟨?_, h.lts hk hg h12 hlt, .inl h.sk, owns_block hown fun q hq => ?_, owns_block h.rO fun q hq => ?_, owns_block h.rC fun q hq => ?_, fun q hq => ?_, fun q hq => ?_, fun q hq => ?_⟩, h.kx hk hg (fun q hq => (h.oN q hq).1) hat h12⟩
  · have := heap_setCell_same w2 bk 0 _ _ (.slice (some ⟨g, 0, none⟩) m cap) (h.rowOld hk hg hob hat h12)
    exact this
  · obtain rfl : g = q := by simpa [Value.ownBlock] using hq
    exact heap_set_other _ _ _ _ gb
  · exact h.rest hk hg hat h12 (h.oO q hq).1 (h.oO q hq).2.1 (fun e => (h.oN q e).2.2.1 hq)
  · exact h.rest hk hg hat h12 (h.oC q hq).1 (h.oC q hq).2 (fun e => (h.oN q e).2.2.2 hq)
  · obtain rfl : g = q := by simpa [Value.ownBlock] using hq
    exact ⟨.inr rfl, gb, fun e => gO _ e rfl, fun e => gC _ e rfl⟩
  · exact ⟨.inl (h.oO q hq).1, (h.oO q hq).2⟩
  · exact ⟨.inl (h.oC q hq).1, (h.oC q hq).2⟩
theorem KM.pushO {g cap m : Nat} {ys : List Value} (h : KM S bk w vN nN xs vO nO es vC nC cs) (hk : Kp w wa) (hg : wa.grownBy w1 vO.ownBlock) (hat : vO.ownBlock = some g ∨ g = wa.heap.size) (hlt : g < w1.heap.size) (h12 : Kb g w1 w2)
    (hown : w2.ownsRow 0 28 3 (.slice (some ⟨g, 0, none⟩) m cap) m ys) :
    KM (fun k => S k ∨ k = g) bk (w2.setCell ⟨bk, 1, none⟩ (.slice (some ⟨g, 0, none⟩) m cap)) vN nN xs (.slice (some ⟨g, 0, none⟩) m cap) m ys vC nC cs ∧ KX S w (fun k => S k ∨ k = g) (w2.setCell ⟨bk, 1, none⟩ (.slice (some ⟨g, 0, none⟩) m cap)) := by
  have hob : vO.ownBlock ≠ some bk := fun e => (h.oO bk e).2.1 rfl
  have gb : g ≠ bk := h.new hk hat h.sk hob
  have gN : ∀ q, vN.ownBlock = some q → g ≠ q := fun q hq => h.new hk hat (h.oN q hq).1 (h.oN q hq).2.2.1
  have gC : ∀ q, vC.ownBlock = some q → g ≠ q := fun q hq => h.new hk hat (h.oC q hq).1 (fun e => (h.oO q e).2.2 hq)
  refine ⟨⟨?_, h.lts hk hg h12 hlt, .inl h.sk, owns_block h.rN fun q hq => ?_, owns_block hown fun q hq => ?_, owns_block h.rC fun q hq => ?_, fun q hq => ?_, fun q hq => ?_, fun q hq => ?_⟩, h.kx hk hg (fun q hq => (h.oO q hq).1) hat h12⟩
  · have := heap_setCell_same w2 bk 1 _ _ (.slice (some ⟨g, 0, none⟩) m cap) (h.rowOld hk hg hob hat h12)
    exact this
  · exact h.rest hk hg hat h12 (h.oN q hq).1 (h.oN q hq).2.1 (h.oN q hq).2.2.1
  · obtain rfl : g = q := by simpa [Value.ownBlock] using hq
    exact heap_set_other _ _ _ _ gb
  · exact h.rest hk hg hat h12 (h.oC q hq).1 (h.oC q hq).2 (fun e => (h.oO q e).2.2 hq)
  · exact ⟨.inl (h.oN q hq).1, (h.oN q hq).2.1, fun e => gN q hq (by simpa [Value.ownBlock] using e), (h.oN q hq).2.2.2⟩
  · obtain rfl : g = q := by simpa [Value.ownBlock] using hq
    exact ⟨.inr rfl, gb, fun e => gC _ e rfl⟩
  · exact ⟨.inl (h.oC q hq).1, (h.oC q hq).2⟩
theorem KM.pushC {g cap m : Nat} {ys : List Value} (h : KM S bk w vN nN xs vO nO es vC nC cs) (hk : Kp w wa) (hg : wa.grownBy w1 vC.ownBlock) (hat : vC.ownBlock = some g ∨ g = wa.heap.size) (hlt : g < w1.heap.size) (h12 : Kb g w1 w2)
    (hown : w2.ownsRow 0 3 1 (.slice (some ⟨g, 0, none⟩) m cap) m ys) :
    KM (fun k => S k ∨ k = g) bk (w2.setCell ⟨bk, 2, none⟩ (.slice (some ⟨g, 0, none⟩) m cap)) vN nN xs vO nO es (.slice (some ⟨g, 0, none⟩) m cap) m ys ∧ KX S w (fun k => S k ∨ k = g) (w2.setCell ⟨bk, 2, none⟩ (.slice (some ⟨g, 0, none⟩) m cap)) := by
  have hob : vC.ownBlock ≠ some bk := fun e => (h.oC bk e).2 rfl
  have gb : g ≠ bk := h.new hk hat h.sk hob
  have gN : ∀ q, vN.ownBlock = some q → g ≠ q := fun q hq => h.new hk hat (h.oN q hq).1 (h.oN q hq).2.2.2
  have gO : ∀ q, vO.ownBlock = some q → g ≠ q := fun q hq => h.new hk hat (h.oO q hq).1 (h.oO q hq).2.2
  refine ⟨⟨?_, h.lts hk hg h12 hlt, .inl h.sk, owns_block h.rN fun q hq => ?_, owns_block h.rO fun q hq => ?_, owns_block hown fun q hq => ?_, fun q hq => ?_, fun q hq => ?_, fun q hq => ?_⟩, h.kx hk hg (fun q hq => (h.oC q hq).1) hat h12⟩
  · have := heap_setCell_same w2 bk 2 _ _ (.slice (some ⟨g, 0, none⟩) m cap) (h.rowOld hk hg hob hat h12)
    exact this
  · exact h.rest hk hg hat h12 (h.oN q hq).1 (h.oN q hq).2.1 (h.oN q hq).2.2.2
  · exact h.rest hk hg hat h12 (h.oO q hq).1 (h.oO q hq).2.1 (h.oO q hq).2.2
  · obtain rfl : g = q := by simpa [Value.ownBlock] using hq
    exact heap_set_other _ _ _ _ gb
  · exact ⟨.inl (h.oN q hq).1, (h.oN q hq).2.1, (h.oN q hq).2.2.1, fun e => gN q hq (by simpa [Value.ownBlock] using e)⟩
  · exact ⟨.inl (h.oO q hq).1, (h.oO q hq).2.1, fun e => gO q hq (by simpa [Value.ownBlock] using e)⟩
  · obtain rfl : g = q := by simpa [Value.ownBlock] using hq
    exact ⟨.inr rfl, gb⟩
end

/-! ### What the rows say -/
def KE (p : Pol) (Q S : Nat → Prop) (w : World) (l : List Nat) (es cs : List Value) : Prop :=
  (l.Nodup ∧ ∀ i ∈ l, 1 ≤ i ∧ i ≤ 16384) ∧ ∀ i (hi : i < l.length), ∃ k n o m c cost, es[i * 3]? = some (.int .i64 k) ∧ es[i * 3 + 1]? = some (.int .i64 n) ∧ es[i * 3 + 2]? = some (.slice o m c) ∧ cs[i]? = some (.int .i64 cost) ∧ BVal (fun g => Q g ∧ ¬ S g) w (best p l[i]) k n (.slice o m c) cost
def keyCells (l : List Nat) : List Value := l.map fun i => .int .i64 (i : Nat)
theorem keyCells_snoc (l : List Nat) (n : Nat) : keyCells (l ++ [n]) = keyCells l ++ [.int .i64 (n : Nat)] := by simp [keyCells]
def KI (p : Pol) (Q S : Nat → Prop) (bk : Nat) (w : World) (l : List Nat) : Prop :=
  ∃ vN vO vC es cs, KM S bk w vN l.length (keyCells l) vO l.length es vC l.length cs ∧ KE p Q S w l es cs
theorem KE.kx {p : Pol} {Q S S' : Nat → Prop} {w w' : World} {l : List Nat} {es cs : List Value} (h : KE p Q S w l es cs) (x : KX S w S' w') : KE p Q S' w' l es cs := ⟨h.1, fun i hi => by
  obtain ⟨k, n, o, m, c, cost, h1, h2, h3, h4, h5⟩ := h.2 i hi
  exact ⟨k, n, o, m, c, cost, h1, h2, h3, h4, h5.kx x⟩⟩
theorem KE.mono {p : Pol} {Q Q' S : Nat → Prop} {w : World} {l : List Nat} {es cs : List Value} (h : KE p Q S w l es cs) (hQ : ∀ g, g < w.heap.size → Q g → Q' g) : KE p Q' S w l es cs := ⟨h.1, fun i hi => by
  obtain ⟨k, n, o, m, c, cost, h1, h2, h3, h4, h5⟩ := h.2 i hi
  exact ⟨k, n, o, m, c, cost, h1, h2, h3, h4, h5.mono fun g hg hq => ⟨hQ g hg hq.1, hq.2⟩⟩⟩
theorem KE.kb {p : Pol} {Q S : Nat → Prop} {w w' : World} {b : Nat} {l : List Nat} {es cs : List Value} (h : KE p Q S w l es cs) (hQ : ∀ g, Q g → g ≠ b) (x : Kb b w w') : KE p Q S w' l es cs := ⟨h.1, fun i hi => by
  obtain ⟨k, n, o, m, c, cost, h1, h2, h3, h4, h5⟩ := h.2 i hi
  exact ⟨k, n, o, m, c, cost, h1, h2, h3, h4, h5.kb (fun g hg => hQ g hg.1) x⟩⟩
theorem KE.push {p : Pol} {Q S : Nat → Prop} {w : World} {l : List Nat} {es cs : List Value} (h : KE p Q S w l es cs) (he : es.length = l.length * 3) (hc : cs.length = l.length) {n : Nat} (hn : n ∉ l) (h1 : 1 ≤ n) (h2 : n ≤ 16384) {k n0 : Int} {o : Option Addr} {m c : Nat} {cost : Int}
    (hB : BVal (fun g => Q g ∧ ¬ S g) w (best p n) k n0 (.slice o m c) cost) : KE p Q S w (l ++ [n]) (es ++ [.int .i64 k, .int .i64 n0, .slice o m c]) (cs ++ [.int .i64 cost]) := by
  refine ⟨⟨?_, ?_⟩, ?_⟩
  · rw [List.nodup_append]
    refine ⟨h.1.1, by simp, fun a ha b hb e => ?_⟩
    obtain rfl := List.mem_singleton.1 hb
    exact hn (e ▸ ha)
  · intro i hi
    rcases List.mem_append.1 hi with hi | hi
    · exact h.1.2 i hi
    · obtain rfl := List.mem_singleton.1 hi
      exact ⟨h1, h2⟩
  · intro i hi
    by_cases hlt : i < l.length
    · obtain ⟨k, n, o, m, c, cost, q1, q2, q3, q4, q5⟩ := h.2 i hlt
      refine ⟨k, n, o, m, c, cost, ?_, ?_, ?_, ?_, ?_⟩
      · rw [List.getElem?_append_left (by omega)]; exact q1
      · rw [List.getElem?_append_left (by omega)]; exact q2
      · rw [List.getElem?_append_left (by omega)]; exact q3
      · rw [List.getElem?_append_left (by omega)]; exact q4
      · rw [List.getElem_append_left hlt]; exact q5
    · obtain rfl : i = l.length := by simp at hi; omega
      refine ⟨k, n0, o, m, c, cost, ?_, ?_, ?_, ?_, ?_⟩
      · rw [List.getElem?_append_right (by omega), he, Nat.sub_self]; rfl
      · rw [List.getElem?_append_right (by omega), he, Nat.add_sub_cancel_left]; rfl
      · rw [List.getElem?_append_right (by omega), he, Nat.add_sub_cancel_left]; rfl
      · rw [List.getElem?_append_right (by omega), hc, Nat.sub_self]; rfl
      · rw [List.getElem_append_right (Nat.le_refl _)]
        simpa using hB
theorem KI.kp {p : Pol} {Q S : Nat → Prop} {bk : Nat} {w w' : World} {l : List Nat} (h : KI p Q S bk w l) (k : Kp w w') : KI p Q S bk w' l := by
  obtain ⟨vN, vO, vC, es, cs, h1, h2⟩ := h
  exact ⟨vN, vO, vC, es, cs, h1.kp k, h2.kx (.of k)⟩
theorem KI.mono {p : Pol} {Q Q' S : Nat → Prop} {bk : Nat} {w : World} {l : List Nat} (h : KI p Q S bk w l) (hQ : ∀ g, g < w.heap.size → Q g → Q' g) : KI p Q' S bk w l := by
  obtain ⟨vN, vO, vC, es, cs, h1, h2⟩ := h
  exact ⟨vN, vO, vC, es, cs, h1, h2.mono hQ⟩
theorem KI.kb {p : Pol} {Q S : Nat → Prop} {bk b : Nat} {w w' : World} {l : List Nat} (h : KI p Q S bk w l) (hb : ¬ S b) (hQ : ∀ g, Q g → g ≠ b) (k : Kb b w w') : KI p Q S bk w' l := by
  obtain ⟨vN, vO, vC, es, cs, h1, h2⟩ := h
  exact ⟨vN, vO, vC, es, cs, h1.kb hb k, h2.kb hQ k⟩
theorem nodup_len : ∀ (N : Nat) (l : List Nat), l.Nodup → (∀ i ∈ l, i < N) → l.length ≤ N
  | 0, l, _, h => by
    cases l with
    | nil => exact Nat.le_refl _
    | cons a l => exact absurd (h a (List.mem_cons_self ..)) (Nat.not_lt_zero _)
  | N + 1, l, hd, h => by
    have h1 := nodup_len N (l.erase N) (hd.erase N) fun i hi => by
      have := (hd.mem_erase_iff.1 hi)
      have := h i this.2
      omega
    have h2 := List.length_erase (a := N) (l := l)
    split at h2 <;> omega
theorem KE.len {p : Pol} {Q S : Nat → Prop} {w : World} {l : List Nat} {es cs : List Value} (h : KE p Q S w l es cs) : l.length ≤ 16385 := nodup_len 16385 l h.1.1 fun i hi => by have := (h.1.2 i hi).2; omega
/-- The policy's list, where S does not reach. -/
def FlS (S : Nat → Prop) (w : World) (v : Value) (l : List Int) : Prop :=
  ∃ o c, v = .slice o l.length c ∧ (0 < l.length → ∃ g off, o = some ⟨g, off, none⟩ ∧ (g < w.heap.size ∧ ¬ S g) ∧ ∀ i, i < l.length → w.cell? ⟨g, off + i, none⟩ = some (.int .i64 (l.getD i 0)))
theorem FlS.fl {S : Nat → Prop} {w : World} {v : Value} {l : List Int} (h : FlS S w v l) : FlIn w v l := by
  obtain ⟨o, c, e, h⟩ := h
  refine ⟨o, c, e, fun hl => ?_⟩
  obtain ⟨g, off, e2, hg, hc⟩ := h hl
  exact ⟨g, off, e2, hg.1, hc⟩
theorem FlS.kx {S S' : Nat → Prop} {w w' : World} {v : Value} {l : List Int} (h : FlS S w v l) (k : KX S w S' w') : FlS S' w' v l := by
  obtain ⟨o, c, e, h⟩ := h
  refine ⟨o, c, e, fun hl => ?_⟩
  obtain ⟨g, off, e2, hg, hc⟩ := h hl
  exact ⟨g, off, e2, ⟨Nat.lt_of_lt_of_le hg.1 k.size, k.outS hg.1 hg.2⟩, fun i hi => k.later (hc i hi) hg.2⟩
end Go.Proofs.YtgjlldapnodfbaaDoor
