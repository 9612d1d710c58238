import Derived.Test.YtgjlldapnodfbaaDoorJAll
import Derived.Test.YtgjlldapnodfbaaDoorOChs
import Derived.Test.YtgjlldapnodfbaaDoorJBoth
import Derived.Lib.SliceRun
/-
  Who hands out orders (it may turn the blocks Sp) and who takes them (it may turn the blocks Sc): their moves; what the planner's each stands on.
-/
namespace Go.Ord
open Go.Pr
theorem bound_head {p : Pol} (n : Nat) : ∀ T ∈ ordsHead p n, T.parts ≤ bound n := by
  intro T hT
  obtain ⟨k, _, rfl⟩ := List.mem_map.1 hT
  rw [leaf_parts]
  exact bound_one n
/-- No order has many parts. -/
theorem ords_parts {p : Pol} (hp : p.Good) (n : Nat) : 1 ≤ n → ∀ T ∈ ords p n, T.parts ≤ bound n := by
  induction n using Nat.strongRecOn with
  | ind n ih =>
    intro hn T hT
    rw [ords_eq hn] at hT
    unfold ordsStep at hT
    rw [List.mem_append, List.mem_append] at hT
    rcases hT with (hT | hT) | hT
    · exact bound_head n T hT
    · obtain ⟨a, ha, hT⟩ := List.mem_flatMap.1 hT
      have hd := (mem_divs (by omega)).1 ha
      unfold ordsDiv at hT
      split at hT
      · cases hT
      · rename_i hc
        obtain ⟨k, hk, hT⟩ := List.mem_flatMap.1 hT
        obtain ⟨U, hU, rfl⟩ := List.mem_map.1 hT
        have h1 := ih (n / a) (Nat.div_lt_self (by omega) (by omega)) (Nat.div_pos (Nat.le_of_dvd hn hd) (by omega)) U hU
        have := bound_div hn (show 2 ≤ a by omega) hd
        rw [times_parts, leaf_parts]
        omega
    · unfold ordsBlue at hT
      split at hT
      · rename_i hh
        obtain rfl := List.mem_singleton.1 hT
        obtain ⟨hrk, hle⟩ := hard_rank hn hp.p1 hh
        obtain ⟨t1, t2, k, t3⟩ := twoOf_is (N := 2 * n - 1) (by omega) (by omega)
        have hk : k ≤ 14 := by
          rcases Nat.lt_or_ge 14 k with c | c
          · have := Nat.pow_le_pow_right (show 0 < 2 by decide) (show 15 ≤ k from c)
            omega
          · exact c
        have hb2 := bound_two hk
        have hbn : 33 ≤ bound n := by
          unfold bound
          have : ¬ 2 ^ Nat.log2 n = n := fun e => by
            have := rank_two (Nat.log2 n)
            rw [e] at this
            have := (rank_le n).1
            omega
          rw [if_neg this]; omega
        unfold blueOf
        rw [blue_parts]
        cases hb : best p (twoOf (2 * n - 1)) with
        | none => simp [treeOf, Tr.parts, sumTo]; omega
        | some x =>
          obtain ⟨U, C⟩ := x
          have := (best_ok hp _ _ (Nat.le_refl _) (by omega) U C hb).2.2
          rw [t3] at this
          simp only [treeOf]
          omega
      · cases hT
/-- A product is among the orders. -/
theorem ords_times {p : Pol} {n a : Nat} (hn : 1 ≤ n) (ha : 2 ≤ a) (hlt : a < n) (hd : a ∣ n) {k : Int} (hk : k ∈ p.heads a) {T : Tr} (hT : T ∈ ords p (n / a)) : (leaf k a).times T ∈ ords p n := by
  rw [ords_eq hn]
  unfold ordsStep
  refine List.mem_append_left _ (List.mem_append_right _ (List.mem_flatMap.2 ⟨a, (mem_divs (by omega)).2 hd, ?_⟩))
  unfold ordsDiv
  rw [if_neg (by omega)]
  exact List.mem_flatMap.2 ⟨k, hk, List.mem_map.2 ⟨T, hT, rfl⟩⟩
end Go.Ord
namespace Go.Proofs.YtgjlldapnodfbaaDoor
open Go Go.RowKit Go.Fl Go.Ord Go.Pr

/-- All but S's blocks stays; what is no cells and lies at or beyond b0 may turn besides. -/
structure PM (b0 : Nat) (S : Nat → Prop) (w : World) (S' : Nat → Prop) (w' : World) : Prop where
  os : w'.os = w.os
  tape : w'.tape = w.tape
  output : w'.output = w.output
  size : w.heap.size ≤ w'.heap.size
  block : ∀ k, k < w.heap.size → ¬ S k → w'.heap[k]? = w.heap[k]? ∨ (b0 ≤ k ∧ ∃ o, w.heap[k]? = some o ∧ o.isCells = false)
  grow : ∀ k, S' k → S k ∨ w.heap.size ≤ k
section
variable {b0 : Nat} {S S' S'' : Nat → Prop} {w w' w'' : World}
theorem PM.kx (h : KX S w S' w') : PM b0 S w S' w' := ⟨h.os, h.tape, h.output, h.size, fun k hk hS => .inl (h.block k hk hS), h.grow⟩
theorem PM.of (h : Kp w w') : PM b0 S w S w' := PM.kx (.of h)
theorem PM.refl (S : Nat → Prop) (w : World) : PM b0 S w S w := PM.kx (KX.refl S w)
theorem PM.out (h : PM b0 S w S' w') {k : Nat} (hk : k < w.heap.size) (hS : ¬ S k) : ¬ S' k := fun h1 => by
  rcases h.grow k h1 with h2 | h2
  · exact hS h2
  · omega
theorem PM.trans (h : PM b0 S w S' w') (k : PM b0 S' w' S'' w'') : PM b0 S w S'' w'' :=
  ⟨k.os.trans h.os, k.tape.trans h.tape, k.output.trans h.output, Nat.le_trans h.size k.size, fun j hj hS => by
    rcases h.block j hj hS with h1 | h1
    · rcases k.block j (Nat.lt_of_lt_of_le hj h.size) (h.out hj hS) with h2 | ⟨h2, o, h3, h4⟩
      · exact .inl (h2.trans h1)
      · exact .inr ⟨h2, o, h1.symm.trans h3, h4⟩
    · exact .inr h1, fun j hj => by
    rcases k.grow j hj with h1 | h1
    · exact h.grow j h1
    · exact .inr (Nat.le_trans h.size h1)⟩
theorem PM.turn {r : Nat} {o : Obj} (hb : b0 ≤ r) (ho : w.heap[r]? = some o) (hc : o.isCells = false) (k : Kb r w w') : PM b0 S w S w' :=
  ⟨k.os, k.tape, k.output, k.size, fun j hj _ => by
    by_cases e : j = r
    · subst e; exact .inr ⟨hb, o, ho, hc⟩
    · exact .inl (k.block j hj e), fun _ h => .inl h⟩
theorem PM.cells (h : PM b0 S w S' w') {g : Nat} {cs : Array Value} {t : TypeId} {fr : Nat × Nat} (hg : w.heap[g]? = some (.cells cs t fr)) (hS : ¬ S g) : w'.heap[g]? = some (.cells cs t fr) := by
  rcases h.block g (Array.getElem?_eq_some_iff.1 hg).1 hS with h1 | ⟨_, o, h2, h3⟩
  · exact h1.trans hg
  · rw [hg] at h2; cases h2; cases h3
theorem PM.low (h : PM b0 S w S' w') {g : Nat} {o : Obj} (hg : w.heap[g]? = some o) (hS : ¬ S g) (hb : g < b0) : w'.heap[g]? = some o := by
  rcases h.block g (Array.getElem?_eq_some_iff.1 hg).1 hS with h1 | ⟨h2, _⟩
  · exact h1.trans hg
  · omega
theorem PM.later (h : PM b0 S w S' w') {g j : Nat} {v : Value} (hc : w.cell? ⟨g, j, none⟩ = some v) (hS : ¬ S g) : w'.cell? ⟨g, j, none⟩ = some v := by
  rcases h.block g (World.block_lt_of_cell? w ⟨g, j, none⟩ hc) hS with h1 | ⟨_, o, h2, h3⟩
  · exact (World.cell?_of_block h1).trans hc
  · rw [no_cells h2 h3] at hc; cases hc
theorem OX.pm {R R' : Nat → Prop} (k : PM b0 S w S' w') (hR : ∀ g, g < w.heap.size → R g → ¬ S g) (hR' : ∀ g, g < w.heap.size → R g → R' g) : ∀ {T : Tr} {v : Value}, OX R w T v → OX R' w' T v := by
  intro T
  induction T with
  | nil => intro v h; exact (OX.nil h).elim
  | mk kk n m kid ih =>
    rintro v ⟨o, c, h1, h2, h3⟩
    refine ⟨o, c, h1, h2, fun hm => ?_⟩
    obtain ⟨g, off, e, hg, hc⟩ := h3 hm
    refine ⟨g, off, e, ⟨Nat.lt_of_lt_of_le hg.1 k.size, hR' g hg.1 hg.2⟩, fun i hi => ?_⟩
    obtain ⟨a, b', s, q1, q2, q3, h⟩ := hc i hi
    have hn := hR g hg.1 hg.2
    exact ⟨a, b', s, k.later q1 hn, k.later q2 hn, k.later q3 hn, ih i h⟩
/-- The taker's move. -/
structure CM (b0 : Nat) (S : Nat → Prop) (w : World) (S' : Nat → Prop) (w' : World) : Prop where
  kx : KX S w S' w'
  nc : ∀ g o, b0 ≤ g → w.heap[g]? = some o → o.isCells = false → w'.heap[g]? = some o
  lt : (∀ g, S g → g < w.heap.size) → ∀ g, S' g → g < w'.heap.size
theorem CM.of (h : Kp w w') : CM b0 S w S w' := ⟨.of h, fun g o _ hg _ => (h.block g (Array.getElem?_eq_some_iff.1 hg).1).trans hg, fun hl g hg => Nat.lt_of_lt_of_le (hl g hg) h.size⟩
theorem CM.trans (h : CM b0 S w S' w') (k : CM b0 S' w' S'' w'') : CM b0 S w S'' w'' := ⟨h.kx.trans k.kx, fun g o hb hg hc => k.nc g o hb (h.nc g o hb hg hc) hc, fun hl => k.lt (h.lt hl)⟩
end
/-- Both have moved: of the giver's old blocks the map alone has turned. -/
structure EM (b0 bm : Nat) (Sp Sc : Nat → Prop) (w : World) (Sp' Sc' : Nat → Prop) (w' : World) : Prop where
  os : w'.os = w.os
  tape : w'.tape = w.tape
  output : w'.output = w.output
  size : w.heap.size ≤ w'.heap.size
  block : ∀ k, k < w.heap.size → k ≠ bm → ¬ Sc k → w'.heap[k]? = w.heap[k]?
  gp : ∀ k, Sp' k → Sp k ∨ w.heap.size ≤ k
  gc : ∀ k, Sc' k → Sc k ∨ w.heap.size ≤ k
  kp : ∀ k, Sp k → Sp' k
  nc : ∀ g o, b0 ≤ g → w.heap[g]? = some o → o.isCells = false → w'.heap[g]? = some o
section
variable {b0 bm : Nat} {Sp Sc Sp' Sc' Sp'' Sc'' : Nat → Prop} {w w' w'' : World}
theorem EM.refl (b0 bm : Nat) (Sp Sc : Nat → Prop) (w : World) : EM b0 bm Sp Sc w Sp Sc w := ⟨rfl, rfl, rfl, Nat.le_refl _, fun _ _ _ _ => rfl, fun _ h => .inl h, fun _ h => .inl h, fun _ h => h, fun _ _ _ h _ => h⟩
theorem EM.outp (h : EM b0 bm Sp Sc w Sp' Sc' w') {k : Nat} (hk : k < w.heap.size) (hS : ¬ Sp k) : ¬ Sp' k := fun h1 => by
  rcases h.gp k h1 with h2 | h2
  · exact hS h2
  · omega
theorem EM.outc (h : EM b0 bm Sp Sc w Sp' Sc' w') {k : Nat} (hk : k < w.heap.size) (hS : ¬ Sc k) : ¬ Sc' k := fun h1 => by
  rcases h.gc k h1 with h2 | h2
  · exact hS h2
  · omega
theorem EM.trans (h : EM b0 bm Sp Sc w Sp' Sc' w') (k : EM b0 bm Sp' Sc' w' Sp'' Sc'' w'') : EM b0 bm Sp Sc w Sp'' Sc'' w'' :=
  ⟨k.os.trans h.os, k.tape.trans h.tape, k.output.trans h.output, Nat.le_trans h.size k.size, fun j hj h1 h2 => (k.block j (Nat.lt_of_lt_of_le hj h.size) h1 (h.outc hj h2)).trans (h.block j hj h1 h2),
    fun j hj => (k.gp j hj).elim (h.gp j) fun e => .inr (Nat.le_trans h.size e), fun j hj => (k.gc j hj).elim (h.gc j) fun e => .inr (Nat.le_trans h.size e), fun j hj => k.kp j (h.kp j hj), fun g o hb hg hc => k.nc g o hb (h.nc g o hb hg hc) hc⟩
theorem EM.of (h : Kp w w') : EM b0 bm Sp Sc w Sp Sc w' := ⟨h.os, h.tape, h.output, h.size, fun k hk _ _ => h.block k hk, fun _ h => .inl h, fun _ h => .inl h, fun _ h => h, fun g o _ hg _ => (h.block g (Array.getElem?_eq_some_iff.1 hg).1).trans hg⟩
theorem EM.cm (h : CM b0 Sc w Sc' w') : EM b0 bm Sp Sc w Sp Sc' w' := ⟨h.kx.os, h.kx.tape, h.kx.output, h.kx.size, fun k hk _ h2 => h.kx.block k hk h2, fun _ h => .inl h, h.kx.grow, fun _ h => h, h.nc⟩
/-- The map has turned. -/
theorem EM.map (hb : bm < b0) (k : Kb bm w w') : EM b0 bm Sp Sc w Sp Sc w' :=
  ⟨k.os, k.tape, k.output, k.size, fun j hj h1 _ => k.block j hj h1, fun _ h => .inl h, fun _ h => .inl h, fun _ h => h, fun g o hb' hg hc => (k.block g (Array.getElem?_eq_some_iff.1 hg).1 (by omega)).trans hg⟩
/-- A block that was not there turns. -/
theorem EM.fresh {r : Nat} (h : EM b0 bm Sp Sc w Sp' Sc' w') (hr : w.heap.size ≤ r) (k : Kb r w' w'') : EM b0 bm Sp Sc w Sp' Sc' w'' :=
  ⟨k.os.trans h.os, k.tape.trans h.tape, k.output.trans h.output, Nat.le_trans h.size k.size, fun j hj h1 h2 => (k.block j (Nat.lt_of_lt_of_le hj h.size) (by omega)).trans (h.block j hj h1 h2), h.gp, h.gc, h.kp, fun g o hb hg hc => by
    have hl := (Array.getElem?_eq_some_iff.1 hg).1
    exact (k.block g (Nat.lt_of_lt_of_le hl h.size) (by omega)).trans (h.nc g o hb hg hc)⟩
theorem EM.cells (h : EM b0 bm Sp Sc w Sp' Sc' w') {g : Nat} {o : Obj} (hg : w.heap[g]? = some o) (h1 : g ≠ bm) (h2 : ¬ Sc g) : w'.heap[g]? = some o := (h.block g (Array.getElem?_eq_some_iff.1 hg).1 h1 h2).trans hg
theorem EM.later (h : EM b0 bm Sp Sc w Sp' Sc' w') {g j : Nat} {v : Value} (hc : w.cell? ⟨g, j, none⟩ = some v) (h1 : g ≠ bm) (h2 : ¬ Sc g) : w'.cell? ⟨g, j, none⟩ = some v :=
  (World.cell?_of_block (h.block g (World.block_lt_of_cell? w ⟨g, j, none⟩ hc) h1 h2)).trans hc
theorem EM.keeps (h : EM b0 bm Sp Sc w Sp' Sc' w') {B : Nat} (hB : b0 ≤ B) : KeepsFrom B w w' := ⟨h.size, fun g o hg ho hc => h.nc g o (by omega) ho hc⟩
/-- A block more is the giver's. -/
theorem EM.more {B : Nat} (k : Kp w w') (hB : w.heap.size ≤ B) : EM b0 bm Sp Sc w (fun g => Sp g ∨ g = B) Sc w' := ⟨k.os, k.tape, k.output, k.size, fun j hj _ _ => k.block j hj, fun j hj => hj.imp id fun e => by omega, fun _ h => .inl h, fun _ h => .inl h, fun g o _ hg _ => (k.block g (Array.getElem?_eq_some_iff.1 hg).1).trans hg⟩
theorem PM.more {S : Nat → Prop} {B : Nat} (k : Kp w w') (hB : w.heap.size ≤ B) : PM b0 S w (fun g => S g ∨ g = B) w' := ⟨k.os, k.tape, k.output, k.size, fun j hj _ => .inl (k.block j hj), fun j hj => hj.imp id fun e => by omega⟩
theorem PM.kb {S : Nat → Prop} {r : Nat} (hr : S r) (k : Kb r w w') : PM b0 S w S w' := ⟨k.os, k.tape, k.output, k.size, fun j hj hS => .inl (k.block j hj fun e => hS (e ▸ hr)), fun _ h => .inl h⟩
end
theorem Memo.stay {p : Pol} {Q Q' : Nat → Prop} {w w' : World} {f : Nat → Option Value} (h : Memo p Q w f) (hs : w.heap.size ≤ w'.heap.size) (hb : ∀ g, g < w.heap.size → Q g → w'.heap[g]? = w.heap[g]?) (hQ : ∀ g, g < w.heap.size → Q g → Q' g) : Memo p Q' w' f := fun i v hv => by
  obtain ⟨h1, k, n, o, m, c, cost, e, hB⟩ := h i v hv
  refine ⟨h1, k, n, o, m, c, cost, e, ?_⟩
  cases hb' : best p i with
  | none => rw [hb'] at hB; exact hB
  | some x => rw [hb'] at hB; exact ⟨hB.1, hB.2.1, hB.2.2.1, hB.2.2.2.stay hs hb hQ⟩
theorem MM.stay {p : Pol} {Q Q' : Nat → Prop} {w w' : World} {bm : Nat} {f : Nat → Option Value} (h : MM p Q w bm f) (hm : w'.heap[bm]? = w.heap[bm]?) (hs : w.heap.size ≤ w'.heap.size) (hb : ∀ g, g < w.heap.size → Q g → w'.heap[g]? = w.heap[g]?) (hQ : ∀ g, g < w.heap.size → Q g → Q' g) : MM p Q' w' bm f :=
  ⟨h.1.block hm, h.2.1.stay hs hb hQ, h.2.2⟩
/-- What each stands on. -/
structure EST (p : Pol) (bc bm : Nat) (vf : Value) (b0 : Nat) (Sp Sc : Nat → Prop) (w : World) : Prop where
  ch : CH w bc p vf bm
  nc : ¬ Sp bc ∧ ¬ Sc bc
  fl : FlS (fun g => Sp g ∨ Sc g) w vf p.fl
  bp : Sp bm
  bn : ¬ Sc bm
  b0 : bm < b0
  mm : ∃ f, MM p (fun g => ¬ Sp g ∧ ¬ Sc g) w bm f
  lp : ∀ g, Sp g → g < w.heap.size
  lc : ∀ g, Sc g → g < w.heap.size
section
variable {p : Pol} {bc bm : Nat} {vf : Value} {b0 : Nat} {Sp Sc Sp' Sc' : Nat → Prop} {w w' : World}
theorem FlS.stay {S S' : Nat → Prop} {v : Value} {l : List Int} (h : FlS S w v l) (hs : w.heap.size ≤ w'.heap.size) (hb : ∀ g j v, w.cell? ⟨g, j, none⟩ = some v → ¬ S g → w'.cell? ⟨g, j, none⟩ = some v) (hS : ∀ g, g < w.heap.size → ¬ S g → ¬ S' g) : FlS S' w' v l := by
  obtain ⟨o, c, e, h⟩ := h
  refine ⟨o, c, e, fun hl => ?_⟩
  obtain ⟨g, off, e2, hg, hc⟩ := h hl
  exact ⟨g, off, e2, ⟨Nat.lt_of_lt_of_le hg.1 hs, hS g hg.1 hg.2⟩, fun i hi => hb _ _ _ (hc i hi) hg.2⟩
theorem EST.kp (h : EST p bc bm vf b0 Sp Sc w) (k : Kp w w') : EST p bc bm vf b0 Sp Sc w' := by
  obtain ⟨h1, h2, h3, h4, h5, h6, ⟨f, h7⟩, h8, h9⟩ := h
  exact ⟨h1.kp k, h2, h3.stay k.size (fun g j v hc _ => k.later hc) (fun _ _ h => h), h4, h5, h6, ⟨f, h7.kp k⟩, fun g hg => Nat.lt_of_lt_of_le (h8 g hg) k.size, fun g hg => Nat.lt_of_lt_of_le (h9 g hg) k.size⟩
theorem EST.cm (h : EST p bc bm vf b0 Sp Sc w) (k : CM b0 Sc w Sc' w') : EST p bc bm vf b0 Sp Sc' w' := by
  obtain ⟨h1, h2, h3, h4, h5, h6, ⟨f, h7⟩, h8, h9⟩ := h
  have hbm := h8 bm h4
  exact ⟨(k.kx.block bc h1.lt h2.2).trans h1, ⟨h2.1, k.kx.outS h1.lt h2.2⟩, h3.stay k.kx.size (fun g j v hc hn => k.kx.later hc (fun e => hn (.inr e))) (fun g hg hn e => e.elim (fun e => hn (.inl e)) (fun e => k.kx.outS hg (fun e => hn (.inr e)) e)), h4, k.kx.outS hbm h5, h6,
    ⟨f, h7.stay (k.kx.block bm hbm h5) k.kx.size (fun g hg hq => k.kx.block g hg hq.2) (fun g hg hq => ⟨hq.1, k.kx.outS hg hq.2⟩)⟩, fun g hg => Nat.lt_of_lt_of_le (h8 g hg) k.kx.size, k.lt h9⟩
/-- A new block of the giver's. -/
theorem EST.box (h : EST p bc bm vf b0 Sp Sc w) {B : Nat} (k : Kp w w') (hB : w.heap.size ≤ B) (hB' : B < w'.heap.size) : EST p bc bm vf b0 (fun g => Sp g ∨ g = B) Sc w' := by
  have hl := h.ch.lt
  obtain ⟨h1, h2, h3, h4, h5, h6, ⟨f, h7⟩, h8, h9⟩ := h
  exact ⟨h1.kp k, ⟨fun e => e.elim h2.1 (fun e => by omega), h2.2⟩, h3.stay k.size (fun g j v hc _ => k.later hc) (fun g hg hn e => by
    rcases e with (e | e) | e
    · exact hn (.inl e)
    · omega
    · exact hn (.inr e)), .inl h4, h5, h6, ⟨f, by
      have h0 := h7.mono (Q' := fun g => (¬ (Sp g ∨ g = B)) ∧ ¬ Sc g) fun g hg hq => ⟨fun e => e.elim hq.1 (fun e => by omega), hq.2⟩
      exact h0.kp k⟩, fun g hg => hg.elim (fun e => Nat.lt_of_lt_of_le (h8 g e) k.size) (fun e => e ▸ hB'), fun g hg => Nat.lt_of_lt_of_le (h9 g hg) k.size⟩
/-- A block that is no cells, other than the map, turns. -/
theorem EST.turn (h : EST p bc bm vf b0 Sp Sc w) {r : Nat} {o : Obj} (hr : b0 ≤ r) (ho : w.heap[r]? = some o) (hc : o.isCells = false) (k : Kb r w w') : EST p bc bm vf b0 Sp Sc w' := by
  have hn := no_cells ho hc
  obtain ⟨h1, h2, h3, h4, h5, h6, ⟨f, h7⟩, h8, h9⟩ := h
  have hbr : bc ≠ r := fun e => by subst e; rw [h1] at ho; cases ho; cases hc
  exact ⟨(k.block bc h1.lt hbr).trans h1, h2, h3.stay k.size (fun g j v hcc _ => by
    have : g ≠ r := fun e => by subst e; rw [hn] at hcc; cases hcc
    exact (World.cell?_of_block (a := ⟨g, j, none⟩) (k.block g (World.block_lt_of_cell? w ⟨g, j, none⟩ hcc) this)).trans hcc) (fun _ _ h => h), h4, h5, h6, ⟨f, h7.knc (by omega) hn k⟩, fun g hg => Nat.lt_of_lt_of_le (h8 g hg) k.size, fun g hg => Nat.lt_of_lt_of_le (h9 g hg) k.size⟩
/-- A block of the giver's, other than the map, turns. -/
theorem EST.sp (h : EST p bc bm vf b0 Sp Sc w) {r : Nat} (hr : Sp r) (hrm : bm ≠ r) (k : Kb r w w') : EST p bc bm vf b0 Sp Sc w' := by
  obtain ⟨h1, h2, h3, h4, h5, h6, ⟨f, h7⟩, h8, h9⟩ := h
  have hne : ∀ g, ¬ Sp g → g ≠ r := fun g hg e => hg (e ▸ hr)
  exact ⟨(k.block bc h1.lt (hne bc h2.1)).trans h1, h2, h3.stay k.size (fun g j v hcc hn => (World.cell?_of_block (a := ⟨g, j, none⟩) (k.block g (World.block_lt_of_cell? w ⟨g, j, none⟩ hcc) (hne g fun e => hn (.inl e)))).trans hcc) (fun _ _ h => h), h4, h5, h6,
    ⟨f, h7.stay (k.block bm (h8 bm h4) hrm) k.size (fun g hg hq => k.block g hg (hne g hq.1)) (fun _ _ hq => hq)⟩, fun g hg => Nat.lt_of_lt_of_le (h8 g hg) k.size, fun g hg => Nat.lt_of_lt_of_le (h9 g hg) k.size⟩
/-- Another function has looked at the map. -/
theorem EST.map (h : EST p bc bm vf b0 Sp Sc w) {f' : Nat → Option Value} (hm : MM p (fun g => ¬ Sp g ∧ ¬ Sc g) w' bm f') (k : Kb bm w w') : EST p bc bm vf b0 Sp Sc w' := by
  obtain ⟨h1, h2, h3, h4, h5, h6, ⟨f, h7⟩, h8, h9⟩ := h
  have hne : ∀ g, ¬ Sp g → g ≠ bm := fun g hg e => hg (e ▸ h4)
  exact ⟨(k.block bc h1.lt (hne bc h2.1)).trans h1, h2, h3.stay k.size (fun g j v hcc hn => (World.cell?_of_block (a := ⟨g, j, none⟩) (k.block g (World.block_lt_of_cell? w ⟨g, j, none⟩ hcc) (hne g fun e => hn (.inl e)))).trans hcc) (fun _ _ h => h), h4, h5, h6,
    ⟨f', hm⟩, fun g hg => Nat.lt_of_lt_of_le (h8 g hg) k.size, fun g hg => Nat.lt_of_lt_of_le (h9 g hg) k.size⟩
end
end Go.Proofs.YtgjlldapnodfbaaDoor
/-
  One who takes orders; the function that the planner's each hands to the call within.
-/
namespace Go.Proofs.YtgjlldapnodfbaaDoor
open Go Go.RowKit Go.Fl Go.Ord Go.Pr

theorem heads_le' (p : Pol) (a : Int) : (p.heads a).length ≤ 2 := by unfold Pol.heads; split <;> split <;> simp
/-- G (with two captures) takes the orders of a list: J: between two calls; Jx: it has said 'no more'. -/
def Takes (L : List Tr) (b0 G x1 x2 : Nat) (J Jx : (Nat → Prop) → (Nat → Prop) → List Tr → World → Prop) : Prop :=
  ∀ (Sp Sc : Nat → Prop) (pre : List Tr) (T : Tr) (k n0 : Int) (o : Option Addr) (m c : Nat) (W : World), T ∈ L → (∀ g, Sp g → g < W.heap.size) → (∀ g, Sc g → g < W.heap.size) → J Sp Sc pre W → OX (fun g => ¬ Sp g ∧ ¬ Sc g) W T (.agg #[.int .i64 k, .int .i64 n0, .slice o m c]) →
    Calls Tryd.prog G #[.agg #[.int .i64 k, .int .i64 n0, .slice o m c], .pointer (some ⟨x1, 0, none⟩), .pointer (some ⟨x2, 0, none⟩)] W fun e W' => ∃ (b : Bool) (Sc' : Nat → Prop), e = .returned (.bool b) ∧ Hid (CM b0 Sc W Sc' W' ∧ (b = true → J Sp Sc' (pre ++ [T]) W') ∧ (b = false → Jx Sp Sc' (pre ++ [T]) W'))
/-- It abides the giver's moves. -/
def Abide (b0 : Nat) (J : (Nat → Prop) → (Nat → Prop) → List Tr → World → Prop) : Prop := ∀ Sp Sc pre W Sp' W', J Sp Sc pre W → PM b0 Sp W Sp' W' → (∀ g, Sc g → g < W.heap.size) → J Sp' Sc pre W'
def JI (J : (Nat → Prop) → (Nat → Prop) → List Tr → World → Prop) (pre0 : List Tr) (B5 Bh G x1 x2 : Nat) (k a : Int) (Sp Sc : Nat → Prop) (pre : List Tr) (W : World) : Prop :=
  J Sp Sc (pre0 ++ pre.map fun T => (leaf k a).times T) W ∧ W.heap[B5]? = some (.cells #[.func (.func G) #[] #[.pointer (some ⟨x1, 0, none⟩), .pointer (some ⟨x2, 0, none⟩)]] 46 (0, 0)) ∧
    W.heap[Bh]? = some (.cells #[.int .i64 k, .int .i64 a, .slice none 0 0] 28 (0, 0)) ∧ (¬ Sp B5 ∧ ¬ Sc B5) ∧ (¬ Sp Bh ∧ ¬ Sc Bh)
def JxI (Jx : (Nat → Prop) → (Nat → Prop) → List Tr → World → Prop) (pre0 : List Tr) (k a : Int) (Sp Sc : Nat → Prop) (pre : List Tr) (W : World) : Prop := Jx Sp Sc (pre0 ++ pre.map fun T => (leaf k a).times T) W
theorem JI.abide {b0 : Nat} {J : (Nat → Prop) → (Nat → Prop) → List Tr → World → Prop} (hJ : Abide b0 J) (pre0 : List Tr) (B5 Bh G x1 x2 : Nat) (k a : Int) : Abide b0 (JI J pre0 B5 Bh G x1 x2 k a) := by
  rintro Sp Sc pre W Sp' W' ⟨h1, h2, h3, h4, h5⟩ hm hb
  exact ⟨hJ _ _ _ _ _ _ h1 hm hb, hm.cells h2 h4.1, hm.cells h3 h5.1, ⟨hm.out (Array.getElem?_eq_some_iff.1 h2).1 h4.1, h4.2⟩, ⟨hm.out (Array.getElem?_eq_some_iff.1 h3).1 h5.1, h5.2⟩⟩
theorem JxI.abide {b0 : Nat} {Jx : (Nat → Prop) → (Nat → Prop) → List Tr → World → Prop} (hJ : Abide b0 Jx) (pre0 : List Tr) (k a : Int) : Abide b0 (JxI Jx pre0 k a) := fun _ _ _ _ _ _ h hm hb => hJ _ _ _ _ _ _ h hm hb
set_option maxRecDepth 100000 in
set_option maxHeartbeats 1000000 in
theorem eachfn_takes {L L' : List Tr} {b0 G x1 x2 : Nat} {J Jx : (Nat → Prop) → (Nat → Prop) → List Tr → World → Prop} (hG : ∀ args w, (callFunc G args).run Tryd.prog w = .ok (.enter G args) w) (hJ : Abide b0 J) (hT : Takes L b0 G x1 x2 J Jx)
    (pre0 : List Tr) (B5 Bh : Nat) (k a : Int) (ha : 0 ≤ a ∧ a ≤ 16384) (hL : ∀ T ∈ L', (leaf k a).times T ∈ L ∧ T.parts ≤ 4096) :
    Takes L' b0 83 B5 Bh (JI J pre0 B5 Bh G x1 x2 k a) (JxI Jx pre0 k a) := by
  intro Sp Sc pre T kk n0 o m c W hTL hSp hSc hJI hOX
  obtain ⟨h1, h2, h3, h4, h5⟩ := hJI
  have HJ := Lib.hid h1
  have H2 := Lib.hid h2
  have H3 := Lib.hid h3
  have HOX := Lib.hid hOX
  have HT := Lib.hid hT
  have HA := Lib.hid hJ
  have HS := Lib.hid (And.intro hSp hSc)
  have hB5 := (Array.getElem?_eq_some_iff.1 h2).1
  have hBh := (Array.getElem?_eq_some_iff.1 h3).1
  have hk0 := (Kp.refl W).alloc (.cells #[.int .i64 kk, .int .i64 n0, .slice o m c] 28)
  have hb := heap_alloc_new W (.cells #[.int .i64 kk, .int .i64 n0, .slice o m c] 28)
  have HC : Hid (∀ w', Kp (W.alloc (.cells #[.int .i64 kk, .int .i64 n0, .slice o m c] 28)) w' → w'.cell? ⟨B5, 0, none⟩ = some (.func (.func G) #[] #[.pointer (some ⟨x1, 0, none⟩), .pointer (some ⟨x2, 0, none⟩)]) ∧ (w'.cell? ⟨Bh, 0, none⟩ = some (.int .i64 k) ∧ w'.cell? ⟨Bh, 1, none⟩ = some (.int .i64 a) ∧ w'.cell? ⟨Bh, 2, none⟩ = some (.slice none 0 0)) ∧
      (w'.cell? ⟨W.heap.size, 0, none⟩ = some (.int .i64 kk) ∧ w'.cell? ⟨W.heap.size, 1, none⟩ = some (.int .i64 n0) ∧ w'.cell? ⟨W.heap.size, 2, none⟩ = some (.slice o m c))) := Lib.hid fun w' kw => by
    have kk2 := hk0.trans kw
    exact ⟨cell_of_row _ _ 0 _ _ _ ((kk2.block _ hB5).trans h2), (row3_facts ((kk2.block _ hBh).trans h3)).1, (row3_facts ((kw.block _ (Array.getElem?_eq_some_iff.1 hb).1).trans hb)).1⟩
  have HTi : Hid (∀ w', Kp (W.alloc (.cells #[.int .i64 kk, .int .i64 n0, .slice o m c] 28)) w' → Calls Tryd.prog 21 #[.agg #[.int .i64 k, .int .i64 a, .slice none 0 0], .agg #[.int .i64 kk, .int .i64 n0, .slice o m c]] w' fun e w'' => ∃ o7 c7, e = .returned (.agg #[.int .i64 3, .int .i64 0, .slice o7 2 c7]) ∧
      Hid (OX (fun g => ¬ Sp g ∧ ¬ Sc g) w'' ((leaf k a).times T) (.agg #[.int .i64 3, .int .i64 0, .slice o7 2 c7])) ∧ Kp (W.alloc (.cells #[.int .i64 kk, .int .i64 n0, .slice o m c] 28)) w'') := Lib.hid fun w' kw => by
    have kk2 := hk0.trans kw
    refine (Times_any (leaf k a) T _ _ w' (leaf_ox (fun _ => True) w' k a (by omega) (by omega)).oin (HOX.out.kp kk2).oin (by rw [leaf_parts]; decide) (hL T hTL).2).mono ?_
    rintro e w'' ⟨o7, c7, rfl, q1, q2⟩
    have := kk2.size
    exact ⟨o7, c7, rfl, Lib.hid (q1.mono fun g _ hg => ⟨fun h => by have := HS.out.1 g h; omega, fun h => by have := HS.out.2 g h; omega⟩), kw.trans q2⟩
  have HCall : Hid (∀ w' o7 c7, Kp (W.alloc (.cells #[.int .i64 kk, .int .i64 n0, .slice o m c] 28)) w' → Hid (OX (fun g => ¬ Sp g ∧ ¬ Sc g) w' ((leaf k a).times T) (.agg #[.int .i64 3, .int .i64 0, .slice o7 2 c7])) → Calls Tryd.prog G #[.agg #[.int .i64 3, .int .i64 0, .slice o7 2 c7], .pointer (some ⟨x1, 0, none⟩), .pointer (some ⟨x2, 0, none⟩)] w' fun e W' => ∃ (b : Bool) (Sc' : Nat → Prop), e = .returned (.bool b) ∧
      Hid (CM b0 Sc (W.alloc (.cells #[.int .i64 kk, .int .i64 n0, .slice o m c] 28)) Sc' W' ∧ (b = true → J Sp Sc' (pre0 ++ (pre ++ [T]).map fun T => (leaf k a).times T) W') ∧ (b = false → Jx Sp Sc' (pre0 ++ (pre ++ [T]).map fun T => (leaf k a).times T) W'))) := Lib.hid fun w' o7 c7 kw hox => by
    have kk2 := hk0.trans kw
    have hj := HA.out _ _ _ _ _ _ HJ.out (PM.of kk2) hSc
    have hp : pre0 ++ (pre ++ [T]).map (fun T => (leaf k a).times T) = (pre0 ++ pre.map fun T => (leaf k a).times T) ++ [(leaf k a).times T] := by rw [List.map_append, List.append_assoc]; rfl
    rw [hp]
    refine (HT.out Sp Sc _ _ _ _ _ _ _ w' (hL T hTL).1 (fun g hg => Nat.lt_of_lt_of_le (hSp g hg) kk2.size) (fun g hg => Nat.lt_of_lt_of_le (hSc g hg) kk2.size) hj hox.out).mono ?_
    rintro e W' ⟨b, Sc', rfl, q⟩
    exact ⟨b, Sc', rfl, Lib.hid ⟨(CM.of kw).trans q.out.1, q.out.2⟩⟩
  have HN := Lib.hid (And.intro h4 h5)
  have HBb : Hid (∀ (Sc' : Nat → Prop) W', CM b0 Sc W Sc' W' → ((W'.heap[B5]? = some (.cells #[.func (.func G) #[] #[.pointer (some ⟨x1, 0, none⟩), .pointer (some ⟨x2, 0, none⟩)]] 46 (0, 0)) ∧ W'.heap[Bh]? = some (.cells #[.int .i64 k, .int .i64 a, .slice none 0 0] 28 (0, 0))) ∧ (¬ Sp B5 ∧ ¬ Sc' B5) ∧ (¬ Sp Bh ∧ ¬ Sc' Bh))) := Lib.hid fun Sc' W' q =>
    ⟨⟨(q.kx.block _ hB5 h4.2).trans h2, (q.kx.block _ hBh h5.2).trans h3⟩, ⟨h4.1, q.kx.outS hB5 h4.2⟩, ⟨h5.1, q.kx.outS hBh h5.2⟩⟩
  have HC8 : Hid (∀ (Sc' : Nat → Prop) (w' : World), CM b0 Sc (W.alloc (.cells #[.int .i64 kk, .int .i64 n0, .slice o m c] 28)) Sc' w' → w'.cell? ⟨B5, 0, none⟩ = some (.func (.func G) #[] #[.pointer (some ⟨x1, 0, none⟩), .pointer (some ⟨x2, 0, none⟩)]) ∧ (w'.cell? ⟨Bh, 0, none⟩ = some (.int .i64 k) ∧ w'.cell? ⟨Bh, 1, none⟩ = some (.int .i64 a) ∧ w'.cell? ⟨Bh, 2, none⟩ = some (.slice none 0 0)) ∧
      (w'.cell? ⟨W.heap.size, 0, none⟩ = some (.int .i64 kk) ∧ w'.cell? ⟨W.heap.size, 1, none⟩ = some (.int .i64 n0) ∧ w'.cell? ⟨W.heap.size, 2, none⟩ = some (.slice o m c))) := Lib.hid fun Sc' w' q => by
    obtain ⟨y0, ⟨y1, y2, y3⟩, y4, y5, y6⟩ := HC.out _ (Kp.refl _)
    have hn : ¬ Sc W.heap.size := fun e => by have := HS.out.2 _ e; omega
    exact ⟨q.kx.later y0 h4.2, ⟨q.kx.later y1 h5.2, q.kx.later y2 h5.2, q.kx.later y3 h5.2⟩, q.kx.later y4 hn, q.kx.later y5 hn, q.kx.later y6 hn⟩
  obtain ⟨z0, ⟨z1, z2, z3⟩, z4, z5, z6⟩ := HC.out _ (Kp.refl _)
  clear hTL hSp hSc hOX hT hJ h1 h2 h3 h4 h5 hL hB5 hBh hb
  go_enter Tryd.func83, Tryd.ntmps83
  go_upto_region 1 with fail
  have kd := (Kp.refl (W.alloc (.cells #[.int .i64 kk, .int .i64 n0, .slice o m c] 28))).drew
  go_region_held3 (fun w' => w'.cell? ⟨B5, 0, none⟩ = some (.func (.func G) #[] #[.pointer (some ⟨x1, 0, none⟩), .pointer (some ⟨x2, 0, none⟩)]) ∧ (w'.cell? ⟨Bh, 0, none⟩ = some (.int .i64 k) ∧ w'.cell? ⟨Bh, 1, none⟩ = some (.int .i64 a) ∧ w'.cell? ⟨Bh, 2, none⟩ = some (.slice none 0 0)) ∧
      (w'.cell? ⟨W.heap.size, 0, none⟩ = some (.int .i64 kk) ∧ w'.cell? ⟨W.heap.size, 1, none⟩ = some (.int .i64 n0) ∧ w'.cell? ⟨W.heap.size, 2, none⟩ = some (.slice o m c))) (first | go_keep | exact HC8.out _ _ HM.out.1 | exact HC.out _ kd | exact HC.out _ hk7)
    (first
    | (go_at_call 21; (with_reducible refine (HTi.out _ kd).mono ?_); rintro e w7 ⟨o7, c7, rfl, HX7, hk7⟩)
    | ((with_reducible refine (HCall.out _ _ _ hk7 HX7).mono ?_); rintro e w8 ⟨b, Sc', rfl, HM⟩))
  all_goals go_wp2_with fail
  go_ret
  have hcm := (CM.of hk0).trans HM.out.1
  obtain ⟨⟨q1, q2⟩, q3, q4⟩ := HBb.out _ _ hcm
  exact ⟨b, Sc', rfl, Lib.hid ⟨hcm, fun e => ⟨HM.out.2.1 e, q1, q2, q3, q4⟩, fun e => HM.out.2.2 e⟩⟩
end Go.Proofs.YtgjlldapnodfbaaDoor
/-
  The planner's each: it hands out all orders of a length, in order, until it is told 'no more'.
-/
namespace Go.Proofs.YtgjlldapnodfbaaDoor
open Go Go.RowKit Go.Fl Go.Ord Go.Pr Go.Shelf
attribute [local go_sem] Oper.semAt_some

/-- Behind a call of each. -/
def EPost (p : Pol) (bc bm : Nat) (vf : Value) (b0 n : Nat) (J Jx : (Nat → Prop) → (Nat → Prop) → List Tr → World → Prop) (Sp Sc : Nat → Prop) (pre : List Tr) (W : World) (b : Bool) (W' : World) : Prop :=
  ∃ (Sp' Sc' : Nat → Prop), EM b0 bm Sp Sc W Sp' Sc' W' ∧ EST p bc bm vf b0 Sp' Sc' W' ∧ (b = true → J Sp' Sc' (pre ++ ords p n) W') ∧ (b = false → ∃ q, q <+: ords p n ∧ Jx Sp' Sc' (pre ++ q) W')
/-- What each gives. -/
def EachSpec (p : Pol) (bc bm : Nat) (vf : Value) (b0 n : Nat) : Prop :=
  ∀ (G x1 x2 : Nat) (J Jx : (Nat → Prop) → (Nat → Prop) → List Tr → World → Prop), (∀ args w, (callFunc G args).run Tryd.prog w = .ok (.enter G args) w) → Abide b0 J → Abide b0 Jx → Takes (ords p n) b0 G x1 x2 J Jx →
    ∀ (Sp Sc : Nat → Prop) (pre : List Tr) (W : World), b0 ≤ W.heap.size → EST p bc bm vf b0 Sp Sc W → J Sp Sc pre W →
      Calls Tryd.prog 64 #[.pointer (some ⟨bc, 0, none⟩), .int .i64 n, .func (.func G) #[] #[.pointer (some ⟨x1, 0, none⟩), .pointer (some ⟨x2, 0, none⟩)]] W fun e W' => ∃ b : Bool, e = .returned (.bool b) ∧ EPost p bc bm vf b0 n J Jx Sp Sc pre W b W'
theorem ret_bool {fn : Func} {p : Tmp} (h : fn.results = #[.cell p 4]) (tmps : Array Value) (w : World) (g : Nat) (b : Bool) (hp : tmps.getD p undef = .pointer (some ⟨g, 0, none⟩)) (hc : w.cell? ⟨g, 0, none⟩ = some (.bool b)) : (results fn tmps).run Tryd.prog w = .ok (.bool b) w := by
  have hp' : tmps[p]?.getD undef = .pointer (some ⟨g, 0, none⟩) := by simpa using hp
  simp [results, h, hp', asAddr, go_sem, hc]
theorem heap_alloc4 (w : World) (a b c d : Obj) : ((((w.alloc a).alloc b).alloc c).alloc d).heap[w.heap.size]? = some a ∧ ((((w.alloc a).alloc b).alloc c).alloc d).heap[w.heap.size + 1]? = some b ∧ ((((w.alloc a).alloc b).alloc c).alloc d).heap[w.heap.size + 1 + 1]? = some c ∧ ((((w.alloc a).alloc b).alloc c).alloc d).heap[w.heap.size + 1 + 1 + 1]? = some d := by
  obtain ⟨h1, h2, h3⟩ := heap_alloc3 (w.alloc a) b c d
  rw [World.size_alloc] at h1 h2 h3
  exact ⟨(heap_alloc_old (((w.alloc a).alloc b).alloc c) d _ (show w.heap.size < _ by simp; omega)).trans (heap_alloc3 w a b c).1, h1, h2, h3⟩
theorem kb_setCell (w : World) (B j : Nat) (v : Value) : Kb B w (w.setCell ⟨B, j, none⟩ v) := ⟨rfl, rfl, rfl, by simp, fun k _ hk => heap_set_other _ _ _ _ hk⟩
theorem kp_reset {w : World} {B : Nat} {t : TypeId} {v : Value} (h : Boxed w B t v) : Kp w (w.setCell ⟨B, 0, none⟩ v) :=
  ⟨rfl, rfl, rfl, by simp, fun k hk => by
    by_cases e : k = B
    · subst e; exact (h.set v).trans h.symm
    · exact heap_set_other _ _ _ _ e⟩
/-- Between two rounds. -/
def EI (p : Pol) (bc bm : Nat) (vf : Value) (b0 : Nat) (J : (Nat → Prop) → (Nat → Prop) → List Tr → World → Prop) (Sq Sc : Nat → Prop) (W0 : World) (X : List Tr) (W : World) : Prop :=
  ∃ (Sp' Sc' : Nat → Prop), EM b0 bm Sq Sc W0 Sp' Sc' W ∧ EST p bc bm vf b0 Sp' Sc' W ∧ J Sp' Sc' X W
/-- It has been told 'no more'. -/
def EIx (p : Pol) (bc bm : Nat) (vf : Value) (b0 : Nat) (Jx : (Nat → Prop) → (Nat → Prop) → List Tr → World → Prop) (Sq Sc : Nat → Prop) (W0 : World) (pre L : List Tr) (W : World) : Prop :=
  ∃ (Sp' Sc' : Nat → Prop) (q : List Tr), EM b0 bm Sq Sc W0 Sp' Sc' W ∧ EST p bc bm vf b0 Sp' Sc' W ∧ q <+: L ∧ Jx Sp' Sc' (pre ++ q) W
section
variable {p : Pol} {bc bm : Nat} {vf : Value} {b0 : Nat} {J Jx : (Nat → Prop) → (Nat → Prop) → List Tr → World → Prop} {Sq Sc : Nat → Prop} {W0 W W' : World}
theorem EI.kp {X : List Tr} (hJ : Abide b0 J) (h : EI p bc bm vf b0 J Sq Sc W0 X W) (k : Kp W W') : EI p bc bm vf b0 J Sq Sc W0 X W' := by
  obtain ⟨Sp', Sc', h1, h2, h3⟩ := h
  exact ⟨Sp', Sc', h1.trans (EM.of k), h2.kp k, hJ _ _ _ _ _ _ h3 (PM.of k) h2.lc⟩
theorem EIx.kp {pre L : List Tr} (hJ : Abide b0 Jx) (h : EIx p bc bm vf b0 Jx Sq Sc W0 pre L W) (k : Kp W W') : EIx p bc bm vf b0 Jx Sq Sc W0 pre L W' := by
  obtain ⟨Sp', Sc', q, h1, h2, h3, h4⟩ := h
  exact ⟨Sp', Sc', q, h1.trans (EM.of k), h2.kp k, h3, hJ _ _ _ _ _ _ h4 (PM.of k) h2.lc⟩
theorem EI.own {β : Type} (hJ : Abide b0 J) (f : β → List Tr) {B : Nat} (hB : W0.heap.size ≤ B) (hb : b0 ≤ B) : OwnFrom B (fun (x : β) W => EI p bc bm vf b0 J Sq Sc W0 (f x) W) := by
  intro x W W' row h hg hr
  cases row with
  | none => exact h.kp hJ (Kp.of_grown hg)
  | some r =>
    obtain ⟨hB', o, ho, hc⟩ := hr r rfl
    have hk := Kb.of_grown hg
    obtain ⟨Sp', Sc', h1, h2, h3⟩ := h
    exact ⟨Sp', Sc', h1.fresh (by omega) hk, h2.turn (by omega) ho hc hk, hJ _ _ _ _ _ _ h3 (PM.turn (by omega) ho hc hk) h2.lc⟩
theorem EIx.own {β : Type} (hJ : Abide b0 Jx) (pre L : List Tr) {B : Nat} (hB : W0.heap.size ≤ B) (hb : b0 ≤ B) : OwnFrom B (fun (_ : β) W => EIx p bc bm vf b0 Jx Sq Sc W0 pre L W) := by
  intro x W W' row h hg hr
  cases row with
  | none => exact h.kp hJ (Kp.of_grown hg)
  | some r =>
    obtain ⟨hB', o, ho, hc⟩ := hr r rfl
    have hk := Kb.of_grown hg
    obtain ⟨Sp', Sc', q, h1, h2, h3, h4⟩ := h
    exact ⟨Sp', Sc', q, h1.fresh (by omega) hk, h2.turn (by omega) ho hc hk, h3, hJ _ _ _ _ _ _ h4 (PM.turn (by omega) ho hc hk) h2.lc⟩
end
/-- The end: the result's box, the block of the deferred calls. -/
theorem EPost.turn {p : Pol} {bc bm : Nat} {vf : Value} {b0 n : Nat} {J Jx : (Nat → Prop) → (Nat → Prop) → List Tr → World → Prop} {Sp Sc : Nat → Prop} {pre : List Tr} {W X X' : World} {b : Bool} {D : Nat} {o : Obj} (hJ : Abide b0 J) (hJx : Abide b0 Jx)
    (h : EPost p bc bm vf b0 n J Jx Sp Sc pre W b X) (hD : W.heap.size ≤ D) (hb : b0 ≤ D) (ho : X.heap[D]? = some o) (hc : o.isCells = false) (k : Kb D X X') : EPost p bc bm vf b0 n J Jx Sp Sc pre W b X' := by
  obtain ⟨Sp', Sc', h1, h2, h3, h4⟩ := h
  refine ⟨Sp', Sc', h1.fresh hD k, h2.turn hb ho hc k, fun e => hJ _ _ _ _ _ _ (h3 e) (PM.turn hb ho hc k) h2.lc, fun e => ?_⟩
  obtain ⟨q, h5, h6⟩ := h4 e
  exact ⟨q, h5, hJx _ _ _ _ _ _ h6 (PM.turn hb ho hc k) h2.lc⟩
theorem EPost.box {p : Pol} {bc bm : Nat} {vf : Value} {b0 n : Nat} {J Jx : (Nat → Prop) → (Nat → Prop) → List Tr → World → Prop} {Sp Sc Sp' Sc' : Nat → Prop} {pre : List Tr} {W X X' : World} {b : Bool} {B : Nat} (hJ : Abide b0 J) (hJx : Abide b0 Jx)
    (h1 : EM b0 bm Sp Sc W Sp' Sc' X) (h2 : EST p bc bm vf b0 Sp' Sc' X) (h3 : b = true → J Sp' Sc' (pre ++ ords p n) X) (h4 : b = false → ∃ q, q <+: ords p n ∧ Jx Sp' Sc' (pre ++ q) X) (hB : W.heap.size ≤ B) (hS : Sp' B) (hm : bm ≠ B) (k : Kb B X X') : EPost p bc bm vf b0 n J Jx Sp Sc pre W b X' := by
  refine ⟨Sp', Sc', h1.fresh hB k, h2.sp hS hm k, fun e => hJ _ _ _ _ _ _ (h3 e) (PM.kb hS k) h2.lc, fun e => ?_⟩
  obtain ⟨q, h5, h6⟩ := h4 e
  exact ⟨q, h5, hJx _ _ _ _ _ _ h6 (PM.kb hS k) h2.lc⟩
theorem kb_putObj' (w : World) (D : Nat) (o : Obj) : Kb D w (w.putObj D o) := Kb.of_grown (grownBy_putObj' w D o)
theorem set_other_cell {w : World} {g j B jj : Nat} {v u : Value} (h : w.cell? ⟨g, j, none⟩ = some v) (hne : g ≠ B) : (w.setCell ⟨B, jj, none⟩ u).cell? ⟨g, j, none⟩ = some v := (World.cell?_of_block (a := ⟨g, j, none⟩) (heap_set_other _ _ _ _ hne)).trans h
theorem flatMap_prefix {α β : Type} {F : α → List β} {l M : List α} {a : α} {q : List β} (h : l ++ [a] <+: M) (hq : q <+: F a) : l.flatMap F ++ q <+: M.flatMap F := by
  obtain ⟨r, rfl⟩ := h
  obtain ⟨t, ht⟩ := hq
  refine ⟨t ++ r.flatMap F, ?_⟩
  rw [List.flatMap_append, List.flatMap_append, List.flatMap_cons, List.flatMap_nil, List.append_nil, ← ht]
  simp only [List.append_assoc]
theorem ords_prefix {p : Pol} {n : Nat} (hn : 1 ≤ n) {dv : List Nat} {a : Nat} {q : List Tr} (h : dv ++ [a] <+: divs n) (hq : q <+: ordsDiv p (ords p) n a) : ordsHead p n ++ (dv.flatMap (ordsDiv p (ords p) n) ++ q) <+: ords p n := by
  obtain ⟨t, ht⟩ := flatMap_prefix h hq
  rw [ords_eq hn]
  unfold ordsStep
  rw [← ht]
  exact ⟨t ++ ordsBlue p n, by simp only [List.append_assoc]⟩
/-- What is said where a round of the divisors has been left. -/
def EIr (p : Pol) (bc bm : Nat) (vf : Value) (b0 n : Nat) (Jx : (Nat → Prop) → (Nat → Prop) → List Tr → World → Prop) (Sq Sc : Nat → Prop) (W0 : World) (P0 : List Tr) (dv : List (DivOf n)) (W : World) : Prop :=
  ∃ (dv0 : List (DivOf n)) (x : DivOf n), dv = dv0 ++ [x] ∧ EIx p bc bm vf b0 Jx Sq Sc W0 (P0 ++ (dv0.map (·.1)).flatMap (ordsDiv p (ords p) n)) (ordsDiv p (ords p) n x.1) W
theorem EIr.own {p : Pol} {bc bm : Nat} {vf : Value} {b0 n : Nat} {Jx : (Nat → Prop) → (Nat → Prop) → List Tr → World → Prop} {Sq Sc : Nat → Prop} {W0 : World} (hJ : Abide b0 Jx) (P0 : List Tr) {B : Nat} (hB : W0.heap.size ≤ B) (hb : b0 ≤ B) : OwnFrom B (fun (dv : List (DivOf n)) W => EIr p bc bm vf b0 n Jx Sq Sc W0 P0 dv W) := by
  rintro dv W W' row ⟨dv0, x, e, h⟩ hg hr
  exact ⟨dv0, x, e, EIx.own (β := Unit) hJ _ _ hB hb () W W' row h hg hr⟩
theorem ords_head {p : Pol} {n : Nat} (hn : 1 ≤ n) {k : Int} (hk : k ∈ p.heads n) : leaf k n ∈ ords p n := by
  rw [ords_eq hn]
  unfold ordsStep
  exact List.mem_append_left _ (List.mem_append_left _ (List.mem_map.2 ⟨k, hk, rfl⟩))
theorem head_prefix {p : Pol} {n : Nat} (hn : 1 ≤ n) (i : Nat) : ((p.heads n).take i).map (fun k => leaf k n) <+: ords p n := by
  rw [ords_eq hn]
  unfold ordsStep
  rw [List.append_assoc]
  refine List.IsPrefix.trans ?_ (List.prefix_append _ _)
  unfold ordsHead
  rw [List.map_take]
  exact List.take_prefix _ _
set_option maxRecDepth 100000 in
set_option maxHeartbeats 8000000 in
theorem each_step (p : Pol) (hp : p.Good) (bc bm : Nat) (vf : Value) (b0 n : Nat) (hn1 : 1 ≤ n) (hn2 : n ≤ 4096) (hrec : ∀ m, 1 ≤ m → m < n → EachSpec p bc bm vf b0 m) : EachSpec p bc bm vf b0 n := by
  intro G x1 x2 J Jx hG hJ hJx hT Sp Sc pre W hb0 hST hj
  refine (callsIn_wide (n := 3)).1 ?_
  have HJ := Lib.hid hJ
  have HJx := Lib.hid hJx
  have HT := Lib.hid hT
  have HST := Lib.hid hST
  have Hj := Lib.hid hj
  have HRec := Lib.hid hrec
  have hbm : bm < b0 := hST.b0
  clear hJ hJx hT hST hj hrec
  refine callsIn_of_wp_marks Tryd.func64 rfl trivial ?_ rfl
  refine wpIn_wide.2 ?_
  simp only [Tryd.ntmps64, List.size_toArray, List.length_cons, List.length_nil, Nat.reduceAdd, Nat.reduceSub, Array.replicate_succ, Array.replicate_zero, List.push_toArray, List.append_toArray, List.nil_append, List.cons_append]
  go_upto_region 1 with fail
  obtain ⟨q0, q1, q2, q3⟩ := heap_alloc4 W (.cells #[.pointer (some ⟨bc, 0, none⟩)] 66) (.cells #[.int .i64 (n : Int)] 3) (.cells #[.func (.func G) #[] #[.pointer (some ⟨x1, 0, none⟩), .pointer (some ⟨x2, 0, none⟩)]] 46) (.cells #[.bool false] 4)
  have hk0 := ((((Kp.refl W).alloc (.cells #[.pointer (some ⟨bc, 0, none⟩)] 66)).alloc (.cells #[.int .i64 (n : Int)] 3)).alloc (.cells #[.func (.func G) #[] #[.pointer (some ⟨x1, 0, none⟩), .pointer (some ⟨x2, 0, none⟩)]] 46)).alloc (.cells #[.bool false] 4)
  generalize (((W.alloc (.cells #[.pointer (some ⟨bc, 0, none⟩)] 66)).alloc (.cells #[.int .i64 (n : Int)] 3)).alloc (.cells #[.func (.func G) #[] #[.pointer (some ⟨x1, 0, none⟩), .pointer (some ⟨x2, 0, none⟩)]] 46)).alloc (.cells #[.bool false] 4) = W0 at *
  obtain ⟨B6, hB6⟩ : ∃ B6, W.heap.size + 1 + 1 + 1 = B6 := ⟨_, rfl⟩
  obtain ⟨B5, hB5⟩ : ∃ B5, W.heap.size + 1 + 1 = B5 := ⟨_, rfl⟩
  obtain ⟨B4, hB4⟩ : ∃ B4, W.heap.size + 1 = B4 := ⟨_, rfl⟩
  obtain ⟨B3, hB3⟩ : ∃ B3, W.heap.size = B3 := ⟨_, rfl⟩
  have HN : Hid (W.heap.size = B3 ∧ B4 = B3 + 1 ∧ B5 = B3 + 2 ∧ B6 = B3 + 3 ∧ B6 < W0.heap.size) := Lib.hid ⟨hB3, by omega, by omega, by omega, by rw [← hB6]; exact (Array.getElem?_eq_some_iff.1 q3).1⟩
  simp only [hB6] at q3 ⊢
  simp only [hB5] at q2 ⊢
  simp only [hB4] at q1 ⊢
  simp only [hB3] at q0 ⊢
  obtain ⟨Sq, hSq⟩ : ∃ Sq : Nat → Prop, Sq = fun g => Sp g ∨ g = B6 := ⟨_, rfl⟩
  have hlp := HST.out.lp
  have hlc := HST.out.lc
  have HS1 : Hid (EST p bc bm vf b0 Sq Sc W0 ∧ J Sq Sc pre W0 ∧ EM b0 bm Sp Sc W Sq Sc W0 ∧ Sq B6) := Lib.hid (by
    rw [hSq]
    exact ⟨HST.out.box hk0 (by omega) (by have := HN.out; omega), HJ.out _ _ _ _ _ _ Hj.out (PM.more hk0 (by omega)) hlc, EM.more hk0 (by omega), .inr rfl⟩)
  have HB : Hid (∀ Sp' Sc' w', EM b0 bm Sq Sc W0 Sp' Sc' w' → (w'.heap[B3]? = some (.cells #[.pointer (some ⟨bc, 0, none⟩)] 66 (0, 0)) ∧ w'.heap[B4]? = some (.cells #[.int .i64 (n : Int)] 3 (0, 0)) ∧ w'.heap[B5]? = some (.cells #[.func (.func G) #[] #[.pointer (some ⟨x1, 0, none⟩), .pointer (some ⟨x2, 0, none⟩)]] 46 (0, 0)) ∧ w'.heap[B6]? = some (.cells #[.bool false] 4 (0, 0))) ∧ (¬ Sc' B3 ∧ ¬ Sc' B4 ∧ ¬ Sc' B5 ∧ ¬ Sc' B6) ∧ (¬ Sp' B3 ∧ ¬ Sp' B4 ∧ ¬ Sp' B5)) := Lib.hid fun Sp' Sc' w' h => by
    have hN := HN.out
    have c3 : ¬ Sc B3 := fun e => by have := hlc _ e; omega
    have c4 : ¬ Sc B4 := fun e => by have := hlc _ e; omega
    have c5 : ¬ Sc B5 := fun e => by have := hlc _ e; omega
    have c6 : ¬ Sc B6 := fun e => by have := hlc _ e; omega
    have s3 : ¬ Sq B3 := fun e => by rw [hSq] at e; rcases e with e | e; · have := hlp _ e; omega
                                     · omega
    have s4 : ¬ Sq B4 := fun e => by rw [hSq] at e; rcases e with e | e; · have := hlp _ e; omega
                                     · omega
    have s5 : ¬ Sq B5 := fun e => by rw [hSq] at e; rcases e with e | e; · have := hlp _ e; omega
                                     · omega
    exact ⟨⟨h.cells q0 (by omega) c3, h.cells q1 (by omega) c4, h.cells q2 (by omega) c5, h.cells q3 (by omega) c6⟩, ⟨h.outc (by omega) c3, h.outc (by omega) c4, h.outc (by omega) c5, h.outc (by omega) c6⟩, ⟨h.outp (by omega) s3, h.outp (by omega) s4, h.outp (by omega) s5⟩⟩
  have HBc : Hid (∀ Sp' Sc' w', EM b0 bm Sq Sc W0 Sp' Sc' w' → w'.cell? ⟨B3, 0, none⟩ = some (.pointer (some ⟨bc, 0, none⟩)) ∧ w'.cell? ⟨B4, 0, none⟩ = some (.int .i64 (n : Int)) ∧ w'.cell? ⟨B5, 0, none⟩ = some (.func (.func G) #[] #[.pointer (some ⟨x1, 0, none⟩), .pointer (some ⟨x2, 0, none⟩)]) ∧ w'.cell? ⟨B6, 0, none⟩ = some (.bool false)) := Lib.hid fun Sp' Sc' w' h => by
    obtain ⟨⟨h3, h4, h5, h6⟩, _⟩ := HB.out _ _ _ h
    exact ⟨cell_of_row _ _ 0 _ _ _ h3, cell_of_row _ _ 0 _ _ _ h4, cell_of_row _ _ 0 _ _ _ h5, cell_of_row _ _ 0 _ _ _ h6⟩
  clear q0 q1 q2 q3 hB3 hB4 hB5 hB6 hSq hlp hlc Hj
  obtain ⟨ks, hks⟩ : ∃ ks, p.heads n = ks := ⟨_, rfl⟩
  have HKS := Lib.hid hks
  obtain ⟨m, hm⟩ : ∃ m, ks.length = m := ⟨_, rfl⟩
  have HM := Lib.hid hm
  have hm4 : m ≤ 2 := by rw [← hm, ← hks]; exact heads_le' _ _
  have HH : Hid (∀ (a mm : Nat) kk Sp' Sc' w', p.heads a = kk → kk.length = mm → EST p bc bm vf b0 Sp' Sc' w' → Calls Tryd.prog 46 #[.pointer (some ⟨bc, 0, none⟩), .int .i64 a] w' fun e w'' => ∃ o c, e = .returned (.slice o mm c) ∧ Hid (HL w'' w'.heap.size (.slice o mm c) a kk) ∧ Kp w' w'') := Lib.hid fun a mm kk Sp' Sc' w' h1 h2 hE => by
    refine (heads_any p bc bm vf a w' (by have := hp.fn; omega) hE.ch hE.fl.fl).mono ?_
    rintro e w'' ⟨v, rfl, h3, h4⟩
    obtain ⟨o, c, rfl⟩ := HL.form h3
    rw [h1] at h3 ⊢
    rw [h2] at h3 ⊢
    exact ⟨o, c, rfl, Lib.hid h3, h4⟩
  clear hks hm
  obtain ⟨c3, c4, c5, c6⟩ := HBc.out _ _ _ (EM.refl _ _ _ _ _)
  go_upto_block 0 with (go_at_call 46; (with_reducible refine (HH.out n m ks Sq Sc _ HKS.out HM.out HS1.out.1).mono ?_); rintro e w1 ⟨o, c, rfl, HV, hk1⟩)
  clear c3 c4 c5 c6
  have hbmW : b0 ≤ W0.heap.size := by have := HN.out; omega
  have HS2 : Hid (EM b0 bm Sq Sc W0 Sq Sc w1 ∧ EST p bc bm vf b0 Sq Sc w1 ∧ J Sq Sc pre w1) := Lib.hid ⟨EM.of hk1, HS1.out.1.kp hk1, HJ.out _ _ _ _ _ _ HS1.out.2.1 (PM.of hk1) HS1.out.1.lc⟩
  have HV' := HV
  clear hk1
  go_cut [8, 19] from 20 to 27 (fun _ _ wx => ∃ Sc' : Nat → Prop, Hid (EM b0 bm Sq Sc W0 Sq Sc' wx ∧ EST p bc bm vf b0 Sq Sc' wx ∧ J Sq Sc' (pre ++ ordsHead p n) wx))
  case first =>
    go_wp2_with fail
    go_loopw [19] (fun y wr => ∃ (i : Nat) (Sc' : Nat → Prop), i ≤ m ∧ y = .int .i64 i ∧ Hid (EM b0 bm Sq Sc W0 Sq Sc' wr ∧ EST p bc bm vf b0 Sq Sc' wr ∧ J Sq Sc' (pre ++ (ks.take i).map fun k => leaf k n) wr ∧ EM b0 bm Sq Sc w1 Sq Sc' wr)) (fun y _ => m - (intOf y).toNat)
    case atStart => exact ⟨0, Sc, by omega, rfl, Lib.hid ⟨HS2.out.1, HS2.out.2.1, by simpa using HS2.out.2.2, EM.refl _ _ _ _ _⟩⟩
    case round =>
      clear HS2
      obtain ⟨i, Sc', hi, rfl, HS⟩ := hrel
      by_cases hlt : i < m
      · have d1 : decide ((i : Int) < (m : Int)) = true := by simpa using hlt
        have hik : i < ks.length := by rw [HM.out]; exact hlt
        obtain ⟨gh, rfl⟩ := hl_some HV.out (by rw [HM.out]; omega)
        have hgh := HV.out.lt gh rfl
        have hcn : ¬ Sc gh := fun e => by have := HS1.out.1.lc _ e; omega
        obtain ⟨k, hkk⟩ : ∃ k, ks[i] = k := ⟨_, rfl⟩
        have hV := HV.out
        rw [← HM.out] at hV
        have hcell := hV.cell i hik
        rw [hkk] at hcell
        have y1 := HS.out.2.2.2.later hcell.1 (by omega) hcn
        have y2 := HS.out.2.2.2.later hcell.2.1 (by omega) hcn
        have y3 := HS.out.2.2.2.later hcell.2.2 (by omega) hcn
        have kA := (Kp.refl wr).alloc (.cells #[.int .i64 k, .int .i64 (n : Int), .slice none 0 0] 28)
        obtain ⟨c3, c4, c5, c6⟩ := HBc.out _ _ _ (HS.out.1.trans (EM.of kA))
        have HJ2 : Hid ((ks.take (i + 1)).map (fun k => leaf k n) = (ks.take i).map (fun k => leaf k n) ++ [leaf k n]) := Lib.hid (by rw [List.take_succ_eq_append_getElem hik, List.map_append, hkk]; rfl)
        have hmem : k ∈ p.heads n := by rw [HKS.out, ← hkk]; exact List.getElem_mem hik
        have HCall : Hid (Calls Tryd.prog G #[.agg #[.int .i64 k, .int .i64 n, .slice none 0 0], .pointer (some ⟨x1, 0, none⟩), .pointer (some ⟨x2, 0, none⟩)] (wr.alloc (.cells #[.int .i64 k, .int .i64 (n : Int), .slice none 0 0] 28)) fun e W' => ∃ (b : Bool) (Sc2 : Nat → Prop), e = .returned (.bool b) ∧
            Hid (EM b0 bm Sq Sc W0 Sq Sc2 W' ∧ EST p bc bm vf b0 Sq Sc2 W' ∧ (b = true → J Sq Sc2 (pre ++ (ks.take (i + 1)).map fun k => leaf k n) W') ∧ (b = false → Jx Sq Sc2 (pre ++ (ks.take (i + 1)).map fun k => leaf k n) W') ∧ EM b0 bm Sq Sc w1 Sq Sc2 W')) := Lib.hid (by
          have hE := HS.out.2.1.kp kA
          refine (HT.out Sq Sc' _ (leaf k n) k n none 0 0 _ (ords_head hn1 hmem) hE.lp hE.lc (HJ.out _ _ _ _ _ _ HS.out.2.2.1 (PM.of kA) HS.out.2.1.lc) (leaf_ox _ _ _ _ (by omega) (by omega))).mono ?_
          rintro e W' ⟨b, Sc2, rfl, q⟩
          refine ⟨b, Sc2, rfl, Lib.hid ⟨(HS.out.1.trans (EM.of kA)).trans (EM.cm q.out.1), hE.cm q.out.1, ?_, ?_, (HS.out.2.2.2.trans (EM.of kA)).trans (EM.cm q.out.1)⟩⟩
          · rw [HJ2.out, ← List.append_assoc]; exact q.out.2.1
          · rw [HJ2.out, ← List.append_assoc]; exact q.out.2.2)
        clear hV hcell hkk hik hmem hgh hcn kA
        go_upto_if 26 with ((with_reducible refine HCall.out.mono ?_); rintro e w4 ⟨b, Sc2, rfl, HC4⟩)
        cases b with
        | true =>
          have HR : Hid (EM b0 bm Sq Sc W0 Sq Sc2 w4 ∧ EST p bc bm vf b0 Sq Sc2 w4 ∧ J Sq Sc2 (pre ++ (ks.take (i + 1)).map fun k => leaf k n) w4 ∧ EM b0 bm Sq Sc w1 Sq Sc2 w4) := Lib.hid ⟨HC4.out.1, HC4.out.2.1, HC4.out.2.2.1 rfl, HC4.out.2.2.2.2⟩
          clear HC4 HCall HS c3 c4 c5 c6 y1 y2 y3
          go_wp2_with fail
          go_roundw
          case rel => exact ⟨i + 1, Sc2, by omega, by go_num, HR⟩
          case measure => simp [intOf]; omega
        | false =>
          clear c3 c4 c5 c6 y1 y2 y3
          have hB := HB.out _ _ _ HC4.out.1
          have hb6 : Boxed w4 B6 4 (.bool false) := hB.1.2.2.2
          have b6 := hb6.cell
          have f6 := hb6.frozen
          have HF : Hid (EPost p bc bm vf b0 n J Jx Sp Sc pre W false (w4.setCell ⟨B6, 0, none⟩ (.bool false))) := Lib.hid (by
            have hk := kb_setCell w4 B6 0 (.bool false)
            have hN := HN.out
            refine ⟨Sq, Sc2, (HS1.out.2.2.1.trans HC4.out.1).fresh (by omega) hk, HC4.out.2.1.sp HS1.out.2.2.2 (by omega) hk, fun e => (by cases e), fun _ => ⟨_, ?_, HJx.out _ _ _ _ _ _ (HC4.out.2.2.2.1 rfl) (PM.kb HS1.out.2.2.2 hk) HC4.out.2.1.lc⟩⟩
            rw [← HKS.out]
            exact head_prefix hn1 _)
          have hres : (w4.setCell ⟨B6, 0, none⟩ (.bool false)).cell? ⟨B6, 0, none⟩ = some (.bool false) := (hb6.set _).cell
          clear HC4 HCall HS hB hb6
          go_wp2_with fail
          exact ⟨_, ret_bool rfl _ _ B6 false rfl hres, false, rfl, HF.out⟩
      · obtain rfl : m = i := by omega
        have hd : ¬ m < m := by omega
        have HR : Hid (EM b0 bm Sq Sc W0 Sq Sc' wr ∧ EST p bc bm vf b0 Sq Sc' wr ∧ J Sq Sc' (pre ++ ordsHead p n) wr) := Lib.hid ⟨HS.out.1, HS.out.2.1, by
          have h := HS.out.2.2.1
          rw [← HM.out, List.take_length, ← HKS.out] at h
          exact h⟩
        clear HS
        go_wp2_with fail
        go_meet
        exact ⟨Sc', HR⟩
  case rest =>
    obtain ⟨Sc1, HS⟩ := hcut
    clear HS2 HV HV' HM HKS hm4
    obtain ⟨c3, c4, c5, c6⟩ := HBc.out _ _ _ HS.out.1
    have HDv : Hid (∀ w', Calls Tryd.prog 47 #[.int .i64 (n : Int)] w' fun e w'' => e = .returned (.func (.func 70) #[] #[.pointer (some ⟨w'.heap.size, 0, none⟩)]) ∧ w'' = w'.alloc (.cells #[.int .i64 (n : Int)] 3)) := Lib.hid fun w' => callsIn_wide.1 (div_in Fence.wide 3 trivial rfl (n : Int) w')
    go_upto_block 2 with (go_at_call 47; (with_reducible refine (HDv.out _).mono ?_); rintro e w4 ⟨rfl, rfl⟩)
    have hBn := Boxed.new wc 3 (.int .i64 (n : Int))
    have kWR := (Kp.refl wc).alloc (.cells #[.int .i64 (n : Int)] 3)
    obtain ⟨Bn, hBn'⟩ : ∃ Bn, wc.heap.size = Bn := ⟨_, rfl⟩
    have hWc := HS.out.1.size
    have hWR0 : W0.heap.size ≤ Bn := by omega
    simp only [hBn'] at hBn ⊢
    have HE : Hid (EI p bc bm vf b0 J Sq Sc1 (wc.alloc (.cells #[.int .i64 (n : Int)] 3)) (pre ++ ordsHead p n) (wc.alloc (.cells #[.int .i64 (n : Int)] 3))) := Lib.hid ⟨Sq, Sc1, EM.refl _ _ _ _ _, HS.out.2.1.kp kWR, HJ.out _ _ _ _ _ _ HS.out.2.2 (PM.of kWR) HS.out.2.1.lc⟩
    have HEW : Hid (EM b0 bm Sq Sc W0 Sq Sc1 (wc.alloc (.cells #[.int .i64 (n : Int)] 3))) := Lib.hid (HS.out.1.trans (EM.of kWR))
    have HScn : Hid (∀ g, Sc1 g → g < Bn) := Lib.hid fun g hg => by rw [← hBn']; exact HS.out.2.1.lc g hg
    clear HS c3 c4 c5 c6 HDv hWc kWR hBn'
    generalize wc.alloc (.cells #[.int .i64 (n : Int)] 3) = WR at *
    have hBnl := hBn.lt
    have hBnc := hBn.cell
    have hb0R : b0 ≤ WR.heap.size := by omega
    go_wp2_with fail
    refine (wpIn_wide (n := 3)).1 ?_
    refine wpIn_rangeFunc_ownG (F := Fence.wide) (n := 3) rfl (by decide) (gf := 70) (lb := #[.pointer (some ⟨Bn, 0, none⟩)]) rfl trivial (enters_of Tryd.func70 (by kernel_rfl) rfl)
      (div_stops Fence.wide 2 trivial rfl (by decide) Bn n (by omega) WR (by omega) hBnc) kc_t (kc_b (by omega)) (Below.refl _ _) (fun _ => rfl)
      (fun dv X => EI p bc bm vf b0 J Sq Sc1 WR (pre ++ ordsHead p n ++ (dv.map (·.1)).flatMap (ordsDiv p (ords p) n)) X ∧ Boxed X Bn 3 (.int .i64 (n : Int))) (fun c dv X => c = .ret ∧ EIr p bc bm vf b0 n Jx Sq Sc1 WR (pre ++ ordsHead p n) dv X)
      ((EI.own HJ.out (β := List (DivOf n)) (fun dv => pre ++ ordsHead p n ++ (dv.map (·.1)).flatMap (ordsDiv p (ords p) n)) (Nat.le_refl _) hb0R).and (Own.from (boxed_own Bn 3 fun _ => .int .i64 (n : Int)) _)) (fun c => (ownFrom_pure (β := List (DivOf n)) _ (fun _ => c = .ret)).and (EIr.own HJx.out (pre ++ ordsHead p n) (Nat.le_refl _) hb0R))
      ⟨by simpa using HE.out, hBn⟩ ?a1 ?assign ?body ?done ?stop
    case assign =>
      intro l x W K hK
      gi_wp2
      exact hK
    case stop =>
      rintro D c dv X hD hdv ⟨rfl, hx⟩ hXD
      obtain ⟨dv0, x, rfl, Sp2, Sc2, q, h1, h2, h3, h4⟩ := hx
      have hE2 := HEW.out.trans h1
      have hpf : ordsHead p n ++ ((dv0.map (·.1)).flatMap (ordsDiv p (ords p) n) ++ q) <+: ords p n := ords_prefix hn1 (by simpa using hdv) h3
      have h4' : Jx Sp2 Sc2 (pre ++ (ordsHead p n ++ ((dv0.map (·.1)).flatMap (ordsDiv p (ords p) n) ++ q))) X := by rw [← List.append_assoc, ← List.append_assoc]; exact h4
      have hb6 : Boxed X B6 4 (.bool false) := (HB.out _ _ _ hE2).1.2.2.2
      have hN := HN.out
      have hDn : D ≠ B6 := by omega
      have HF : Hid (EPost p bc bm vf b0 n J Jx Sp Sc pre W false (X.putObj D (.deferred none))) := Lib.hid (by
        refine EPost.turn HJ.out HJx.out ⟨Sp2, Sc2, HS1.out.2.2.1.trans hE2, h2, fun e => (by cases e), fun _ => ⟨_, hpf, h4'⟩⟩ (D := D) (by omega) (by omega) hXD rfl (kb_putObj' _ _ _))
      have hres : (X.putObj D (.deferred none)).cell? ⟨B6, 0, none⟩ = some (.bool false) := (Boxed.kept hb6 (grownBy_putObj' X D _) (by intro e; cases e; exact hDn rfl)).cell
      clear h1 h2 h3 h4 h4' hpf hE2 hb6 hBn HE hN
      gi_wp2
      refine ⟨by simp, .inl ⟨_, _, rfl, run_takeDeferred hXD, ?_⟩⟩
      exact ⟨_, ret_bool rfl _ _ B6 false rfl hres, false, rfl, HF.out⟩
    case done =>
      rintro D ys X hD hys ⟨⟨Sp2, Sc2, h1, h2, h3⟩, hB⟩ hXD
      rw [hys] at h3
      have hE2 := HEW.out.trans h1
      have HX := Lib.hid (And.intro hE2 (And.intro h2 h3))
      have HXD := Lib.hid hXD
      have hDl : D < X.heap.size := (Array.getElem?_eq_some_iff.1 hXD).1
      have hN := HN.out
      have hSq6 : Sp2 B6 := hE2.kp _ HS1.out.2.2.2
      have HS6 := Lib.hid hSq6
      have hDn : D ≠ B6 ∧ W.heap.size ≤ D ∧ b0 ≤ D ∧ D ≠ bm ∧ bm ≠ B6 ∧ W.heap.size ≤ B6 := ⟨by omega, by omega, by omega, by omega, by omega, by omega⟩
      have HDn := Lib.hid hDn
      have HBt : Hid (∀ Sp' Sc' w', EM b0 bm Sp2 Sc2 X Sp' Sc' w' → Boxed w' B6 4 (.bool false)) := Lib.hid fun Sp' Sc' w' h => (HB.out _ _ _ (HX.out.1.trans h)).1.2.2.2
      obtain ⟨c3, c4, c5, c6⟩ := HBc.out _ _ _ hE2
      obtain ⟨hd, hhd⟩ : ∃ b, p.hard n = b := ⟨_, rfl⟩
      have HHd : Hid (Calls Tryd.prog 49 #[.pointer (some ⟨bc, 0, none⟩), .int .i64 n] X fun e w'' => e = .returned (.bool hd) ∧ Kp X w'') := Lib.hid (by
        rw [← hhd]
        exact hard_any p bc bm vf n X hn1 (by omega) h2.ch)
      have HHB := Lib.hid hhd
      clear h1 h2 h3 hE2 hB hys hXD hhd HE hSq6 hDn hBn hBnc hBnl hN
      cases hd with
      | false =>
        go_upto_region 18 with (go_at_call 49; (with_reducible refine HHd.out.mono ?_); rintro e w5 ⟨rfl, hk5⟩)
        have hb6 := HBt.out _ _ _ (EM.of hk5)
        have b6 := hb6.cell
        have f6 := hb6.frozen
        have HF : Hid (EPost p bc bm vf b0 n J Jx Sp Sc pre W true ((w5.setCell ⟨B6, 0, none⟩ (.bool true)).putObj D (.deferred none))) := Lib.hid (by
          have e : ords p n = ordsHead p n ++ (divs n).flatMap (ordsDiv p (ords p) n) := by
            rw [ords_eq hn1]; unfold ordsStep ordsBlue; rw [HHB.out, if_neg (by decide), List.append_nil]
          have hP : EPost p bc bm vf b0 n J Jx Sp Sc pre W true (w5.setCell ⟨B6, 0, none⟩ (.bool true)) := EPost.box HJ.out HJx.out ((HS1.out.2.2.1.trans HX.out.1).trans (EM.of hk5)) (HX.out.2.1.kp hk5) (fun _ => by
            rw [e, ← List.append_assoc]; exact HJ.out _ _ _ _ _ _ HX.out.2.2 (PM.of hk5) HX.out.2.1.lc) (fun e => (by cases e)) HDn.out.2.2.2.2.2 HS6.out HDn.out.2.2.2.2.1 (kb_setCell _ _ _ _)
          refine hP.turn HJ.out HJx.out HDn.out.2.1 HDn.out.2.2.1 (o := .deferred (some [])) ?_ rfl (kb_putObj' _ _ _)
          rw [heap_set_other _ _ _ _ HDn.out.1]
          exact (hk5.block D hDl).trans HXD.out)
        have hDx : (w5.setCell ⟨B6, 0, none⟩ (.bool true)).heap[D]? = some (.deferred (some [])) := by
          rw [heap_set_other _ _ _ _ HDn.out.1]
          exact (hk5.block D hDl).trans HXD.out
        have hres : ((w5.setCell ⟨B6, 0, none⟩ (.bool true)).putObj D (.deferred none)).cell? ⟨B6, 0, none⟩ = some (.bool true) := (Boxed.kept (hb6.set _) (grownBy_putObj' _ D _) (by intro e; cases e; exact HDn.out.1 rfl)).cell
        clear hb6 c3 c4 c5 c6 hk5
        go_wp2_with fail
        refine ⟨by simp, .inl ⟨_, _, rfl, run_takeDeferred hDx, ?_⟩⟩
        exact ⟨_, ret_bool rfl _ _ B6 true rfl hres, true, rfl, HF.out⟩
      | true =>
        obtain ⟨hrn, hn8⟩ := hard_rank hn1 hp.p1 HHB.out
        obtain ⟨t1, t2, kk, t3⟩ := twoOf_is (N := 2 * n - 1) (by omega) (by omega)
        have hx2 : twoOf (2 * n - 1) ≤ 16384 := two_top ⟨t1, t2, kk, t3⟩ (by omega)
        have hsome := two_some hp kk
        rw [← t3] at hsome
        have hSz : ∀ w', Calls Tryd.prog 50 #[.int .i64 n] w' fun e w'' => e = .returned (.tuple #[.int .i64 (twoOf (2 * n - 1) : Nat), .nilIface]) ∧ w' = w'' := fun w' => by
          refine (CSize_any n w' hn1 hn8).mono ?_
          rintro e w'' ⟨x, rfl, hx, rfl⟩
          rw [twoOf_two hn1 hn8 hx.out.1]
          exact ⟨rfl, rfl⟩
        obtain ⟨x, hx⟩ : ∃ x, twoOf (2 * n - 1) = x := ⟨_, rfl⟩
        have HXX := Lib.hid hx
        rw [hx] at hx2 hsome
        simp only [hx] at hSz
        have hx1 : 1 ≤ x := by omega
        have HSz := Lib.hid hSz
        obtain ⟨Ty, hTy⟩ := Option.isSome_iff_exists.1 hsome
        obtain ⟨T, y⟩ := Ty
        have HTy := Lib.hid hTy
        have hTp : T.parts ≤ 4096 := by
          have h1 := (best_ok hp (rank x) x (Nat.le_refl _) hx1 T y hTy).2.2
          have h2 := bound_small hx1 hx2
          omega
        have HEq : Hid (ords p n = (ordsHead p n ++ (divs n).flatMap (ordsDiv p (ords p) n)) ++ [T.blue n]) := Lib.hid (by
          rw [ords_eq hn1]; unfold ordsStep ordsBlue blueOf
          rw [HHB.out, if_pos rfl, hx, hTy]; rfl)
        clear hx t1 t2 t3 hrn hsome hSz hTy kk
        go_upto_region 22 with (first
          | (go_at_call 49; (with_reducible refine HHd.out.mono ?_); rintro e w5 ⟨rfl, hk5⟩; have x4 := hk5.later c4)
          | (go_at_call 50; (with_reducible refine (HSz.out _).mono ?_); rintro e w6 ⟨rfl, rfl⟩))
        have HX5 : Hid (EM b0 bm Sp2 Sc2 X Sp2 Sc2 w5 ∧ EST p bc bm vf b0 Sp2 Sc2 w5 ∧ J Sp2 Sc2 (pre ++ ordsHead p n ++ (divs n).flatMap (ordsDiv p (ords p) n)) w5) := Lib.hid ⟨EM.of hk5, HX.out.2.1.kp hk5, HJ.out _ _ _ _ _ _ HX.out.2.2 (PM.of hk5) HX.out.2.1.lc⟩
        have HCc : Hid (∀ Sp' Sc' w', EM b0 bm Sp2 Sc2 X Sp' Sc' w' → w'.cell? ⟨B3, 0, none⟩ = some (.pointer (some ⟨bc, 0, none⟩)) ∧ w'.cell? ⟨B4, 0, none⟩ = some (.int .i64 (n : Int)) ∧ w'.cell? ⟨B5, 0, none⟩ = some (.func (.func G) #[] #[.pointer (some ⟨x1, 0, none⟩), .pointer (some ⟨x2, 0, none⟩)])) := Lib.hid fun Sp' Sc' w' h => by
          obtain ⟨e3, e4, e5, _⟩ := HBc.out _ _ _ (HX.out.1.trans h)
          exact ⟨e3, e4, e5⟩
        have HRc : Hid (∀ w', Kp w5 w' → Calls Tryd.prog 31 #[.pointer (some ⟨bc, 0, none⟩), .int .i64 (x : Int)] w' fun e w'' => ∃ k n0 o m c cost, e = .returned (.agg #[.int .i64 k, .int .i64 n0, .slice o m c, .int .i64 cost]) ∧
            Hid (OX (fun g => ¬ Sp2 g ∧ ¬ Sc2 g) w'' T (.agg #[.int .i64 k, .int .i64 n0, .slice o m c]) ∧ EM b0 bm Sp2 Sc2 X Sp2 Sc2 w'' ∧ EST p bc bm vf b0 Sp2 Sc2 w'' ∧ J Sp2 Sc2 (pre ++ ordsHead p n ++ (divs n).flatMap (ordsDiv p (ords p) n)) w'')) := Lib.hid fun w' kw => by
          have hE := HX5.out.2.1.kp kw
          obtain ⟨f, hf⟩ := hE.mm
          refine (cheapest_any hp bc bm vf (rank x) x (Nat.le_refl _) hx1 hx2 (fun g => ¬ Sp2 g ∧ ¬ Sc2 g) w' f (fun g hg => ⟨fun e => by have := hE.lp g e; omega, fun e => by have := hE.lc g e; omega⟩) hE.ch hE.fl.fl hf).mono ?_
          rintro e w'' ⟨k, n0, o, m, c, cost, f', rfl, hBV, hM, hK, _⟩
          rw [HTy.out] at hBV
          exact ⟨k, n0, o, m, c, cost, rfl, Lib.hid ⟨hBV.2.2.2, (HX5.out.1.trans (EM.of kw)).trans (EM.map hbm hK), hE.map hM hK, HJ.out _ _ _ _ _ _ (HJ.out _ _ _ _ _ _ HX5.out.2.2 (PM.of kw) HX5.out.2.1.lc) (PM.kb hE.bp hK) hE.lc⟩⟩
        have HBl : Hid (∀ k n0 o m c w', Hid (OX (fun g => ¬ Sp2 g ∧ ¬ Sc2 g) w' T (.agg #[.int .i64 k, .int .i64 n0, .slice o m c]) ∧ EM b0 bm Sp2 Sc2 X Sp2 Sc2 w' ∧ EST p bc bm vf b0 Sp2 Sc2 w' ∧ J Sp2 Sc2 (pre ++ ordsHead p n ++ (divs n).flatMap (ordsDiv p (ords p) n)) w') → Calls Tryd.prog 22 #[.int .i64 n, .agg #[.int .i64 k, .int .i64 n0, .slice o m c]] w' fun e w'' => ∃ o7 c7, e = .returned (.agg #[.int .i64 4, .int .i64 n, .slice o7 1 c7]) ∧
            Hid (OX (fun g => ¬ Sp2 g ∧ ¬ Sc2 g) w'' (T.blue n) (.agg #[.int .i64 4, .int .i64 n, .slice o7 1 c7]) ∧ EM b0 bm Sp2 Sc2 X Sp2 Sc2 w'' ∧ EST p bc bm vf b0 Sp2 Sc2 w'' ∧ J Sp2 Sc2 (pre ++ ordsHead p n ++ (divs n).flatMap (ordsDiv p (ords p) n)) w'')) := Lib.hid fun k n0 o m c w' h => by
          have hE := h.out.2.2.1
          refine (Blue_any (n : Int) T _ w' (by omega) (by omega) h.out.1.oin hTp).mono ?_
          rintro e w'' ⟨o7, c7, rfl, q1, q2⟩
          exact ⟨o7, c7, rfl, Lib.hid ⟨q1.mono fun g _ hg => ⟨fun e => by have := hE.lp g e; omega, fun e => by have := hE.lc g e; omega⟩, h.out.2.1.trans (EM.of q2), hE.kp q2, HJ.out _ _ _ _ _ _ h.out.2.2.2 (PM.of q2) hE.lc⟩⟩
        have HCl : Hid (∀ o7 c7 w', Hid (OX (fun g => ¬ Sp2 g ∧ ¬ Sc2 g) w' (T.blue n) (.agg #[.int .i64 4, .int .i64 n, .slice o7 1 c7]) ∧ EM b0 bm Sp2 Sc2 X Sp2 Sc2 w' ∧ EST p bc bm vf b0 Sp2 Sc2 w' ∧ J Sp2 Sc2 (pre ++ ordsHead p n ++ (divs n).flatMap (ordsDiv p (ords p) n)) w') → Calls Tryd.prog G #[.agg #[.int .i64 4, .int .i64 n, .slice o7 1 c7], .pointer (some ⟨x1, 0, none⟩), .pointer (some ⟨x2, 0, none⟩)] w' fun e W' => ∃ (b : Bool) (Sc3 : Nat → Prop), e = .returned (.bool b) ∧
            Hid (EM b0 bm Sp2 Sc2 X Sp2 Sc3 W' ∧ EST p bc bm vf b0 Sp2 Sc3 W' ∧ (b = true → J Sp2 Sc3 (pre ++ ords p n) W') ∧ (b = false → Jx Sp2 Sc3 (pre ++ ords p n) W'))) := Lib.hid fun o7 c7 w' h => by
          have hE := h.out.2.2.1
          refine (HT.out Sp2 Sc2 _ (T.blue n) 4 n o7 1 c7 w' (by rw [HEq.out]; exact List.mem_append_right _ (List.mem_singleton.2 rfl)) hE.lp hE.lc h.out.2.2.2 h.out.1).mono ?_
          rintro e W' ⟨b, Sc3, rfl, q⟩
          have e1 : pre ++ ords p n = (pre ++ ordsHead p n ++ (divs n).flatMap (ordsDiv p (ords p) n)) ++ [T.blue n] := by rw [HEq.out]; simp only [List.append_assoc]
          exact ⟨b, Sc3, rfl, Lib.hid ⟨h.out.2.1.trans (EM.cm q.out.1), hE.cm q.out.1, by rw [e1]; exact q.out.2.1, by rw [e1]; exact q.out.2.2⟩⟩
        have hfd : ∀ (k n : Int) (o : Option Addr) (m c : Nat) (cost : Int) (w : World), (Instr.field 65 (.agg #[.int .i64 k, .int .i64 n, .slice o m c, .int .i64 cost]) 0).run Tryd.prog w = .ok (.agg #[.int .i64 k, .int .i64 n, .slice o m c]) w := fun _ _ _ _ _ _ _ => by kernel_rfl
        obtain ⟨z3, z4, z5⟩ := HCc.out _ _ _ HX5.out.1
        have kd := (Kp.refl w5).drew
        have HPd : Hid (w5.drew.cell? ⟨B3, 0, none⟩ = some (.pointer (some ⟨bc, 0, none⟩)) ∧ w5.drew.cell? ⟨B4, 0, none⟩ = some (.int .i64 (n : Int)) ∧ w5.drew.cell? ⟨B5, 0, none⟩ = some (.func (.func G) #[] #[.pointer (some ⟨x1, 0, none⟩), .pointer (some ⟨x2, 0, none⟩)])) := Lib.hid (HCc.out _ _ _ (HX5.out.1.trans (EM.of kd)))
        clear c3 c4 c5 c6 x4 hk5 HX5 HHd HSz
        go_region_held3 (fun w' => w'.cell? ⟨B3, 0, none⟩ = some (.pointer (some ⟨bc, 0, none⟩)) ∧ w'.cell? ⟨B4, 0, none⟩ = some (.int .i64 (n : Int)) ∧ w'.cell? ⟨B5, 0, none⟩ = some (.func (.func G) #[] #[.pointer (some ⟨x1, 0, none⟩), .pointer (some ⟨x2, 0, none⟩)])) (first | go_keep | exact HPd.out | exact HCc.out _ _ _ HC8.out.1 | exact HCc.out _ _ _ HC7.out.2.1 | exact HCc.out _ _ _ HC6.out.2.1 | exact HC9.out _)
          (first
          | (go_at_call 31; (with_reducible refine (HRc.out _ kd).mono ?_); rintro e w6 ⟨k6, n6, o6, m6, c6, cost6, rfl, HC6⟩)
          | (go_at_call 22; (with_reducible refine (HBl.out _ _ _ _ _ _ HC6).mono ?_); rintro e w7 ⟨o7, c7, rfl, HC7⟩)
          | ((with_reducible refine (HCl.out _ _ _ HC7).mono ?_); rintro e w8 ⟨b, Sc3, rfl, HC8⟩; have hb8 := HBt.out _ _ _ HC8.out.1; have b8 := hb8.cell; have f8 := hb8.frozen; have HC9 : Hid (∀ u, (w8.setCell ⟨B6, 0, none⟩ u).cell? ⟨B3, 0, none⟩ = some (.pointer (some ⟨bc, 0, none⟩)) ∧ (w8.setCell ⟨B6, 0, none⟩ u).cell? ⟨B4, 0, none⟩ = some (.int .i64 (n : Int)) ∧ (w8.setCell ⟨B6, 0, none⟩ u).cell? ⟨B5, 0, none⟩ = some (.func (.func G) #[] #[.pointer (some ⟨x1, 0, none⟩), .pointer (some ⟨x2, 0, none⟩)])) := Lib.hid fun u => (fun hN hc => ⟨set_other_cell hc.1 (by omega), set_other_cell hc.2.1 (by omega), set_other_cell hc.2.2 (by omega)⟩) HN.out (HCc.out _ _ _ HC8.out.1)))
        have HXD8 : Hid (w8.heap[D]? = some (.deferred (some []))) := Lib.hid (HC8.out.1.nc D _ HDn.out.2.2.1 HXD.out rfl)
        have HF : Hid (EPost p bc bm vf b0 n J Jx Sp Sc pre W b ((w8.setCell ⟨B6, 0, none⟩ (.bool b)).putObj D (.deferred none))) := Lib.hid (by
          have hP : EPost p bc bm vf b0 n J Jx Sp Sc pre W b (w8.setCell ⟨B6, 0, none⟩ (.bool b)) := EPost.box HJ.out HJx.out ((HS1.out.2.2.1.trans HX.out.1).trans HC8.out.1) HC8.out.2.1 HC8.out.2.2.1 (fun e => ⟨ords p n, List.prefix_refl _, HC8.out.2.2.2 e⟩) HDn.out.2.2.2.2.2 HS6.out HDn.out.2.2.2.2.1 (kb_setCell _ _ _ _)
          refine hP.turn HJ.out HJx.out HDn.out.2.1 HDn.out.2.2.1 (o := .deferred (some [])) ?_ rfl (kb_putObj' _ _ _)
          rw [heap_set_other _ _ _ _ HDn.out.1]
          exact HXD8.out)
        have hDx : (w8.setCell ⟨B6, 0, none⟩ (.bool b)).heap[D]? = some (.deferred (some [])) := by
          rw [heap_set_other _ _ _ _ HDn.out.1]
          exact HXD8.out
        have hres : ((w8.setCell ⟨B6, 0, none⟩ (.bool b)).putObj D (.deferred none)).cell? ⟨B6, 0, none⟩ = some (.bool b) := (Boxed.kept (hb8.set _) (grownBy_putObj' _ D _) (by intro e; cases e; exact HDn.out.1 rfl)).cell
        clear hb8 b8 f8 HC6 HC7 HC8 HC9
        all_goals go_wp2_with fail
        refine ⟨by simp, .inl ⟨_, _, rfl, run_takeDeferred hDx, ?_⟩⟩
        exact ⟨_, ret_bool rfl _ _ B6 b rfl hres, b, rfl, HF.out⟩
    case body =>
      rintro l dv x X ⟨⟨Sp1, Sc2, h1, h2, h3⟩, hB⟩ hlen
      have ha := x.2
      obtain ⟨a, hxa⟩ : ∃ a, x.1 = a := ⟨_, rfl⟩
      obtain ⟨P1, hP1⟩ : ∃ P1, pre ++ ordsHead p n ++ (dv.map (·.1)).flatMap (ordsDiv p (ords p) n) = P1 := ⟨_, rfl⟩
      rw [hP1] at h3
      have HX := Lib.hid (And.intro (HEW.out.trans h1) (And.intro h2 h3))
      have HXb := Lib.hid hB
      have hpost : Hid ((∀ X', EI p bc bm vf b0 J Sp1 Sc2 X (P1 ++ ordsDiv p (ords p) n a) X' → KeepsFrom WR.heap.size X X' ∧ Kc Bn X X' ∧ EI p bc bm vf b0 J Sq Sc1 WR (pre ++ ordsHead p n ++ ((dv ++ [x]).map (·.1)).flatMap (ordsDiv p (ords p) n)) X' ∧ Boxed X' Bn 3 (.int .i64 (n : Int))) ∧
          (∀ X', EIx p bc bm vf b0 Jx Sp1 Sc2 X P1 (ordsDiv p (ords p) n a) X' → KeepsFrom WR.heap.size X X' ∧ (Code.ret = Code.ret ∧ EIr p bc bm vf b0 n Jx Sq Sc1 WR (pre ++ ordsHead p n) (dv ++ [x]) X'))) := Lib.hid (by
        have hnb : ¬ Sc2 Bn := h1.outc (k := Bn) (by omega) (fun e => by have := HScn.out _ e; omega)
        refine ⟨?_, ?_⟩
        · rintro X' ⟨Sp3, Sc3, k1, k2, k3⟩
          have hbX := k1.cells (show X.heap[Bn]? = _ from hB) (by omega) hnb
          refine ⟨k1.keeps hb0R, hbX.trans (show X.heap[Bn]? = _ from hB).symm, ⟨Sp3, Sc3, h1.trans k1, k2, ?_⟩, hbX⟩
          rw [List.map_append, List.flatMap_append, ← List.append_assoc, hP1]
          simpa [hxa] using k3
        · rintro X' ⟨Sp3, Sc3, q, k1, k2, k3, k4⟩
          exact ⟨k1.keeps hb0R, rfl, dv, x, rfl, Sp3, Sc3, q, h1.trans k1, k2, by rw [hxa]; exact k3, by rw [hP1]; exact k4⟩)
      simp only [hxa] at ha ⊢
      refine wpIn_mono (Q := fun e (_ : Act) X' => (e = .normal ∧ EI p bc bm vf b0 J Sp1 Sc2 X (P1 ++ ordsDiv p (ords p) n a) X') ∨ (e = .ret ∧ EIx p bc bm vf b0 Jx Sp1 Sc2 X P1 (ordsDiv p (ords p) n a) X')) ?_ (by
        rintro e a' X' (⟨rfl, h⟩ | ⟨rfl, h⟩)
        · exact hpost.out.1 X' h
        · exact hpost.out.2 X' h)
      have hd := (mem_divs (by omega)).1 ha
      have ha1 : 1 ≤ a := Nat.pos_of_dvd_of_pos hd hn1
      have ha2 : a ≤ n := Nat.le_of_dvd hn1 hd
      have HD := Lib.hid hd
      have HI0 : Hid (ordsDiv p (ords p) n a = [] → EI p bc bm vf b0 J Sp1 Sc2 X (P1 ++ ordsDiv p (ords p) n a) X) := Lib.hid fun e => ⟨Sp1, Sc2, EM.refl _ _ _ _ _, h2, by rw [e, List.append_nil]; exact h3⟩
      obtain ⟨c3, c4, c5, c6⟩ := HBc.out _ _ _ HX.out.1
      have f1 : Fence.wide.fn 46 := trivial
      have f2 : Fence.wide.fn 64 := trivial
      have g1 : 1 ≤ 3 - 1 - 1 := by decide
      clear hpost h1 h2 h3 hB hd hxa hP1 ha hlen HE hBn hBnc hBnl x
      by_cases hc1 : a < 2
      · have HE := Lib.hid (HI0.out (by unfold ordsDiv; rw [if_pos (.inl hc1)]))
        have d1 : decide ((a : Int) < 2) = true := by simp; omega
        clear HI0
        gi_wp2
        exact HE.out
      by_cases hc2 : a = n
      · have HE := Lib.hid (HI0.out (by unfold ordsDiv; rw [if_pos (.inr hc2)]))
        have d1 : decide ((a : Int) < 2) = false := by simp; omega
        have d2 : ((a : Int) == (n : Int)) = true := by simp; omega
        clear HI0
        gi_wp2
        first
          | exact HE.out
          | (have h := HE.out; rw [hc2] at h; exact h)
      have d1 : decide ((a : Int) < 2) = false := by simp; omega
      have d2 : ((a : Int) == (n : Int)) = false := by simp; omega
      obtain ⟨ks, hks⟩ : ∃ ks, p.heads a = ks := ⟨_, rfl⟩
      have HKS := Lib.hid hks
      obtain ⟨m2, hm⟩ : ∃ m2, ks.length = m2 := ⟨_, rfl⟩
      have HM := Lib.hid hm
      have hm4 : m2 ≤ 2 := by rw [← hm, ← hks]; exact heads_le' _ _
      have HHr : Hid (∀ lev, CallsIn (Fence.wide.inRound l) lev Tryd.prog 46 #[.pointer (some ⟨bc, 0, none⟩), .int .i64 a] X fun e w'' => ∃ o c, e = .returned (.slice o m2 c) ∧ Hid (HL w'' X.heap.size (.slice o m2 c) a ks) ∧ Kp X w'') := Lib.hid fun lev => CallsIn.inRound l (callsIn_wide.2 (HH.out a m2 ks Sp1 Sc2 X hks hm HX.out.2.1))
      obtain ⟨q, hq⟩ : ∃ q, n / a = q := ⟨_, rfl⟩
      have hq2 : q < n := by rw [← hq]; exact Nat.div_lt_self (by omega) (by omega)
      have hq1 : 1 ≤ q := by rw [← hq]; exact Nat.div_pos ha2 (by omega)
      have HQQ : Hid (IntKind.i64.wrap ((n : Int) / (a : Int)) = (q : Int)) := Lib.hid (by rw [← Int.natCast_ediv, hq]; exact IntWalk.i64_in _ (by omega))
      have HOD : Hid (ordsDiv p (ords p) n a = ks.flatMap fun k => (ords p q).map fun T => (leaf k a).times T) := Lib.hid (by unfold ordsDiv; rw [if_neg (by omega), hks, hq])
      have HTm : Hid (∀ k ∈ ks, ∀ T ∈ ords p q, (leaf k a).times T ∈ ords p n ∧ T.parts ≤ 4096) := Lib.hid fun k hk T hT => by
        refine ⟨ords_times hn1 (by omega) (by omega) HD.out (by rw [hks]; exact hk) (by rw [hq]; exact hT), ?_⟩
        have h1 := ords_parts hp q hq1 T hT
        have h2 := bound_small hq1 (show q ≤ 16384 by omega)
        omega
      clear hks hm hq HI0
      gi_wp2_with (gi_at_call 46; refine (HHr.out _).mono ?_; rintro e w1 ⟨oh, ch, rfl, HV, hk1⟩)
      have HS1x : Hid (EM b0 bm Sp1 Sc2 X Sp1 Sc2 w1 ∧ EST p bc bm vf b0 Sp1 Sc2 w1 ∧ J Sp1 Sc2 P1 w1) := Lib.hid ⟨EM.of hk1, HX.out.2.1.kp hk1, HJ.out _ _ _ _ _ _ HX.out.2.2 (PM.of hk1) HX.out.2.1.lc⟩
      have hX1 := hk1.size
      clear c3 c4 c5 c6 hk1 HHr
      gi_loopw [42] (fun y wr => ∃ (i : Nat) (Sp' Sc' : Nat → Prop), i ≤ m2 ∧ y = .int .i64 i ∧ Hid (EM b0 bm Sp1 Sc2 X Sp' Sc' wr ∧ EST p bc bm vf b0 Sp' Sc' wr ∧ J Sp' Sc' (P1 ++ (ks.take i).flatMap fun k => (ords p q).map fun T => (leaf k a).times T) wr ∧ EM b0 bm Sp1 Sc2 w1 Sp' Sc' wr)) (fun y _ => m2 - (intOf y).toNat)
      case atStart => exact ⟨0, Sp1, Sc2, by omega, rfl, Lib.hid ⟨HS1x.out.1, HS1x.out.2.1, by simpa using HS1x.out.2.2, EM.refl _ _ _ _ _⟩⟩
      case round =>
        clear HS1x
        obtain ⟨i, Sp', Sc', hi, rfl, HS⟩ := hrel
        by_cases hlt : i < m2
        · have d3 : decide ((i : Int) < (m2 : Int)) = true := by simpa using hlt
          have hik : i < ks.length := by rw [HM.out]; exact hlt
          obtain ⟨gh, rfl⟩ := hl_some HV.out (by rw [HM.out]; omega)
          have hgh := HV.out.lt gh rfl
          have hcn : ¬ Sc2 gh := fun e => by have := HX.out.2.1.lc _ e; omega
          have hgb : gh ≠ bm := by have := HX.out.2.1.lp bm HX.out.2.1.bp; omega
          obtain ⟨k, hkk⟩ : ∃ k, ks[i] = k := ⟨_, rfl⟩
          have hV := HV.out
          rw [← HM.out] at hV
          have hcell := hV.cell i hik
          rw [hkk] at hcell
          have y1 := HS.out.2.2.2.later hcell.1 hgb hcn
          have y2 := HS.out.2.2.2.later hcell.2.1 hgb hcn
          have y3 := HS.out.2.2.2.later hcell.2.2 hgb hcn
          have kA := (Kp.refl wr).alloc (.cells #[.int .i64 k, .int .i64 (a : Int), .slice none 0 0] 28)
          have hBh := heap_alloc_new wr (.cells #[.int .i64 k, .int .i64 (a : Int), .slice none 0 0] 28)
          have HFk : Hid ((ks.take (i + 1)).flatMap (fun k => (ords p q).map fun T => (leaf k a).times T) = (ks.take i).flatMap (fun k => (ords p q).map fun T => (leaf k a).times T) ++ (ords p q).map fun T => (leaf k a).times T) := Lib.hid (by
            rw [List.take_succ_eq_append_getElem hik, List.flatMap_append, hkk, List.flatMap_cons, List.flatMap_nil, List.append_nil])
          have HFd : Hid (ks.flatMap (fun k => (ords p q).map fun T => (leaf k a).times T) = (ks.take (i + 1)).flatMap (fun k => (ords p q).map fun T => (leaf k a).times T) ++ (ks.drop (i + 1)).flatMap (fun k => (ords p q).map fun T => (leaf k a).times T)) := Lib.hid (by rw [← List.flatMap_append, List.take_append_drop])
          have hkm : k ∈ ks := by rw [← hkk]; exact List.getElem_mem hik
          have HPd : Hid ((wr.alloc (.cells #[.int .i64 k, .int .i64 (a : Int), .slice none 0 0] 28)).drew.cell? ⟨B3, 0, none⟩ = some (.pointer (some ⟨bc, 0, none⟩)) ∧ (wr.alloc (.cells #[.int .i64 k, .int .i64 (a : Int), .slice none 0 0] 28)).drew.cell? ⟨B4, 0, none⟩ = some (.int .i64 (n : Int))) := Lib.hid (by
            obtain ⟨e3, e4, _⟩ := HBc.out _ _ _ ((HX.out.1.trans HS.out.1).trans (EM.of kA.drew))
            exact ⟨e3, e4⟩)
          have HCallE : Hid (Calls Tryd.prog 64 #[.pointer (some ⟨bc, 0, none⟩), .int .i64 q, .func (.func 83) #[] #[.pointer (some ⟨B5, 0, none⟩), .pointer (some ⟨wr.heap.size, 0, none⟩)]] (wr.alloc (.cells #[.int .i64 k, .int .i64 (a : Int), .slice none 0 0] 28)).drew fun e W' => ∃ b : Bool, e = .returned (.bool b) ∧
              Hid ((W'.cell? ⟨B3, 0, none⟩ = some (.pointer (some ⟨bc, 0, none⟩)) ∧ W'.cell? ⟨B4, 0, none⟩ = some (.int .i64 (n : Int))) ∧ ∃ Sp3 Sc3, EM b0 bm Sp1 Sc2 X Sp3 Sc3 W' ∧ EST p bc bm vf b0 Sp3 Sc3 W' ∧ EM b0 bm Sp1 Sc2 w1 Sp3 Sc3 W' ∧ (b = true → J Sp3 Sc3 (P1 ++ (ks.take (i + 1)).flatMap (fun k => (ords p q).map fun T => (leaf k a).times T)) W') ∧ (b = false → ∃ q', q' <+: ks.flatMap (fun k => (ords p q).map fun T => (leaf k a).times T) ∧ Jx Sp3 Sc3 (P1 ++ q') W'))) := Lib.hid (by
            have hE := HS.out.2.1.kp kA.drew
            have hEX := HS.out.1.trans (EM.of kA.drew)
            have hN2 := HB.out _ _ _ (HX.out.1.trans hEX)
            refine (HRec.out q hq1 hq2 83 B5 wr.heap.size (JI J (P1 ++ (ks.take i).flatMap (fun k => (ords p q).map fun T => (leaf k a).times T)) B5 wr.heap.size G x1 x2 k a) (JxI Jx (P1 ++ (ks.take i).flatMap (fun k => (ords p q).map fun T => (leaf k a).times T)) k a) (enters_of Tryd.func83 (by kernel_rfl) rfl) (JI.abide HJ.out _ _ _ _ _ _ _ _) (JxI.abide HJx.out _ _ _)
              (eachfn_takes hG HJ.out HT.out _ _ _ _ _ ⟨by omega, by omega⟩ (HTm.out k hkm)) Sp' Sc' [] _ (by have := HX.out.1.size; have := HS.out.1.size; simp; omega) hE ⟨?_, hN2.1.2.2.1, hBh, ⟨hN2.2.2.2.2, hN2.2.1.2.2.1⟩, ⟨fun e => by have := HS.out.2.1.lp _ e; omega, fun e => by have := HS.out.2.1.lc _ e; omega⟩⟩).mono ?_
            · rw [List.map_nil, List.append_nil]
              exact HJ.out _ _ _ _ _ _ HS.out.2.2.1 (PM.of kA.drew) HS.out.2.1.lc
            · rintro e W' ⟨b, rfl, Sp3, Sc3, k1, k2, k3, k4⟩
              obtain ⟨e3, e4, _⟩ := HBc.out _ _ _ ((HX.out.1.trans hEX).trans k1)
              refine ⟨b, rfl, Lib.hid ⟨⟨e3, e4⟩, Sp3, Sc3, hEX.trans k1, k2, (HS.out.2.2.2.trans (EM.of kA.drew)).trans k1, fun e => ?_, fun e => ?_⟩⟩
              · have h := (k3 e).1
                rw [List.nil_append] at h
                rw [HFk.out, ← List.append_assoc]
                exact h
              · obtain ⟨q', ⟨t, ht⟩, h⟩ := k4 e
                refine ⟨(ks.take i).flatMap (fun k => (ords p q).map fun T => (leaf k a).times T) ++ q'.map fun T => (leaf k a).times T, ⟨(t.map fun T => (leaf k a).times T) ++ (ks.drop (i + 1)).flatMap (fun k => (ords p q).map fun T => (leaf k a).times T), ?_⟩, ?_⟩
                · rw [HFd.out, HFk.out, ← ht, List.map_append]
                  simp only [List.append_assoc]
                · rw [← List.append_assoc]
                  rw [List.nil_append] at h
                  exact h)
          clear hV hcell hkk hik hkm hgh hcn hgb kA hBh
          gi_wp2
          refine wpIn_region_held_drew (S := fun w' => w'.cell? ⟨B3, 0, none⟩ = some (.pointer (some ⟨bc, 0, none⟩)) ∧ w'.cell? ⟨B4, 0, none⟩ = some (.int .i64 (n : Int))) (by kernel_rfl) (by kernel_rfl) (fun ⟨_, _, h⟩ => h.elim (fun h => nomatch (show Exit.outgrown = Exit.normal from h.1)) (fun h => nomatch (show Exit.outgrown = Exit.ret from h.1))) HPd.out (fun hHeld => ?_)
          refine wpAnyH_take (i := 0) (oi := Oper.mk _ _ _ _ _ _) (v := ?_) rfl (by kernel_rfl) (by kernel_rfl) (by kernel_rfl) (fun _ _ _ h => h) (Or.inl ⟨by rfl, ?_⟩) (by assumption) ?_
          rotate_left
          · intro w hSw
            (try dsimp only at hSw)
            go_simp
            try with_reducible rfl
          try simp only [Act.put, List.setIfInBounds_toArray, List.set_cons_zero, List.set_cons_succ]
          refine wpAnyH_take (i := 1) (oi := Oper.mk _ _ _ _ _ _) (v := ?_) rfl (by kernel_rfl) (by kernel_rfl) (by kernel_rfl) (fun _ _ _ h => h) (Or.inl ⟨by rfl, ?_⟩) (by assumption) ?_
          rotate_left
          · intro w hSw
            (try dsimp only at hSw)
            go_simp
            try with_reducible rfl
          try simp only [Act.put, List.setIfInBounds_toArray, List.set_cons_zero, List.set_cons_succ]
          refine wpAnyH_take (i := 2) (oi := Oper.mk _ _ _ _ _ _) (v := ?_) rfl (by kernel_rfl) (by kernel_rfl) (by kernel_rfl) (fun _ _ _ h => h) (Or.inl ⟨by rfl, ?_⟩) (by assumption) ?_
          rotate_left
          · intro w hSw
            (try dsimp only at hSw)
            go_simp
            try with_reducible rfl
          try simp only [Act.put, List.setIfInBounds_toArray, List.set_cons_zero, List.set_cons_succ]
          refine wpAnyH_take (i := 3) (oi := Oper.mk _ _ _ _ _ _) (v := ?_) rfl (by kernel_rfl) (by kernel_rfl) (by kernel_rfl) (fun _ _ _ h => h) (Or.inl ⟨by rfl, ?_⟩) (by assumption) ?_
          rotate_left
          · intro w hSw
            (try dsimp only at hSw)
            go_simp
            rw [if_neg (by omega), HQQ.out]
            try with_reducible rfl
          try simp only [Act.put, List.setIfInBounds_toArray, List.set_cons_zero, List.set_cons_succ]
          refine wpAnyH_ready (rs := [4]) (by kernel_rfl) (by simp) ?_
          refine AllReadyH.cons (o := Oper.mk _ _ _ _ _ _) rfl (fun K hK => ?_) AllReadyH.nil
          go_simp
          refine hK.out _ _ HPd.out (fun hHeld => ?_)
          clear hK K hHeld
          try simp only [Act.put, List.setIfInBounds_toArray, List.set_cons_zero, List.set_cons_succ]
          refine wpAnyH_ready (rs := [5]) (by kernel_rfl) (by simp) ?_
          refine AllReadyH.cons (o := Oper.mk _ _ _ _ _ _) rfl (fun K hK => ?_) AllReadyH.nil
          go_simp
          go_at_call 64
          refine HCallE.out.mono ?_
          rintro e w5 ⟨b, rfl, HP5⟩
          refine hK.out _ _ (HP5.out.1) (fun hHeld => ?_)
          clear hK K hHeld
          try simp only [Act.put, List.setIfInBounds_toArray, List.set_cons_zero, List.set_cons_succ]
          refine wpAnyH_ready (rs := [6]) (by kernel_rfl) (by simp) ?_
          refine AllReadyH.cons (o := Oper.mk _ _ _ _ _ _) rfl (fun K hK => ?_) AllReadyH.nil
          go_simp
          refine hK.out _ _ (HP5.out.1) (fun hHeld => ?_)
          clear hK K hHeld
          try simp only [Act.put, List.setIfInBounds_toArray, List.set_cons_zero, List.set_cons_succ]
          refine wpAnyH_done (by kernel_rfl) ?_ _
          have HP6 := Lib.hid HP5.out.2
          clear HP5 HCallE HPd HS y1 y2 y3
          cases b with
          | true =>
            gi_wp2
            go_roundw
            case rel =>
              obtain ⟨Sp3, Sc3, k1, k2, k3, k4, _⟩ := HP6.out
              exact ⟨i + 1, Sp3, Sc3, by omega, by go_num, Lib.hid ⟨k1, k2, k4 rfl, k3⟩⟩
            case measure => simp [intOf]; omega
          | false =>
            have HB6 : Hid (Boxed w5 B6 4 (.bool false)) := Lib.hid (by
              obtain ⟨Sp3, Sc3, k1, _⟩ := HP6.out
              exact (HB.out _ _ _ (HX.out.1.trans k1)).1.2.2.2)
            have HF : Hid (EIx p bc bm vf b0 Jx Sp1 Sc2 X P1 (ordsDiv p (ords p) n a) (w5.setCell ⟨B6, 0, none⟩ (.bool false))) := Lib.hid (by
              obtain ⟨Sp3, Sc3, k1, k2, k3, _, k5⟩ := HP6.out
              obtain ⟨q', h1, h2⟩ := k5 rfl
              exact EIx.kp HJx.out ⟨Sp3, Sc3, q', k1, k2, by rw [HOD.out]; exact h1, h2⟩ (kp_reset HB6.out))
            have b6 := HB6.out.cell
            have f6 := HB6.out.frozen
            gi_wp2
            exact HF.out
        · obtain rfl : m2 = i := by omega
          have HE : Hid (EI p bc bm vf b0 J Sp1 Sc2 X (P1 ++ ordsDiv p (ords p) n a) wr) := Lib.hid ⟨Sp', Sc', HS.out.1, HS.out.2.1, by
            have h := HS.out.2.2.1
            rw [← HM.out, List.take_length, ← HOD.out] at h
            exact h⟩
          clear HS
          gi_wp2
          exact HE.out
theorem each_any (p : Pol) (hp : p.Good) (bc bm : Nat) (vf : Value) (b0 n : Nat) : 1 ≤ n → n ≤ 4096 → EachSpec p bc bm vf b0 n := by
  induction n using Nat.strongRecOn with
  | ind n ih => intro h1 h2; exact each_step p hp bc bm vf b0 n h1 h2 fun m hm hlt => ih m hlt hm (by omega)
end Go.Proofs.YtgjlldapnodfbaaDoor
/-
  The function that All hands to each: it counts down, and hands on to the round.
-/
namespace Go.Proofs.YtgjlldapnodfbaaDoor
open Go Go.RowKit Go.Fl Go.Ord Go.Pr Go.Shelf
attribute [local go_sem] Oper.semAt_some

theorem PM.weak {b1 b0 : Nat} {S S' : Nat → Prop} {w w' : World} (hb : b1 ≤ b0) (h : PM b0 S w S' w') : PM b1 S w S' w' :=
  ⟨h.os, h.tape, h.output, h.size, fun k hk hS => (h.block k hk hS).imp id fun e => ⟨Nat.le_trans hb e.1, e.2⟩, h.grow⟩
theorem CM.weak {b1 b0 : Nat} {S S' : Nat → Prop} {w w' : World} (hb : b1 ≤ b0) (h : CM b1 S w S' w') : CM b0 S w S' w' := ⟨h.kx, fun g o hg => h.nc g o (Nat.le_trans hb hg), h.lt⟩
theorem Abide.weak {b1 b0 : Nat} {J : (Nat → Prop) → (Nat → Prop) → List Tr → World → Prop} (hb : b1 ≤ b0) (h : Abide b1 J) : Abide b0 J := fun _ _ _ _ _ _ hj hm hc => h _ _ _ _ _ _ hj (hm.weak hb) hc
/-- Round l takes the orders of a list. -/
def YTakes (L : List Tr) (b0 l : Nat) (J Jx : (Nat → Prop) → (Nat → Prop) → List Tr → World → Prop) : Prop :=
  ∀ (lev : Nat) (Sp Sc : Nat → Prop) (pre : List Tr) (T : Tr) (k n0 : Int) (o : Option Addr) (m c : Nat) (W : World), T ∈ L → pre.length < 4096 → (∀ g, Sp g → g < W.heap.size) → (∀ g, Sc g → g < W.heap.size) → J Sp Sc pre W → OX (fun g => ¬ Sp g ∧ ¬ Sc g) W T (.agg #[.int .i64 k, .int .i64 n0, .slice o m c]) →
    YieldAt Fence.wide lev Tryd.prog l #[.agg #[.int .i64 k, .int .i64 n0, .slice o m c]] W fun e W' => ∃ (b : Bool) (Sc' : Nat → Prop), e = .returned (.bool b) ∧ Hid (CM b0 Sc W Sc' W' ∧ (b = true → J Sp Sc' (pre ++ [T]) W') ∧ (b = false → Jx Sp Sc' (pre ++ [T]) W'))
def JL (J : (Nat → Prop) → (Nat → Prop) → List Tr → World → Prop) (BL BY l : Nat) (Sp Sc : Nat → Prop) (pre : List Tr) (W : World) : Prop :=
  ∃ Sc0 : Nat → Prop, (Sc = fun g => Sc0 g ∨ g = BL) ∧ J (fun g => Sp g ∨ g = BL) Sc0 pre W ∧ (¬ Sc0 BL ∧ ¬ Sp BL) ∧ Boxed W BL 3 (.int .i64 ((4096 - pre.length : Nat) : Int)) ∧ Boxed W BY 46 (.func (.yield l) #[] #[]) ∧ (¬ Sp BY ∧ ¬ Sc0 BY ∧ BY ≠ BL) ∧ pre.length < 4096
def JxL (J Jx : (Nat → Prop) → (Nat → Prop) → List Tr → World → Prop) (BL : Nat) (Sp Sc : Nat → Prop) (pre : List Tr) (W : World) : Prop :=
  ∃ Sc0 : Nat → Prop, (Sc = fun g => Sc0 g ∨ g = BL) ∧ pre.length ≤ 4096 ∧ (Jx (fun g => Sp g ∨ g = BL) Sc0 pre W ∨ (J (fun g => Sp g ∨ g = BL) Sc0 pre W ∧ pre.length = 4096))
theorem PM.add {b0 B : Nat} {S S' : Nat → Prop} {w w' : World} (h : PM b0 S w S' w') : PM b0 (fun g => S g ∨ g = B) w (fun g => S' g ∨ g = B) w' :=
  ⟨h.os, h.tape, h.output, h.size, fun k hk hS => h.block k hk (fun e => hS (.inl e)), fun k hk => hk.elim (fun e => (h.grow k e).imp .inl id) (fun e => .inl (.inr e))⟩
theorem JL.abide {b0 BL BY l : Nat} {J : (Nat → Prop) → (Nat → Prop) → List Tr → World → Prop} (hJ : Abide b0 J) : Abide b0 (JL J BL BY l) := by
  rintro Sp Sc pre W Sp' W' ⟨Sc0, rfl, h2, h3, h4, h5, h6, h7⟩ hm hb
  exact ⟨Sc0, rfl, hJ _ _ _ _ _ _ h2 hm.add (fun g hg => hb g (.inl hg)), ⟨h3.1, hm.out (Boxed.lt h4) h3.2⟩, hm.cells h4 h3.2, hm.cells h5 h6.1, ⟨hm.out (Boxed.lt h5) h6.1, h6.2⟩, h7⟩
theorem JxL.abide {b0 BL : Nat} {J Jx : (Nat → Prop) → (Nat → Prop) → List Tr → World → Prop} (hJ : Abide b0 J) (hJx : Abide b0 Jx) : Abide b0 (JxL J Jx BL) := by
  rintro Sp Sc pre W Sp' W' ⟨Sc0, rfl, hl, h2⟩ hm hb
  refine ⟨Sc0, rfl, hl, h2.imp (fun h => hJx _ _ _ _ _ _ h hm.add fun g hg => hb g (.inl hg)) fun h => ⟨hJ _ _ _ _ _ _ h.1 hm.add fun g hg => hb g (.inl hg), h.2⟩⟩
/-- The taker's own box has turned besides. -/
theorem CM.box {b0 B : Nat} {S S' : Nat → Prop} {w w1 w' : World} {t : TypeId} {v : Value} (hB : Boxed w B t v) (k : Kb B w w1) (h : CM b0 S w1 S' w') : CM b0 (fun g => S g ∨ g = B) w (fun g => S' g ∨ g = B) w' := by
  refine ⟨⟨h.kx.os.trans k.os, h.kx.tape.trans k.tape, h.kx.output.trans k.output, Nat.le_trans k.size h.kx.size, fun j hj hS => (h.kx.block j (Nat.lt_of_lt_of_le hj k.size) (fun e => hS (.inl e))).trans (k.block j hj (fun e => hS (.inr e))), fun j hj => ?_⟩, fun g o hg ho hc => ?_, fun hl g hg => ?_⟩
  · rcases hj with hj | hj
    · rcases h.kx.grow j hj with h1 | h1
      · exact .inl (.inl h1)
      · exact .inr (Nat.le_trans k.size h1)
    · exact .inl (.inr hj)
  · have hne : g ≠ B := fun e => by subst e; rw [show w.heap[g]? = _ from hB] at ho; cases ho; cases hc
    exact h.nc g o hg ((k.block g (Array.getElem?_eq_some_iff.1 ho).1 hne).trans ho) hc
  · rcases hg with hg | hg
    · exact h.lt (fun g hg => Nat.lt_of_lt_of_le (hl g (.inl hg)) k.size) g hg
    · subst hg; exact Nat.lt_of_lt_of_le hB.lt (Nat.le_trans k.size h.kx.size)
set_option maxRecDepth 100000 in
set_option maxHeartbeats 1000000 in
theorem allfn_takes {L : List Tr} {b0 l : Nat} {J Jx : (Nat → Prop) → (Nat → Prop) → List Tr → World → Prop} (hJ : Abide b0 J) (hY : YTakes L b0 l J Jx) (BL BY : Nat) : Takes L b0 65 BL BY (JL J BL BY l) (JxL J Jx BL) := by
  intro Sp Sc pre T k n0 o m c W hTL hSp hSc hJL hOX
  obtain ⟨Sc0, rfl, h2, h3, h4, h5, h6, h7⟩ := hJL
  refine (callsIn_wide (n := 3)).1 ?_
  obtain ⟨r, hr⟩ : ∃ r, 4096 - pre.length = r := ⟨_, rfl⟩
  obtain ⟨r', hr'⟩ : ∃ r', r - 1 = r' := ⟨_, rfl⟩
  rw [hr] at h4
  have hr1 : 1 ≤ r := by omega
  have hr2 : r ≤ 4096 := by omega
  have e1 : IntKind.i64.wrap ((r : Int) - 1) = (r' : Int) := by rw [show (r : Int) - 1 = (r' : Int) by omega]; exact IntWalk.i64_in _ (by omega)
  have e2 : wrap64 ((r : Int) - 1) = (r' : Int) := by rw [← e1]; exact (IntWalk.i64_left _).symm
  have kA := (Kp.refl W).alloc (.cells #[.int .i64 k, .int .i64 n0, .slice o m c] 28)
  have hb := heap_alloc_new W (.cells #[.int .i64 k, .int .i64 n0, .slice o m c] 28)
  have hBL : Boxed (W.alloc (.cells #[.int .i64 k, .int .i64 n0, .slice o m c] 28)) BL 3 (.int .i64 (r : Int)) := h4.alloc _
  have hBY : Boxed (W.alloc (.cells #[.int .i64 k, .int .i64 n0, .slice o m c] 28)) BY 46 (.func (.yield l) #[] #[]) := h5.alloc _
  obtain ⟨W1, hW1⟩ : ∃ W1, W.alloc (.cells #[.int .i64 k, .int .i64 n0, .slice o m c] 28) = W1 := ⟨_, rfl⟩
  have hsz : W.heap.size < W1.heap.size := by rw [← hW1]; simp
  rw [hW1] at kA hb hBL hBY
  have kS := kb_setCell W1 BL 0 (.int .i64 (r' : Int))
  have hBL2 := hBL.set (.int .i64 (r' : Int))
  have hBY2 := hBY.other h6.2.2 (.int .i64 (r' : Int))
  have hbL : W.heap.size ≠ BL := by have := Boxed.lt h4; omega
  have hb2 : (W1.setCell ⟨BL, 0, none⟩ (.int .i64 (r' : Int))).heap[W.heap.size]? = _ := (heap_set_other _ _ _ _ hbL).trans hb
  obtain ⟨fn, tmps, assign, body, hy, hR⟩ := hY (3 - 1) (fun g => Sp g ∨ g = BL) Sc0 pre T k n0 o m c (W1.setCell ⟨BL, 0, none⟩ (.int .i64 (r' : Int))) hTL h7 (fun g hg => hg.elim (fun hg => Nat.lt_of_lt_of_le (hSp g hg) (Nat.le_trans kA.size kS.size)) (fun e => by rw [e]; exact Nat.lt_of_lt_of_le (Boxed.lt h4) (Nat.le_trans kA.size kS.size))) (fun g hg => Nat.lt_of_lt_of_le (hSc g (.inl hg)) (Nat.le_trans kA.size kS.size))
    (hJ _ _ _ _ _ _ h2 ((PM.of kA).trans (PM.kb (.inr rfl) kS)) fun g hg => hSc g (.inl hg))
    ((hOX.kp kA).stay kS.size (fun g hg hq => kS.block g hg fun e => hq.2 (.inr e)) fun g hg hq => ⟨fun e => e.elim hq.1 fun e => hq.2 (.inr e), fun e => hq.2 (.inl e)⟩)
  obtain ⟨⟨z0, z1, z2⟩, _⟩ := row3_facts hb2
  have c1 := hBL.cell
  have f1 := hBL.frozen
  have c2 := hBL2.cell
  have c3 := hBY2.cell
  have HK := Lib.hid (And.intro kA (And.intro h3 (And.intro h4 (And.intro h5 (And.intro h6 h7)))))
  have HR := Lib.hid (And.intro hr hr')
  have HKS := Lib.hid kS
  have HB2 := Lib.hid (And.intro hBL2 (And.intro hBY2 hSc))
  have HJ := Lib.hid hJ
  clear hTL hSp hOX hY h2 h3 h4 h5 h6 h7 hr hr' hb hb2 hBL hBY hBL2 hBY2 kS hbL hJ hSc kA
  refine callsIn_of_wp Tryd.func65 rfl trivial ?_ rfl
  simp only [Tryd.ntmps65, List.size_toArray, List.length_cons, List.length_nil, Nat.reduceAdd, Nat.reduceSub, Array.replicate_succ, Array.replicate_zero, List.push_toArray, List.append_toArray, List.nil_append, List.cons_append]
  gi_wp2
  refine hR.mono ?_
  clear hR hy z0 z1 z2 c1 f1 c2 c3
  rintro e W3 ⟨b, Sc', rfl, HM⟩
  have hcm := HM.out.1
  have hB3 : Boxed W3 BL 3 (.int .i64 (r' : Int)) := (hcm.kx.block BL (Boxed.lt HB2.out.1) HK.out.2.1.1).trans HB2.out.1
  have c4 := hB3.cell
  have HCM : Hid (CM b0 (fun g => Sc0 g ∨ g = BL) W (fun g => Sc' g ∨ g = BL) W3) := Lib.hid (by
    have hk1 : Kp W W1 := HK.out.1
    have h1 : CM b0 (fun g => Sc0 g ∨ g = BL) W1 (fun g => Sc' g ∨ g = BL) W3 := CM.box (show Boxed W1 BL 3 (.int .i64 (r : Int)) from (HK.out.1.block BL (Boxed.lt HK.out.2.2.1)).trans HK.out.2.2.1) HKS.out hcm
    exact (CM.of hk1).trans h1)
  have HB3 := Lib.hid hB3
  have HY3 : Hid (Boxed W3 BY 46 (.func (.yield l) #[] #[])) := Lib.hid ((hcm.kx.block BY (Boxed.lt HB2.out.2.1) HK.out.2.2.2.2.1.2.1).trans HB2.out.2.1)
  have HN3 : Hid (¬ Sc' BL ∧ ¬ Sc' BY) := Lib.hid ⟨hcm.kx.outS (Boxed.lt HB2.out.1) HK.out.2.1.1, hcm.kx.outS (Boxed.lt HB2.out.2.1) HK.out.2.2.2.2.1.2.1⟩
  have HL3 : Hid ((pre ++ [T]).length = pre.length + 1) := Lib.hid (by simp)
  clear hcm hB3
  cases b with
  | false =>
    gi_wp2
    go_ret
    exact ⟨false, _, rfl, Lib.hid ⟨HCM.out, fun e => (by cases e), fun _ => ⟨Sc', rfl, by rw [HL3.out]; have := HK.out.2.2.2.2.2; omega, .inl (HM.out.2.2 (by first | rfl | trivial))⟩⟩⟩
  | true =>
    by_cases h0 : r' = 0
    · have d : decide ((0 : Int) < (r' : Int)) = false := by simp; omega
      have d' : ¬ 0 < r' := by omega
      gi_wp2
      go_ret
      exact ⟨false, _, rfl, Lib.hid ⟨HCM.out, fun e => (by cases e), fun _ => ⟨Sc', rfl, by rw [HL3.out]; have := HK.out.2.2.2.2.2; omega, .inr ⟨HM.out.2.1 (by first | rfl | trivial), by rw [HL3.out]; have := HR.out; have := HK.out.2.2.2.2.2; omega⟩⟩⟩⟩
    · have d : decide ((0 : Int) < (r' : Int)) = true := by simp; omega
      have d' : 0 < r' := by omega
      gi_wp2
      go_ret
      exact ⟨true, _, rfl, Lib.hid ⟨HCM.out, fun _ => ⟨Sc', rfl, HM.out.2.1 (by first | rfl | trivial), ⟨HN3.out.1, HK.out.2.1.2⟩, by rw [HL3.out, show 4096 - (pre.length + 1) = r' by have := HR.out; omega]; exact HB3.out, HY3.out, ⟨HK.out.2.2.2.2.1.1, HN3.out.2, HK.out.2.2.2.2.1.2.2⟩, by rw [HL3.out]; have := HR.out; omega⟩, fun e => (by cases e)⟩⟩
end Go.Proofs.YtgjlldapnodfbaaDoor
/-
  planner.All, and what it hands out.
-/
namespace Go.Proofs.YtgjlldapnodfbaaDoor
open Go Go.RowKit Go.Fl Go.Ord Go.Pr Go.Shelf

/-- An append in a plain region, by its run. -/
theorem wpList_append_run {P : Program} {w : World} {ops : Array Oper} {rest : List Oper} {o : Oper} {a : Act} {Q : Exit → Act → World → Prop} (hgd : o.guard = none) (s x : Operand) (t : TypeId)
    (ho : o.op = .call { callee := .builtin .append, args := #[s, x], argTypes := #[t, t] }) (v u : Value) (hs : a.eval s = v) (hx : a.eval x = u) (R : Value → World → Prop)
    (hrun : ∃ v' w', (Builtin.append_ #[t, t] o.type #[v, u]).run P w = .ok v' w' ∧ R v' w') (h : ∀ v' w', R v' w' → wpList P ops Q rest (a.put o.dst v') w') : wpList P ops Q (o :: rest) a w :=
  wpList_plain hgd fun _ hK => by
    obtain ⟨v', w', hr, hR⟩ := hrun
    unfold Oper.wp execOp
    simp only [ho, resolve, invoke, builtin, Sem.run_bind, Sem.run_pure, Result.andThen_ok, List.map_toArray, List.map_cons, List.map_nil, hs, hx, hr]
    exact hK _ _ (h v' w' hR)
theorem eql_slice_nil (o : Option Addr) (n c : Nat) (w : World) : (binOp BinOp.eql 22 (.slice o n c) (.slice none 0 0)).run Tryd.prog w = .ok (.bool (o == none)) w := by
  rw [Go.Lib.run_eql_slice_nil w 22 3 o n c 0 0 Tryd.underlying22]
  cases o <;> rfl
attribute [local go_sem] eql_slice_nil
set_option maxRecDepth 100000 in
set_option maxHeartbeats 1000000 in
theorem Clone_any (l : List Int) (o : Option Addr) (c : Nat) (w : World) (hl : l.length ≤ 17592186044416) (hv : FlIn w (.slice o l.length c) l) :
    Calls Tryd.prog 62 #[.slice o l.length c] w fun e w' => ∃ o' c', e = .returned (.slice o' l.length c') ∧ Hid (FlIn w' (.slice o' l.length c') l ∧ ∀ g off, o' = some ⟨g, off, none⟩ → w.heap.size ≤ g) ∧ Kp w w' := by
  have HV := Lib.hid hv
  obtain ⟨m, hm⟩ : ∃ m, l.length = m := ⟨_, rfl⟩
  have HM := Lib.hid hm
  rw [hm] at hl HV ⊢
  have hz : o = none → m = 0 := fun e => by
    subst e
    rcases Nat.eq_zero_or_pos m with h | h
    · exact h
    · obtain ⟨_, _, e, h2⟩ := hv
      obtain ⟨g, off, e2, _⟩ := h2 (by omega)
      cases e; cases e2
  cases o with
  | none =>
    obtain rfl := hz rfl
    clear hv hm hz hl
    go_enter Tryd.func62, Tryd.ntmps62
    go_wp2_with fail
    go_ret
    refine ⟨none, 0, rfl, Lib.hid ⟨⟨none, 0, by rw [HM.out], fun h => by have := HM.out; omega⟩, fun g off e => by cases e⟩, Kp.refl _⟩
  | some ad =>
    have HAp : Hid (∃ v' w', (Builtin.append_ #[22, 22] 22 #[.slice (some ⟨w.heap.size, 0, none⟩) 0 0, .slice (some ad) m c]).run Tryd.prog (w.alloc (.cells #[] 3)) = .ok v' w' ∧ ∃ o' c', v' = .slice o' m c' ∧ Hid (FlIn w' (.slice o' m c') l ∧ ∀ g off, o' = some ⟨g, off, none⟩ → w.heap.size ≤ g) ∧ Kp w w') := Lib.hid (by
      have kA := (Kp.refl w).alloc (.cells #[] 3)
      have hB : (w.alloc (.cells #[] 3)).heap[w.heap.size]? = some (.cells #[] 3 (0, 0)) := heap_alloc_new w _
      obtain ⟨v', w'', hr, o', c', e, hf, hg, hat⟩ := fl_append (w.alloc (.cells #[] 3)) w.heap.size (some ad) c l (by rw [HM.out]; exact hl) (by rw [HM.out]; exact HV.out.kp kA) ⟨rfl, .inr ⟨w.heap.size, 0, #[], rfl, Nat.le_refl _, hB, Nat.le_refl _, by decide, rfl, rfl⟩⟩ (by simp)
      rw [HM.out] at hr e hf
      refine ⟨v', w'', hr, o', c', e, Lib.hid ⟨hf, fun g off e2 => ?_⟩, kA.grown hg fun j hj => by cases hj; exact Nat.le_refl _⟩
      have := hat g off e2
      simp at this
      omega)
    clear hv hm hz hl
    go_enter Tryd.func62, Tryd.ntmps62
    go_wp2_with (at_builtin; refine wpList_append_run rfl (.tmp 5) (.tmp 6) 22 rfl _ _ rfl rfl _ HAp.out ?_; rintro v2 w2 ⟨o2, c2, rfl, HF2, hk2⟩)
    go_ret
    exact ⟨_, _, rfl, HF2, hk2⟩
set_option maxRecDepth 100000 in
set_option maxHeartbeats 1000000 in
theorem All_any (n : Int) (p : Pol) (vf : Value) (w : World) (hl : p.fl.length ≤ 17592186044416) (hv : FlIn w vf p.fl) :
    Calls Tryd.prog 40 #[.int .i64 n, .agg #[.int .i64 p.D, vf, .int .i64 p.P]] w fun e w' => ∃ (Bn Bp : Nat) (vf' : Value), e = .returned (.func (.func 63) #[] #[.pointer (some ⟨Bn, 0, none⟩), .pointer (some ⟨Bp, 0, none⟩)]) ∧
      Hid (Boxed w' Bn 3 (.int .i64 n) ∧ w'.heap[Bp]? = some (.cells #[.int .i64 p.D, vf', .int .i64 p.P] 24 (0, 0)) ∧ FlIn w' vf' p.fl ∧ (∀ o m c g off, vf' = .slice o m c → o = some ⟨g, off, none⟩ → w.heap.size ≤ g) ∧ w.heap.size ≤ Bn ∧ w.heap.size ≤ Bp) ∧ Kp w w' := by
  have HV := Lib.hid hv
  obtain ⟨o, c, rfl, _⟩ := hv
  obtain ⟨m, hm⟩ : ∃ m, p.fl.length = m := ⟨_, rfl⟩
  have HM := Lib.hid hm
  have k0 := ((Kp.refl w).alloc (.cells #[.int .i64 n] 3)).alloc (.cells #[.int .i64 p.D, .slice o p.fl.length c, .int .i64 p.P] 24)
  have hN := heap_alloc2_old w (.cells #[.int .i64 n] 3) (.cells #[.int .i64 p.D, .slice o p.fl.length c, .int .i64 p.P] 24)
  have hP := heap_alloc2_new w (.cells #[.int .i64 n] 3) (.cells #[.int .i64 p.D, .slice o p.fl.length c, .int .i64 p.P] 24)
  have HCl : Hid (∀ w', Kp w w' → Calls Tryd.prog 62 #[.slice o m c] w' fun e w'' => ∃ o' c', e = .returned (.slice o' m c') ∧ Hid (FlIn w'' (.slice o' m c') p.fl ∧ ∀ g off, o' = some ⟨g, off, none⟩ → w'.heap.size ≤ g) ∧ Kp w' w'') := Lib.hid fun w' k => by
    have h := Clone_any p.fl o c w' hl (HV.out.kp k)
    rw [hm] at h
    exact h
  rw [hm] at k0 hN hP ⊢
  clear hm hl HV
  obtain ⟨⟨p0, p1, p2⟩, _⟩ := row3_facts hP
  have HN := Lib.hid hN
  have HP := Lib.hid hP
  have HK0 := Lib.hid k0
  clear hN hP
  go_enter Tryd.func40, Tryd.ntmps40
  go_wp2_with (go_at_call 62; (with_reducible refine (HCl.out _ k0).mono ?_); rintro e w1 ⟨o1, c1, rfl, HF1, hk1⟩; obtain ⟨⟨r0, r1, r2⟩, s0, s1, s2⟩ := row3_facts ((hk1.block _ (Array.getElem?_eq_some_iff.1 HP.out).1).trans HP.out))
  have hP1 := (hk1.block _ (Array.getElem?_eq_some_iff.1 HP.out).1).trans HP.out
  have hN1 := (hk1.block _ (Array.getElem?_eq_some_iff.1 HN.out).1).trans HN.out
  go_ret
  have hsz := HK0.out.size
  refine ⟨w.heap.size, w.heap.size + 1, .slice o1 m c1, rfl, Lib.hid ⟨?_, ?_, ?_, ?_, Nat.le_refl _, Nat.le_succ _⟩, ?_⟩
  · exact (heap_set_other _ _ _ _ (show w.heap.size ≠ w.heap.size + 1 by omega)).trans hN1
  · exact heap_setCell_same w1 (w.heap.size + 1) 1 _ _ (.slice o1 m c1) hP1
  · refine HF1.out.1.kbo (R := w.heap.size + 1) (fun g off e => ?_) (kb_setCell _ _ _ _)
    have h := HF1.out.2 g off e
    rw [World.size_alloc, World.size_alloc] at h
    omega
  · intro o' m' c' g off e e2
    cases e
    have h := HF1.out.2 g off e2
    rw [World.size_alloc, World.size_alloc] at h
    omega
  · exact Kp.setCell (HK0.out.trans hk1) (show w.heap.size ≤ w.heap.size + 1 by omega) _
end Go.Proofs.YtgjlldapnodfbaaDoor
/-
  What All hands out: the first orders of a length, to a round, until it says 'no more'.
-/
namespace Go.Ord
open Go.Pr
/-- What All goes over. -/
def ordsAll (p : Pol) (n : Int) : List Tr := if n < 1 ∨ 4096 < n ∨ p.ok = false then [] else (ords p n.toNat).take 4096
theorem ordsAll_none {p : Pol} {n : Int} (h : n < 1 ∨ 4096 < n ∨ p.ok = false) : ordsAll p n = [] := if_pos h
theorem ordsAll_some {p : Pol} {n : Nat} (h1 : 1 ≤ n) (h2 : n ≤ 4096) (hp : p.ok = true) : ordsAll p n = (ords p n).take 4096 := by
  unfold ordsAll
  rw [if_neg (by rw [hp]; simp; omega)]
  simp
end Go.Ord
namespace Go.Proofs.YtgjlldapnodfbaaDoor
open Go Go.RowKit Go.Fl Go.Ord Go.Pr Go.Shelf

open Go.Maps in
theorem newChooser_new (p : Pol) (vf : Value) (w : World) (hv : FlIn w vf p.fl) :
    Calls Tryd.prog 30 #[.agg #[.int .i64 p.D, vf, .int .i64 p.P]] w fun e w' => ∃ bc bm, e = .returned (.pointer (some ⟨bc, 0, none⟩)) ∧ (w.heap.size ≤ bm ∧ bm < w'.heap.size ∧ w.heap.size ≤ bc ∧ bc ≠ bm) ∧ CH w' bc p vf bm ∧ MP w' bm 0 (fun _ => none) ∧ Kp w w' := by
  have hmm := @run_makeMap Tryd.prog
  have hF : FlIn w vf p.fl := hv
  obtain ⟨o, c, rfl, _⟩ := hv
  have hmp := MP.made (w.alloc (.cells #[.int .i64 p.D, .slice o p.fl.length c, .int .i64 p.P] 24))
  obtain ⟨D, hD⟩ : ∃ D, p.D = D := ⟨_, rfl⟩
  obtain ⟨P, hP⟩ : ∃ P, p.P = P := ⟨_, rfl⟩
  have HD := Lib.hid hD
  have HP := Lib.hid hP
  rw [hD, hP] at hmp ⊢
  rw [World.size_alloc] at hmp
  have HMP := Lib.hid hmp
  clear hD hP hF hmp
  go_enter Tryd.func30, Tryd.ntmps30
  go_wp2_with fail
  go_ret
  refine ⟨w.heap.size + 1 + 1, w.heap.size + 1, rfl, ⟨by omega, by simp, by omega, by omega⟩, ?_, ?_, (((Kp.refl w).alloc _).alloc _).alloc _⟩
  · have := heap_alloc2_new (w.alloc (.cells #[.int .i64 D, .slice o p.fl.length c, .int .i64 P] 24)) (.map #[] 0) (.cells #[.int .i64 D, .slice o p.fl.length c, .int .i64 P, .map (some (w.heap.size + 1))] 86)
    rw [World.size_alloc] at this
    unfold CH
    rw [HD.out, HP.out]
    exact this
  · exact HMP.out.kp ((Kp.refl _).alloc _)
/-- Behind All's function. -/
def APost (p : Pol) (n : Int) (J Jx : (Nat → Prop) → (Nat → Prop) → List Tr → World → Prop) (Sc : Nat → Prop) (W : World) (W' : World) : Prop :=
  ∃ (Sp' Sc' : Nat → Prop), KX Sc W Sc' W' ∧ (∀ g, Sc' g → g < W'.heap.size) ∧ (J Sp' Sc' (ordsAll p n) W' ∨ ∃ q, q <+: ordsAll p n ∧ Jx Sp' Sc' q W')
set_option maxRecDepth 100000 in
set_option maxHeartbeats 2000000 in
theorem all1_any (p : Pol) (n : Int) (vf : Value) (l Bn Bp b1 : Nat) (J Jx : (Nat → Prop) → (Nat → Prop) → List Tr → World → Prop) (hJ : Abide b1 J) (hJx : Abide b1 Jx) (hY : YTakes (ords p n.toNat) b1 l J Jx) (W : World) (Sc : Nat → Prop) (hb : b1 ≤ W.heap.size)
    (hn : Boxed W Bn 3 (.int .i64 n)) (hp : W.heap[Bp]? = some (.cells #[.int .i64 p.D, vf, .int .i64 p.P] 24 (0, 0))) (hnc : ¬ Sc Bn ∧ ¬ Sc Bp) (hfl : FlS Sc W vf p.fl) (hl : ∀ g, Sc g → g < W.heap.size) (hj : J (fun _ => False) Sc [] W) (aR : Addr) (hR : errAt W 0 aR) :
    Calls Tryd.prog 63 #[.func (.yield l) #[] #[], .pointer (some ⟨Bn, 0, none⟩), .pointer (some ⟨Bp, 0, none⟩)] W fun e W' => (∃ v, e = .returned v) ∧ APost p n J Jx Sc W W' := by
  have HJ := Lib.hid hJ
  have HJx := Lib.hid hJx
  have HY := Lib.hid hY
  have HN := Lib.hid hn
  have HP := Lib.hid hp
  have HNc := Lib.hid hnc
  have HFl := Lib.hid hfl
  have HLc := Lib.hid hl
  have Hj := Lib.hid hj
  have HR := Lib.hid hR
  clear hJ hJx hY hnc hl hj hR
  have k0 := (Kp.refl W).alloc (.cells #[.func (.yield l) #[] #[]] 46)
  have hY0 := Boxed.new W 46 (.func (.yield l) #[] #[])
  have HPost0 : Hid (n < 1 ∨ 4096 < n ∨ p.ok = false → ∀ W', Kp W W' → APost p n J Jx Sc W W') := Lib.hid fun h W' k => ⟨fun _ => False, Sc, KX.of k, fun g hg => Nat.lt_of_lt_of_le (HLc.out g hg) k.size, .inl (by rw [ordsAll_none h]; exact HJ.out _ _ _ _ _ _ Hj.out (PM.of k) HLc.out)⟩
  have HC : Hid (∀ w', Kp W w' → Calls Tryd.prog 14 #[.agg #[.int .i64 p.D, vf, .int .i64 p.P]] w' fun e w'' => e = .returned (chk p aR) ∧ Kp w' w'') := Lib.hid fun w' k => pCheck_any p vf aR w' (HFl.out.fl.kp k) (k.later HR.out)
  have HCell : Hid (∀ w', Kp W w' → w'.cell? ⟨Bn, 0, none⟩ = some (.int .i64 n) ∧ (w'.cell? ⟨Bp, 0, none⟩ = some (.int .i64 p.D) ∧ w'.cell? ⟨Bp, 1, none⟩ = some vf ∧ w'.cell? ⟨Bp, 2, none⟩ = some (.int .i64 p.P))) := Lib.hid fun w' k =>
    ⟨Boxed.cell (t := 3) ((k.block _ hn.lt).trans hn), (row3_facts ((k.block _ (Array.getElem?_eq_some_iff.1 hp).1).trans hp)).1⟩
  obtain ⟨of, cf, rfl, _⟩ := hfl
  obtain ⟨mf, hmf⟩ : ∃ mf, p.fl.length = mf := ⟨_, rfl⟩
  rw [hmf] at HFl HP HC HCell
  have HMf := Lib.hid hmf
  obtain ⟨c0, c1, c2, c3⟩ := HCell.out _ k0
  clear hn hp hmf
  by_cases h1 : n < 1
  · have d1 : decide (n < 1) = true := by simpa using h1
    have HF := Lib.hid (HPost0.out (.inl h1) _ k0)
    go_enter Tryd.func63, Tryd.ntmps63
    go_wp2_with fail
    refine bodyPost_ret (results_none rfl _ _ _) rfl ?_
    exact ⟨⟨_, rfl⟩, HF.out⟩
  by_cases h2 : 4096 < n
  · have d1 : decide (n < 1) = false := by simpa using h1
    have d2 : decide (4096 < n) = true := by simpa using h2
    have HF := Lib.hid (HPost0.out (.inr (.inl h2)) _ k0)
    go_enter Tryd.func63, Tryd.ntmps63
    go_wp2_with fail
    refine bodyPost_ret (results_none rfl _ _ _) rfl ?_
    exact ⟨⟨_, rfl⟩, HF.out⟩
  have d1 : decide (n < 1) = false := by simpa using h1
  have d2 : decide (4096 < n) = false := by simpa using h2
  cases hok : p.ok with
  | false =>
    have HF := Lib.hid fun W' k => HPost0.out (.inr (.inr hok)) W' k
    have hc : chk p aR = .iface 114 (.pointer (some aR)) := by unfold chk; rw [hok]; rfl
    rw [hc] at HC
    clear hc hok
    go_enter Tryd.func63, Tryd.ntmps63
    go_wp2_with (go_at_call 14; (with_reducible refine (HC.out _ k0).mono ?_); rintro e w1 ⟨rfl, hk1⟩)
    refine bodyPost_ret (results_none rfl _ _ _) rfl ?_
    exact ⟨⟨_, rfl⟩, HF.out _ (k0.trans hk1)⟩
  | true =>
    have hc : chk p aR = .nilIface := by unfold chk; rw [hok]; rfl
    rw [hc] at HC
    have HOk := Lib.hid hok
    obtain ⟨N, rfl⟩ := Int.eq_ofNat_of_zero_le (show 0 ≤ n by omega)
    have hN1 : 1 ≤ N := by omega
    have hN2 : N ≤ 4096 := by omega
    clear hc hok h1 h2
    have HNew : Hid (∀ w', Kp W w' → Calls Tryd.prog 30 #[.agg #[.int .i64 p.D, .slice of mf cf, .int .i64 p.P]] w' fun e w'' => ∃ bc bm, e = .returned (.pointer (some ⟨bc, 0, none⟩)) ∧ Hid ((w'.heap.size ≤ bm ∧ bm < w''.heap.size ∧ w'.heap.size ≤ bc ∧ bc ≠ bm) ∧ CH w'' bc p (.slice of mf cf) bm ∧ MP w'' bm 0 (fun _ => none)) ∧ Kp w' w'') := Lib.hid fun w' k => by
      have h := newChooser_new p (.slice of mf cf) w' (HFl.out.fl.kp k)
      refine h.mono ?_
      rintro e w'' ⟨bc, bm, rfl, q1, q2, q3, q4⟩
      exact ⟨bc, bm, rfl, Lib.hid ⟨q1, q2, q3⟩, q4⟩
    go_enter Tryd.func63, Tryd.ntmps63
    go_upto_region 3 with (go_at_call 14; (with_reducible refine (HC.out _ k0).mono ?_); rintro e w1 ⟨rfl, hk1⟩)
    have hBL := Boxed.new w1 3 (.int .i64 4096)
    have kL := (k0.trans hk1).alloc (.cells #[.int .i64 4096] 3)
    have hBY : Boxed (w1.alloc (.cells #[.int .i64 4096] 3)) W.heap.size 46 (.func (.yield l) #[] #[]) := Boxed.alloc ((hk1.block _ hY0.lt).trans hY0) _
    have hw1 : W.heap.size < w1.heap.size := Nat.lt_of_lt_of_le hY0.lt hk1.size
    obtain ⟨BL, hBL'⟩ : ∃ BL, w1.heap.size = BL := ⟨_, rfl⟩
    simp only [hBL'] at hBL ⊢
    obtain ⟨w2, hw2⟩ : ∃ w2, w1.alloc (.cells #[.int .i64 4096] 3) = w2 := ⟨_, rfl⟩
    have hW2s : w2.heap.size = BL + 1 := by rw [← hw2, ← hBL']; simp
    rw [hw2] at hBL kL hBY ⊢
    have HB := Lib.hid (And.intro hBL (And.intro hBY (And.intro (show W.heap.size < BL by omega) (show BL < w2.heap.size by omega))))
    have HKL := Lib.hid kL
    clear hBL hBY hw1 hBL' hw2 hW2s hY0 c0 c1 c2 c3 k0 hk1 HC
    have HEach : Hid (∀ w3 bc bm, Kp w2 w3 → Hid ((w2.heap.size ≤ bm ∧ bm < w3.heap.size ∧ w2.heap.size ≤ bc ∧ bc ≠ bm) ∧ CH w3 bc p (.slice of mf cf) bm ∧ MP w3 bm 0 (fun _ => none)) → Calls Tryd.prog 64 #[.pointer (some ⟨bc, 0, none⟩), .int .i64 N, .func (.func 65) #[] #[.pointer (some ⟨BL, 0, none⟩), .pointer (some ⟨W.heap.size, 0, none⟩)]] w3 fun e W' => ∃ b : Bool, e = .returned (.bool b) ∧ APost p N J Jx Sc W W' ∧ (W'.cell? ⟨Bn, 0, none⟩ = some (.int .i64 N) ∧ (W'.cell? ⟨Bp, 0, none⟩ = some (.int .i64 p.D) ∧ W'.cell? ⟨Bp, 1, none⟩ = some (.slice of mf cf) ∧ W'.cell? ⟨Bp, 2, none⟩ = some (.int .i64 p.P)))) := Lib.hid fun w3 bc bm kw hh => by
      obtain ⟨⟨q1, q2, q3, q4⟩, q5, q6⟩ := hh.out
      obtain ⟨hBL, hBY, hlt1, hlt2⟩ := HB.out
      have hN : ((N : Int)).toNat = N := by simp
      have hk : Kp W w3 := HKL.out.trans kw
      have hs := hk.size
      have hs2 := kw.size
      have hb0 : b1 ≤ w3.heap.size := by omega
      have hnSc : ∀ g, W.heap.size ≤ g → ¬ Sc g := fun g hg h => by have := HLc.out g h; omega
      have hYw : YTakes (ords p N) w3.heap.size l J Jx := fun lev Sp' Sc' pre T k n0 o m c X h1 h2 h3 h4 h5 h6 => by
        refine YieldAt.mono (HY.out lev Sp' Sc' pre T k n0 o m c X (by rw [hN]; exact h1) h2 h3 h4 h5 h6) ?_
        rintro e X' ⟨b, Sc2, rfl, q⟩
        exact ⟨b, Sc2, rfl, Lib.hid ⟨q.out.1.weak hb0, q.out.2⟩⟩
      have hEST : EST p bc bm (.slice of mf cf) w3.heap.size (fun g => g = bm) (fun g => Sc g ∨ g = BL) w3 :=
        { ch := q5, nc := ⟨q4, fun e => e.elim (hnSc _ (by omega)) (fun e => by omega)⟩
          fl := HFl.out.stay hk.size (fun g j v hc _ => hk.later hc) (fun g hg hn e => by
            rcases e with e | e | e
            · omega
            · exact hn e
            · omega)
          bp := rfl, bn := fun e => e.elim (hnSc _ (by omega)) (fun e => by omega), b0 := q2
          mm := ⟨fun _ => none, q6.mono (Nat.zero_le _), Memo.empty _ _ _, fun i v h => by cases h⟩
          lp := fun g hg => by subst hg; exact q2
          lc := fun g hg => hg.elim (fun h => Nat.lt_of_lt_of_le (HLc.out g h) hs) (fun h => by omega) }
      have hPM : PM b1 (fun _ => False) W (fun g => g = bm ∨ g = BL) w3 := ⟨hk.os, hk.tape, hk.output, hk.size, fun k hk' _ => .inl (hk.block k hk'), fun k hk' => .inr (by omega)⟩
      have hJL : JL J BL W.heap.size l (fun g => g = bm) (fun g => Sc g ∨ g = BL) [] w3 :=
        ⟨Sc, rfl, HJ.out _ _ _ _ _ _ Hj.out hPM HLc.out, ⟨hnSc _ (by omega), by omega⟩, (kw.block _ hBL.lt).trans hBL, (kw.block _ hBY.lt).trans hBY, ⟨by omega, hnSc _ (Nat.le_refl _), by omega⟩, by decide⟩
      refine (each_any p (Pol.ok_good HOk.out) bc bm (.slice of mf cf) w3.heap.size N hN1 hN2 65 BL W.heap.size (JL J BL W.heap.size l) (JxL J Jx BL) (enters_of Tryd.func65 (by kernel_rfl) rfl) (JL.abide (HJ.out.weak hb0)) (JxL.abide (HJ.out.weak hb0) (HJx.out.weak hb0))
        (allfn_takes (HJ.out.weak hb0) hYw BL W.heap.size) (fun g => g = bm) (fun g => Sc g ∨ g = BL) [] w3 (Nat.le_refl _) hEST hJL).mono ?_
      rintro e W' ⟨b, rfl, Sp', Sc', h1, h2, h3, h4⟩
      have hkx : ∀ Sc0 : Nat → Prop, (Sc' = fun g => Sc0 g ∨ g = BL) → KX Sc W Sc0 W' := fun Sc0 e => ⟨h1.os.trans hk.os, h1.tape.trans hk.tape, h1.output.trans hk.output, Nat.le_trans hk.size h1.size, fun k hk' hS => (h1.block k (Nat.lt_of_lt_of_le hk' hs) (by omega) (fun e => e.elim hS (fun e => by omega))).trans (hk.block k hk'), fun k hk' => by
        rcases h1.gc k (by rw [e]; exact .inl hk') with h | h
        · exact h.imp id fun h => by omega
        · exact .inr (by omega)⟩
      have hlc : ∀ Sc0 : Nat → Prop, (Sc' = fun g => Sc0 g ∨ g = BL) → ∀ g, Sc0 g → g < W'.heap.size := fun Sc0 e g hg => h2.lc g (by rw [e]; exact .inl hg)
      refine ⟨b, rfl, ?_, ?_⟩
      · have hall : ordsAll p (N : Int) = (ords p N).take 4096 := ordsAll_some hN1 hN2 HOk.out
        cases b with
        | true =>
          obtain ⟨Sc0, e, hj, _, _, _, _, hlen⟩ := h3 rfl
          refine ⟨fun g => Sp' g ∨ g = BL, Sc0, hkx Sc0 e, hlc Sc0 e, .inl ?_⟩
          rw [List.nil_append] at hj hlen
          rw [hall, List.take_of_length_le (by omega)]
          exact hj
        | false =>
          obtain ⟨q, hq, Sc0, e, hlen0, hjx⟩ := h4 rfl
          rw [List.nil_append] at hjx hlen0
          refine ⟨fun g => Sp' g ∨ g = BL, Sc0, hkx Sc0 e, hlc Sc0 e, ?_⟩
          rcases hjx with hjx | ⟨hj, hlen⟩
          · exact .inr ⟨q, by rw [hall]; exact List.prefix_take_iff.2 ⟨hq, hlen0⟩, hjx⟩
          · left
            obtain ⟨t, ht⟩ := hq
            rw [hall, ← ht, ← hlen, List.take_left']
            · exact hj
            · rfl
      · have hb3 : ∀ g, g < W.heap.size → ¬ Sc g → W'.heap[g]? = W.heap[g]? := fun g hg hS => (h1.block g (Nat.lt_of_lt_of_le hg hs) (by omega) (fun e => e.elim hS (fun e => by omega))).trans (hk.block g hg)
        exact ⟨Boxed.cell (t := 3) ((hb3 Bn HN.out.lt HNc.out.1).trans HN.out), (row3_facts ((hb3 Bp (Array.getElem?_eq_some_iff.1 HP.out).1 HNc.out.2).trans HP.out)).1⟩
    have HCell2 : Hid (∀ w', Kp w2 w' → (w'.cell? ⟨Bn, 0, none⟩ = some (.int .i64 N) ∧ (w'.cell? ⟨Bp, 0, none⟩ = some (.int .i64 p.D) ∧ w'.cell? ⟨Bp, 1, none⟩ = some (.slice of mf cf) ∧ w'.cell? ⟨Bp, 2, none⟩ = some (.int .i64 p.P)))) := Lib.hid fun w' k => HCell.out _ (HKL.out.trans k)
    have HNew2 : Hid (∀ w', Kp w2 w' → Calls Tryd.prog 30 #[.agg #[.int .i64 p.D, .slice of mf cf, .int .i64 p.P]] w' fun e w'' => ∃ bc bm, e = .returned (.pointer (some ⟨bc, 0, none⟩)) ∧ Hid ((w2.heap.size ≤ bm ∧ bm < w''.heap.size ∧ w2.heap.size ≤ bc ∧ bc ≠ bm) ∧ CH w'' bc p (.slice of mf cf) bm ∧ MP w'' bm 0 (fun _ => none)) ∧ Kp w2 w'') := Lib.hid fun w' k => by
      refine (HNew.out w' (HKL.out.trans k)).mono ?_
      rintro e w'' ⟨bc, bm, rfl, q, q4⟩
      have := k.size
      exact ⟨bc, bm, rfl, Lib.hid ⟨⟨by have := q.out.1.1; omega, q.out.1.2.1, by have := q.out.1.2.2.1; omega, q.out.1.2.2.2⟩, q.out.2⟩, k.trans q4⟩
    have kd := (Kp.refl w2).drew
    obtain ⟨z0, z1, z2, z3⟩ := HCell2.out _ (Kp.refl _)
    clear HCell HNew HPost0
    go_region_held3 (fun w' => w'.cell? ⟨Bn, 0, none⟩ = some (.int .i64 N) ∧ (w'.cell? ⟨Bp, 0, none⟩ = some (.int .i64 p.D) ∧ w'.cell? ⟨Bp, 1, none⟩ = some (.slice of mf cf) ∧ w'.cell? ⟨Bp, 2, none⟩ = some (.int .i64 p.P))) (first | go_keep | exact HCell2.out _ kd | exact HA5.2 | exact HCell2.out _ hk4)
      (first
      | (go_at_call 30; (with_reducible refine (HNew2.out _ kd).mono ?_); rintro e w4 ⟨bc, bm, rfl, HQ4, hk4⟩)
      | (go_at_call 64; (with_reducible refine (HEach.out _ _ _ hk4 HQ4).mono ?_); rintro e w5 ⟨b, rfl, HA5⟩))
    all_goals try go_wp2_with fail
    all_goals
      go_end0
      exact ⟨⟨_, rfl⟩, HA5.1⟩
end Go.Proofs.YtgjlldapnodfbaaDoor
/-
  A range over what All hands out: the caller's law.
-/
namespace Go.Proofs.YtgjlldapnodfbaaDoor
open Go Go.RowKit Go.Fl Go.Ord Go.Pr Go.Shelf

/-- How a round's body is left. -/
def bodyEnd (b : Nat) (I : (Nat → Prop) → (Nat → Prop) → List Tr → World → Prop) (Ix : Code → (Nat → Prop) → (Nat → Prop) → List Tr → World → Prop) (Sp Sc : Nat → Prop) (pre : List Tr) (W : World) : Exit → Act → World → Prop
  | .normal, _, W' => ∃ Sc', CM b Sc W Sc' W' ∧ I Sp Sc' pre W'
  | .ret, _, W' => ∃ Sc', CM b Sc W Sc' W' ∧ Ix .ret Sp Sc' pre W'
  | .exit id, _, W' => ∃ Sc', CM b Sc W Sc' W' ∧ Ix (.exit id) Sp Sc' pre W'
  | _, _, _ => False
/-- With the loop's record and the block of the deferred calls. -/
def JR (I : (Nat → Prop) → (Nat → Prop) → List Tr → World → Prop) (D : Nat) (r : Loop) (Sp Sc : Nat → Prop) (pre : List Tr) (W : World) : Prop :=
  ∃ Sc0 : Nat → Prop, (Sc = fun g => Sc0 g ∨ g = D ∨ g = D + 1) ∧ I Sp Sc0 pre W ∧ W.heap[D + 1]? = some (.loop r) ∧ W.heap[D]? = some (.deferred (some [])) ∧ (¬ Sp D ∧ ¬ Sp (D + 1)) ∧ (¬ Sc0 D ∧ ¬ Sc0 (D + 1))
def JRx (Ix : Code → (Nat → Prop) → (Nat → Prop) → List Tr → World → Prop) (D : Nat) (rec : Option Code → Loop) (Sp Sc : Nat → Prop) (pre : List Tr) (W : World) : Prop := ∃ c, JR (Ix c) D (rec (some c)) Sp Sc pre W
theorem JR.abide {I : (Nat → Prop) → (Nat → Prop) → List Tr → World → Prop} {D : Nat} (hI : Abide D I) (r : Loop) : Abide (D + 1 + 1) (JR I D r) := by
  rintro Sp Sc pre W Sp' W' ⟨Sc0, rfl, h1, h2, h3, h4, h5⟩ hm hb
  exact ⟨Sc0, rfl, (hI.weak (by omega)) _ _ _ _ _ _ h1 hm (fun g hg => hb g (.inl hg)), hm.low h2 h4.2 (by omega), hm.low h3 h4.1 (by omega), ⟨hm.out (Array.getElem?_eq_some_iff.1 h3).1 h4.1, hm.out (Array.getElem?_eq_some_iff.1 h2).1 h4.2⟩, h5⟩
theorem JRx.abide {Ix : Code → (Nat → Prop) → (Nat → Prop) → List Tr → World → Prop} {D : Nat} (hI : ∀ c, Abide D (Ix c)) (rec : Option Code → Loop) : Abide (D + 1 + 1) (JRx Ix D rec) := by
  rintro Sp Sc pre W Sp' W' ⟨c, h⟩ hm hb
  exact ⟨c, JR.abide (hI c) _ _ _ _ _ _ _ h hm hb⟩
theorem wpIn_range_all {p : Pol} {n : Int} {vf : Value} {Bn Bp : Nat} {lev : Nat} {g : Operand} {ps : Array Tmp} {assign body : Code} {Q : Exit → Act → World → Prop} {a : Act} {w : World} (h1 : 1 ≤ lev) (hg : a.eval g = .func (.func 63) #[] #[.pointer (some ⟨Bn, 0, none⟩), .pointer (some ⟨Bp, 0, none⟩)]) (hps : ps.size = 1)
    (I : (Nat → Prop) → (Nat → Prop) → List Tr → World → Prop) (Ix : Code → (Nat → Prop) → (Nat → Prop) → List Tr → World → Prop) (hI : Abide w.heap.size I) (hIx : ∀ c, Abide w.heap.size (Ix c)) (Sc : Nat → Prop) (hlc : ∀ g, Sc g → g < w.heap.size) (h0 : I (fun _ => False) Sc [] w)
    (hn : Boxed w Bn 3 (.int .i64 n)) (hp : w.heap[Bp]? = some (.cells #[.int .i64 p.D, vf, .int .i64 p.P] 24 (0, 0))) (hnc : ¬ Sc Bn ∧ ¬ Sc Bp) (hfl : FlS Sc w vf p.fl) (aR : Addr) (hR : errAt w 0 aR)
    (Ax : Value → Nat → Act → World → Prop) (hAx : ∀ v Bx a' W l o, Ax v Bx a' W → Bx ≠ l → Ax v Bx a' (W.putObj l o))
    (hassign : ∀ (l lev' : Nat) (k n0 : Int) (o : Option Addr) (m c : Nat) (W : World) (K : Act → World → Prop), (∀ a' W' Bx, Kp W W' → W.heap.size ≤ Bx → Ax (.agg #[.int .i64 k, .int .i64 n0, .slice o m c]) Bx a' W' → K a' W') →
      assign.wpIn (Fence.wide.inRound l) lev' Tryd.prog (Exit.then K (fun _ _ _ => False)) { tmps := (ps.zip #[.agg #[.int .i64 k, .int .i64 n0, .slice o m c]]).foldl (fun t (p, v) => t.setIfInBounds p v) a.tmps, defers := [] } W)
    (hbody : ∀ (l lev' : Nat) (Sp Sc' : Nat → Prop) (pre : List Tr) (T : Tr) (k n0 : Int) (o : Option Addr) (m c Bx : Nat) (a' : Act) (W : World), pre.length < 4096 → (∀ g, Sp g → g < W.heap.size) → (∀ g, Sc' g → g < W.heap.size) → w.heap.size ≤ Bx → ¬ Sc' Bx → I Sp Sc' pre W → OX (fun g => ¬ Sp g ∧ ¬ Sc' g) W T (.agg #[.int .i64 k, .int .i64 n0, .slice o m c]) → Ax (.agg #[.int .i64 k, .int .i64 n0, .slice o m c]) Bx a' W →
      body.wpIn (Fence.wide.inRound l) lev' Tryd.prog (bodyEnd w.heap.size I Ix Sp Sc' (pre ++ [T]) W) a' W)
    (hdone : ∀ (D : Nat) (Sp Sc' : Nat → Prop) (W : World), w.heap.size ≤ D → KX Sc w Sc' W → (∀ g, Sc' g → g < W.heap.size) → I Sp Sc' (ordsAll p n) W → W.heap[D]? = some (.deferred (some [])) → ¬ Sc' D → Q .normal { a with defers := { target := .collected D, args := #[] } :: a.defers } W)
    (hstop : ∀ (D : Nat) (c : Code) (Sp Sc' : Nat → Prop) (q : List Tr) (W : World), w.heap.size ≤ D → KX Sc w Sc' W → (∀ g, Sc' g → g < W.heap.size) → q <+: ordsAll p n → Ix c Sp Sc' q W → W.heap[D]? = some (.deferred (some [])) → ¬ Sc' D → c.wpIn Fence.wide lev Tryd.prog Q { a with defers := { target := .collected D, args := #[] } :: a.defers } W) :
    (Code.rangeFunc g ps assign body).wpIn Fence.wide lev Tryd.prog Q a w := by
  refine wpIn_rangeFunc ?_
  intro fn hfn
  obtain ⟨rec, hrec⟩ : ∃ rec : LoopState → Option Code → Loop, rec = fun st pe => { state := st, pending := pe, fn, tmps := a.tmps, params := ps, assign, body, defers := w.heap.size } := ⟨_, rfl⟩
  obtain ⟨W1, hW1⟩ : ∃ W1, (w.alloc (.deferred (some []))).alloc (.loop (rec .ready none)) = W1 := ⟨_, rfl⟩
  have hk1 : Kp w W1 := by rw [← hW1]; exact ((Kp.refl w).alloc _).alloc _
  have hsz : W1.heap.size = w.heap.size + 1 + 1 := by rw [← hW1]; simp
  have hL1 : W1.heap[w.heap.size + 1]? = some (.loop (rec .ready none)) := by rw [← hW1]; exact heap_alloc2_new w _ _
  have hD1 : W1.heap[w.heap.size]? = some (.deferred (some [])) := by rw [← hW1]; exact heap_alloc2_old w _ _
  refine ⟨w.heap.size + 1, [{ target := .collected w.heap.size, args := #[] }], W1, { target := .fn (.func 63) #[.pointer (some ⟨Bn, 0, none⟩), .pointer (some ⟨Bp, 0, none⟩)], args := #[.func (.yield (w.heap.size + 1)) #[] #[]] }, W1, 63,
    #[.func (.yield (w.heap.size + 1)) #[] #[]] ++ #[.pointer (some ⟨Bn, 0, none⟩), .pointer (some ⟨Bp, 0, none⟩)], W1, ?_, ?_, ?_, ?_, fun _ => h1, ?_⟩
  · rw [← hW1, hrec]; exact run_enterLoop_outer _ _ _ _ _
  · simp only [resolve, hg]
    simp [go_sem]
  · intro f' hf'; trivial
  · simp [invoke, go_sem, enters_of Tryd.func63 (by kernel_rfl) rfl]
  · have hl2 : ∀ g, (Sc g ∨ g = w.heap.size ∨ g = w.heap.size + 1) → g < W1.heap.size := fun g hg => by
      rcases hg with h | h | h
      · have := hlc g h; omega
      · omega
      · omega
    have hns : ∀ g, w.heap.size ≤ g → ¬ Sc g := fun g hg h => by have := hlc g h; omega
    have hBnl := Boxed.lt hn
    have hBpl := (Array.getElem?_eq_some_iff.1 hp).1
    have hY : YTakes (ords p n.toNat) (w.heap.size + 1 + 1) (w.heap.size + 1) (JR I w.heap.size (rec .ready none)) (JRx Ix w.heap.size (rec .done)) := by
      rintro lev' Sp Sc2 pre T k n0 o m c W hT hlen hbp hb ⟨Sc0, rfl, hi, hl, hd, hsp, hsc⟩ hOX
      have hy := run_yield (P := Tryd.prog) (args := #[.agg #[.int .i64 k, .int .i64 n0, .slice o m c]]) hl (by rw [hrec]; simp [hps])
      rw [hrec] at hy
      refine ⟨fn, _, assign, body, hy, roundIn_of_wpIn hfn (hassign _ _ k n0 o m c W _ ?_)⟩
      intro a' Wa Bx hka hBx hax
      have hla := (hka.block _ (Array.getElem?_eq_some_iff.1 hl).1).trans hl
      have hda := (hka.block _ (Array.getElem?_eq_some_iff.1 hd).1).trans hd
      have hsW := (Array.getElem?_eq_some_iff.1 hl).1
      refine ⟨_, run_beginRound hla (by rw [hrec]), ?_⟩
      have hlt : w.heap.size + 1 < Wa.heap.size := (Array.getElem?_eq_some_iff.1 hla).1
      have hl2' : (Wa.putObj (w.heap.size + 1) (.loop { rec .ready none with state := .busy })).heap[w.heap.size + 1]? = some (.loop { rec .ready none with state := .busy }) := World.putObj_heap_same hlt
      have hd2 : (Wa.putObj (w.heap.size + 1) (.loop { rec .ready none with state := .busy })).heap[w.heap.size]? = some (.deferred (some [])) := (World.putObj_heap_other (by omega)).trans hda
      have hkb := kb_putObj' Wa (w.heap.size + 1) (.loop { rec .ready none with state := .busy })
      have hbc : ∀ g, Sc0 g → g < W.heap.size := fun g hg => hb g (.inl hg)
      have hi2 : I Sp Sc0 pre (Wa.putObj (w.heap.size + 1) (.loop { rec .ready none with state := .busy })) := hI _ _ _ _ _ _ (hI _ _ _ _ _ _ hi (PM.of hka) hbc) (PM.turn (by omega) hla rfl hkb) (fun g hg => Nat.lt_of_lt_of_le (hbc g hg) hka.size)
      have hox2 : OX (fun g => ¬ Sp g ∧ ¬ Sc0 g) (Wa.putObj (w.heap.size + 1) (.loop { rec .ready none with state := .busy })) T (.agg #[.int .i64 k, .int .i64 n0, .slice o m c]) :=
        (hOX.kp hka).stay hkb.size (fun g hg hq => hkb.block g hg fun e => hq.2 (by rw [e]; exact .inr (.inr rfl))) fun g hg hq => ⟨hq.1, fun e => hq.2 (.inl e)⟩
      refine wpIn_mono (hbody _ _ Sp Sc0 pre T k n0 o m c Bx a' _ hlen (fun g hg => Nat.lt_of_lt_of_le (hbp g hg) (Nat.le_trans hka.size hkb.size)) (fun g hg => Nat.lt_of_lt_of_le (hbc g hg) (Nat.le_trans hka.size hkb.size)) (by omega) (fun e => by have := hbc _ e; omega) hi2 hox2 (hAx _ _ _ _ _ _ hax (by omega))) ?_
      have fin : ∀ (jump : Option Code) (Sc' : Nat → Prop) (W3 : World), CM w.heap.size Sc0 (Wa.putObj (w.heap.size + 1) (.loop { rec .ready none with state := .busy })) Sc' W3 →
          (Instr.endRound (w.heap.size + 1) jump).run Tryd.prog W3 = .ok (.bool jump.isNone) (W3.putObj (w.heap.size + 1) (.loop (rec (if jump.isNone then .ready else .done) jump))) ∧
          (∀ X : (Nat → Prop) → (Nat → Prop) → List Tr → World → Prop, Abide w.heap.size X → X Sp Sc' (pre ++ [T]) W3 → JR X w.heap.size (rec (if jump.isNone then .ready else .done) jump) Sp (fun g => Sc' g ∨ g = w.heap.size ∨ g = w.heap.size + 1) (pre ++ [T]) (W3.putObj (w.heap.size + 1) (.loop (rec (if jump.isNone then .ready else .done) jump)))) ∧
          CM (w.heap.size + 1 + 1) (fun g => Sc0 g ∨ g = w.heap.size ∨ g = w.heap.size + 1) W (fun g => Sc' g ∨ g = w.heap.size ∨ g = w.heap.size + 1) (W3.putObj (w.heap.size + 1) (.loop (rec (if jump.isNone then .ready else .done) jump))) := fun jump Sc' W3 hcm => by
        have hl3 := hcm.nc _ _ (by omega) hl2' rfl
        have hd3 := hcm.nc _ _ (Nat.le_refl _) hd2 rfl
        have hr := run_endRound (P := Tryd.prog) jump hl3
        have hkb3 := kb_putObj' W3 (w.heap.size + 1) (.loop (rec (if jump.isNone then .ready else .done) jump))
        have hW3 := hcm.kx.size
        have hs2 : w.heap.size + 1 < (Wa.putObj (w.heap.size + 1) (.loop { rec .ready none with state := .busy })).heap.size := Nat.lt_of_lt_of_le hlt hkb.size
        have hlc3 := hcm.lt (fun g hg => Nat.lt_of_lt_of_le (hbc g hg) (Nat.le_trans hka.size hkb.size))
        refine ⟨by first | (rw [hrec] at hr ⊢; exact hr) | (rw [hrec] at hr; exact hr), fun X hX hx => ⟨Sc', rfl, hX _ _ _ _ _ _ hx (PM.turn (by omega) hl3 rfl hkb3) hlc3, World.putObj_heap_same (Array.getElem?_eq_some_iff.1 hl3).1, (World.putObj_heap_other (by omega)).trans hd3, hsp, ⟨hcm.kx.outS (by omega) hsc.1, hcm.kx.outS hs2 hsc.2⟩⟩, ?_⟩
        refine ⟨⟨hkb3.os.trans (hcm.kx.os.trans (hkb.os.trans hka.os)), hkb3.tape.trans (hcm.kx.tape.trans (hkb.tape.trans hka.tape)), hkb3.output.trans (hcm.kx.output.trans (hkb.output.trans hka.output)), Nat.le_trans hka.size (Nat.le_trans hkb.size (Nat.le_trans hW3 hkb3.size)), fun j hj hS => ?_, fun j hj => ?_⟩, fun g o hg ho hc => ?_, fun _ g hg => ?_⟩
        · have e1 : j ≠ w.heap.size + 1 := fun e => hS (.inr (.inr e))
          have l1 := Nat.lt_of_lt_of_le hj hka.size
          have l2 := Nat.lt_of_lt_of_le l1 hkb.size
          rw [hkb3.block j (Nat.lt_of_lt_of_le l2 hW3) e1, hcm.kx.block j l2 (fun e => hS (.inl e)), hkb.block j l1 e1, hka.block j hj]
        · rcases hj with hj | hj
          · rcases hcm.kx.grow j hj with h | h
            · exact .inl (.inl h)
            · exact .inr (Nat.le_trans hka.size (Nat.le_trans hkb.size h))
          · exact .inl (.inr hj)
        · have e1 : g ≠ w.heap.size + 1 := by omega
          have hj := (Array.getElem?_eq_some_iff.1 ho).1
          have l1 := Nat.lt_of_lt_of_le hj hka.size
          have l2 := Nat.lt_of_lt_of_le l1 hkb.size
          have q : (Wa.putObj (w.heap.size + 1) (.loop { rec .ready none with state := .busy })).heap[g]? = some o := by rw [hkb.block g l1 e1, hka.block g hj]; exact ho
          have q2 := hcm.nc g o (by omega) q hc
          rw [hkb3.block g (Array.getElem?_eq_some_iff.1 q2).1 e1]
          exact q2
        · rcases hg with hg | hg | hg
          · exact Nat.lt_of_lt_of_le (hlc3 g hg) hkb3.size
          · have := hkb3.size; omega
          · have := hkb3.size; omega
      rintro e a3 W3 hp
      cases e with
      | normal =>
        obtain ⟨Sc', hcm, hi3⟩ := hp
        obtain ⟨hr, hj, hc⟩ := fin none Sc' W3 hcm
        exact ⟨_, _, hr, true, _, rfl, Lib.hid ⟨hc, fun _ => hj I hI hi3, fun e => (by cases e)⟩⟩
      | ret =>
        obtain ⟨Sc', hcm, hi3⟩ := hp
        obtain ⟨hr, hj, hc⟩ := fin (some .ret) Sc' W3 hcm
        exact ⟨_, _, hr, false, _, rfl, Lib.hid ⟨hc, fun e => (by cases e), fun _ => ⟨.ret, hj _ (hIx _) hi3⟩⟩⟩
      | exit id =>
        obtain ⟨Sc', hcm, hi3⟩ := hp
        obtain ⟨hr, hj, hc⟩ := fin (some (.exit id)) Sc' W3 hcm
        exact ⟨_, _, hr, false, _, rfl, Lib.hid ⟨hc, fun e => (by cases e), fun _ => ⟨.exit id, hj _ (hIx _) hi3⟩⟩⟩
      | goto t => exact hp.elim
      | panic ch => exact hp.elim
      | outgrown => exact hp.elim
    have hJ0 : JR I w.heap.size (rec .ready none) (fun _ => False) (fun g => Sc g ∨ g = w.heap.size ∨ g = w.heap.size + 1) [] W1 := ⟨Sc, rfl, hI _ _ _ _ _ _ h0 (PM.of hk1) hlc, hL1, hD1, ⟨fun h => h, fun h => h⟩, ⟨hns _ (Nat.le_refl _), hns _ (by omega)⟩⟩
    refine CallsIn.mono (callsIn_wide.2 (all1_any p n vf (w.heap.size + 1) Bn Bp (w.heap.size + 1 + 1) _ _ (JR.abide hI _) (JRx.abide hIx _) hY W1 (fun g => Sc g ∨ g = w.heap.size ∨ g = w.heap.size + 1) (by omega) ((hk1.block _ hBnl).trans hn) ((hk1.block _ hBpl).trans hp) ⟨fun e => e.elim hnc.1 (fun e => by omega), fun e => e.elim hnc.2 (fun e => by omega)⟩
      (hfl.stay hk1.size (fun g j v hc _ => hk1.later hc) (fun g hg hn e => e.elim hn (fun e => by omega))) hl2 hJ0 aR (hk1.later hR))) ?_
    rintro e W2 ⟨⟨v, rfl⟩, Sp', Sc', hkx, hl3, hend⟩
    have hup : ∀ (Sc0 : Nat → Prop) (r : Loop), (Sc' = fun g => Sc0 g ∨ g = w.heap.size ∨ g = w.heap.size + 1) → KX Sc w Sc0 (W2.putObj (w.heap.size + 1) (.loop r)) := fun Sc0 r e => by
      have hkb := kb_putObj' W2 (w.heap.size + 1) (.loop r)
      refine ⟨hkb.os.trans (hkx.os.trans hk1.os), hkb.tape.trans (hkx.tape.trans hk1.tape), hkb.output.trans (hkx.output.trans hk1.output), Nat.le_trans hk1.size (Nat.le_trans hkx.size hkb.size), fun j hj hS => ?_, fun j hj => ?_⟩
      · have l1 := Nat.lt_of_lt_of_le hj hk1.size
        rw [hkb.block j (Nat.lt_of_lt_of_le l1 hkx.size) (by omega), hkx.block j l1 (fun e => e.elim hS (fun e => by omega)), hk1.block j hj]
      · rcases hkx.grow j (by rw [e]; exact .inl hj) with (h | h) | h
        · exact .inl h
        · exact .inr (by omega)
        · exact .inr (by omega)
    have hlt4 : ∀ (Sc0 : Nat → Prop) (r : Loop), (Sc' = fun g => Sc0 g ∨ g = w.heap.size ∨ g = w.heap.size + 1) → ∀ g, Sc0 g → g < (W2.putObj (w.heap.size + 1) (.loop r)).heap.size := fun Sc0 r e g hg => Nat.lt_of_lt_of_le (hl3 g (by rw [e]; exact .inl hg)) (kb_putObj' W2 (w.heap.size + 1) (.loop r)).size
    have hlt3 : ∀ (Sc0 : Nat → Prop), (Sc' = fun g => Sc0 g ∨ g = w.heap.size ∨ g = w.heap.size + 1) → ∀ g, Sc0 g → g < W2.heap.size := fun Sc0 e g hg => hl3 g (by rw [e]; exact .inl hg)
    rcases hend with ⟨Sc0, e, hi, hl, hd, hsp, hsc⟩ | ⟨q, hq, c, Sc0, e, hi, hl, hd, hsp, hsc⟩
    · have hr := run_endLoop (P := Tryd.prog) hl (by rw [hrec]; simp)
      refine ⟨none, _, by first | (rw [hrec] at hr ⊢; exact hr) | (rw [hrec] at hr; exact hr), hdone w.heap.size Sp' Sc0 _ (Nat.le_refl _) (hup Sc0 _ e) (hlt4 Sc0 _ e) (hI _ _ _ _ _ _ hi (PM.turn (by omega) hl rfl (kb_putObj' _ _ _)) (hlt3 Sc0 e)) ((World.putObj_heap_other (by omega)).trans hd) hsc.1⟩
    · have hr := run_endLoop (P := Tryd.prog) hl (by rw [hrec]; simp)
      refine ⟨some c, _, by first | (rw [hrec] at hr ⊢; exact hr) | (rw [hrec] at hr; exact hr), hstop w.heap.size c Sp' Sc0 q _ (Nat.le_refl _) (hup Sc0 _ e) (hlt4 Sc0 _ e) hq (hIx c _ _ _ _ _ _ hi (PM.turn (by omega) hl rfl (kb_putObj' _ _ _)) (hlt3 Sc0 e)) ((World.putObj_heap_other (by omega)).trans hd) hsc.1⟩
end Go.Proofs.YtgjlldapnodfbaaDoor
/-
  gone: the list that a range over All's orders gathers.
-/
namespace Go.Proofs.YtgjlldapnodfbaaDoor
open Go Go.RowKit Go.Fl Go.Ord Go.Pr Go.Shelf

/-- Between two rounds: the list in its box; Fx: boxes that none but the caller may turn. -/
def GS (B9 : Nat) (Fx : List (Nat × TypeId × Value)) (Sp Sc : Nat → Prop) (pre : List Tr) (W : World) : Prop :=
  ∃ o c es, Boxed W B9 26 (.slice o pre.length c) ∧ W.ownsRow 0 28 3 (.slice o pre.length c) pre.length es ∧
    (∀ g, (Value.slice o pre.length c).ownBlock = some g → Sc g ∧ ¬ Sp g ∧ g ≠ B9) ∧ TC (fun g => ¬ Sp g ∧ ¬ Sc g) W pre es ∧ (Sc B9 ∧ ¬ Sp B9) ∧
    (∀ b t v, (b, t, v) ∈ Fx → Boxed W b t v ∧ Sc b ∧ ¬ Sp b ∧ b ≠ B9 ∧ (Value.slice o pre.length c).ownBlock ≠ some b)
theorem GS.abide (B9 : Nat) (Fx : List (Nat × TypeId × Value)) (b : Nat) : Abide b (GS B9 Fx) := by
  rintro Sp Sc pre W Sp' W' ⟨o, c, es, h1, h3, h4, h5, h6, h7⟩ hm hb
  refine ⟨o, c, es, hm.cells h1 h6.2, ?_, fun g hg => ⟨(h4 g hg).1, hm.out (h3.lt g hg).2 (h4 g hg).2.1, (h4 g hg).2.2⟩, ?_, ⟨h6.1, hm.out (Boxed.lt h1) h6.2⟩, fun b t v hx => ?_⟩
  · obtain ⟨e1, e2⟩ := h3
    refine ⟨e1, e2.imp id ?_⟩
    rintro ⟨g, cap, cur, hv, hg, hh, r⟩
    exact ⟨g, cap, cur, hv, hg, hm.cells hh (h4 g (by rw [hv]; rfl)).2.1, r⟩
  · exact ⟨h5.1, fun i hi => by
      obtain ⟨k, n, oo, m, cc, q1, q2, q3, q4⟩ := h5.2 i hi
      exact ⟨k, n, oo, m, cc, q1, q2, q3, OX.pm hm (fun g _ hg => hg.1) (fun g hlt hg => ⟨hm.out hlt hg.1, hg.2⟩) q4⟩⟩
  · obtain ⟨f1, f2, f3, f4, f5⟩ := h7 b t v hx
    exact ⟨hm.cells f1 f3, f2, hm.out (Boxed.lt f1) f3, f4, f5⟩
/-- The list in hand: what a round finds. -/
theorem GS.push {B9 : Nat} {Fx : List (Nat × TypeId × Value)} {Sp Sc : Nat → Prop} {pre : List Tr} {W Wd w2 : World} {T : Tr} {k n : Int} {oo : Option Addr} {m cc : Nat} {o : Option Addr} {c : Nat} {es : List Value} {g2 cap2 b : Nat}
    (h1 : Boxed W B9 26 (.slice o pre.length c)) (h3 : W.ownsRow 0 28 3 (.slice o pre.length c) pre.length es)
    (h4 : ∀ g, (Value.slice o pre.length c).ownBlock = some g → Sc g ∧ ¬ Sp g ∧ g ≠ B9) (h5 : TC (fun g => ¬ Sp g ∧ ¬ Sc g) W pre es) (h6 : Sc B9 ∧ ¬ Sp B9) (h7 : ∀ b t v, (b, t, v) ∈ Fx → Boxed W b t v ∧ Sc b ∧ ¬ Sp b ∧ b ≠ B9 ∧ (Value.slice o pre.length c).ownBlock ≠ some b)
    (hp : ∀ g, Sp g → g < W.heap.size) (hc : ∀ g, Sc g → g < W.heap.size) (hT : OX (fun g => ¬ Sp g ∧ ¬ Sc g) W T (.agg #[.int .i64 k, .int .i64 n, .slice oo m cc])) (hk : Kp W Wd)
    (hown : w2.ownsRow 0 28 3 (.slice (some ⟨g2, 0, none⟩) (pre.length + 1) cap2) (pre.length + 1) (es ++ [.int .i64 0, .int .i64 0, .slice none 0 0])) (hg : Wd.grownBy w2 (Value.slice o pre.length c).ownBlock) (hat : (Value.slice o pre.length c).ownBlock = some g2 ∨ g2 = Wd.heap.size) (hlt : g2 < w2.heap.size) :
    ∃ Sc', CM b Sc W Sc' ((((w2.setCell ⟨g2, pre.length * 3, none⟩ (.int .i64 k)).setCell ⟨g2, pre.length * 3 + 1, none⟩ (.int .i64 n)).setCell ⟨g2, pre.length * 3 + 2, none⟩ (.slice oo m cc)).setCell ⟨B9, 0, none⟩ (.slice (some ⟨g2, 0, none⟩) (pre.length + 1) cap2)) ∧
      GS B9 Fx Sp Sc' (pre ++ [T]) ((((w2.setCell ⟨g2, pre.length * 3, none⟩ (.int .i64 k)).setCell ⟨g2, pre.length * 3 + 1, none⟩ (.int .i64 n)).setCell ⟨g2, pre.length * 3 + 2, none⟩ (.slice oo m cc)).setCell ⟨B9, 0, none⟩ (.slice (some ⟨g2, 0, none⟩) (pre.length + 1) cap2)) := by
  have l9 := Boxed.lt h1
  have hs1 := hk.size
  have hs2 := hg.size
  have ne9 : B9 ≠ g2 := fun e => hat.elim (fun h => (h4 _ h).2.2 e.symm) (fun h => by omega)
  have nsp : ¬ Sp g2 := hat.elim (fun h => (h4 _ h).2.1) (fun h e => by have := hp _ e; omega)
  have key : ∀ g, g < W.heap.size → (Value.slice o pre.length c).ownBlock ≠ some g → w2.heap[g]? = W.heap[g]? := fun g hg' hn => (hg.block g (Nat.lt_of_lt_of_le hg' hs1) (Ne.symm hn)).trans (hk.block g hg')
  have hel : es.length = pre.length * 3 := h3.1
  have hr3 := owns_last (x := .int .i64 k) (y := .int .i64 n) (z := .slice oo m cc) hown hel
  have hb3 := kb_set3at w2 g2 (pre.length * 3) (pre.length * 3 + 1) (pre.length * 3 + 2) (.int .i64 k) (.int .i64 n) (.slice oo m cc)
  obtain ⟨W3, hW3⟩ : ∃ W3, ((w2.setCell ⟨g2, pre.length * 3, none⟩ (.int .i64 k)).setCell ⟨g2, pre.length * 3 + 1, none⟩ (.int .i64 n)).setCell ⟨g2, pre.length * 3 + 2, none⟩ (.slice oo m cc) = W3 := ⟨_, rfl⟩
  rw [hW3] at hr3 hb3 ⊢
  clear hW3
  have hb4 := kb_setCell W3 B9 0 (.slice (some ⟨g2, 0, none⟩) (pre.length + 1) cap2)
  have hs3 := hb3.size
  have hs4 := hb4.size
  have h19 : Boxed W3 B9 26 (.slice o pre.length c) := (hb3.block B9 (by omega) ne9).trans ((key B9 l9 (fun e => (h4 _ e).2.2 rfl)).trans h1)
  have hset := h19.set (.slice (some ⟨g2, 0, none⟩) (pre.length + 1) cap2)
  obtain ⟨W4, hW4⟩ : ∃ W4, W3.setCell ⟨B9, 0, none⟩ (.slice (some ⟨g2, 0, none⟩) (pre.length + 1) cap2) = W4 := ⟨_, rfl⟩
  rw [hW4] at hb4 hs4 hset ⊢
  clear hW4
  have tot : ∀ g, g < W.heap.size → (Value.slice o pre.length c).ownBlock ≠ some g → g ≠ g2 → g ≠ B9 → W4.heap[g]? = W.heap[g]? := fun g hg' hn h1 h2 => (hb4.block g (by omega) h2).trans ((hb3.block g (by omega) h1).trans (key g hg' hn))
  have hkx : KX Sc W (fun g => Sc g ∨ g = g2) W4 := by
    refine ⟨hb4.os.trans (hb3.os.trans (hg.os.trans hk.os)), hb4.tape.trans (hb3.tape.trans (hg.tape.trans hk.tape)), hb4.output.trans (hb3.output.trans (hg.output.trans hk.output)), by omega, fun g hg' hS => ?_, fun g hg' => ?_⟩
    · refine tot g hg' (fun e => hS (h4 _ e).1) (fun e => ?_) (fun e => hS (e ▸ h6.1))
      subst e
      exact hat.elim (fun h => hS (h4 _ h).1) (fun h => by omega)
    · rcases hg' with hg' | rfl
      · exact .inl hg'
      · exact hat.elim (fun h => .inl (h4 _ h).1) (fun h => .inr (by omega))
  refine ⟨fun g => Sc g ∨ g = g2, ⟨hkx, fun g ob hbg ho hco => ?_, fun hl g hg' => ?_⟩, some ⟨g2, 0, none⟩, cap2, es ++ [.int .i64 k, .int .i64 n, .slice oo m cc], ?_, ?_, ?_, ?_, ⟨.inl h6.1, h6.2⟩, fun b t v hx => ?_⟩
  · have hgl := (Array.getElem?_eq_some_iff.1 ho).1
    refine (tot g hgl (fun e => ?_) (fun e => ?_) (fun e => ?_)).trans ho
    · rcases h3.2 with ⟨e1, _⟩ | ⟨g', cap, cur, hv, _, hh, _⟩
      · rw [e1] at e; cases e
      · rw [hv] at e; cases e; rw [hh] at ho; cases ho; cases hco
    · subst e
      rcases hat with h | h
      · rcases h3.2 with ⟨e1, _⟩ | ⟨g', cap, cur, hv, _, hh, _⟩
        · rw [e1] at h; cases h
        · rw [hv] at h; cases h; rw [hh] at ho; cases ho; cases hco
      · omega
    · subst e; rw [h1] at ho; cases ho; cases hco
  · rcases hg' with hg' | rfl
    · have := hc g hg'; omega
    · omega
  · rw [List.length_append]; exact hset
  · rw [List.length_append]
    exact owns_block hr3 fun g hg' => hb4.block g (by have := (hr3.lt g hg').2; omega) (fun e => ne9 (by rw [← e]; cases hg'; rfl))
  · rintro g hg'
    cases hg'
    exact ⟨.inr rfl, nsp, Ne.symm ne9⟩
  · refine (h5.append (TC.one hT)).stay hkx.size (fun g hlt' hR => ?_) (fun g hlt' hR => ⟨hR.1, fun e => e.elim hR.2 (fun e => ?_)⟩)
    · exact hkx.block g hlt' hR.2
    · subst e
      exact hat.elim (fun h => hR.2 (h4 _ h).1) (fun h => by omega)
  · obtain ⟨f1, f2, f3, f4, f5⟩ := h7 b t v hx
    have hbl := Boxed.lt f1
    have nb : b ≠ g2 := fun e => hat.elim (fun h => f5 (h.trans (by rw [e]))) (fun h => by omega)
    exact ⟨(tot b hbl f5 nb f4).trans f1, .inl f2, f3, f4, fun e => nb (by cases e; rfl)⟩
theorem OL.kb {Q : Nat → Prop} {w w' : World} {b : Nat} {v : Value} {l : List Tr} (h : OL Q w v l) (hb : ∀ j, w.cell? ⟨b, j, none⟩ = none) (hk : Kb b w w') : OL Q w' v l := by
  obtain ⟨o, c, h1, h2⟩ := h
  refine ⟨o, c, h1, fun hl => ?_⟩
  obtain ⟨g, e, hg, hc⟩ := h2 hl
  have hn : g ≠ b := fun e => by
    obtain ⟨k, n, oo, m, cc, q1, _⟩ := hc 0 hl
    rw [e, hb] at q1
    cases q1
  have hbl := hk.block g hg.1 hn
  refine ⟨g, e, ⟨Nat.lt_of_lt_of_le hg.1 hk.size, hg.2⟩, fun i hi => ?_⟩
  obtain ⟨k, n, oo, m, cc, q1, q2, q3, q4⟩ := hc i hi
  exact ⟨k, n, oo, m, cc, (World.cell?_of_block hbl).trans q1, (World.cell?_of_block hbl).trans q2, (World.cell?_of_block hbl).trans q3, q4.kb hb hk⟩
/-- The list, handed back: two boxes are written, a mark is taken. -/
theorem GS.hand {B9 B6 B7 D : Nat} {t6 t7 : TypeId} {v6 v7 : Value} {Fx : List (Nat × TypeId × Value)} {Sp Sc : Nat → Prop} {q : List Tr} {W : World} {o : Option Addr} {c : Nat} {es : List Value}
    (h3 : W.ownsRow 0 28 3 (.slice o q.length c) q.length es) (h4 : ∀ g, (Value.slice o q.length c).ownBlock = some g → Sc g ∧ ¬ Sp g ∧ g ≠ B9) (h5 : TC (fun g => ¬ Sp g ∧ ¬ Sc g) W q es)
    (h7 : ∀ b t v, (b, t, v) ∈ Fx → Boxed W b t v ∧ Sc b ∧ ¬ Sp b ∧ b ≠ B9 ∧ (Value.slice o q.length c).ownBlock ≠ some b) (h6 : (B6, t6, v6) ∈ Fx) (h7' : (B7, t7, v7) ∈ Fx) (hD : W.heap[D]? = some (.deferred (some []))) (x y : Value) :
    OL (fun _ => True) (((W.setCell ⟨B6, 0, none⟩ x).setCell ⟨B7, 0, none⟩ y).putObj D (.deferred none)) (.slice o q.length c) q := by
  obtain ⟨f1, f2, f3, f4, f5⟩ := h7 _ _ _ h6
  obtain ⟨g1, g2, g3, g4, g5⟩ := h7 _ _ _ h7'
  have hD6 : D ≠ B6 := fun e => by rw [e] at hD; cases hD.symm.trans f1
  have hD7 : D ≠ B7 := fun e => by rw [e] at hD; cases hD.symm.trans g1
  have hb : ∀ g, g ≠ B6 → g ≠ B7 → ((W.setCell ⟨B6, 0, none⟩ x).setCell ⟨B7, 0, none⟩ y).heap[g]? = W.heap[g]? := fun g e1 e2 => by rw [heap_set_other _ _ _ _ e2, heap_set_other _ _ _ _ e1]
  have hs : W.heap.size ≤ ((W.setCell ⟨B6, 0, none⟩ x).setCell ⟨B7, 0, none⟩ y).heap.size := by simp
  have hD2 : ((W.setCell ⟨B6, 0, none⟩ x).setCell ⟨B7, 0, none⟩ y).heap[D]? = some (.deferred (some [])) := (hb D hD6 hD7).trans hD
  refine OL.kb (b := D) ?_ (no_cells hD2 rfl) (kb_putObj' _ _ _)
  have hOW : OW 0 (fun _ => True) ((W.setCell ⟨B6, 0, none⟩ x).setCell ⟨B7, 0, none⟩ y) (.slice o q.length c) q :=
    ⟨es, owns_block h3 fun g hg => hb g (fun e => f5 (by rw [hg, e])) (fun e => g5 (by rw [hg, e])), fun _ _ => trivial, h5.stay hs (fun g _ hR => hb g (fun e => hR.2 (e ▸ f2)) (fun e => hR.2 (e ▸ g2))) fun g _ hR => ⟨trivial, fun e => hR.2 (h4 _ e).1⟩⟩
  have h := hOW.hand q.length c (Nat.le_refl _)
  rw [List.take_length] at h
  exact h
end Go.Proofs.YtgjlldapnodfbaaDoor
/-
  The walk of timbrelaw14.gone: what a range over All gathers, up to a number.
-/
namespace Go.Ord
/-- Its first 'top', if there is such a number. -/
def cutAt {α : Type} (top : Int) (L : List α) : List α := if 1 ≤ top then L.take top.toNat else L
theorem cutAt_all {α : Type} {top : Int} {L : List α} (h : ¬ (1 ≤ top ∧ top ≤ (L.length : Int))) : cutAt top L = L := by
  unfold cutAt
  split
  · exact List.take_of_length_le (by omega)
  · rfl
theorem cutAt_pre {α : Type} {top : Int} {L q : List α} (h : q <+: L) (h1 : 1 ≤ top) (hq : (q.length : Int) = top) : cutAt top L = q := by
  unfold cutAt
  rw [if_pos h1, show top.toNat = q.length by omega]
  obtain ⟨t, rfl⟩ := h
  simp
end Go.Ord
namespace Go.Proofs.YtgjlldapnodfbaaDoor
open Go Go.RowKit Go.Fl Go.Ord Go.Pr Go.Shelf
attribute [local go_sem] Oper.semAt_some

theorem eqlIn_func' {P : Program} (d : Nat) (t : TypeId) (ps rs : Array TypeId) (v : Bool) (f : Fn) (a b : Array Value) (w : World) (h : P.underlying t = some (.func ps rs v)) : (Op.equalIn (d + 1) t (.func f a b) .nilFunc).run P w = .ok false w := by
  simp [Op.equalIn, run_underlying h]
theorem eql_func' (f : Fn) (a b : Array Value) (w : World) : (binOp BinOp.eql 59 (.func f a b) .nilFunc).run Tryd.prog w = .ok (.bool false) w := by
  simp only [binOp]
  simp [Op.equal, Op.maxDepth, eqlIn_func' 9999 59 _ _ _ f a b w Tryd.underlying59]
attribute [local go_sem] eql_func'
/-- Between two rounds; and where it has stopped. -/
def GI (B9 : Nat) (Fx : List (Nat × TypeId × Value)) (top : Int) (Sp Sc : Nat → Prop) (pre : List Tr) (W : World) : Prop := GS B9 Fx Sp Sc pre W ∧ ¬ (1 ≤ top ∧ top ≤ (pre.length : Int))
def GX (B9 : Nat) (Fx : List (Nat × TypeId × Value)) (top : Int) (c : Code) (Sp Sc : Nat → Prop) (pre : List Tr) (W : World) : Prop := c = .exit 0 ∧ GS B9 Fx Sp Sc pre W ∧ 1 ≤ top ∧ (pre.length : Int) = top
theorem GI.abide (B9 : Nat) (Fx : List (Nat × TypeId × Value)) (top : Int) (b : Nat) : Abide b (GI B9 Fx top) := fun _ _ _ _ _ _ h hm hb => ⟨GS.abide _ _ _ _ _ _ _ _ _ h.1 hm hb, h.2⟩
theorem GX.abide (B9 : Nat) (Fx : List (Nat × TypeId × Value)) (top : Int) (b : Nat) (c : Code) : Abide b (GX B9 Fx top c) := fun _ _ _ _ _ _ h hm hb => ⟨h.1, GS.abide _ _ _ _ _ _ _ _ _ h.2.1 hm hb, h.2.2⟩
/-- An element of a round, boxed. -/
def GA (F : Nat → Value → Act) (v : Value) (Bx : Nat) (a : Act) (W : World) : Prop := a = F Bx v ∧ ∃ k n o m c, v = .agg #[.int .i64 k, .int .i64 n, .slice o m c] ∧ W.heap[Bx]? = some (.cells #[.int .i64 k, .int .i64 n, .slice o m c] 28 (0, 0))
/-- Its last two stores, and the mark taken. -/
theorem gone_end {w W9 W : World} {B9 B5 B6 B7 D : Nat} {top : Int} {Sp Sc : Nat → Prop} {q : List Tr} {o : Option Addr} {c : Nat} {es : List Value}
    (hB : w.heap.size + 1 = B5 ∧ w.heap.size + 1 + 1 = B6 ∧ w.heap.size + 1 + 1 + 1 = B7 ∧ B7 < B9 ∧ B9 < W9.heap.size) (hkw : Kp w W9) (hkx : KX (fun g => g = B9 ∨ g = B5 ∨ g = B6 ∨ g = B7) W9 Sc W) (hD : W9.heap.size ≤ D) (hDd : W.heap[D]? = some (.deferred (some [])))
    (r3 : W.ownsRow 0 28 3 (.slice o q.length c) q.length es) (r4 : ∀ g, (Value.slice o q.length c).ownBlock = some g → Sc g ∧ ¬ Sp g ∧ g ≠ B9) (r5 : TC (fun g => ¬ Sp g ∧ ¬ Sc g) W q es)
    (r7 : ∀ b t v, (b, t, v) ∈ [(B5, 3, Value.int .i64 top), (B6, 26, Value.slice none 0 0), (B7, 4, Value.bool false)] → Boxed W b t v ∧ Sc b ∧ ¬ Sp b ∧ b ≠ B9 ∧ (Value.slice o q.length c).ownBlock ≠ some b) (u : Value) (hu : u = .slice o q.length c) :
    ((W.cell? ⟨B6, 0, none⟩ = some (.slice none 0 0) ∧ W.frozen? ⟨B6, 0, none⟩ = false) ∧ (W.cell? ⟨B7, 0, none⟩ = some (.bool false) ∧ W.frozen? ⟨B7, 0, none⟩ = false)) ∧
    ((W.setCell ⟨B6, 0, none⟩ u).setCell ⟨B7, 0, none⟩ (.bool true)).heap[D]? = some (.deferred (some [])) ∧ (((W.setCell ⟨B6, 0, none⟩ u).setCell ⟨B7, 0, none⟩ (.bool true)).putObj D (.deferred none)).cell? ⟨B6, 0, none⟩ = some u ∧
      (((W.setCell ⟨B6, 0, none⟩ u).setCell ⟨B7, 0, none⟩ (.bool true)).putObj D (.deferred none)).cell? ⟨B7, 0, none⟩ = some (.bool true) ∧ OL (fun _ => True) (((W.setCell ⟨B6, 0, none⟩ u).setCell ⟨B7, 0, none⟩ (.bool true)).putObj D (.deferred none)) u q ∧ Kp w (((W.setCell ⟨B6, 0, none⟩ u).setCell ⟨B7, 0, none⟩ (.bool true)).putObj D (.deferred none)) := by
  subst hu
  have m6 : (B6, 26, Value.slice none 0 0) ∈ [(B5, 3, Value.int .i64 top), (B6, 26, Value.slice none 0 0), (B7, 4, Value.bool false)] := by simp
  have m7 : (B7, 4, Value.bool false) ∈ [(B5, 3, Value.int .i64 top), (B6, 26, Value.slice none 0 0), (B7, 4, Value.bool false)] := by simp
  have h6 := (r7 _ _ _ m6).1
  have h7 := (r7 _ _ _ m7).1
  have hOL := GS.hand (B9 := B9) r3 r4 r5 r7 m6 m7 hDd (.slice o q.length c) (.bool true)
  have a6 := (h6.set (.slice o q.length c)).other (show B6 ≠ B7 by omega) (.bool true)
  have a7 := (h7.other (show B7 ≠ B6 by omega) (.slice o q.length c)).set (.bool true)
  have hs := hkx.size
  have hs0 := hkw.size
  refine ⟨⟨⟨h6.cell, h6.frozen⟩, ⟨h7.cell, h7.frozen⟩⟩, ?_, (Boxed.kept a6 (grownBy_putObj' _ D _) (by intro e; cases e; omega)).cell, (Boxed.kept a7 (grownBy_putObj' _ D _) (by intro e; cases e; omega)).cell, hOL, ?_⟩
  · rw [heap_set_other _ _ _ _ (show D ≠ B7 by omega), heap_set_other _ _ _ _ (show D ≠ B6 by omega)]
    exact hDd
  · have hb := kb_putObj' ((W.setCell ⟨B6, 0, none⟩ (.slice o q.length c)).setCell ⟨B7, 0, none⟩ (.bool true)) D (.deferred none)
    refine ⟨hb.os.trans (hkx.os.trans hkw.os), hb.tape.trans (hkx.tape.trans hkw.tape), hb.output.trans (hkx.output.trans hkw.output), Nat.le_trans (Nat.le_trans hs0 hs) (Nat.le_trans (by simp) hb.size), fun k hk => ?_⟩
    rw [hb.block k (by simp; omega) (by omega), heap_set_other _ _ _ _ (show k ≠ B7 by omega), heap_set_other _ _ _ _ (show k ≠ B6 by omega), hkx.block k (by omega) (by omega)]
    exact hkw.block k hk
set_option maxRecDepth 100000 in
set_option maxHeartbeats 4000000 in
theorem gone_any (p : Pol) (n top : Int) (vf : Value) (w : World) (aR : Addr) (hl : p.fl.length ≤ 17592186044416) (hv : FlIn w vf p.fl) (hR : errAt w 0 aR) :
    Calls Tryd.prog 24 #[.int .i64 n, .agg #[.int .i64 p.D, vf, .int .i64 p.P], .int .i64 top] w fun e W' => ∃ v, e = .returned (.tuple #[v, .bool true]) ∧ OL (fun _ => True) W' v (cutAt top (ordsAll p n)) ∧ Kp w W' := by
  have HV := Lib.hid hv
  have HR := Lib.hid hR
  have HL := Lib.hid hl
  obtain ⟨of, cf, rfl, _⟩ := hv
  obtain ⟨mf, hmf⟩ : ∃ mf, p.fl.length = mf := ⟨_, rfl⟩
  have HMf := Lib.hid hmf
  obtain ⟨D, hD⟩ : ∃ D, p.D = D := ⟨_, rfl⟩
  obtain ⟨P, hP⟩ : ∃ P, p.P = P := ⟨_, rfl⟩
  have HD := Lib.hid hD
  have HP := Lib.hid hP
  rw [hmf] at HV ⊢
  rw [hD, hP]
  have hk0 := ((((Kp.refl w).alloc (.cells #[.int .i64 D, .slice of mf cf, .int .i64 P] 24)).alloc (.cells #[.int .i64 top] 3)).alloc (.cells #[.slice none 0 0] 26)).alloc (.cells #[.bool false] 4)
  have HAll : Hid (∀ w', Kp w w' → Calls Tryd.prog 40 #[.int .i64 n, .agg #[.int .i64 D, .slice of mf cf, .int .i64 P]] w' fun e w'' => ∃ (Bn Bp : Nat), e = .returned (.func (.func 63) #[] #[.pointer (some ⟨Bn, 0, none⟩), .pointer (some ⟨Bp, 0, none⟩)]) ∧
      Hid (∃ vf', Boxed w'' Bn 3 (.int .i64 n) ∧ w''.heap[Bp]? = some (.cells #[.int .i64 p.D, vf', .int .i64 p.P] 24 (0, 0)) ∧ FlIn w'' vf' p.fl ∧ (∀ o m c g off, vf' = .slice o m c → o = some ⟨g, off, none⟩ → w'.heap.size ≤ g) ∧ w'.heap.size ≤ Bn ∧ w'.heap.size ≤ Bp) ∧ Kp w' w'') := Lib.hid fun w' k => by
    have h := All_any n p (.slice of mf cf) w' HL.out (HV.out.kp k)
    rw [HD.out, HP.out] at h
    refine h.mono ?_
    rintro e w'' ⟨Bn, Bp, vf', rfl, h1, h2⟩
    rw [← HD.out, ← HP.out] at h1
    exact ⟨Bn, Bp, rfl, Lib.hid ⟨vf', h1.out⟩, h2⟩
  clear hmf hD hP hl hR
  refine (callsIn_wide (n := 3)).1 ?_
  refine callsIn_of_wp_marks Tryd.func24 rfl trivial ?_ rfl
  refine wpIn_wide.2 ?_
  simp only [Tryd.ntmps24, List.size_toArray, List.length_cons, List.length_nil, Nat.reduceAdd, Nat.reduceSub, Array.replicate_succ, Array.replicate_zero, List.push_toArray, List.append_toArray, List.nil_append, List.cons_append]
  go_upto_region 4 with (go_at_call 40; (with_reducible refine (HAll.out _ hk0).mono ?_); rintro e w1 ⟨Bn, Bp, rfl, HQ, hk1⟩)
  have hN0 : w.heap.size + 1 + 1 + 1 + 1 ≤ w1.heap.size := by have := hk1.size; simp at this; omega
  obtain ⟨e4, e5, e6, e7⟩ := heap_alloc4 w (.cells #[.int .i64 D, .slice of mf cf, .int .i64 P] 24) (.cells #[.int .i64 top] 3) (.cells #[.slice none 0 0] 26) (.cells #[.bool false] 4)
  have q5 := ((hk1.alloc (.cells #[.slice none 0 0] 26)).block _ (Array.getElem?_eq_some_iff.1 e5).1).trans e5
  have q6 := ((hk1.alloc (.cells #[.slice none 0 0] 26)).block _ (Array.getElem?_eq_some_iff.1 e6).1).trans e6
  have q7 := ((hk1.alloc (.cells #[.slice none 0 0] 26)).block _ (Array.getElem?_eq_some_iff.1 e7).1).trans e7
  have q9 := heap_alloc_new w1 (.cells #[.slice none 0 0] 26)
  have hkW : Kp w (w1.alloc (.cells #[.slice none 0 0] 26)) := (hk0.trans hk1).alloc _
  have kk9 := (Kp.refl w1).alloc (.cells #[.slice none 0 0] 26)
  have hs9 : (w1.alloc (.cells #[.slice none 0 0] 26)).heap.size = w1.heap.size + 1 := by simp
  obtain ⟨vf', HQ1, HQ2, HQ3, HQ4, HQ5, HQ6⟩ := HQ.out
  simp only [World.size_alloc] at HQ4 HQ5 HQ6
  have hQn : Boxed (w1.alloc (.cells #[.slice none 0 0] 26)) Bn 3 (.int .i64 n) := HQ1.alloc _
  have hQp := (kk9.block _ (Array.getElem?_eq_some_iff.1 HQ2).1).trans HQ2
  have lBn := HQ1.lt
  have lBp := (Array.getElem?_eq_some_iff.1 HQ2).1
  have hRr := hkW.later HR.out
  have hFl : FlS (fun g => g = w1.heap.size ∨ g = w.heap.size + 1 ∨ g = w.heap.size + 1 + 1 ∨ g = w.heap.size + 1 + 1 + 1) (w1.alloc (.cells #[.slice none 0 0] 26)) vf' p.fl := by
    obtain ⟨o, c, rfl, h⟩ := HQ3
    refine ⟨o, c, rfl, fun hm => ?_⟩
    obtain ⟨g, off, e, hg, hc⟩ := h hm
    have := HQ4 _ _ _ g off rfl e
    exact ⟨g, off, e, ⟨by omega, fun e => by rcases e with e | e | e | e <;> omega⟩, fun i hi => kk9.later (hc i hi)⟩
  obtain ⟨B9, hB9⟩ : ∃ B9, w1.heap.size = B9 := ⟨_, rfl⟩
  obtain ⟨B7, hB7⟩ : ∃ B7, w.heap.size + 1 + 1 + 1 = B7 := ⟨_, rfl⟩
  obtain ⟨B6, hB6⟩ : ∃ B6, w.heap.size + 1 + 1 = B6 := ⟨_, rfl⟩
  obtain ⟨B5, hB5⟩ : ∃ B5, w.heap.size + 1 = B5 := ⟨_, rfl⟩
  obtain ⟨W9, hW9⟩ : ∃ W9, w1.alloc (.cells #[.slice none 0 0] 26) = W9 := ⟨_, rfl⟩
  go_wp2_with fail
  simp only [hB9, hW9] at q5 q6 q7 q9 hkW hs9 hQn hQp hRr hFl lBn lBp hN0 ⊢
  simp only [hB7] at q7 hFl ⊢
  simp only [hB6] at q6 hFl ⊢
  simp only [hB5] at q5 hFl ⊢
  have HB : Hid (w.heap.size + 1 = B5 ∧ w.heap.size + 1 + 1 = B6 ∧ w.heap.size + 1 + 1 + 1 = B7 ∧ B7 < B9 ∧ B9 < W9.heap.size) := Lib.hid ⟨hB5, hB6, hB7, by omega, by omega⟩
  have HKW := Lib.hid hkW
  have hI0 : GI B9 [(B5, 3, .int .i64 top), (B6, 26, .slice none 0 0), (B7, 4, .bool false)] top (fun _ => False) (fun g => g = B9 ∨ g = B5 ∨ g = B6 ∨ g = B7) [] W9 := by
    have hb := HB.out
    refine ⟨⟨none, 0, [], q9, World.ownsRow_nil _ _ _ _, (fun g hg => by cases hg), TC.nil _ _, ⟨.inl rfl, fun h => h⟩, fun b t v hx => ?_⟩, by simp; omega⟩
    simp only [List.mem_cons, Prod.mk.injEq, List.not_mem_nil, or_false] at hx
    rcases hx with ⟨rfl, rfl, rfl⟩ | ⟨rfl, rfl, rfl⟩ | ⟨rfl, rfl, rfl⟩
    · exact ⟨q5, .inr (.inl rfl), fun h => h, by omega, fun e => by cases e⟩
    · exact ⟨q6, .inr (.inr (.inl rfl)), fun h => h, by omega, fun e => by cases e⟩
    · exact ⟨q7, .inr (.inr (.inr rfl)), fun h => h, by omega, fun e => by cases e⟩
  obtain ⟨j0, hj, hz⟩ := Option.map_eq_some_iff.1 info_order
  have hj0 : j0.zero = some (.agg #[.int .i64 0, .int .i64 0, .slice none 0 0]) := by injection hz
  have hj1 : j0.size = 3 := by injection hz with _ h; injection h
  have hj2 : j0.bytes = 40 := by injection hz with _ h; injection h
  clear hz e4 e5 e6 e7 q5 q6 q7 q9 HQ1 HQ2 hs9 HQ3 HQ4 HQ HAll kk9 hk0 hk1 hW9
  have hlc : ∀ g, (g = B9 ∨ g = B5 ∨ g = B6 ∨ g = B7) → g < W9.heap.size := fun g hg => by have := HB.out; rcases hg with e | e | e | e <;> omega
  refine (wpIn_wide (n := 3)).1 ?_
  refine wpIn_range_all (p := p) (n := n) (vf := vf') (Bn := Bn) (Bp := Bp) (by decide) rfl rfl (GI B9 [(B5, 3, .int .i64 top), (B6, 26, .slice none 0 0), (B7, 4, .bool false)] top) (GX B9 [(B5, 3, .int .i64 top), (B6, 26, .slice none 0 0), (B7, 4, .bool false)] top) (GI.abide _ _ _ _) (GX.abide _ _ _ _) _ hlc hI0
    hQn hQp ⟨fun e => by have := HB.out; rcases e with e | e | e | e <;> omega, fun e => by have := HB.out; rcases e with e | e | e | e <;> omega⟩ hFl aR hRr
    (GA fun Bx v => { tmps := #[.int .i64 n, .agg #[.int .i64 D, .slice of mf cf, .int .i64 P], .int .i64 top, undef, .pointer (some ⟨w.heap.size, 0, none⟩), .pointer (some ⟨B5, 0, none⟩), .pointer (some ⟨B6, 0, none⟩), .pointer (some ⟨B7, 0, none⟩), .func (.func 63) #[] #[.pointer (some ⟨Bn, 0, none⟩), .pointer (some ⟨Bp, 0, none⟩)], .pointer (some ⟨B9, 0, none⟩), .pointer (some ⟨Bx, 0, none⟩), .int .i64 n, .agg #[.int .i64 D, .slice of mf cf, .int .i64 P], .func (.func 63) #[] #[.pointer (some ⟨Bn, 0, none⟩), .pointer (some ⟨Bp, 0, none⟩)], .func (.func 63) #[] #[.pointer (some ⟨Bn, 0, none⟩), .pointer (some ⟨Bp, 0, none⟩)], .bool false, .func (.func 63) #[] #[.pointer (some ⟨Bn, 0, none⟩), .pointer (some ⟨Bp, 0, none⟩)], v, undef, undef, undef, undef, undef, undef, undef, undef, undef, undef, undef, undef, undef, undef], defers := [] })
    ?hax ?assign ?body ?done ?stop
  case hax =>
    rintro v Bx a' W l o ⟨h1, k, n0, oo, m, c, h2, h3⟩ hne
    exact ⟨h1, k, n0, oo, m, c, h2, (World.putObj_heap_other hne).trans h3⟩
  case assign =>
    intro l lev' k n0 o m c W K hK
    have HS := Lib.hid (And.intro (heap_alloc_new W (.cells #[.int .i64 k, .int .i64 n0, .slice o m c] 28)) ((Kp.refl W).alloc (.cells #[.int .i64 k, .int .i64 n0, .slice o m c] 28)))
    gi_wp2
    refine hK _ _ W.heap.size HS.out.2 (Nat.le_refl _) ⟨rfl, k, n0, o, m, c, rfl, HS.out.1⟩
  case body =>
    rintro l lev' Sp Sc' pre T k n0 oo m cc Bx a' W hlen hlp hlc' hBx hBS ⟨hgs, htop⟩ hOX ⟨rfl, k1, n1, o1, m1, c1, hv, hBh⟩
    cases hv
    obtain ⟨o, c, es, h1, h3, h4, h5, h6, h7⟩ := hgs
    have hBl := (Array.getElem?_eq_some_iff.1 hBh).1
    have l9 := Boxed.lt h1
    have hel : es.length = pre.length * 3 := h3.1
    have kA := ((Kp.refl W).alloc (.cells #[.int .i64 0, .int .i64 0, .slice none 0 0] 28)).drew
    have hownD := kA.owns h3
    have h63 : pre.length + 1 ≤ maxLen := by unfold maxLen; omega
    have r9 := Boxed.cell h1
    have r9' := kA.later r9
    have HX : Hid ((Value.slice o pre.length c).ownBlock ≠ some Bx ∧ (∀ w' : World, w'.heap[Bx]? = W.heap[Bx]? → w'.cell? ⟨Bx, 0, none⟩ = some (.int .i64 k) ∧ w'.cell? ⟨Bx, 1, none⟩ = some (.int .i64 n0) ∧ w'.cell? ⟨Bx, 2, none⟩ = some (.slice oo m cc)) ∧ ∀ g, ((Value.slice o pre.length c).ownBlock = some g ∨ g = ((W.alloc (.cells #[.int .i64 0, .int .i64 0, .slice none 0 0] 28)).drew).heap.size) → Bx ≠ g) := Lib.hid ⟨fun e => hBS (h4 _ e).1, fun w' h => (row3_facts (h.trans hBh)).1, fun g hg e => hg.elim (fun h => hBS (e ▸ (h4 _ h).1)) (fun h => by have := kA.size; omega)⟩
    have hP0 := HX.out.2.1 W.drew rfl
    have hPd := HX.out.2.1 _ (kA.block Bx hBl)
    have z0 : (0 : Int) ≤ (pre.length : Int) := by omega
    have z1 : (pre.length : Int) < (pre.length : Int) + 1 := by omega
    have n9x : B9 ≠ Bx := fun e => hBS (e ▸ h6.1)
    gi_wp2
    refine wpIn_region_held_drew (S := fun w' => w'.cell? ⟨Bx, 0, none⟩ = some (.int .i64 k) ∧ w'.cell? ⟨Bx, 1, none⟩ = some (.int .i64 n0) ∧ w'.cell? ⟨Bx, 2, none⟩ = some (.slice oo m cc)) (by kernel_rfl) (by kernel_rfl) (fun ⟨_, _, h⟩ => h) hP0 (fun hHeld => ?_)
    refine wpAnyH_take (i := 1) (oi := Oper.mk _ _ _ _ _ _) (v := ?_) rfl (by kernel_rfl) (by kernel_rfl) (by kernel_rfl) (fun _ _ _ h => h) (Or.inl ⟨by rfl, ?_⟩) (by assumption) ?_
    rotate_left
    · intro w hSw
      (try dsimp only at hSw)
      go_simp
      try with_reducible rfl
    try simp only [Act.put, List.setIfInBounds_toArray, List.set_cons_zero, List.set_cons_succ]
    refine wpAnyH_ready (rs := [0, 3]) (by kernel_rfl) (by simp) ?_
    refine AllReadyH.cons (o := Oper.mk _ _ _ _ _ _) rfl (fun K hK => ?ordA) ?ordB
    case' ordA =>
      go_simp
      refine hK.out _ _ hP0 (fun hHeld => ?_)
      clear hK K
      try simp only [Act.put, List.setIfInBounds_toArray, List.set_cons_zero, List.set_cons_succ]
      refine wpAnyH_take (i := 2) (oi := Oper.mk _ _ _ _ _ _) (v := ?_) rfl (by kernel_rfl) (by kernel_rfl) (by kernel_rfl) (fun _ _ _ h => h) (Or.inl ⟨by rfl, ?_⟩) (by assumption) ?_
      rotate_left
      · intro w hSw
        (try dsimp only at hSw)
        go_simp
        try with_reducible rfl
      try simp only [Act.put, List.setIfInBounds_toArray, List.set_cons_zero, List.set_cons_succ]
      refine wpAnyH_ready (rs := [3]) (by kernel_rfl) (by simp) ?_
      refine AllReadyH.cons (o := Oper.mk _ _ _ _ _ _) rfl (fun K hK => ?_) AllReadyH.nil
      go_simp
      refine hK.out _ _ hPd (fun hHeld => ?_)
      clear hK K
      try simp only [Act.put, List.setIfInBounds_toArray, List.set_cons_zero, List.set_cons_succ]
    case' ordB =>
      refine AllReadyH.cons (o := Oper.mk _ _ _ _ _ _) rfl (fun K hK => ?_) AllReadyH.nil
      go_simp
      refine hK.out _ _ hPd (fun hHeld => ?_)
      clear hK K
      try simp only [Act.put, List.setIfInBounds_toArray, List.set_cons_zero, List.set_cons_succ]
      refine wpAnyH_ready (rs := [0]) (by kernel_rfl) (by simp) ?_
      refine AllReadyH.cons (o := Oper.mk _ _ _ _ _ _) rfl (fun K hK => ?_) AllReadyH.nil
      go_simp
      refine hK.out _ _ hPd (fun hHeld => ?_)
      clear hK K
      try simp only [Act.put, List.setIfInBounds_toArray, List.set_cons_zero, List.set_cons_succ]
      refine wpAnyH_take (i := 2) (oi := Oper.mk _ _ _ _ _ _) (v := ?_) rfl (by kernel_rfl) (by kernel_rfl) (by kernel_rfl) (fun _ _ _ h => h) (Or.inl ⟨by rfl, ?_⟩) (by assumption) ?_
      rotate_left
      · intro w hSw
        (try dsimp only at hSw)
        go_simp
        try with_reducible rfl
      try simp only [Act.put, List.setIfInBounds_toArray, List.set_cons_zero, List.set_cons_succ]
    all_goals
      refine wpAnyH_ready (rs := [4]) (by kernel_rfl) (by simp) ?_
      refine AllReadyH.cons (o := Oper.mk _ _ _ _ _ _) rfl (fun K hK => ?_) AllReadyH.nil
      refine step_append_lies _ (by rfl) _ _ 26 (by rfl) 0 28 j0 (.agg #[.int .i64 0, .int .i64 0, .slice none 0 0]) 3 40 Tryd.underlying26 hj hj0 hj1 hj2 rfl (by decide) (.slice o pre.length c) pre.length es (by rfl) hownD ⟨W.heap.size, 0, none⟩ 1 1 [.int .i64 0, .int .i64 0, .slice none 0 0] (by rfl) (by rfl) (World.news_of_block (heap_alloc_new W _)) (by intro u hu; simp at hu; rcases hu with rfl | rfl | rfl <;> rfl) (by decide) h63 (by omega) (Nat.zero_le _) _ rfl ?_
      intro g2 cap2 w2 hown2 hg2 hat2 hlt2
      have n2 : Bx ≠ g2 := HX.out.2.2 g2 hat2
      have hbw2 : w2.heap[Bx]? = W.heap[Bx]? := (hg2.block Bx (Nat.lt_of_lt_of_le hBl kA.size) (Ne.symm HX.out.1)).trans (kA.block Bx hBl)
      have hPw := HX.out.2.1 w2 hbw2
      have n9 : B9 ≠ g2 := fun e => hat2.elim (fun h => (h4 _ h).2.2 e.symm) (fun h => by have := kA.size; omega)
      have hb9 : w2.heap[B9]? = some (.cells #[.slice o pre.length c] 26 (0, 0)) := (hg2.block B9 (Nat.lt_of_lt_of_le l9 kA.size) (fun e => (h4 _ e.symm).2.2 rfl)).trans ((kA.block B9 l9).trans h1)
      have x0 := Boxed.cell (t := 26) hb9
      have xf0 := Boxed.frozen (t := 26) hb9
      have y0 := (hown2.cellAt (pre.length * 3) (by omega)).trans (last3 es _ _ _ hel).1
      have y1 := (hown2.cellAt (pre.length * 3 + 1) (by omega)).trans (last3 es _ _ _ hel).2.1
      have y2 := (hown2.cellAt (pre.length * 3 + 2) (by omega)).trans (last3 es _ _ _ hel).2.2
      have yf0 := hown2.frozenAt (pre.length * 3)
      have yf1 := hown2.frozenAt (pre.length * 3 + 1)
      have yf2 := hown2.frozenAt (pre.length * 3 + 2)
      refine hK.out _ _ hPw (fun hHeld => ?_)
      clear hK K
      try simp only [Act.put, List.setIfInBounds_toArray, List.set_cons_zero, List.set_cons_succ]
      refine wpAnyH_take (i := 5) (oi := Oper.mk _ _ _ _ _ _) (v := ?_) rfl (by kernel_rfl) (by kernel_rfl) (by kernel_rfl) (fun _ _ _ h => h) (Or.inl ⟨by rfl, ?_⟩) (by assumption) ?_
      rotate_left
      · intro w hSw
        (try dsimp only at hSw)
        go_simp
        try with_reducible rfl
      try simp only [Act.put, List.setIfInBounds_toArray, List.set_cons_zero, List.set_cons_succ]
      refine wpAnyH_ready (rs := [6, 7]) (by kernel_rfl) (by simp) ?_
      refine AllReadyH.cons (o := Oper.mk _ _ _ _ _ _) rfl (fun K hK => ?_) ?_
      case' _ =>
        go_simp
        refine hK.out _ _ (HX.out.2.1 _ ((heap_set_other _ _ _ _ n2).trans ((heap_set_other _ _ _ _ n2).trans ((heap_set_other _ _ _ _ n2).trans hbw2)))) (fun hHeld => ?_)
        clear hK K
        try simp only [Act.put, List.setIfInBounds_toArray, List.set_cons_zero, List.set_cons_succ]
        refine wpAnyH_ready (rs := [7]) (by kernel_rfl) (by simp) ?_
        refine AllReadyH.cons (o := Oper.mk _ _ _ _ _ _) rfl (fun K hK => ?_) AllReadyH.nil
        go_simp
        refine hK.out _ _ (HX.out.2.1 _ ((heap_set_other _ _ _ _ (Ne.symm n9x)).trans ((heap_set_other _ _ _ _ n2).trans ((heap_set_other _ _ _ _ n2).trans ((heap_set_other _ _ _ _ n2).trans hbw2))))) (fun hHeld => ?_)
        clear hK K
        try simp only [Act.put, List.setIfInBounds_toArray, List.set_cons_zero, List.set_cons_succ]
      rotate_left
      case' _ =>
        refine AllReadyH.cons (o := Oper.mk _ _ _ _ _ _) rfl (fun K hK => ?_) AllReadyH.nil
        go_simp
        refine hK.out _ _ (HX.out.2.1 _ ((heap_set_other _ _ _ _ (Ne.symm n9x)).trans hbw2)) (fun hHeld => ?_)
        clear hK K
        try simp only [Act.put, List.setIfInBounds_toArray, List.set_cons_zero, List.set_cons_succ]
        refine wpAnyH_ready (rs := [6]) (by kernel_rfl) (by simp) ?_
        refine AllReadyH.cons (o := Oper.mk _ _ _ _ _ _) rfl (fun K hK => ?_) AllReadyH.nil
        go_simp
        refine hK.out _ _ (HX.out.2.1 _ ((heap_set_other _ _ _ _ n2).trans ((heap_set_other _ _ _ _ n2).trans ((heap_set_other _ _ _ _ n2).trans ((heap_set_other _ _ _ _ (Ne.symm n9x)).trans hbw2))))) (fun hHeld => ?_)
        clear hK K
        try simp only [Act.put, List.setIfInBounds_toArray, List.set_cons_zero, List.set_cons_succ]
    all_goals
      refine wpAnyH_done (by kernel_rfl) ?_ _
      have hP := GS.push (b := W9.heap.size) h1 h3 h4 h5 h6 h7 hlp hlc' hOX kA hown2 hg2 hat2 hlt2
      try rw [set_comm _ _ _ _ _ _ _ n9, set_comm _ _ _ _ _ _ _ n9, set_comm _ _ _ _ _ _ _ n9]
      clear hHeld hPw hP0 hPd x0 xf0 y0 y1 y2 yf0 yf1 yf2 hb9 hbw2 r9 r9' hown2 hg2 hat2 hlt2 hownD h1 h3 h4 h5 h6 h7 hOX
      obtain ⟨Sc2, hcm, hgs⟩ := hP
      generalize (((w2.setCell ⟨g2, pre.length * 3, none⟩ (.int .i64 k)).setCell ⟨g2, pre.length * 3 + 1, none⟩ (.int .i64 n0)).setCell ⟨g2, pre.length * 3 + 2, none⟩ (.slice oo m cc)).setCell ⟨B9, 0, none⟩ (.slice (some ⟨g2, 0, none⟩) (pre.length + 1) cap2) = W5 at hcm hgs ⊢
      have HGS := Lib.hid (And.intro hcm hgs)
      obtain ⟨o5, c5, es5, r1, -, -, -, -, r7⟩ := hgs
      obtain ⟨L5, hL5⟩ : ∃ L5, (pre ++ [T]).length = L5 := ⟨_, rfl⟩
      have hL5' : L5 ≤ 4096 := by rw [← hL5, List.length_append]; simp; omega
      have hL5'' : pre.length + 1 = L5 := by rw [← hL5, List.length_append]; rfl
      rw [hL5] at r1
      have s9 := Boxed.cell r1
      have s5 := Boxed.cell (r7 B5 3 (.int .i64 top) (by simp)).1
      have d6 : decide ((4096 : Int) < (L5 : Int)) = false := by simp; omega
      have d6' : ¬ (4096 : Int) < (L5 : Int) := by omega
      have HL5 := Lib.hid hL5
      clear r1 r7 hcm hL5 hL5''
      by_cases hq : (L5 : Int) = top
      · have e1 : ((L5 : Int) == top) = true := by simp [hq]
        have HQ := Lib.hid hq
        clear hq
        gi_wp2
        exact ⟨Sc2, HGS.out.1, rfl, HGS.out.2, by have := HQ.out; have := HL5.out; rw [List.length_append] at this; simp at this; omega, by rw [HL5.out]; exact HQ.out⟩
      · have e1 : ((L5 : Int) == top) = false := by simp [hq]
        have HQ := Lib.hid hq
        clear hq
        gi_wp2
        exact ⟨Sc2, HGS.out.1, HGS.out.2, by have := HQ.out; have := HL5.out; rw [HL5.out]; rw [List.length_append] at this; simp at this; omega⟩
  case done =>
    rintro D9 Sp Sc' W hD9 hkx hlt ⟨⟨o, c, es, r1, r3, r4, r5, r6, r7⟩, htop⟩ hDd hDn
    obtain ⟨mq, hu⟩ : ∃ mq, (ordsAll p n).length = mq := ⟨_, rfl⟩
    obtain ⟨⟨⟨s6, f6⟩, ⟨s7, f7⟩⟩, hDx, k1, k2, hOL, hK⟩ := gone_end HB.out HKW.out hkx hD9 hDd r3 r4 r5 r7 (.slice o mq c) (by rw [hu])
    rw [hu] at r1
    have s9 := Boxed.cell r1
    have HF := Lib.hid (And.intro (show OL (fun _ => True) (((W.setCell ⟨B6, 0, none⟩ (.slice o mq c)).setCell ⟨B7, 0, none⟩ (.bool true)).putObj D9 (.deferred none)) (.slice o mq c) (cutAt top (ordsAll p n)) by rw [cutAt_all htop]; exact hOL) (And.intro hK (And.intro hDx (And.intro k1 k2))))
    clear hu r1 r3 r4 r5 r6 r7 htop hOL hK hDx k1 k2 hkx hlt hDd hDn
    gi_wp2
    go_wp2_with fail
    refine ⟨by simp, .inl ⟨_, _, rfl, run_takeDeferred HF.out.2.2.1, ?_⟩⟩
    exact ⟨.tuple #[.slice o mq c, .bool true], by simp [results, Tryd.f24, go_sem, HF.out.2.2.2.1, HF.out.2.2.2.2], _, rfl, HF.out.1, HF.out.2.1⟩
  case stop =>
    rintro D9 cc Sp Sc' q W hD9 hkx hlt hq ⟨rfl, ⟨o, c, es, r1, r3, r4, r5, r6, r7⟩, htop, hqt⟩ hDd hDn
    obtain ⟨mq, hu⟩ : ∃ mq, q.length = mq := ⟨_, rfl⟩
    obtain ⟨⟨⟨s6, f6⟩, ⟨s7, f7⟩⟩, hDx, k1, k2, hOL, hK⟩ := gone_end HB.out HKW.out hkx hD9 hDd r3 r4 r5 r7 (.slice o mq c) (by rw [hu])
    rw [hu] at r1
    have s9 := Boxed.cell r1
    have HF := Lib.hid (And.intro (show OL (fun _ => True) (((W.setCell ⟨B6, 0, none⟩ (.slice o mq c)).setCell ⟨B7, 0, none⟩ (.bool true)).putObj D9 (.deferred none)) (.slice o mq c) (cutAt top (ordsAll p n)) by rw [cutAt_pre hq htop hqt]; exact hOL) (And.intro hK (And.intro hDx (And.intro k1 k2))))
    clear hu r1 r3 r4 r5 r6 r7 htop hqt hq hOL hK hDx k1 k2 hkx hlt hDd hDn
    gi_wp2
    go_wp2_with fail
    refine ⟨by simp, .inl ⟨_, _, rfl, run_takeDeferred HF.out.2.2.1, ?_⟩⟩
    exact ⟨.tuple #[.slice o mq c, .bool true], by simp [results, Tryd.f24, go_sem, HF.out.2.2.2.1, HF.out.2.2.2.2], _, rfl, HF.out.1, HF.out.2.1⟩
end Go.Proofs.YtgjlldapnodfbaaDoor
