/-
  New orders: order.Direct, Fly, copied.
-/
import Derived.Test.YtgjlldapnodfbaaDoorOCost4
import Derived.Deep.AppendLies
import Derived.Deep.RegionLaw
namespace Go.Proofs.YtgjlldapnodfbaaDoor
open Go Go.RowKit Go.Fl Go.Ord

theorem size_order : (Tryd.prog.info? 28).map (·.size) = some 3 := by kernel_rfl
theorem info_order : (Tryd.prog.info? 28).map (fun i => (i.zero, i.size, i.bytes)) = some (some (.agg #[.int .i64 0, .int .i64 0, .slice none 0 0]), 3, 40) := by kernel_rfl
/-- An order lies there, in blocks of P. -/
def OX (P : Nat → Prop) (w : World) : Tr → Value → Prop
  | .nil, _ => False
  | .mk k n m kid, v => ∃ o c, v = .agg #[.int .i64 k, .int .i64 n, .slice o m c] ∧ (m ≤ 5864062014805 ∧ -9223372036854775808 ≤ n ∧ n ≤ 9223372036854775807) ∧
      (0 < m → ∃ g off, o = some ⟨g, off, none⟩ ∧ (g < w.heap.size ∧ P g) ∧ ∀ i, i < m → ∃ a b s, w.cell? ⟨g, off + i * 3, none⟩ = some a ∧ w.cell? ⟨g, off + i * 3 + 1, none⟩ = some b ∧ w.cell? ⟨g, off + i * 3 + 2, none⟩ = some s ∧ OX P w (kid i) (.agg #[a, b, s]))
theorem OX.nil {P : Nat → Prop} {w : World} {v : Value} (h : OX P w .nil v) : False := by simp [OX] at h
theorem OX.oin {P : Nat → Prop} {w : World} : ∀ {T : Tr} {v : Value}, OX P w T v → OIn w T v := by
  intro T
  induction T with
  | nil => intros; exact (OX.nil (by assumption)).elim
  | mk k n m kid ih =>
    rintro v ⟨o, c, h1, hb, h2⟩
    refine ⟨o, c, h1, hb, fun hm => ?_⟩
    obtain ⟨g, off, e, hg, hc⟩ := h2 hm
    refine ⟨g, off, e, hg.1, fun i hi => ?_⟩
    obtain ⟨a, b, s, q1, q2, q3, h⟩ := hc i hi
    exact ⟨a, b, s, q1, q2, q3, ih i h⟩
/-- What stays where the blocks of P stay. -/
theorem OX.stay {P Q : Nat → Prop} {w w' : World} (hs : w.heap.size ≤ w'.heap.size) (hb : ∀ g, g < w.heap.size → P g → w'.heap[g]? = w.heap[g]?) (hQ : ∀ g, g < w.heap.size → P g → Q g) : ∀ {T : Tr} {v : Value}, OX P w T v → OX Q w' T v := by
  intro T
  induction T with
  | nil => intros; exact (OX.nil (by assumption)).elim
  | mk k n m kid ih =>
    rintro v ⟨o, c, h1, hb', h2⟩
    refine ⟨o, c, h1, hb', fun hm => ?_⟩
    obtain ⟨g, off, e, hg, hc⟩ := h2 hm
    refine ⟨g, off, e, ⟨Nat.lt_of_lt_of_le hg.1 hs, hQ g hg.1 hg.2⟩, fun i hi => ?_⟩
    obtain ⟨a, b, s, q1, q2, q3, h⟩ := hc i hi
    have hcell : ∀ j, w'.cell? ⟨g, j, none⟩ = w.cell? ⟨g, j, none⟩ := fun j => World.cell?_of_block (hb g hg.1 hg.2)
    exact ⟨a, b, s, (hcell _).trans q1, (hcell _).trans q2, (hcell _).trans q3, ih i h⟩
theorem OX.kp {P : Nat → Prop} {w w' : World} {T : Tr} {v : Value} (h : OX P w T v) (k : Kp w w') : OX P w' T v := h.stay k.size (fun g hg _ => k.block g hg) (fun _ _ h => h)
theorem OX.mono {P Q : Nat → Prop} {w : World} {T : Tr} {v : Value} (h : OX P w T v) (hQ : ∀ g, g < w.heap.size → P g → Q g) : OX Q w T v := h.stay (Nat.le_refl _) (fun _ _ _ => rfl) hQ
theorem ret_order {fn : Func} {p : Tmp} (h : fn.results = #[.cell p 28]) (tmps : Array Value) (w : World) (g : Nat) (a b c : Value) (t : TypeId) (fr : Nat × Nat)
    (hp : tmps.getD p undef = .pointer (some ⟨g, 0, none⟩)) (hg : w.heap[g]? = some (.cells #[a, b, c] t fr)) : (results fn tmps).run Tryd.prog w = .ok (.agg #[a, b, c]) w :=
  results_cell_row h tmps w g t #[a, b, c] fr _ hp hg Tryd.underlying28 rfl size_order

set_option maxRecDepth 100000 in
theorem Direct_any (n : Int) (w : World) : Calls Tryd.prog 67 #[.int .i64 n] w fun e w' => e = .returned (.agg #[.int .i64 1, .int .i64 n, .slice none 0 0]) ∧ Kp w w' := by
  go_enter Tryd.func67, Tryd.ntmps67
  go_wp2_with fail
  refine bodyPost_ret (ret_order rfl _ _ w.heap.size _ _ _ _ _ rfl (heap_alloc_new _ _)) rfl ⟨rfl, (Kp.refl w).alloc _⟩
set_option maxRecDepth 100000 in
theorem Fly_any (n : Int) (w : World) : Calls Tryd.prog 69 #[.int .i64 n] w fun e w' => e = .returned (.agg #[.int .i64 2, .int .i64 n, .slice none 0 0]) ∧ Kp w w' := by
  go_enter Tryd.func69, Tryd.ntmps69
  go_wp2_with fail
  refine bodyPost_ret (ret_order rfl _ _ w.heap.size _ _ _ _ _ rfl (heap_alloc_new _ _)) rfl ⟨rfl, (Kp.refl w).alloc _⟩

/-- Behind i rounds of copied. -/
def LI (w : World) (k n : Int) (kid : Nat → Tr) (i : Nat) (v : Value) (wr : World) : Prop :=
  ∃ xs, wr.heap[w.heap.size]? = some (.cells #[.int .i64 k, .int .i64 n, v] 28 (0, 0)) ∧
    wr.heap[w.heap.size + 1]? = some (.cells #[.int .i64 0, .int .i64 0, .slice none 0 0] 28 (0, 0)) ∧
    wr.ownsRow (w.heap.size + 2) 28 3 v i xs ∧
    (∀ j, j < i → ∃ a b s, xs[j * 3]? = some a ∧ xs[j * 3 + 1]? = some b ∧ xs[j * 3 + 2]? = some s ∧ OX (fun g => w.heap.size + 2 ≤ g ∧ v.ownBlock ≠ some g) wr (kid j) (.agg #[a, b, s])) ∧ Kp w wr
theorem heap_set_other (w : World) (p : Addr) (u : Value) (g : Nat) (h : g ≠ p.block) : (w.setCell p u).heap[g]? = w.heap[g]? := Below.heap_setCell w p u g h
theorem heap_set_row3 (w : World) (g : Nat) (a b c u : Value) (t : TypeId) (h : w.heap[g]? = some (.cells #[a, b, c] t (0, 0))) : (w.setCell ⟨g, 2, none⟩ u).heap[g]? = some (.cells #[a, b, u] t (0, 0)) := by
  show (w.heap.modify g _)[g]? = _
  obtain ⟨hlt, h'⟩ := Array.getElem?_eq_some_iff.1 h
  rw [Array.getElem?_eq_getElem (by rw [Array.size_modify]; exact hlt), Array.getElem_modify_self, h']
  rfl
theorem LI.step {w : World} {k n : Int} {kid : Nat → Tr} {i : Nat} {v : Value} {wr w2 w3 : World} (h : LI w k n kid i v wr) (hk : Kp wr w2) (a b s : Value) (hox : OX (fun g => wr.heap.size ≤ g) w2 (kid i) (.agg #[a, b, s]))
    (g cap : Nat) (xs : List Value) (hxs : wr.ownsRow (w.heap.size + 2) 28 3 v i xs)
    (ho : w3.ownsRow (w.heap.size + 2) 28 3 (.slice (some ⟨g, 0, none⟩) (i + 1) cap) (i + 1) (xs ++ [a, b, s])) (hg : w2.grownBy w3 v.ownBlock) (hat : v.ownBlock = some g ∨ g = w2.heap.size) :
    LI w k n kid (i + 1) (.slice (some ⟨g, 0, none⟩) (i + 1) cap) (w3.setCell ⟨w.heap.size, 2, none⟩ (.slice (some ⟨g, 0, none⟩) (i + 1) cap)) := by
  obtain ⟨xs', b0, b1, hown, hkids, hkp⟩ := h
  have hxe : xs' = xs := by
    rcases hown.2 with ⟨h1, h2⟩ | ⟨g1, c1, cur, h1, _, hg1, _, _, _, ht⟩
    · have p1 := hown.1
      have p2 := hxs.1
      rw [h2] at p1 p2
      rw [List.eq_nil_of_length_eq_zero (by omega : xs.length = 0), List.eq_nil_of_length_eq_zero (by omega : xs'.length = 0)]
    · rcases hxs.2 with ⟨h3, _⟩ | ⟨g2, c2, cur2, h3, _, hg2, _, _, _, ht2⟩
      · rw [h1] at h3; cases h3
      · rw [h1] at h3
        cases h3
        rw [hg1] at hg2
        injection hg2 with e1
        injection e1 with e2
        subst e2
        rw [← ht, ← ht2]
  subst hxe
  have hs0 := hkp.size
  have hlt0 : w.heap.size + 1 < wr.heap.size := (Array.getElem?_eq_some_iff.1 b1).1
  have hvl : ∀ q, v.ownBlock = some q → w.heap.size + 2 ≤ q ∧ q < wr.heap.size := fun q hq => hown.lt q hq
  have hgB : w.heap.size + 2 ≤ g := by
    rcases hat with h1 | h1
    · exact (hvl g h1).1
    · have := hk.size; omega
  have hrow : ∀ q, q < w.heap.size + 2 → v.ownBlock ≠ some q := fun q hq e => by have := (hvl q e).1; omega
  have blk : ∀ q, q < wr.heap.size → v.ownBlock ≠ some q → q ≠ w.heap.size → (w3.setCell ⟨w.heap.size, 2, none⟩ (.slice (some ⟨g, 0, none⟩) (i + 1) cap)).heap[q]? = wr.heap[q]? := fun q hq hv hne => by
    rw [heap_set_other _ _ _ _ hne, hg.block q (Nat.lt_of_lt_of_le hq hk.size) (fun e => hv e.symm), hk.block q hq]
  have hxl := hown.1
  refine ⟨xs' ++ [a, b, s], ?_, ?_, ?_, ?_, ?_⟩
  · apply heap_set_row3
    rw [hg.block _ (by have := hk.size; omega) (fun e => hrow _ (by omega) e.symm), hk.block _ (by omega)]
    exact b0
  · rw [blk _ hlt0 (hrow _ (by omega)) (by omega)]; exact b1
  · refine ⟨ho.1, ?_⟩
    rcases ho.2 with ⟨h1, _⟩ | ⟨g1, c1, cur, h1, h2, h3, h4⟩
    · cases h1
    · cases h1
      exact .inr ⟨_, _, cur, rfl, h2, by rw [heap_set_other _ _ _ _ (by show g ≠ w.heap.size; omega)]; exact h3, h4⟩
  · intro j hj
    by_cases e : j = i
    · subst e
      refine ⟨a, b, s, ?_, ?_, ?_, ?_⟩
      · rw [List.getElem?_append_right (by omega), show j * 3 - xs'.length = 0 by omega]; rfl
      · rw [List.getElem?_append_right (by omega), show j * 3 + 1 - xs'.length = 1 by omega]; rfl
      · rw [List.getElem?_append_right (by omega), show j * 3 + 2 - xs'.length = 2 by omega]; rfl
      · refine hox.stay (by simpa using hg.size) (fun q hq hP => ?_) (fun q hq hP => ⟨by omega, fun e => ?_⟩)
        · have hne : q ≠ w.heap.size := by omega
          rw [heap_set_other _ _ _ _ hne, hg.block q hq (fun e => by have := (hvl q e.symm).2; omega)]
        · obtain rfl : g = q := by simpa [Value.ownBlock] using e
          rcases hat with h1 | h1
          · have := (hvl g h1).2; omega
          · omega
    · obtain ⟨a', b', s', q1, q2, q3, q4⟩ := hkids j (by omega)
      refine ⟨a', b', s', ?_, ?_, ?_, ?_⟩
      · rw [List.getElem?_append_left (by omega)]; exact q1
      · rw [List.getElem?_append_left (by omega)]; exact q2
      · rw [List.getElem?_append_left (by omega)]; exact q3
      · refine q4.stay (by simpa using Nat.le_trans hk.size hg.size) (fun q hq hP => blk q hq hP.2 (by omega)) (fun q hq hP => ⟨hP.1, fun e => ?_⟩)
        obtain rfl : g = q := by simpa [Value.ownBlock] using e
        rcases hat with h1 | h1
        · exact hP.2 h1
        · have := hk.size; omega
  · exact ((hkp.trans hk).grown hg (fun q hq => by have := (hvl q hq).1; omega)).setCell (Nat.le_refl _) _

theorem heap_set3 (w : World) (g : Nat) (x y z a b c : Value) (t : TypeId) (fr : Nat × Nat) (h : w.heap[g]? = some (.cells #[x, y, z] t fr)) : (((w.setCell ⟨g, 0, none⟩ a).setCell ⟨g, 1, none⟩ b).setCell ⟨g, 2, none⟩ c).heap[g]? = some (.cells #[a, b, c] t fr) := by
  have step : ∀ (w : World) (cs : Array Value) (j : Nat) (u : Value), w.heap[g]? = some (.cells cs t fr) → j < cs.size → (w.setCell ⟨g, j, none⟩ u).heap[g]? = some (.cells (cs.setIfInBounds j u) t fr) := by
    intro w cs j u h hj
    show (w.heap.modify g _)[g]? = _
    obtain ⟨hlt, h'⟩ := Array.getElem?_eq_some_iff.1 h
    rw [Array.getElem?_eq_getElem (by rw [Array.size_modify]; exact hlt), Array.getElem_modify_self, h']
    rfl
  exact step _ _ 2 c (step _ _ 1 b (step _ _ 0 a h (by simp)) (by simp)) (by simp)
theorem LI.fin {w : World} {k n : Int} {m : Nat} {kid : Nat → Tr} {ov : Option Addr} {cv : Nat} {wr : World} (h : LI w k n kid m (.slice ov m cv) wr) (hm : m ≤ 5864062014805) (hn0 : -9223372036854775808 ≤ n) (hn1 : n ≤ 9223372036854775807) (a b c : Value) :
    OX (fun g => w.heap.size ≤ g) (((wr.setCell ⟨w.heap.size + 1, 0, none⟩ a).setCell ⟨w.heap.size + 1, 1, none⟩ b).setCell ⟨w.heap.size + 1, 2, none⟩ c) (.mk k n m kid) (.agg #[.int .i64 k, .int .i64 n, .slice ov m cv]) ∧
    Kp w (((wr.setCell ⟨w.heap.size + 1, 0, none⟩ a).setCell ⟨w.heap.size + 1, 1, none⟩ b).setCell ⟨w.heap.size + 1, 2, none⟩ c) := by
  obtain ⟨xs, b0, b1, hown, hkids, hkp⟩ := h
  have hB : w.heap.size ≤ w.heap.size + 1 := by omega
  refine ⟨⟨ov, cv, rfl, ⟨hm, hn0, hn1⟩, fun hm0 => ?_⟩, ((hkp.setCell hB _).setCell hB _).setCell hB _⟩
  have hb : ∀ q, q ≠ w.heap.size + 1 → (((wr.setCell ⟨w.heap.size + 1, 0, none⟩ a).setCell ⟨w.heap.size + 1, 1, none⟩ b).setCell ⟨w.heap.size + 1, 2, none⟩ c).heap[q]? = wr.heap[q]? := fun q hq => by
    rw [heap_set_other _ _ _ _ hq, heap_set_other _ _ _ _ hq, heap_set_other _ _ _ _ hq]
  obtain ⟨g, cap, e, hgb, hgl⟩ := hown.form hm0
  cases e
  refine ⟨g, 0, rfl, ⟨by simpa using hgl, by omega⟩, fun i hi => ?_⟩
  obtain ⟨a', b', s', q1, q2, q3, q4⟩ := hkids i hi
  have hc : ∀ j, (((wr.setCell ⟨w.heap.size + 1, 0, none⟩ a).setCell ⟨w.heap.size + 1, 1, none⟩ b).setCell ⟨w.heap.size + 1, 2, none⟩ c).cell? ⟨g, j, none⟩ = wr.cell? ⟨g, j, none⟩ := fun j => World.cell?_of_block (hb g (by omega))
  have hx := hown.1
  refine ⟨a', b', s', ?_, ?_, ?_, q4.stay (by simp) (fun q _ hP => hb q (by omega)) (fun q _ hP => by omega)⟩
  · rw [hc, Nat.zero_add, hown.cellAt _ (by omega)]; exact q1
  · rw [hc, Nat.zero_add, hown.cellAt _ (by omega)]; exact q2
  · rw [hc, Nat.zero_add, hown.cellAt _ (by omega)]; exact q3
theorem sumTo_count (f : Nat → Nat) (m : Nat) (h : ∀ i, 1 ≤ f i) : m ≤ sumTo f m := by
  induction m with
  | zero => exact Nat.zero_le _
  | succ m ih => have := h m; show m + 1 ≤ sumTo f m + f m; omega
set_option maxRecDepth 100000 in
set_option maxHeartbeats 4000000 in
theorem copied_any (T : Tr) : ∀ (k n : Int) (m : Nat) (o : Option Addr) (c : Nat) (w : World), OIn w T (.agg #[.int .i64 k, .int .i64 n, .slice o m c]) → T.parts ≤ 4096 →
    Calls Tryd.prog 38 #[.agg #[.int .i64 k, .int .i64 n, .slice o m c]] w fun e w' => ∃ o' c', e = .returned (.agg #[.int .i64 k, .int .i64 n, .slice o' m c']) ∧ OX (fun g => w.heap.size ≤ g) w' T (.agg #[.int .i64 k, .int .i64 n, .slice o' m c']) ∧ Kp w w' := by
  induction T with
  | nil => intros; exact (OIn.nil (by assumption)).elim
  | mk k n m kid ih =>
    intro k0 n0 m0 o c w hT hp
    have hT0 := hT
    obtain ⟨o1, c1, he, ⟨hm, hn0, hn1⟩, _⟩ := hT0
    have he2 : k0 = k ∧ n0 = n ∧ o = o1 ∧ m0 = m ∧ c = c1 := by simpa using he
    obtain ⟨rfl, rfl, rfl, rfl, rfl⟩ := he2
    clear he
    have HT := Lib.hid hT
    have HI := Lib.hid ih
    rw [parts_eq] at hp
    have hm4 : m0 ≤ 4096 := by have := sumTo_count (fun i => (kid i).parts) m0 (fun i => (kid i).parts_pos); omega
    have HP : Hid (∀ i, i < m0 → (kid i).parts ≤ 4096) := Lib.hid fun i hi => by have := sumTo_le (fun i => (kid i).parts) m0 i hi; omega
    clear hT ih hp
    obtain ⟨i0, hi, hz⟩ := Option.map_eq_some_iff.1 info_order
    have hz0 : i0.zero = some (.agg #[.int .i64 0, .int .i64 0, .slice none 0 0]) := by injection hz
    have hz1 : i0.size = 3 := by injection hz with _ h; injection h
    have hz2 : i0.bytes = 40 := by injection hz with _ h; injection h
    clear hz
    go_enter Tryd.func38, Tryd.ntmps38
    go_upto_region 4 with fail
    go_loopw [11] (fun y wr => ∃ (i : Nat) (v : Value), i ≤ m0 ∧ y = .int .i64 i ∧ LI w k0 n0 kid i v wr) (fun y _ => m0 - (intOf y).toNat)
    case atStart =>
      have e1 := heap_alloc_new (w.alloc (.cells #[.int .i64 k0, .int .i64 n0, .slice none 0 0] 28)) (.cells #[.int .i64 0, .int .i64 0, .slice none 0 0] 28)
      rw [World.size_alloc] at e1
      exact ⟨0, _, by omega, rfl, [], heap_alloc2_old w _ _, e1, World.ownsRow_nil _ _ _ _, fun j hj => by omega, ((Kp.refl w).alloc _).alloc _⟩
    case round =>
      obtain ⟨i, v, hi', rfl, hLI⟩ := hrel
      have HLI := Lib.hid hLI
      obtain ⟨xs, b0, b1, hown, hkids, hkp⟩ := hLI
      clear hkids
      by_cases hlt : i < m0
      · obtain ⟨g, off, rfl, hg, hcells⟩ := HT.out.kid rfl (by omega)
        obtain ⟨k', n', m', o', c', q1, q2, q3, hkid⟩ := hcells i hlt
        have q1 := hkp.later q1
        have q2 := hkp.later q2
        have q3 := hkp.later q3
        have hk1 := (Kp.refl wr).alloc (.cells #[.int .i64 k', .int .i64 n', .slice o' m' c'] 28)
        have hc : Hid (∀ w', Kp wr w' → Calls Tryd.prog 38 #[.agg #[.int .i64 k', .int .i64 n', .slice o' m' c']] w' fun e w'' => ∃ o2 c2, e = .returned (.agg #[.int .i64 k', .int .i64 n', .slice o2 m' c2]) ∧ OX (fun g => wr.heap.size ≤ g) w'' (kid i) (.agg #[.int .i64 k', .int .i64 n', .slice o2 m' c2]) ∧ Kp wr w'') :=
          Lib.hid fun w' hk => (HI.out i _ _ _ _ _ w' ((hkid.kp hkp).kp hk) (HP.out i hlt)).mono (by rintro e w2 ⟨o2, c2, rfl, h1, h2⟩; exact ⟨o2, c2, rfl, h1.mono (fun g _ h => Nat.le_trans hk.size h), hk.trans h2⟩)
        have HOWN := Lib.hid hown
        clear hcells hkid HI HP b1
        have hB0 := cell_of_row wr w.heap.size 2 _ _ _ b0
        go_upto_region 6 with fail
        obtain ⟨r1, r2, r3⟩ := box3 wr (.int .i64 k') (.int .i64 n') (.slice o' m' c') 28
        have hF0 : wr.frozen? ⟨w.heap.size, 2, none⟩ = false := by simp [World.frozen?, b0]
        have hlB : w.heap.size < wr.heap.size := (Array.getElem?_eq_some_iff.1 b0).1
        have hne : v.ownBlock ≠ some w.heap.size := fun e => by have := (hown.lt _ e).1; omega
        have hB1 := hk1.later hB0
        have hbase : w.heap.size + 2 ≤ wr.heap.size := by
          obtain ⟨xs', _, b1, _⟩ := HLI.out
          have := (Array.getElem?_eq_some_iff.1 b1).1
          omega
        have hkd : Kp wr (wr.alloc (.cells #[.int .i64 k', .int .i64 n', .slice o' m' c'] 28)).drew := hk1.drew
        clear hown b0 q1 q2 q3
        go_region_law (first
          | (go_simp; go_at_call 38; (refine (hc.out _ hkd).mono ?_); rintro e w2 ⟨o2, c2, rfl, hox, hk2⟩; have hB2 := hk2.later hB0; have hB3 := (hk2.alloc (.cells #[.int .i64 k', .int .i64 n', .slice o2 m' c2] 28)).later hB0)
          | (refine step_append_lies _ (by rfl) _ _ 26 (by rfl) (w.heap.size + 2) 28 i0 (.agg #[.int .i64 0, .int .i64 0, .slice none 0 0]) 3 40 Tryd.underlying26 hi hz0 hz1 hz2 rfl (by decide) v i xs (by rfl) ((hk2.alloc _).owns HOWN.out) ⟨w2.heap.size, 0, none⟩ 1 1 [.int .i64 k', .int .i64 n', .slice o2 m' c2] (by rfl) (by rfl) (World.news_of_block (heap_alloc_new w2 _)) (by intro u hu; simp at hu; rcases hu with rfl | rfl | rfl <;> rfl) (by decide) (by unfold maxLen; omega) (by omega) (by have := hk2.size; simp; omega) _ rfl ?_; intro g2 cap2 w3 hown3 hg3 hat3 hlt3; have hc9 := (hg3.cell_far ⟨w.heap.size, 2, none⟩ (by have := hk2.size; simp; omega) (fun e => hne e.symm)).trans ((hk2.alloc _).later hB0); have hf9 := (hg3.frozen_far ⟨w.heap.size, 2, none⟩ (by have := hk2.size; simp; omega) (fun e => hne e.symm)).trans (((hk2.alloc _).frozen (p := ⟨w.heap.size, 2, none⟩) hlB).trans hF0)))
        all_goals
          have hfin := Lib.hid (HLI.out.step (hk2.alloc _) _ _ _ (hox.kp ((Kp.refl _).alloc _)) g2 cap2 xs HOWN.out hown3 hg3 hat3)
          clear hc9 hf9 hat3 hlt3 hown3 hg3 hB2 hB3 hox hk2
          go_wp2_with fail
          go_roundw
          case rel => exact ⟨i + 1, _, by omega, by go_num, hfin.out⟩
          case measure => simp [intOf]; omega
      · obtain rfl : m0 = i := by omega
        obtain ⟨ov, cv, rfl⟩ : ∃ ov cv, v = .slice ov m0 cv := by
          rcases hown.2 with ⟨h1, h2⟩ | ⟨g1, c1, cur, h1, _⟩
          · exact ⟨none, 0, by rw [h1, h2]⟩
          · exact ⟨_, _, h1⟩
        have z0 := cell_of_row wr w.heap.size 0 _ _ _ b0
        have z1 := cell_of_row wr w.heap.size 1 _ _ _ b0
        have z2 := cell_of_row wr w.heap.size 2 _ _ _ b0
        have y0 := cell_of_row wr (w.heap.size + 1) 0 _ _ _ b1
        have y1 := cell_of_row wr (w.heap.size + 1) 1 _ _ _ b1
        have y2 := cell_of_row wr (w.heap.size + 1) 2 _ _ _ b1
        have f0 : wr.frozen? ⟨w.heap.size + 1, 0, none⟩ = false := by simp [World.frozen?, b1]
        have f1 : wr.frozen? ⟨w.heap.size + 1, 1, none⟩ = false := by simp [World.frozen?, b1]
        have f2 : wr.frozen? ⟨w.heap.size + 1, 2, none⟩ = false := by simp [World.frozen?, b1]
        have HB1 := Lib.hid b1
        clear hown b0 b1
        go_wp2_with fail
        refine bodyPost_ret (ret_order rfl _ _ (w.heap.size + 1) (.int .i64 k0) (.int .i64 n0) (.slice ov m0 cv) _ _ rfl (heap_set3 _ _ _ _ _ _ _ _ _ _ HB1.out)) rfl ⟨ov, cv, rfl, ?_⟩
        exact HLI.out.fin hm hn0 hn1 _ _ _
end Go.Proofs.YtgjlldapnodfbaaDoor
