/-
  The reference's cheapest: the state within a call where the length is not known yet.
-/
import Derived.Test.YtgjlldapnodfbaaDoorORefE
namespace Go.Proofs.YtgjlldapnodfbaaDoor
open Go Go.RowKit Go.Fl Go.Ord Go.Pr

theorem set3_alloc {w : World} {g : Nat} {x y z a b c : Value} {t : TypeId} {fr : Nat × Nat} (h : w.heap[g]? = some (.cells #[x, y, z] t fr)) (o : Obj) :
    ((((w.setCell ⟨g, 0, none⟩ a).setCell ⟨g, 1, none⟩ b).setCell ⟨g, 2, none⟩ c).alloc o).heap[g]? = some (.cells #[a, b, c] t fr) := by
  have h2 := heap_set3 w g x y z a b c t fr h
  have h3 := (Kp.refl (((w.setCell ⟨g, 0, none⟩ a).setCell ⟨g, 1, none⟩ b).setCell ⟨g, 2, none⟩ c)).alloc o
  exact (h3.block g (Array.getElem?_eq_some_iff.1 h2).1).trans h2
theorem set_last3 (es : List Value) (a b c x y z : Value) (i : Nat) (h : es.length = i) : ((((es ++ [a, b, c]).set i x).set (i + 1) y).set (i + 2) z) = es ++ [x, y, z] := by
  subst h
  rw [List.set_append_right _ _ (Nat.le_refl _), List.set_append_right _ _ (by omega), List.set_append_right _ _ (by omega)]
  simp [Nat.sub_self]
theorem last3 (es : List Value) (a b c : Value) {i : Nat} (h : es.length = i) : (es ++ [a, b, c])[i]? = some a ∧ (es ++ [a, b, c])[i + 1]? = some b ∧ (es ++ [a, b, c])[i + 2]? = some c := by
  subst h
  refine ⟨?_, ?_, ?_⟩
  · rw [List.getElem?_append_right (Nat.le_refl _), Nat.sub_self]; rfl
  · rw [List.getElem?_append_right (by omega), Nat.add_sub_cancel_left]; rfl
  · rw [List.getElem?_append_right (by omega), Nat.add_sub_cancel_left]; rfl
/-- The last element of a row is written. -/
theorem owns_last {w : World} {g n cap : Nat} {e : TypeId} {es : List Value} {a b c x y z : Value} (h : w.ownsRow 0 e 3 (.slice (some ⟨g, 0, none⟩) (n + 1) cap) (n + 1) (es ++ [a, b, c])) (hl : es.length = n * 3) :
    (((w.setCell ⟨g, n * 3, none⟩ x).setCell ⟨g, n * 3 + 1, none⟩ y).setCell ⟨g, n * 3 + 2, none⟩ z).ownsRow 0 e 3 (.slice (some ⟨g, 0, none⟩) (n + 1) cap) (n + 1) (es ++ [x, y, z]) := by
  have h1 := ((((h.stored (n * 3) x).1).stored (n * 3 + 1) y).1.stored (n * 3 + 2) z).1
  rw [set_last3 es a b c x y z (n * 3) hl] at h1
  exact h1
theorem kb_set3at (w : World) (g i j k : Nat) (x y z : Value) : Kb g w (((w.setCell ⟨g, i, none⟩ x).setCell ⟨g, j, none⟩ y).setCell ⟨g, k, none⟩ z) :=
  ⟨rfl, rfl, rfl, by simp, fun q _ hq => by rw [heap_set_other _ _ _ _ hq, heap_set_other _ _ _ _ hq, heap_set_other _ _ _ _ hq]⟩
theorem set_comm (w : World) (g q i j : Nat) (u v : Value) (h : g ≠ q) : (w.setCell ⟨g, i, none⟩ u).setCell ⟨q, j, none⟩ v = (w.setCell ⟨q, j, none⟩ v).setCell ⟨g, i, none⟩ u := by
  unfold World.setCell
  simp only
  congr 1
  apply Array.ext (by simp)
  intro k h1 h2
  simp only [Array.getElem_modify]
  by_cases e1 : g = k
  · have e2 : ¬ q = k := fun e => h (e1.trans e.symm)
    simp [e1, e2]
  · simp [e1]
/-- The boxes, and the policy's list. -/
structure RF (p : Pol) (vf : Value) (b5 b6 b9 : Nat) (S : Nat → Prop) (w : World) : Prop where
  h5 : w.heap[b5]? = some (.cells #[.int .i64 p.D, vf, .int .i64 p.P] 24 (0, 0))
  h6 : w.heap[b6]? = some (.cells #[.int .i64 0, .int .i64 0, .slice none 0 0] 28 (0, 0))
  fl : FlS (fun g => S g ∨ g = b9) w vf p.fl
  n5 : ¬ (S b5 ∨ b5 = b9)
  n6 : ¬ (S b6 ∨ b6 = b9)
section
variable {p : Pol} {vf : Value} {b5 b6 b9 bk n : Nat} {Q S0 S S' : Nat → Prop} {l0 : List Nat} {w0 w wr w' : World} {b : Option (Tr × Int)} {least : Int}
theorem RF.kx (h : RF p vf b5 b6 b9 S w) (k : KX (fun g => S g ∨ g = b9) w (fun g => S' g ∨ g = b9) w') : RF p vf b5 b6 b9 S' w' :=
  ⟨(k.block _ (Array.getElem?_eq_some_iff.1 h.h5).1 h.n5).trans h.h5, (k.block _ (Array.getElem?_eq_some_iff.1 h.h6).1 h.n6).trans h.h6, h.fl.kx k, k.outS (Array.getElem?_eq_some_iff.1 h.h5).1 h.n5, k.outS (Array.getElem?_eq_some_iff.1 h.h6).1 h.n6⟩
theorem FlS.less {w : World} {v : Value} {l : List Int} (h : FlS S w v l) (hs : ∀ g, S' g → S g) : FlS S' w v l := by
  obtain ⟨o, c, e, h⟩ := h
  refine ⟨o, c, e, fun hl => ?_⟩
  obtain ⟨g, off, e2, hg, hc⟩ := h hl
  exact ⟨g, off, e2, ⟨hg.1, fun hS => hg.2 (hs g hS)⟩, hc⟩
theorem FlS.add {w w' : World} {v : Value} {l : List Int} {b : Nat} (h : FlS S w v l) (k : Kp w w') (hb : w.heap.size ≤ b) : FlS (fun g => S g ∨ g = b) w' v l := by
  obtain ⟨o, c, e, h⟩ := h
  refine ⟨o, c, e, fun hl => ?_⟩
  obtain ⟨g, off, e2, hg, hc⟩ := h hl
  exact ⟨g, off, e2, ⟨Nat.lt_of_lt_of_le hg.1 k.size, fun hS => by
    rcases hS with hS | hS
    · exact hg.2 hS
    · omega⟩, fun i hi => k.later (hc i hi)⟩
theorem RF.cells (h : RF p vf b5 b6 b9 S w) : w.cell? ⟨b5, 0, none⟩ = some (.int .i64 p.D) ∧ w.cell? ⟨b5, 1, none⟩ = some vf ∧ w.cell? ⟨b5, 2, none⟩ = some (.int .i64 p.P) := (row3_facts h.h5).1
/-- w0: the world behind the boxes; l0: the lengths known at the call's beginning; b: the best so far, at b9; least: what it costs. -/
structure RS (p : Pol) (Q : Nat → Prop) (bk b9 n : Nat) (w0 : World) (S0 : Nat → Prop) (l0 : List Nat) (S : Nat → Prop) (b : Option (Tr × Int)) (least : Int) (wr : World) : Prop where
  ki : ∃ ext, KI p (fun g => Q g ∧ g ≠ b9) S bk wr (l0 ++ ext) ∧ ∀ i ∈ ext, rank i < rank n
  kx : KX (fun g => S0 g ∨ g = b9) w0 (fun g => S g ∨ g = b9) wr
  nb : ¬ S b9
  bb : ∃ k n0 o m c, wr.heap[b9]? = some (.cells #[.int .i64 k, .int .i64 n0, .slice o m c] 28 (0, 0)) ∧ BVal (fun g => (Q g ∧ g ≠ b9) ∧ ¬ S g) wr b k n0 (.slice o m c) least
theorem RS.kp (h : RS p Q bk b9 n w0 S0 l0 S b least wr) (k : Kp wr w') : RS p Q bk b9 n w0 S0 l0 S b least w' := by
  obtain ⟨⟨ext, h1, h2⟩, h3, h4, ⟨k0, n0, o, m, c, h5, h6⟩⟩ := h
  exact ⟨⟨ext, h1.kp k, h2⟩, h3.kp k, h4, ⟨k0, n0, o, m, c, (k.block _ (Array.getElem?_eq_some_iff.1 h5).1).trans h5, h6.kp k⟩⟩
theorem RS.lst (h : RS p Q bk b9 n w0 S0 l0 S b least wr) : (∀ T0 C0, b = some (T0, C0) → least = C0 ∧ 0 ≤ C0) ∧ (b = none → least < 0) ∧ -1 ≤ least ∧ least ≤ 4611686018427387905 := by
  obtain ⟨k0, n0, o, m, c, h5, h6⟩ := h.bb
  exact h6.least
theorem RS.b9lt (h : RS p Q bk b9 n w0 S0 l0 S b least wr) : b9 < wr.heap.size := by
  obtain ⟨k0, n0, o, m, c, h5, h6⟩ := h.bb
  exact (Array.getElem?_eq_some_iff.1 h5).1
theorem RS.slt (h : RS p Q bk b9 n w0 S0 l0 S b least wr) : ∀ g, S g → g < wr.heap.size := by
  obtain ⟨ext, ⟨_, _, _, _, _, hM, _⟩, _⟩ := h.ki
  exact hM.lt
theorem RS.mono {Q' : Nat → Prop} (h : RS p Q bk b9 n w0 S0 l0 S b least wr) (hQ : ∀ g, g < wr.heap.size → Q g → Q' g) : RS p Q' bk b9 n w0 S0 l0 S b least wr := by
  obtain ⟨⟨ext, h1, h2⟩, h3, h4, ⟨k0, n0, o, m, c, h5, h6⟩⟩ := h
  exact ⟨⟨ext, h1.mono fun g hg hq => ⟨hQ g hg hq.1, hq.2⟩, h2⟩, h3, h4, ⟨k0, n0, o, m, c, h5, h6.mono fun g hg hq => ⟨⟨hQ g hg hq.1.1, hq.1.2⟩, hq.2⟩⟩⟩
/-- A block of the call's own, in which no tree lies, has turned. -/
theorem RS.fresh {B : Nat} (h : RS p Q bk b9 n w0 S0 l0 S b least wr) (hB : w0.heap.size ≤ B) (h9 : b9 ≠ B) (hS : ¬ S B) (hQ : ∀ g, Q g → g ≠ B) (hk : Kb B wr w') : RS p Q bk b9 n w0 S0 l0 S b least w' := by
  obtain ⟨⟨ext, h1, h2⟩, h3, h4, ⟨k0, n0, o, m, c, h5, h6⟩⟩ := h
  exact ⟨⟨ext, h1.kb hS (fun g hg => hQ g hg.1) hk, h2⟩, h3.fresh hB hk, h4, ⟨k0, n0, o, m, c, (hk.block b9 (Array.getElem?_eq_some_iff.1 h5).1 h9).trans h5, h6.kb (fun g hg => hQ g hg.1.1) hk⟩⟩
/-- A better one. -/
theorem RS.take (h : RS p Q bk b9 n w0 S0 l0 S b least wr) {T : Tr} {c : Int} {k n0 : Int} {o : Option Addr} {m cc : Nat} (c0 : 0 ≤ c) (c1 : c ≤ 4611686018427387905) (hl : least < 0 ∨ c < least)
    (hox : OX (fun g => (Q g ∧ g ≠ b9) ∧ ¬ S g) wr T (.agg #[.int .i64 k, .int .i64 n0, .slice o m cc])) :
    RS p Q bk b9 n w0 S0 l0 S (offer b T c) c (((wr.setCell ⟨b9, 0, none⟩ (.int .i64 k)).setCell ⟨b9, 1, none⟩ (.int .i64 n0)).setCell ⟨b9, 2, none⟩ (.slice o m cc)) := by
  have e := offer_take (T := T) h.lst.1 hl
  rw [e]
  obtain ⟨⟨ext, h1, h2⟩, h3, h4, ⟨k0, n1, o1, m1, c1', h5, h6⟩⟩ := h
  have hk := kb_set3 wr b9 (.int .i64 k) (.int .i64 n0) (.slice o m cc)
  exact ⟨⟨ext, h1.kb h4 (fun g hg => hg.2) hk, h2⟩, h3.trans (.kb hk), h4, ⟨k, n0, o, m, cc, heap_set3 _ _ _ _ _ _ _ _ _ _ h5, BVal.take c0 c1 (hox.stay hk.size (fun g hg hq => hk.block g hg hq.1.2) (fun _ _ hq => hq))⟩⟩
theorem RS.put (h : RS p Q bk b9 n w0 S0 l0 S b least wr) {T : Tr} {c : Int} {k n0 : Int} {o : Option Addr} {m cc : Nat} (c0 : 0 ≤ c) (c1 : c ≤ 4611686018427387905) (hl : least < 0 ∨ c < least) (hk : Kb b9 wr w')
    (hb : w'.heap[b9]? = some (.cells #[.int .i64 k, .int .i64 n0, .slice o m cc] 28 (0, 0))) (hox : OX (fun g => (Q g ∧ g ≠ b9) ∧ ¬ S g) w' T (.agg #[.int .i64 k, .int .i64 n0, .slice o m cc])) :
    RS p Q bk b9 n w0 S0 l0 S (offer b T c) c w' := by
  have e := offer_take (T := T) h.lst.1 hl
  rw [e]
  obtain ⟨⟨ext, h1, h2⟩, h3, h4, _⟩ := h
  exact ⟨⟨ext, h1.kb h4 (fun g hg => hg.2) hk, h2⟩, h3.trans (.kb hk), h4, ⟨k, n0, o, m, cc, hb, BVal.take c0 c1 hox⟩⟩
theorem OX.kb9 {T : Tr} {v : Value} (h : OX (fun g => (Q g ∧ g ≠ b9) ∧ ¬ S g) wr T v) (hk : Kb b9 wr w') : OX (fun g => (Q g ∧ g ≠ b9) ∧ ¬ S g) w' T v :=
  h.stay hk.size (fun g hg hq => hk.block g hg hq.1.2) (fun _ _ hq => hq)
/-- None better. -/
theorem RS.keep (h : RS p Q bk b9 n w0 S0 l0 S b least wr) {T : Tr} {c : Int} (h0 : ¬ least < 0) (h1 : ¬ c < least) : RS p Q bk b9 n w0 S0 l0 S (offer b T c) least wr := by
  rw [offer_keep h.lst.1 h.lst.2.1 h0 h1]
  exact h
theorem RS.start {w : World} (hK : KI p Q S bk w l0) (k : Kp w w0) (hb : w.heap.size ≤ b9) (h : w0.heap[b9]? = some (.cells #[.int .i64 0, .int .i64 0, .slice none 0 0] 28 (0, 0))) : RS p Q bk b9 n w0 S l0 S none (-1) w0 :=
  ⟨⟨[], by rw [List.append_nil]; exact (hK.mono fun g hg hq => ⟨hq, by omega⟩).kp k, fun i hi => by cases hi⟩, KX.refl _ _, fun hS => by obtain ⟨_, _, _, _, _, h1, _⟩ := hK; have := h1.lt b9 hS; omega, ⟨_, _, _, _, _, h, rfl, rfl, rfl, rfl⟩⟩
/-- A call within. -/
theorem RS.call {m : Nat} (hrec : RSpec p vf m) (hm : rank m < rank n) (hQ : ∀ g, wr.heap.size ≤ g → Q g) (hF : RF p vf b5 b6 b9 S wr) (h : RS p Q bk b9 n w0 S0 l0 S b least wr) :
    Calls Tryd.prog 32 #[.pointer (some ⟨bk, 0, none⟩), .int .i64 m, .agg #[.int .i64 p.D, vf, .int .i64 p.P]] wr fun e w' => ∃ k n0 o mm c cost S', e = .returned (.tuple #[.agg #[.int .i64 k, .int .i64 n0, .slice o mm c], .int .i64 cost]) ∧
      BVal (fun g => (Q g ∧ g ≠ b9) ∧ ¬ S' g) w' (best p m) k n0 (.slice o mm c) cost ∧ RS p Q bk b9 n w0 S0 l0 S' b least w' ∧ KX S wr S' w' := by
  have h9 := h.b9lt
  obtain ⟨⟨ext, h1, h2⟩, h3, h4, ⟨k0, n1, o1, m1, c1', h5, h6⟩⟩ := h
  refine (hrec (fun g => Q g ∧ g ≠ b9) S bk wr (l0 ++ ext) (fun g hg => ⟨hQ g hg, by omega⟩) (hF.fl.less fun g hg => .inl hg) h1).mono ?_
  rintro e w' ⟨k, n0, o, mm, c, cost, S', ext', rfl, hB, hK, hX, hR⟩
  refine ⟨k, n0, o, mm, c, cost, S', rfl, hB, ⟨⟨ext ++ ext', by rw [← List.append_assoc]; exact hK, fun i hi => ?_⟩, h3.trans (hX.or b9), hX.outS h9 h4, ⟨k0, n1, o1, m1, c1', (hX.block b9 h9 h4).trans h5, h6.kx hX⟩⟩, hX⟩
  rcases List.mem_append.1 hi with hi | hi
  · exact h2 i hi
  · have := hR i hi; omega
/-- The length is known now; the result's box has turned. -/
theorem RS.finish {w : World} {Q' S3 : Nat → Prop} (hQQ : ∀ g, Q g → Q' g) {w3 w4 : World} {ext : List Nat} {vN vO vC : Value} {es cs : List Value} {k n0 : Int} {o : Option Addr} {m c : Nat} (hn1 : 1 ≤ n) (hn2 : n ≤ 16384) (hn : n ∉ l0) (hext : ∀ i ∈ ext, rank i < rank n) (hkw : Kp w w0) (hb : w.heap.size ≤ b9) (hb6 : w.heap.size ≤ b6) (h6 : b6 < w0.heap.size) (h66 : b6 ≠ b9)
    (hS6 : ¬ S0 b6) (hQ6 : ∀ g, Q g → g ≠ b6) (he : es.length = (l0 ++ ext).length * 3) (hc : cs.length = (l0 ++ ext).length) (hkx : KX (fun g => S0 g ∨ g = b9) w0 (fun g => S g ∨ g = b9) wr) (hE : KE p (fun g => Q g ∧ g ≠ b9) S wr (l0 ++ ext) es cs) (hB : BVal (fun g => (Q g ∧ g ≠ b9) ∧ ¬ S g) wr (best p n) k n0 (.slice o m c) least)
    (hM : KM S3 bk w3 vN ((l0 ++ ext).length + 1) (keyCells (l0 ++ ext) ++ [.int .i64 (n : Nat)]) vO ((l0 ++ ext).length + 1) (es ++ [.int .i64 k, .int .i64 n0, .slice o m c]) vC ((l0 ++ ext).length + 1) (cs ++ [.int .i64 least])) (hX : KX S wr S3 w3) (hk4 : Kb b6 w3 w4) (h9S : ¬ S b9) (h9lt : b9 < wr.heap.size) :
    BVal (fun g => Q' g ∧ ¬ S3 g) w4 (best p n) k n0 (.slice o m c) least ∧ KI p Q' S3 bk w4 (l0 ++ (ext ++ [n])) ∧ KX S0 w S3 w4 ∧ ∀ i ∈ ext ++ [n], rank i ≤ rank n := by
  have hk3 := hkx.trans (hX.or b9)
  have h63 : ¬ S3 b6 := fun h => hk3.outS h6 (fun e => by
    rcases e with e | e
    · exact hS6 e
    · exact h66 e) (.inl h)
  have hB3 := hB.kx hX
  have hE3 := hE.kx hX
  have hnn : n ∉ l0 ++ ext := fun h => by
    rcases List.mem_append.1 h with h | h
    · exact hn h
    · have := hext n h; omega
  have hE4 := hE3.push he hc hnn hn1 hn2 hB3
  have hE5 := (hE4.mono (Q' := Q) (fun g _ h => h.1)).kb hQ6 hk4
  have hM5 := hM.kb h63 hk4
  rw [← keyCells_snoc] at hM5
  have el : (l0 ++ ext).length + 1 = (l0 ++ ext ++ [n]).length := by simp [Nat.add_assoc]
  rw [el] at hM5
  rw [← List.append_assoc]
  refine ⟨?_, ⟨vN, vO, vC, _, _, hM5, hE5.mono fun g _ h => hQQ g h⟩, ?_, fun i hi => ?_⟩
  · exact ((hB3.mono (Q' := fun g => Q g ∧ ¬ S3 g) (fun g _ h => ⟨h.1.1, h.2⟩)).kb (fun g h => hQ6 g h.1) hk4).mono fun g _ h => ⟨hQQ g h.1, h.2⟩
  · exact (hk3.up hkw hb).fresh hb6 hk4
  · rcases List.mem_append.1 hi with hi | hi
    · exact Nat.le_of_lt (hext i hi)
    · obtain rfl := List.mem_singleton.1 hi; exact Nat.le_refl _
end
end Go.Proofs.YtgjlldapnodfbaaDoor
