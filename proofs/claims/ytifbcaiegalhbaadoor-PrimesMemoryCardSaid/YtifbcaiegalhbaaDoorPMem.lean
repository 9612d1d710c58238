/-
  The walk of PrimesMemory.
-/
import Derived.Test.YtifbcaiegalhbaaDoorPOwn
import Derived.Test.YtifbcaiegalhbaaDoorPGone
import Derived.Test.YtifbcaiegalhbaaDoorPFixed
namespace Go.Proofs.YtifbcaiegalhbaaDoor
open Go Go.RowKit Go.Shelf Go.Fl Go.Pr
attribute [local go_sem] Oper.semAt_some
attribute [local go_sem] eql_func

theorem Kx.to_kp {B : Nat → Prop} {w a b : World} (h : Kx B a b) (h0 : Kp w a) (hB : ∀ k, B k → w.heap.size ≤ k) : Kp w b :=
  ⟨h.os.trans h0.os, h.tape.trans h0.tape, h.output.trans h0.output, Nat.le_trans h0.size h.size, fun k hk =>
    (h.block k (Nat.lt_of_lt_of_le hk h0.size) (fun hb => by have := hB k hb; omega)).trans (h0.block k hk)⟩
theorem ownFrom_heap {β : Type} {B j : Nat} {o : β → Obj} (hj : j < B) : OwnFrom B (fun (s : β) W => W.heap[j]? = some (o s)) := by
  intro s W W' row hs hg hr
  refine (hg.block j (Array.getElem?_eq_some_iff.1 hs).1 (fun e => ?_)).trans hs
  have := (hr j e.symm).1
  omega
theorem ownFrom_const {β : Type} {B : Nat} {p : β → Prop} : OwnFrom B (fun (s : β) (_ : World) => p s) := fun _ _ _ _ hs _ _ => hs
section
variable {F : Fence} {n : Nat} {P : Program}
theorem wpIn_cutloop {c : Code} {id : Nat} {Q : Exit → Act → World → Prop} {a : Act} {w : World} (R : Nat → World → Prop)
    (h : c.wpIn F n P (fun e a' W' => (e = .normal ∨ e = .exit id) ∧ ∃ D, R D W' ∧ a' = { a with defers := { target := .collected D, args := #[] } :: a.defers }) a w)
    (k : ∀ D W', R D W' → Q .normal { a with defers := { target := .collected D, args := #[] } :: a.defers } W') : c.wpIn F n P (Exit.inBlock id Q) a w :=
  wpIn_mono h (by
    rintro e a' W' ⟨rfl | rfl, D, hR, rfl⟩
    · exact k D W' hR
    · show (if id = id then Q .normal _ _ else Q (.exit id) _ _)
      rw [if_pos rfl]; exact k D W' hR)
end
theorem pre_snoc_not {D pre : List Nat} {x : Nat} (h : D.length ≤ pre.length) : ¬ (pre ++ [x]) <+: D := fun k => by
  have := k.length_le
  simp at this
  omega
theorem pre_snoc {D pre : List Nat} {x : Nat} (h : pre <+: D) (hl : pre.length < D.length) : (pre ++ [x]) <+: D ↔ x = D[pre.length] := by
  obtain ⟨r, rfl⟩ := h
  cases r with
  | nil => simp at hl
  | cons y r =>
    have e : (pre ++ y :: r)[pre.length] = y := by simp
    rw [e]
    constructor
    · rintro ⟨s, hs⟩
      rw [List.append_assoc] at hs
      have := List.append_cancel_left hs
      simp at this
      exact this.1
    · rintro rfl
      exact ⟨r, by simp⟩
theorem two_i {i : Nat} (h : i < 2) : i = 0 ∨ i = 1 := by omega
/-- OwnInts at two lists that this call has made: a third and a fourth stay. -/
theorem own_two (L : List Nat) (w1 w2 w3 w4 w5 w7 : World) (v2 va vb vc : Value) (hL : L.length ≤ 4294967296) (h2 : IL w2 w1.heap.size v2 L) (ha : IL w3 w2.heap.size va L) (hb : IL w4 w3.heap.size vb L) (hc : IL w5 w4.heap.size vc L)
    (k3 : Kp w2 w3) (k4 : Kp w3 w4) (k5 : Kp w4 w5) (k7 : Kp w5 w7) :
    Calls Tryd.prog 36 #[.slice (some ⟨w7.heap.size, 0, none⟩) 2 2] (w7.alloc (.cells #[va, vb] 44)) fun e w8 => e = .returned (.bool true) ∧ Kp w2 w8 ∧ IL w8 w1.heap.size v2 L ∧ IL w8 w4.heap.size vc L := by
  have s3 := k3.size
  have s4 := k4.size
  have s5 := k5.size
  have s7 := k7.size
  have la := fun g h => ha.lt g h
  have lb := fun g h => hb.lt g h
  have lc := fun g h => hc.lt g h
  have l2 := fun g h => h2.lt g h
  have kA : Kp w7 (w7.alloc (.cells #[va, vb] 44)) := (Kp.refl w7).alloc _
  have hBl : ∀ g, Bl (fun i => if i = 0 then va else vb) g → w2.heap.size ≤ g ∧ g < w4.heap.size := fun g ⟨i, hi, e⟩ => by
    rcases two_i hi with rfl | rfl
    · have := la g e; omega
    · have := lb g e; omega
  refine (OwnInts_any w7.heap.size 2 w2.heap.size L.length (fun i => if i = 0 then va else vb) (fun _ => ints L) _ hL ?_ ?_).mono ?_
  · refine ⟨fun i hi => ?_, fun i hi => ?_, fun i j hi hj hij g hg => ?_, fun i hi g hg => ?_, by simp, by simp; omega, fun i hi c hc => ?_, fun i hi a c hc => ?_⟩
    · rcases two_i hi with rfl | rfl
      · rw [cell_of_row _ _ 0 _ _ _ (heap_alloc_new w7 _)]; rfl
      · rw [cell_of_row _ _ 1 _ _ _ (heap_alloc_new w7 _)]; rfl
    · rcases two_i hi with rfl | rfl
      · exact IL.form ha
      · exact IL.form hb
    · rcases two_i hi with rfl | rfl <;> rcases two_i hj with rfl | rfl
      · exact absurd rfl hij
      · have := la g hg
        intro h; have := lb g h; omega
      · have := lb g hg
        intro h; have := la g h; omega
      · exact absurd rfl hij
    · have := hBl g ⟨i, hi, hg⟩
      exact ⟨this.1, by simp; omega, by omega⟩
    · have key : ∀ (x : Value) (ww : World) (b : Nat), IL ww b x L → x = .slice none L.length c → L.length = 0 := fun x ww b h e => by
        rcases h.2 with ⟨_, h0⟩ | ⟨g, cap, cur, hv, _⟩
        · exact h0
        · rw [hv] at e; cases e
      rcases two_i hi with rfl | rfl
      · exact key _ _ _ ha hc
      · exact key _ _ _ hb hc
    · have key : ∀ (x : Value) (ww : World) (b : Nat), IL ww b x L → x = .slice (some a) L.length c → ∃ g, a = ⟨g, 0, none⟩ ∧ x.ownBlock = some g := fun x ww b h e => by
        rcases h.2 with ⟨h0, _⟩ | ⟨g, cap, cur, hv, _⟩
        · rw [h0] at e; cases e
        · rw [hv] at e; cases e
          exact ⟨g, rfl, by rw [hv]; rfl⟩
      rcases two_i hi with rfl | rfl
      · exact key _ _ _ ha hc
      · exact key _ _ _ hb hc
  · intro i hi
    rcases two_i hi with rfl | rfl
    · exact (((((IL.kp ha k4).kp k5).kp k7).kp kA).mono (Nat.le_refl _))
    · exact (((IL.kp hb k5).kp k7).kp kA).mono (by omega)
  · rintro e w8 ⟨rfl, hx⟩
    refine ⟨rfl, hx.to_kp ((((k3.trans k4).trans k5).trans k7).trans kA) fun k hk => (hBl k hk).1, ?_, ?_⟩
    · exact hx.owns (((((IL.kp h2 k3).kp k4).kp k5).kp k7).kp kA) fun g hg h => by have := l2 g hg; have := hBl g h; omega
    · exact hx.owns ((IL.kp hc k7).kp kA) fun g hg h => by have := lc g hg; have := hBl g h; omega
set_option maxRecDepth 100000 in
set_option maxHeartbeats 8000000 in
theorem pmem_any (n stop : Int) (E : Nat → Addr) (w : World) (hE : Ers w E) :
    Calls Tryd.prog 10 #[.int .i64 n, .int .i64 stop] w fun e w' => e = .returned (.bool true) ∧ Kp w w' := by
  refine (callsIn_wide (n := 3)).1 ?_
  obtain ⟨L, hL⟩ : ∃ L, factsI n = L := ⟨_, rfl⟩
  obtain ⟨D, hD⟩ : ∃ D, divsI n = D := ⟨_, rfl⟩
  have hlen : L.length ≤ 4294967296 := by
    rw [← hL]; unfold factsI
    split
    · simp
    · have := facts_length n.toNat; omega
  have hDl : D.length ≤ 5000 := by rw [← hD]; exact divsI_le n
  have C0 : Hid (∀ w', Kp w w' → CallsIn Fence.wide 2 Tryd.prog 11 #[] w' fun e w'' => e = .returned (.bool true) ∧ Kp w' w'') := Lib.hid fun w' hk => callsIn_wide.2 (fixed_any E w' (hE.kp hk))
  have C1 : Hid (∀ w', CallsIn Fence.wide 2 Tryd.prog 33 #[.int .i64 n] w' fun e w'' => ∃ v, e = .returned v ∧ IL w'' w'.heap.size v L ∧ Kp w' w'') := Lib.hid fun w' => callsIn_wide.2 (by have := rFactors_any n w'; rw [hL] at this; exact this)
  have C2 : Hid (∀ w', CallsIn Fence.wide 2 Tryd.prog 26 #[.int .i64 n] w' fun e w'' => ∃ v, e = .returned v ∧ IL w'' w'.heap.size v L ∧ Kp w' w'') := Lib.hid fun w' => callsIn_wide.2 (by have := Factors_any n w'; rw [hL] at this; exact this)
  have C3 : Hid (∀ va vb ba bb w', IL w' ba va L → IL w' bb vb L → CallsIn Fence.wide 2 Tryd.prog 32 #[va, vb] w' fun e w'' => e = .returned (.bool true) ∧ Kp w' w'') := Lib.hid fun va vb ba bb w' h1 h2 => callsIn_wide.2 ((SameInts_yes va vb ba bb L w' (by omega) h1 h2).mono fun e w'' ⟨h3, h4⟩ => ⟨h3, h4.kp⟩)
  have C4 : Hid (∀ w', CallsIn Fence.wide 2 Tryd.prog 29 #[.int .i64 n] w' fun e w'' => ∃ v, e = .returned (.tuple #[v, .bool true]) ∧ IL w'' w'.heap.size v D ∧ Kp w' w'') := Lib.hid fun w' => callsIn_wide.2 (by have := gone_any n w'; rw [hD] at this; exact this)
  have HD := Lib.hid hD
  clear hE hL hD
  refine callsIn_of_wp_marks Tryd.func10 rfl trivial ?_ rfl
  simp only [Tryd.ntmps10, List.size_toArray, List.length_cons, List.length_nil, Nat.reduceAdd, Nat.reduceSub, Array.replicate_succ, Array.replicate_zero, List.push_toArray, List.append_toArray, List.nil_append, List.cons_append]
  obtain ⟨w0, hw0⟩ : ∃ w0, (w.alloc (.cells #[.int .i64 stop] 3)).alloc (.cells #[.bool false] 4) = w0 := ⟨_, rfl⟩
  have k00 : Kp w w0 := by rw [← hw0]; exact ((Kp.refl w).alloc _).alloc _
  have f1 : Fence.wide.fn 11 := trivial
  have f2 : Fence.wide.fn 33 := trivial
  have f3 : Fence.wide.fn 26 := trivial
  have f4 : Fence.wide.fn 32 := trivial
  have f5 : Fence.wide.fn 36 := trivial
  have f6 : Fence.wide.fn 29 := trivial
  have f7 : Fence.wide.fn 37 := trivial
  have f8 : Fence.wide.fn 47 := trivial
  gi_wp2_with (first
    | (gi_at_call 11; refine (C0.out _ k00).mono ?_; rintro e w1 ⟨rfl, hk1⟩)
    | (gi_at_call 33; refine (C1.out _).mono ?_; rintro e w2 ⟨v2, rfl, hI2, hk2⟩; have t1 := hk2)
    | (gi_at_call 26; have _t := t1; refine (C2.out _).mono ?_; rintro e w3 ⟨va, rfl, hIa, hk3⟩; have t2 := hk3; clear t1 _t)
    | (gi_at_call 26; have _t := t2; refine (C2.out _).mono ?_; rintro e w4 ⟨vb, rfl, hIb, hk4⟩; have t3 := hk4; clear t2 _t)
    | (gi_at_call 26; have _t := t3; refine (C2.out _).mono ?_; rintro e w5 ⟨vc, rfl, hIc, hk5⟩; obtain ⟨oa, ca, rfl⟩ := IL.form hIa; obtain ⟨ob, cb, rfl⟩ := IL.form hIb; have t4 := hk5; clear t3 _t)
    | (gi_at_call 32; have _t := t4; refine (C3.out _ v2 _ _ _ ((hIa.kp hk4).kp hk5) (((hI2.kp hk3).kp hk4).kp hk5)).mono ?_; rintro e w6 ⟨rfl, hk6⟩; have t5 := hk6; clear t4 _t)
    | (gi_at_call 32; have _t := t5; refine (C3.out _ v2 _ _ _ ((hIb.kp hk5).kp hk6) ((((hI2.kp hk3).kp hk4).kp hk5).kp hk6)).mono ?_; rintro e w7 ⟨rfl, hk7⟩; have t6 := hk7; clear t5 _t)
    | (gi_at_call 36; refine (callsIn_wide.2 (own_two L w1 w2 w3 w4 w5 w7 v2 _ _ vc hlen hI2 hIa hIb hIc hk3 hk4 hk5 (hk6.trans hk7))).mono ?_; rintro e w8 ⟨rfl, hk8, hI28, hIc8⟩; clear hI2 hIa hIb hIc hk3 hk4 hk5 hk6 hk7)
    | (gi_at_call 32; refine (C3.out vc v2 _ _ _ hIc8 hI28).mono ?_; rintro e w9 ⟨rfl, hk9⟩)
    | (gi_at_call 29; refine (C4.out _).mono ?_; rintro e w10 ⟨vd, rfl, hId, hk10⟩; obtain ⟨od, cd, rfl⟩ := IL.form hId)
    | (gi_at_call 37; refine (div_in Fence.wide 2 f7 rfl _ _).mono ?_; rintro e w11 ⟨rfl, rfl⟩))
  have hkA := (((hk1.trans hk2).trans hk8).trans hk9).trans hk10
  have bS0 : Boxed w0 w.heap.size 3 (.int .i64 stop) := by rw [← hw0]; exact (Boxed.new w 3 (.int .i64 stop)).alloc _
  have bR0 : Boxed w0 (w.heap.size + 1) 4 (.bool false) := by
    rw [← hw0]
    have := Boxed.new (w.alloc (.cells #[.int .i64 stop] 3)) 4 (.bool false)
    rwa [World.size_alloc] at this
  have sz0 : w0.heap.size = w.heap.size + 1 + 1 := by rw [← hw0]; simp
  have sA := hkA.size
  have bS1 : Boxed w10 w.heap.size 3 (.int .i64 stop) := (hkA.block _ (by omega)).trans bS0
  have bR1 : Boxed w10 (w.heap.size + 1) 4 (.bool false) := (hkA.block _ (by omega)).trans bR0
  have bA := ((Boxed.new w10 44 (.slice od D.length cd)).alloc (.cells #[.int .i64 n] 3)).alloc (.cells #[.int .i64 0] 3)
  have bN := (Boxed.new (w10.alloc (.cells #[.slice od D.length cd] 44)) 3 (.int .i64 n)).alloc (.cells #[.int .i64 0] 3)
  have bK := Boxed.new ((w10.alloc (.cells #[.slice od D.length cd] 44)).alloc (.cells #[.int .i64 n] 3)) 3 (.int .i64 0)
  simp only [World.size_alloc] at bN bK
  have bS := ((bS1.alloc (.cells #[.slice od D.length cd] 44)).alloc (.cells #[.int .i64 n] 3)).alloc (.cells #[.int .i64 0] 3)
  have bR := ((bR1.alloc (.cells #[.slice od D.length cd] 44)).alloc (.cells #[.int .i64 n] 3)).alloc (.cells #[.int .i64 0] 3)
  have kW : Kp w10 (((w10.alloc (.cells #[.slice od D.length cd] 44)).alloc (.cells #[.int .i64 n] 3)).alloc (.cells #[.int .i64 0] 3)) := (((Kp.refl w10).alloc _).alloc _).alloc _
  have hIW := hId.kp kW
  obtain ⟨W0, hW0⟩ : ∃ W0, ((w10.alloc (.cells #[.slice od D.length cd] 44)).alloc (.cells #[.int .i64 n] 3)).alloc (.cells #[.int .i64 0] 3) = W0 := ⟨_, rfl⟩
  have hsz : W0.heap.size = w10.heap.size + 1 + 1 + 1 := by rw [← hW0]; simp
  simp only [hW0] at bA bN bK bS bR kW hIW ⊢
  clear hW0 bS0 bR0 bS1 bR1
  obtain ⟨B, hB⟩ : ∃ B, w10.heap.size = B := ⟨_, rfl⟩
  have HC : Hid (∀ i, (h : i < D.length) → ∃ g, od = some ⟨g, 0, none⟩ ∧ g < B ∧ W0.cell? ⟨g, i, none⟩ = some (.int .i64 ((D[i] : Nat) : Int))) := Lib.hid fun i h => by
    obtain ⟨g, c, e⟩ := IL.some hId (by omega)
    cases e
    have := (hId.lt g rfl).2
    exact ⟨g, rfl, by omega, IL.cell hIW i h⟩
  rw [hB] at hsz sA bA bN bK
  simp only [hB]
  clear hIW hId
  refine wpIn_cutloop (fun D1 W => B + 1 + 1 < D1 ∧ W.heap[D1]? = some (.deferred (some [])) ∧ (∃ k : Nat, ((k = D.length) ∨ (k : Int) = stop) ∧ Boxed W (B + 1 + 1) 3 (.int .i64 k)) ∧ Below (B + 1 + 1) W0 W) ?loop ?rest
  case loop =>
    refine wpIn_rangeFunc_ownG rfl (by decide) (gf := 47) (lb := #[.pointer (some ⟨B + 1, 0, none⟩)]) rfl f8 (enters_of Tryd.func47 (by kernel_rfl) rfl)
      (div_stops Fence.wide 2 f8 rfl (by decide) (B + 1) (B + 1 + 1) n W0 (by omega) (by omega) bN.cell) belowK_t (belowK_b (by omega)) (Below.refl _ _) (fun _ => rfl)
      (fun pre W => Boxed W (B + 1 + 1) 3 (.int .i64 pre.length) ∧ pre <+: D ∧ Below (B + 1 + 1) W0 W)
      (fun c pre W => (c = .ret ∧ ¬ pre <+: D) ∨ (c = .exit 0 ∧ (pre.length : Int) = stop ∧ Boxed W (B + 1 + 1) 3 (.int .i64 pre.length) ∧ Below (B + 1 + 1) W0 W))
      (OwnFrom.and (ownFrom_heap (j := B + 1 + 1) (o := fun pre : List Nat => .cells #[.int .i64 (pre.length : Int)] 3 (0, 0)) (by omega)) (OwnFrom.and ownFrom_const (ownFrom_below (by omega) (by omega)))) ?own2 ⟨bK, List.nil_prefix, Below.refl _ _⟩ ?a1 ?assign ?body ?done ?stop
    case assign =>
      intro l x W K hK
      gi_wp2
      exact hK
    case own2 =>
      intro c pre X X' row h hg hr
      rcases h with h | ⟨e1, e2, e3, e4⟩
      · exact .inl h
      · exact .inr ⟨e1, e2, ownFrom_heap (β := List Nat) (j := B + 1 + 1) (o := fun pre : List Nat => .cells #[.int .i64 (pre.length : Int)] 3 (0, 0)) (by omega) pre X X' row e3 hg hr, ownFrom_below (β := List Nat) (by omega) (by omega) pre X X' row e4 hg hr⟩
    case body =>
      rintro l pre x X ⟨hbk, hpre, hbel⟩ hlt
      have qS := (hbel.block (w.heap.size) (by omega)).trans bS
      have qA := (hbel.block B (by omega)).trans bA
      have qR : Boxed X (w.heap.size + 1) 4 (.bool false) := (hbel.block (w.heap.size + 1) (by omega)).trans bR
      have qS : Boxed X w.heap.size 3 (.int .i64 stop) := qS
      have qA : Boxed X B 44 (.slice od D.length cd) := qA
      have c1 := qS.cell
      have c2 := qA.cell
      have c3 := hbk.cell
      have c4 := hbk.frozen
      have c5 := qR.cell
      have c6 := qR.frozen
      have hXs := hbel.size
      obtain ⟨k, hk⟩ : ∃ k, pre.length = k := ⟨_, rfl⟩
      rw [hk] at c3
      by_cases hkl : k < D.length
      · obtain ⟨g, rfl, hgB, hcell⟩ := HC.out k hkl
        have c7 : X.cell? ⟨g, k, none⟩ = some (.int .i64 ((D[k] : Nat) : Int)) := (hbel.cell (p := ⟨g, k, none⟩) (by show g < _; omega)).trans hcell
        obtain ⟨y, hy⟩ : ∃ y, D[k] = y := ⟨_, rfl⟩
        rw [hy] at c7
        have d1 : decide ((D.length : Int) ≤ (k : Int)) = false := by simp; omega
        have d1' : ¬ ((D.length : Int) ≤ (k : Int)) := by omega
        have hpx := pre_snoc (x := x) hpre (by omega)
        by_cases hx : x = y
        · have hpy : (pre ++ [x]) <+: D := by rw [hpx]; rw [hx, ← hy]; congr 1; exact hk.symm
          have HP := Lib.hid hpy
          subst hx
          clear hpx hpy hcell hy
          have HL : Hid (((pre ++ [x]).length : Int) = (k : Int) + 1) := Lib.hid (by simp; omega)
          have HBK : Hid (∀ v, Boxed (X.setCell ⟨B + 1 + 1, 0, none⟩ v) (B + 1 + 1) 3 v ∧ Below (B + 1 + 1) X (X.setCell ⟨B + 1 + 1, 0, none⟩ v)) := Lib.hid fun v => ⟨hbk.set v, Below.setCell (Below.refl (B + 1 + 1) X) (p := ⟨B + 1 + 1, 0, none⟩) (Nat.le_refl (B + 1 + 1)) v⟩
          by_cases hs : (k : Int) + 1 = stop
          · have d2 : ((k : Int) + 1 == stop) = true := by simp [hs]
            have HS := Lib.hid hs
            clear hs
            gi_wp2
            exact ⟨(KeepsOthers.setCell _ _ _).from _, .inr ⟨rfl, by rw [HL.out]; exact HS.out, by rw [HL.out]; exact (HBK.out _).1, hbel.trans (HBK.out _).2⟩⟩
          · have d2 : ((k : Int) + 1 == stop) = false := by simpa using hs
            clear hs
            gi_wp2
            exact ⟨(KeepsOthers.setCell _ _ _).from _, (HBK.out _).2, by rw [HL.out]; exact (HBK.out _).1, HP.out, hbel.trans (HBK.out _).2⟩
        · have hxy : ((x : Int) != (y : Int)) = true := by simp; omega
          have hne : ¬ (pre ++ [x]) <+: D := by rw [hpx]; intro h; apply hx; rw [h, ← hy]; congr 1
          have HP := Lib.hid hne
          clear hpx hne hcell hy hx
          gi_wp2
          exact ⟨(KeepsOthers.setCell _ _ _).from _, .inl ⟨rfl, HP.out⟩⟩
      · have d1 : decide ((D.length : Int) ≤ (k : Int)) = true := by simp; omega
        have d1' : ((D.length : Int) ≤ (k : Int)) := by omega
        have HP := Lib.hid (pre_snoc_not (x := x) (show D.length ≤ pre.length by omega))
        gi_wp2
        exact ⟨(KeepsOthers.setCell _ _ _).from _, .inl ⟨rfl, HP.out⟩⟩
    case done =>
      rintro D1 ys W h1 rfl ⟨hbk, hpre, hbel⟩ hD1
      exact ⟨.inl rfl, D1, ⟨by omega, hD1, ⟨_, .inl rfl, by rw [HD.out] at hbk; exact hbk⟩, hbel⟩, rfl⟩
    case stop =>
      rintro D1 c pre W h1 hpre h hD1
      rcases h with ⟨_, h⟩ | ⟨rfl, h3, h4, h5⟩
      · exact absurd (by rw [HD.out] at hpre; exact hpre) h
      · refine wpIn_exit ?_
        exact ⟨.inr rfl, D1, ⟨by omega, hD1, ⟨_, .inr h3, h4⟩, h5⟩, rfl⟩
  case rest =>
    rintro D1 W ⟨h1, h2, ⟨k, hk, hbk⟩, hbel⟩
    have qS : Boxed W w.heap.size 3 (.int .i64 stop) := (hbel.block (w.heap.size) (by omega)).trans bS
    have qA : Boxed W B 44 (.slice od D.length cd) := (hbel.block B (by omega)).trans bA
    have qR : Boxed W (w.heap.size + 1) 4 (.bool false) := (hbel.block (w.heap.size + 1) (by omega)).trans bR
    have qN : Boxed W (B + 1) 3 (.int .i64 n) := (hbel.block (B + 1) (by omega)).trans bN
    have c1 := qS.cell
    have c2 := qA.cell
    have c3 := hbk.cell
    have c4 := hbk.frozen
    have d3 : ((k : Int) != (D.length : Int) && (k : Int) != stop) = false := by
      rcases hk with hk | hk
      · subst hk; simp
      · rw [← hk]; simp
    clear hk
    gi_wp2
    all_goals
      clear c1 c2 c3 c4 d3
      have bel1 : Below (B + 1 + 1) W0 (W.setCell ⟨B + 1 + 1, 0, none⟩ (.int .i64 0)) := hbel.trans (Below.setCell (Below.refl (B + 1 + 1) W) (p := ⟨B + 1 + 1, 0, none⟩) (Nat.le_refl (B + 1 + 1)) _)
      have s1 := hbk.set (.int .i64 0)
      have hD1 := (KeepsOthers.setCell W ⟨B + 1 + 1, 0, none⟩ (.int .i64 0)).same D1 _ h2 rfl
      obtain ⟨W1, hW1⟩ : ∃ W1, W.setCell ⟨B + 1 + 1, 0, none⟩ (.int .i64 0) = W1 := ⟨_, rfl⟩
      simp only [hW1] at bel1 s1 hD1 ⊢
      clear hW1
      have sW1 := bel1.size
      have lD1 : D1 < W1.heap.size := (Array.getElem?_eq_some_iff.1 hD1).1
      have pN : Boxed W1 (B + 1) 3 (.int .i64 n) := (bel1.block (B + 1) (by omega)).trans bN
      refine wpIn_cutloop (fun D2 X => W1.heap.size ≤ D2 ∧ X.heap[D2]? = some (.deferred (some [])) ∧ X.heap[D1]? = some (.deferred (some [])) ∧ Boxed X (B + 1 + 1) 3 (.int .i64 D.length) ∧ Below (B + 1 + 1) W0 X) ?loop ?rest
      case loop =>
        refine wpIn_rangeFunc_ownG rfl (by decide) (gf := 47) (lb := #[.pointer (some ⟨B + 1, 0, none⟩)]) rfl f8 (enters_of Tryd.func47 (by kernel_rfl) rfl)
          (div_stops Fence.wide 2 f8 rfl (by decide) (B + 1) (B + 1 + 1) n W1 (by omega) (by omega) pN.cell) belowK_t (belowK_b (by omega)) (Below.refl _ _) (fun _ => rfl)
          (fun pre X => Boxed X (B + 1 + 1) 3 (.int .i64 pre.length) ∧ pre <+: D ∧ Below (B + 1 + 1) W0 X ∧ X.heap[D1]? = some (.deferred (some [])))
          (fun c pre X => c = .ret ∧ ¬ pre <+: D)
          (OwnFrom.and (ownFrom_heap (j := B + 1 + 1) (o := fun pre : List Nat => .cells #[.int .i64 (pre.length : Int)] 3 (0, 0)) (by omega)) (OwnFrom.and ownFrom_const (OwnFrom.and (ownFrom_below (by omega) (by omega)) (ownFrom_heap (β := List Nat) (j := D1) (o := fun _ => .deferred (some [])) lD1)))) (fun c => ownFrom_const) ⟨s1, List.nil_prefix, bel1, hD1⟩ ?_ ?assign ?body ?done ?stop
        case assign =>
          intro l x W K hK
          gi_wp2
          exact hK
        case body =>
          rintro l pre x X ⟨hbk, hpre, hbel, hXD⟩ hlt
          have qA : Boxed X B 44 (.slice od D.length cd) := (hbel.block B (by omega)).trans bA
          have qR : Boxed X (w.heap.size + 1) 4 (.bool false) := (hbel.block (w.heap.size + 1) (by omega)).trans bR
          have c2 := qA.cell
          have c3 := hbk.cell
          have c4 := hbk.frozen
          have c5 := qR.cell
          have c6 := qR.frozen
          have hXs := hbel.size
          obtain ⟨k, hk⟩ : ∃ k, pre.length = k := ⟨_, rfl⟩
          rw [hk] at c3
          by_cases hkl : k < D.length
          · obtain ⟨g, rfl, hgB, hcell⟩ := HC.out k hkl
            have c7 : X.cell? ⟨g, k, none⟩ = some (.int .i64 ((D[k] : Nat) : Int)) := (hbel.cell (p := ⟨g, k, none⟩) (by show g < _; omega)).trans hcell
            obtain ⟨y, hy⟩ : ∃ y, D[k] = y := ⟨_, rfl⟩
            rw [hy] at c7
            have d1 : decide ((D.length : Int) ≤ (k : Int)) = false := by simp; omega
            have d1' : ¬ ((D.length : Int) ≤ (k : Int)) := by omega
            have hpx := pre_snoc (x := x) hpre (by omega)
            by_cases hx : x = y
            · have hpy : (pre ++ [x]) <+: D := by rw [hpx]; rw [hx, ← hy]; congr 1; exact hk.symm
              have HP := Lib.hid hpy
              subst hx
              clear hpx hpy hcell hy
              have HL : Hid (((pre ++ [x]).length : Int) = (k : Int) + 1) := Lib.hid (by simp; omega)
              have HBK : Hid (∀ v, Boxed (X.setCell ⟨B + 1 + 1, 0, none⟩ v) (B + 1 + 1) 3 v ∧ Below (B + 1 + 1) X (X.setCell ⟨B + 1 + 1, 0, none⟩ v) ∧ (X.setCell ⟨B + 1 + 1, 0, none⟩ v).heap[D1]? = some (.deferred (some []))) := Lib.hid fun v => ⟨hbk.set v, Below.setCell (Below.refl (B + 1 + 1) X) (p := ⟨B + 1 + 1, 0, none⟩) (Nat.le_refl (B + 1 + 1)) v, (KeepsOthers.setCell X ⟨B + 1 + 1, 0, none⟩ v).same D1 _ hXD rfl⟩
              gi_wp2
              exact ⟨(KeepsOthers.setCell _ _ _).from _, (HBK.out _).2.1, by rw [HL.out]; exact (HBK.out _).1, HP.out, hbel.trans (HBK.out _).2.1, (HBK.out _).2.2⟩
            · have hxy : ((x : Int) != (y : Int)) = true := by simp; omega
              have hne : ¬ (pre ++ [x]) <+: D := by rw [hpx]; intro h; apply hx; rw [h, ← hy]; congr 1
              have HP := Lib.hid hne
              clear hpx hne hcell hy hx
              gi_wp2
              exact ⟨(KeepsOthers.setCell _ _ _).from _, ⟨rfl, HP.out⟩⟩
          · have d1 : decide ((D.length : Int) ≤ (k : Int)) = true := by simp; omega
            have d1' : ((D.length : Int) ≤ (k : Int)) := by omega
            have HP := Lib.hid (pre_snoc_not (x := x) (show D.length ≤ pre.length by omega))
            gi_wp2
            exact ⟨(KeepsOthers.setCell _ _ _).from _, ⟨rfl, HP.out⟩⟩
        case done =>
          rintro D2 ys X h1 rfl ⟨hbk, hpre, hbel, hXD⟩ hD2
          exact ⟨.inl rfl, D2, ⟨h1, hD2, hXD, by rw [HD.out] at hbk; exact hbk, hbel⟩, rfl⟩
        case stop =>
          rintro D2 c pre X h1 hpre ⟨_, h⟩ hD2
          exact absurd (by rw [HD.out] at hpre; exact hpre) h
      case rest =>
        rintro D2 X ⟨h3, hD2, hXD, hbk, hbel⟩
        have qA : Boxed X B 44 (.slice od D.length cd) := (hbel.block B (by omega)).trans bA
        have qR : Boxed X (w.heap.size + 1) 4 (.bool false) := (hbel.block (w.heap.size + 1) (by omega)).trans bR
        have c2 := qA.cell
        have c3 := hbk.cell
        have c5 := qR.cell
        have c6 := qR.frozen
        gi_wp2
        have b2 := qR.set (.bool true)
        have hK2 := (KeepsOthers.setCell X ⟨w.heap.size + 1, 0, none⟩ (.bool true)).same D2 _ hD2 rfl
        have hK1 := (KeepsOthers.setCell X ⟨w.heap.size + 1, 0, none⟩ (.bool true)).same D1 _ hXD rfl
        have kX : Kp w X := Below.trans (Kp.trans (k00.trans hkA) kW) (hbel.mono (by omega))
        have kX2 : Kp w (X.setCell ⟨w.heap.size + 1, 0, none⟩ (.bool true)) := kX.setCell (by simp) _
        obtain ⟨X2, hX2⟩ : ∃ X2, X.setCell ⟨w.heap.size + 1, 0, none⟩ (.bool true) = X2 := ⟨_, rfl⟩
        simp only [hX2] at b2 hK2 hK1 kX2 ⊢
        clear hX2
        have hK1' : (X2.putObj D2 (.deferred none)).heap[D1]? = some (.deferred (some [])) := (World.putObj_heap_other (by omega)).trans hK1
        refine ⟨by simp, .inl ⟨_, _, rfl, run_takeDeferred hK2, ?_⟩⟩
        refine ⟨by simp, .inl ⟨_, _, rfl, run_takeDeferred hK1', ?_⟩⟩
        have k2 := cell_kept b2.cell (grownBy_putObj' _ D2 (.deferred none)) (fun r e => by cases e; exact ⟨_, hK2, rfl⟩)
        have k3 := cell_kept k2 (grownBy_putObj' _ D1 (.deferred none)) (fun r e => by cases e; exact ⟨_, hK1', rfl⟩)
        refine ⟨.bool true, ?_, rfl, ?_⟩
        · simp [results, Tryd.f10, go_sem, k3]
        · have kk := Below.trans kX2 (belowK_b (w := w) (Nat.le_refl _) X2 D2 _ (.deferred none) (by omega) hK2 rfl rfl)
          exact Below.trans kk (belowK_b (w := w) (Nat.le_refl _) _ D1 _ (.deferred none) (by omega) hK1' rfl rfl)
theorem walk_PrimesMemory (n : Int) (_ : (Lit.int .i64 n).wf = true) (stop : Int) (_ : (Lit.int .i64 stop).wf = true) (E : Nat → Addr) (w : World) (hE : Ers w E) :
    Calls Tryd.prog 10 #[.int .i64 n, .int .i64 stop] w fun e w' => e = .returned (.bool true) ∧ Kp w w' := pmem_any n stop E w hE
end Go.Proofs.YtifbcaiegalhbaaDoor
