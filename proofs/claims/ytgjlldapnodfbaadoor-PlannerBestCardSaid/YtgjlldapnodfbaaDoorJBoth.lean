import Derived.Test.YtgjlldapnodfbaaDoorORefH
import Derived.Test.YtgjlldapnodfbaaDoorJOpen
import Derived.Test.YtgjlldapnodfbaaDoorOHeads
import Derived.Deep.DeepCutAuto
/-
  Choose and Check of the planner and of the reference, side by side.
-/
namespace Go.Proofs.YtgjlldapnodfbaaDoor
open Go Go.RowKit Go.Fl Go.Ord Go.Pr

/-- The order that is none. -/
def tr0 : Tr := .mk 0 0 0 (fun _ => .nil)
theorem tr0_in (w : World) : OIn w tr0 (.agg #[.int .i64 0, .int .i64 0, .slice none 0 0]) := ⟨none, 0, rfl, ⟨by decide, by decide, by decide⟩, fun h => absurd h (by decide)⟩
def trOf : Option (Tr × Int) → Tr
  | none => tr0
  | some (T, _) => T
theorem OB.oin {Q : Nat → Prop} {w : World} {b : Option (Tr × Int)} {k n : Int} {s : Value} (h : OB Q w b k n s) : OIn w (trOf b) (.agg #[.int .i64 k, .int .i64 n, s]) := by
  cases b with
  | none => obtain ⟨rfl, rfl, rfl⟩ := h; exact tr0_in w
  | some x => exact OX.oin h
/-- Both give the same order and the same error. -/
structure Both (p : Pol) (E : Nat → Addr) (n : Int) (T : Tr) (ev : Value) (en : Nat) : Prop where
  a : ∀ w vf, Errs w E → FlIn w vf p.fl → Calls Tryd.prog 9 #[.int .i64 n, .agg #[.int .i64 p.D, vf, .int .i64 p.P]] w fun e w' => ∃ k n0 o m c, e = .returned (.tuple #[.agg #[.int .i64 k, .int .i64 n0, .slice o m c], ev]) ∧ Hid (OIn w' T (.agg #[.int .i64 k, .int .i64 n0, .slice o m c])) ∧ Kp w w'
  b : ∀ w vf, FlIn w vf p.fl → Calls Tryd.prog 10 #[.int .i64 n, .agg #[.int .i64 p.D, vf, .int .i64 p.P]] w fun e w' => ∃ k n0 o m c, e = .returned (.tuple #[.agg #[.int .i64 k, .int .i64 n0, .slice o m c], .int .i64 (en : Nat)]) ∧ Hid (OIn w' T (.agg #[.int .i64 k, .int .i64 n0, .slice o m c])) ∧ Kp w w'
  c : ∀ w, Errs w E → Calls Tryd.prog 11 #[ev] w fun e w' => e = .returned (.int .i64 (en : Nat)) ∧ Kp w w'
/-- Both check alike. -/
structure BothC (p : Pol) (E : Nat → Addr) (ev : Value) (en : Nat) : Prop where
  a : ∀ w vf, Errs w E → FlIn w vf p.fl → Calls Tryd.prog 14 #[.agg #[.int .i64 p.D, vf, .int .i64 p.P]] w fun e w' => e = .returned ev ∧ Kp w w'
  b : ∀ w vf, FlIn w vf p.fl → Calls Tryd.prog 15 #[.agg #[.int .i64 p.D, vf, .int .i64 p.P]] w fun e w' => e = .returned (.int .i64 (en : Nat)) ∧ Kp w w'
  c : ∀ w, Errs w E → Calls Tryd.prog 11 #[ev] w fun e w' => e = .returned (.int .i64 (en : Nat)) ∧ Kp w w'
theorem both_check (p : Pol) (hl : p.fl.length ≤ 17592186044416) (E : Nat → Addr) : ∃ ev en, BothC p E ev en := by
  cases hp : p.ok with
  | false =>
    refine ⟨_, 5, fun w vf hE hv => ?_, fun w vf hv => ?_, fun w hE => Num_range E w hE⟩
    · have h := pCheck_any p vf (E 4) w hv hE.range
      unfold chk at h
      rw [hp] at h
      exact h
    · have h := rPCheck_any p vf w hl hv
      rw [hp] at h
      exact h
  | true =>
    refine ⟨.nilIface, 0, fun w vf hE hv => ?_, fun w vf hv => ?_, fun w hE => (Num_nil w).mono fun e w' h => ⟨h.1, h.2 ▸ Kp.refl w⟩⟩
    · have h := pCheck_any p vf (E 4) w hv hE.range
      unfold chk at h
      rw [hp] at h
      exact h
    · have h := rPCheck_any p vf w hl hv
      rw [hp] at h
      exact h
end Go.Proofs.YtgjlldapnodfbaaDoor
/-
  An argument that is a policy, opened.
-/
namespace Go.Proofs.YtgjlldapnodfbaaDoor
open Go Go.RowKit Go.Fl Go.Ord Go.ChangeShapes Go.WideShapes Go.ChangeAt Go.Deep
set_option maxRecDepth 100000

theorem cellsP : Tryd.prog.cellsOf 24 = 3 := by kernel_rfl
theorem cellsSI : Tryd.prog.cellsOf 22 = 1 := by kernel_rfl
theorem bytesI : Tryd.prog.bytesOf 3 = 8 := by kernel_rfl
theorem open_ints {H : Type} {enc : TypeId × Value → H} {W : World} {fuel : Nat} {c : Value} {x : DataW H × List MemPlace}
    (h : DataW.trod enc Tryd.prog W 0 (fun _ => true) true fuel 22 [c] = some x) (hp : ∀ p ∈ x.2, p.block < W.heap.size) (hw : ∀ n ∈ x.1.weights Tryd.prog 22, n ≤ reachBytes) :
    ∃ l : List Int, FlIn W c l ∧ l.length ≤ 17592186044416 := by
  rcases DataW.trod_slice Tryd.underlying22 h with ⟨e2, _⟩ | ⟨a, len, cap, elems, rest, nf, hnf, e2, hx2, _, hl, hm, hel, hat0, _⟩
  · obtain rfl : c = .slice none 0 0 := by simpa using e2
    exact ⟨[], ⟨none, 0, rfl, fun h => absurd h (by decide)⟩, by decide⟩
  · obtain rfl : c = .slice (some a) len cap := by simpa using e2
    subst hx2
    obtain ⟨b, off, spot⟩ := a
    have hlen5 : len ≤ 17592186044416 := by
      have := hw _ (by simp only [DataW.weights, Tryd.underlying22]; exact List.mem_cons_self ..)
      simp only [List.length_map, bytesI, reachBytes] at this
      omega
    have elem : ∀ i, i < len → ∃ z : Int, W.cell? (((⟨b, off, spot⟩ : Addr).add (i * 1)).add 0) = some (.int .i64 z) := by
      intro i hi
      have h3 := hat0 i hi
      rw [cellsI, List.getElem?_eq_getElem (by omega), Option.bind_eq_some_iff] at h3
      obtain ⟨cs', hc, ht⟩ := h3
      obtain ⟨_, hcl, hat⟩ := World.cells?_some hc
      match cs', hcl with
      | [a0], _ =>
        obtain ⟨k, e0, _, _⟩ := DataW.trod_int Tryd.underlying3 ht
        obtain rfl : a0 = .int .i64 k := by simpa using e0
        exact ⟨k, hat 0 (by decide)⟩
    rcases Nat.eq_zero_or_pos len with hz | hpos
    · subst hz
      exact ⟨[], ⟨_, _, rfl, fun h => absurd h (by decide)⟩, by decide⟩
    have hspot : spot = none := by
      obtain ⟨a0, q0⟩ := elem 0 hpos
      simpa [Addr.add] using World.cell?_spot q0
    subst hspot
    have elem2 : ∀ i, i < len → ∃ z : Int, W.cell? ⟨b, off + i, none⟩ = some (.int .i64 z) := fun i hi => by
      obtain ⟨z, q⟩ := elem i hi
      rw [ad_plain] at q
      exact ⟨z, by simpa using q⟩
    let f : Nat → Int := fun i => if h : i < len then Classical.choose (elem2 i h) else 0
    have hf : ∀ i, i < len → W.cell? ⟨b, off + i, none⟩ = some (.int .i64 (f i)) := fun i hi => by
      have e : f i = Classical.choose (elem2 i hi) := by simp only [f]; rw [dif_pos hi]
      rw [e]; exact Classical.choose_spec (elem2 i hi)
    refine ⟨(List.range len).map f, ⟨_, cap, by rw [List.length_map, List.length_range], fun _ => ⟨b, off, rfl, World.block_lt_of_cell? W _ (hf 0 hpos), fun i hi => ?_⟩⟩, by rw [List.length_map, List.length_range]; exact hlen5⟩
    have hi' : i < len := by simpa using hi
    have eg : ((List.range len).map f).getD i 0 = f i := by simp [List.getD_eq_getElem?_getD, hi']
    rw [eg]; exact hf i hi'
theorem open_policy {H : Type} {enc : TypeId × Value → H} {W : World} (fuel : Nat) (c0 c1 c2 : Value) (x : DataW H × List MemPlace)
    (h : DataW.trod enc Tryd.prog W 0 (fun _ => true) true fuel 24 [c0, c1, c2] = some x) (hp : ∀ p ∈ x.2, p.block < W.heap.size) (hw : ∀ n ∈ x.1.weights Tryd.prog 24, n ≤ reachBytes) :
    ∃ (q : Pol) (vf : Value), Value.agg #[c0, c1, c2] = .agg #[.int .i64 q.D, vf, .int .i64 q.P] ∧ FlIn W vf q.fl ∧ q.fl.length ≤ 17592186044416 := by
  obtain ⟨xs, n0, hfu, hx, _, hlen, hf⟩ := DataW.trod_struct Tryd.underlying24 h
  match xs, hlen with
  | [y0, y1, y2], _ =>
    have h0 : DataW.trod enc Tryd.prog W 0 (fun _ => true) true n0 3 [c0] = some y0 := by simpa [cellsI] using hf 0 _ rfl
    have h1 : DataW.trod enc Tryd.prog W 0 (fun _ => true) true n0 22 [c1] = some y1 := by simpa [cellsI, cellsSI] using hf 1 _ rfl
    have h2 : DataW.trod enc Tryd.prog W 0 (fun _ => true) true n0 3 [c2] = some y2 := by simpa [cellsI, cellsSI] using hf 2 _ rfl
    obtain ⟨k, e0, _, _⟩ := DataW.trod_int Tryd.underlying3 h0
    obtain ⟨n, e1, _, _⟩ := DataW.trod_int Tryd.underlying3 h2
    obtain rfl : c0 = .int .i64 k := by simpa using e0
    obtain rfl : c2 = .int .i64 n := by simpa using e1
    subst hx
    obtain ⟨l, hl1, hl2⟩ := open_ints h1 (fun p hpp => hp p (by simp [hpp])) (fun m hm => hw m (by
      simp only [DataW.weights, Tryd.underlying24]
      exact DataW.weights_mem_each (j := 1) rfl rfl m hm))
    exact ⟨⟨k, l, n⟩, c1, rfl, hl1, hl2⟩
/-- An argument. -/
theorem open_policy_arg {H : Type} {enc : TypeId × Value → H} {W : World} {base : Nat} {v : Value} {d : DataW H} {p : List MemPlace} (hv : Value.okWide Tryd.prog W .any base 24 v) (h : DataW.Trod enc Tryd.prog W 0 (fun _ => true) true 24 v d p)
    (hp : ∀ x ∈ p, x.block < W.heap.size) (hw : ∀ n ∈ d.weights Tryd.prog 24, n ≤ reachBytes) : ∃ (q : Pol) (vf : Value), v = .agg #[.int .i64 q.D, vf, .int .i64 q.P] ∧ FlIn W vf q.fl ∧ q.fl.length ≤ 17592186044416 := by
  obtain ⟨cs, rfl, hs⟩ := okWide_struct Tryd.underlying24 hv
  rw [cellsP] at hs
  obtain ⟨fuel, hf⟩ := h
  obtain ⟨l⟩ := cs
  match l, hs with
  | [c0, c1, c2], _ => exact open_policy fuel c0 c1 c2 _ hf hp hw
end Go.Proofs.YtgjlldapnodfbaaDoor
/-
  The walk of PlannerChooses.
-/
namespace Go.Proofs.YtgjlldapnodfbaaDoor
open Go Go.RowKit Go.Fl Go.Ord Go.Pr Go.Maps

section
variable {P : Program} {w : World}
/-- An append at a step of a region that draws, by its run. -/
theorem step_append_run {ops : Array Oper} {o : Oper} {a : Act} {K : Act → World → Prop} {Q : Exit → Act → World → Prop} {D : Prop} (hgd : o.guard = none) (s x : Operand) (t : TypeId)
    (ho : o.op = .call { callee := .builtin .append, args := #[s, x], argTypes := #[t, t] }) (v u : Value) (hs : a.eval s = v) (hx : a.eval x = u) (R : Value → World → Prop)
    (hrun : ∃ v' w', (Builtin.append_ #[t, t] o.type #[v, u]).run P w = .ok v' w' ∧ R v' w') (h : ∀ v' w', R v' w' → K (a.put o.dst v') w') :
    if Region.wanted o (yielded ops a.tmps) = true then Oper.wp P o a w K Q else D := by
  have hw : Region.wanted o (yielded ops a.tmps) = true := by simp [Region.wanted, hgd]
  rw [if_pos hw]
  obtain ⟨v', w', hr, hR⟩ := hrun
  unfold Oper.wp execOp
  simp only [ho, resolve, invoke, builtin, Sem.run_bind, Sem.run_pure, Result.andThen_ok, List.map_toArray, List.map_cons, List.map_nil, hs, hx, hr]
  exact h v' w' hR
/-- The world at hand is this one. -/
theorem at_w (W : World) {o : Oper} {a : Act} {K : Act → World → Prop} {Q : Exit → Act → World → Prop} {c D : Prop} {inst : Decidable c} (h : @ite _ c inst (Oper.wp P o a W K Q) D) : @ite _ c inst (Oper.wp P o a W K Q) D := h
end
set_option maxRecDepth 100000 in
theorem info_int3 : (Tryd.prog.info? 3).map (fun i => (i.zero, i.size, i.bytes)) = some (some (.int .i64 0), 1, 8) := by kernel_rfl
set_option maxRecDepth 100000 in
/-- A policy's list is appended to an empty one. -/
theorem fl_append (w : World) (B : Nat) (o : Option Addr) (c : Nat) (l : List Int) (hl : l.length ≤ 17592186044416) (hv : FlIn w (.slice o l.length c) l) (hB : w.ownsRow B 3 1 (.slice (some ⟨B, 0, none⟩) 0 0) 0 []) (hBw : B < w.heap.size) :
    ∃ v' w', (Builtin.append_ #[22, 22] 22 #[.slice (some ⟨B, 0, none⟩) 0 0, .slice o l.length c]).run Tryd.prog w = .ok v' w' ∧ ∃ o' c', v' = .slice o' l.length c' ∧ FlIn w' (.slice o' l.length c') l ∧ w.grownBy w' (some B) ∧ ∀ g off, o' = some ⟨g, off, none⟩ → g = B ∨ w.heap.size ≤ g := by
  obtain ⟨i0, hi, hz⟩ := Option.map_eq_some_iff.1 info_int3
  have hz0 : i0.zero = some (.int .i64 0) := by injection hz
  have hz1 : i0.size = 1 := by injection hz with _ h; injection h
  have hz2 : i0.bytes = 8 := by injection hz with _ h; injection h
  obtain ⟨o1, c1, e1, hcell⟩ := hv
  cases e1
  have fin : ∀ v' (w' : World), w'.ownsRow B 3 1 v' (0 + l.length) ([] ++ l.map fun z => Value.int .i64 z) → ∃ o' c', v' = .slice o' l.length c' ∧ FlIn w' (.slice o' l.length c') l := fun v' w' h => by
    rw [Nat.zero_add, List.nil_append] at h
    rcases h.2 with ⟨h1, h2⟩ | ⟨g, cap, cur, rfl, hg, hh, _⟩
    · exact ⟨none, 0, by rw [h1, h2], none, 0, rfl, fun h => by omega⟩
    · refine ⟨_, cap, rfl, _, _, rfl, fun _ => ⟨g, 0, rfl, (h.lt g rfl).2, fun i hi => ?_⟩⟩
      rw [Nat.zero_add, h.cellAt i (by omega), List.getElem?_map, List.getElem?_eq_getElem hi]
      simp [List.getD_eq_getElem?_getD, List.getElem?_eq_getElem hi]
  cases o with
  | none =>
    have h0 : l.length = 0 := by
      rcases Nat.eq_zero_or_pos l.length with h | h
      · exact h
      · obtain ⟨g, off, e, _⟩ := hcell h; cases e
    rw [h0]
    refine ⟨.slice (some ⟨B, 0, none⟩) 0 0, w, ?_, some ⟨B, 0, none⟩, 0, rfl, ⟨_, 0, by rw [h0], fun h => by omega⟩, ⟨rfl, rfl, rfl, Nat.le_refl _, fun _ _ _ => rfl⟩, fun g off e => by cases e; exact .inl rfl⟩
    simp [Builtin.append_, run_underlying Tryd.underlying22, sizeOf, typeInfo, hi, Builtin.lenOf, Builtin.firstCells, storeCells]
  | some ad =>
    obtain ⟨v', w', hr, hown, hg, _, hat⟩ := run_append_own_at (P := Tryd.prog) w B 22 22 3 i0 (.int .i64 0) 1 8 Tryd.underlying22 hi hz0 hz1 hz2 rfl (by decide) (.slice (some ⟨B, 0, none⟩) 0 0) 0 [] hB ad l.length c (l.map fun z => .int .i64 z) (by simp)
      (fun j u hu => by
        have hj : j < l.length := by
          rcases Nat.lt_or_ge j l.length with h | h
          · exact h
          · rw [List.getElem?_eq_none (by simpa using h)] at hu; cases hu
        obtain ⟨g, off, e, _, hc⟩ := hcell (by omega)
        injection e with e
        subst e
        have h2 := hc j hj
        rw [List.getElem?_map, List.getElem?_eq_getElem hj] at hu
        have e3 : l.getD j 0 = l[j] := by simp [List.getD_eq_getElem?_getD, List.getElem?_eq_getElem hj]
        rw [e3] at h2
        rw [show (⟨g, off, none⟩ : Addr).add j = ⟨g, off + j, none⟩ by unfold Addr.add; split <;> simp_all, h2]
        exact hu) (by intro u hu; obtain ⟨z, _, rfl⟩ := List.mem_map.1 hu; rfl) (by unfold maxLen; omega) (by omega) (by omega)
    obtain ⟨o', c', e, hf⟩ := fin v' w' hown
    refine ⟨v', w', hr, o', c', e, hf, hg, fun g off e2 => ?_⟩
    subst e
    subst e2
    have ho : off = 0 := by
      rcases hown.2 with ⟨h1, _⟩ | ⟨g2, cap, cur, h1, _⟩
      · cases h1
      · injection h1 with h1; injection h1 with h1; injection h1 with _ h2
    subst ho
    rcases hat with h | h
    · left; simpa [Value.ownBlock] using h
    · right; have : g = w.heap.size := by simpa [Value.ownBlock] using h
      omega
theorem FlIn.kbo {w w' : World} {o : Option Addr} {m c R : Nat} {l : List Int} (h : FlIn w (.slice o m c) l) (hne : ∀ g off, o = some ⟨g, off, none⟩ → g ≠ R) (hk : Kb R w w') : FlIn w' (.slice o m c) l := by
  obtain ⟨o1, c1, e, h⟩ := h
  cases e
  refine ⟨_, _, rfl, fun hl => ?_⟩
  obtain ⟨g, off, e2, hg, hc⟩ := h hl
  exact ⟨g, off, e2, Nat.lt_of_lt_of_le hg hk.size, fun i hi => (World.cell?_of_block (a := ⟨g, off + i, none⟩) (hk.block g hg (hne g off e2))).trans (hc i hi)⟩
/-- A copy of the policy's list. -/
theorem fl_copy {w w' : World} {v : Value} {l : List Int} {g cap : Nat} {xs : List Value} (hx : xs = l.map fun z => .int .i64 z) (h : w'.ownsRow 0 3 1 (.slice (some ⟨g, 0, none⟩) l.length cap) l.length xs) : FlIn w' (.slice (some ⟨g, 0, none⟩) l.length cap) l := by
  refine ⟨_, _, rfl, fun hl => ⟨g, 0, rfl, (h.lt g rfl).2, fun i hi => ?_⟩⟩
  rw [Nat.zero_add, h.cellAt i (by omega), hx, List.getElem?_map, List.getElem?_eq_getElem hi]
  simp [List.getD_eq_getElem?_getD, List.getElem?_eq_getElem hi]
set_option maxRecDepth 100000 in
set_option maxHeartbeats 4000000 in
theorem chooses_any (W : World) (n : Int) (p : Pol) (vf : Value) (hv : FlIn W vf p.fl) (hl : p.fl.length ≤ 17592186044416) (E : Nat → Addr) (hE : Errs W E) (T : Tr) (ev : Value) (en : Nat) (hB : Both p E n T ev en) :
    Calls Tryd.prog 3 #[.int .i64 n, .agg #[.int .i64 p.D, vf, .int .i64 p.P]] W fun e w' => e = .returned (.bool true) ∧ Kp W w' := by
  have HFx : Hid (∀ w', Kp W w' → Calls Tryd.prog 8 #[] w' fun e w'' => e = .returned (.bool true) ∧ Kp w' w'') := Lib.hid fun w' k => ofixed_any _ _ _ _ w' (hE.kp k).four
  obtain ⟨evC, enC, hC⟩ := both_check p hl E
  have HB := Lib.hid hB
  have HC := Lib.hid hC
  have HE := Lib.hid hE
  have HV := Lib.hid hv
  obtain ⟨o, c, rfl, hcell⟩ := hv
  have HCl := Lib.hid hcell
  have hA := heap_alloc_new W (.cells #[.int .i64 p.D, .slice o p.fl.length c, .int .i64 p.P] 24)
  have k0 := (Kp.refl W).alloc (.cells #[.int .i64 p.D, .slice o p.fl.length c, .int .i64 p.P] 24)
  clear hB hC hE hcell
  obtain ⟨mf, hmf⟩ : ∃ mf, p.fl.length = mf := ⟨_, rfl⟩
  have HM := Lib.hid hmf
  rw [hmf] at hl hA k0 HV HCl ⊢
  clear hmf
  go_enter Tryd.func3, Tryd.ntmps3
  go_upto_region 3 with (go_at_call 8; (with_reducible refine (HFx.out _ k0).mono ?_); rintro e w1 ⟨rfl, hk1⟩)
  have hP1 := (hk1.block _ (Array.getElem?_eq_some_iff.1 hA).1).trans hA
  have kW := k0.trans hk1
  have HKW := Lib.hid kW
  have HP1 := Lib.hid hP1
  obtain ⟨⟨p0, p1, p2⟩, _⟩ := row3_facts hP1
  clear hA k0 hk1 kW hP1 HFx
  generalize W.heap.size = b3 at *
  go_cut [5] from 12 (fun x wx => ∃ b5 o' c', x = .pointer (some ⟨b5, 0, none⟩) ∧ Hid (Kp w1 wx ∧ wx.heap[b5]? = some (.cells #[.int .i64 p.D, .slice o' mf c', .int .i64 p.P] 24 (0, 0)) ∧ FlIn wx (.slice o' mf c') p.fl))
  case first =>
    have hP2 := HP1.out
    have hb3 := (Array.getElem?_eq_some_iff.1 hP2).1
    have HVw : Hid (∀ w', Kp w1 w' → FlIn w' (.slice o mf c) p.fl) := Lib.hid fun w' k => HV.out.kp (HKW.out.trans k)
    have HMl := Lib.hid hl
    have HPs : Hid (∀ w', Kp w1 w' → w'.cell? ⟨b3, 0, none⟩ = some (.int .i64 p.D) ∧ w'.cell? ⟨b3, 1, none⟩ = some (.slice o mf c) ∧ w'.cell? ⟨b3, 2, none⟩ = some (.int .i64 p.P)) := Lib.hid fun w' k => (row3_facts ((k.block _ hb3).trans hP2)).1
    have HAp : Hid (∀ (w' : World) (B : Nat), Kp w1 w' → w'.heap[B]? = some (.cells #[] 3 (0, 0)) → w1.heap.size ≤ B → ∃ v' w'', (Builtin.append_ #[22, 22] 22 #[.slice (some ⟨B, 0, none⟩) 0 0, .slice o mf c]).run Tryd.prog w' = .ok v' w'' ∧ ∃ o' c', v' = .slice o' mf c' ∧ Hid (FlIn w'' (.slice o' mf c') p.fl) ∧ Kp w1 w'' ∧ Hid (w'.grownBy w'' (some B) ∧ ∀ g off, o' = some ⟨g, off, none⟩ → g = B ∨ w'.heap.size ≤ g)) := Lib.hid fun w' B k hB hw => by
      obtain ⟨v', w'', hr, o', c', e, hf, hg, hat⟩ := fl_append w' B o c p.fl (by rw [HM.out]; exact HMl.out) (by rw [HM.out]; exact HVw.out w' k) ⟨rfl, .inr ⟨B, 0, #[], rfl, Nat.le_refl _, hB, Nat.le_refl _, by decide, rfl, rfl⟩⟩ (Array.getElem?_eq_some_iff.1 hB).1
      rw [HM.out] at hr e hf
      exact ⟨v', w'', hr, o', c', e, Lib.hid hf, k.grown hg (fun j hj => by cases hj; exact hw), Lib.hid ⟨hg, hat⟩⟩
    have kE := (Kp.refl w1).alloc (.cells #[] 3)
    have kZ := (Kp.refl w1).alloc (.cells #[.int .i64 0, .slice none 0 0, .int .i64 0] 24)
    have kE1 := kE.drew
    have kE2 := (kE.alloc (.cells #[.int .i64 0, .slice none 0 0, .int .i64 0] 24)).drew
    have kE3 := (kZ.alloc (.cells #[] 3)).drew
    have hE1 : (w1.alloc (.cells #[] 3)).drew.heap[w1.heap.size]? = some (.cells #[] 3 (0, 0)) := heap_alloc_new w1 _
    have hE2 : ((w1.alloc (.cells #[] 3)).alloc (.cells #[.int .i64 0, .slice none 0 0, .int .i64 0] 24)).drew.heap[w1.heap.size]? = some (.cells #[] 3 (0, 0)) := heap_alloc2_old w1 _ _
    have hE3 : ((w1.alloc (.cells #[.int .i64 0, .slice none 0 0, .int .i64 0] 24)).alloc (.cells #[] 3)).drew.heap[w1.heap.size + 1]? = some (.cells #[] 3 (0, 0)) := heap_alloc2_new w1 _ _
    have hZ2 : ((w1.alloc (.cells #[] 3)).alloc (.cells #[.int .i64 0, .slice none 0 0, .int .i64 0] 24)).drew.heap[w1.heap.size + 1]? = some (.cells #[.int .i64 0, .slice none 0 0, .int .i64 0] 24 (0, 0)) := heap_alloc2_new w1 _ _
    have hZ3 : ((w1.alloc (.cells #[.int .i64 0, .slice none 0 0, .int .i64 0] 24)).alloc (.cells #[] 3)).drew.heap[w1.heap.size]? = some (.cells #[.int .i64 0, .slice none 0 0, .int .i64 0] 24 (0, 0)) := heap_alloc2_old w1 _ _
    have lt2 := (Array.getElem?_eq_some_iff.1 hZ2).1
    have lt3 := (Array.getElem?_eq_some_iff.1 hZ3).1
    have ne2 : some (w1.heap.size + 1) ≠ some w1.heap.size := by intro e; injection e with e; omega
    have ne3 : some w1.heap.size ≠ some (w1.heap.size + 1) := by intro e; injection e with e; omega
    have le1 : w1.heap.size ≤ w1.heap.size := Nat.le_refl _
    have le2 : w1.heap.size ≤ w1.heap.size + 1 := Nat.le_succ _
    have HA1 := Lib.hid (HAp.out _ _ kE1 hE1 le1)
    have HA2 := Lib.hid (HAp.out _ _ kE2 hE2 le1)
    have HA3 := Lib.hid (HAp.out _ _ kE3 hE3 le2)
    have HZ2 := Lib.hid (And.intro hZ2 (And.intro lt2 ne2))
    have HZ3 := Lib.hid (And.intro hZ3 (And.intro lt3 ne3))
    clear kE1 kE2 kE3 hE1 hE2 hE3 hZ2 hZ3 lt2 lt3 ne2 ne3
    go_region_held3 (fun w' => w'.cell? ⟨b3, 0, none⟩ = some (.int .i64 p.D) ∧ w'.cell? ⟨b3, 1, none⟩ = some (.slice o mf c) ∧ w'.cell? ⟨b3, 2, none⟩ = some (.int .i64 p.P)) (first | go_keep | exact HPs.out _ hk2 | exact HPs.out _ (hk2.alloc _) | exact HPs.out _ (Kp.set3 hk2 (by omega) _ _ _) | exact HPs.out _ (kE.drew) | exact HPs.out _ ((kE.alloc _).drew) | exact HPs.out _ (kZ.drew) | exact HPs.out _ ((kZ.alloc _).drew))
      (first
      | ((with_reducible refine at_w ((w1.alloc (.cells #[] 3)).drew) ?_); refine step_append_run (by rfl) _ _ 22 (by rfl) _ _ (by rfl) (by rfl) _ HA1.out ?_; rintro v2 w2 ⟨o2, c2, rfl, hf2, hk2, hg2⟩)
      | ((with_reducible refine at_w (((w1.alloc (.cells #[] 3)).alloc (.cells #[.int .i64 0, .slice none 0 0, .int .i64 0] 24)).drew) ?_); refine step_append_run (by rfl) _ _ 22 (by rfl) _ _ (by rfl) (by rfl) _ HA2.out ?_; rintro v2 w2 ⟨o2, c2, rfl, hf2, hk2, hg2⟩; have hz5 := (hg2.out.1.block _ HZ2.out.2.1 HZ2.out.2.2).trans HZ2.out.1; obtain ⟨⟨z0, z1, z2⟩, f0, f1, f2⟩ := row3_facts hz5)
      | ((with_reducible refine at_w (((w1.alloc (.cells #[.int .i64 0, .slice none 0 0, .int .i64 0] 24)).alloc (.cells #[] 3)).drew) ?_); refine step_append_run (by rfl) _ _ 22 (by rfl) _ _ (by rfl) (by rfl) _ HA3.out ?_; rintro v2 w2 ⟨o2, c2, rfl, hf2, hk2, hg2⟩; have hz5 := (hg2.out.1.block _ HZ3.out.2.1 HZ3.out.2.2).trans HZ3.out.1; obtain ⟨⟨z0, z1, z2⟩, f0, f1, f2⟩ := row3_facts hz5))
    all_goals go_wp2_with fail
    · go_meet
      exact ⟨_, o2, c2, rfl, Lib.hid ⟨hk2.alloc _, heap_alloc_new w2 _, hf2.out.kp ((Kp.refl w2).alloc _)⟩⟩
    · go_meet
      exact ⟨_, o2, c2, rfl, Lib.hid ⟨Kp.set3 hk2 (by omega) _ _ _, heap_set3 w2 _ _ _ _ _ _ _ _ _ hz5, hf2.out.kbo (fun g off e => by have := hg2.out.2 g off e; simp at this; omega) (kb_set3 w2 _ _ _ _)⟩⟩
    · go_meet
      exact ⟨_, o2, c2, rfl, Lib.hid ⟨Kp.set3 hk2 (by omega) _ _ _, heap_set3 w2 _ _ _ _ _ _ _ _ _ hz5, hf2.out.kbo (fun g off e => by have := hg2.out.2 g off e; simp at this; omega) (kb_set3 w2 _ _ _ _)⟩⟩
  case rest =>
    obtain ⟨b5, o', c', rfl, HR⟩ := hcut
    have hb3 := (Array.getElem?_eq_some_iff.1 HP1.out).1
    have HP3 : Hid (∀ w', Kp wc w' → w'.heap[b3]? = some (.cells #[.int .i64 p.D, .slice o mf c, .int .i64 p.P] 24 (0, 0))) := Lib.hid fun w' k => ((HR.out.1.trans k).block _ hb3).trans HP1.out
    have HP5 : Hid (∀ w', Kp wc w' → w'.heap[b5]? = some (.cells #[.int .i64 p.D, .slice o' mf c', .int .i64 p.P] 24 (0, 0))) := Lib.hid fun w' k => (k.block _ (Array.getElem?_eq_some_iff.1 HR.out.2.1).1).trans HR.out.2.1
    have HF3 : Hid (∀ w', Kp wc w' → FlIn w' (.slice o mf c) p.fl) := Lib.hid fun w' k => HV.out.kp ((HKW.out.trans HR.out.1).trans k)
    have HF5 : Hid (∀ w', Kp wc w' → FlIn w' (.slice o' mf c') p.fl) := Lib.hid fun w' k => HR.out.2.2.kp k
    have HEw : Hid (∀ w', Kp wc w' → Errs w' E) := Lib.hid fun w' k => HE.out.kp ((HKW.out.trans HR.out.1).trans k)
    have hl2 : p.fl.length ≤ 17592186044416 := by rw [HM.out]; exact hl
    have HL2 := Lib.hid hl2
    have HKw := Lib.hid (HKW.out.trans HR.out.1)
    obtain ⟨⟨r0, r1, r2⟩, _⟩ := row3_facts (HP5.out _ (Kp.refl _))
    clear p0 p1 p2 HR HP1 HV HE HKW HCl hb3 hl2
    go_upto_region 5 with (go_at_call 9; (with_reducible refine (HB.out.a _ _ (HEw.out _ (Kp.refl _)) (HF5.out _ (Kp.refl _))).mono ?_); rintro e w2 ⟨k1, n1, o1, m1, c1, rfl, H1, hk2⟩)
    have hB6 := heap_alloc_new w2 (.cells #[.int .i64 k1, .int .i64 n1, .slice o1 m1 c1] 28)
    have k6 := hk2.alloc (.cells #[.int .i64 k1, .int .i64 n1, .slice o1 m1 c1] 28)
    have H6 := Lib.hid (H1.out.kp ((Kp.refl w2).alloc (.cells #[.int .i64 k1, .int .i64 n1, .slice o1 m1 c1] 28)))
    clear r0 r1 r2 H1 hk2
    generalize w2.alloc (.cells #[.int .i64 k1, .int .i64 n1, .slice o1 m1 c1] 28) = w6 at *
    generalize w2.heap.size = b6 at *
    obtain ⟨⟨r0, r1, r2⟩, _⟩ := row3_facts (HP3.out _ k6)
    go_upto_region 6 with (go_at_call 10; (with_reducible refine (HB.out.b _ _ (HF3.out _ k6)).mono ?_); rintro e w7 ⟨k3, n3, o3, m3, c3, rfl, H3, hk3⟩)
    have hB8 := heap_alloc_new w7 (.cells #[.int .i64 k3, .int .i64 n3, .slice o3 m3 c3] 28)
    have k8' := hk3.alloc (.cells #[.int .i64 k3, .int .i64 n3, .slice o3 m3 c3] 28)
    have H8 := Lib.hid (H3.out.kp ((Kp.refl w7).alloc (.cells #[.int .i64 k3, .int .i64 n3, .slice o3 m3 c3] 28)))
    clear r0 r1 r2 H3 hk3
    generalize w7.alloc (.cells #[.int .i64 k3, .int .i64 n3, .slice o3 m3 c3] 28) = w8 at *
    generalize w7.heap.size = b8 at *
    have hB6' := (k8'.block _ (Array.getElem?_eq_some_iff.1 hB6).1).trans hB6
    have H6' := Lib.hid (H6.out.kp k8')
    have k8 := k6.trans k8'
    clear hB6 H6 k6 k8'
    have HC6 : Hid (∀ w', Kp w8 w' → (w'.cell? ⟨b6, 0, none⟩ = some (.int .i64 k1) ∧ w'.cell? ⟨b6, 1, none⟩ = some (.int .i64 n1) ∧ w'.cell? ⟨b6, 2, none⟩ = some (.slice o1 m1 c1)) ∧ (w'.cell? ⟨b8, 0, none⟩ = some (.int .i64 k3) ∧ w'.cell? ⟨b8, 1, none⟩ = some (.int .i64 n3) ∧ w'.cell? ⟨b8, 2, none⟩ = some (.slice o3 m3 c3)) ∧ (w'.cell? ⟨b5, 0, none⟩ = some (.int .i64 p.D) ∧ w'.cell? ⟨b5, 1, none⟩ = some (.slice o' mf c') ∧ w'.cell? ⟨b5, 2, none⟩ = some (.int .i64 p.P)) ∧ (w'.cell? ⟨b3, 0, none⟩ = some (.int .i64 p.D) ∧ w'.cell? ⟨b3, 1, none⟩ = some (.slice o mf c) ∧ w'.cell? ⟨b3, 2, none⟩ = some (.int .i64 p.P))) := Lib.hid fun w' k =>
      ⟨(row3_facts ((k.block _ (Array.getElem?_eq_some_iff.1 hB6').1).trans hB6')).1, (row3_facts ((k.block _ (Array.getElem?_eq_some_iff.1 hB8).1).trans hB8)).1, (row3_facts (HP5.out _ (k8.trans k))).1, (row3_facts (HP3.out _ (k8.trans k))).1⟩
    clear hB6' hB8
    go_upto_region 8 with (first
      | (go_at_call 11; (with_reducible refine (HB.out.c _ (HEw.out _ k8)).mono ?_); rintro e w9 ⟨rfl, hk9⟩; obtain ⟨⟨a0, a1, a2⟩, ⟨d0, d1, d2⟩, _⟩ := HC6.out _ hk9)
      | (go_at_call 12; (with_reducible refine (rSame_any T _ _ _ (H6'.out.kp hk9) (H8.out.kp hk9)).mono ?_); rintro e w10 ⟨rfl, hk10⟩; obtain ⟨_, _, ⟨a3, a4, a5⟩, ⟨d3, d4, d5⟩⟩ := HC6.out _ (hk9.trans hk10))
      | (go_at_call 13; (with_reducible refine (rsamePolicy_any p _ _ _ HL2.out (HF5.out _ (k8.trans (hk9.trans hk10))) (HF3.out _ (k8.trans (hk9.trans hk10)))).mono ?_); rintro e w11 ⟨rfl, hk11⟩))
    have kZ := k8.trans (hk9.trans (hk10.trans hk11))
    have HPz : Hid (∀ w', Kp w11 w' → (w'.cell? ⟨b5, 0, none⟩ = some (.int .i64 p.D) ∧ w'.cell? ⟨b5, 1, none⟩ = some (.slice o' mf c') ∧ w'.cell? ⟨b5, 2, none⟩ = some (.int .i64 p.P)) ∧ (w'.cell? ⟨b3, 0, none⟩ = some (.int .i64 p.D) ∧ w'.cell? ⟨b3, 1, none⟩ = some (.slice o mf c) ∧ w'.cell? ⟨b3, 2, none⟩ = some (.int .i64 p.P))) := Lib.hid fun w' k =>
      ⟨(row3_facts (HP5.out _ (kZ.trans k))).1, (row3_facts (HP3.out _ (kZ.trans k))).1⟩
    have HCa : Hid (∀ w', Kp w11 w' → Calls Tryd.prog 14 #[.agg #[.int .i64 p.D, .slice o' mf c', .int .i64 p.P]] w' fun e w'' => e = .returned evC ∧ Kp w11 w'') := Lib.hid fun w' k => (HC.out.a w' _ (HEw.out _ (kZ.trans k)) (HF5.out _ (kZ.trans k))).mono fun e w'' h => ⟨h.1, k.trans h.2⟩
    have HCb : Hid (∀ w', Kp w11 w' → Calls Tryd.prog 15 #[.agg #[.int .i64 p.D, .slice o mf c, .int .i64 p.P]] w' fun e w'' => e = .returned (.int .i64 (enC : Nat)) ∧ Kp w11 w'') := Lib.hid fun w' k => (HC.out.b w' _ (HF3.out _ (kZ.trans k))).mono fun e w'' h => ⟨h.1, k.trans h.2⟩
    have HCc : Hid (∀ w', Kp w11 w' → Calls Tryd.prog 11 #[evC] w' fun e w'' => e = .returned (.int .i64 (enC : Nat)) ∧ Kp w11 w'') := Lib.hid fun w' k => (HC.out.c w' (HEw.out _ (kZ.trans k))).mono fun e w'' h => ⟨h.1, k.trans h.2⟩
    have HUa : Hid (∀ w', Kp w11 w' → Calls Tryd.prog 16 #[] w' fun e w'' => ∃ g c, e = .returned (.agg #[.int .i64 16, .slice (some ⟨g, 0, none⟩) 4 c, .int .i64 13]) ∧ Hid (∀ w3, Kp w'' w3 → FlIn w3 (.slice (some ⟨g, 0, none⟩) 4 c) usual.fl) ∧ Hid (Kp w' w'') ∧ Kp w11 w'') := Lib.hid fun w' k => (Usual_any w').mono fun e w'' h => by
      obtain ⟨g, c, h1, _, h2, h3⟩ := h
      exact ⟨g, c, h1, Lib.hid fun w3 k3 => h2.kp k3, Lib.hid h3, k.trans h3⟩
    have HUb : Hid (∀ w', Kp w11 w' → Calls Tryd.prog 17 #[] w' fun e w'' => ∃ g c, e = .returned (.agg #[.int .i64 16, .slice (some ⟨g, 0, none⟩) 4 c, .int .i64 13]) ∧ Hid (∀ w3, Kp w'' w3 → FlIn w3 (.slice (some ⟨g, 0, none⟩) 4 c) usual.fl) ∧ Hid (Kp w' w'') ∧ Kp w11 w'') := Lib.hid fun w' k => (rUsual_any w').mono fun e w'' h => by
      obtain ⟨g, c, h1, _, h2, h3⟩ := h
      exact ⟨g, c, h1, Lib.hid fun w3 k3 => h2.kp k3, Lib.hid h3, k.trans h3⟩
    have HSp : Hid (∀ (va vb : Value) (w' : World), FlIn w' va usual.fl → FlIn w' vb usual.fl → Kp w11 w' → Calls Tryd.prog 13 #[.agg #[.int .i64 16, va, .int .i64 13], .agg #[.int .i64 16, vb, .int .i64 13]] w' fun e w'' => e = .returned (.bool true) ∧ Kp w11 w'') := Lib.hid fun va vb w' ha hb k => (rsamePolicy_any usual va vb w' (by decide) ha hb).mono fun e w'' h => ⟨h.1, k.trans h.2⟩
    have HFin : Hid (∀ w', Kp w11 w' → Kp W w') := Lib.hid fun w' k => HKw.out.trans (kZ.trans k)
    clear a0 a1 a2 d0 d1 d2 a3 a4 a5 d3 d4 d5 hk9 hk10 hk11 kZ k8 HC6 H6' H8 HC HB HEw HF3 HF5 HP3 HP5
    obtain ⟨⟨a0, a1, a2⟩, ⟨d0, d1, d2⟩⟩ := HPz.out _ (Kp.refl _)
    have k0 := Kp.refl w11
    go_region_held3 (fun w' => (w'.cell? ⟨b5, 0, none⟩ = some (.int .i64 p.D) ∧ w'.cell? ⟨b5, 1, none⟩ = some (.slice o' mf c') ∧ w'.cell? ⟨b5, 2, none⟩ = some (.int .i64 p.P)) ∧ (w'.cell? ⟨b3, 0, none⟩ = some (.int .i64 p.D) ∧ w'.cell? ⟨b3, 1, none⟩ = some (.slice o mf c) ∧ w'.cell? ⟨b3, 2, none⟩ = some (.int .i64 p.P))) (first | go_keep | exact HPz.out _ (by first | assumption | exact Kp.drew (by assumption) | exact Kp.drew (Kp.drew (by assumption))))
      (first
      | (go_at_call 14; (with_reducible refine (HCa.out _ (by first | assumption | exact Kp.drew (by assumption) | exact Kp.drew (Kp.drew (by assumption)))).mono ?_); rintro e w12 ⟨rfl, hk12⟩)
      | (go_at_call 15; (with_reducible refine (HCb.out _ (by first | assumption | exact Kp.drew (by assumption) | exact Kp.drew (Kp.drew (by assumption)))).mono ?_); rintro e w13 ⟨rfl, hk13⟩)
      | (go_at_call 11; (with_reducible refine (HCc.out _ (by first | assumption | exact Kp.drew (by assumption) | exact Kp.drew (Kp.drew (by assumption)))).mono ?_); rintro e w14 ⟨rfl, hk14⟩)
      | (go_at_call 16; (with_reducible refine (HUa.out _ (by first | assumption | exact Kp.drew (by assumption))).mono ?_); rintro e w15 ⟨g15, c15, rfl, HF15, HK15, hk15⟩)
      | (go_at_call 17; (with_reducible refine (HUb.out _ (by first | assumption | exact Kp.drew (by assumption))).mono ?_); rintro e w16 ⟨g16, c16, rfl, HF16, HK16, hk16⟩)
      | (go_at_call 13; (with_reducible refine (HSp.out _ _ _ (HF15.out _ (by first | exact HK16.out | exact (Kp.refl _).drew.trans HK16.out | exact HK16.out.drew | exact ((Kp.refl _).drew.trans HK16.out).drew)) (HF16.out _ (by first | exact Kp.refl _ | exact (Kp.refl _).drew)) (by first | assumption | exact Kp.drew (by assumption))).mono ?_); rintro e w17 ⟨rfl, hk17⟩))
    all_goals go_wp2_with fail
    go_ret
    exact ⟨by first | rfl | simp, HFin.out _ (by first | exact hk17 | exact hk17.drew)⟩
end Go.Proofs.YtgjlldapnodfbaaDoor
