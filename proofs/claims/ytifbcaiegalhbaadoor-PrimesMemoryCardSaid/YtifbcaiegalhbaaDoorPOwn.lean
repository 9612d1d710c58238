/-
  The walk of timbremem.OwnInts at two lists.
-/
import Derived.Test.YtifbcaiegalhbaaDoorPGrow
import Derived.Deep.DeepCutAuto
import Derived.Deep.CutBlock
import Derived.Deep.RegionLaw
namespace Go.Proofs.YtifbcaiegalhbaaDoor
open Go Go.RowKit Go.Fl Go.Pr

theorem info_l : (Tryd.prog.info? 44).map (fun i => (i.zero, i.size, i.bytes)) = some (some (.slice none 0 0), 1, 24) := by kernel_rfl
theorem owns_emptyl (w : World) : (w.alloc (.cells #[] 44)).ownsRow w.heap.size 44 1 (.slice (some ⟨w.heap.size, 0, none⟩) 0 0) 0 [] :=
  World.ownsRow_lit (base := w.heap.size) (e := 44) (size := 1) w #[] 0 (Nat.le_refl _) (by decide) rfl
section
variable {P : Program} {w : World}
theorem step_append_mv {ops : Array Oper} {o : Oper} {a : Act} {K : Act → World → Prop} {Q : Exit → Act → World → Prop} {E : Prop} (hgd : o.guard = none) (s x : Operand) (t : TypeId)
    (ho : o.op = .call { callee := .builtin .append, args := #[s, x], argTypes := #[t, t] })
    (base : Nat) (e : TypeId) (i : TypeInfo) (z : Value) (bytes : Nat) (ht : P.underlying t = some (.slice e)) (hi : P.info? e = some i) (hz : i.zero = some z)
    (hsize : i.size = 1) (hby : i.bytes = bytes) (hzs : z.cells.size = 1)
    (v : Value) (n : Nat) (xs : List Value) (hs : a.eval s = v) (hown : w.ownsRow base e 1 v n xs)
    (ad : Addr) (c : Nat) (u : Value) (hx : a.eval x = .slice (some ad) 1 c) (hnews : w.cell? ad = some u) (ha : ad.add 0 = ad) (h1 : u.oneCell' = true)
    (h63 : n + 1 ≤ maxLen) (hbytes : (n + 1) * bytes ≤ 140737488355328) (hbase : base ≤ w.heap.size)
    (h : ∀ g cap w', w'.ownsRow base e 1 (.slice (some ⟨g, 0, none⟩) (n + 1) cap) (n + 1) (xs ++ [u]) → g < w'.heap.size → ((v.ownBlock = some g ∧ w.grownBy w' (some g)) ∨ (g = w.heap.size ∧ w.grownBy w' none)) → K (a.put o.dst (.slice (some ⟨g, 0, none⟩) (n + 1) cap)) w') :
    if Region.wanted o (yielded ops a.tmps) = true then Oper.wp P o a w K Q else E := by
  have hw : Region.wanted o (yielded ops a.tmps) = true := by simp [Region.wanted, hgd]
  rw [if_pos hw]
  obtain ⟨g, cap, w', hr, h2, h3, h4⟩ := run_append_mv (P := P) w base t o.type e i z bytes ht hi hz hsize hby hzs v n xs hown ad c u hnews ha h1 h63 hbytes hbase
  unfold Oper.wp execOp
  simp only [ho, resolve, invoke, builtin, Sem.run_bind, Sem.run_pure, Result.andThen_ok, List.map_toArray, List.map_cons, List.map_nil, hs, hx, hr]
  exact h g cap w' h2 h3 h4
end
theorem owns_uniq {w : World} {base : Nat} {e : TypeId} {v : Value} {n : Nat} {xs ys : List Value} (h : w.ownsRow base e 1 v n xs) (k : w.ownsRow base e 1 v n ys) : xs = ys := by
  rcases h.2 with ⟨_, h0⟩ | ⟨g, cap, cur, rfl, _, hg, _, _, _, ht⟩
  · have a := h.1
    have b := k.1
    rw [h0] at a b
    rw [List.eq_nil_of_length_eq_zero (by omega : xs.length = 0), List.eq_nil_of_length_eq_zero (by omega : ys.length = 0)]
  · rcases k.2 with ⟨h1, _⟩ | ⟨g', cap', cur', h1, _, hg', _, _, _, ht'⟩
    · cases h1
    · cases h1
      rw [hg] at hg'
      injection hg' with hg'
      injection hg' with hc
      subst hc
      rw [← ht, ← ht']
theorem GS.get {w : World} {base n : Nat} {V : Nat → Value} {gg cg : Nat} {wr : World} {N : Nat → Nat} (h : GS w base n V gg cg wr N) (i : Nat) (hi : i < 2) :
    ∃ o c xs, wr.cell? ⟨gg, i, none⟩ = some (.slice o (N i) c) ∧ wr.ownsRow base 3 1 (.slice o (N i) c) (N i) xs ∧ wr.frozen? ⟨gg, i, none⟩ = false ∧ (Value.slice o (N i) c).ownBlock ≠ some gg ∧ gg < wr.heap.size ∧ Mkd i xs (N i) := by
  obtain ⟨U, Xs, ys, h1, _, _, h4, _⟩ := h
  obtain ⟨a1, a2, a3, a4, _⟩ := h1 i hi
  have hy := h4.1
  have hc := h4.cellAt i (by omega)
  rw [a4] at hc
  have hf := h4.frozenAt i
  have hl := (h4.lt gg rfl).2
  rcases a1.2 with ⟨e, e0⟩ | ⟨g, cap, cur, e, _⟩
  · rw [e] at a1 a3 hc
    refine ⟨none, 0, Xs i, ?_, ?_, hf, ?_, hl, a2⟩
    · rw [hc, e0]
    · rw [e0] at a1 ⊢; exact a1
    · simp [Value.ownBlock]
  · rw [e] at a1 a3 hc
    exact ⟨_, cap, Xs i, hc, a1, hf, a3, hl, a2⟩
theorem held_alloc {w : World} {ob : Obj} {g i : Nat} {u : Value} (h1 : w.cell? ⟨g, i, none⟩ = some u) (h2 : w.frozen? ⟨g, i, none⟩ = false) (h3 : g < w.heap.size) :
    (w.alloc ob).drew.cell? ⟨g, i, none⟩ = some u ∧ (w.alloc ob).drew.frozen? ⟨g, i, none⟩ = false :=
  ⟨((Kp.refl w).alloc ob).later h1, (((Kp.refl w).alloc ob).frozen (p := ⟨g, i, none⟩) h3).trans h2⟩
theorem held_app {a b : World} {v : Value} {g gg i : Nat} {u : Value} (h1 : a.cell? ⟨gg, i, none⟩ = some u) (h2 : a.frozen? ⟨gg, i, none⟩ = false) (hl : gg < a.heap.size) (hne : v.ownBlock ≠ some gg)
    (hm : (v.ownBlock = some g ∧ a.grownBy b (some g)) ∨ (g = a.heap.size ∧ a.grownBy b none)) : b.cell? ⟨gg, i, none⟩ = some u ∧ b.frozen? ⟨gg, i, none⟩ = false := by
  rcases hm with ⟨e1, e2⟩ | ⟨_, e2⟩
  · have hr : some gg ≠ some g := fun e => hne (by rw [e1, e])
    exact ⟨(e2.cell_far ⟨gg, i, none⟩ hl hr).trans h1, (e2.frozen_far ⟨gg, i, none⟩ hl hr).trans h2⟩
  · exact ⟨(e2.cell_far ⟨gg, i, none⟩ hl (by simp)).trans h1, (e2.frozen_far ⟨gg, i, none⟩ hl (by simp)).trans h2⟩
theorem GS.step2 {w : World} {base n : Nat} {V : Nat → Value} {gg cg : Nat} {wr b : World} {i m : Nat} {ob : Obj} (hi : i < 2)
    (h : GS w base n V gg cg wr (fun t => if t < i then m + 1 else m)) (hgg : w.heap.size ≤ gg) (hV : ∀ i, i < 2 → ∀ g, (V i).ownBlock = some g → g < w.heap.size) (hn : n ≤ m) (u : Value) (hu : wr.cell? ⟨gg, i, none⟩ = some u) (xs : List Value) (hxs : wr.ownsRow base 3 1 u m xs) (g cap : Nat)
    (ho : b.ownsRow base 3 1 (.slice (some ⟨g, 0, none⟩) (m + 1) cap) (m + 1) (xs ++ [.int .i64 (mk i m)]))
    (hm : (u.ownBlock = some g ∧ (wr.alloc ob).drew.grownBy b (some g)) ∨ (g = (wr.alloc ob).drew.heap.size ∧ (wr.alloc ob).drew.grownBy b none)) :
    GS w base n V gg cg (b.setCell ⟨gg, i, none⟩ (.slice (some ⟨g, 0, none⟩) (m + 1) cap)) (fun t => if t < i + 1 then m + 1 else m) := by
  have hk : Kp wr (wr.alloc ob).drew := ((Kp.refl wr).alloc ob).drew
  have hN : (fun t => if t < i then m + 1 else m) i = m := by simp
  have h2 := GS.step (N := fun t => if t < i then m + 1 else m) (b := b) hi (h.kp hk) hgg hV (by simp only [Nat.lt_irrefl, if_false]; exact hn) u (hk.later hu) g cap (fun xs' h' => by
    simp only [Nat.lt_irrefl, if_false] at h' ⊢
    rw [owns_uniq h' (hk.owns hxs)]
    exact ho) hm
  simp only [Nat.lt_irrefl, if_false] at h2
  have e : (fun t => if t = i then m + 1 else if t < i then m + 1 else m) = (fun t => if t < i + 1 then m + 1 else m) := by
    funext t
    by_cases h1 : t = i
    · rw [if_pos h1, if_pos (by omega)]
    · rw [if_neg h1]
      by_cases h3 : t < i
      · rw [if_pos h3, if_pos (by omega)]
      · rw [if_neg h3, if_neg (by omega)]
  rw [e] at h2
  exact h2
/-- Two lists of the call's own, in a list. -/
structure L2 (w : World) (base gl n : Nat) (V : Nat → Value) : Prop where
  cell : ∀ i, i < 2 → w.cell? ⟨gl, i, none⟩ = some (V i)
  form : ∀ i, i < 2 → ∃ o c, V i = .slice o n c
  ne : ∀ i j, i < 2 → j < 2 → i ≠ j → ∀ g, (V i).ownBlock = some g → (V j).ownBlock ≠ some g
  lt : ∀ i, i < 2 → ∀ g, (V i).ownBlock = some g → base ≤ g ∧ g < w.heap.size ∧ g ≠ gl
  gl : gl < w.heap.size
  bs : base ≤ w.heap.size
  own0 : ∀ i, i < 2 → ∀ c, V i = .slice none n c → n = 0
  addr : ∀ i, i < 2 → ∀ a c, V i = .slice (some a) n c → ∃ g, a = ⟨g, 0, none⟩ ∧ (V i).ownBlock = some g
theorem L2.nb {w : World} {base gl n : Nat} {V : Nat → Value} (h : L2 w base gl n V) : ¬ Bl V gl := fun ⟨i, hi, e⟩ => (h.lt i hi gl e).2.2 rfl
set_option maxRecDepth 100000 in
set_option maxHeartbeats 4000000 in
theorem OwnInts_any (gl cl base n : Nat) (V : Nat → Value) (X : Nat → List Value) (w : World) (hn : n ≤ 4294967296) (hL : L2 w base gl n V) (hown : ∀ i, i < 2 → w.ownsRow base 3 1 (V i) n (X i)) :
    Calls Tryd.prog 36 #[.slice (some ⟨gl, 0, none⟩) 2 cl] w fun e w' => e = .returned (.bool true) ∧ Kx (Bl V) w w' := by
  obtain ⟨i0, hi, hz0, hz1, hz2⟩ := info_parts info_i
  obtain ⟨j0, hj, hw0, hw1, hw2⟩ := info_parts info_l
  have hnb := hL.nb
  have hgl := hL.gl
  go_enter Tryd.func36, Tryd.ntmps36
  go_wp2_with fail
  go_loopw [3, 4, 5, 15] (fun _ _ _ x wr => ∃ (k : Nat) (X : Nat → List Value), k ≤ 2 ∧ x = .int .i64 k ∧ (∀ i, i < 2 → wr.ownsRow base 3 1 (V i) n (X i)) ∧ Hid (∀ i, i < k → Mkd i (X i) n) ∧ Kx (Bl V) w wr) (fun _ _ _ x _ => 2 - (intOf x).toNat)
  case atStart => exact ⟨0, X, by omega, rfl, hown, Lib.hid fun i h => absurd h (by omega), Kx.refl _ _⟩
  case round =>
    clear hown X
    obtain ⟨k, X, hk, rfl, hown, hM, hkx⟩ := hrel
    by_cases hlt : k < 2
    · obtain ⟨o, c, hV⟩ := hL.form k hlt
      have q1 : wr.cell? ⟨gl, k, none⟩ = some (V k) := (hkx.cell hgl hnb).trans (hL.cell k hlt)
      rw [hV] at q1
      have HV := Lib.hid hV
      clear hV
      have dk : decide ((k : Int) < 2) = true := by simp; omega
      go_upto_region 5 with fail
      obtain ⟨wo, rfl⟩ : ∃ wo : World, wo = wr := ⟨_, rfl⟩
      go_loopw [5, 22] (fun _ y wr => ∃ (j : Nat) (X : Nat → List Value), j ≤ n ∧ y = .int .i64 j ∧ (∀ i, i < 2 → wr.ownsRow base 3 1 (V i) n (X i)) ∧ Hid (∀ i, i < k → Mkd i (X i) n) ∧ Hid (Mkd k (X k) j) ∧ Kx (Bl V) w wr) (fun _ y _ => n - (intOf y).toNat)
      case atStart => exact ⟨0, X, by omega, rfl, hown, hM, Lib.hid fun t h => absurd h (by omega), hkx⟩
      case round =>
        clear hown hM hkx q1 X
        obtain ⟨j, X, hj', rfl, hown, hM, hMk, hkx⟩ := hrel
        by_cases hjn : j < n
        · have ho := hown k hlt
          obtain ⟨g, c', e⟩ := owns_form ho (by omega)
          rw [HV.out] at e
          cases e
          rw [HV.out] at ho
          have hlen := ho.1
          have hcell := ho.cellAt j (by omega)
          rw [List.getElem?_eq_getElem (show j < (X k).length by omega)] at hcell
          have hfr := ho.frozenAt j
          have hst := ho.stored j (.int .i64 (mk k j))
          have hgk : (V k).ownBlock = some g := by rw [HV.out]; rfl
          obtain ⟨X', hX'⟩ : ∃ X' : Nat → List Value, ∀ i, X' i = if i = k then (X k).set j (.int .i64 (mk k j)) else X i := ⟨_, fun _ => rfl⟩
          have hXk : X' k = (X k).set j (.int .i64 (mk k j)) := by rw [hX', if_pos rfl]
          have hXo : ∀ i, i ≠ k → X' i = X i := fun i h => by rw [hX', if_neg h]
          have HX : Hid ((∀ i, i < 2 → (wr.setCell ⟨g, j, none⟩ (.int .i64 (mk k j))).ownsRow base 3 1 (V i) n (X' i)) ∧ Kx (Bl V) w (wr.setCell ⟨g, j, none⟩ (.int .i64 (mk k j)))) := Lib.hid ⟨fun i hi => by
            by_cases e : i = k
            · subst e
              rw [hXk, HV.out]
              exact hst.1
            · rw [hXo i e]
              refine (hown i hi).kept hst.2 ?_
              cases hq : (V i).ownBlock with
              | none => exact .inl rfl
              | some q => exact .inr (fun e5 => hL.ne i k hi hlt e q hq (by rw [hgk]; exact e5.symm)), hkx.grown hst.2 (fun q hq => by injection hq with hq; subst hq; exact .inl ⟨k, hlt, hgk⟩)⟩
          have HM2 : Hid (∀ i, i < k → Mkd i (X' i) n) := Lib.hid fun i hi => by rw [hXo i (by omega)]; exact hM.out i hi
          have HM3 : Hid (Mkd k (X' k) (j + 1)) := Lib.hid (by rw [hXk]; exact hMk.out.set (by omega))
          clear hst hown hM hMk hkx ho hX' hXk hXo
          go_wp2_with (go_at_call 46; (with_reducible refine (Mark_any _ _ _ (by omega) (by omega)).mono ?_); rintro e w1 ⟨rfl, rfl⟩)
          go_roundw
          case rel => exact ⟨j + 1, X', by omega, by go_num, HX.out.1, HM2, HM3, HX.out.2⟩
          case measure => simp [intOf]; omega
        · obtain rfl : n = j := by omega
          have HM2 : Hid (∀ i, i < k + 1 → Mkd i (X i) n) := Lib.hid fun i hi => by
            by_cases e : i = k
            · subst e; exact hMk.out
            · exact hM.out i (by omega)
          clear hM hMk
          go_wp2_with fail
          go_roundw
          case rel => exact ⟨k + 1, X, by omega, by go_num, hown, HM2, hkx⟩
          case measure => simp [intOf]; omega
    · obtain rfl : k = 2 := by omega
      have hown0 := owns_emptyl wr
      have hfm := fun i (hi : i < 2) => hL.form i hi
      have o1 : (V 0).oneCell' = true := by obtain ⟨o, c, e⟩ := hL.form 0 (by omega); rw [e]; rfl
      have o2 : (V 1).oneCell' = true := by obtain ⟨o, c, e⟩ := hL.form 1 (by omega); rw [e]; rfl
      have c0 : wr.cell? ⟨gl, 0, none⟩ = some (V 0) := (hkx.cell hgl hnb).trans (hL.cell 0 (by omega))
      have c1 : wr.cell? ⟨gl, 1, none⟩ = some (V 1) := (hkx.cell hgl hnb).trans (hL.cell 1 (by omega))
      have hka : Kp wr (wr.alloc (.cells #[] 44)) := (Kp.refl wr).alloc _
      have C0 := hka.later c0
      have C1 := hka.later c1
      go_wp2_with (at_builtin; refine wpList_append_own _ rfl _ _ 54 rfl wr.heap.size 44 j0 (.slice none 0 0) 1 24 Tryd.underlying54 hj hw0 hw1 hw2 rfl (by decide) _ _ _ rfl hown0 ⟨gl, 0, none⟩ 2 cl [V 0, V 1] rfl rfl ?d1 ?d2 ?d3 ?d4 ?d5 ?_)
      case d1 =>
        intro j u hu
        match j, hu with
        | 0, hu => simp at hu; subst hu; exact C0
        | 1, hu => simp at hu; subst hu; exact C1
      case d2 =>
        intro u hu
        simp at hu
        rcases hu with rfl | rfl
        · exact o1
        · exact o2
      case d3 => unfold maxLen; omega
      case d4 => omega
      case d5 => simp
      intro v6 w6 hown6 hg6 _
      (try simp only [Nat.zero_add, List.nil_append] at hown6)
      have hk6 : Kp wr w6 := hka.grown hg6 (fun j hj => (hown0.lt j hj).1)
      obtain ⟨gg, cg, rfl⟩ := owns_form hown6 (by omega)
      have hggb := (hown6.lt gg rfl).1
      have hGS : GS w base n V gg cg w6 (fun _ => n) := by
        refine ⟨V, X, [V 0, V 1], fun i hi => ⟨hk6.owns (hown i hi), hM.out i hi, fun e => ?_, ?_, fun g hg t ht => ?_⟩, fun i j hi hj' hij g hg => ⟨hL.ne i j hi hj' hij g hg, hL.ne i j hi hj' hij g hg⟩, fun i hi g hg => .inl ⟨i, hi, hg⟩, owns_mono hown6 ?_, hkx.kp hk6⟩
        · have := ((hown i hi).lt gg e).2; omega
        · match i, hi with
          | 0, _ => rfl
          | 1, _ => rfl
        · refine hk6.later ?_
          obtain ⟨o, c, e⟩ := hL.form i hi
          have ho := hown i hi
          rw [e] at ho hg
          cases o with
          | none => simp [Value.ownBlock] at hg
          | some a =>
            obtain ⟨g', c', e'⟩ := owns_form ho (by omega)
            cases e'
            obtain rfl : g' = g := by simpa [Value.ownBlock] using hg
            rw [ho.cellAt t (by omega)]
            exact hM.out i hi t ht
        · exact Nat.le_trans hL.bs hkx.size
      have hgw : w.heap.size ≤ gg := Nat.le_trans hkx.size hggb
      clear hown6 hg6 hk6 hka C0 C1 c0 c1 o1 o2 hown0 hown hM hkx hfm hggb
      have hVl : ∀ i, i < 2 → ∀ g, (V i).ownBlock = some g → g < w.heap.size := fun i hi g hg => (hL.lt i hi g hg).2.1
      have HVL := Lib.hid hVl
      clear hVl
      go_wp2_with fail
      go_loopw [7, 8, 9] (fun x _ _ wr => ∃ k : Nat, k ≤ 80 ∧ x = .int .i64 k ∧ GS w base n V gg cg wr (fun _ => n + k)) (fun x _ _ _ => 80 - (intOf x).toNat)
      case atStart => exact ⟨0, by omega, rfl, hGS⟩
      case round =>
        clear hGS
        obtain ⟨k, hk, rfl, hGS⟩ := hrel
        by_cases hlt : k < 80
        · have dk : decide ((k : Int) < 80) = true := by simp; omega
          go_upto_region 15 with fail
          obtain ⟨wo, rfl⟩ : ∃ wo : World, wo = wr := ⟨_, rfl⟩
          go_loopw [8, 9, 42] (fun _ _ y wr => ∃ i : Nat, i ≤ 2 ∧ y = .int .i64 i ∧ GS w base n V gg cg wr (fun t => if t < i then n + k + 1 else n + k)) (fun _ _ y _ => 2 - (intOf y).toNat)
          case atStart => exact ⟨0, by omega, rfl, by simpa using hGS⟩
          case round =>
            clear hGS
            obtain ⟨i, hi', rfl, hGS⟩ := hrel
            by_cases hi2 : i < 2
            · obtain ⟨m, hm⟩ : ∃ m, n + k = m := ⟨_, rfl⟩
              rw [hm] at hGS
              obtain ⟨o, c, xs, q1, ho, hfr, hne, hggl, hMx⟩ := hGS.get i hi2
              simp only [Nat.lt_irrefl, if_false] at q1 ho hne hMx
              have HGS := Lib.hid hGS
              have hmb : m ≤ 4294967376 := by omega
              have hMX := Lib.hid hMx
              have HB : Hid (base ≤ wr.heap.size) := Lib.hid (by obtain ⟨_, _, _, _, _, _, _, h5⟩ := hGS; exact Nat.le_trans hL.bs h5.size)
              clear hGS hMx
              have HNE : Hid ((Value.slice o m c).ownBlock ≠ some gg ∧ gg < wr.heap.size) := Lib.hid ⟨hne, hggl⟩
              clear hne
              have HW : Hid (m + 1 ≤ 4294967377) := Lib.hid (by omega)
              go_wp2_with fail
              go_region_law (first
                  | (refine step_append_mv (by rfl) _ _ 44 (by rfl) base 3 i0 (.int .i64 0) 8 Tryd.underlying44 hi hz0 hz1 hz2 rfl _ m xs (by rfl) ((ho.alloc _).drew) ⟨wr.heap.size, 0, none⟩ 1 (.int .i64 (mk i m)) (by rfl) (cell_of_one (heap_alloc_new wr _)) (by rfl) (by rfl) (by have := HW.out; unfold maxLen; exact Nat.le_trans this (by decide)) (Nat.le_trans (Nat.mul_le_mul_right 8 HW.out) (by decide)) (Nat.le_trans HB.out (by simp)) ?_; intro g2 cap' w1 hown1 hlt1 hmv; obtain ⟨hc9, hf9⟩ := held_app (held_alloc q1 hfr hggl).1 (held_alloc q1 hfr hggl).2 (by simp; omega) HNE.out.1 hmv)
                  | (go_simp; go_at_call 46; (with_reducible refine (Mark_any i m _ (by omega) (by omega)).mono ?_); rintro e w1 ⟨rfl, rfl⟩))
              all_goals
                have hG := Lib.hid (GS.step2 hi2 HGS.out hgw HVL.out (by omega) _ q1 xs ho g2 cap' hown1 hmv)
                clear hc9 hf9 hmv hlt1 hown1 HGS ho q1 hfr
                go_wp2_with fail
                go_roundw
                case rel => exact ⟨i + 1, by omega, by go_num, by subst hm; exact hG.out⟩
                case measure => simp [intOf]; omega
            · obtain rfl : i = 2 := by omega
              have hG2 : GS w base n V gg cg wr (fun _ => n + (k + 1)) := by
                obtain ⟨U, Xs, ys, h1, h2, h3, h4, h5⟩ := hGS
                refine ⟨U, Xs, ys, fun t ht => ?_, h2, h3, h4, h5⟩
                have := h1 t ht
                simp only [ht, if_true] at this
                exact this
              clear hGS
              go_wp2_with fail
              go_roundw
              case rel => exact ⟨k + 1, by omega, by go_num, hG2⟩
              case measure => simp [intOf]; omega
        · obtain rfl : k = 80 := by omega
          obtain ⟨M, hM⟩ : ∃ M, n + 80 = M := ⟨_, rfl⟩
          rw [hM] at hGS
          have HU := Lib.hid fun i (hi : i < 2) => hGS.get i hi
          obtain ⟨HK, HO⟩ : Hid (Kx (Bl V) w wr) ∧ Hid (∀ i, i < 2 → ∀ g, (V i).ownBlock = some g → ∀ t, t < n → wr.cell? ⟨g, t, none⟩ = some (.int .i64 (mk i t))) := by
            obtain ⟨U, Xs, ys, h1, h2, h3, h4, h5⟩ := hGS
            exact ⟨Lib.hid h5, Lib.hid fun i hi => (h1 i hi).2.2.2.2⟩
          have HC : Hid (∀ i, i < 2 → wr.cell? ⟨gl, i, none⟩ = some (V i)) := Lib.hid fun i hi => (HK.out.cell hgl hnb).trans (hL.cell i hi)
          have hMb : M ≤ 4294967376 := by omega
          have hnM : n ≤ M := by omega
          clear hGS hM
          go_upto_region 21 with fail
          obtain ⟨wo, hwo⟩ : ∃ wo : World, wo = wr := ⟨_, rfl⟩
          rw [← hwo] at HU HO HC HK ⊢
          clear hwo
          go_loopw [10, 11, 12, 65] (fun _ _ _ x wr => ∃ i : Nat, i ≤ 2 ∧ x = .int .i64 i ∧ Kp wo wr) (fun _ _ _ x _ => 2 - (intOf x).toNat)
          case atStart => exact ⟨0, by omega, rfl, Kp.refl _⟩
          case round =>
            obtain ⟨i, hi', rfl, hkr⟩ := hrel
            by_cases hi2 : i < 2
            · obtain ⟨o, c, xs, q1, ho, _, _, _, hMx⟩ := HU.out i hi2
              have q1 := hkr.later q1
              have di : decide ((i : Int) < 2) = true := by simp; omega
              have HOW := Lib.hid ho
              have HMX := Lib.hid hMx
              clear ho hMx
              go_upto_region 24 with fail
              clear q1
              obtain ⟨wp, hwp⟩ : ∃ wp : World, wp = wr := ⟨_, rfl⟩
              rw [← hwp] at hkr ⊢
              clear hwp
              go_loopw [12, 72] (fun _ y wr => ∃ j : Nat, j ≤ M ∧ y = .int .i64 j ∧ Kp wo wr) (fun _ y _ => M - (intOf y).toNat)
              case atStart => exact ⟨0, by omega, rfl, hkr⟩
              case round =>
                clear hkr
                obtain ⟨j, hj', rfl, hkr⟩ := hrel
                by_cases hjM : j < M
                · obtain ⟨g, c', e⟩ := owns_form HOW.out (by omega)
                  cases e
                  obtain ⟨v, hv⟩ : ∃ v, mk i j = v := ⟨_, rfl⟩
                  have q2 := hkr.later ((HOW.out.cellAt j (by omega)).trans (HMX.out j hjM))
                  rw [hv] at q2
                  have q3 := hkr.later (HC.out i hi2)
                  obtain ⟨o2, c2, hV⟩ := hL.form i hi2
                  rw [hV] at q3
                  have MK : Hid (∀ w, Calls Tryd.prog 46 #[.int .i64 i, .int .i64 j] w fun e w' => e = .returned (.int .i64 v) ∧ w' = w) := Lib.hid fun w => by
                    have := Mark_any i j w (by omega) (by omega)
                    rw [hv] at this; exact this.mono fun e w' ⟨h1, h2⟩ => ⟨h1, h2.symm⟩
                  have vv : (v != v) = false := by simp
                  by_cases hjn : j < n
                  · have ho2 : ∃ g2, o2 = some ⟨g2, 0, none⟩ ∧ wo.cell? ⟨g2, j, none⟩ = some (.int .i64 (mk i j)) := by
                      cases o2 with
                      | none => exact absurd (hL.own0 i hi2 c2 hV) (by omega)
                      | some a =>
                        obtain ⟨g2, h1, h2⟩ := hL.addr i hi2 a c2 hV
                        exact ⟨g2, by rw [h1], HO.out i hi2 g2 h2 j hjn⟩
                    obtain ⟨g2, rfl, q4⟩ := ho2
                    have q4 := hkr.later q4
                    rw [hv] at q4
                    have dj : decide ((j : Int) < (n : Int)) = true := by simp; omega
                    have dj' : decide (j < n) = true := by simp; omega
                    clear hv hV
                    go_wp2_with fail
                    go_quiet ((go_at_call 46; exact Calls.quiet_of_same (MK.out _)))
                    go_wp2_with fail
                    have hkq := hkr.drewN nq
                    have r2 : (wr.drewN nq).cell? ⟨g, j, none⟩ = some (.int .i64 v) := q2
                    have r3 : (wr.drewN nq).cell? ⟨gl, i, none⟩ = some (.slice (some ⟨g2, 0, none⟩) n c2) := q3
                    have r4 : (wr.drewN nq).cell? ⟨g2, j, none⟩ = some (.int .i64 v) := q4
                    generalize wr.drewN nq = wq at *
                    clear q2 q3 q4 hkr MK
                    go_quiet (fail)
                    go_wp2_with fail
                    go_roundw
                    case rel => exact ⟨j + 1, by omega, by go_num, hkq.drewN nq⟩
                    case measure => simp [intOf]; omega
                  · have dj : decide ((j : Int) < (n : Int)) = false := by simp; omega
                    have dj' : decide (j < n) = false := by simp; omega
                    clear hv hV
                    go_wp2_with fail
                    go_quiet ((go_at_call 46; exact Calls.quiet_of_same (MK.out _)))
                    go_wp2_with fail
                    have hkq := hkr.drewN nq
                    have r3 : (wr.drewN nq).cell? ⟨gl, i, none⟩ = some (.slice o2 n c2) := q3
                    generalize wr.drewN nq = wq at *
                    clear q2 q3 hkr MK
                    go_quiet (fail)
                    go_wp2_with fail
                    go_roundw
                    case rel => exact ⟨j + 1, by omega, by go_num, hkq.drewN nq⟩
                    case measure => simp [intOf]; omega
                · obtain rfl : j = M := by omega
                  go_wp2_with fail
                  go_roundw
                  case rel => exact ⟨i + 1, by omega, by go_num, hkr⟩
                  case measure => simp [intOf]; omega
            · obtain rfl : i = 2 := by omega
              go_wp2_with fail
              go_ret
              exact ⟨rfl, HK.out.kp hkr⟩
end Go.Proofs.YtifbcaiegalhbaaDoor
