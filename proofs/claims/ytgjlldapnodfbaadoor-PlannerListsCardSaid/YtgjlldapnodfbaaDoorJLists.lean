import Derived.Test.YtgjlldapnodfbaaDoorORefG
import Derived.Test.YtgjlldapnodfbaaDoorJEach
import Derived.Test.YtgjlldapnodfbaaDoorJAll
import Derived.Test.YtgjlldapnodfbaaDoorORefH
import Derived.Test.YtgjlldapnodfbaaDoorOFixed
/-
  The reference's cheapest at every length.
-/
namespace Go.Proofs.YtgjlldapnodfbaaDoor
open Go Go.RowKit Go.Fl Go.Ord Go.Pr

theorem rcheap_any {p : Pol} (hp : p.Good) (vf : Value) : ∀ (r n : Nat), rank n ≤ r → 1 ≤ n → n ≤ 16384 → RSpec p vf n := by
  intro r
  induction r with
  | zero => intro n h hn; have := (rank_le n).1; omega
  | succ r ih =>
    intro n hr hn1 hn2 Q S bk w l hQ hfl hK
    by_cases hn : n ∈ l
    · exact rcheap_hit p vf n Q S bk w l hfl hK hn
    · exact rcheap_miss p hp vf n hn1 hn2 (fun m h1 h2 h3 => ih m (by omega) h1 h2) Q S bk w l hQ hfl hK hn
end Go.Proofs.YtgjlldapnodfbaaDoor
/-
  The reference's All.
-/
namespace Go.Proofs.YtgjlldapnodfbaaDoor
open Go Go.RowKit Go.Fl Go.Ord Go.Pr

theorem OL.empty (R : Nat → Prop) (w : World) : OL R w (.slice none 0 0) [] := ⟨none, 0, rfl, fun h => absurd h (by simp)⟩
set_option maxRecDepth 100000 in
set_option maxHeartbeats 1000000 in
theorem rAll_len (n : Int) (v : Value) (w : World) (hn : n < 1 ∨ 4096 < n) (hv : ∃ a b c, v = .agg #[a, b, c]) :
    Calls Tryd.prog 23 #[.int .i64 n, v] w fun e w' => e = .returned (.slice none 0 0) ∧ Kp w w' := by
  obtain ⟨a, b, c, rfl⟩ := hv
  have d1 : decide (n < 1) = true ∨ (decide (n < 1) = false ∧ decide (4096 < n) = true) := by simp; omega
  rcases d1 with d1 | ⟨d1, d2⟩
  all_goals
    clear hn
    go_enter Tryd.func23, Tryd.ntmps23
    go_wp2_with fail
    go_ret
    exact ⟨rfl, (Kp.refl w).alloc _⟩
set_option maxRecDepth 100000 in
set_option maxHeartbeats 1000000 in
theorem rAll_pol (n : Int) (p : Pol) (vf : Value) (w : World) (n1 : 1 ≤ n) (n2 : n ≤ 4096) (hl : p.fl.length ≤ 17592186044416) (hv : FlIn w vf p.fl) (hp : p.ok = false) :
    Calls Tryd.prog 23 #[.int .i64 n, .agg #[.int .i64 p.D, vf, .int .i64 p.P]] w fun e w' => e = .returned (.slice none 0 0) ∧ Kp w w' := by
  have hC : Hid (∀ w', Kp w w' → Calls Tryd.prog 15 #[.agg #[.int .i64 p.D, vf, .int .i64 p.P]] w' fun e w'' => e = .returned (.int .i64 5) ∧ Kp w' w'') := Lib.hid fun w' k => by
    have h := rPCheck_any p vf w' hl (hv.kp k)
    rw [hp] at h
    exact h
  have hk0 := (Kp.refl w).alloc (.cells #[.int .i64 p.D, vf, .int .i64 p.P] 24)
  have d1 : decide (n < 1) = false := by simp; omega
  have d2 : decide (4096 < n) = false := by simp; omega
  obtain ⟨o, c, rfl, _⟩ := hv
  clear hp
  go_enter Tryd.func23, Tryd.ntmps23
  go_wp2_with (go_at_call 15; (with_reducible refine (hC.out _ hk0).mono ?_); rintro e w1 ⟨rfl, hk1⟩)
  go_ret
  exact ⟨rfl, hk0.trans hk1⟩
set_option maxRecDepth 100000 in
set_option maxHeartbeats 2000000 in
theorem rAll_good (n : Nat) (p : Pol) (vf : Value) (w : World) (n1 : 1 ≤ n) (n2 : n ≤ 4096) (hl : p.fl.length ≤ 17592186044416) (hv : FlIn w vf p.fl) (hp : p.ok = true) (hR : RAll p vf n) :
    Calls Tryd.prog 23 #[.int .i64 n, .agg #[.int .i64 p.D, vf, .int .i64 p.P]] w fun e w' => ∃ v, e = .returned v ∧ OL (fun _ => True) w' v ((ords p n).take 4096) ∧ Kp w w' := by
  have hC : Hid (∀ w', Kp w w' → Calls Tryd.prog 15 #[.agg #[.int .i64 p.D, vf, .int .i64 p.P]] w' fun e w'' => e = .returned (.int .i64 0) ∧ Kp w' w'') := Lib.hid fun w' k => by
    have h := rPCheck_any p vf w' hl (hv.kp k)
    rw [hp] at h
    exact h
  have hk0 := (Kp.refl w).alloc (.cells #[.int .i64 p.D, vf, .int .i64 p.P] 24)
  have hP0 := heap_alloc_new w (.cells #[.int .i64 p.D, vf, .int .i64 p.P] 24)
  have HP0 := Lib.hid hP0
  have d1 : decide ((n : Int) < 1) = false := by simp; omega
  have d2 : decide ((4096 : Int) < (n : Int)) = false := by simp; omega
  have hCh : Hid (∀ w2, Kp w w2 → Calls Tryd.prog 39 #[.pointer (some ⟨w2.heap.size, 0, none⟩), .int .i64 n, .agg #[.int .i64 p.D, vf, .int .i64 p.P], .int .i64 4096] (w2.alloc (.cells #[.slice none 0 0, .slice none 0 0, .slice none 0 0] 72)) fun e w3 => ∃ v, e = .returned v ∧ Hid (OL (fun _ => True) w3 v ((ords p n).take 4096)) ∧ Kp w2 w3) := Lib.hid fun w2 k => by
    have kA := (Kp.refl w2).alloc (.cells #[.slice none 0 0, .slice none 0 0, .slice none 0 0] 72)
    have hsz := kA.size
    refine (hR (fun g => w.heap.size ≤ g) (fun g => g = w2.heap.size) w2.heap.size _ [] 4096 (fun g hg => by have := k.size; omega) ?_ (KI.start (heap_alloc_new w2 _)) (by decide) (by decide)).mono ?_
    · obtain ⟨o, c, e, h⟩ := hv
      refine ⟨o, c, e, fun hl => ?_⟩
      obtain ⟨g, off, e2, hg, hc⟩ := h hl
      exact ⟨g, off, e2, ⟨by have := k.size; omega, by have := k.size; omega⟩, fun i hi => (k.trans kA).later (hc i hi)⟩
    · rintro e w3 ⟨v, S', ext, rfl, hB, _, hX⟩
      refine ⟨v, rfl, Lib.hid (hB.mono fun g h => trivial), ?_⟩
      exact ⟨hX.os.trans kA.os, hX.tape.trans kA.tape, hX.output.trans kA.output, Nat.le_trans kA.size hX.size, fun g hg => (hX.block g (Nat.lt_of_lt_of_le hg kA.size) (by omega)).trans (kA.block g hg)⟩
  obtain ⟨o, c, rfl, _⟩ := hv
  clear hp hR hP0
  go_enter Tryd.func23, Tryd.ntmps23
  go_upto_region 3 with (go_at_call 15; (with_reducible refine (hC.out _ hk0).mono ?_); rintro e w1 ⟨rfl, hk1⟩)
  have hPP := (hk1.block _ (Array.getElem?_eq_some_iff.1 HP0.out).1).trans HP0.out
  have kA := (Kp.refl w1).alloc (.cells #[.slice none 0 0, .slice none 0 0, .slice none 0 0] 72)
  obtain ⟨⟨p0, p1, p2⟩, _⟩ := row3_facts ((kA.block _ (Array.getElem?_eq_some_iff.1 hPP).1).trans hPP)
  clear hPP
  go_wp2_with (go_at_call 39; (with_reducible refine (hCh.out _ (hk0.trans hk1)).mono ?_); rintro e w3 ⟨v3, rfl, H3, hk3⟩)
  go_ret
  exact ⟨_, rfl, H3.out, (hk0.trans hk1).trans hk3⟩
theorem rAll_any (n : Int) (p : Pol) (vf : Value) (w : World) (hl : p.fl.length ≤ 17592186044416) (hv : FlIn w vf p.fl) :
    Calls Tryd.prog 23 #[.int .i64 n, .agg #[.int .i64 p.D, vf, .int .i64 p.P]] w fun e w' => ∃ v, e = .returned v ∧ OL (fun _ => True) w' v (ordsAll p n) ∧ Kp w w' := by
  by_cases hn : n < 1 ∨ 4096 < n
  · rw [ordsAll_none (by rcases hn with h | h; · exact .inl h
                         · exact .inr (.inl h))]
    refine (rAll_len n _ w hn ⟨_, _, _, rfl⟩).mono ?_
    rintro e w' ⟨rfl, hk⟩
    exact ⟨_, rfl, OL.empty _ _, hk⟩
  · obtain ⟨m, rfl⟩ : ∃ m : Nat, n = (m : Int) := ⟨n.toNat, by omega⟩
    cases hp : p.ok with
    | false =>
      rw [ordsAll_none (.inr (.inr hp))]
      refine (rAll_pol m p vf w (by omega) (by omega) hl hv hp).mono ?_
      rintro e w' ⟨rfl, hk⟩
      exact ⟨_, rfl, OL.empty _ _, hk⟩
    | true =>
      rw [ordsAll_some (by omega) (by omega) hp]
      exact rAll_good m p vf w (by omega) (by omega) hl hv hp (rall_any p (Pol.ok_good hp) vf (fun m h1 h2 => rcheap_any (Pol.ok_good hp) vf (rank m) m (Nat.le_refl _) h1 h2) m (by omega) (by omega))
end Go.Proofs.YtgjlldapnodfbaaDoor
/-
  The walk of PlannerLists.
-/
namespace Go.Ord
/-- How many of a list are looked at. -/
def stopAt (top : Int) (m : Nat) : Nat := if top < 1 ∨ (m : Int) < top then m else top.toNat
theorem stopAt_cut {α : Type} (top : Int) (L : List α) : (cutAt top L).length = stopAt top L.length := by
  unfold cutAt stopAt
  by_cases h : 1 ≤ top
  · rw [if_pos h, List.length_take]
    split <;> omega
  · rw [if_neg h, if_pos (.inl (by omega))]
theorem stopAt_le (top : Int) (m : Nat) : stopAt top m ≤ m := by unfold stopAt; split <;> omega
theorem cutAt_get {α : Type} {top : Int} {L : List α} {i : Nat} (h : i < (cutAt top L).length) (h2 : i < L.length) : (cutAt top L)[i] = L[i] := by
  unfold cutAt at h ⊢
  by_cases c : 1 ≤ top
  · simp only [if_pos c] at h ⊢
    exact List.getElem_take
  · simp only [if_neg c]
end Go.Ord
namespace Go.Proofs.YtgjlldapnodfbaaDoor
open Go Go.RowKit Go.Fl Go.Ord Go.Pr

/-- An element of a list handed back. -/
theorem OL.at {R : Nat → Prop} {w : World} {o : Option Addr} {m c : Nat} {l : List Tr} (h : OL R w (.slice o m c) l) {i : Nat} (hi : i < l.length) :
    m = l.length ∧ ∃ g, o = some ⟨g, 0, none⟩ ∧ ∃ k n oo mm cc, w.cell? ⟨g, i * 3, none⟩ = some (.int .i64 k) ∧ w.cell? ⟨g, i * 3 + 1, none⟩ = some (.int .i64 n) ∧ w.cell? ⟨g, i * 3 + 2, none⟩ = some (.slice oo mm cc) ∧ OIn w l[i] (.agg #[.int .i64 k, .int .i64 n, .slice oo mm cc]) := by
  obtain ⟨o', c', e, h2⟩ := h
  cases e
  obtain ⟨g, e, _, hc⟩ := h2 (by omega)
  obtain ⟨k, n, oo, mm, cc, q1, q2, q3, q4⟩ := hc i hi
  exact ⟨rfl, g, e, k, n, oo, mm, cc, q1, q2, q3, q4.oin⟩
theorem OL.len {R : Nat → Prop} {w : World} {v : Value} {l : List Tr} (h : OL R w v l) : ∃ o c, v = .slice o l.length c := by
  obtain ⟨o, c, e, _⟩ := h
  exact ⟨o, c, e⟩
set_option maxRecDepth 100000 in
set_option maxHeartbeats 4000000 in
theorem walk_PlannerLists (W : World) (n : Int) (_ : (Lit.int .i64 n).wf = true) (p : Pol) (vf : Value) (hv : FlIn W vf p.fl) (hl : p.fl.length ≤ 17592186044416) (top : Int) (_ : (Lit.int .i64 top).wf = true) (aR aL aO aM : Addr) (hE : Er4 W aR aL aO aM) :
    Calls Tryd.prog 6 #[.int .i64 n, .agg #[.int .i64 p.D, vf, .int .i64 p.P], .int .i64 top] W fun e w' => e = .returned (.bool true) ∧ Kp W w' := by
  have HFx : Hid (∀ w', Kp W w' → Calls Tryd.prog 8 #[] w' fun e w'' => e = .returned (.bool true) ∧ Kp w' w'') := Lib.hid fun w' k => ofixed_any _ _ _ _ w' (hE.kp k)
  obtain ⟨LL, hLL⟩ : ∃ LL, ordsAll p n = LL := ⟨_, rfl⟩
  have HAll : Hid (∀ w', Kp W w' → Calls Tryd.prog 23 #[.int .i64 n, .agg #[.int .i64 p.D, vf, .int .i64 p.P]] w' fun e w'' => ∃ o c, e = .returned (.slice o LL.length c) ∧ Hid (OL (fun _ => True) w'' (.slice o LL.length c) LL) ∧ Kp w' w'') := Lib.hid fun w' k => by
    refine (rAll_any n p vf w' hl (hv.kp k)).mono ?_
    rintro e w'' ⟨v, rfl, h1, h2⟩
    rw [hLL] at h1
    obtain ⟨o, c, rfl⟩ := h1.len
    exact ⟨o, c, rfl, Lib.hid h1, h2⟩
  have HGo : Hid (∀ w' t, Kp W w' → Calls Tryd.prog 24 #[.int .i64 n, .agg #[.int .i64 p.D, vf, .int .i64 p.P], .int .i64 t] w' fun e w'' => ∃ o c, e = .returned (.tuple #[.slice o (stopAt t LL.length) c, .bool true]) ∧ Hid (OL (fun _ => True) w'' (.slice o (stopAt t LL.length) c) (cutAt t LL)) ∧ Kp w' w'') := Lib.hid fun w' t k => by
    refine (gone_any p n t vf w' aR hl (hv.kp k) (hE.kp k).r).mono ?_
    rintro e w'' ⟨v, rfl, h1, h2⟩
    rw [hLL] at h1
    obtain ⟨o, c, rfl⟩ := h1.len
    rw [stopAt_cut] at h1 ⊢
    exact ⟨o, c, rfl, Lib.hid h1, h2⟩
  have HSame : Hid (∀ T u v w, OIn w T u → OIn w T v → Calls Tryd.prog 12 #[u, v] w fun e w' => e = .returned (.bool true) ∧ Kp w w') := Lib.hid rSame_any
  obtain ⟨of, cf, rfl, _⟩ := hv
  obtain ⟨mf, hmf⟩ : ∃ mf, p.fl.length = mf := ⟨_, rfl⟩
  have HMf := Lib.hid hmf
  obtain ⟨D, hD⟩ : ∃ D, p.D = D := ⟨_, rfl⟩
  obtain ⟨P, hP⟩ : ∃ P, p.P = P := ⟨_, rfl⟩
  rw [hmf, hD, hP] at HAll HGo ⊢
  obtain ⟨m, hm⟩ : ∃ m, LL.length = m := ⟨_, rfl⟩
  have hm4 : m ≤ 4096 := by
    rw [← hm, ← hLL]; unfold ordsAll; split
    · exact Nat.zero_le _
    · rw [List.length_take]; omega
  rw [hm] at HAll HGo
  have HM := Lib.hid hm
  clear hE hl hLL hmf hD hP hm
  have k0 := (Kp.refl W).alloc (.cells #[.int .i64 D, .slice of mf cf, .int .i64 P] 24)
  have hA := heap_alloc_new W (.cells #[.int .i64 D, .slice of mf cf, .int .i64 P] 24)
  go_enter Tryd.func6, Tryd.ntmps6
  go_upto_region 3 with (go_at_call 8; (with_reducible refine (HFx.out _ k0).mono ?_); rintro e w1 ⟨rfl, hk1⟩)
  have kW := k0.trans hk1
  have HP1 : Hid (∀ w', Kp w1 w' → w'.cell? ⟨W.heap.size, 0, none⟩ = some (.int .i64 D) ∧ w'.cell? ⟨W.heap.size, 1, none⟩ = some (.slice of mf cf) ∧ w'.cell? ⟨W.heap.size, 2, none⟩ = some (.int .i64 P)) := Lib.hid fun w' k => (row3_facts (((hk1.trans k).block _ (Array.getElem?_eq_some_iff.1 hA).1).trans hA)).1
  clear hA
  obtain ⟨p0, p1, p2⟩ := HP1.out _ (Kp.refl _)
  go_upto_region 4 with (go_at_call 23; (with_reducible refine (HAll.out _ kW).mono ?_); rintro e w2 ⟨oa, ca, rfl, HA, hk2⟩)
  clear p0 p1 p2
  obtain ⟨p0, p1, p2⟩ := HP1.out _ hk2
  go_upto_region 5 with (go_at_call 24; (with_reducible refine (HGo.out _ _ (kW.trans hk2)).mono ?_); rintro e w3 ⟨ob, cb, rfl, HB, hk3⟩)
  clear p0 p1 p2
  obtain ⟨p0, p1, p2⟩ := HP1.out _ (hk2.trans hk3)
  have hsm : stopAt (-1) m = m := by unfold stopAt; rw [if_pos (.inl (by decide))]
  rw [hsm] at HB ⊢
  clear hsm
  go_upto_region 6 with (go_at_call 24; (with_reducible refine (HGo.out _ _ ((kW.trans hk2).trans hk3)).mono ?_); rintro e w4 ⟨oc, cc, rfl, HC, hk4⟩)
  have HKW := Lib.hid (((kW.trans hk2).trans hk3).trans hk4)
  have HLs := Lib.hid (And.intro (HA.out.kp (hk3.trans hk4)) (And.intro (show OL (fun _ => True) w4 (.slice ob m cb) LL by have h := HB.out.kp hk4; rw [cutAt_all (by omega)] at h; exact h) HC.out))
  have HCL : Hid ((cutAt top LL).length = stopAt top m) := Lib.hid (by rw [stopAt_cut, HM.out])
  have HCG : Hid (∀ i (h1 : i < (cutAt top LL).length) (h2 : i < LL.length), (cutAt top LL)[i] = LL[i]) := Lib.hid fun i h1 h2 => cutAt_get h1 h2
  clear HA HB HC HFx HAll HGo p0 p1 p2 HP1 k0 kW hk1 hk2 hk3 hk4
  by_cases c1 : top < 1
  · have d1 : decide (top < 1) = true := by simpa using c1
    rw [show stopAt top m = m from if_pos (.inl c1)] at HLs HCL ⊢
    clear c1
    go_upto_region 12 with fail
    go_wp2_with fail
    go_loopw [12, 60] (fun _ y wr => ∃ i : Nat, i ≤ m ∧ y = .int .i64 i ∧ Kp w4 wr) (fun _ y _ => m - (intOf y).toNat)
    case atStart => exact ⟨0, by omega, rfl, Kp.refl _⟩
    case round =>
      obtain ⟨i, hi, rfl, hkr⟩ := hrel
      by_cases hlt : i < m
      · obtain ⟨hA, hB, hC⟩ := HLs.out
        have hm' := HM.out
        obtain ⟨-, ga, rfl, ka, na, pa, ma, ra, q1, q2, q3, hx⟩ := (hA.kp hkr).at (i := i) (by omega)
        obtain ⟨-, gb, rfl, kb, nb, pb, mb, rb, r1, r2, r3, hy⟩ := (hB.kp hkr).at (i := i) (by omega)
        have k1 : Kp wr (wr.drewN 1) := (Kp.refl wr).drewN 1
        have kd : Kp wr wr.drew := (Kp.refl wr).drew
        have hc : Hid (∀ w', Kp wr w' → Calls Tryd.prog 12 #[.agg #[.int .i64 kb, .int .i64 nb, .slice pb mb rb], .agg #[.int .i64 ka, .int .i64 na, .slice pa ma ra]] w' fun e w'' => e = .returned (.bool true) ∧ Kp w' w'') := Lib.hid fun w' hk => HSame.out _ _ _ w' (hy.kp hk) (hx.kp hk)
        by_cases hit : i < m
        · have hlen := HCL.out
          have hgt := HCG.out i (by omega) (by omega)
          obtain ⟨-, gc, rfl, kc, nc, pc, mc, rc, s1, s2, s3, hz⟩ := (hC.kp hkr).at (i := i) (by omega)
          rw [hgt] at hz
          have hc2 : Hid (∀ w', Kp wr w' → Calls Tryd.prog 12 #[.agg #[.int .i64 kc, .int .i64 nc, .slice pc mc rc], .agg #[.int .i64 ka, .int .i64 na, .slice pa ma ra]] w' fun e w'' => e = .returned (.bool true) ∧ Kp w' w'') := Lib.hid fun w' hk => HSame.out _ _ _ w' (hz.kp hk) (hx.kp hk)
          have HK : Hid (∀ w', Kp wr w' → (w'.cell? ⟨gb, i * 3, none⟩ = some (.int .i64 kb) ∧ w'.cell? ⟨gb, i * 3 + 1, none⟩ = some (.int .i64 nb) ∧ w'.cell? ⟨gb, i * 3 + 2, none⟩ = some (.slice pb mb rb)) ∧ (w'.cell? ⟨ga, i * 3, none⟩ = some (.int .i64 ka) ∧ w'.cell? ⟨ga, i * 3 + 1, none⟩ = some (.int .i64 na) ∧ w'.cell? ⟨ga, i * 3 + 2, none⟩ = some (.slice pa ma ra)) ∧ (w'.cell? ⟨gc, i * 3, none⟩ = some (.int .i64 kc) ∧ w'.cell? ⟨gc, i * 3 + 1, none⟩ = some (.int .i64 nc) ∧ w'.cell? ⟨gc, i * 3 + 2, none⟩ = some (.slice pc mc rc))) := Lib.hid fun w' h => ⟨⟨h.later r1, h.later r2, h.later r3⟩, ⟨h.later q1, h.later q2, h.later q3⟩, ⟨h.later s1, h.later s2, h.later s3⟩⟩
          obtain ⟨⟨y1, y2, y3⟩, ⟨y4, y5, y6⟩, ⟨y7, y8, y9⟩⟩ := HK.out _ (Kp.refl _)
          have e3 : decide ((i : Int) < (m : Int)) = true := by simp; omega
          have e4 : decide (i < m) = true := by simp; omega
          clear q1 q2 q3 r1 r2 r3 s1 s2 s3 hx hy hz hA hB hC hm' hlen hgt
          go_wp2_with fail
          go_region_held3 (fun w' => (w'.cell? ⟨gb, i * 3, none⟩ = some (.int .i64 kb) ∧ w'.cell? ⟨gb, i * 3 + 1, none⟩ = some (.int .i64 nb) ∧ w'.cell? ⟨gb, i * 3 + 2, none⟩ = some (.slice pb mb rb)) ∧ (w'.cell? ⟨ga, i * 3, none⟩ = some (.int .i64 ka) ∧ w'.cell? ⟨ga, i * 3 + 1, none⟩ = some (.int .i64 na) ∧ w'.cell? ⟨ga, i * 3 + 2, none⟩ = some (.slice pa ma ra)) ∧ (w'.cell? ⟨gc, i * 3, none⟩ = some (.int .i64 kc) ∧ w'.cell? ⟨gc, i * 3 + 1, none⟩ = some (.int .i64 nc) ∧ w'.cell? ⟨gc, i * 3 + 2, none⟩ = some (.slice pc mc rc)))
            (first | go_keep | exact HK.out _ kd | exact HK.out _ (kd.trans hk5) | exact HK.out _ ((kd.trans hk5).trans hk6))
            (first | (go_at_call 12; (with_reducible refine (hc.out _ kd).mono ?_); rintro e w5 ⟨rfl, hk5⟩) | (go_at_call 12; (with_reducible refine (hc2.out _ (kd.trans hk5)).mono ?_); rintro e w6 ⟨rfl, hk6⟩))
          go_wp2_with fail
          go_roundw
          case rel => exact ⟨i + 1, by omega, by go_num, ((hkr.trans kd).trans hk5).trans hk6⟩
          case measure => simp [intOf]; omega
        · exact absurd hlt hit
      · obtain rfl : m = i := by omega
        go_wp2_with fail
        go_ret
        exact ⟨rfl, HKW.out.trans hkr⟩
  by_cases c2 : (m : Int) < top
  · have d1 : decide (top < 1) = false := by simpa using c1
    have d2 : decide ((m : Int) < top) = true := by simpa using c2
    rw [show stopAt top m = m from if_pos (.inr c2)] at HLs HCL ⊢
    clear c1 c2
    go_upto_region 12 with fail
    go_wp2_with fail
    go_loopw [12, 60] (fun _ y wr => ∃ i : Nat, i ≤ m ∧ y = .int .i64 i ∧ Kp w4 wr) (fun _ y _ => m - (intOf y).toNat)
    case atStart => exact ⟨0, by omega, rfl, Kp.refl _⟩
    case round =>
      obtain ⟨i, hi, rfl, hkr⟩ := hrel
      by_cases hlt : i < m
      · obtain ⟨hA, hB, hC⟩ := HLs.out
        have hm' := HM.out
        obtain ⟨-, ga, rfl, ka, na, pa, ma, ra, q1, q2, q3, hx⟩ := (hA.kp hkr).at (i := i) (by omega)
        obtain ⟨-, gb, rfl, kb, nb, pb, mb, rb, r1, r2, r3, hy⟩ := (hB.kp hkr).at (i := i) (by omega)
        have k1 : Kp wr (wr.drewN 1) := (Kp.refl wr).drewN 1
        have kd : Kp wr wr.drew := (Kp.refl wr).drew
        have hc : Hid (∀ w', Kp wr w' → Calls Tryd.prog 12 #[.agg #[.int .i64 kb, .int .i64 nb, .slice pb mb rb], .agg #[.int .i64 ka, .int .i64 na, .slice pa ma ra]] w' fun e w'' => e = .returned (.bool true) ∧ Kp w' w'') := Lib.hid fun w' hk => HSame.out _ _ _ w' (hy.kp hk) (hx.kp hk)
        by_cases hit : i < m
        · have hlen := HCL.out
          have hgt := HCG.out i (by omega) (by omega)
          obtain ⟨-, gc, rfl, kc, nc, pc, mc, rc, s1, s2, s3, hz⟩ := (hC.kp hkr).at (i := i) (by omega)
          rw [hgt] at hz
          have hc2 : Hid (∀ w', Kp wr w' → Calls Tryd.prog 12 #[.agg #[.int .i64 kc, .int .i64 nc, .slice pc mc rc], .agg #[.int .i64 ka, .int .i64 na, .slice pa ma ra]] w' fun e w'' => e = .returned (.bool true) ∧ Kp w' w'') := Lib.hid fun w' hk => HSame.out _ _ _ w' (hz.kp hk) (hx.kp hk)
          have HK : Hid (∀ w', Kp wr w' → (w'.cell? ⟨gb, i * 3, none⟩ = some (.int .i64 kb) ∧ w'.cell? ⟨gb, i * 3 + 1, none⟩ = some (.int .i64 nb) ∧ w'.cell? ⟨gb, i * 3 + 2, none⟩ = some (.slice pb mb rb)) ∧ (w'.cell? ⟨ga, i * 3, none⟩ = some (.int .i64 ka) ∧ w'.cell? ⟨ga, i * 3 + 1, none⟩ = some (.int .i64 na) ∧ w'.cell? ⟨ga, i * 3 + 2, none⟩ = some (.slice pa ma ra)) ∧ (w'.cell? ⟨gc, i * 3, none⟩ = some (.int .i64 kc) ∧ w'.cell? ⟨gc, i * 3 + 1, none⟩ = some (.int .i64 nc) ∧ w'.cell? ⟨gc, i * 3 + 2, none⟩ = some (.slice pc mc rc))) := Lib.hid fun w' h => ⟨⟨h.later r1, h.later r2, h.later r3⟩, ⟨h.later q1, h.later q2, h.later q3⟩, ⟨h.later s1, h.later s2, h.later s3⟩⟩
          obtain ⟨⟨y1, y2, y3⟩, ⟨y4, y5, y6⟩, ⟨y7, y8, y9⟩⟩ := HK.out _ (Kp.refl _)
          have e3 : decide ((i : Int) < (m : Int)) = true := by simp; omega
          have e4 : decide (i < m) = true := by simp; omega
          clear q1 q2 q3 r1 r2 r3 s1 s2 s3 hx hy hz hA hB hC hm' hlen hgt
          go_wp2_with fail
          go_region_held3 (fun w' => (w'.cell? ⟨gb, i * 3, none⟩ = some (.int .i64 kb) ∧ w'.cell? ⟨gb, i * 3 + 1, none⟩ = some (.int .i64 nb) ∧ w'.cell? ⟨gb, i * 3 + 2, none⟩ = some (.slice pb mb rb)) ∧ (w'.cell? ⟨ga, i * 3, none⟩ = some (.int .i64 ka) ∧ w'.cell? ⟨ga, i * 3 + 1, none⟩ = some (.int .i64 na) ∧ w'.cell? ⟨ga, i * 3 + 2, none⟩ = some (.slice pa ma ra)) ∧ (w'.cell? ⟨gc, i * 3, none⟩ = some (.int .i64 kc) ∧ w'.cell? ⟨gc, i * 3 + 1, none⟩ = some (.int .i64 nc) ∧ w'.cell? ⟨gc, i * 3 + 2, none⟩ = some (.slice pc mc rc)))
            (first | go_keep | exact HK.out _ kd | exact HK.out _ (kd.trans hk5) | exact HK.out _ ((kd.trans hk5).trans hk6))
            (first | (go_at_call 12; (with_reducible refine (hc.out _ kd).mono ?_); rintro e w5 ⟨rfl, hk5⟩) | (go_at_call 12; (with_reducible refine (hc2.out _ (kd.trans hk5)).mono ?_); rintro e w6 ⟨rfl, hk6⟩))
          go_wp2_with fail
          go_roundw
          case rel => exact ⟨i + 1, by omega, by go_num, ((hkr.trans kd).trans hk5).trans hk6⟩
          case measure => simp [intOf]; omega
        · exact absurd hlt hit
      · obtain rfl : m = i := by omega
        go_wp2_with fail
        go_ret
        exact ⟨rfl, HKW.out.trans hkr⟩
  obtain ⟨t, rfl⟩ : ∃ t : Nat, top = t := ⟨top.toNat, by omega⟩
  have d1 : decide ((t : Int) < 1) = false := by simpa using c1
  have d2 : decide ((m : Int) < (t : Int)) = false := by simpa using c2
  have htm : t ≤ m := by omega
  rw [show stopAt (t : Int) m = t by unfold stopAt; rw [if_neg (by omega)]; simp] at HLs HCL ⊢
  clear c1 c2
  go_upto_region 12 with fail
  go_wp2_with fail
  go_loopw [12, 60] (fun _ y wr => ∃ i : Nat, i ≤ m ∧ y = .int .i64 i ∧ Kp w4 wr) (fun _ y _ => m - (intOf y).toNat)
  case atStart => exact ⟨0, by omega, rfl, Kp.refl _⟩
  case round =>
    obtain ⟨i, hi, rfl, hkr⟩ := hrel
    by_cases hlt : i < m
    · obtain ⟨hA, hB, hC⟩ := HLs.out
      have hm' := HM.out
      obtain ⟨-, ga, rfl, ka, na, pa, ma, ra, q1, q2, q3, hx⟩ := (hA.kp hkr).at (i := i) (by omega)
      obtain ⟨-, gb, rfl, kb, nb, pb, mb, rb, r1, r2, r3, hy⟩ := (hB.kp hkr).at (i := i) (by omega)
      have k1 : Kp wr (wr.drewN 1) := (Kp.refl wr).drewN 1
      have kd : Kp wr wr.drew := (Kp.refl wr).drew
      have hc : Hid (∀ w', Kp wr w' → Calls Tryd.prog 12 #[.agg #[.int .i64 kb, .int .i64 nb, .slice pb mb rb], .agg #[.int .i64 ka, .int .i64 na, .slice pa ma ra]] w' fun e w'' => e = .returned (.bool true) ∧ Kp w' w'') := Lib.hid fun w' hk => HSame.out _ _ _ w' (hy.kp hk) (hx.kp hk)
      by_cases hit : i < t
      · have hlen := HCL.out
        have hgt := HCG.out i (by omega) (by omega)
        obtain ⟨-, gc, rfl, kc, nc, pc, mc, rc, s1, s2, s3, hz⟩ := (hC.kp hkr).at (i := i) (by omega)
        rw [hgt] at hz
        have hc2 : Hid (∀ w', Kp wr w' → Calls Tryd.prog 12 #[.agg #[.int .i64 kc, .int .i64 nc, .slice pc mc rc], .agg #[.int .i64 ka, .int .i64 na, .slice pa ma ra]] w' fun e w'' => e = .returned (.bool true) ∧ Kp w' w'') := Lib.hid fun w' hk => HSame.out _ _ _ w' (hz.kp hk) (hx.kp hk)
        have HK : Hid (∀ w', Kp wr w' → (w'.cell? ⟨gb, i * 3, none⟩ = some (.int .i64 kb) ∧ w'.cell? ⟨gb, i * 3 + 1, none⟩ = some (.int .i64 nb) ∧ w'.cell? ⟨gb, i * 3 + 2, none⟩ = some (.slice pb mb rb)) ∧ (w'.cell? ⟨ga, i * 3, none⟩ = some (.int .i64 ka) ∧ w'.cell? ⟨ga, i * 3 + 1, none⟩ = some (.int .i64 na) ∧ w'.cell? ⟨ga, i * 3 + 2, none⟩ = some (.slice pa ma ra)) ∧ (w'.cell? ⟨gc, i * 3, none⟩ = some (.int .i64 kc) ∧ w'.cell? ⟨gc, i * 3 + 1, none⟩ = some (.int .i64 nc) ∧ w'.cell? ⟨gc, i * 3 + 2, none⟩ = some (.slice pc mc rc))) := Lib.hid fun w' h => ⟨⟨h.later r1, h.later r2, h.later r3⟩, ⟨h.later q1, h.later q2, h.later q3⟩, ⟨h.later s1, h.later s2, h.later s3⟩⟩
        obtain ⟨⟨y1, y2, y3⟩, ⟨y4, y5, y6⟩, ⟨y7, y8, y9⟩⟩ := HK.out _ (Kp.refl _)
        have e3 : decide ((i : Int) < (t : Int)) = true := by simp; omega
        have e4 : decide (i < t) = true := by simp; omega
        clear q1 q2 q3 r1 r2 r3 s1 s2 s3 hx hy hz hA hB hC hm' hlen hgt
        go_wp2_with fail
        go_region_held3 (fun w' => (w'.cell? ⟨gb, i * 3, none⟩ = some (.int .i64 kb) ∧ w'.cell? ⟨gb, i * 3 + 1, none⟩ = some (.int .i64 nb) ∧ w'.cell? ⟨gb, i * 3 + 2, none⟩ = some (.slice pb mb rb)) ∧ (w'.cell? ⟨ga, i * 3, none⟩ = some (.int .i64 ka) ∧ w'.cell? ⟨ga, i * 3 + 1, none⟩ = some (.int .i64 na) ∧ w'.cell? ⟨ga, i * 3 + 2, none⟩ = some (.slice pa ma ra)) ∧ (w'.cell? ⟨gc, i * 3, none⟩ = some (.int .i64 kc) ∧ w'.cell? ⟨gc, i * 3 + 1, none⟩ = some (.int .i64 nc) ∧ w'.cell? ⟨gc, i * 3 + 2, none⟩ = some (.slice pc mc rc)))
          (first | go_keep | exact HK.out _ kd | exact HK.out _ (kd.trans hk5) | exact HK.out _ ((kd.trans hk5).trans hk6))
          (first | (go_at_call 12; (with_reducible refine (hc.out _ kd).mono ?_); rintro e w5 ⟨rfl, hk5⟩) | (go_at_call 12; (with_reducible refine (hc2.out _ (kd.trans hk5)).mono ?_); rintro e w6 ⟨rfl, hk6⟩))
        go_wp2_with fail
        go_roundw
        case rel => exact ⟨i + 1, by omega, by go_num, ((hkr.trans kd).trans hk5).trans hk6⟩
        case measure => simp [intOf]; omega
      · have HK : Hid (∀ w', Kp wr w' → (w'.cell? ⟨gb, i * 3, none⟩ = some (.int .i64 kb) ∧ w'.cell? ⟨gb, i * 3 + 1, none⟩ = some (.int .i64 nb) ∧ w'.cell? ⟨gb, i * 3 + 2, none⟩ = some (.slice pb mb rb)) ∧ (w'.cell? ⟨ga, i * 3, none⟩ = some (.int .i64 ka) ∧ w'.cell? ⟨ga, i * 3 + 1, none⟩ = some (.int .i64 na) ∧ w'.cell? ⟨ga, i * 3 + 2, none⟩ = some (.slice pa ma ra))) := Lib.hid fun w' h => ⟨⟨h.later r1, h.later r2, h.later r3⟩, ⟨h.later q1, h.later q2, h.later q3⟩⟩
        obtain ⟨⟨y1, y2, y3⟩, ⟨y4, y5, y6⟩⟩ := HK.out _ (Kp.refl _)
        have e3 : decide ((i : Int) < (t : Int)) = false := by simp; omega
        have e4 : decide (i < t) = false := by simp; omega
        clear q1 q2 q3 r1 r2 r3 hx hy hA hB hC hm'
        go_wp2_with fail
        have y0d := HK.out _ kd
        refine wp_region_held_drew (S := (fun w' => (w'.cell? ⟨gb, i * 3, none⟩ = some (.int .i64 kb) ∧ w'.cell? ⟨gb, i * 3 + 1, none⟩ = some (.int .i64 nb) ∧ w'.cell? ⟨gb, i * 3 + 2, none⟩ = some (.slice pb mb rb)) ∧ (w'.cell? ⟨ga, i * 3, none⟩ = some (.int .i64 ka) ∧ w'.cell? ⟨ga, i * 3 + 1, none⟩ = some (.int .i64 na) ∧ w'.cell? ⟨ga, i * 3 + 2, none⟩ = some (.slice pa ma ra)))) (by kernel_rfl) y0d (fun hHeld => ?_)
        refine wpAnyH_take (i := 0) (oi := Oper.mk _ _ _ _ _ _) (v := ?_) rfl (by kernel_rfl) (by kernel_rfl) (by kernel_rfl) (fun _ _ _ h => h) (Or.inl ⟨by rfl, ?_⟩) (by assumption) ?_
        rotate_left
        · intro w hSw
          (try dsimp only at hSw)
          go_simp
          try with_reducible rfl
        try simp only [Act.put, List.setIfInBounds_toArray, List.set_cons_zero, List.set_cons_succ]
        refine wpAnyH_take (i := 1) (oi := Oper.mk _ _ _ _ _ _) (v := ?_) rfl (by kernel_rfl) (by kernel_rfl) (by kernel_rfl) (fun _ _ _ h => h) (Or.inl ⟨by rfl, ?_⟩) (by assumption) ?_
        rotate_left
        · intro w hSw
          (try dsimp only at hSw)
          go_simp
          try with_reducible rfl
        try simp only [Act.put, List.setIfInBounds_toArray, List.set_cons_zero, List.set_cons_succ]
        refine wpAnyH_take (i := 2) (oi := Oper.mk _ _ _ _ _ _) (v := ?_) rfl (by kernel_rfl) (by kernel_rfl) (by kernel_rfl) (fun _ _ _ h => h) (Or.inl ⟨by rfl, ?_⟩) (by assumption) ?_
        rotate_left
        · intro w hSw
          (try dsimp only at hSw)
          go_simp
          try with_reducible rfl
        try simp only [Act.put, List.setIfInBounds_toArray, List.set_cons_zero, List.set_cons_succ]
        refine wpAnyH_take (i := 3) (oi := Oper.mk _ _ _ _ _ _) (v := ?_) rfl (by kernel_rfl) (by kernel_rfl) (by kernel_rfl) (fun _ _ _ h => h) (Or.inl ⟨by rfl, ?_⟩) (by assumption) ?_
        rotate_left
        · intro w hSw
          (try dsimp only at hSw)
          go_simp
          try with_reducible rfl
        try simp only [Act.put, List.setIfInBounds_toArray, List.set_cons_zero, List.set_cons_succ]
        refine wpAnyH_take (i := 4) (oi := Oper.mk _ _ _ _ _ _) (v := ?_) rfl (by kernel_rfl) (by kernel_rfl) (by kernel_rfl) (fun _ _ _ h => h) (Or.inl ⟨by rfl, ?_⟩) (by assumption) ?_
        rotate_left
        · intro w hSw
          (try dsimp only at hSw)
          go_simp
          try with_reducible rfl
        try simp only [Act.put, List.setIfInBounds_toArray, List.set_cons_zero, List.set_cons_succ]
        refine wpAnyH_take (i := 5) (oi := Oper.mk _ _ _ _ _ _) (v := ?_) rfl (by kernel_rfl) (by kernel_rfl) (by kernel_rfl) (fun _ _ _ h => h) (Or.inl ⟨by rfl, ?_⟩) (by assumption) ?_
        rotate_left
        · intro w hSw
          (try dsimp only at hSw)
          go_simp
          try with_reducible rfl
        try simp only [Act.put, List.setIfInBounds_toArray, List.set_cons_zero, List.set_cons_succ]
        refine wpAnyH_take (i := 6) (oi := Oper.mk _ _ _ _ _ _) (v := ?_) rfl (by kernel_rfl) (by kernel_rfl) (by kernel_rfl) (fun _ _ _ h => h) (Or.inl ⟨by rfl, ?_⟩) (by assumption) ?_
        rotate_left
        · intro w hSw
          (try dsimp only at hSw)
          go_simp
          try with_reducible rfl
        try simp only [Act.put, List.setIfInBounds_toArray, List.set_cons_zero, List.set_cons_succ]
        refine wpAnyH_take (i := 7) (oi := Oper.mk _ _ _ _ _ _) (v := ?_) rfl (by kernel_rfl) (by kernel_rfl) (by kernel_rfl) (fun _ _ _ h => h) (Or.inl ⟨by rfl, ?_⟩) (by assumption) ?_
        rotate_left
        · intro w hSw
          (try dsimp only at hSw)
          go_simp
          try with_reducible rfl
        try simp only [Act.put, List.setIfInBounds_toArray, List.set_cons_zero, List.set_cons_succ]
        refine wpAnyH_ready (rs := [8]) (by kernel_rfl) (by simp) ?_
        refine AllReadyH.cons (o := Oper.mk _ _ _ _ _ _) rfl (fun K hK => ?_) AllReadyH.nil
        go_simp
        go_at_call 12
        (with_reducible refine (hc.out _ kd).mono ?_)
        rintro e w5 ⟨rfl, hk5⟩
        refine hK.out _ _ (HK.out _ (kd.trans hk5)) (fun hHeld => ?_)
        clear hK K
        try simp only [Act.put, List.setIfInBounds_toArray, List.set_cons_zero, List.set_cons_succ]
        refine wpAnyH_take (i := 9) (oi := Oper.mk _ _ _ _ _ _) (v := ?_) rfl (by kernel_rfl) (by kernel_rfl) (by kernel_rfl) (fun _ _ _ h => h) (Or.inl ⟨by rfl, ?_⟩) (by assumption) ?_
        rotate_left
        · intro w hSw
          (try dsimp only at hSw)
          go_simp
          try with_reducible rfl
        try simp only [Act.put, List.setIfInBounds_toArray, List.set_cons_zero, List.set_cons_succ]
        refine wpAnyH_take (i := 10) (oi := Oper.mk _ _ _ _ _ _) (v := ?_) rfl (by kernel_rfl) (by kernel_rfl) (by kernel_rfl) (fun _ _ _ h => h) (Or.inl ⟨by rfl, ?_⟩) (by assumption) ?_
        rotate_left
        · intro w hSw
          (try dsimp only at hSw)
          go_simp
          try with_reducible rfl
        try simp only [Act.put, List.setIfInBounds_toArray, List.set_cons_zero, List.set_cons_succ]
        refine wpAnyH_take (i := 11) (oi := Oper.mk _ _ _ _ _ _) (v := ?_) rfl (by kernel_rfl) (by kernel_rfl) (by kernel_rfl) (fun _ _ _ h => h) (Or.inl ⟨by rfl, ?_⟩) (by assumption) ?_
        rotate_left
        · intro w hSw
          (try dsimp only at hSw)
          go_simp
          try with_reducible rfl
        try simp only [Act.put, List.setIfInBounds_toArray, List.set_cons_zero, List.set_cons_succ]
        refine wpAnyH_take (i := 12) (oi := Oper.mk _ _ _ _ _ _) (v := ?_) rfl (by kernel_rfl) (by kernel_rfl) (by kernel_rfl) (fun _ _ _ h => h) (Or.inl ⟨by rfl, ?_⟩) (by assumption) ?_
        rotate_left
        · intro w hSw
          (try dsimp only at hSw)
          go_simp
          try with_reducible rfl
        try simp only [Act.put, List.setIfInBounds_toArray, List.set_cons_zero, List.set_cons_succ]
        refine wpAnyH_take (i := 13) (oi := Oper.mk _ _ _ _ _ _) (v := ?_) rfl (by kernel_rfl) (by kernel_rfl) (by kernel_rfl) (fun _ _ _ h => h) (Or.inl ⟨by rfl, ?_⟩) (by assumption) ?_
        rotate_left
        · intro w hSw
          (try dsimp only at hSw)
          go_simp
          try with_reducible rfl
        try simp only [Act.put, List.setIfInBounds_toArray, List.set_cons_zero, List.set_cons_succ]
        refine wpAnyH_take (i := 14) (oi := Oper.mk _ _ _ _ _ _) (v := ?_) rfl (by kernel_rfl) (by kernel_rfl) (by kernel_rfl) (fun _ _ _ h => h) (Or.inl ⟨by rfl, ?_⟩) (by assumption) ?_
        rotate_left
        · intro w hSw
          (try dsimp only at hSw)
          go_simp
          try with_reducible rfl
        try simp only [Act.put, List.setIfInBounds_toArray, List.set_cons_zero, List.set_cons_succ]
        refine wpAnyH_take (i := 15) (oi := Oper.mk _ _ _ _ _ _) (v := undef) rfl (by kernel_rfl) (by kernel_rfl) (by kernel_rfl) (fun _ _ _ h => h) (Or.inr ⟨by rfl, rfl⟩) (by assumption) ?_
        try simp only [Act.put, List.setIfInBounds_toArray, List.set_cons_zero, List.set_cons_succ]
        refine wpAnyH_take (i := 16) (oi := Oper.mk _ _ _ _ _ _) (v := undef) rfl (by kernel_rfl) (by kernel_rfl) (by kernel_rfl) (fun _ _ _ h => h) (Or.inr ⟨by rfl, rfl⟩) (by assumption) ?_
        try simp only [Act.put, List.setIfInBounds_toArray, List.set_cons_zero, List.set_cons_succ]
        refine wpAnyH_take (i := 17) (oi := Oper.mk _ _ _ _ _ _) (v := undef) rfl (by kernel_rfl) (by kernel_rfl) (by kernel_rfl) (fun _ _ _ h => h) (Or.inr ⟨by rfl, rfl⟩) (by assumption) ?_
        try simp only [Act.put, List.setIfInBounds_toArray, List.set_cons_zero, List.set_cons_succ]
        refine wpAnyH_take (i := 18) (oi := Oper.mk _ _ _ _ _ _) (v := undef) rfl (by kernel_rfl) (by kernel_rfl) (by kernel_rfl) (fun _ _ _ h => h) (Or.inr ⟨by rfl, rfl⟩) (by assumption) ?_
        try simp only [Act.put, List.setIfInBounds_toArray, List.set_cons_zero, List.set_cons_succ]
        refine wpAnyH_take (i := 19) (oi := Oper.mk _ _ _ _ _ _) (v := undef) rfl (by kernel_rfl) (by kernel_rfl) (by kernel_rfl) (fun _ _ _ h => h) (Or.inr ⟨by rfl, rfl⟩) (by assumption) ?_
        try simp only [Act.put, List.setIfInBounds_toArray, List.set_cons_zero, List.set_cons_succ]
        refine wpAnyH_take (i := 20) (oi := Oper.mk _ _ _ _ _ _) (v := undef) rfl (by kernel_rfl) (by kernel_rfl) (by kernel_rfl) (fun _ _ _ h => h) (Or.inr ⟨by rfl, rfl⟩) (by assumption) ?_
        try simp only [Act.put, List.setIfInBounds_toArray, List.set_cons_zero, List.set_cons_succ]
        refine wpAnyH_take (i := 21) (oi := Oper.mk _ _ _ _ _ _) (v := undef) rfl (by kernel_rfl) (by kernel_rfl) (by kernel_rfl) (fun _ _ _ h => h) (Or.inr ⟨by rfl, rfl⟩) (by assumption) ?_
        try simp only [Act.put, List.setIfInBounds_toArray, List.set_cons_zero, List.set_cons_succ]
        refine wpAnyH_take (i := 22) (oi := Oper.mk _ _ _ _ _ _) (v := undef) rfl (by kernel_rfl) (by kernel_rfl) (by kernel_rfl) (fun _ _ _ h => h) (Or.inr ⟨by rfl, rfl⟩) (by assumption) ?_
        try simp only [Act.put, List.setIfInBounds_toArray, List.set_cons_zero, List.set_cons_succ]
        refine wpAnyH_take (i := 23) (oi := Oper.mk _ _ _ _ _ _) (v := undef) rfl (by kernel_rfl) (by kernel_rfl) (by kernel_rfl) (fun _ _ _ h => h) (Or.inr ⟨by rfl, rfl⟩) (by assumption) ?_
        try simp only [Act.put, List.setIfInBounds_toArray, List.set_cons_zero, List.set_cons_succ]
        refine wpAnyH_take (i := 24) (oi := Oper.mk _ _ _ _ _ _) (v := undef) rfl (by kernel_rfl) (by kernel_rfl) (by kernel_rfl) (fun _ _ _ h => h) (Or.inr ⟨by rfl, rfl⟩) (by assumption) ?_
        try simp only [Act.put, List.setIfInBounds_toArray, List.set_cons_zero, List.set_cons_succ]
        refine wpAnyH_take (i := 25) (oi := Oper.mk _ _ _ _ _ _) (v := ?_) rfl (by kernel_rfl) (by kernel_rfl) (by kernel_rfl) (fun _ _ _ h => h) (Or.inl ⟨by rfl, ?_⟩) (by assumption) ?_
        rotate_left
        · intro w hSw
          (try dsimp only at hSw)
          go_simp
          try with_reducible rfl
        try simp only [Act.put, List.setIfInBounds_toArray, List.set_cons_zero, List.set_cons_succ]
        refine wpAnyH_take (i := 26) (oi := Oper.mk _ _ _ _ _ _) (v := ?_) rfl (by kernel_rfl) (by kernel_rfl) (by kernel_rfl) (fun _ _ _ h => h) (Or.inl ⟨by rfl, ?_⟩) (by assumption) ?_
        rotate_left
        · intro w hSw
          (try dsimp only at hSw)
          go_simp
          try with_reducible rfl
        try simp only [Act.put, List.setIfInBounds_toArray, List.set_cons_zero, List.set_cons_succ]
        refine wpAnyH_done (by kernel_rfl) ?_ _
        go_wp2_with fail
        go_roundw
        case rel => exact ⟨i + 1, by omega, by go_num, (hkr.trans kd).trans hk5⟩
        case measure => simp [intOf]; omega
    · obtain rfl : m = i := by omega
      go_wp2_with fail
      go_ret
      exact ⟨rfl, HKW.out.trans hkr⟩
end Go.Proofs.YtgjlldapnodfbaaDoor
