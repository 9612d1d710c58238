/-
  The walk of PlannerGrows.
-/
import Derived.Test.YtgjlldapnodfbaaDoorOGrow
namespace Go.Proofs.YtgjlldapnodfbaaDoor
open Go Go.RowKit Go.Fl Go.Ord Go.Pr Go.Maps

theorem err_ne_nil (a : Addr) (w : World) : (binOp .neq 30 (.iface 114 (.pointer (some a))) .nilIface).run Tryd.prog w = .ok (.bool true) w := by kernel_rfl
theorem nil_ne_nil (w : World) : (binOp .neq 30 .nilIface .nilIface).run Tryd.prog w = .ok (.bool false) w := by kernel_rfl
theorem errNo_some {aO aL : Addr} {e : Nat} (he : e = 0 ∨ e = 3 ∨ e = 8) (h : e ≠ 0) : ∃ a, errNo aO aL e = .iface 114 (.pointer (some a)) := by
  rcases he with rfl | rfl | rfl
  · exact absurd rfl h
  · exact ⟨_, rfl⟩
  · exact ⟨_, rfl⟩
/-- Of a tree with a price, few parts. -/
theorem cost_parts {T : Tr} (h : T.cost.2 = 0) : T.parts ≤ 4096 := (Len_ne (cost_zero h).1).1
theorem alloc_three (w : World) (a b c : Obj) : ((((w.alloc a).alloc b).alloc c).heap[w.heap.size]? = some a ∧ (((w.alloc a).alloc b).alloc c).heap[w.heap.size + 1]? = some b ∧ (((w.alloc a).alloc b).alloc c).heap[w.heap.size + 1 + 1]? = some c) ∧ Kp w (((w.alloc a).alloc b).alloc c) :=
  ⟨heap_alloc3 w a b c, (((Kp.refl w).alloc a).alloc b).alloc c⟩

set_option maxRecDepth 100000 in
set_option maxHeartbeats 16000000 in
theorem walk_PlannerGrows (W : World) (va : Value) (Ta : Tr) (hTa : OIn W Ta va) (vb : Value) (Tb : Tr) (hTb : OIn W Tb vb) (vc : Value) (Tc : Tr) (hTc : OIn W Tc vc) (n : Int) (hn : (Lit.int .i64 n).wf = true) (aR aL aO aM : Addr) (hE : Er4 W aR aL aO aM) :
    Calls Tryd.prog 5 #[va, vb, vc, .int .i64 n] W fun e w' => e = .returned (.bool true) ∧ Kp W w' := by
  obtain ⟨hn0, hn1⟩ := i64_of_wf hn
  have HF : Hid (∀ w', Kp W w' → Calls Tryd.prog 8 #[] w' fun e w'' => e = .returned (.bool true) ∧ Kp w' w'') := Lib.hid fun w' k => ofixed_any _ _ _ _ w' (hE.kp k)
  have HCo : Hid (∀ (T : Tr) (v : Value) w', Kp W w' → OIn w' T v → Calls Tryd.prog 18 #[v] w' fun e w'' => e = .returned (.tuple #[.int .i64 T.cost.1, errNo aO aM T.cost.2]) ∧ Kp w' w'') := Lib.hid fun T v w' k h => pCost_any T v _ _ w' h (k.later hE.o) (k.later hE.m)
  have kda := hTa.form
  have kdb := hTb.form
  have kdc := hTc.form
  obtain ⟨ka, na, ma, oa, ca, rfl⟩ := kda
  obtain ⟨kb, nb, mb, ob, cb, rfl⟩ := kdb
  obtain ⟨kc, nc, mc, oc, cc, rfl⟩ := kdc
  have HKa := Lib.hid hTa.kind
  have HKb := Lib.hid hTb.kind
  have HTa := Lib.hid hTa
  have HTb := Lib.hid hTb
  have HTc := Lib.hid hTc
  have hbox := alloc_three W (.cells #[.int .i64 ka, .int .i64 na, .slice oa ma ca] 28) (.cells #[.int .i64 kb, .int .i64 nb, .slice ob mb cb] 28) (.cells #[.int .i64 kc, .int .i64 nc, .slice oc mc cc] 28)
  obtain ⟨⟨h4, h5, h6⟩, k0⟩ := hbox
  have HSt : Hid (∀ w', Kp (((W.alloc (.cells #[.int .i64 ka, .int .i64 na, .slice oa ma ca] 28)).alloc (.cells #[.int .i64 kb, .int .i64 nb, .slice ob mb cb] 28)).alloc (.cells #[.int .i64 kc, .int .i64 nc, .slice oc mc cc] 28)) w' → w'.cell? ⟨W.heap.size, 0, none⟩ = some (.int .i64 ka) ∧ w'.cell? ⟨W.heap.size, 1, none⟩ = some (.int .i64 na) ∧ w'.cell? ⟨W.heap.size, 2, none⟩ = some (.slice oa ma ca) ∧ w'.cell? ⟨W.heap.size + 1, 0, none⟩ = some (.int .i64 kb) ∧ w'.cell? ⟨W.heap.size + 1, 1, none⟩ = some (.int .i64 nb) ∧ w'.cell? ⟨W.heap.size + 1, 2, none⟩ = some (.slice ob mb cb) ∧ w'.cell? ⟨W.heap.size + 1 + 1, 0, none⟩ = some (.int .i64 kc) ∧ w'.cell? ⟨W.heap.size + 1 + 1, 1, none⟩ = some (.int .i64 nc) ∧ w'.cell? ⟨W.heap.size + 1 + 1, 2, none⟩ = some (.slice oc mc cc)) := Lib.hid fun w' k => by
    have g4 := (k.block _ (Array.getElem?_eq_some_iff.1 h4).1).trans h4
    have g5 := (k.block _ (Array.getElem?_eq_some_iff.1 h5).1).trans h5
    have g6 := (k.block _ (Array.getElem?_eq_some_iff.1 h6).1).trans h6
    obtain ⟨⟨a0, a1, a2⟩, _⟩ := row3_facts g4
    obtain ⟨⟨b0, b1, b2⟩, _⟩ := row3_facts g5
    obtain ⟨⟨c0, c1, c2⟩, _⟩ := row3_facts g6
    exact ⟨a0, a1, a2, b0, b1, b2, c0, c1, c2⟩
  have HBL : Hid (∀ w', Kp (((W.alloc (.cells #[.int .i64 ka, .int .i64 na, .slice oa ma ca] 28)).alloc (.cells #[.int .i64 kb, .int .i64 nb, .slice ob mb cb] 28)).alloc (.cells #[.int .i64 kc, .int .i64 nc, .slice oc mc cc] 28)) w' → w'.heap[W.heap.size]? = some (.cells #[.int .i64 ka, .int .i64 na, .slice oa ma ca] 28 (0, 0)) ∧ w'.heap[W.heap.size + 1]? = some (.cells #[.int .i64 kb, .int .i64 nb, .slice ob mb cb] 28 (0, 0))) := Lib.hid fun w' k => ⟨(k.block _ (Array.getElem?_eq_some_iff.1 h4).1).trans h4, (k.block _ (Array.getElem?_eq_some_iff.1 h5).1).trans h5⟩
  have HK0 := Lib.hid k0
  have hno1 := Lib.hid (cost_no Ta)
  have hno2 := Lib.hid (cost_no Tb)
  have hno3 := Lib.hid (cost_no Tc)
  have hnn := nil_ne_nil
  have henn := err_ne_nil
  have hln : Hid (∀ (T : Tr) (v : Value) w', OIn w' T v → Calls Tryd.prog 20 #[v] w' fun e w'' => e = .returned (.int .i64 T.Len) ∧ Kp w' w'') := Lib.hid fun T v w' h => Length_any T v w' h
  have HCa : Hid (∀ w', Kp W w' → Calls Tryd.prog 18 #[.agg #[.int .i64 ka, .int .i64 na, .slice oa ma ca]] w' fun e w'' => e = .returned (.tuple #[.int .i64 Ta.cost.1, errNo aO aM Ta.cost.2]) ∧ Kp w' w'') := Lib.hid fun w' k => HCo.out Ta _ w' k (HTa.out.kp k)
  have HLa : Hid (∀ w', Kp W w' → Calls Tryd.prog 20 #[.agg #[.int .i64 ka, .int .i64 na, .slice oa ma ca]] w' fun e w'' => e = .returned (.int .i64 Ta.Len) ∧ Kp w' w'') := Lib.hid fun w' k => hln.out Ta _ w' (HTa.out.kp k)
  have HCb : Hid (∀ w', Kp W w' → Calls Tryd.prog 18 #[.agg #[.int .i64 kb, .int .i64 nb, .slice ob mb cb]] w' fun e w'' => e = .returned (.tuple #[.int .i64 Tb.cost.1, errNo aO aM Tb.cost.2]) ∧ Kp w' w'') := Lib.hid fun w' k => HCo.out Tb _ w' k (HTb.out.kp k)
  have HLb : Hid (∀ w', Kp W w' → Calls Tryd.prog 20 #[.agg #[.int .i64 kb, .int .i64 nb, .slice ob mb cb]] w' fun e w'' => e = .returned (.int .i64 Tb.Len) ∧ Kp w' w'') := Lib.hid fun w' k => hln.out Tb _ w' (HTb.out.kp k)
  have HCc : Hid (∀ w', Kp W w' → Calls Tryd.prog 18 #[.agg #[.int .i64 kc, .int .i64 nc, .slice oc mc cc]] w' fun e w'' => e = .returned (.tuple #[.int .i64 Tc.cost.1, errNo aO aM Tc.cost.2]) ∧ Kp w' w'') := Lib.hid fun w' k => HCo.out Tc _ w' k (HTc.out.kp k)
  obtain ⟨x, hx⟩ : ∃ x, Ta.cost.1 = x := ⟨_, rfl⟩
  obtain ⟨y, hy⟩ : ∃ y, Tb.cost.1 = y := ⟨_, rfl⟩
  obtain ⟨z, hz⟩ : ∃ z, Tc.cost.1 = z := ⟨_, rfl⟩
  obtain ⟨e1, he1⟩ : ∃ e, Ta.cost.2 = e := ⟨_, rfl⟩
  obtain ⟨e2, he2⟩ : ∃ e, Tb.cost.2 = e := ⟨_, rfl⟩
  obtain ⟨e3, he3⟩ : ∃ e, Tc.cost.2 = e := ⟨_, rfl⟩
  obtain ⟨la, hla⟩ : ∃ l, Ta.Len = l := ⟨_, rfl⟩
  obtain ⟨lb, hlb⟩ : ∃ l, Tb.Len = l := ⟨_, rfl⟩
  rw [hx, he1] at HCa
  rw [hy, he2] at HCb
  rw [hz, he3] at HCc
  rw [hla] at HLa
  rw [hlb] at HLb
  rw [he1] at hno1
  rw [he2] at hno2
  rw [he3] at hno3
  have HNm : Hid (Ta.cost.1 = x ∧ Tb.cost.1 = y ∧ Ta.cost.2 = e1 ∧ Tb.cost.2 = e2 ∧ Tc.cost.2 = e3 ∧ Ta.Len = la ∧ Tb.Len = lb) := Lib.hid ⟨hx, hy, he1, he2, he3, hla, hlb⟩
  clear hx hy hz he1 he2 he3 hla hlb hTa hTb hTc hn h4 h5 h6 k0
  have HE0 : Hid (errNo aO aM 0 = .nilIface) := Lib.hid rfl
  by_cases q1 : e1 = 0
  case neg =>
    obtain ⟨p1, hp1⟩ := errNo_some (aO := aO) (aL := aM) hno1.out q1
    rw [hp1] at HCa
    obtain ⟨v2, hv2⟩ : ∃ v, errNo aO aM e2 = v := ⟨_, rfl⟩
    obtain ⟨v3, hv3⟩ : ∃ v, errNo aO aM e3 = v := ⟨_, rfl⟩
    rw [hv2] at HCb
    rw [hv3] at HCc
    clear hp1 hv2 hv3 q1
    go_enter Tryd.func5, Tryd.ntmps5
    go_upto_region 6 with (first
      | (go_at_call 8; (with_reducible refine (HF.out _ HK0.out).mono ?_); rintro e w1 ⟨rfl, hk1⟩; have kA := HK0.out.trans hk1; obtain ⟨a0, a1, a2, b0, b1, b2, c0, c1, c2⟩ := HSt.out _ hk1)
      | (go_at_call 18; (with_reducible refine (HCa.out _ kA).mono ?_); rintro e w2 ⟨rfl, hk2⟩; have kB := kA.trans hk2; have hm2 := hk1.trans hk2; obtain ⟨a0, a1, a2, b0, b1, b2, c0, c1, c2⟩ := HSt.out _ hm2)
      | (go_at_call 18; (with_reducible refine (HCb.out _ kB).mono ?_); rintro e w3 ⟨rfl, hk3⟩; have kC := kB.trans hk3; have hm3 := hm2.trans hk3; obtain ⟨a0, a1, a2, b0, b1, b2, c0, c1, c2⟩ := HSt.out _ hm3)
      | (go_at_call 18; (with_reducible refine (HCc.out _ kC).mono ?_); rintro e w4 ⟨rfl, hk4⟩; have kD := kC.trans hk4; have hm4 := hm3.trans hk4; obtain ⟨a0, a1, a2, b0, b1, b2, c0, c1, c2⟩ := HSt.out _ hm4))
    clear c0 c1 c2
    go_quiet (fail)
    go_wp2_with fail
    go_ret
    exact ⟨rfl, kD.drewN _⟩
  subst q1
  rw [HE0.out] at HCa
  by_cases q2 : e2 = 0
  case neg =>
    obtain ⟨p2, hp2⟩ := errNo_some (aO := aO) (aL := aM) hno2.out q2
    rw [hp2] at HCb
    obtain ⟨v3, hv3⟩ : ∃ v, errNo aO aM e3 = v := ⟨_, rfl⟩
    rw [hv3] at HCc
    clear hp2 hv3 q2
    go_enter Tryd.func5, Tryd.ntmps5
    go_upto_region 6 with (first
      | (go_at_call 8; (with_reducible refine (HF.out _ HK0.out).mono ?_); rintro e w1 ⟨rfl, hk1⟩; have kA := HK0.out.trans hk1; obtain ⟨a0, a1, a2, b0, b1, b2, c0, c1, c2⟩ := HSt.out _ hk1)
      | (go_at_call 18; (with_reducible refine (HCa.out _ kA).mono ?_); rintro e w2 ⟨rfl, hk2⟩; have kB := kA.trans hk2; have hm2 := hk1.trans hk2; obtain ⟨a0, a1, a2, b0, b1, b2, c0, c1, c2⟩ := HSt.out _ hm2)
      | (go_at_call 18; (with_reducible refine (HCb.out _ kB).mono ?_); rintro e w3 ⟨rfl, hk3⟩; have kC := kB.trans hk3; have hm3 := hm2.trans hk3; obtain ⟨a0, a1, a2, b0, b1, b2, c0, c1, c2⟩ := HSt.out _ hm3)
      | (go_at_call 18; (with_reducible refine (HCc.out _ kC).mono ?_); rintro e w4 ⟨rfl, hk4⟩; have kD := kC.trans hk4; have hm4 := hm3.trans hk4; obtain ⟨a0, a1, a2, b0, b1, b2, c0, c1, c2⟩ := HSt.out _ hm4))
    clear c0 c1 c2
    go_quiet (fail)
    go_wp2_with fail
    go_ret
    exact ⟨rfl, kD.drewN _⟩
  subst q2
  rw [HE0.out] at HCb
  by_cases q3 : e3 = 0
  case neg =>
    obtain ⟨p3, hp3⟩ := errNo_some (aO := aO) (aL := aM) hno3.out q3
    rw [hp3] at HCc
    clear hp3 q3
    go_enter Tryd.func5, Tryd.ntmps5
    go_upto_region 6 with (first
      | (go_at_call 8; (with_reducible refine (HF.out _ HK0.out).mono ?_); rintro e w1 ⟨rfl, hk1⟩; have kA := HK0.out.trans hk1; obtain ⟨a0, a1, a2, b0, b1, b2, c0, c1, c2⟩ := HSt.out _ hk1)
      | (go_at_call 18; (with_reducible refine (HCa.out _ kA).mono ?_); rintro e w2 ⟨rfl, hk2⟩; have kB := kA.trans hk2; have hm2 := hk1.trans hk2; obtain ⟨a0, a1, a2, b0, b1, b2, c0, c1, c2⟩ := HSt.out _ hm2)
      | (go_at_call 18; (with_reducible refine (HCb.out _ kB).mono ?_); rintro e w3 ⟨rfl, hk3⟩; have kC := kB.trans hk3; have hm3 := hm2.trans hk3; obtain ⟨a0, a1, a2, b0, b1, b2, c0, c1, c2⟩ := HSt.out _ hm3)
      | (go_at_call 18; (with_reducible refine (HCc.out _ kC).mono ?_); rintro e w4 ⟨rfl, hk4⟩; have kD := kC.trans hk4; have hm4 := hm3.trans hk4; obtain ⟨a0, a1, a2, b0, b1, b2, c0, c1, c2⟩ := HSt.out _ hm4))
    clear c0 c1 c2
    go_quiet (fail)
    go_wp2_with fail
    go_ret
    exact ⟨rfl, kD.drewN _⟩
  subst q3
  rw [HE0.out] at HCc
  by_cases q4 : ka = kb
  case neg =>
    have q4' : (ka != kb) = true := by simpa using q4
    go_enter Tryd.func5, Tryd.ntmps5
    go_upto_region 6 with (first
      | (go_at_call 8; (with_reducible refine (HF.out _ HK0.out).mono ?_); rintro e w1 ⟨rfl, hk1⟩; have kA := HK0.out.trans hk1; obtain ⟨a0, a1, a2, b0, b1, b2, c0, c1, c2⟩ := HSt.out _ hk1)
      | (go_at_call 18; (with_reducible refine (HCa.out _ kA).mono ?_); rintro e w2 ⟨rfl, hk2⟩; have kB := kA.trans hk2; have hm2 := hk1.trans hk2; obtain ⟨a0, a1, a2, b0, b1, b2, c0, c1, c2⟩ := HSt.out _ hm2)
      | (go_at_call 18; (with_reducible refine (HCb.out _ kB).mono ?_); rintro e w3 ⟨rfl, hk3⟩; have kC := kB.trans hk3; have hm3 := hm2.trans hk3; obtain ⟨a0, a1, a2, b0, b1, b2, c0, c1, c2⟩ := HSt.out _ hm3)
      | (go_at_call 18; (with_reducible refine (HCc.out _ kC).mono ?_); rintro e w4 ⟨rfl, hk4⟩; have kD := kC.trans hk4; have hm4 := hm3.trans hk4; obtain ⟨a0, a1, a2, b0, b1, b2, c0, c1, c2⟩ := HSt.out _ hm4))
    clear c0 c1 c2
    go_quiet (fail)
    go_wp2_with fail
    go_ret
    exact ⟨rfl, kD.drewN _⟩
  have HQ4 := Lib.hid q4
  have q4' : (ka != kb) = false := by simpa using q4
  clear q4
  by_cases q5 : la = lb
  case neg =>
    have q5' : (la != lb) = true := by simpa using q5
    go_enter Tryd.func5, Tryd.ntmps5
    go_upto_region 6 with (first
      | (go_at_call 8; (with_reducible refine (HF.out _ HK0.out).mono ?_); rintro e w1 ⟨rfl, hk1⟩; have kA := HK0.out.trans hk1; obtain ⟨a0, a1, a2, b0, b1, b2, c0, c1, c2⟩ := HSt.out _ hk1)
      | (go_at_call 18; (with_reducible refine (HCa.out _ kA).mono ?_); rintro e w2 ⟨rfl, hk2⟩; have kB := kA.trans hk2; have hm2 := hk1.trans hk2; obtain ⟨a0, a1, a2, b0, b1, b2, c0, c1, c2⟩ := HSt.out _ hm2)
      | (go_at_call 18; (with_reducible refine (HCb.out _ kB).mono ?_); rintro e w3 ⟨rfl, hk3⟩; have kC := kB.trans hk3; have hm3 := hm2.trans hk3; obtain ⟨a0, a1, a2, b0, b1, b2, c0, c1, c2⟩ := HSt.out _ hm3)
      | (go_at_call 18; (with_reducible refine (HCc.out _ kC).mono ?_); rintro e w4 ⟨rfl, hk4⟩; have kD := kC.trans hk4; have hm4 := hm3.trans hk4; obtain ⟨a0, a1, a2, b0, b1, b2, c0, c1, c2⟩ := HSt.out _ hm4))
    have kd : Kp w4 w4.drew := (Kp.refl w4).drew
    have HS6 : Hid (∀ w', Kp w4 w' → w'.cell? ⟨W.heap.size, 0, none⟩ = some (.int .i64 ka) ∧ w'.cell? ⟨W.heap.size, 1, none⟩ = some (.int .i64 na) ∧ w'.cell? ⟨W.heap.size, 2, none⟩ = some (.slice oa ma ca) ∧ w'.cell? ⟨W.heap.size + 1, 0, none⟩ = some (.int .i64 kb) ∧ w'.cell? ⟨W.heap.size + 1, 1, none⟩ = some (.int .i64 nb) ∧ w'.cell? ⟨W.heap.size + 1, 2, none⟩ = some (.slice ob mb cb)) := Lib.hid fun w' k => by
      obtain ⟨a0, a1, a2, b0, b1, b2, _⟩ := HSt.out _ (hm4.trans k)
      exact ⟨a0, a1, a2, b0, b1, b2⟩
    clear c0 c1 c2
    go_region_held3 (fun w' => w'.cell? ⟨W.heap.size, 0, none⟩ = some (.int .i64 ka) ∧ w'.cell? ⟨W.heap.size, 1, none⟩ = some (.int .i64 na) ∧ w'.cell? ⟨W.heap.size, 2, none⟩ = some (.slice oa ma ca) ∧ w'.cell? ⟨W.heap.size + 1, 0, none⟩ = some (.int .i64 kb) ∧ w'.cell? ⟨W.heap.size + 1, 1, none⟩ = some (.int .i64 nb) ∧ w'.cell? ⟨W.heap.size + 1, 2, none⟩ = some (.slice ob mb cb)) (first | go_keep | exact HS6.out _ (kd.trans hk5) | exact HS6.out _ ((kd.trans hk5).trans hk6)) (first
      | (go_at_call 20; (with_reducible refine (HLa.out _ (kD.trans kd)).mono ?_); rintro e w5 ⟨rfl, hk5⟩)
      | (go_at_call 20; (with_reducible refine (HLb.out _ ((kD.trans kd).trans hk5)).mono ?_); rintro e w6 ⟨rfl, hk6⟩))
    go_wp2_with fail
    go_ret
    exact ⟨rfl, (((kD.trans kd).trans hk5).trans hk6)⟩
  have HQ5 := Lib.hid q5
  have q5' : (la != lb) = false := by simpa using q5
  clear q5
  go_enter Tryd.func5, Tryd.ntmps5
  go_upto_region 6 with (first
      | (go_at_call 8; (with_reducible refine (HF.out _ HK0.out).mono ?_); rintro e w1 ⟨rfl, hk1⟩; have kA := HK0.out.trans hk1; obtain ⟨a0, a1, a2, b0, b1, b2, c0, c1, c2⟩ := HSt.out _ hk1)
      | (go_at_call 18; (with_reducible refine (HCa.out _ kA).mono ?_); rintro e w2 ⟨rfl, hk2⟩; have kB := kA.trans hk2; have hm2 := hk1.trans hk2; obtain ⟨a0, a1, a2, b0, b1, b2, c0, c1, c2⟩ := HSt.out _ hm2)
      | (go_at_call 18; (with_reducible refine (HCb.out _ kB).mono ?_); rintro e w3 ⟨rfl, hk3⟩; have kC := kB.trans hk3; have hm3 := hm2.trans hk3; obtain ⟨a0, a1, a2, b0, b1, b2, c0, c1, c2⟩ := HSt.out _ hm3)
      | (go_at_call 18; (with_reducible refine (HCc.out _ kC).mono ?_); rintro e w4 ⟨rfl, hk4⟩; have kD := kC.trans hk4; have hm4 := hm3.trans hk4; obtain ⟨a0, a1, a2, b0, b1, b2, c0, c1, c2⟩ := HSt.out _ hm4))
  have kd : Kp w4 w4.drew := (Kp.refl w4).drew
  have HS6 : Hid (∀ w', Kp w4 w' → w'.cell? ⟨W.heap.size, 0, none⟩ = some (.int .i64 ka) ∧ w'.cell? ⟨W.heap.size, 1, none⟩ = some (.int .i64 na) ∧ w'.cell? ⟨W.heap.size, 2, none⟩ = some (.slice oa ma ca) ∧ w'.cell? ⟨W.heap.size + 1, 0, none⟩ = some (.int .i64 kb) ∧ w'.cell? ⟨W.heap.size + 1, 1, none⟩ = some (.int .i64 nb) ∧ w'.cell? ⟨W.heap.size + 1, 2, none⟩ = some (.slice ob mb cb)) := Lib.hid fun w' k => by
    obtain ⟨a0, a1, a2, b0, b1, b2, _⟩ := HSt.out _ (hm4.trans k)
    exact ⟨a0, a1, a2, b0, b1, b2⟩
  clear c0 c1 c2
  go_region_held3 (fun w' => w'.cell? ⟨W.heap.size, 0, none⟩ = some (.int .i64 ka) ∧ w'.cell? ⟨W.heap.size, 1, none⟩ = some (.int .i64 na) ∧ w'.cell? ⟨W.heap.size, 2, none⟩ = some (.slice oa ma ca) ∧ w'.cell? ⟨W.heap.size + 1, 0, none⟩ = some (.int .i64 kb) ∧ w'.cell? ⟨W.heap.size + 1, 1, none⟩ = some (.int .i64 nb) ∧ w'.cell? ⟨W.heap.size + 1, 2, none⟩ = some (.slice ob mb cb)) (first | go_keep | exact HS6.out _ (kd.trans hk5) | exact HS6.out _ ((kd.trans hk5).trans hk6)) (first
    | (go_at_call 20; (with_reducible refine (HLa.out _ (kD.trans kd)).mono ?_); rintro e w5 ⟨rfl, hk5⟩)
    | (go_at_call 20; (with_reducible refine (HLb.out _ ((kD.trans kd).trans hk5)).mono ?_); rintro e w6 ⟨rfl, hk6⟩))
  have hm6 := hm4.trans ((kd.trans hk5).trans hk6)
  have kE := kD.trans ((kd.trans hk5).trans hk6)
  obtain ⟨g4, g5⟩ := HBL.out _ hm6
  obtain ⟨⟨a0, a1, a2⟩, fa0, fa1, fa2⟩ := row3_facts g4
  obtain ⟨⟨b0, b1, b2⟩, fb0, fb1, fb2⟩ := row3_facts g5
  obtain ⟨_, _, _, _, _, _, c0, c1, c2⟩ := HSt.out _ hm6
  have hsz6 : W.heap.size ≤ w6.heap.size := kE.size
  clear kA kB kC kD hm2 hm3 hm4 hk1 hk2 hk3 hk4 hk5 hk6 kd HS6 HLa HLb HCa HCb HCc hln HF
  have hneA : ¬ W.heap.size + 1 = W.heap.size := by omega
  have heqn := err_eq_nil
  have hnil := nil_eq_nil
  by_cases q6 : y < x
  case pos =>
    have d6 : decide (y < x) = true := by simpa using q6
    go_upto_region 10 with fail
    have HGr : Hid (∀ i, ¬ ((whole Tb Tc n i).cost.2 = 0 ∧ (whole Ta Tc n i).cost.2 = 0 ∧ (whole Ta Tc n i).cost.1 < (whole Tb Tc n i).cost.1)) := Lib.hid fun i => by
      obtain ⟨n1, n2, n3, n4, n5, n6, n7⟩ := HNm.out
      exact grows n4 n3 n5 (by rw [HKa.out, HKb.out, HQ4.out]) (by rw [n6, n7, HQ5.out]) (by rw [n1, n2]; omega) i
    have hx5 := heap_set3 _ (W.heap.size + 1) _ _ _ (.int .i64 ka) (.int .i64 na) (.slice oa ma ca) _ _ (show (((w6.setCell ⟨W.heap.size, 0, none⟩ (.int .i64 kb)).setCell ⟨W.heap.size, 1, none⟩ (.int .i64 nb)).setCell ⟨W.heap.size, 2, none⟩ (.slice ob mb cb)).heap[W.heap.size + 1]? = _ from (set3_other w6 W.heap.size _ _ _ _ hneA).trans g5)
    have hx4 := (set3_other _ (W.heap.size + 1) (.int .i64 ka) (.int .i64 na) (.slice oa ma ca) W.heap.size (Ne.symm hneA)).trans (heap_set3 w6 W.heap.size _ _ _ (.int .i64 kb) (.int .i64 nb) (.slice ob mb cb) _ _ g4)
    have kXW : Kp W ((((((w6.setCell ⟨W.heap.size, 0, none⟩ (.int .i64 kb)).setCell ⟨W.heap.size, 1, none⟩ (.int .i64 nb)).setCell ⟨W.heap.size, 2, none⟩ (.slice ob mb cb)).setCell ⟨W.heap.size + 1, 0, none⟩ (.int .i64 ka)).setCell ⟨W.heap.size + 1, 1, none⟩ (.int .i64 na)).setCell ⟨W.heap.size + 1, 2, none⟩ (.slice oa ma ca)) := Kp.set3 (Kp.set3 kE (Nat.le_refl _) _ _ _) (by omega) _ _ _
    have hA6 : W.heap.size + 1 + 1 < w6.heap.size := World.block_lt_of_cell? w6 _ c0
    have hA6n : W.heap.size + 1 + 1 ≠ W.heap.size ∧ W.heap.size + 1 + 1 ≠ W.heap.size + 1 := by omega
    have hx6 : ∀ j, ((((((w6.setCell ⟨W.heap.size, 0, none⟩ (.int .i64 kb)).setCell ⟨W.heap.size, 1, none⟩ (.int .i64 nb)).setCell ⟨W.heap.size, 2, none⟩ (.slice ob mb cb)).setCell ⟨W.heap.size + 1, 0, none⟩ (.int .i64 ka)).setCell ⟨W.heap.size + 1, 1, none⟩ (.int .i64 na)).setCell ⟨W.heap.size + 1, 2, none⟩ (.slice oa ma ca)).cell? ⟨W.heap.size + 1 + 1, j, none⟩ = w6.cell? ⟨W.heap.size + 1 + 1, j, none⟩ := fun j => ((kb_set3 _ (W.heap.size + 1) (.int .i64 ka) (.int .i64 na) (.slice oa ma ca)).cell (p := ⟨W.heap.size + 1 + 1, j, none⟩) (by simp; exact hA6) hA6n.2).trans ((kb_set3 w6 W.heap.size (.int .i64 kb) (.int .i64 nb) (.slice ob mb cb)).cell (p := ⟨W.heap.size + 1 + 1, j, none⟩) hA6 hA6n.1)
    have z0 := (hx6 0).trans c0
    have z1 := (hx6 1).trans c1
    have z2 := (hx6 2).trans c2
    obtain ⟨⟨x0, x1, x2⟩, _⟩ := row3_facts hx4
    obtain ⟨⟨y0, y1, y2⟩, _⟩ := row3_facts hx5
    have HOf := Lib.hid (HTb.out.kp kXW)
    have HOs := Lib.hid (HTa.out.kp kXW)
    have HOc := Lib.hid (HTc.out.kp kXW)
    clear a0 a1 a2 b0 b1 b2 c0 c1 c2 fa0 fa1 fa2 fb0 fb1 fb2 g4 g5 kE hm6 HSt HBL hsz6 hx4 hx5 hx6 hA6 hA6n
    generalize (((((w6.setCell ⟨W.heap.size, 0, none⟩ (.int .i64 kb)).setCell ⟨W.heap.size, 1, none⟩ (.int .i64 nb)).setCell ⟨W.heap.size, 2, none⟩ (.slice ob mb cb)).setCell ⟨W.heap.size + 1, 0, none⟩ (.int .i64 ka)).setCell ⟨W.heap.size + 1, 1, none⟩ (.int .i64 na)).setCell ⟨W.heap.size + 1, 2, none⟩ (.slice oa ma ca) = WX at *
    generalize W.heap.size + 1 + 1 = A6 at *
    generalize W.heap.size + 1 = A5 at *
    obtain ⟨A4, hA4⟩ : ∃ A4, W.heap.size = A4 := ⟨_, rfl⟩
    simp only [hA4] at x0 x1 x2 ⊢
    clear hneA hA4 d6 q6
    have HSX : Hid (∀ w', Kp WX w' → w'.cell? ⟨A4, 0, none⟩ = some (.int .i64 kb) ∧ w'.cell? ⟨A4, 1, none⟩ = some (.int .i64 nb) ∧ w'.cell? ⟨A4, 2, none⟩ = some (.slice ob mb cb) ∧ w'.cell? ⟨A5, 0, none⟩ = some (.int .i64 ka) ∧ w'.cell? ⟨A5, 1, none⟩ = some (.int .i64 na) ∧ w'.cell? ⟨A5, 2, none⟩ = some (.slice oa ma ca) ∧ w'.cell? ⟨A6, 0, none⟩ = some (.int .i64 kc) ∧ w'.cell? ⟨A6, 1, none⟩ = some (.int .i64 nc) ∧ w'.cell? ⟨A6, 2, none⟩ = some (.slice oc mc cc)) := Lib.hid fun w' k => ⟨k.later x0, k.later x1, k.later x2, k.later y0, k.later y1, k.later y2, k.later z0, k.later z1, k.later z2⟩
    have hpf : Tb.parts ≤ 4096 := cost_parts (by have h := HNm.out; simp [h])
    have hps : Ta.parts ≤ 4096 := cost_parts (by have h := HNm.out; simp [h])
    have hpc : Tc.parts ≤ 4096 := cost_parts (by have h := HNm.out; simp [h])
    have HT0 : Hid (∀ w', Kp WX w' → Calls Tryd.prog 21 #[.agg #[.int .i64 kb, .int .i64 nb, .slice ob mb cb], .agg #[.int .i64 kc, .int .i64 nc, .slice oc mc cc]] w' fun e w'' => ∃ o c, e = .returned (.agg #[.int .i64 3, .int .i64 0, .slice o 2 c]) ∧ Hid (OIn w'' (Tb.times Tc) (.agg #[.int .i64 3, .int .i64 0, .slice o 2 c])) ∧ Kp w' w'') := Lib.hid fun w' k => by
      refine (Times_any Tb Tc _ _ w' (HOf.out.kp k) (HOc.out.kp k) hpf hpc).mono ?_
      rintro e w'' ⟨o, c, rfl, h1, h2⟩
      exact ⟨o, c, rfl, Lib.hid h1.oin, h2⟩
    have HT1 : Hid (∀ w', Kp WX w' → Calls Tryd.prog 21 #[.agg #[.int .i64 ka, .int .i64 na, .slice oa ma ca], .agg #[.int .i64 kc, .int .i64 nc, .slice oc mc cc]] w' fun e w'' => ∃ o c, e = .returned (.agg #[.int .i64 3, .int .i64 0, .slice o 2 c]) ∧ Hid (OIn w'' (Ta.times Tc) (.agg #[.int .i64 3, .int .i64 0, .slice o 2 c])) ∧ Kp w' w'') := Lib.hid fun w' k => by
      refine (Times_any Ta Tc _ _ w' (HOs.out.kp k) (HOc.out.kp k) hps hpc).mono ?_
      rintro e w'' ⟨o, c, rfl, h1, h2⟩
      exact ⟨o, c, rfl, Lib.hid h1.oin, h2⟩
    have HT2 : Hid (∀ w', Kp WX w' → Calls Tryd.prog 21 #[.agg #[.int .i64 kc, .int .i64 nc, .slice oc mc cc], .agg #[.int .i64 kb, .int .i64 nb, .slice ob mb cb]] w' fun e w'' => ∃ o c, e = .returned (.agg #[.int .i64 3, .int .i64 0, .slice o 2 c]) ∧ Hid (OIn w'' (Tc.times Tb) (.agg #[.int .i64 3, .int .i64 0, .slice o 2 c])) ∧ Kp w' w'') := Lib.hid fun w' k => by
      refine (Times_any Tc Tb _ _ w' (HOc.out.kp k) (HOf.out.kp k) hpc hpf).mono ?_
      rintro e w'' ⟨o, c, rfl, h1, h2⟩
      exact ⟨o, c, rfl, Lib.hid h1.oin, h2⟩
    have HT3 : Hid (∀ w', Kp WX w' → Calls Tryd.prog 21 #[.agg #[.int .i64 kc, .int .i64 nc, .slice oc mc cc], .agg #[.int .i64 ka, .int .i64 na, .slice oa ma ca]] w' fun e w'' => ∃ o c, e = .returned (.agg #[.int .i64 3, .int .i64 0, .slice o 2 c]) ∧ Hid (OIn w'' (Tc.times Ta) (.agg #[.int .i64 3, .int .i64 0, .slice o 2 c])) ∧ Kp w' w'') := Lib.hid fun w' k => by
      refine (Times_any Tc Ta _ _ w' (HOc.out.kp k) (HOs.out.kp k) hpc hps).mono ?_
      rintro e w'' ⟨o, c, rfl, h1, h2⟩
      exact ⟨o, c, rfl, Lib.hid h1.oin, h2⟩
    have HT4 : Hid (∀ w', Kp WX w' → Calls Tryd.prog 22 #[.int .i64 n, .agg #[.int .i64 kb, .int .i64 nb, .slice ob mb cb]] w' fun e w'' => ∃ o c, e = .returned (.agg #[.int .i64 4, .int .i64 n, .slice o 1 c]) ∧ Hid (OIn w'' (Tb.blue n) (.agg #[.int .i64 4, .int .i64 n, .slice o 1 c])) ∧ Kp w' w'') := Lib.hid fun w' k => by
      refine (Blue_all n Tb _ w' hn0 hn1 (HOf.out.kp k) hpf).mono ?_
      rintro e w'' ⟨o, c, rfl, h1, h2⟩
      exact ⟨o, c, rfl, Lib.hid h1.oin, h2⟩
    have HT5 : Hid (∀ w', Kp WX w' → Calls Tryd.prog 22 #[.int .i64 n, .agg #[.int .i64 ka, .int .i64 na, .slice oa ma ca]] w' fun e w'' => ∃ o c, e = .returned (.agg #[.int .i64 4, .int .i64 n, .slice o 1 c]) ∧ Hid (OIn w'' (Ta.blue n) (.agg #[.int .i64 4, .int .i64 n, .slice o 1 c])) ∧ Kp w' w'') := Lib.hid fun w' k => by
      refine (Blue_all n Ta _ w' hn0 hn1 (HOs.out.kp k) hps).mono ?_
      rintro e w'' ⟨o, c, rfl, h1, h2⟩
      exact ⟨o, c, rfl, Lib.hid h1.oin, h2⟩
    have kd : Kp WX WX.drew := (Kp.refl WX).drew
    clear hpf hps hpc
    go_region_held3 (fun w' => w'.cell? ⟨A4, 0, none⟩ = some (.int .i64 kb) ∧ w'.cell? ⟨A4, 1, none⟩ = some (.int .i64 nb) ∧ w'.cell? ⟨A4, 2, none⟩ = some (.slice ob mb cb) ∧ w'.cell? ⟨A5, 0, none⟩ = some (.int .i64 ka) ∧ w'.cell? ⟨A5, 1, none⟩ = some (.int .i64 na) ∧ w'.cell? ⟨A5, 2, none⟩ = some (.slice oa ma ca) ∧ w'.cell? ⟨A6, 0, none⟩ = some (.int .i64 kc) ∧ w'.cell? ⟨A6, 1, none⟩ = some (.int .i64 nc) ∧ w'.cell? ⟨A6, 2, none⟩ = some (.slice oc mc cc)) (first | go_keep | exact HSX.out _ ((kd).trans hk0) | exact HSX.out _ (((kd).trans hk0).trans hk1) | exact HSX.out _ ((((kd).trans hk0).trans hk1).trans hk2) | exact HSX.out _ (((((kd).trans hk0).trans hk1).trans hk2).trans hk3) | exact HSX.out _ ((((((kd).trans hk0).trans hk1).trans hk2).trans hk3).trans hk4) | exact HSX.out _ (((((((kd).trans hk0).trans hk1).trans hk2).trans hk3).trans hk4).trans hk5)) (first
      | (go_at_call 21; (with_reducible refine (HT0.out _ (kd)).mono ?_); rintro e v0 ⟨o0, p0, rfl, ho0, hk0⟩)
      | (go_at_call 21; (with_reducible refine (HT1.out _ ((kd).trans hk0)).mono ?_); rintro e v1 ⟨o1, p1, rfl, ho1, hk1⟩)
      | (go_at_call 21; (with_reducible refine (HT2.out _ (((kd).trans hk0).trans hk1)).mono ?_); rintro e v2 ⟨o2, p2, rfl, ho2, hk2⟩)
      | (go_at_call 21; (with_reducible refine (HT3.out _ ((((kd).trans hk0).trans hk1).trans hk2)).mono ?_); rintro e v3 ⟨o3, p3, rfl, ho3, hk3⟩)
      | (go_at_call 22; (with_reducible refine (HT4.out _ (((((kd).trans hk0).trans hk1).trans hk2).trans hk3)).mono ?_); rintro e v4 ⟨o4, p4, rfl, ho4, hk4⟩)
      | (go_at_call 22; (with_reducible refine (HT5.out _ ((((((kd).trans hk0).trans hk1).trans hk2).trans hk3).trans hk4)).mono ?_); rintro e v5 ⟨o5, p5, rfl, ho5, hk5⟩))
    go_wp2_with fail
    have hY := heap_alloc_new v5 (.cells #[.int .i64 3, .int .i64 0, .slice o0 2 p0, .int .i64 3, .int .i64 0, .slice o1 2 p1, .int .i64 3, .int .i64 0, .slice o2 2 p2, .int .i64 3, .int .i64 0, .slice o3 2 p3, .int .i64 4, .int .i64 n, .slice o4 1 p4, .int .i64 4, .int .i64 n, .slice o5 1 p5] 49)
    have kY := (Kp.refl v5).alloc (.cells #[.int .i64 3, .int .i64 0, .slice o0 2 p0, .int .i64 3, .int .i64 0, .slice o1 2 p1, .int .i64 3, .int .i64 0, .slice o2 2 p2, .int .i64 3, .int .i64 0, .slice o3 2 p3, .int .i64 4, .int .i64 n, .slice o4 1 p4, .int .i64 4, .int .i64 n, .slice o5 1 p5] 49)
    have hv0 := (((((ho0.out.kp hk1).kp hk2).kp hk3).kp hk4).kp hk5).kp kY
    have hv1 := ((((ho1.out.kp hk2).kp hk3).kp hk4).kp hk5).kp kY
    have hv2 := (((ho2.out.kp hk3).kp hk4).kp hk5).kp kY
    have hv3 := ((ho3.out.kp hk4).kp hk5).kp kY
    have hv4 := (ho4.out.kp hk5).kp kY
    have hv5 := ho5.out.kp kY
    have kZ := (kXW.trans (((((((kd).trans hk0).trans hk1).trans hk2).trans hk3).trans hk4).trans hk5)).trans kY
    generalize v5.alloc (.cells #[.int .i64 3, .int .i64 0, .slice o0 2 p0, .int .i64 3, .int .i64 0, .slice o1 2 p1, .int .i64 3, .int .i64 0, .slice o2 2 p2, .int .i64 3, .int .i64 0, .slice o3 2 p3, .int .i64 4, .int .i64 n, .slice o4 1 p4, .int .i64 4, .int .i64 n, .slice o5 1 p5] 49) = WY at *
    obtain ⟨G, hG⟩ : ∃ G, v5.heap.size = G := ⟨_, rfl⟩
    simp only [hG] at hY ⊢
    have r0 := cell_of_row WY G 0 _ _ _ hY
    have r1 := cell_of_row WY G 1 _ _ _ hY
    have r2 := cell_of_row WY G 2 _ _ _ hY
    have r3 := cell_of_row WY G 3 _ _ _ hY
    have r4 := cell_of_row WY G 4 _ _ _ hY
    have r5 := cell_of_row WY G 5 _ _ _ hY
    have r6 := cell_of_row WY G 6 _ _ _ hY
    have r7 := cell_of_row WY G 7 _ _ _ hY
    have r8 := cell_of_row WY G 8 _ _ _ hY
    have r9 := cell_of_row WY G 9 _ _ _ hY
    have r10 := cell_of_row WY G 10 _ _ _ hY
    have r11 := cell_of_row WY G 11 _ _ _ hY
    have r12 := cell_of_row WY G 12 _ _ _ hY
    have r13 := cell_of_row WY G 13 _ _ _ hY
    have r14 := cell_of_row WY G 14 _ _ _ hY
    have r15 := cell_of_row WY G 15 _ _ _ hY
    have r16 := cell_of_row WY G 16 _ _ _ hY
    have r17 := cell_of_row WY G 17 _ _ _ hY
    have HW0 : Hid ((OIn WY (whole Tb Tc n 0) (.agg #[.int .i64 3, .int .i64 0, .slice o0 2 p0]) ∧ OIn WY (whole Ta Tc n 0) (.agg #[.int .i64 3, .int .i64 0, .slice o1 2 p1])) ∧ ¬ ((whole Tb Tc n 0).cost.2 = 0 ∧ (whole Ta Tc n 0).cost.2 = 0 ∧ (whole Ta Tc n 0).cost.1 < (whole Tb Tc n 0).cost.1)) := Lib.hid ⟨⟨hv0, hv1⟩, HGr.out 0⟩
    have HW1 : Hid ((OIn WY (whole Tb Tc n 1) (.agg #[.int .i64 3, .int .i64 0, .slice o2 2 p2]) ∧ OIn WY (whole Ta Tc n 1) (.agg #[.int .i64 3, .int .i64 0, .slice o3 2 p3])) ∧ ¬ ((whole Tb Tc n 1).cost.2 = 0 ∧ (whole Ta Tc n 1).cost.2 = 0 ∧ (whole Ta Tc n 1).cost.1 < (whole Tb Tc n 1).cost.1)) := Lib.hid ⟨⟨hv2, hv3⟩, HGr.out 1⟩
    have HW2 : Hid ((OIn WY (whole Tb Tc n 2) (.agg #[.int .i64 4, .int .i64 n, .slice o4 1 p4]) ∧ OIn WY (whole Ta Tc n 2) (.agg #[.int .i64 4, .int .i64 n, .slice o5 1 p5])) ∧ ¬ ((whole Tb Tc n 2).cost.2 = 0 ∧ (whole Ta Tc n 2).cost.2 = 0 ∧ (whole Ta Tc n 2).cost.1 < (whole Tb Tc n 2).cost.1)) := Lib.hid ⟨⟨hv4, hv5⟩, HGr.out 2⟩
    have HRow : Hid (WY.cell? ⟨G, 0, none⟩ = some (.int .i64 3) ∧ WY.cell? ⟨G, 1, none⟩ = some (.int .i64 0) ∧ WY.cell? ⟨G, 2, none⟩ = some (.slice o0 2 p0) ∧ WY.cell? ⟨G, 3, none⟩ = some (.int .i64 3) ∧ WY.cell? ⟨G, 4, none⟩ = some (.int .i64 0) ∧ WY.cell? ⟨G, 5, none⟩ = some (.slice o1 2 p1) ∧ WY.cell? ⟨G, 6, none⟩ = some (.int .i64 3) ∧ WY.cell? ⟨G, 7, none⟩ = some (.int .i64 0) ∧ WY.cell? ⟨G, 8, none⟩ = some (.slice o2 2 p2) ∧ WY.cell? ⟨G, 9, none⟩ = some (.int .i64 3) ∧ WY.cell? ⟨G, 10, none⟩ = some (.int .i64 0) ∧ WY.cell? ⟨G, 11, none⟩ = some (.slice o3 2 p3) ∧ WY.cell? ⟨G, 12, none⟩ = some (.int .i64 4) ∧ WY.cell? ⟨G, 13, none⟩ = some (.int .i64 n) ∧ WY.cell? ⟨G, 14, none⟩ = some (.slice o4 1 p4) ∧ WY.cell? ⟨G, 15, none⟩ = some (.int .i64 4) ∧ WY.cell? ⟨G, 16, none⟩ = some (.int .i64 n) ∧ WY.cell? ⟨G, 17, none⟩ = some (.slice o5 1 p5)) := Lib.hid ⟨r0, r1, r2, r3, r4, r5, r6, r7, r8, r9, r10, r11, r12, r13, r14, r15, r16, r17⟩
    clear r0 r1 r2 r3 r4 r5 r6 r7 r8 r9 r10 r11 r12 r13 r14 r15 r16 r17 hY hG hv0 ho0 HT0 hk0 hv1 ho1 HT1 hk1 hv2 ho2 HT2 hk2 hv3 ho3 HT3 hk3 hv4 ho4 HT4 hk4 hv5 ho5 HT5 hk5 kY kd
    have HKZ := Lib.hid kZ
    clear kZ
    go_loopw [92] (fun u wr => ∃ i : Nat, i ≤ 3 ∧ u = .int .i64 i ∧ Kp WY wr) (fun u _ => 3 - (intOf u).toNat)
    case atStart => exact ⟨0, by decide, rfl, Kp.refl _⟩
    case round =>
      obtain ⟨i, hi, rfl, hkr⟩ := hrel
      obtain ⟨r0, r1, r2, r3, r4, r5, r6, r7, r8, r9, r10, r11, r12, r13, r14, r15, r16, r17⟩ := HRow.out
      obtain rfl | rfl | rfl | rfl : i = 3 ∨ i = 0 ∨ i = 1 ∨ i = 2 := by omega
      · go_wp2_with fail
        go_ret
        exact ⟨rfl, HKZ.out.trans hkr⟩
      · have s0 := hkr.later r0
        have s1 := hkr.later r1
        have s2 := hkr.later r2
        have s3 := hkr.later r3
        have s4 := hkr.later r4
        have s5 := hkr.later r5
        clear r0 r1 r2 r3 r4 r5 r6 r7 r8 r9 r10 r11 r12 r13 r14 r15 r16 r17
        have hRx := heap_alloc_new wr (.cells #[.int .i64 3, .int .i64 0, .slice o0 2 p0, .int .i64 3, .int .i64 0, .slice o1 2 p1] 49)
        have kR := (Kp.refl wr).alloc (.cells #[.int .i64 3, .int .i64 0, .slice o0 2 p0, .int .i64 3, .int .i64 0, .slice o1 2 p1] 49)
        have hP : Hid (∀ w', Kp (wr.alloc (.cells #[.int .i64 3, .int .i64 0, .slice o0 2 p0, .int .i64 3, .int .i64 0, .slice o1 2 p1] 49)) w' → Calls Tryd.prog 18 #[.agg #[.int .i64 3, .int .i64 0, .slice o0 2 p0]] w' fun e w'' => e = .returned (.tuple #[.int .i64 (whole Tb Tc n 0).cost.1, errNo aO aM (whole Tb Tc n 0).cost.2]) ∧ Kp w' w'') := Lib.hid fun w' k => HCo.out _ _ w' ((HKZ.out.trans hkr).trans (kR.trans k)) ((HW0.out.1.1.kp hkr).kp (kR.trans k))
        have hQ : Hid (∀ w', Kp (wr.alloc (.cells #[.int .i64 3, .int .i64 0, .slice o0 2 p0, .int .i64 3, .int .i64 0, .slice o1 2 p1] 49)) w' → Calls Tryd.prog 18 #[.agg #[.int .i64 3, .int .i64 0, .slice o1 2 p1]] w' fun e w'' => e = .returned (.tuple #[.int .i64 (whole Ta Tc n 0).cost.1, errNo aO aM (whole Ta Tc n 0).cost.2]) ∧ Kp w' w'') := Lib.hid fun w' k => HCo.out _ _ w' ((HKZ.out.trans hkr).trans (kR.trans k)) ((HW0.out.1.2.kp hkr).kp (kR.trans k))
        have hno := cost_no (whole Tb Tc n 0)
        have hno' := cost_no (whole Ta Tc n 0)
        have hgr := HW0.out.2
        generalize (whole Tb Tc n 0).cost.2 = eP at hP hno hgr
        generalize (whole Ta Tc n 0).cost.2 = eQ at hQ hno' hgr
        generalize (whole Tb Tc n 0).cost.1 = cP at hP hgr
        generalize (whole Ta Tc n 0).cost.1 = cQ at hQ hgr
        obtain ⟨R, hR⟩ : ∃ R, wr.heap.size = R := ⟨_, rfl⟩
        clear hR
        have u0 := cell_of_row _ _ 0 _ _ _ hRx
        have u1 := cell_of_row _ _ 1 _ _ _ hRx
        have u2 := cell_of_row _ _ 2 _ _ _ hRx
        by_cases b1 : eP = 0
        case neg =>
          obtain ⟨p1, hp1⟩ := errNo_some (aO := aO) (aL := aM) hno b1
          obtain ⟨w2, hw2⟩ : ∃ v, errNo aO aM eQ = v := ⟨_, rfl⟩
          rw [hp1] at hP
          rw [hw2] at hQ
          clear hp1 hw2 b1 hgr
          go_wp2_with (first
            | (go_at_call 18; (with_reducible refine (hP.out _ (Kp.refl _)).mono ?_); rintro e w7 ⟨rfl, hk7⟩; have hR7 := (hk7.block _ (Array.getElem?_eq_some_iff.1 hRx).1).trans hRx; have t3 := cell_of_row w7 _ 3 _ _ _ hR7; have t4 := cell_of_row w7 _ 4 _ _ _ hR7; have t5 := cell_of_row w7 _ 5 _ _ _ hR7)
            | (go_at_call 18; (with_reducible refine (hQ.out _ hk7).mono ?_); rintro e w8 ⟨rfl, hk8⟩))
          go_roundw
          case rel => exact ⟨1, by decide, by go_num, ((hkr.trans kR).trans hk7).trans hk8⟩
          case measure => simp [intOf]
        subst b1
        rw [HE0.out] at hP
        by_cases b2 : eQ = 0
        case neg =>
          obtain ⟨p2, hp2⟩ := errNo_some (aO := aO) (aL := aM) hno' b2
          rw [hp2] at hQ
          clear hp2 b2 hgr
          go_wp2_with (first
            | (go_at_call 18; (with_reducible refine (hP.out _ (Kp.refl _)).mono ?_); rintro e w7 ⟨rfl, hk7⟩; have hR7 := (hk7.block _ (Array.getElem?_eq_some_iff.1 hRx).1).trans hRx; have t3 := cell_of_row w7 _ 3 _ _ _ hR7; have t4 := cell_of_row w7 _ 4 _ _ _ hR7; have t5 := cell_of_row w7 _ 5 _ _ _ hR7)
            | (go_at_call 18; (with_reducible refine (hQ.out _ hk7).mono ?_); rintro e w8 ⟨rfl, hk8⟩))
          go_roundw
          case rel => exact ⟨1, by decide, by go_num, ((hkr.trans kR).trans hk7).trans hk8⟩
          case measure => simp [intOf]
        subst b2
        rw [HE0.out] at hQ
        have hlt : ¬ cQ < cP := fun h => hgr ⟨rfl, rfl, h⟩
        have dlt : decide (cQ < cP) = false := by simpa using hlt
        clear hgr hlt
        go_wp2_with (first
          | (go_at_call 18; (with_reducible refine (hP.out _ (Kp.refl _)).mono ?_); rintro e w7 ⟨rfl, hk7⟩; have hR7 := (hk7.block _ (Array.getElem?_eq_some_iff.1 hRx).1).trans hRx; have t3 := cell_of_row w7 _ 3 _ _ _ hR7; have t4 := cell_of_row w7 _ 4 _ _ _ hR7; have t5 := cell_of_row w7 _ 5 _ _ _ hR7)
          | (go_at_call 18; (with_reducible refine (hQ.out _ hk7).mono ?_); rintro e w8 ⟨rfl, hk8⟩))
        go_roundw
        case rel => exact ⟨1, by decide, by go_num, ((hkr.trans kR).trans hk7).trans hk8⟩
        case measure => simp [intOf]
      · have s0 := hkr.later r6
        have s1 := hkr.later r7
        have s2 := hkr.later r8
        have s3 := hkr.later r9
        have s4 := hkr.later r10
        have s5 := hkr.later r11
        clear r0 r1 r2 r3 r4 r5 r6 r7 r8 r9 r10 r11 r12 r13 r14 r15 r16 r17
        have hRx := heap_alloc_new wr (.cells #[.int .i64 3, .int .i64 0, .slice o2 2 p2, .int .i64 3, .int .i64 0, .slice o3 2 p3] 49)
        have kR := (Kp.refl wr).alloc (.cells #[.int .i64 3, .int .i64 0, .slice o2 2 p2, .int .i64 3, .int .i64 0, .slice o3 2 p3] 49)
        have hP : Hid (∀ w', Kp (wr.alloc (.cells #[.int .i64 3, .int .i64 0, .slice o2 2 p2, .int .i64 3, .int .i64 0, .slice o3 2 p3] 49)) w' → Calls Tryd.prog 18 #[.agg #[.int .i64 3, .int .i64 0, .slice o2 2 p2]] w' fun e w'' => e = .returned (.tuple #[.int .i64 (whole Tb Tc n 1).cost.1, errNo aO aM (whole Tb Tc n 1).cost.2]) ∧ Kp w' w'') := Lib.hid fun w' k => HCo.out _ _ w' ((HKZ.out.trans hkr).trans (kR.trans k)) ((HW1.out.1.1.kp hkr).kp (kR.trans k))
        have hQ : Hid (∀ w', Kp (wr.alloc (.cells #[.int .i64 3, .int .i64 0, .slice o2 2 p2, .int .i64 3, .int .i64 0, .slice o3 2 p3] 49)) w' → Calls Tryd.prog 18 #[.agg #[.int .i64 3, .int .i64 0, .slice o3 2 p3]] w' fun e w'' => e = .returned (.tuple #[.int .i64 (whole Ta Tc n 1).cost.1, errNo aO aM (whole Ta Tc n 1).cost.2]) ∧ Kp w' w'') := Lib.hid fun w' k => HCo.out _ _ w' ((HKZ.out.trans hkr).trans (kR.trans k)) ((HW1.out.1.2.kp hkr).kp (kR.trans k))
        have hno := cost_no (whole Tb Tc n 1)
        have hno' := cost_no (whole Ta Tc n 1)
        have hgr := HW1.out.2
        generalize (whole Tb Tc n 1).cost.2 = eP at hP hno hgr
        generalize (whole Ta Tc n 1).cost.2 = eQ at hQ hno' hgr
        generalize (whole Tb Tc n 1).cost.1 = cP at hP hgr
        generalize (whole Ta Tc n 1).cost.1 = cQ at hQ hgr
        obtain ⟨R, hR⟩ : ∃ R, wr.heap.size = R := ⟨_, rfl⟩
        clear hR
        have u0 := cell_of_row _ _ 0 _ _ _ hRx
        have u1 := cell_of_row _ _ 1 _ _ _ hRx
        have u2 := cell_of_row _ _ 2 _ _ _ hRx
        by_cases b1 : eP = 0
        case neg =>
          obtain ⟨p1, hp1⟩ := errNo_some (aO := aO) (aL := aM) hno b1
          obtain ⟨w2, hw2⟩ : ∃ v, errNo aO aM eQ = v := ⟨_, rfl⟩
          rw [hp1] at hP
          rw [hw2] at hQ
          clear hp1 hw2 b1 hgr
          go_wp2_with (first
            | (go_at_call 18; (with_reducible refine (hP.out _ (Kp.refl _)).mono ?_); rintro e w7 ⟨rfl, hk7⟩; have hR7 := (hk7.block _ (Array.getElem?_eq_some_iff.1 hRx).1).trans hRx; have t3 := cell_of_row w7 _ 3 _ _ _ hR7; have t4 := cell_of_row w7 _ 4 _ _ _ hR7; have t5 := cell_of_row w7 _ 5 _ _ _ hR7)
            | (go_at_call 18; (with_reducible refine (hQ.out _ hk7).mono ?_); rintro e w8 ⟨rfl, hk8⟩))
          go_roundw
          case rel => exact ⟨2, by decide, by go_num, ((hkr.trans kR).trans hk7).trans hk8⟩
          case measure => simp [intOf]
        subst b1
        rw [HE0.out] at hP
        by_cases b2 : eQ = 0
        case neg =>
          obtain ⟨p2, hp2⟩ := errNo_some (aO := aO) (aL := aM) hno' b2
          rw [hp2] at hQ
          clear hp2 b2 hgr
          go_wp2_with (first
            | (go_at_call 18; (with_reducible refine (hP.out _ (Kp.refl _)).mono ?_); rintro e w7 ⟨rfl, hk7⟩; have hR7 := (hk7.block _ (Array.getElem?_eq_some_iff.1 hRx).1).trans hRx; have t3 := cell_of_row w7 _ 3 _ _ _ hR7; have t4 := cell_of_row w7 _ 4 _ _ _ hR7; have t5 := cell_of_row w7 _ 5 _ _ _ hR7)
            | (go_at_call 18; (with_reducible refine (hQ.out _ hk7).mono ?_); rintro e w8 ⟨rfl, hk8⟩))
          go_roundw
          case rel => exact ⟨2, by decide, by go_num, ((hkr.trans kR).trans hk7).trans hk8⟩
          case measure => simp [intOf]
        subst b2
        rw [HE0.out] at hQ
        have hlt : ¬ cQ < cP := fun h => hgr ⟨rfl, rfl, h⟩
        have dlt : decide (cQ < cP) = false := by simpa using hlt
        clear hgr hlt
        go_wp2_with (first
          | (go_at_call 18; (with_reducible refine (hP.out _ (Kp.refl _)).mono ?_); rintro e w7 ⟨rfl, hk7⟩; have hR7 := (hk7.block _ (Array.getElem?_eq_some_iff.1 hRx).1).trans hRx; have t3 := cell_of_row w7 _ 3 _ _ _ hR7; have t4 := cell_of_row w7 _ 4 _ _ _ hR7; have t5 := cell_of_row w7 _ 5 _ _ _ hR7)
          | (go_at_call 18; (with_reducible refine (hQ.out _ hk7).mono ?_); rintro e w8 ⟨rfl, hk8⟩))
        go_roundw
        case rel => exact ⟨2, by decide, by go_num, ((hkr.trans kR).trans hk7).trans hk8⟩
        case measure => simp [intOf]
      · have s0 := hkr.later r12
        have s1 := hkr.later r13
        have s2 := hkr.later r14
        have s3 := hkr.later r15
        have s4 := hkr.later r16
        have s5 := hkr.later r17
        clear r0 r1 r2 r3 r4 r5 r6 r7 r8 r9 r10 r11 r12 r13 r14 r15 r16 r17
        have hRx := heap_alloc_new wr (.cells #[.int .i64 4, .int .i64 n, .slice o4 1 p4, .int .i64 4, .int .i64 n, .slice o5 1 p5] 49)
        have kR := (Kp.refl wr).alloc (.cells #[.int .i64 4, .int .i64 n, .slice o4 1 p4, .int .i64 4, .int .i64 n, .slice o5 1 p5] 49)
        have hP : Hid (∀ w', Kp (wr.alloc (.cells #[.int .i64 4, .int .i64 n, .slice o4 1 p4, .int .i64 4, .int .i64 n, .slice o5 1 p5] 49)) w' → Calls Tryd.prog 18 #[.agg #[.int .i64 4, .int .i64 n, .slice o4 1 p4]] w' fun e w'' => e = .returned (.tuple #[.int .i64 (whole Tb Tc n 2).cost.1, errNo aO aM (whole Tb Tc n 2).cost.2]) ∧ Kp w' w'') := Lib.hid fun w' k => HCo.out _ _ w' ((HKZ.out.trans hkr).trans (kR.trans k)) ((HW2.out.1.1.kp hkr).kp (kR.trans k))
        have hQ : Hid (∀ w', Kp (wr.alloc (.cells #[.int .i64 4, .int .i64 n, .slice o4 1 p4, .int .i64 4, .int .i64 n, .slice o5 1 p5] 49)) w' → Calls Tryd.prog 18 #[.agg #[.int .i64 4, .int .i64 n, .slice o5 1 p5]] w' fun e w'' => e = .returned (.tuple #[.int .i64 (whole Ta Tc n 2).cost.1, errNo aO aM (whole Ta Tc n 2).cost.2]) ∧ Kp w' w'') := Lib.hid fun w' k => HCo.out _ _ w' ((HKZ.out.trans hkr).trans (kR.trans k)) ((HW2.out.1.2.kp hkr).kp (kR.trans k))
        have hno := cost_no (whole Tb Tc n 2)
        have hno' := cost_no (whole Ta Tc n 2)
        have hgr := HW2.out.2
        generalize (whole Tb Tc n 2).cost.2 = eP at hP hno hgr
        generalize (whole Ta Tc n 2).cost.2 = eQ at hQ hno' hgr
        generalize (whole Tb Tc n 2).cost.1 = cP at hP hgr
        generalize (whole Ta Tc n 2).cost.1 = cQ at hQ hgr
        obtain ⟨R, hR⟩ : ∃ R, wr.heap.size = R := ⟨_, rfl⟩
        clear hR
        have u0 := cell_of_row _ _ 0 _ _ _ hRx
        have u1 := cell_of_row _ _ 1 _ _ _ hRx
        have u2 := cell_of_row _ _ 2 _ _ _ hRx
        by_cases b1 : eP = 0
        case neg =>
          obtain ⟨p1, hp1⟩ := errNo_some (aO := aO) (aL := aM) hno b1
          obtain ⟨w2, hw2⟩ : ∃ v, errNo aO aM eQ = v := ⟨_, rfl⟩
          rw [hp1] at hP
          rw [hw2] at hQ
          clear hp1 hw2 b1 hgr
          go_wp2_with (first
            | (go_at_call 18; (with_reducible refine (hP.out _ (Kp.refl _)).mono ?_); rintro e w7 ⟨rfl, hk7⟩; have hR7 := (hk7.block _ (Array.getElem?_eq_some_iff.1 hRx).1).trans hRx; have t3 := cell_of_row w7 _ 3 _ _ _ hR7; have t4 := cell_of_row w7 _ 4 _ _ _ hR7; have t5 := cell_of_row w7 _ 5 _ _ _ hR7)
            | (go_at_call 18; (with_reducible refine (hQ.out _ hk7).mono ?_); rintro e w8 ⟨rfl, hk8⟩))
          go_roundw
          case rel => exact ⟨3, by decide, by go_num, ((hkr.trans kR).trans hk7).trans hk8⟩
          case measure => simp [intOf]
        subst b1
        rw [HE0.out] at hP
        by_cases b2 : eQ = 0
        case neg =>
          obtain ⟨p2, hp2⟩ := errNo_some (aO := aO) (aL := aM) hno' b2
          rw [hp2] at hQ
          clear hp2 b2 hgr
          go_wp2_with (first
            | (go_at_call 18; (with_reducible refine (hP.out _ (Kp.refl _)).mono ?_); rintro e w7 ⟨rfl, hk7⟩; have hR7 := (hk7.block _ (Array.getElem?_eq_some_iff.1 hRx).1).trans hRx; have t3 := cell_of_row w7 _ 3 _ _ _ hR7; have t4 := cell_of_row w7 _ 4 _ _ _ hR7; have t5 := cell_of_row w7 _ 5 _ _ _ hR7)
            | (go_at_call 18; (with_reducible refine (hQ.out _ hk7).mono ?_); rintro e w8 ⟨rfl, hk8⟩))
          go_roundw
          case rel => exact ⟨3, by decide, by go_num, ((hkr.trans kR).trans hk7).trans hk8⟩
          case measure => simp [intOf]
        subst b2
        rw [HE0.out] at hQ
        have hlt : ¬ cQ < cP := fun h => hgr ⟨rfl, rfl, h⟩
        have dlt : decide (cQ < cP) = false := by simpa using hlt
        clear hgr hlt
        go_wp2_with (first
          | (go_at_call 18; (with_reducible refine (hP.out _ (Kp.refl _)).mono ?_); rintro e w7 ⟨rfl, hk7⟩; have hR7 := (hk7.block _ (Array.getElem?_eq_some_iff.1 hRx).1).trans hRx; have t3 := cell_of_row w7 _ 3 _ _ _ hR7; have t4 := cell_of_row w7 _ 4 _ _ _ hR7; have t5 := cell_of_row w7 _ 5 _ _ _ hR7)
          | (go_at_call 18; (with_reducible refine (hQ.out _ hk7).mono ?_); rintro e w8 ⟨rfl, hk8⟩))
        go_roundw
        case rel => exact ⟨3, by decide, by go_num, ((hkr.trans kR).trans hk7).trans hk8⟩
        case measure => simp [intOf]
  case neg =>
    have d6 : decide (y < x) = false := by simpa using q6
    go_upto_region 10 with fail
    have HGr : Hid (∀ i, ¬ ((whole Ta Tc n i).cost.2 = 0 ∧ (whole Tb Tc n i).cost.2 = 0 ∧ (whole Tb Tc n i).cost.1 < (whole Ta Tc n i).cost.1)) := Lib.hid fun i => by
      obtain ⟨n1, n2, n3, n4, n5, n6, n7⟩ := HNm.out
      exact grows n3 n4 n5 (by rw [HKa.out, HKb.out, HQ4.out]) (by rw [n6, n7, HQ5.out]) (by rw [n1, n2]; omega) i
    have kXW := kE
    have HOf := Lib.hid (HTa.out.kp kE)
    have HOs := Lib.hid (HTb.out.kp kE)
    have HOc := Lib.hid (HTc.out.kp kE)
    have x0 := a0
    have x1 := a1
    have x2 := a2
    have y0 := b0
    have y1 := b1
    have y2 := b2
    have z0 := c0
    have z1 := c1
    have z2 := c2
    clear a0 a1 a2 b0 b1 b2 c0 c1 c2 fa0 fa1 fa2 fb0 fb1 fb2 g4 g5 kE hm6 HSt HBL hsz6
    generalize w6 = WX at *
    generalize W.heap.size + 1 + 1 = A6 at *
    generalize W.heap.size + 1 = A5 at *
    obtain ⟨A4, hA4⟩ : ∃ A4, W.heap.size = A4 := ⟨_, rfl⟩
    simp only [hA4] at x0 x1 x2 ⊢
    clear hneA hA4 d6 q6
    have HSX : Hid (∀ w', Kp WX w' → w'.cell? ⟨A4, 0, none⟩ = some (.int .i64 ka) ∧ w'.cell? ⟨A4, 1, none⟩ = some (.int .i64 na) ∧ w'.cell? ⟨A4, 2, none⟩ = some (.slice oa ma ca) ∧ w'.cell? ⟨A5, 0, none⟩ = some (.int .i64 kb) ∧ w'.cell? ⟨A5, 1, none⟩ = some (.int .i64 nb) ∧ w'.cell? ⟨A5, 2, none⟩ = some (.slice ob mb cb) ∧ w'.cell? ⟨A6, 0, none⟩ = some (.int .i64 kc) ∧ w'.cell? ⟨A6, 1, none⟩ = some (.int .i64 nc) ∧ w'.cell? ⟨A6, 2, none⟩ = some (.slice oc mc cc)) := Lib.hid fun w' k => ⟨k.later x0, k.later x1, k.later x2, k.later y0, k.later y1, k.later y2, k.later z0, k.later z1, k.later z2⟩
    have hpf : Ta.parts ≤ 4096 := cost_parts (by have h := HNm.out; simp [h])
    have hps : Tb.parts ≤ 4096 := cost_parts (by have h := HNm.out; simp [h])
    have hpc : Tc.parts ≤ 4096 := cost_parts (by have h := HNm.out; simp [h])
    have HT0 : Hid (∀ w', Kp WX w' → Calls Tryd.prog 21 #[.agg #[.int .i64 ka, .int .i64 na, .slice oa ma ca], .agg #[.int .i64 kc, .int .i64 nc, .slice oc mc cc]] w' fun e w'' => ∃ o c, e = .returned (.agg #[.int .i64 3, .int .i64 0, .slice o 2 c]) ∧ Hid (OIn w'' (Ta.times Tc) (.agg #[.int .i64 3, .int .i64 0, .slice o 2 c])) ∧ Kp w' w'') := Lib.hid fun w' k => by
      refine (Times_any Ta Tc _ _ w' (HOf.out.kp k) (HOc.out.kp k) hpf hpc).mono ?_
      rintro e w'' ⟨o, c, rfl, h1, h2⟩
      exact ⟨o, c, rfl, Lib.hid h1.oin, h2⟩
    have HT1 : Hid (∀ w', Kp WX w' → Calls Tryd.prog 21 #[.agg #[.int .i64 kb, .int .i64 nb, .slice ob mb cb], .agg #[.int .i64 kc, .int .i64 nc, .slice oc mc cc]] w' fun e w'' => ∃ o c, e = .returned (.agg #[.int .i64 3, .int .i64 0, .slice o 2 c]) ∧ Hid (OIn w'' (Tb.times Tc) (.agg #[.int .i64 3, .int .i64 0, .slice o 2 c])) ∧ Kp w' w'') := Lib.hid fun w' k => by
      refine (Times_any Tb Tc _ _ w' (HOs.out.kp k) (HOc.out.kp k) hps hpc).mono ?_
      rintro e w'' ⟨o, c, rfl, h1, h2⟩
      exact ⟨o, c, rfl, Lib.hid h1.oin, h2⟩
    have HT2 : Hid (∀ w', Kp WX w' → Calls Tryd.prog 21 #[.agg #[.int .i64 kc, .int .i64 nc, .slice oc mc cc], .agg #[.int .i64 ka, .int .i64 na, .slice oa ma ca]] w' fun e w'' => ∃ o c, e = .returned (.agg #[.int .i64 3, .int .i64 0, .slice o 2 c]) ∧ Hid (OIn w'' (Tc.times Ta) (.agg #[.int .i64 3, .int .i64 0, .slice o 2 c])) ∧ Kp w' w'') := Lib.hid fun w' k => by
      refine (Times_any Tc Ta _ _ w' (HOc.out.kp k) (HOf.out.kp k) hpc hpf).mono ?_
      rintro e w'' ⟨o, c, rfl, h1, h2⟩
      exact ⟨o, c, rfl, Lib.hid h1.oin, h2⟩
    have HT3 : Hid (∀ w', Kp WX w' → Calls Tryd.prog 21 #[.agg #[.int .i64 kc, .int .i64 nc, .slice oc mc cc], .agg #[.int .i64 kb, .int .i64 nb, .slice ob mb cb]] w' fun e w'' => ∃ o c, e = .returned (.agg #[.int .i64 3, .int .i64 0, .slice o 2 c]) ∧ Hid (OIn w'' (Tc.times Tb) (.agg #[.int .i64 3, .int .i64 0, .slice o 2 c])) ∧ Kp w' w'') := Lib.hid fun w' k => by
      refine (Times_any Tc Tb _ _ w' (HOc.out.kp k) (HOs.out.kp k) hpc hps).mono ?_
      rintro e w'' ⟨o, c, rfl, h1, h2⟩
      exact ⟨o, c, rfl, Lib.hid h1.oin, h2⟩
    have HT4 : Hid (∀ w', Kp WX w' → Calls Tryd.prog 22 #[.int .i64 n, .agg #[.int .i64 ka, .int .i64 na, .slice oa ma ca]] w' fun e w'' => ∃ o c, e = .returned (.agg #[.int .i64 4, .int .i64 n, .slice o 1 c]) ∧ Hid (OIn w'' (Ta.blue n) (.agg #[.int .i64 4, .int .i64 n, .slice o 1 c])) ∧ Kp w' w'') := Lib.hid fun w' k => by
      refine (Blue_all n Ta _ w' hn0 hn1 (HOf.out.kp k) hpf).mono ?_
      rintro e w'' ⟨o, c, rfl, h1, h2⟩
      exact ⟨o, c, rfl, Lib.hid h1.oin, h2⟩
    have HT5 : Hid (∀ w', Kp WX w' → Calls Tryd.prog 22 #[.int .i64 n, .agg #[.int .i64 kb, .int .i64 nb, .slice ob mb cb]] w' fun e w'' => ∃ o c, e = .returned (.agg #[.int .i64 4, .int .i64 n, .slice o 1 c]) ∧ Hid (OIn w'' (Tb.blue n) (.agg #[.int .i64 4, .int .i64 n, .slice o 1 c])) ∧ Kp w' w'') := Lib.hid fun w' k => by
      refine (Blue_all n Tb _ w' hn0 hn1 (HOs.out.kp k) hps).mono ?_
      rintro e w'' ⟨o, c, rfl, h1, h2⟩
      exact ⟨o, c, rfl, Lib.hid h1.oin, h2⟩
    have kd : Kp WX WX.drew := (Kp.refl WX).drew
    clear hpf hps hpc
    go_region_held3 (fun w' => w'.cell? ⟨A4, 0, none⟩ = some (.int .i64 ka) ∧ w'.cell? ⟨A4, 1, none⟩ = some (.int .i64 na) ∧ w'.cell? ⟨A4, 2, none⟩ = some (.slice oa ma ca) ∧ w'.cell? ⟨A5, 0, none⟩ = some (.int .i64 kb) ∧ w'.cell? ⟨A5, 1, none⟩ = some (.int .i64 nb) ∧ w'.cell? ⟨A5, 2, none⟩ = some (.slice ob mb cb) ∧ w'.cell? ⟨A6, 0, none⟩ = some (.int .i64 kc) ∧ w'.cell? ⟨A6, 1, none⟩ = some (.int .i64 nc) ∧ w'.cell? ⟨A6, 2, none⟩ = some (.slice oc mc cc)) (first | go_keep | exact HSX.out _ ((kd).trans hk0) | exact HSX.out _ (((kd).trans hk0).trans hk1) | exact HSX.out _ ((((kd).trans hk0).trans hk1).trans hk2) | exact HSX.out _ (((((kd).trans hk0).trans hk1).trans hk2).trans hk3) | exact HSX.out _ ((((((kd).trans hk0).trans hk1).trans hk2).trans hk3).trans hk4) | exact HSX.out _ (((((((kd).trans hk0).trans hk1).trans hk2).trans hk3).trans hk4).trans hk5)) (first
      | (go_at_call 21; (with_reducible refine (HT0.out _ (kd)).mono ?_); rintro e v0 ⟨o0, p0, rfl, ho0, hk0⟩)
      | (go_at_call 21; (with_reducible refine (HT1.out _ ((kd).trans hk0)).mono ?_); rintro e v1 ⟨o1, p1, rfl, ho1, hk1⟩)
      | (go_at_call 21; (with_reducible refine (HT2.out _ (((kd).trans hk0).trans hk1)).mono ?_); rintro e v2 ⟨o2, p2, rfl, ho2, hk2⟩)
      | (go_at_call 21; (with_reducible refine (HT3.out _ ((((kd).trans hk0).trans hk1).trans hk2)).mono ?_); rintro e v3 ⟨o3, p3, rfl, ho3, hk3⟩)
      | (go_at_call 22; (with_reducible refine (HT4.out _ (((((kd).trans hk0).trans hk1).trans hk2).trans hk3)).mono ?_); rintro e v4 ⟨o4, p4, rfl, ho4, hk4⟩)
      | (go_at_call 22; (with_reducible refine (HT5.out _ ((((((kd).trans hk0).trans hk1).trans hk2).trans hk3).trans hk4)).mono ?_); rintro e v5 ⟨o5, p5, rfl, ho5, hk5⟩))
    go_wp2_with fail
    have hY := heap_alloc_new v5 (.cells #[.int .i64 3, .int .i64 0, .slice o0 2 p0, .int .i64 3, .int .i64 0, .slice o1 2 p1, .int .i64 3, .int .i64 0, .slice o2 2 p2, .int .i64 3, .int .i64 0, .slice o3 2 p3, .int .i64 4, .int .i64 n, .slice o4 1 p4, .int .i64 4, .int .i64 n, .slice o5 1 p5] 49)
    have kY := (Kp.refl v5).alloc (.cells #[.int .i64 3, .int .i64 0, .slice o0 2 p0, .int .i64 3, .int .i64 0, .slice o1 2 p1, .int .i64 3, .int .i64 0, .slice o2 2 p2, .int .i64 3, .int .i64 0, .slice o3 2 p3, .int .i64 4, .int .i64 n, .slice o4 1 p4, .int .i64 4, .int .i64 n, .slice o5 1 p5] 49)
    have hv0 := (((((ho0.out.kp hk1).kp hk2).kp hk3).kp hk4).kp hk5).kp kY
    have hv1 := ((((ho1.out.kp hk2).kp hk3).kp hk4).kp hk5).kp kY
    have hv2 := (((ho2.out.kp hk3).kp hk4).kp hk5).kp kY
    have hv3 := ((ho3.out.kp hk4).kp hk5).kp kY
    have hv4 := (ho4.out.kp hk5).kp kY
    have hv5 := ho5.out.kp kY
    have kZ := (kXW.trans (((((((kd).trans hk0).trans hk1).trans hk2).trans hk3).trans hk4).trans hk5)).trans kY
    generalize v5.alloc (.cells #[.int .i64 3, .int .i64 0, .slice o0 2 p0, .int .i64 3, .int .i64 0, .slice o1 2 p1, .int .i64 3, .int .i64 0, .slice o2 2 p2, .int .i64 3, .int .i64 0, .slice o3 2 p3, .int .i64 4, .int .i64 n, .slice o4 1 p4, .int .i64 4, .int .i64 n, .slice o5 1 p5] 49) = WY at *
    obtain ⟨G, hG⟩ : ∃ G, v5.heap.size = G := ⟨_, rfl⟩
    simp only [hG] at hY ⊢
    have r0 := cell_of_row WY G 0 _ _ _ hY
    have r1 := cell_of_row WY G 1 _ _ _ hY
    have r2 := cell_of_row WY G 2 _ _ _ hY
    have r3 := cell_of_row WY G 3 _ _ _ hY
    have r4 := cell_of_row WY G 4 _ _ _ hY
    have r5 := cell_of_row WY G 5 _ _ _ hY
    have r6 := cell_of_row WY G 6 _ _ _ hY
    have r7 := cell_of_row WY G 7 _ _ _ hY
    have r8 := cell_of_row WY G 8 _ _ _ hY
    have r9 := cell_of_row WY G 9 _ _ _ hY
    have r10 := cell_of_row WY G 10 _ _ _ hY
    have r11 := cell_of_row WY G 11 _ _ _ hY
    have r12 := cell_of_row WY G 12 _ _ _ hY
    have r13 := cell_of_row WY G 13 _ _ _ hY
    have r14 := cell_of_row WY G 14 _ _ _ hY
    have r15 := cell_of_row WY G 15 _ _ _ hY
    have r16 := cell_of_row WY G 16 _ _ _ hY
    have r17 := cell_of_row WY G 17 _ _ _ hY
    have HW0 : Hid ((OIn WY (whole Ta Tc n 0) (.agg #[.int .i64 3, .int .i64 0, .slice o0 2 p0]) ∧ OIn WY (whole Tb Tc n 0) (.agg #[.int .i64 3, .int .i64 0, .slice o1 2 p1])) ∧ ¬ ((whole Ta Tc n 0).cost.2 = 0 ∧ (whole Tb Tc n 0).cost.2 = 0 ∧ (whole Tb Tc n 0).cost.1 < (whole Ta Tc n 0).cost.1)) := Lib.hid ⟨⟨hv0, hv1⟩, HGr.out 0⟩
    have HW1 : Hid ((OIn WY (whole Ta Tc n 1) (.agg #[.int .i64 3, .int .i64 0, .slice o2 2 p2]) ∧ OIn WY (whole Tb Tc n 1) (.agg #[.int .i64 3, .int .i64 0, .slice o3 2 p3])) ∧ ¬ ((whole Ta Tc n 1).cost.2 = 0 ∧ (whole Tb Tc n 1).cost.2 = 0 ∧ (whole Tb Tc n 1).cost.1 < (whole Ta Tc n 1).cost.1)) := Lib.hid ⟨⟨hv2, hv3⟩, HGr.out 1⟩
    have HW2 : Hid ((OIn WY (whole Ta Tc n 2) (.agg #[.int .i64 4, .int .i64 n, .slice o4 1 p4]) ∧ OIn WY (whole Tb Tc n 2) (.agg #[.int .i64 4, .int .i64 n, .slice o5 1 p5])) ∧ ¬ ((whole Ta Tc n 2).cost.2 = 0 ∧ (whole Tb Tc n 2).cost.2 = 0 ∧ (whole Tb Tc n 2).cost.1 < (whole Ta Tc n 2).cost.1)) := Lib.hid ⟨⟨hv4, hv5⟩, HGr.out 2⟩
    have HRow : Hid (WY.cell? ⟨G, 0, none⟩ = some (.int .i64 3) ∧ WY.cell? ⟨G, 1, none⟩ = some (.int .i64 0) ∧ WY.cell? ⟨G, 2, none⟩ = some (.slice o0 2 p0) ∧ WY.cell? ⟨G, 3, none⟩ = some (.int .i64 3) ∧ WY.cell? ⟨G, 4, none⟩ = some (.int .i64 0) ∧ WY.cell? ⟨G, 5, none⟩ = some (.slice o1 2 p1) ∧ WY.cell? ⟨G, 6, none⟩ = some (.int .i64 3) ∧ WY.cell? ⟨G, 7, none⟩ = some (.int .i64 0) ∧ WY.cell? ⟨G, 8, none⟩ = some (.slice o2 2 p2) ∧ WY.cell? ⟨G, 9, none⟩ = some (.int .i64 3) ∧ WY.cell? ⟨G, 10, none⟩ = some (.int .i64 0) ∧ WY.cell? ⟨G, 11, none⟩ = some (.slice o3 2 p3) ∧ WY.cell? ⟨G, 12, none⟩ = some (.int .i64 4) ∧ WY.cell? ⟨G, 13, none⟩ = some (.int .i64 n) ∧ WY.cell? ⟨G, 14, none⟩ = some (.slice o4 1 p4) ∧ WY.cell? ⟨G, 15, none⟩ = some (.int .i64 4) ∧ WY.cell? ⟨G, 16, none⟩ = some (.int .i64 n) ∧ WY.cell? ⟨G, 17, none⟩ = some (.slice o5 1 p5)) := Lib.hid ⟨r0, r1, r2, r3, r4, r5, r6, r7, r8, r9, r10, r11, r12, r13, r14, r15, r16, r17⟩
    clear r0 r1 r2 r3 r4 r5 r6 r7 r8 r9 r10 r11 r12 r13 r14 r15 r16 r17 hY hG hv0 ho0 HT0 hk0 hv1 ho1 HT1 hk1 hv2 ho2 HT2 hk2 hv3 ho3 HT3 hk3 hv4 ho4 HT4 hk4 hv5 ho5 HT5 hk5 kY kd
    have HKZ := Lib.hid kZ
    clear kZ
    go_loopw [92] (fun u wr => ∃ i : Nat, i ≤ 3 ∧ u = .int .i64 i ∧ Kp WY wr) (fun u _ => 3 - (intOf u).toNat)
    case atStart => exact ⟨0, by decide, rfl, Kp.refl _⟩
    case round =>
      obtain ⟨i, hi, rfl, hkr⟩ := hrel
      obtain ⟨r0, r1, r2, r3, r4, r5, r6, r7, r8, r9, r10, r11, r12, r13, r14, r15, r16, r17⟩ := HRow.out
      obtain rfl | rfl | rfl | rfl : i = 3 ∨ i = 0 ∨ i = 1 ∨ i = 2 := by omega
      · go_wp2_with fail
        go_ret
        exact ⟨rfl, HKZ.out.trans hkr⟩
      · have s0 := hkr.later r0
        have s1 := hkr.later r1
        have s2 := hkr.later r2
        have s3 := hkr.later r3
        have s4 := hkr.later r4
        have s5 := hkr.later r5
        clear r0 r1 r2 r3 r4 r5 r6 r7 r8 r9 r10 r11 r12 r13 r14 r15 r16 r17
        have hRx := heap_alloc_new wr (.cells #[.int .i64 3, .int .i64 0, .slice o0 2 p0, .int .i64 3, .int .i64 0, .slice o1 2 p1] 49)
        have kR := (Kp.refl wr).alloc (.cells #[.int .i64 3, .int .i64 0, .slice o0 2 p0, .int .i64 3, .int .i64 0, .slice o1 2 p1] 49)
        have hP : Hid (∀ w', Kp (wr.alloc (.cells #[.int .i64 3, .int .i64 0, .slice o0 2 p0, .int .i64 3, .int .i64 0, .slice o1 2 p1] 49)) w' → Calls Tryd.prog 18 #[.agg #[.int .i64 3, .int .i64 0, .slice o0 2 p0]] w' fun e w'' => e = .returned (.tuple #[.int .i64 (whole Ta Tc n 0).cost.1, errNo aO aM (whole Ta Tc n 0).cost.2]) ∧ Kp w' w'') := Lib.hid fun w' k => HCo.out _ _ w' ((HKZ.out.trans hkr).trans (kR.trans k)) ((HW0.out.1.1.kp hkr).kp (kR.trans k))
        have hQ : Hid (∀ w', Kp (wr.alloc (.cells #[.int .i64 3, .int .i64 0, .slice o0 2 p0, .int .i64 3, .int .i64 0, .slice o1 2 p1] 49)) w' → Calls Tryd.prog 18 #[.agg #[.int .i64 3, .int .i64 0, .slice o1 2 p1]] w' fun e w'' => e = .returned (.tuple #[.int .i64 (whole Tb Tc n 0).cost.1, errNo aO aM (whole Tb Tc n 0).cost.2]) ∧ Kp w' w'') := Lib.hid fun w' k => HCo.out _ _ w' ((HKZ.out.trans hkr).trans (kR.trans k)) ((HW0.out.1.2.kp hkr).kp (kR.trans k))
        have hno := cost_no (whole Ta Tc n 0)
        have hno' := cost_no (whole Tb Tc n 0)
        have hgr := HW0.out.2
        generalize (whole Ta Tc n 0).cost.2 = eP at hP hno hgr
        generalize (whole Tb Tc n 0).cost.2 = eQ at hQ hno' hgr
        generalize (whole Ta Tc n 0).cost.1 = cP at hP hgr
        generalize (whole Tb Tc n 0).cost.1 = cQ at hQ hgr
        obtain ⟨R, hR⟩ : ∃ R, wr.heap.size = R := ⟨_, rfl⟩
        clear hR
        have u0 := cell_of_row _ _ 0 _ _ _ hRx
        have u1 := cell_of_row _ _ 1 _ _ _ hRx
        have u2 := cell_of_row _ _ 2 _ _ _ hRx
        by_cases b1 : eP = 0
        case neg =>
          obtain ⟨p1, hp1⟩ := errNo_some (aO := aO) (aL := aM) hno b1
          obtain ⟨w2, hw2⟩ : ∃ v, errNo aO aM eQ = v := ⟨_, rfl⟩
          rw [hp1] at hP
          rw [hw2] at hQ
          clear hp1 hw2 b1 hgr
          go_wp2_with (first
            | (go_at_call 18; (with_reducible refine (hP.out _ (Kp.refl _)).mono ?_); rintro e w7 ⟨rfl, hk7⟩; have hR7 := (hk7.block _ (Array.getElem?_eq_some_iff.1 hRx).1).trans hRx; have t3 := cell_of_row w7 _ 3 _ _ _ hR7; have t4 := cell_of_row w7 _ 4 _ _ _ hR7; have t5 := cell_of_row w7 _ 5 _ _ _ hR7)
            | (go_at_call 18; (with_reducible refine (hQ.out _ hk7).mono ?_); rintro e w8 ⟨rfl, hk8⟩))
          go_roundw
          case rel => exact ⟨1, by decide, by go_num, ((hkr.trans kR).trans hk7).trans hk8⟩
          case measure => simp [intOf]
        subst b1
        rw [HE0.out] at hP
        by_cases b2 : eQ = 0
        case neg =>
          obtain ⟨p2, hp2⟩ := errNo_some (aO := aO) (aL := aM) hno' b2
          rw [hp2] at hQ
          clear hp2 b2 hgr
          go_wp2_with (first
            | (go_at_call 18; (with_reducible refine (hP.out _ (Kp.refl _)).mono ?_); rintro e w7 ⟨rfl, hk7⟩; have hR7 := (hk7.block _ (Array.getElem?_eq_some_iff.1 hRx).1).trans hRx; have t3 := cell_of_row w7 _ 3 _ _ _ hR7; have t4 := cell_of_row w7 _ 4 _ _ _ hR7; have t5 := cell_of_row w7 _ 5 _ _ _ hR7)
            | (go_at_call 18; (with_reducible refine (hQ.out _ hk7).mono ?_); rintro e w8 ⟨rfl, hk8⟩))
          go_roundw
          case rel => exact ⟨1, by decide, by go_num, ((hkr.trans kR).trans hk7).trans hk8⟩
          case measure => simp [intOf]
        subst b2
        rw [HE0.out] at hQ
        have hlt : ¬ cQ < cP := fun h => hgr ⟨rfl, rfl, h⟩
        have dlt : decide (cQ < cP) = false := by simpa using hlt
        clear hgr hlt
        go_wp2_with (first
          | (go_at_call 18; (with_reducible refine (hP.out _ (Kp.refl _)).mono ?_); rintro e w7 ⟨rfl, hk7⟩; have hR7 := (hk7.block _ (Array.getElem?_eq_some_iff.1 hRx).1).trans hRx; have t3 := cell_of_row w7 _ 3 _ _ _ hR7; have t4 := cell_of_row w7 _ 4 _ _ _ hR7; have t5 := cell_of_row w7 _ 5 _ _ _ hR7)
          | (go_at_call 18; (with_reducible refine (hQ.out _ hk7).mono ?_); rintro e w8 ⟨rfl, hk8⟩))
        go_roundw
        case rel => exact ⟨1, by decide, by go_num, ((hkr.trans kR).trans hk7).trans hk8⟩
        case measure => simp [intOf]
      · have s0 := hkr.later r6
        have s1 := hkr.later r7
        have s2 := hkr.later r8
        have s3 := hkr.later r9
        have s4 := hkr.later r10
        have s5 := hkr.later r11
        clear r0 r1 r2 r3 r4 r5 r6 r7 r8 r9 r10 r11 r12 r13 r14 r15 r16 r17
        have hRx := heap_alloc_new wr (.cells #[.int .i64 3, .int .i64 0, .slice o2 2 p2, .int .i64 3, .int .i64 0, .slice o3 2 p3] 49)
        have kR := (Kp.refl wr).alloc (.cells #[.int .i64 3, .int .i64 0, .slice o2 2 p2, .int .i64 3, .int .i64 0, .slice o3 2 p3] 49)
        have hP : Hid (∀ w', Kp (wr.alloc (.cells #[.int .i64 3, .int .i64 0, .slice o2 2 p2, .int .i64 3, .int .i64 0, .slice o3 2 p3] 49)) w' → Calls Tryd.prog 18 #[.agg #[.int .i64 3, .int .i64 0, .slice o2 2 p2]] w' fun e w'' => e = .returned (.tuple #[.int .i64 (whole Ta Tc n 1).cost.1, errNo aO aM (whole Ta Tc n 1).cost.2]) ∧ Kp w' w'') := Lib.hid fun w' k => HCo.out _ _ w' ((HKZ.out.trans hkr).trans (kR.trans k)) ((HW1.out.1.1.kp hkr).kp (kR.trans k))
        have hQ : Hid (∀ w', Kp (wr.alloc (.cells #[.int .i64 3, .int .i64 0, .slice o2 2 p2, .int .i64 3, .int .i64 0, .slice o3 2 p3] 49)) w' → Calls Tryd.prog 18 #[.agg #[.int .i64 3, .int .i64 0, .slice o3 2 p3]] w' fun e w'' => e = .returned (.tuple #[.int .i64 (whole Tb Tc n 1).cost.1, errNo aO aM (whole Tb Tc n 1).cost.2]) ∧ Kp w' w'') := Lib.hid fun w' k => HCo.out _ _ w' ((HKZ.out.trans hkr).trans (kR.trans k)) ((HW1.out.1.2.kp hkr).kp (kR.trans k))
        have hno := cost_no (whole Ta Tc n 1)
        have hno' := cost_no (whole Tb Tc n 1)
        have hgr := HW1.out.2
        generalize (whole Ta Tc n 1).cost.2 = eP at hP hno hgr
        generalize (whole Tb Tc n 1).cost.2 = eQ at hQ hno' hgr
        generalize (whole Ta Tc n 1).cost.1 = cP at hP hgr
        generalize (whole Tb Tc n 1).cost.1 = cQ at hQ hgr
        obtain ⟨R, hR⟩ : ∃ R, wr.heap.size = R := ⟨_, rfl⟩
        clear hR
        have u0 := cell_of_row _ _ 0 _ _ _ hRx
        have u1 := cell_of_row _ _ 1 _ _ _ hRx
        have u2 := cell_of_row _ _ 2 _ _ _ hRx
        by_cases b1 : eP = 0
        case neg =>
          obtain ⟨p1, hp1⟩ := errNo_some (aO := aO) (aL := aM) hno b1
          obtain ⟨w2, hw2⟩ : ∃ v, errNo aO aM eQ = v := ⟨_, rfl⟩
          rw [hp1] at hP
          rw [hw2] at hQ
          clear hp1 hw2 b1 hgr
          go_wp2_with (first
            | (go_at_call 18; (with_reducible refine (hP.out _ (Kp.refl _)).mono ?_); rintro e w7 ⟨rfl, hk7⟩; have hR7 := (hk7.block _ (Array.getElem?_eq_some_iff.1 hRx).1).trans hRx; have t3 := cell_of_row w7 _ 3 _ _ _ hR7; have t4 := cell_of_row w7 _ 4 _ _ _ hR7; have t5 := cell_of_row w7 _ 5 _ _ _ hR7)
            | (go_at_call 18; (with_reducible refine (hQ.out _ hk7).mono ?_); rintro e w8 ⟨rfl, hk8⟩))
          go_roundw
          case rel => exact ⟨2, by decide, by go_num, ((hkr.trans kR).trans hk7).trans hk8⟩
          case measure => simp [intOf]
        subst b1
        rw [HE0.out] at hP
        by_cases b2 : eQ = 0
        case neg =>
          obtain ⟨p2, hp2⟩ := errNo_some (aO := aO) (aL := aM) hno' b2
          rw [hp2] at hQ
          clear hp2 b2 hgr
          go_wp2_with (first
            | (go_at_call 18; (with_reducible refine (hP.out _ (Kp.refl _)).mono ?_); rintro e w7 ⟨rfl, hk7⟩; have hR7 := (hk7.block _ (Array.getElem?_eq_some_iff.1 hRx).1).trans hRx; have t3 := cell_of_row w7 _ 3 _ _ _ hR7; have t4 := cell_of_row w7 _ 4 _ _ _ hR7; have t5 := cell_of_row w7 _ 5 _ _ _ hR7)
            | (go_at_call 18; (with_reducible refine (hQ.out _ hk7).mono ?_); rintro e w8 ⟨rfl, hk8⟩))
          go_roundw
          case rel => exact ⟨2, by decide, by go_num, ((hkr.trans kR).trans hk7).trans hk8⟩
          case measure => simp [intOf]
        subst b2
        rw [HE0.out] at hQ
        have hlt : ¬ cQ < cP := fun h => hgr ⟨rfl, rfl, h⟩
        have dlt : decide (cQ < cP) = false := by simpa using hlt
        clear hgr hlt
        go_wp2_with (first
          | (go_at_call 18; (with_reducible refine (hP.out _ (Kp.refl _)).mono ?_); rintro e w7 ⟨rfl, hk7⟩; have hR7 := (hk7.block _ (Array.getElem?_eq_some_iff.1 hRx).1).trans hRx; have t3 := cell_of_row w7 _ 3 _ _ _ hR7; have t4 := cell_of_row w7 _ 4 _ _ _ hR7; have t5 := cell_of_row w7 _ 5 _ _ _ hR7)
          | (go_at_call 18; (with_reducible refine (hQ.out _ hk7).mono ?_); rintro e w8 ⟨rfl, hk8⟩))
        go_roundw
        case rel => exact ⟨2, by decide, by go_num, ((hkr.trans kR).trans hk7).trans hk8⟩
        case measure => simp [intOf]
      · have s0 := hkr.later r12
        have s1 := hkr.later r13
        have s2 := hkr.later r14
        have s3 := hkr.later r15
        have s4 := hkr.later r16
        have s5 := hkr.later r17
        clear r0 r1 r2 r3 r4 r5 r6 r7 r8 r9 r10 r11 r12 r13 r14 r15 r16 r17
        have hRx := heap_alloc_new wr (.cells #[.int .i64 4, .int .i64 n, .slice o4 1 p4, .int .i64 4, .int .i64 n, .slice o5 1 p5] 49)
        have kR := (Kp.refl wr).alloc (.cells #[.int .i64 4, .int .i64 n, .slice o4 1 p4, .int .i64 4, .int .i64 n, .slice o5 1 p5] 49)
        have hP : Hid (∀ w', Kp (wr.alloc (.cells #[.int .i64 4, .int .i64 n, .slice o4 1 p4, .int .i64 4, .int .i64 n, .slice o5 1 p5] 49)) w' → Calls Tryd.prog 18 #[.agg #[.int .i64 4, .int .i64 n, .slice o4 1 p4]] w' fun e w'' => e = .returned (.tuple #[.int .i64 (whole Ta Tc n 2).cost.1, errNo aO aM (whole Ta Tc n 2).cost.2]) ∧ Kp w' w'') := Lib.hid fun w' k => HCo.out _ _ w' ((HKZ.out.trans hkr).trans (kR.trans k)) ((HW2.out.1.1.kp hkr).kp (kR.trans k))
        have hQ : Hid (∀ w', Kp (wr.alloc (.cells #[.int .i64 4, .int .i64 n, .slice o4 1 p4, .int .i64 4, .int .i64 n, .slice o5 1 p5] 49)) w' → Calls Tryd.prog 18 #[.agg #[.int .i64 4, .int .i64 n, .slice o5 1 p5]] w' fun e w'' => e = .returned (.tuple #[.int .i64 (whole Tb Tc n 2).cost.1, errNo aO aM (whole Tb Tc n 2).cost.2]) ∧ Kp w' w'') := Lib.hid fun w' k => HCo.out _ _ w' ((HKZ.out.trans hkr).trans (kR.trans k)) ((HW2.out.1.2.kp hkr).kp (kR.trans k))
        have hno := cost_no (whole Ta Tc n 2)
        have hno' := cost_no (whole Tb Tc n 2)
        have hgr := HW2.out.2
        generalize (whole Ta Tc n 2).cost.2 = eP at hP hno hgr
        generalize (whole Tb Tc n 2).cost.2 = eQ at hQ hno' hgr
        generalize (whole Ta Tc n 2).cost.1 = cP at hP hgr
        generalize (whole Tb Tc n 2).cost.1 = cQ at hQ hgr
        obtain ⟨R, hR⟩ : ∃ R, wr.heap.size = R := ⟨_, rfl⟩
        clear hR
        have u0 := cell_of_row _ _ 0 _ _ _ hRx
        have u1 := cell_of_row _ _ 1 _ _ _ hRx
        have u2 := cell_of_row _ _ 2 _ _ _ hRx
        by_cases b1 : eP = 0
        case neg =>
          obtain ⟨p1, hp1⟩ := errNo_some (aO := aO) (aL := aM) hno b1
          obtain ⟨w2, hw2⟩ : ∃ v, errNo aO aM eQ = v := ⟨_, rfl⟩
          rw [hp1] at hP
          rw [hw2] at hQ
          clear hp1 hw2 b1 hgr
          go_wp2_with (first
            | (go_at_call 18; (with_reducible refine (hP.out _ (Kp.refl _)).mono ?_); rintro e w7 ⟨rfl, hk7⟩; have hR7 := (hk7.block _ (Array.getElem?_eq_some_iff.1 hRx).1).trans hRx; have t3 := cell_of_row w7 _ 3 _ _ _ hR7; have t4 := cell_of_row w7 _ 4 _ _ _ hR7; have t5 := cell_of_row w7 _ 5 _ _ _ hR7)
            | (go_at_call 18; (with_reducible refine (hQ.out _ hk7).mono ?_); rintro e w8 ⟨rfl, hk8⟩))
          go_roundw
          case rel => exact ⟨3, by decide, by go_num, ((hkr.trans kR).trans hk7).trans hk8⟩
          case measure => simp [intOf]
        subst b1
        rw [HE0.out] at hP
        by_cases b2 : eQ = 0
        case neg =>
          obtain ⟨p2, hp2⟩ := errNo_some (aO := aO) (aL := aM) hno' b2
          rw [hp2] at hQ
          clear hp2 b2 hgr
          go_wp2_with (first
            | (go_at_call 18; (with_reducible refine (hP.out _ (Kp.refl _)).mono ?_); rintro e w7 ⟨rfl, hk7⟩; have hR7 := (hk7.block _ (Array.getElem?_eq_some_iff.1 hRx).1).trans hRx; have t3 := cell_of_row w7 _ 3 _ _ _ hR7; have t4 := cell_of_row w7 _ 4 _ _ _ hR7; have t5 := cell_of_row w7 _ 5 _ _ _ hR7)
            | (go_at_call 18; (with_reducible refine (hQ.out _ hk7).mono ?_); rintro e w8 ⟨rfl, hk8⟩))
          go_roundw
          case rel => exact ⟨3, by decide, by go_num, ((hkr.trans kR).trans hk7).trans hk8⟩
          case measure => simp [intOf]
        subst b2
        rw [HE0.out] at hQ
        have hlt : ¬ cQ < cP := fun h => hgr ⟨rfl, rfl, h⟩
        have dlt : decide (cQ < cP) = false := by simpa using hlt
        clear hgr hlt
        go_wp2_with (first
          | (go_at_call 18; (with_reducible refine (hP.out _ (Kp.refl _)).mono ?_); rintro e w7 ⟨rfl, hk7⟩; have hR7 := (hk7.block _ (Array.getElem?_eq_some_iff.1 hRx).1).trans hRx; have t3 := cell_of_row w7 _ 3 _ _ _ hR7; have t4 := cell_of_row w7 _ 4 _ _ _ hR7; have t5 := cell_of_row w7 _ 5 _ _ _ hR7)
          | (go_at_call 18; (with_reducible refine (hQ.out _ hk7).mono ?_); rintro e w8 ⟨rfl, hk8⟩))
        go_roundw
        case rel => exact ⟨3, by decide, by go_num, ((hkr.trans kR).trans hk7).trans hk8⟩
        case measure => simp [intOf]
end Go.Proofs.YtgjlldapnodfbaaDoor
