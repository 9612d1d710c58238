/-
  The reference's both, Usual; Same; samePolicy.
-/
import Derived.Test.YtgjlldapnodfbaaDoorORefC
namespace Go.Proofs.YtgjlldapnodfbaaDoor
open Go Go.RowKit Go.Fl Go.Ord Go.Pr

theorem both_ox {Q : Nat → Prop} {w : World} {S T : Tr} {k1 n1 k2 n2 : Int} {m1 m2 c1 c2 cp B : Nat} {o1 o2 : Option Addr} {t : TypeId} (hQ : Q B)
    (hB : w.heap[B]? = some (.cells #[.int .i64 k1, .int .i64 n1, .slice o1 m1 c1, .int .i64 k2, .int .i64 n2, .slice o2 m2 c2] t (0, 0)))
    (hS : OX Q w S (.agg #[.int .i64 k1, .int .i64 n1, .slice o1 m1 c1])) (hT : OX Q w T (.agg #[.int .i64 k2, .int .i64 n2, .slice o2 m2 c2])) :
    OX Q w (S.times T) (.agg #[.int .i64 3, .int .i64 0, .slice (some ⟨B, 0, none⟩) 2 cp]) := by
  refine ⟨_, _, rfl, ⟨by decide, by decide, by decide⟩, fun _ => ⟨_, _, rfl, ⟨(Array.getElem?_eq_some_iff.1 hB).1, hQ⟩, fun i hi => ?_⟩⟩
  obtain rfl | rfl : i = 0 ∨ i = 1 := by omega
  · exact ⟨_, _, _, cell_of_row w B 0 _ _ _ hB, cell_of_row w B 1 _ _ _ hB, cell_of_row w B 2 _ _ _ hB, hS⟩
  · exact ⟨_, _, _, cell_of_row w B 3 _ _ _ hB, cell_of_row w B 4 _ _ _ hB, cell_of_row w B 5 _ _ _ hB, hT⟩
theorem blue_ox {Q : Nat → Prop} {w : World} {T : Tr} {n k2 n2 : Int} {m2 c2 cp B : Nat} {o2 : Option Addr} {t : TypeId} (hQ : Q B) (hn : 0 ≤ n) (hn2 : n ≤ 16384)
    (hB : w.heap[B]? = some (.cells #[.int .i64 k2, .int .i64 n2, .slice o2 m2 c2] t (0, 0)))
    (hT : OX Q w T (.agg #[.int .i64 k2, .int .i64 n2, .slice o2 m2 c2])) :
    OX Q w (T.blue n) (.agg #[.int .i64 4, .int .i64 n, .slice (some ⟨B, 0, none⟩) 1 cp]) := by
  refine ⟨_, _, rfl, ⟨by decide, by omega, by omega⟩, fun _ => ⟨_, _, rfl, ⟨(Array.getElem?_eq_some_iff.1 hB).1, hQ⟩, fun i hi => ?_⟩⟩
  obtain rfl : i = 0 := by omega
  exact ⟨_, _, _, cell_of_row w B 0 _ _ _ hB, cell_of_row w B 1 _ _ _ hB, cell_of_row w B 2 _ _ _ hB, hT⟩
set_option maxRecDepth 100000 in
set_option maxHeartbeats 1000000 in
theorem rboth_any (Q : Nat → Prop) (S T : Tr) (u v : Value) (w : World) (hQ : ∀ g, w.heap.size ≤ g → Q g) (hS : OX Q w S u) (hT : OX Q w T v) :
    Calls Tryd.prog 54 #[u, v] w fun e w' => ∃ o c, e = .returned (.agg #[.int .i64 3, .int .i64 0, .slice o 2 c]) ∧ OX Q w' (S.times T) (.agg #[.int .i64 3, .int .i64 0, .slice o 2 c]) ∧ Kp w w' := by
  obtain ⟨k1, n1, m1, o1, c1, rfl⟩ := hS.oin.form
  obtain ⟨k2, n2, m2, o2, c2, rfl⟩ := hT.oin.form
  have HS := Lib.hid hS
  have HT := Lib.hid hT
  clear hS hT
  go_enter Tryd.func54, Tryd.ntmps54
  go_wp2_with fail
  have kw2 := ((Kp.refl w).alloc (.cells #[.int .i64 k1, .int .i64 n1, .slice o1 m1 c1] 28)).alloc (.cells #[.int .i64 k2, .int .i64 n2, .slice o2 m2 c2] 28)
  have hsz : ((w.alloc (.cells #[.int .i64 k1, .int .i64 n1, .slice o1 m1 c1] 28)).alloc (.cells #[.int .i64 k2, .int .i64 n2, .slice o2 m2 c2] 28)).heap.size = w.heap.size + 1 + 1 := by simp
  generalize (w.alloc (.cells #[.int .i64 k1, .int .i64 n1, .slice o1 m1 c1] 28)).alloc (.cells #[.int .i64 k2, .int .i64 n2, .slice o2 m2 c2] 28) = W2 at *
  have e1 := heap_alloc2_old W2 (.cells #[.int .i64 3, .int .i64 0, .slice (some ⟨w.heap.size + 1 + 1 + 1, 0, none⟩) 2 2] 28) (.cells #[.int .i64 k1, .int .i64 n1, .slice o1 m1 c1, .int .i64 k2, .int .i64 n2, .slice o2 m2 c2] 28)
  have e2 := heap_alloc2_new W2 (.cells #[.int .i64 3, .int .i64 0, .slice (some ⟨w.heap.size + 1 + 1 + 1, 0, none⟩) 2 2] 28) (.cells #[.int .i64 k1, .int .i64 n1, .slice o1 m1 c1, .int .i64 k2, .int .i64 n2, .slice o2 m2 c2] 28)
  rw [hsz] at e1 e2
  have k4 := (kw2.alloc (.cells #[.int .i64 3, .int .i64 0, .slice (some ⟨w.heap.size + 1 + 1 + 1, 0, none⟩) 2 2] 28)).alloc (.cells #[.int .i64 k1, .int .i64 n1, .slice o1 m1 c1, .int .i64 k2, .int .i64 n2, .slice o2 m2 c2] 28)
  exact bodyPost_ret (ret_order rfl _ _ _ _ _ _ _ _ rfl e1) rfl ⟨_, _, rfl, both_ox (hQ _ (by omega)) e2 (HS.out.kp k4) (HT.out.kp k4), k4⟩
set_option maxRecDepth 100000 in
set_option maxHeartbeats 1000000 in
theorem rUsual_any (w : World) : Calls Tryd.prog 17 #[] w fun e w' => ∃ g c, e = .returned (.agg #[.int .i64 16, .slice (some ⟨g, 0, none⟩) 4 c, .int .i64 13]) ∧ w.heap.size ≤ g ∧ FlIn w' (.slice (some ⟨g, 0, none⟩) 4 c) usual.fl ∧ Kp w w' := by
  go_enter Tryd.func17, Tryd.ntmps17
  go_wp2_with fail
  have e1 := heap_alloc2_old w (.cells #[.int .i64 16, .slice (some ⟨w.heap.size + 1, 0, none⟩) 4 4, .int .i64 13] 24) (.cells #[.int .i64 2, .int .i64 3, .int .i64 4, .int .i64 5] 3)
  have e2 := heap_alloc2_new w (.cells #[.int .i64 16, .slice (some ⟨w.heap.size + 1, 0, none⟩) 4 4, .int .i64 13] 24) (.cells #[.int .i64 2, .int .i64 3, .int .i64 4, .int .i64 5] 3)
  refine bodyPost_ret (ret_policy rfl _ _ w.heap.size _ _ _ _ _ rfl e1) rfl ⟨w.heap.size + 1, 4, rfl, by omega, ⟨_, _, rfl, fun _ => ⟨w.heap.size + 1, 0, rfl, by simp, fun i hi => ?_⟩⟩, ((Kp.refl w).alloc _).alloc _⟩
  have hi4 : i < 4 := hi
  obtain rfl | rfl | rfl | rfl : i = 0 ∨ i = 1 ∨ i = 2 ∨ i = 3 := by omega
  · exact cell_of_row _ _ 0 _ _ _ e2
  · exact cell_of_row _ _ 1 _ _ _ e2
  · exact cell_of_row _ _ 2 _ _ _ e2
  · exact cell_of_row _ _ 3 _ _ _ e2
set_option maxRecDepth 100000 in
set_option maxHeartbeats 2000000 in
/-- The same tree, wherever it lies. -/
theorem rSame_any (T : Tr) : ∀ (u v : Value) (w : World), OIn w T u → OIn w T v → Calls Tryd.prog 12 #[u, v] w fun e w' => e = .returned (.bool true) ∧ Kp w w' := by
  induction T with
  | nil => intros; exact (OIn.nil (by assumption)).elim
  | mk k n m kid ih =>
    intro u v w hU hV
    have hU0 := hU
    have hV0 := hV
    obtain ⟨o1, c1, rfl, ⟨hm, _, _⟩, _⟩ := hU0
    obtain ⟨o2, c2, rfl, _, _⟩ := hV0
    have HU := Lib.hid hU
    have HV := Lib.hid hV
    have HI := Lib.hid ih
    clear hU hV ih
    have hA := heap_alloc2_old w (.cells #[.int .i64 k, .int .i64 n, .slice o1 m c1] 28) (.cells #[.int .i64 k, .int .i64 n, .slice o2 m c2] 28)
    have hB := heap_alloc2_new w (.cells #[.int .i64 k, .int .i64 n, .slice o1 m c1] 28) (.cells #[.int .i64 k, .int .i64 n, .slice o2 m c2] 28)
    have hk0 := ((Kp.refl w).alloc (.cells #[.int .i64 k, .int .i64 n, .slice o1 m c1] 28)).alloc (.cells #[.int .i64 k, .int .i64 n, .slice o2 m c2] 28)
    go_enter Tryd.func12, Tryd.ntmps12
    go_upto_region 1 with fail
    generalize (w.alloc (.cells #[.int .i64 k, .int .i64 n, .slice o1 m c1] 28)).alloc (.cells #[.int .i64 k, .int .i64 n, .slice o2 m c2] 28) = W at *
    obtain ⟨⟨a0, a1, a2⟩, _⟩ := row3_facts hA
    obtain ⟨⟨b0, b1, b2⟩, _⟩ := row3_facts hB
    have HB : Hid (∀ w', Kp W w' → w'.cell? ⟨w.heap.size, 2, none⟩ = some (.slice o1 m c1) ∧ w'.cell? ⟨w.heap.size + 1, 2, none⟩ = some (.slice o2 m c2)) := Lib.hid fun w' h => ⟨h.later a2, h.later b2⟩
    clear hA hB
    go_wp2_with fail
    go_loopw [5, 6, 31] (fun _ _ y wr => ∃ i : Nat, i ≤ m ∧ y = .int .i64 i ∧ Kp W wr) (fun _ _ y _ => m - (intOf y).toNat)
    case atStart => exact ⟨0, by omega, rfl, Kp.refl _⟩
    case round =>
      obtain ⟨i, hi, rfl, hkr⟩ := hrel
      by_cases hlt : i < m
      · obtain ⟨g1, off1, rfl, hg1, hc1⟩ := HU.out.kid rfl (by omega)
        obtain ⟨g2, off2, rfl, hg2, hc2⟩ := HV.out.kid rfl (by omega)
        obtain ⟨ka, na, ma, oa, ca, q1, q2, q3, hx⟩ := hc1 i hlt
        obtain ⟨kb, nb, mb, ob, cb, r1, r2, r3, hy⟩ := hc2 i hlt
        have kw := hk0.trans hkr
        have HK : Hid (∀ w', Kp wr w' → w'.cell? ⟨g1, off1 + i * 3, none⟩ = some (.int .i64 ka) ∧ w'.cell? ⟨g1, off1 + i * 3 + 1, none⟩ = some (.int .i64 na) ∧ w'.cell? ⟨g1, off1 + i * 3 + 2, none⟩ = some (.slice oa ma ca) ∧ w'.cell? ⟨g2, off2 + i * 3, none⟩ = some (.int .i64 kb) ∧ w'.cell? ⟨g2, off2 + i * 3 + 1, none⟩ = some (.int .i64 nb) ∧ w'.cell? ⟨g2, off2 + i * 3 + 2, none⟩ = some (.slice ob mb cb)) := Lib.hid fun w' h => ⟨(kw.trans h).later q1, (kw.trans h).later q2, (kw.trans h).later q3, (kw.trans h).later r1, (kw.trans h).later r2, (kw.trans h).later r3⟩
        have hc : Hid (∀ w', Kp wr w' → Calls Tryd.prog 12 #[.agg #[.int .i64 ka, .int .i64 na, .slice oa ma ca], .agg #[.int .i64 kb, .int .i64 nb, .slice ob mb cb]] w' fun e w'' => e = .returned (.bool true) ∧ Kp w' w'') := Lib.hid fun w' hk => HI.out i _ _ w' (hx.kp (kw.trans hk)) (hy.kp (kw.trans hk))
        have k1 : Kp wr (wr.drewN 1) := (Kp.refl wr).drewN 1
        have kd : Kp wr wr.drew := (Kp.refl wr).drew
        clear hc1 hc2 q1 q2 q3 r1 r2 r3 hx hy
        obtain ⟨z1, z2⟩ := HB.out _ hkr
        obtain ⟨z3, z4, z5, z6, z7, z8⟩ := HK.out _ (Kp.refl _)
        go_wp2_with fail
        go_region_held3 (fun w' => w'.cell? ⟨w.heap.size, 2, none⟩ = some (.slice (some ⟨g1, off1, none⟩) m c1) ∧ w'.cell? ⟨w.heap.size + 1, 2, none⟩ = some (.slice (some ⟨g2, off2, none⟩) m c2) ∧ w'.cell? ⟨g1, off1 + i * 3, none⟩ = some (.int .i64 ka) ∧ w'.cell? ⟨g1, off1 + i * 3 + 1, none⟩ = some (.int .i64 na) ∧ w'.cell? ⟨g1, off1 + i * 3 + 2, none⟩ = some (.slice oa ma ca) ∧ w'.cell? ⟨g2, off2 + i * 3, none⟩ = some (.int .i64 kb) ∧ w'.cell? ⟨g2, off2 + i * 3 + 1, none⟩ = some (.int .i64 nb) ∧ w'.cell? ⟨g2, off2 + i * 3 + 2, none⟩ = some (.slice ob mb cb))
          (first | go_keep | exact ⟨(HB.out _ ((hkr.trans kd).trans hk4)).1, (HB.out _ ((hkr.trans kd).trans hk4)).2, HK.out _ (kd.trans hk4)⟩)
          (first | (go_at_call 12; (with_reducible refine (hc.out _ kd).mono ?_); rintro e w4 ⟨rfl, hk4⟩))
        go_wp2_with fail
        go_roundw
        case rel => exact ⟨i + 1, by omega, by go_num, (hkr.trans kd).trans hk4⟩
        case measure => simp [intOf]; omega
      · obtain rfl : m = i := by omega
        go_wp2_with fail
        go_ret
        exact ⟨rfl, hk0.trans hkr⟩
set_option maxRecDepth 100000 in
set_option maxHeartbeats 2000000 in
theorem rsamePolicy_any (p : Pol) (va vb : Value) (w : World) (hl : p.fl.length ≤ 17592186044416) (ha : FlIn w va p.fl) (hb : FlIn w vb p.fl) :
    Calls Tryd.prog 13 #[.agg #[.int .i64 p.D, va, .int .i64 p.P], .agg #[.int .i64 p.D, vb, .int .i64 p.P]] w fun e w' => e = .returned (.bool true) ∧ Kp w w' := by
  obtain ⟨o1, c1, rfl, ha⟩ := ha
  obtain ⟨o2, c2, rfl, hb⟩ := hb
  have HA := Lib.hid ha
  have HB := Lib.hid hb
  clear ha hb
  obtain ⟨D, hD⟩ : ∃ D, p.D = D := ⟨_, rfl⟩
  obtain ⟨P, hP⟩ : ∃ P, p.P = P := ⟨_, rfl⟩
  rw [hD, hP]
  clear hD hP
  generalize p.fl = l at *
  obtain ⟨m, hm⟩ : ∃ m, l.length = m := ⟨_, rfl⟩
  rw [hm] at HA HB hl ⊢
  have hk0 := ((Kp.refl w).alloc (.cells #[.int .i64 D, .slice o1 m c1, .int .i64 P] 24)).alloc (.cells #[.int .i64 D, .slice o2 m c2, .int .i64 P] 24)
  have hA := heap_alloc2_old w (.cells #[.int .i64 D, .slice o1 m c1, .int .i64 P] 24) (.cells #[.int .i64 D, .slice o2 m c2, .int .i64 P] 24)
  have hB := heap_alloc2_new w (.cells #[.int .i64 D, .slice o1 m c1, .int .i64 P] 24) (.cells #[.int .i64 D, .slice o2 m c2, .int .i64 P] 24)
  clear hm
  go_enter Tryd.func13, Tryd.ntmps13
  go_upto_region 1 with fail
  generalize (w.alloc (.cells #[.int .i64 D, .slice o1 m c1, .int .i64 P] 24)).alloc (.cells #[.int .i64 D, .slice o2 m c2, .int .i64 P] 24) = W at *
  obtain ⟨⟨a0, a1, a2⟩, _⟩ := row3_facts hA
  obtain ⟨⟨b0, b1, b2⟩, _⟩ := row3_facts hB
  have HS : Hid (∀ w', Kp W w' → w'.cell? ⟨w.heap.size, 1, none⟩ = some (.slice o1 m c1) ∧ w'.cell? ⟨w.heap.size + 1, 1, none⟩ = some (.slice o2 m c2)) := Lib.hid fun w' h => ⟨h.later a1, h.later b1⟩
  clear hA hB
  go_wp2_with fail
  go_loopw [5, 30] (fun _ y wr => ∃ i : Nat, i ≤ m ∧ y = .int .i64 i ∧ Kp W wr) (fun _ y _ => m - (intOf y).toNat)
  case atStart => exact ⟨0, by omega, rfl, Kp.refl _⟩
  case round =>
    obtain ⟨i, hi, rfl, hkr⟩ := hrel
    by_cases hlt : i < m
    · obtain ⟨g1, off1, rfl, hg1, hc1⟩ := HA.out (by omega)
      obtain ⟨g2, off2, rfl, hg2, hc2⟩ := HB.out (by omega)
      have q1 := (hk0.trans hkr).later (hc1 i hlt)
      have q2 := (hk0.trans hkr).later (hc2 i hlt)
      obtain ⟨x, hx⟩ : ∃ x, l.getD i 0 = x := ⟨_, rfl⟩
      rw [hx] at q1 q2
      clear hc1 hc2 hx
      obtain ⟨z1, z2⟩ := HS.out _ hkr
      go_wp2_with fail
      go_quiet (fail)
      go_wp2_with fail
      go_roundw
      case rel => exact ⟨i + 1, by omega, by go_num, hkr.drewN _⟩
      case measure => simp [intOf]; omega
    · obtain rfl : m = i := by omega
      obtain ⟨z1, z2⟩ := HS.out _ hkr
      go_wp2_with fail
      go_ret
      exact ⟨rfl, hk0.trans hkr⟩
end Go.Proofs.YtgjlldapnodfbaaDoor
