/-
  The reference's small functions of the planner: flies, direct, fly, leaves, blue, Check, Usual, both.
-/
import Derived.Test.YtgjlldapnodfbaaDoorOFixed
import Derived.Test.YtgjlldapnodfbaaDoorPFac2
namespace Go.Proofs.YtgjlldapnodfbaaDoor
open Go Go.RowKit Go.Fl Go.Ord Go.Pr

set_option maxRecDepth 100000 in
set_option maxHeartbeats 1000000 in
theorem rflies_any (p : Pol) (vf : Value) (r : Int) (w : World) (hl : p.fl.length ≤ 1000000) (hv : FlIn w vf p.fl) : Calls Tryd.prog 76 #[.agg #[.int .i64 p.D, vf, .int .i64 p.P], .int .i64 r] w fun e w' => e = .returned (.bool (p.flies r)) ∧ Kp w w' := by
  obtain ⟨o, c, rfl, hcell⟩ := hv
  have HCl := Lib.hid hcell
  have HB : Hid (p.flies r = decide (r ∈ p.fl)) := Lib.hid rfl
  obtain ⟨b, hb⟩ : ∃ b, p.flies r = b := ⟨_, rfl⟩
  rw [hb] at HB ⊢
  clear hb hcell
  obtain ⟨D, hD⟩ : ∃ D, p.D = D := ⟨_, rfl⟩
  obtain ⟨P, hP⟩ : ∃ P, p.P = P := ⟨_, rfl⟩
  rw [hD, hP]
  clear hD hP
  generalize p.fl = l at *
  obtain ⟨n, hn⟩ : ∃ n, l.length = n := ⟨_, rfl⟩
  have HN := Lib.hid hn
  rw [hn] at hl ⊢
  clear hn
  go_enter Tryd.func76, Tryd.ntmps76
  go_wp2_with fail
  have k1 := (Kp.refl w).alloc (.cells #[.int .i64 D, .slice o n c, .int .i64 P] 24)
  obtain ⟨⟨p0, p1, p2⟩, _⟩ := row3_facts (heap_alloc_new w (.cells #[.int .i64 D, .slice o n c, .int .i64 P] 24))
  generalize w.alloc (.cells #[.int .i64 D, .slice o n c, .int .i64 P] 24) = w1 at *
  go_loopw [5] (fun y wr => ∃ i : Nat, i ≤ n ∧ y = .int .i64 i ∧ Hid (∀ j, j < i → l.getD j 0 ≠ r) ∧ wr = w1) (fun y _ => n - (intOf y).toNat)
  case atStart => exact ⟨0, by omega, rfl, Lib.hid fun j hj => by omega, rfl⟩
  case round =>
    obtain ⟨i, hi, rfl, HJ, rfl⟩ := hrel
    by_cases hlt : i < n
    · have hn := HN.out
      obtain ⟨g, off, rfl, hg, hcell⟩ := HCl.out (by omega)
      have q := k1.later (hcell i (by omega))
      obtain ⟨x, hx⟩ : ∃ x, l.getD i 0 = x := ⟨_, rfl⟩
      rw [hx] at q
      have HX := Lib.hid hx
      clear hx hcell hn
      by_cases hr : x = r
      · have d : (x == r) = true := by simpa using hr
        have hres : Hid (b = true) := Lib.hid (by rw [HB.out]; exact decide_eq_true (by rw [← hr, ← HX.out]; exact mem_getD (by rw [HN.out]; exact hlt)))
        clear hr
        go_wp2_with fail
        go_ret
        exact ⟨by rw [hres.out]; rfl, k1⟩
      · have d : (x == r) = false := by simpa using hr
        have hJ : Hid (∀ j, j < i + 1 → l.getD j 0 ≠ r) := Lib.hid fun j hj => by
          by_cases e : j = i
          · subst e; rw [HX.out]; exact hr
          · exact HJ.out j (by omega)
        clear hr HJ
        go_wp2_with fail
        go_roundw
        case rel => exact ⟨i + 1, by omega, by go_num, hJ, by first | rfl | trivial⟩
        case measure => simp [intOf]; omega
    · obtain rfl : n = i := by omega
      have hres : Hid (b = false) := Lib.hid (by
        rw [HB.out]
        refine decide_eq_false fun h => ?_
        obtain ⟨j, hj, e⟩ := getD_of_mem h
        exact absurd e (HJ.out j (by have := HN.out; omega)))
      go_wp2_with fail
      go_ret
      exact ⟨by rw [hres.out]; rfl, k1⟩
set_option maxRecDepth 100000 in
theorem rdirect_any (n : Int) (w : World) : Calls Tryd.prog 75 #[.int .i64 n] w fun e w' => e = .returned (.agg #[.int .i64 1, .int .i64 n, .slice none 0 0]) ∧ Kp w w' := by
  go_enter Tryd.func75, Tryd.ntmps75
  go_wp2_with fail
  refine bodyPost_ret (ret_order rfl _ _ w.heap.size _ _ _ _ _ rfl (heap_alloc_new _ _)) rfl ⟨rfl, (Kp.refl w).alloc _⟩
set_option maxRecDepth 100000 in
theorem rfly_any (n : Int) (w : World) : Calls Tryd.prog 77 #[.int .i64 n] w fun e w' => e = .returned (.agg #[.int .i64 2, .int .i64 n, .slice none 0 0]) ∧ Kp w w' := by
  go_enter Tryd.func77, Tryd.ntmps77
  go_wp2_with fail
  refine bodyPost_ret (ret_order rfl _ _ w.heap.size _ _ _ _ _ rfl (heap_alloc_new _ _)) rfl ⟨rfl, (Kp.refl w).alloc _⟩
set_option maxRecDepth 100000 in
set_option maxHeartbeats 4000000 in
theorem rleaves_any (p : Pol) (vf : Value) (a : Int) (w : World) (hl : p.fl.length ≤ 1000000) (hv : FlIn w vf p.fl) :
    Calls Tryd.prog 52 #[.int .i64 a, .agg #[.int .i64 p.D, vf, .int .i64 p.P]] w fun e w' => ∃ v, e = .returned v ∧ HL w' w.heap.size v a (p.heads a) ∧ Kp w w' := by
  obtain ⟨i0, hi, hz⟩ := Option.map_eq_some_iff.1 info_order
  have hz0 : i0.zero = some (.agg #[.int .i64 0, .int .i64 0, .slice none 0 0]) := by injection hz
  have hz1 : i0.size = 3 := by injection hz with _ h; injection h
  have hz2 : i0.bytes = 40 := by injection hz with _ h; injection h
  clear hz
  have hF : Hid (∀ w', Kp w w' → Calls Tryd.prog 76 #[.agg #[.int .i64 p.D, vf, .int .i64 p.P], .int .i64 a] w' fun e w'' => e = .returned (.bool (p.flies a)) ∧ Kp w' w'') := Lib.hid fun w' hk => rflies_any p vf a w' hl (hv.kp hk)
  have hDi := Lib.hid fun w => rdirect_any a w
  have hFl := Lib.hid fun w => rfly_any a w
  have HH : Hid (p.heads a = (if a ≤ p.D then [1] else []) ++ (if p.flies a then [2] else [])) := Lib.hid rfl
  obtain ⟨o, c, rfl, _⟩ := hv
  obtain ⟨m, hm⟩ : ∃ m, p.fl.length = m := ⟨_, rfl⟩
  obtain ⟨D, hD⟩ : ∃ D, p.D = D := ⟨_, rfl⟩
  obtain ⟨P, hP⟩ : ∃ P, p.P = P := ⟨_, rfl⟩
  obtain ⟨b, hb⟩ : ∃ b, p.flies a = b := ⟨_, rfl⟩
  obtain ⟨hs, hhs⟩ : ∃ hs, p.heads a = hs := ⟨_, rfl⟩
  rw [hD, hb, hhs] at HH
  rw [hb, hD, hP, hm] at hF
  rw [hhs, hD, hP, hm]
  clear hD hP hb hhs hm hl
  have hA := heap_alloc_new w (.cells #[.int .i64 D, .slice o m c, .int .i64 P] 24)
  have hk0 := (Kp.refl w).alloc (.cells #[.int .i64 D, .slice o m c, .int .i64 P] 24)
  have HA : Hid (∀ w', Kp (w.alloc (.cells #[.int .i64 D, .slice o m c, .int .i64 P] 24)) w' → w'.cell? ⟨w.heap.size, 0, none⟩ = some (.int .i64 D) ∧ w'.cell? ⟨w.heap.size, 1, none⟩ = some (.slice o m c) ∧ w'.cell? ⟨w.heap.size, 2, none⟩ = some (.int .i64 P)) := Lib.hid fun w' k => (row3_facts ((k.block _ (Array.getElem?_eq_some_iff.1 hA).1).trans hA)).1
  have HK0 := Lib.hid hk0
  clear hA
  by_cases hD : a ≤ D
  · have d : decide (a ≤ D) = true := by simpa using hD
    rw [if_pos hD] at HH
    cases b
    · go_enter Tryd.func52, Tryd.ntmps52
      go_wp2_with (first
        | (go_at_call 75; (with_reducible refine (hDi.out _).mono ?_); rintro e w1 ⟨rfl, hk1⟩)
        | (go_at_call 76; (with_reducible refine (hF.out _ hk2).mono ?_); rintro e w3 ⟨rfl, hk3⟩)
        | (at_builtin; refine wpList_append_own _ rfl (.tmp 10) (.tmp 13) 26 rfl w.heap.size 28 i0 (.agg #[.int .i64 0, .int .i64 0, .slice none 0 0]) 3 40 Tryd.underlying26 hi hz0 hz1 hz2 rfl (by decide) _ _ _ rfl (World.ownsRow_nil _ _ _ _) ⟨w1.heap.size, 0, none⟩ 1 1 [.int .i64 1, .int .i64 a, .slice none 0 0] rfl rfl (World.news_of_block (heap_alloc_new w1 _)) (by intro u hu; simp at hu; rcases hu with rfl | rfl | rfl <;> rfl) (by decide) (by decide) (by have := (hk0.trans hk1).size; simp; omega) ?_; intro v2 w2 hown2 hg2 _; have hk2 : Kp w w2 := ((hk0.trans hk1).alloc _).grown hg2 (fun k e => by cases e); have hm2 : Kp (w.alloc (.cells #[.int .i64 D, .slice o m c, .int .i64 P] 24)) w2 := (hk1.alloc _).grown hg2 (fun k e => by cases e); obtain ⟨p0, p1, p2⟩ := HA.out _ hm2))
      go_ret
      refine ⟨_, rfl, ?_, hk2.trans hk3⟩
      rw [HH.out]
      exact hk3.owns hown2
    · go_enter Tryd.func52, Tryd.ntmps52
      go_wp2_with (first
        | (go_at_call 75; (with_reducible refine (hDi.out _).mono ?_); rintro e w1 ⟨rfl, hk1⟩)
        | (go_at_call 76; (with_reducible refine (hF.out _ hk2).mono ?_); rintro e w3 ⟨rfl, hk3⟩)
        | (go_at_call 77; (with_reducible refine (hFl.out _).mono ?_); rintro e w4 ⟨rfl, hk4⟩)
        | (at_builtin; refine wpList_append_own _ rfl (.tmp 10) (.tmp 13) 26 rfl w.heap.size 28 i0 (.agg #[.int .i64 0, .int .i64 0, .slice none 0 0]) 3 40 Tryd.underlying26 hi hz0 hz1 hz2 rfl (by decide) _ _ _ rfl (World.ownsRow_nil _ _ _ _) ⟨w1.heap.size, 0, none⟩ 1 1 [.int .i64 1, .int .i64 a, .slice none 0 0] rfl rfl (World.news_of_block (heap_alloc_new w1 _)) (by intro u hu; simp at hu; rcases hu with rfl | rfl | rfl <;> rfl) (by decide) (by decide) (by have := (hk0.trans hk1).size; simp; omega) ?_; intro v2 w2 hown2 hg2 _; have hk2 : Kp w w2 := ((hk0.trans hk1).alloc _).grown hg2 (fun k e => by cases e); have hm2 : Kp (w.alloc (.cells #[.int .i64 D, .slice o m c, .int .i64 P] 24)) w2 := (hk1.alloc _).grown hg2 (fun k e => by cases e); obtain ⟨p0, p1, p2⟩ := HA.out _ hm2)
        | (at_builtin; refine wpList_append_own _ rfl (.tmp 18) (.tmp 21) 26 rfl w.heap.size 28 i0 (.agg #[.int .i64 0, .int .i64 0, .slice none 0 0]) 3 40 Tryd.underlying26 hi hz0 hz1 hz2 rfl (by decide) _ _ _ rfl (((hk3.trans hk4).alloc _).owns hown2) ⟨w4.heap.size, 0, none⟩ 1 1 [.int .i64 2, .int .i64 a, .slice none 0 0] rfl rfl (World.news_of_block (heap_alloc_new w4 _)) (by intro u hu; simp at hu; rcases hu with rfl | rfl | rfl <;> rfl) (by decide) (by decide) (by have := hk2.size; have := (hk3.trans hk4).size; simp; omega) ?_; intro v5 w5 hown5 hg5 _; have hk5 : Kp w w5 := (((hk2.trans hk3).trans hk4).alloc _).grown hg5 (fun k e => (hown2.lt k e).1)))
      go_ret
      refine ⟨_, rfl, ?_, hk5⟩
      rw [HH.out]
      exact hown5
  · have d : decide (a ≤ D) = false := by simpa using hD
    rw [if_neg hD] at HH
    obtain ⟨p0, p1, p2⟩ := HA.out _ (Kp.refl _)
    cases b
    · go_enter Tryd.func52, Tryd.ntmps52
      go_wp2_with (go_at_call 76; (with_reducible refine (hF.out _ hk0).mono ?_); rintro e w3 ⟨rfl, hk3⟩)
      go_ret
      refine ⟨_, rfl, ?_, hk0.trans hk3⟩
      rw [HH.out]
      exact HL.nil _ _ _
    · go_enter Tryd.func52, Tryd.ntmps52
      go_wp2_with (first
        | (go_at_call 76; (with_reducible refine (hF.out _ hk0).mono ?_); rintro e w3 ⟨rfl, hk3⟩)
        | (go_at_call 77; (with_reducible refine (hFl.out _).mono ?_); rintro e w4 ⟨rfl, hk4⟩)
        | (at_builtin; refine wpList_append_own _ rfl (.tmp 18) (.tmp 21) 26 rfl w.heap.size 28 i0 (.agg #[.int .i64 0, .int .i64 0, .slice none 0 0]) 3 40 Tryd.underlying26 hi hz0 hz1 hz2 rfl (by decide) _ _ _ rfl (World.ownsRow_nil _ _ _ _) ⟨w4.heap.size, 0, none⟩ 1 1 [.int .i64 2, .int .i64 a, .slice none 0 0] rfl rfl (World.news_of_block (heap_alloc_new w4 _)) (by intro u hu; simp at hu; rcases hu with rfl | rfl | rfl <;> rfl) (by decide) (by decide) (by have := ((hk0.trans hk3).trans hk4).size; simp; omega) ?_; intro v5 w5 hown5 hg5 _; have hk5 : Kp w w5 := (((hk0.trans hk3).trans hk4).alloc _).grown hg5 (fun k e => by cases e)))
      go_ret
      refine ⟨_, rfl, ?_, hk5⟩
      rw [HH.out]
      exact hown5
/-- The greatest factor comes last. -/
theorem any_last {P : Int} : ∀ (l : List Nat) (x : Nat), l.Pairwise (· ≤ ·) → (∀ y ∈ l, y ≤ x) → (l ++ [x]).any (fun q => decide (P < (q : Int))) = decide (P < (x : Int)) := by
  intro l x _ hle
  by_cases h : P < (x : Int)
  · rw [decide_eq_true h, List.any_eq_true]
    exact ⟨x, List.mem_append_right _ (List.mem_singleton.2 rfl), decide_eq_true h⟩
  · rw [decide_eq_false h, List.any_eq_false]
    intro y hy
    rcases List.mem_append.1 hy with hy | hy
    · have := hle y hy
      simp; omega
    · obtain rfl := List.mem_singleton.1 hy
      simp; omega
theorem hard_last (p : Pol) (n : Nat) (i : Nat) (h : (facts n).length = i + 1) : p.hard n = (decide (p.P < (((facts n).getD i 0 : Nat) : Int)) && decide (n ≤ 8192)) := by
  have hs := facts_sorted n
  obtain ⟨l, x, e⟩ : ∃ l x, facts n = l ++ [x] := ⟨(facts n).dropLast, (facts n).getLast (by intro h2; rw [h2] at h; cases h), (List.dropLast_concat_getLast _).symm⟩
  unfold Pol.hard
  rw [e] at hs h ⊢
  have hi : i = l.length := by simp at h; omega
  rw [List.pairwise_append] at hs
  rw [any_last l x hs.1 (fun y hy => hs.2.2 y hy x (List.mem_singleton.2 rfl))]
  subst hi
  simp
theorem hard_nil (p : Pol) (n : Nat) (h : (facts n).length = 0) : p.hard n = false := by
  unfold Pol.hard
  rw [List.eq_nil_of_length_eq_zero h]
  rfl
set_option maxRecDepth 100000 in
set_option maxHeartbeats 2000000 in
theorem rblue_any (p : Pol) (vf : Value) (n : Nat) (w : World) (n1 : 1 ≤ n) (n2 : n ≤ 1000000) (hv : FlIn w vf p.fl) :
    Calls Tryd.prog 55 #[.int .i64 n, .agg #[.int .i64 p.D, vf, .int .i64 p.P]] w fun e w' => e = .returned (.bool (p.hard n)) ∧ Kp w w' := by
  have h1 : Hid (∀ w, Calls Tryd.prog 78 #[.int .i64 n] w fun e w' => ∃ v, e = .returned v ∧ IL w' w.heap.size v (facts n) ∧ Kp w w') := Lib.hid fun w => by
    have := rFactors_any (n : Int) w
    have e : factsI (n : Int) = facts n := by unfold factsI; rw [if_neg (by omega)]; rfl
    rw [e] at this
    exact this
  have hll := facts_length n
  have HL0 : Hid ((facts n).length = 0 → p.hard n = false) := Lib.hid (hard_nil p n)
  have HL1 : Hid (∀ i, (facts n).length = i + 1 → p.hard n = (decide (p.P < (((facts n).getD i 0 : Nat) : Int)) && decide (n ≤ 8192))) := Lib.hid (hard_last p n)
  have HM : Hid (∀ i (hi : i < (facts n).length), (facts n)[i] ≤ n) := Lib.hid fun i hi => facts_mem_le (by omega) (List.getElem_mem hi)
  obtain ⟨o, c, rfl, _⟩ := hv
  obtain ⟨m, hm⟩ : ∃ m, p.fl.length = m := ⟨_, rfl⟩
  obtain ⟨D, hD⟩ : ∃ D, p.D = D := ⟨_, rfl⟩
  obtain ⟨P, hP⟩ : ∃ P, p.P = P := ⟨_, rfl⟩
  obtain ⟨b, hb⟩ : ∃ b, p.hard n = b := ⟨_, rfl⟩
  rw [hb] at HL0 HL1
  rw [hP] at HL1
  rw [hb, hD, hP, hm]
  clear hb hD hP hm
  generalize facts n = l at *
  have k0 := (Kp.refl w).alloc (.cells #[.int .i64 D, .slice o m c, .int .i64 P] 24)
  have hA := heap_alloc_new w (.cells #[.int .i64 D, .slice o m c, .int .i64 P] 24)
  go_enter Tryd.func55, Tryd.ntmps55
  go_upto_region 2 with (go_at_call 78; (with_reducible refine (h1.out _).mono ?_); rintro e w1 ⟨v, rfl, hv, hk⟩; obtain ⟨ol, cl, rfl⟩ := IL.form hv)
  obtain ⟨⟨p0, p1, p2⟩, _⟩ := row3_facts ((hk.block _ (Array.getElem?_eq_some_iff.1 hA).1).trans hA)
  have HV := Lib.hid hv
  clear hv hA h1
  obtain ⟨N, hN⟩ : ∃ N, l.length = N := ⟨_, rfl⟩
  have HN := Lib.hid hN
  rw [hN] at hll ⊢
  clear hN
  cases N with
  | zero =>
    have HB := Lib.hid (HL0.out HN.out)
    go_quiet (fail)
    go_wp2_with fail
    go_ret
    exact ⟨by rw [HB.out]; rfl, (k0.trans hk).drewN _⟩
  | succ i =>
    have hil : i < l.length := by rw [HN.out]; omega
    obtain ⟨g, c2, e⟩ := HV.out.some (by omega)
    obtain rfl : ol = some ⟨g, 0, none⟩ := by injection e
    have HVV : Hid (IL w1 _ (.slice (some ⟨g, 0, none⟩) l.length cl) l) := HV
    have hx := HVV.out.cell i hil
    have hle := HM.out i hil
    have HB := HL1.out i HN.out
    have eg : l.getD i 0 = l[i] := by simp [List.getD_eq_getElem?_getD, List.getElem?_eq_getElem hil]
    rw [eg] at HB
    obtain ⟨x, hxe⟩ : ∃ x, l[i]'hil = x := ⟨_, rfl⟩
    rw [hxe] at hx hle HB
    have HBB := Lib.hid HB
    have ei : ((i + 1 : Nat) : Int) - 1 = (i : Int) := by omega
    have ew : IntKind.i64.wrap (((i + 1 : Nat) : Int) - 1) = (i : Int) := by rw [ei]; exact IntWalk.i64_in _ (by omega)
    have ew2 : IntKind.i64.wrap ((i : Int) + 1 - 1) = (i : Int) := by rw [show (i : Int) + 1 - 1 = i by omega]; exact IntWalk.i64_in _ (by omega)
    clear HB hxe eg e HL0 HL1 HM HV HVV
    by_cases c1 : P < (x : Int)
    · by_cases c2' : n ≤ 8192
      · have d1 : decide (P < (x : Int)) = true := by simpa using c1
        have d2 : decide ((n : Int) ≤ 8192) = true := by simp; omega
        have HR : Hid (b = true) := Lib.hid (by rw [HBB.out, decide_eq_true c1, decide_eq_true c2']; rfl)
        go_quiet (fail)
        go_wp2_with fail
        go_ret
        exact ⟨by rw [HR.out]; rfl, (k0.trans hk).drewN _⟩
      · have d1 : decide (P < (x : Int)) = true := by simpa using c1
        have d2 : decide ((n : Int) ≤ 8192) = false := by simp; omega
        have HR : Hid (b = false) := Lib.hid (by rw [HBB.out, decide_eq_true c1, decide_eq_false c2']; rfl)
        go_quiet (fail)
        go_wp2_with fail
        go_ret
        exact ⟨by rw [HR.out]; rfl, (k0.trans hk).drewN _⟩
    · have d1 : decide (P < (x : Int)) = false := by simpa using c1
      have HR : Hid (b = false) := Lib.hid (by rw [HBB.out, decide_eq_false c1]; rfl)
      go_quiet (fail)
      go_wp2_with fail
      go_ret
      exact ⟨by rw [HR.out]; rfl, (k0.trans hk).drewN _⟩
end Go.Proofs.YtgjlldapnodfbaaDoor
