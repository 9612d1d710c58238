/-
  cheapest where the length is not known yet.
-/
import Derived.Test.YtgjlldapnodfbaaDoorOState
namespace Go.Proofs.YtgjlldapnodfbaaDoor
open Go Go.RowKit Go.Fl Go.Ord Go.Pr Go.Shelf
attribute [local go_sem] Oper.semAt_some

section
variable (P : Program) (w : World) (a : Addr) (m : Mode)
@[go_sem] theorem run_store_func (g : Fn) (x y : Array _) : (store a (.func g x y) m).run P w = stored P w a (.func g x y) m := run_store P w a _ m rfl
end
theorem heap_alloc3 (w : World) (a b c : Obj) : (((w.alloc a).alloc b).alloc c).heap[w.heap.size]? = some a ∧ (((w.alloc a).alloc b).alloc c).heap[w.heap.size + 1]? = some b ∧ (((w.alloc a).alloc b).alloc c).heap[w.heap.size + 1 + 1]? = some c := by
  refine ⟨?_, ?_, ?_⟩
  · exact (heap_alloc_old ((w.alloc a).alloc b) c _ (show w.heap.size < _ by simp; omega)).trans (heap_alloc2_old w a b)
  · exact (heap_alloc_old ((w.alloc a).alloc b) c _ (show w.heap.size + 1 < _ by simp)).trans (heap_alloc2_new w a b)
  · have := heap_alloc2_new (w.alloc a) b c
    rwa [World.size_alloc] at this
set_option maxRecDepth 100000 in
set_option maxHeartbeats 8000000 in
theorem cheap_miss (p : Pol) (hp : p.Good) (bc bm : Nat) (vf : Value) (n : Nat) (hn1 : 1 ≤ n) (hn2 : n ≤ 16384) (hrec : ∀ m, 1 ≤ m → m ≤ 16384 → rank m < rank n → CSpec p bc bm vf m)
    (Q : Nat → Prop) (w : World) (f : Nat → Option Value) (hQ : ∀ g, w.heap.size ≤ g → Q g) (hc : CH w bc p vf bm) (hfl : FlIn w vf p.fl) (hM : MM p Q w bm f) (hf : f n = none) :
    Calls Tryd.prog 31 #[.pointer (some ⟨bc, 0, none⟩), .int .i64 n] w fun e w' => ∃ k n0 o m c cost f', e = .returned (.agg #[.int .i64 k, .int .i64 n0, .slice o m c, .int .i64 cost]) ∧
      BVal Q w' (best p n) k n0 (.slice o m c) cost ∧ MM p Q w' bm f' ∧ Kb bm w w' ∧ ∀ i, rank n < rank i → f' i = f i := by
  refine (callsIn_wide (n := 3)).1 ?_
  have q3 := cell_of_row w bc 3 _ _ _ hc
  have HL : Hid (∀ w', Kp w w' → (Instr.lookup 84 (.map (some bm)) (.int .i64 (n : Int)) true).run Tryd.prog w' = .ok (.tuple #[.agg #[.int .i64 0, .int .i64 0, .slice none 0 0, .int .i64 0], .bool false]) w') := Lib.hid fun w' hk => by
    have := (hM.1.kp hk).look n (by omega)
    rw [hf] at this
    exact this
  have HC := Lib.hid hc
  have HFl := Lib.hid hfl
  have HMM := Lib.hid hM
  have HQ := Lib.hid hQ
  have HF := Lib.hid hf
  have HR := Lib.hid hrec
  clear hc hfl hM hQ hf hrec
  refine callsIn_of_wp_marks Tryd.func31 rfl trivial ?_ rfl
  refine wpIn_wide.2 ?_
  simp only [Tryd.ntmps31, List.size_toArray, List.length_cons, List.length_nil, Nat.reduceAdd, Nat.reduceSub, Array.replicate_succ, Array.replicate_zero, List.push_toArray, List.append_toArray, List.nil_append, List.cons_append]
  go_upto_region 1 with fail
  obtain ⟨h00, h01, h02⟩ := heap_alloc3 w (.cells #[.pointer (some ⟨bc, 0, none⟩)] 66) (.cells #[.int .i64 (n : Int)] 3) (.cells #[.int .i64 0, .int .i64 0, .slice none 0 0, .int .i64 0] 65)
  have hk3 := (((Kp.refl w).alloc (.cells #[.pointer (some ⟨bc, 0, none⟩)] 66)).alloc (.cells #[.int .i64 (n : Int)] 3)).alloc (.cells #[.int .i64 0, .int .i64 0, .slice none 0 0, .int .i64 0] 65)
  have hk4 := hk3.alloc (.cells #[.int .i64 0, .int .i64 0, .slice none 0 0, .int .i64 0] 65)
  have HX : Hid (∃ W3 : World, W3 = ((w.alloc (.cells #[.pointer (some ⟨bc, 0, none⟩)] 66)).alloc (.cells #[.int .i64 (n : Int)] 3)).alloc (.cells #[.int .i64 0, .int .i64 0, .slice none 0 0, .int .i64 0] 65) ∧ W3.heap[w.heap.size]? = some (.cells #[.pointer (some ⟨bc, 0, none⟩)] 66 (0, 0)) ∧ W3.heap[w.heap.size + 1]? = some (.cells #[.int .i64 (n : Int)] 3 (0, 0)) ∧ W3.heap[w.heap.size + 1 + 1]? = some (.cells #[.int .i64 0, .int .i64 0, .slice none 0 0, .int .i64 0] 65 (0, 0)) ∧ W3.heap.size = w.heap.size + 1 + 1 + 1 ∧ Kp w W3) := Lib.hid ⟨_, rfl, h00, h01, h02, by simp, hk3⟩
  clear h00 h01 h02
  go_cut [5, 6] from 19 (fun x y wx => x = .pointer (some ⟨w.heap.size + 1 + 1 + 1, 0, none⟩) ∧ y = .bool false ∧ wx.heap.size = w.heap.size + 1 + 1 + 1 + 1 ∧ Kp (((w.alloc (.cells #[.pointer (some ⟨bc, 0, none⟩)] 66)).alloc (.cells #[.int .i64 (n : Int)] 3)).alloc (.cells #[.int .i64 0, .int .i64 0, .slice none 0 0, .int .i64 0] 65)) wx)
  case first =>
    have hl := HL.out _ hk3.drew
    have hl4 := HL.out _ hk4.drew
    have q33 := hk3.drew.later q3
    have q34 := hk4.drew.later q3
    go_region
    all_goals clear hl hl4 q33 q34 hk3 hk4
    all_goals go_wp2_with fail
    all_goals (go_meet; exact ⟨rfl, rfl, by simp, Kp.drew (Kp.alloc (Kp.refl _) _)⟩)
  case rest =>
    obtain ⟨rfl, rfl, hsz, hkx⟩ := hcut
    clear hk3 hk4 q3 HL
    obtain ⟨W3, hW3, h00, h01, h02, hs3, hk3⟩ := HX.out
    rw [← hW3] at hkx
    clear HX hW3
    have H00 := Lib.hid ((hkx.block _ (by omega)).trans h00)
    have H01 := Lib.hid ((hkx.block _ (by omega)).trans h01)
    have H02 := Lib.hid ((hkx.block _ (by omega)).trans h02)
    have hkw := hk3.trans hkx
    clear h00 h01 h02 hs3 hkx hk3 W3
    go_upto_region 6 with fail
    have e1 := heap_alloc2_old wc (.cells #[.int .i64 0, .int .i64 0, .slice none 0 0, .int .i64 (-1)] 65) (.cells #[.func (.func 45) #[] #[.pointer (some ⟨w.heap.size + 1 + 1 + 1 + 1, 0, none⟩)]] 88)
    have e2 := heap_alloc2_new wc (.cells #[.int .i64 0, .int .i64 0, .slice none 0 0, .int .i64 (-1)] 65) (.cells #[.func (.func 45) #[] #[.pointer (some ⟨w.heap.size + 1 + 1 + 1 + 1, 0, none⟩)]] 88)
    have k0 := ((Kp.refl wc).alloc (.cells #[.int .i64 0, .int .i64 0, .slice none 0 0, .int .i64 (-1)] 65)).alloc (.cells #[.func (.func 45) #[] #[.pointer (some ⟨w.heap.size + 1 + 1 + 1 + 1, 0, none⟩)]] 88)
    rw [hsz] at e1 e2
    generalize (wc.alloc (.cells #[.int .i64 0, .int .i64 0, .slice none 0 0, .int .i64 (-1)] 65)).alloc (.cells #[.func (.func 45) #[] #[.pointer (some ⟨w.heap.size + 1 + 1 + 1 + 1, 0, none⟩)]] 88) = W0 at *
    have D0 := (k0.block _ (by omega)).trans H00.out
    have D1 := (k0.block _ (by omega)).trans H01.out
    have D2 := (k0.block _ (by omega)).trans H02.out
    have kW := hkw.trans k0
    have hA := kW.size
    clear H00 H01 H02 k0 hsz hkw wc
    generalize hbo : w.heap.size + 1 + 1 + 1 + 1 + 1 = bo at *
    generalize hbb : w.heap.size + 1 + 1 + 1 + 1 = bb at *
    generalize hB3 : w.heap.size + 1 + 1 + 1 = B3 at *
    generalize hB2 : w.heap.size + 1 + 1 = B2 at *
    generalize hB1 : w.heap.size + 1 = B1 at *
    obtain ⟨A, hA0⟩ : ∃ A, w.heap.size = A := ⟨_, rfl⟩
    have HN : Hid (w.heap.size = A ∧ B1 = A + 1 ∧ B2 = A + 2 ∧ bb = A + 4 ∧ bo = A + 5 ∧ bo < W0.heap.size) := Lib.hid ⟨hA0, by omega, by omega, by omega, by omega, (Array.getElem?_eq_some_iff.1 e2).1⟩
    simp only [hA0] at D0 D1 D2 e1 e2 ⊢
    clear hbo hbb hB3 hB2 hB1 hA0 hA
    have hblt : bm < A := by rw [← HN.out.1]; exact HMM.out.1.lt
    have hclt : bc < A := by rw [← HN.out.1]; exact HC.out.lt
    have hcm : bc ≠ bm := fun e => by
      have h1 := HMM.out.1.no_cell 0
      rw [← e, cell_of_row w bc 0 _ _ _ HC.out] at h1
      cases h1
    have HFR : Hid (FR p bc bm vf n A B1 B2 bb bo W0) := Lib.hid (by
      obtain ⟨z1, z2, z3, z4, z5, z6⟩ := HN.out
      exact ⟨D0, D1, D2, e2, HC.out.kp kW, (FlN.of HFl.out HMM.out.1.no_cell (by omega)).k2 (.of kW), ⟨by omega, by omega, by omega, by omega, hcm, by omega⟩, ⟨by omega, by omega, by omega, by omega, by omega⟩⟩)
    obtain ⟨QB, hQB⟩ : ∃ QB : Nat → Prop, QB = fun g => Q g ∧ g ≠ B2 := ⟨_, rfl⟩
    have HCS : Hid (CS p QB bm bb n W0 f none W0) := Lib.hid (by rw [hQB]; exact CS.start (HMM.out.mono (Q' := fun g => Q g ∧ g ≠ B2) (fun g hg hq => ⟨hq, by have := HN.out; omega⟩)) kW (by have := HN.out; omega) e1)
    have HQB : Hid ((∀ g, W0.heap.size ≤ g → QB g) ∧ ∀ g, QB g → Q g ∧ g ≠ B2) := Lib.hid (by rw [hQB]; exact ⟨fun g hg => ⟨HQ.out g (by have := HN.out; omega), by have := HN.out; omega⟩, fun g h => h⟩)
    clear hQB
    have HKW := Lib.hid kW
    have hbm0 : bm < W0.heap.size := by have := HN.out; omega
    have hbb0 : bb < W0.heap.size := by have := HN.out; omega
    have HLT := Lib.hid (And.intro hbm0 hbb0)
    clear D0 D1 D2 e1 e2 kW hblt hclt hcm hbm0 hbb0
    obtain ⟨ks, hks⟩ : ∃ ks, p.heads n = ks := ⟨_, rfl⟩
    have HKS := Lib.hid hks
    obtain ⟨m, hm⟩ : ∃ m, ks.length = m := ⟨_, rfl⟩
    have HM := Lib.hid hm
    have hm4 : m ≤ 2 := by rw [← hm, ← hks]; unfold Pol.heads; split <;> split <;> simp
    have HH : Hid (∀ w', K2 bm bb W0 w' → Calls Tryd.prog 46 #[.pointer (some ⟨bc, 0, none⟩), .int .i64 n] w' fun e w'' => ∃ o c, e = .returned (.slice o m c) ∧ Hid (HL w'' w'.heap.size (.slice o m c) n ks) ∧ Kp w' w'') := Lib.hid fun w' k => by
      have hF := HFR.out.k2 k
      refine (heads_any p bc bm vf n w' (by have := hp.fn; omega) hF.hc hF.hf.fl).mono ?_
      rintro e w'' ⟨v, rfl, h1, h2⟩
      obtain ⟨o, c, rfl⟩ := HL.form h1
      rw [hks] at h1 ⊢
      rw [hm] at h1 ⊢
      exact ⟨o, c, rfl, Lib.hid h1, h2⟩
    clear hks hm
    obtain ⟨c0, c1, c5, c3⟩ := HFR.out.cells
    go_wp2_with (go_at_call 46; (with_reducible refine (HH.out _ (K2.refl _ _ _)).mono ?_); rintro e w1 ⟨o, c, rfl, HV, hk1⟩)
    clear c0 c1 c5 c3 HH
    go_loopw [36] (fun y wr => ∃ i : Nat, i ≤ m ∧ y = .int .i64 i ∧ Hid (CS p QB bm bb n W0 f ((ks.take i).foldl (fun b k => offer b (leaf k n) (sat (leaf k n).C)) none) wr) ∧ Hid (K2 bm bb w1 wr)) (fun y _ => m - (intOf y).toNat)
    case atStart => exact ⟨0, by omega, rfl, Lib.hid (HCS.out.kp hk1), Lib.hid (K2.refl _ _ _)⟩
    case round =>
      obtain ⟨i, hi, rfl, HS, HK⟩ := hrel
      by_cases hlt : i < m
      · have hm0 : 0 < ks.length := by rw [HM.out]; omega
        obtain ⟨g, rfl⟩ := hl_some HV.out hm0
        have hik : i < ks.length := by rw [HM.out]; exact hlt
        obtain ⟨x1, x2, x3⟩ := hl_away HV.out HM.out HK.out HLT.out.1 HLT.out.2 i hik
        obtain ⟨k, hk⟩ : ∃ k, ks[i] = k := ⟨_, rfl⟩
        rw [hk] at x1
        have HKk := Lib.hid (hk ▸ List.getElem_mem hik)
        have HKi := Lib.hid hk
        clear hk hm0
        go_upto_region 9 with fail
        obtain ⟨y1, y2, y3⟩ := row3 wr (.int .i64 k) (.int .i64 (n : Int)) (.slice none 0 0) 28
        have kB := (Kp.refl wr).alloc (.cells #[.int .i64 k, .int .i64 (n : Int), .slice none 0 0] 28)
        have hR := World.block_lt_of_cell? _ _ y1
        generalize wr.alloc (.cells #[.int .i64 k, .int .i64 (n : Int), .slice none 0 0] 28) = WB at *
        obtain ⟨R, hR0⟩ : ∃ R, wr.heap.size = R := ⟨_, rfl⟩
        simp only [hR0] at y1 y2 y3 hR ⊢
        have hRm : R ≠ bm ∧ R ≠ bb := by
          have h1 := HK.out.size
          have h2 := hk1.size
          have h3 := HLT.out
          omega
        have HSt : Hid (∀ w', K2 bm bb WB w' → w'.cell? ⟨bo, 0, none⟩ = some (.func (.func 45) #[] #[.pointer (some ⟨bb, 0, none⟩)]) ∧ w'.cell? ⟨R, 0, none⟩ = some (.int .i64 k) ∧ w'.cell? ⟨R, 1, none⟩ = some (.int .i64 (n : Int)) ∧ w'.cell? ⟨R, 2, none⟩ = some (.slice none 0 0)) := Lib.hid fun w' k2 =>
          ⟨((HFR.out.k2 ((HS.out.kp kB).k2)).k2 k2).cells.2.2.1, k2.later y1 hRm.1 hRm.2, k2.later y2 hRm.1 hRm.2, k2.later y3 hRm.1 hRm.2⟩
        have HCost : Hid (∀ w', Calls Tryd.prog 34 #[.agg #[.int .i64 k, .int .i64 n, .slice none 0 0]] w' fun e w'' => e = .returned (.int .i64 (sat (leaf k n).C)) ∧ Kp w' w'') := Lib.hid fun w' => cost_leaf hp (by omega) (by omega) (by rw [HKS.out]; exact HKk.out) w'
        have HOff : Hid (∀ w', Kp WB w' → Calls Tryd.prog 45 #[.agg #[.int .i64 k, .int .i64 n, .slice none 0 0], .int .i64 (sat (leaf k n).C), .pointer (some ⟨bb, 0, none⟩)] w' fun e w'' => ∃ v, e = .returned v ∧ Hid (CS p QB bm bb n W0 f ((ks.take (i + 1)).foldl (fun b k => offer b (leaf k n) (sat (leaf k n).C)) none) w'') ∧ Kb bb w' w'') := Lib.hid fun w' kp => by
          have hs := sat_leaf hp (a := (n : Int)) (by omega) (by rw [HKS.out]; exact HKk.out)
          refine (offer_any (fun g => QB g ∧ g ≠ bb) bb _ (leaf k n) _ _ _ _ _ _ w' (fun g h => h.2) ((HS.out.kp (kB.trans kp)).bbIs) (leaf_ox _ _ _ _ (by omega) (by omega)) hs.1 hs.2).mono ?_
          rintro e w'' ⟨⟨v, rfl⟩, h1, h2⟩
          refine ⟨v, rfl, Lib.hid ?_, h2⟩
          rw [foldl_snoc _ _ _ _ (by rw [HM.out]; exact hlt), HKi.out]
          exact (HS.out.kp (kB.trans kp)).offer h2 h1
        generalize sat (leaf k n).C = sc at *
        have kd : Kp WB WB.drew := (Kp.refl WB).drew
        obtain ⟨z1, z2, z3, z4⟩ := HSt.out _ (K2.refl _ _ _)
        clear x1 x2 x3 y1 y2 y3
        have HKB := Lib.hid kB
        clear kB hR0
        go_region_held3 (fun w' => w'.cell? ⟨bo, 0, none⟩ = some (.func (.func 45) #[] #[.pointer (some ⟨bb, 0, none⟩)]) ∧ w'.cell? ⟨R, 0, none⟩ = some (.int .i64 k) ∧ w'.cell? ⟨R, 1, none⟩ = some (.int .i64 (n : Int)) ∧ w'.cell? ⟨R, 2, none⟩ = some (.slice none 0 0)) (first | go_keep | exact HSt.out _ (K2.of (kd.trans hk4)) | exact HSt.out _ ((K2.of (kd.trans hk4)).trans (.of2 hk5))) (first
          | (go_at_call 34; (with_reducible refine (HCost.out _).mono ?_); rintro e w4 ⟨rfl, hk4⟩)
          | (go_at_call 45; (with_reducible refine (HOff.out _ (kd.trans hk4)).mono ?_); rintro e w5 ⟨v5, rfl, hS5, hk5⟩))
        go_wp2_with fail
        go_roundw
        case rel => exact ⟨i + 1, by omega, by go_num, hS5, Lib.hid ((HK.out.kp (HKB.out.trans (kd.trans hk4))).trans (.of2 hk5))⟩
        case measure => simp [intOf]; omega
      · obtain rfl : m = i := by omega
        have hS1 : Hid (CS p QB bm bb n W0 f (headStep p n) wr) := Lib.hid (by
          have h := HS.out
          rw [← HM.out, List.take_length, ← HKS.out] at h
          exact h)
        have hF := HFR.out.k2 hS1.out.k2
        obtain ⟨c0, c1, c5, c3⟩ := hF.cells
        have HFw := Lib.hid hF
        have hws := hS1.out.k2.size
        clear hF HS HK HV hk1 HM HKS
        have HDv : Hid (∀ w', Calls Tryd.prog 47 #[.int .i64 n] w' fun e w'' => e = .returned (.func (.func 70) #[] #[.pointer (some ⟨w'.heap.size, 0, none⟩)]) ∧ w'' = w'.alloc (.cells #[.int .i64 n] 3)) := Lib.hid fun w' => callsIn_wide.1 (div_in Fence.wide 2 trivial rfl _ _)
        go_wp2_with (go_at_call 47; (with_reducible refine (HDv.out _).mono ?_); rintro e w2 ⟨rfl, rfl⟩)
        have hcn : (wr.alloc (.cells #[.int .i64 (n : Int)] 3)).cell? ⟨wr.heap.size, 0, none⟩ = some (.int .i64 n) := cell_of_row _ _ 0 _ _ _ (heap_alloc_new _ _)
        have hkn := (Kp.refl wr).alloc (.cells #[.int .i64 (n : Int)] 3)
        have hsn : (wr.alloc (.cells #[.int .i64 (n : Int)] 3)).heap.size = wr.heap.size + 1 := by simp
        generalize wr.alloc (.cells #[.int .i64 (n : Int)] 3) = WR at *
        obtain ⟨Bn, hBn⟩ : ∃ Bn, wr.heap.size = Bn := ⟨_, rfl⟩
        simp only [hBn] at hcn hsn ⊢
        have hlt3 := HLT.out
        have hbn3 : bm ≠ Bn ∧ bb ≠ Bn := by omega
        refine (wpIn_wide (n := 3)).1 ?_
        refine wpIn_rangeFunc_ownG (F := Fence.wide) (n := 3) rfl (by decide) (gf := 70) (lb := #[.pointer (some ⟨Bn, 0, none⟩)]) rfl trivial (enters_of Tryd.func70 (by kernel_rfl) rfl)
          (div_stops Fence.wide 2 trivial rfl (by decide) Bn n (by omega) WR (by omega) hcn) kc_t (kc_b (by omega)) (Below.refl _ _) (fun _ => rfl)
          (fun pre W => Hid (CS p QB bm bb n W0 f ((pre.map (·.1)).foldl (divStep p (best p) n) (headStep p n)) W) ∧ Hid (WR.heap.size ≤ W.heap.size)) (fun _ _ _ => False)
          (CS.own2 (β := List (DivOf n)) (fun pre => (pre.map (·.1)).foldl (divStep p (best p) n) (headStep p n)) (by omega) (by omega) (by omega)) (fun _ => ownFrom_pure _ (fun _ => False)) ⟨Lib.hid (hS1.out.kp hkn), Lib.hid (Nat.le_refl _)⟩ ?a1 ?assign ?body ?done ?stop
        case assign =>
          intro l x W K hK
          gi_wp2
          exact hK
        case stop =>
          rintro D c pre X _ _ h _
          exact h.elim
        case done =>
          rintro D ys X hD hys ⟨hS, hXs⟩ hX
          obtain ⟨b1, hb1⟩ : ∃ b1, (divs n).foldl (divStep p (best p) n) (headStep p n) = b1 := ⟨_, rfl⟩
          rw [hys, hb1] at hS
          have HB1 := Lib.hid hb1
          have hDX : D < X.heap.size := (Array.getElem?_eq_some_iff.1 hX).1
          have HX := Lib.hid hX
          have hWX := hXs.out
          have HFX := Lib.hid (HFR.out.k2 hS.out.k2)
          obtain ⟨x0, x1, x5, x3⟩ := HFX.out.cells
          clear hb1 hys hX hS1 HFw hcn hkn hXs HDv c0 c1 c5 c3
          obtain ⟨hd, hhd⟩ : ∃ b, p.hard n = b := ⟨_, rfl⟩
          have HHd : Hid (∀ w', K2 bm bb X w' → Calls Tryd.prog 49 #[.pointer (some ⟨bc, 0, none⟩), .int .i64 n] w' fun e w'' => e = .returned (.bool hd) ∧ Kp w' w'') := Lib.hid fun w' k => by
            rw [← hhd]
            exact hard_any p bc bm vf n w' hn1 (by omega) (HFX.out.k2 k).hc
          have HHB := Lib.hid hhd
          clear hhd
          cases hd
          case' false =>
            go_upto_region 28 with (go_at_call 49; (with_reducible refine (HHd.out _ (K2.refl _ _ _)).mono ?_); rintro e w1 ⟨rfl, hk1⟩)
            have HT : Hid (CS p QB bm bb n W0 f (best p n) w1) := Lib.hid (by
              have e : best p n = b1 := by rw [best_eq hp.p1 hn1]; unfold bestStep blueStep; rw [HHB.out, if_neg (by decide), HB1.out]
              rw [e]; exact hS.out.kp hk1)
            have HDz : Hid (w1.heap[D]? = some (.deferred (some []))) := Lib.hid ((hk1.block D hDX).trans HX.out)
            clear x0 x1 x5 x3 hS HB1 HHB HHd HFX hk1
            generalize w1 = wz at *
          case' true =>
            obtain ⟨hrn, hn8⟩ := hard_rank hn1 hp.p1 HHB.out
            obtain ⟨t1, t2, kk, t3⟩ := twoOf_is (N := 2 * n - 1) (by omega) (by omega)
            have hx2 : twoOf (2 * n - 1) ≤ 16384 := two_top ⟨t1, t2, kk, t3⟩ (by omega)
            have hrx : rank (twoOf (2 * n - 1)) < rank n := by rw [hrn, t3, rank_two, ← t3]; omega
            have hsome := two_some hp kk
            rw [← t3] at hsome
            have hSz : ∀ w', Calls Tryd.prog 50 #[.int .i64 n] w' fun e w'' => e = .returned (.tuple #[.int .i64 (twoOf (2 * n - 1) : Nat), .nilIface]) ∧ w' = w'' := fun w' => by
              refine (CSize_any n w' hn1 hn8).mono ?_
              rintro e w'' ⟨x, rfl, hx, rfl⟩
              rw [twoOf_two hn1 hn8 hx.out.1]
              exact ⟨rfl, rfl⟩
            obtain ⟨x, hx⟩ : ∃ x, twoOf (2 * n - 1) = x := ⟨_, rfl⟩
            have HXX := Lib.hid hx
            rw [hx] at hx2 hrx hsome
            simp only [hx] at hSz
            have hx1 : 1 ≤ x := by omega
            have HSz := Lib.hid hSz
            obtain ⟨Ty, hTy⟩ := Option.isSome_iff_exists.1 hsome
            obtain ⟨T, y⟩ := Ty
            have HTy := Lib.hid hTy
            have HRX := Lib.hid hrx
            have hTp : T.parts ≤ 4096 := by
              have h1 := (best_ok hp (rank x) x (Nat.le_refl _) hx1 T y hTy).2.2
              have h2 := bound_small hx1 hx2
              omega
            clear hx t1 t2 t3 hrn hrx hsome hSz hTy kk
            have HRc : Hid (∀ w', Kp X w' → Calls Tryd.prog 31 #[.pointer (some ⟨bc, 0, none⟩), .int .i64 (x : Int)] w' fun e w'' => ∃ k n0 o m c, e = .returned (.agg #[.int .i64 k, .int .i64 n0, .slice o m c, .int .i64 y]) ∧ Hid (OX (fun g => QB g ∧ g ≠ bb) w'' T (.agg #[.int .i64 k, .int .i64 n0, .slice o m c]) ∧ 0 ≤ y ∧ y ≤ 4611686018427387905 ∧ CS p QB bm bb n W0 f b1 w'') ∧ K2 bm bb w' w'') := Lib.hid fun w' kp => by
              have hcs := hS.out.kp kp
              have hFw := HFX.out.k2 (.of kp)
              obtain ⟨f1, h1, h2, h3, h4, h5⟩ := hcs
              refine (HR.out x hx1 hx2 HRX.out (fun g => QB g ∧ g ≠ bb) w' f1 (fun g hg => ⟨HQB.out.1 g (by have := h4.size; omega), by have := h4.size; omega⟩) hFw.hc hFw.hf.fl h1).mono ?_
              rintro e w'' ⟨k, n0, o, m, c, cost, f', rfl, hB, hM, hK, hf⟩
              rw [HTy.out] at hB
              obtain ⟨rfl, hy0, hy1, hox⟩ := hB
              exact ⟨k, n0, o, m, c, rfl, Lib.hid ⟨hox, hy0, hy1, CS.inner ⟨f1, h1, h2, h3, h4, h5⟩ HRX.out hM hf h2 h1.1 hK⟩, .of1 hK⟩
            go_upto_region 27 with (first
              | (go_at_call 49; (with_reducible refine (HHd.out _ (K2.refl _ _ _)).mono ?_); rintro e w1 ⟨rfl, hk1⟩; have x0' := hk1.later x0; have x1' := hk1.later x1)
              | (go_at_call 50; (with_reducible refine (HSz.out _).mono ?_); rintro e w2 ⟨rfl, rfl⟩)
              | (go_at_call 31; (with_reducible refine (HRc.out _ hk1).mono ?_); rintro e w4 ⟨k4, n4, o4, m4, c4, rfl, HB4, hk4⟩))
            have hE := heap_alloc_new w4 (.cells #[.int .i64 k4, .int .i64 n4, .slice o4 m4 c4, .int .i64 y] 65)
            have kB := (Kp.refl w4).alloc (.cells #[.int .i64 k4, .int .i64 n4, .slice o4 m4 c4, .int .i64 y] 65)
            have hEs : w4.heap.size ≠ bb := by have := hk1.size; have := hk4.size; omega
            have hElt := (Array.getElem?_eq_some_iff.1 hE).1
            have hkX := (K2.of (b1 := bm) (b2 := bb) hk1).trans hk4
            have HB5 := Lib.hid (show OX (fun g => QB g ∧ g ≠ bb) _ T _ ∧ 0 ≤ y ∧ y ≤ 4611686018427387905 ∧ CS p QB bm bb n W0 f b1 _ from ⟨HB4.out.1.kp kB, HB4.out.2.1, HB4.out.2.2.1, HB4.out.2.2.2.kp kB⟩)
            have hkX5 := Lib.hid (hkX.kp kB)
            generalize w4.alloc (.cells #[.int .i64 k4, .int .i64 n4, .slice o4 m4 c4, .int .i64 y] 65) = WE at *
            generalize w4.heap.size = E at *
            have HSt : Hid (∀ w', Kb bb WE w' → w'.cell? ⟨bo, 0, none⟩ = some (.func (.func 45) #[] #[.pointer (some ⟨bb, 0, none⟩)]) ∧ w'.cell? ⟨E, 0, none⟩ = some (.int .i64 k4) ∧ w'.cell? ⟨E, 1, none⟩ = some (.int .i64 n4) ∧ w'.cell? ⟨E, 2, none⟩ = some (.slice o4 m4 c4) ∧ w'.cell? ⟨E, 3, none⟩ = some (.int .i64 y) ∧ w'.cell? ⟨B1, 0, none⟩ = some (.int .i64 (n : Int))) := Lib.hid fun w' k2 => by
              obtain ⟨⟨g0, g1, g2, g3⟩, _⟩ := row4_facts ((k2.block E hElt hEs).trans hE)
              have hfr := HFX.out.k2 (hkX5.out.trans (.of2 k2))
              exact ⟨hfr.cells.2.2.1, g0, g1, g2, g3, hfr.cells.2.1⟩
            obtain ⟨hy0, hy1⟩ := (⟨HB5.out.2.1, HB5.out.2.2.1⟩ : 0 ≤ y ∧ y ≤ 4611686018427387905)
            have HBl : Hid (∀ w', Kp WE w' → Calls Tryd.prog 22 #[.int .i64 n, .agg #[.int .i64 k4, .int .i64 n4, .slice o4 m4 c4]] w' fun e w'' => ∃ o c, e = .returned (.agg #[.int .i64 4, .int .i64 n, .slice o 1 c]) ∧ Hid (OX (fun g => WE.heap.size ≤ g) w'' (T.blue n) (.agg #[.int .i64 4, .int .i64 n, .slice o 1 c])) ∧ Kp w' w'') := Lib.hid fun w' kp => by
              refine (Blue_any (n : Int) T _ w' (by omega) (by omega) ((HB5.out.1.kp kp).oin) hTp).mono ?_
              rintro e w'' ⟨o, c, rfl, h1, h2⟩
              exact ⟨o, c, rfl, Lib.hid (h1.mono (fun g _ h => Nat.le_trans kp.size h)), h2⟩
            obtain ⟨tc, htc⟩ : ∃ tc, sat (bcost (n : Int) (x : Int) y) = tc := ⟨_, rfl⟩
            have HBc : Hid (∀ w', Calls Tryd.prog 51 #[.int .i64 n, .int .i64 x, .int .i64 y] w' fun e w'' => e = .returned (.int .i64 tc) ∧ Kp w' w'') := Lib.hid fun w' => by rw [← htc]; exact pblue_any n x y w' (by omega) (by omega) (by omega) (by omega) hy0 hy1
            have htr : 0 ≤ tc ∧ tc ≤ 4611686018427387905 := by rw [← htc]; exact sat_range _ (by unfold bcost; omega)
            have hbE : bb < WE.heap.size ∧ W0.heap.size ≤ WE.heap.size := by have := hkX5.out.size; omega
            have HOff : Hid (∀ w' o c, Kp WE w' → Hid (OX (fun g => WE.heap.size ≤ g) w' (T.blue n) (.agg #[.int .i64 4, .int .i64 n, .slice o 1 c])) → Calls Tryd.prog 45 #[(.agg #[.int .i64 4, .int .i64 n, .slice o 1 c]), .int .i64 tc, .pointer (some ⟨bb, 0, none⟩)] w' fun e w'' => ∃ v, e = .returned v ∧ Hid (CS p QB bm bb n W0 f (best p n) w'') ∧ Kb bb w' w'') := Lib.hid fun w' o c kp hox => by
              refine (offer_any (fun g => QB g ∧ g ≠ bb) bb _ (T.blue n) _ _ _ _ _ tc w' (fun g h => h.2) ((HB5.out.2.2.2.kp kp).bbIs) (hox.out.mono (fun g _ h => ⟨HQB.out.1 g (by omega), by omega⟩)) htr.1 htr.2).mono ?_
              rintro e w'' ⟨⟨v, rfl⟩, h1, h2⟩
              refine ⟨v, rfl, Lib.hid ?_, h2⟩
              have e : best p n = offer b1 (T.blue n) tc := by
                rw [best_eq hp.p1 hn1]
                unfold bestStep blueStep
                rw [HHB.out, if_pos rfl, HB1.out, HXX.out, HTy.out, ← htc]
              rw [e]
              exact (HB5.out.2.2.2.kp kp).offer h2 h1
            clear htc x0 x1 x5 x3 x0' x1' HB4 hkX hk4 hk1 hE HSz HRc HHd
            have kd : Kp WE WE.drew := (Kp.refl WE).drew
            have HKB := Lib.hid kB
            clear kB
            obtain ⟨z1, z2, z3, z4, z5, z6⟩ := HSt.out _ (Kb.refl _ _)
            go_region_held3 (fun w' => w'.cell? ⟨bo, 0, none⟩ = some (.func (.func 45) #[] #[.pointer (some ⟨bb, 0, none⟩)]) ∧ w'.cell? ⟨E, 0, none⟩ = some (.int .i64 k4) ∧ w'.cell? ⟨E, 1, none⟩ = some (.int .i64 n4) ∧ w'.cell? ⟨E, 2, none⟩ = some (.slice o4 m4 c4) ∧ w'.cell? ⟨E, 3, none⟩ = some (.int .i64 y) ∧ w'.cell? ⟨B1, 0, none⟩ = some (.int .i64 (n : Int))) (first | go_keep | exact HSt.out _ (.of (kd.trans hk5)) | exact HSt.out _ (.of ((kd.trans hk5).trans hk6)) | exact HSt.out _ ((Kb.of ((kd.trans hk5).trans hk6)).trans hk7)) (first
              | (go_at_call 22; (with_reducible refine (HBl.out _ kd).mono ?_); rintro e w5 ⟨o5, c5, rfl, hx5, hk5⟩)
              | (go_at_call 51; (with_reducible refine (HBc.out _).mono ?_); rintro e w6 ⟨rfl, hk6⟩)
              | (go_at_call 45; (with_reducible refine (HOff.out _ _ _ ((kd.trans hk5).trans hk6) (Lib.hid (hx5.out.kp hk6))).mono ?_); rintro e w7 ⟨v7, rfl, HT, hk7⟩))
            have HDz : Hid (w7.heap[D]? = some (.deferred (some []))) := Lib.hid (by
              have h1 := (hkX5.out.trans (K2.of ((kd.trans hk5).trans hk6))).trans (.of2 hk7)
              exact (h1.block D hDX (by omega) (by omega)).trans HX.out)
            clear z1 z2 z3 z4 z5 z6 hk5 hk6 hk7 hx5 HBl HBc HOff HSt HB5 kd
            go_upto_region 28 with fail
            generalize w7 = wz at *
          all_goals
            have hF9 := HFR.out.k2 HT.out.k2
            obtain ⟨x0, x1, x5, x3⟩ := hF9.cells
            have HF9 := Lib.hid hF9
            obtain ⟨f1, hmm, hfr, ⟨k9, n9, o9, m9, c9, cost9, hbb9, hbv⟩, hk29, hmb⟩ := HT.out
            have hf1 : f1 n = none := (hfr n (Nat.le_refl _)).trans HF.out
            obtain ⟨w9, hput, hMP, hgr⟩ := MP.put (hmm.1.kp (Kp.refl wz).drew) n (by omega) (Nat.lt_of_le_of_lt (cnt_le f1) (by decide)) (.agg #[.int .i64 k9, .int .i64 n9, .slice o9 m9 c9, .int .i64 cost9])
            obtain ⟨⟨b0, b1', b2, b3⟩, _⟩ := row4_facts hbb9
            have HBV := Lib.hid hbv
            have HMM1 := Lib.hid hmm
            have HMP := Lib.hid hMP
            have HFR1 := Lib.hid hfr
            have HGR := Lib.hid hgr
            have HF1 := Lib.hid hf1
            have hbb10 := (hgr.block bb (by have := hk29.size; show bb < wz.heap.size; omega) (by intro e; cases e; exact hmb rfl)).trans hbb9
            have hB210 := (hgr.block B2 (by have := (Array.getElem?_eq_some_iff.1 hF9.h2).1; exact this) (by intro e; cases e; exact hF9.nm.2.2.1 rfl)).trans hF9.h2
            obtain ⟨⟨p0, p1, p2, p3⟩, _⟩ := row4_facts hbb10
            obtain ⟨⟨r0, r1, r2, r3⟩, s0, s1, s2, s3⟩ := row4_facts hB210
            have HB2 := Lib.hid hB210
            have HK9 := Lib.hid hk29
            clear hf1 hmm hfr hbb9 hbv hk29 hMP hbb10 hB210 hF9 HT
            go_region
            all_goals go_wp2_with fail
            have hBn2 : bm < W0.heap.size ∧ B2 < W0.heap.size ∧ bb < W0.heap.size := by have := HN.out; omega
            have hDn : D ≠ bm ∧ D ≠ B2 ∧ D ≠ bb := by omega
            have hDA : ((((w9.setCell ⟨B2, 0, none⟩ (.int .i64 k9)).setCell ⟨B2, 1, none⟩ (.int .i64 n9)).setCell ⟨B2, 2, none⟩ (.slice o9 m9 c9)).setCell ⟨B2, 3, none⟩ (.int .i64 cost9)).heap[D]? = some (.deferred (some [])) := by
              rw [set4_other _ _ _ _ _ _ _ hDn.2.1]
              exact (HGR.out.block D (by exact (Array.getElem?_eq_some_iff.1 HDz.out).1) (by intro e; cases e; exact hDn.1 rfl)).trans HDz.out
            have hBA := heap_set4 w9 B2 _ _ _ _ (.int .i64 k9) (.int .i64 n9) (.slice o9 m9 c9) (.int .i64 cost9) _ _ HB2.out
            have hkA := kb_set4 w9 B2 (.int .i64 k9) (.int .i64 n9) (.slice o9 m9 c9) (.int .i64 cost9)
            generalize ((((w9.setCell ⟨B2, 0, none⟩ (.int .i64 k9)).setCell ⟨B2, 1, none⟩ (.int .i64 n9)).setCell ⟨B2, 2, none⟩ (.slice o9 m9 c9)).setCell ⟨B2, 3, none⟩ (.int .i64 cost9)) = WA at *
            refine ⟨by simp, .inl ⟨_, _, rfl, run_takeDeferred hDA, ?_⟩⟩
            have hkD := kb_putObj WA D (.deferred none)
            have hBF := (hkD.block B2 (Array.getElem?_eq_some_iff.1 hBA).1 (Ne.symm hDn.2.1)).trans hBA
            generalize WA.putObj D (.deferred none) = WF at *
            have hnc := no_cells hDA rfl
            obtain ⟨hM9, hV9⟩ := MM.finish (Q := Q) (HMM1.out.kp (Kp.refl wz).drew) (HBV.out.kp (Kp.refl wz).drew) HF1.out hn1 hn2 HMP.out HGR.out hkA hkD hnc (fun g h => (HQB.out.2 g h.1).2) (fun g h => (HQB.out.2 g h.1).1) (Ne.symm HF9.out.nm.2.2.1) (Ne.symm hDn.1)
            refine ⟨.agg #[.int .i64 k9, .int .i64 n9, .slice o9 m9 c9, .int .i64 cost9], ret_priced rfl _ _ B2 _ _ _ _ _ _ rfl hBF, k9, n9, o9, m9, c9, cost9, _, rfl, hV9, hM9, ?_, fun i hi => ?_⟩
            · have hN := HN.out
              exact ((((HK9.out.up HKW.out (by omega)).kp (Kp.refl wz).drew).trans (Kb.of_grown HGR.out)).kg hkA (by omega)).kg hkD (by omega)
            · by_cases e : i = n
              · rw [e] at hi; omega
              · rw [if_neg e]; exact HFR1.out i (Nat.le_of_lt hi)
        case body =>
          rintro l pre x X ⟨hS, hXs⟩ hlen
          have ha := x.2
          have hxs := hXs.out
          have HS0 : Hid (W0.heap.size ≤ X.heap.size) := Lib.hid hS.out.k2.size
          obtain ⟨a, hxa⟩ : ∃ a, x.1 = a := ⟨_, rfl⟩
          simp only [hxa] at ha ⊢
          obtain ⟨PP, hPP⟩ : ∃ PP : World → Prop, PP = fun X' => K2 bm bb X X' ∧ CS p QB bm bb n W0 f (divStep p (best p) n ((pre.map (·.1)).foldl (divStep p (best p) n) (headStep p n)) a) X' := ⟨_, rfl⟩
          have hpost : Hid (∀ X', PP X' → KeepsFrom WR.heap.size X X' ∧ Kc Bn X X' ∧ Hid (CS p QB bm bb n W0 f (((pre ++ [x]).map (·.1)).foldl (divStep p (best p) n) (headStep p n)) X') ∧ Hid (WR.heap.size ≤ X'.heap.size)) := Lib.hid fun X' h => by
            rw [hPP] at h
            refine ⟨h.1.keeps (by omega) (by omega), h.1.kc (by omega) hbn3.1 hbn3.2, Lib.hid ?_, Lib.hid (Nat.le_trans hxs h.1.size)⟩
            rw [fold_map_snoc, hxa]
            exact h.2
          refine wpIn_mono (Q := fun e (_ : Act) X' => e = .normal ∧ PP X') ?_ (by rintro e a' X' ⟨rfl, h⟩; exact hpost.out X' h)
          clear hpost
          generalize (pre.map (·.1)).foldl (divStep p (best p) n) (headStep p n) = b0 at hS hPP
          have HPP : Hid (∀ X', K2 bm bb X X' → CS p QB bm bb n W0 f (divStep p (best p) n b0 a) X' → PP X') := Lib.hid fun X' h1 h2 => by rw [hPP]; exact ⟨h1, h2⟩
          have hd := (mem_divs (by omega)).1 ha
          have ha1 : 1 ≤ a := Nat.pos_of_dvd_of_pos hd hn1
          have ha2 : a ≤ n := Nat.le_of_dvd hn1 hd
          have HD := Lib.hid hd
          have hF := HFR.out.k2 hS.out.k2
          obtain ⟨x0, x1, x5, x3⟩ := hF.cells
          have HFX := Lib.hid hF
          have g1 : 1 ≤ 3 - 1 - 1 := by decide
          have f1 : Fence.wide.fn 46 := trivial
          have f2 : Fence.wide.fn 31 := trivial
          have f3 : Fence.wide.fn 34 := trivial
          clear hF hd hsn hkn hcn c0 c1 c5 c3 HCS HDv ha hPP hlen pre hS1 HFw hxa x
          by_cases hc1 : a < 2
          · have d1 : decide ((a : Int) < 2) = true := by simp; omega
            have HP := Lib.hid (HPP.out X (K2.refl _ _ _) (by unfold divStep; rw [if_pos (.inl hc1)]; exact hS.out))
            clear HPP
            gi_wp2
            exact HP.out
          by_cases hc2 : a = n
          · have HP := Lib.hid (HPP.out X (K2.refl _ _ _) (by unfold divStep; rw [if_pos (.inr hc2)]; exact hS.out))
            have d1 : decide ((a : Int) < 2) = false := by simp; omega
            have d2 : ((a : Int) == (n : Int)) = true := by simp; omega
            clear HPP
            gi_wp2
            exact HP.out
          have d1 : decide ((a : Int) < 2) = false := by simp; omega
          have d2 : ((a : Int) == (n : Int)) = false := by simp; omega
          obtain ⟨ks, hks⟩ : ∃ ks, p.heads a = ks := ⟨_, rfl⟩
          have HKS := Lib.hid hks
          obtain ⟨m, hm⟩ : ∃ m, ks.length = m := ⟨_, rfl⟩
          have HM := Lib.hid hm
          have hm4 : m ≤ 2 := by rw [← hm, ← hks]; unfold Pol.heads; split <;> split <;> simp
          have HH : Hid (∀ lev, CallsIn (Fence.wide.inRound l) lev Tryd.prog 46 #[.pointer (some ⟨bc, 0, none⟩), .int .i64 a] X fun e w'' => ∃ o c, e = .returned (.slice o m c) ∧ Hid (HL w'' X.heap.size (.slice o m c) a ks) ∧ Kp X w'') := Lib.hid (fun lev => by
            refine CallsIn.inRound l (callsIn_wide.2 ?_)
            refine (heads_any p bc bm vf a X (by have := hp.fn; omega) HFX.out.hc HFX.out.hf.fl).mono ?_
            rintro e w'' ⟨v, rfl, h1, h2⟩
            obtain ⟨o, c, rfl⟩ := HL.form h1
            rw [hks] at h1 ⊢
            rw [hm] at h1 ⊢
            exact ⟨o, c, rfl, Lib.hid h1, h2⟩)
          by_cases hm0 : m = 0
          · have HP := Lib.hid (fun X' (h : Kp X X') => HPP.out X' (.of h) (by
              have e0 : p.heads a = [] := by rw [hks]; exact List.eq_nil_of_length_eq_zero (by omega)
              unfold divStep
              rw [if_neg (by omega), e0]
              cases best p (n / a) <;> exact hS.out.kp h))
            have hm1 : ((m : Int) == 0) = true := by simp; omega
            clear HPP hks hm
            gi_wp2_with (gi_at_call 46; refine (HH.out _).mono ?_; rintro e w1 ⟨o', c', rfl, HV, hk1⟩)
            exact HP.out _ hk1
          have hm1 : ((m : Int) == 0) = false := by simp; omega
          clear hks hm
          gi_wp2_with (gi_at_call 46; refine (HH.out _).mono ?_; rintro e w1 ⟨o', c', rfl, HV, hk1⟩)
          have hk2 := K2.of (b1 := bm) (b2 := bb) hk1
          have x0' := hk2.later x0 HFX.out.nm.1 HFX.out.nb.1
          have x1' := hk2.later x1 HFX.out.nm.2.1 HFX.out.nb.2.1
          obtain ⟨q, hq⟩ : ∃ q, n / a = q := ⟨_, rfl⟩
          have hqn : q ≤ n := by rw [← hq]; exact Nat.div_le_self _ _
          have hq1 : 1 ≤ q := by rw [← hq]; exact Nat.div_pos ha2 (by omega)
          have HQQ : Hid (IntKind.i64.wrap ((n : Int) / (a : Int)) = (q : Int)) := Lib.hid (by rw [← Int.natCast_ediv, hq]; exact IntWalk.i64_in _ (by omega))
          have HRk : Hid (rank q < rank n) := Lib.hid (by rw [← hq]; exact rank_div hn1 (by omega) HD.out)
          have HDQ := Lib.hid hq
          clear hq
          have HRc : Hid (∀ (QG : Nat → Prop) w', K2 bm bb X w' → (∀ g, w'.heap.size ≤ g → QG g) → CS p QG bm bb n W0 f b0 w' → Calls Tryd.prog 31 #[.pointer (some ⟨bc, 0, none⟩), .int .i64 (q : Int)] w' fun e w'' => ∃ k n0 o m c cost, e = .returned (.agg #[.int .i64 k, .int .i64 n0, .slice o m c, .int .i64 cost]) ∧ Hid (BVal (fun g => QG g ∧ g ≠ bb) w'' (best p q) k n0 (.slice o m c) cost ∧ CS p QG bm bb n W0 f b0 w'') ∧ K2 bm bb w' w'') := Lib.hid fun QG w' kp hqg hcs => by
            have hFw := HFX.out.k2 kp
            obtain ⟨f1, h1, h2, h3, h4, h5⟩ := hcs
            refine (HR.out q hq1 (by omega) HRk.out (fun g => QG g ∧ g ≠ bb) w' f1 (fun g hg => ⟨hqg g hg, by have := h4.size; omega⟩) hFw.hc hFw.hf.fl h1).mono ?_
            rintro e w'' ⟨k, n0, o, m, c, cost, f', rfl, hB, hM, hK, hf⟩
            exact ⟨k, n0, o, m, c, cost, rfl, Lib.hid ⟨hB, CS.inner ⟨f1, h1, h2, h3, h4, h5⟩ HRk.out hM hf h2 h1.1 hK⟩, .of1 hK⟩
          have HQX : Hid (∀ g, X.heap.size ≤ g → QB g) := Lib.hid fun g hg => HQB.out.1 g (by have := HS0.out; omega)
          have hXw := hk1.size
          have hbn4 : bm < X.heap.size ∧ bb < X.heap.size ∧ W0.heap.size ≤ X.heap.size := by have := HS0.out; omega
          refine wpIn_region_held_drew (S := (fun w' => w'.cell? ⟨A, 0, none⟩ = some (.pointer (some ⟨bc, 0, none⟩)) ∧ w'.cell? ⟨B1, 0, none⟩ = some (.int .i64 (n : Int)))) (by kernel_rfl) (by kernel_rfl) (fun ⟨_, _, h⟩ => nomatch (show Exit.outgrown = Exit.normal from h.1)) ⟨x0', x1'⟩ (fun hHeld => ?_)
          refine wpAnyH_take (i := 0) (oi := Oper.mk _ _ _ _ _ _) (v := ?_) rfl (by kernel_rfl) (by kernel_rfl) (by kernel_rfl) (fun _ _ _ h => h) (Or.inl ⟨by rfl, ?_⟩) (by assumption) ?_
          rotate_left
          · intro w hSw
            (try dsimp only at hSw)
            go_simp
            try with_reducible rfl
          try simp only [Act.put, List.setIfInBounds_toArray, List.set_cons_zero, List.set_cons_succ]
          refine wpAnyH_take (i := 1) (oi := Oper.mk _ _ _ _ _ _) (v := ?_) rfl (by kernel_rfl) (by kernel_rfl) (by kernel_rfl) (fun _ _ _ h => h) (Or.inl ⟨by rfl, ?_⟩) (by assumption) ?_
          rotate_left
          · intro w hSw
            (try dsimp only at hSw)
            go_simp
            try with_reducible rfl
          try simp only [Act.put, List.setIfInBounds_toArray, List.set_cons_zero, List.set_cons_succ]
          refine wpAnyH_take (i := 2) (oi := Oper.mk _ _ _ _ _ _) (v := ?_) rfl (by kernel_rfl) (by kernel_rfl) (by kernel_rfl) (fun _ _ _ h => h) (Or.inl ⟨by rfl, ?_⟩) (by assumption) ?_
          rotate_left
          · intro w hSw
            (try dsimp only at hSw)
            go_simp
            try with_reducible rfl
          try simp only [Act.put, List.setIfInBounds_toArray, List.set_cons_zero, List.set_cons_succ]
          refine wpAnyH_take (i := 3) (oi := Oper.mk _ _ _ _ _ _) (v := ?_) rfl (by kernel_rfl) (by kernel_rfl) (by kernel_rfl) (fun _ _ _ h => h) (Or.inl ⟨by rfl, ?_⟩) (by assumption) ?_
          rotate_left
          · intro w hSw
            (try dsimp only at hSw)
            go_simp
            rw [if_neg (by omega), HQQ.out]
            try with_reducible rfl
          try simp only [Act.put, List.setIfInBounds_toArray, List.set_cons_zero, List.set_cons_succ]
          refine wpAnyH_ready (rs := [4, 5]) (by kernel_rfl) (by simp) ?_
          refine AllReadyH.cons (o := Oper.mk _ _ _ _ _ _) rfl (fun K hK => ?ordA) ?ordB
          case' ordA =>
            go_simp
            go_at_call 31
            refine (HRc.out QB _ (.of (hk1.drew)) (fun g hg => HQX.out g (by simp at hg; omega)) (hS.out.kp hk1.drew)).mono ?_
            rintro e w4 ⟨k4, n4, o4, m4, c4, cost4, rfl, HB4, hk4⟩
            have y0 := hk4.later x0' HFX.out.nm.1 HFX.out.nb.1
            have y1 := hk4.later x1' HFX.out.nm.2.1 HFX.out.nb.2.1
            refine hK.out _ _ ⟨y0, y1⟩ (fun hHeld => ?_)
            clear hK K hHeld
            try simp only [Act.put, List.setIfInBounds_toArray, List.set_cons_zero, List.set_cons_succ]
            refine wpAnyH_ready (rs := [5]) (by kernel_rfl) (by simp) ?_
            refine AllReadyH.cons (o := Oper.mk _ _ _ _ _ _) rfl (fun K hK => ?_) AllReadyH.nil
            go_simp
            refine hK.out _ _ ⟨((Kp.refl w4).alloc _).later y0, ((Kp.refl w4).alloc _).later y1⟩ (fun hHeld => ?_)
            clear hK K hHeld
            try simp only [Act.put, List.setIfInBounds_toArray, List.set_cons_zero, List.set_cons_succ]
            refine wpAnyH_ready (rs := [6]) (by kernel_rfl) (by simp) ?_
            refine AllReadyH.cons (o := Oper.mk _ _ _ _ _ _) rfl (fun K hK => ?_) AllReadyH.nil
            go_simp
            refine hK.out _ _ ⟨((Kp.refl w4).alloc _).later y0, ((Kp.refl w4).alloc _).later y1⟩ (fun hHeld => ?_)
            clear hK K hHeld
            try simp only [Act.put, List.setIfInBounds_toArray, List.set_cons_zero, List.set_cons_succ]
            refine wpAnyH_done (by kernel_rfl) ?_ _
            have H5 : Hid ((w4.alloc (.cells #[.int .i64 k4, .int .i64 n4, .slice o4 m4 c4, .int .i64 cost4] 65)).heap[w4.heap.size]? = some (.cells #[.int .i64 k4, .int .i64 n4, .slice o4 m4 c4, .int .i64 cost4] 65 (0, 0)) ∧ BVal (fun g => QB g ∧ g ≠ bb) (w4.alloc (.cells #[.int .i64 k4, .int .i64 n4, .slice o4 m4 c4, .int .i64 cost4] 65)) (best p q) k4 n4 (.slice o4 m4 c4) cost4 ∧ CS p QB bm bb n W0 f b0 (w4.alloc (.cells #[.int .i64 k4, .int .i64 n4, .slice o4 m4 c4, .int .i64 cost4] 65)) ∧ K2 bm bb w1 (w4.alloc (.cells #[.int .i64 k4, .int .i64 n4, .slice o4 m4 c4, .int .i64 cost4] 65)) ∧ X.heap.size ≤ w4.heap.size) := Lib.hid ⟨heap_alloc_new _ _, HB4.out.1.kp ((Kp.refl w4).alloc _), HB4.out.2.kp ((Kp.refl w4).alloc _), ((K2.of (Kp.refl w1).drew).trans hk4).kp ((Kp.refl w4).alloc _), Nat.le_trans hXw hk4.size⟩
            clear y0 y1 hk4 HB4 HRc
            generalize w4.alloc (.cells #[.int .i64 k4, .int .i64 n4, .slice o4 m4 c4, .int .i64 cost4] 65) = W5 at H5 ⊢
            generalize w4.heap.size = G at H5 ⊢
            clear w4
          case' ordB =>
            refine AllReadyH.cons (o := Oper.mk _ _ _ _ _ _) rfl (fun K hK => ?_) AllReadyH.nil
            go_simp
            have kz := ((Kp.refl w1).alloc (.cells #[.int .i64 0, .int .i64 0, .slice none 0 0, .int .i64 0] 65)).drew
            have hz0 : (w1.alloc (.cells #[.int .i64 0, .int .i64 0, .slice none 0 0, .int .i64 0] 65)).drew.heap[w1.heap.size]? = some (.cells #[.int .i64 0, .int .i64 0, .slice none 0 0, .int .i64 0] 65 (0, 0)) := heap_alloc_new w1 (.cells #[.int .i64 0, .int .i64 0, .slice none 0 0, .int .i64 0] 65)
            refine hK.out _ _ ⟨kz.later x0', kz.later x1'⟩ (fun hHeld => ?_)
            clear hK K hHeld
            try simp only [Act.put, List.setIfInBounds_toArray, List.set_cons_zero, List.set_cons_succ]
            refine wpAnyH_ready (rs := [4]) (by kernel_rfl) (by simp) ?_
            refine AllReadyH.cons (o := Oper.mk _ _ _ _ _ _) rfl (fun K hK => ?_) AllReadyH.nil
            go_simp
            have hkX := hk1.trans kz
            have hszz : (w1.alloc (.cells #[.int .i64 0, .int .i64 0, .slice none 0 0, .int .i64 0] 65)).drew.heap.size = w1.heap.size + 1 := by simp
            generalize (w1.alloc (.cells #[.int .i64 0, .int .i64 0, .slice none 0 0, .int .i64 0] 65)).drew = WZ at *
            go_at_call 31
            refine (HRc.out (fun g => QB g ∧ g ≠ w1.heap.size) WZ (.of hkX) (fun g hg => ⟨HQX.out g (by omega), by omega⟩) ((hS.out.mono (Q' := fun g => QB g ∧ g ≠ w1.heap.size) (fun g hg hq => ⟨hq, by omega⟩)).kp hkX)).mono ?_
            rintro e w4 ⟨k4, n4, o4, m4, c4, cost4, rfl, HB4, hk4⟩
            have kzX := (K2.of (b1 := bm) (b2 := bb) kz).trans hk4
            have y0 := kzX.later x0' HFX.out.nm.1 HFX.out.nb.1
            have y1 := kzX.later x1' HFX.out.nm.2.1 HFX.out.nb.2.1
            have hz4 : w4.heap[w1.heap.size]? = some (.cells #[.int .i64 0, .int .i64 0, .slice none 0 0, .int .i64 0] 65 (0, 0)) := (hk4.block _ (by omega) (by omega) (by omega)).trans hz0
            obtain ⟨⟨z0, z1, z2, z3⟩, zf0, zf1, zf2, zf3⟩ := row4_facts hz4
            refine hK.out _ _ ⟨y0, y1⟩ (fun hHeld => ?_)
            clear hK K hHeld
            try simp only [Act.put, List.setIfInBounds_toArray, List.set_cons_zero, List.set_cons_succ]
            refine wpAnyH_ready (rs := [6]) (by kernel_rfl) (by simp) ?_
            refine AllReadyH.cons (o := Oper.mk _ _ _ _ _ _) rfl (fun K hK => ?_) AllReadyH.nil
            go_simp
            have kz5 : K2 bm bb w1 ((((w4.setCell ⟨w1.heap.size, 0, none⟩ (.int .i64 k4)).setCell ⟨w1.heap.size, 1, none⟩ (.int .i64 n4)).setCell ⟨w1.heap.size, 2, none⟩ (.slice o4 m4 c4)).setCell ⟨w1.heap.size, 3, none⟩ (.int .i64 cost4)) := kzX.kg (kb_set4 w4 w1.heap.size _ _ _ _) (Nat.le_refl _)
            refine hK.out _ _ ⟨kz5.later x0' HFX.out.nm.1 HFX.out.nb.1, kz5.later x1' HFX.out.nm.2.1 HFX.out.nb.2.1⟩ (fun hHeld => ?_)
            clear hK K hHeld
            try simp only [Act.put, List.setIfInBounds_toArray, List.set_cons_zero, List.set_cons_succ]
            refine wpAnyH_done (by kernel_rfl) ?_ _
            have H5 : Hid (((((w4.setCell ⟨w1.heap.size, 0, none⟩ (.int .i64 k4)).setCell ⟨w1.heap.size, 1, none⟩ (.int .i64 n4)).setCell ⟨w1.heap.size, 2, none⟩ (.slice o4 m4 c4)).setCell ⟨w1.heap.size, 3, none⟩ (.int .i64 cost4)).heap[w1.heap.size]? = some (.cells #[.int .i64 k4, .int .i64 n4, .slice o4 m4 c4, .int .i64 cost4] 65 (0, 0)) ∧ BVal (fun g => QB g ∧ g ≠ bb) ((((w4.setCell ⟨w1.heap.size, 0, none⟩ (.int .i64 k4)).setCell ⟨w1.heap.size, 1, none⟩ (.int .i64 n4)).setCell ⟨w1.heap.size, 2, none⟩ (.slice o4 m4 c4)).setCell ⟨w1.heap.size, 3, none⟩ (.int .i64 cost4)) (best p q) k4 n4 (.slice o4 m4 c4) cost4 ∧ CS p QB bm bb n W0 f b0 ((((w4.setCell ⟨w1.heap.size, 0, none⟩ (.int .i64 k4)).setCell ⟨w1.heap.size, 1, none⟩ (.int .i64 n4)).setCell ⟨w1.heap.size, 2, none⟩ (.slice o4 m4 c4)).setCell ⟨w1.heap.size, 3, none⟩ (.int .i64 cost4)) ∧ K2 bm bb w1 ((((w4.setCell ⟨w1.heap.size, 0, none⟩ (.int .i64 k4)).setCell ⟨w1.heap.size, 1, none⟩ (.int .i64 n4)).setCell ⟨w1.heap.size, 2, none⟩ (.slice o4 m4 c4)).setCell ⟨w1.heap.size, 3, none⟩ (.int .i64 cost4)) ∧ X.heap.size ≤ w1.heap.size) := Lib.hid ⟨heap_set4 w4 _ _ _ _ _ _ _ _ _ _ _ hz4, (HB4.out.1.kb (bb := w1.heap.size) (fun g hg => hg.1.2) (kb_set4 w4 w1.heap.size _ _ _ _)).mono (fun g _ h => ⟨h.1.1, h.2⟩), (HB4.out.2.kg (fun g h => h.2) (by omega) (by omega) (by omega) (kb_set4 w4 w1.heap.size _ _ _ _)).mono (fun g _ h => h.1), kz5, hXw⟩
            clear y0 y1 hk4 HB4 HRc kz hz0 hkX hszz kzX hz4 z0 z1 z2 z3 zf0 zf1 zf2 zf3 kz5
            generalize (((w4.setCell ⟨w1.heap.size, 0, none⟩ (.int .i64 k4)).setCell ⟨w1.heap.size, 1, none⟩ (.int .i64 n4)).setCell ⟨w1.heap.size, 2, none⟩ (.slice o4 m4 c4)).setCell ⟨w1.heap.size, 3, none⟩ (.int .i64 cost4) = W5 at H5 ⊢
            generalize w1.heap.size = G at H5 ⊢
            clear w4 WZ
          all_goals
            obtain ⟨hbx, hbv, hcs5, hk5, hG5⟩ := H5.out
            have HK1 := Lib.hid hk2
            have HFZ := Lib.hid (HFX.out.k2 (hk2.trans hk5))
            have HK5 := Lib.hid (hk2.trans hk5)
            have HKA := Lib.hid hk5
            have HS5 := Lib.hid hcs5
            have HBX := Lib.hid hbx
            have hGb : G ≠ bb ∧ G ≠ bm ∧ bb ≠ G := by omega
            have hGlt : G < W5.heap.size := (Array.getElem?_eq_some_iff.1 hbx).1
            have HQX2 : Hid (∀ g, W5.heap.size ≤ g → QB g ∧ bb < W5.heap.size) := Lib.hid fun g hg => ⟨HQX.out g (by have := (hk2.trans hk5).size; omega), by have := (hk2.trans hk5).size; omega⟩
            have hbW5 : bb < W5.heap.size := by have := (hk2.trans hk5).size; omega
            have hHL : Hid (∀ wr, K2 bm bb W5 wr → ∀ j, (hj : j < m) → ∃ g k, o' = some ⟨g, 0, none⟩ ∧ Hid (k = ks[j]'(by rw [HM.out]; exact hj)) ∧ wr.cell? ⟨g, j * 3, none⟩ = some (.int .i64 k) ∧ wr.cell? ⟨g, j * 3 + 1, none⟩ = some (.int .i64 (a : Int)) ∧ wr.cell? ⟨g, j * 3 + 2, none⟩ = some (.slice none 0 0)) := Lib.hid fun wr kr j hj => by
              obtain ⟨g, rfl⟩ := hl_some HV.out (by rw [HM.out]; omega)
              obtain ⟨z1, z2, z3⟩ := hl_away HV.out HM.out (hk5.trans kr) hbn4.1 hbn4.2.1 j (by rw [HM.out]; exact hj)
              exact ⟨g, _, rfl, Lib.hid rfl, z1, z2, z3⟩
            clear H5 hbx hcs5 hk5 x0' x1' hk1 hk2 HH HV HQX HRk hHeld
            cases hbq : best p q with
            | none =>
              rw [hbq] at hbv
              obtain ⟨rfl, rfl, rfl, he⟩ := hbv
              cases he
              have HP := Lib.hid (fun X' (h : Kp W5 X') => HPP.out X' (HK5.out.kp h) (by
                unfold divStep
                rw [if_neg (by omega), HDQ.out, hbq]
                exact HS5.out.kp h))
              clear HPP HS5 HFX hbq
              gi_wp2
              gi_loopw [69] (fun x wr => ∃ j : Nat, j ≤ m ∧ x = .int .i64 j ∧ Kp W5 wr) (fun x _ => m - (intOf x).toNat)
              case atStart => exact ⟨0, by omega, rfl, Kp.refl _⟩
              case round =>
                obtain ⟨j, hj, rfl, hkr⟩ := hrel
                by_cases hlt : j < m
                · obtain ⟨g, k, rfl, HKk, z1, z2, z3⟩ := hHL.out wr (.of hkr) j hlt
                  have zc : wr.cell? ⟨G, 3, none⟩ = some (.int .i64 (-1)) := hkr.later (row4_facts HBX.out).1.2.2.2
                  have zc2 := ((Kp.refl wr).alloc (.cells #[.int .i64 k, .int .i64 (a : Int), .slice none 0 0] 28)).later zc
                  gi_wp2
                  go_roundw
                  case rel => exact ⟨j + 1, by omega, by go_num, hkr.alloc _⟩
                  case measure => simp [intOf]; omega
                · obtain rfl : m = j := by omega
                  gi_wp2
                  exact HP.out _ hkr
            | some Ty =>
              obtain ⟨T, y⟩ := Ty
              rw [hbq] at hbv
              obtain ⟨rfl, hy0, hy1, hox⟩ := hbv
              have HOX := Lib.hid hox
              have HP := Lib.hid (fun X' (h : Kb bb W5 X') (hs : CS p QB bm bb n W0 f (ks.foldl (fun b k => offer b ((leaf k a).times T) (sat (tcost a (q : Int) (sat (leaf k a).C) cost4 (k == 2)))) b0) X') => HPP.out X' (HK5.out.trans (.of2 h)) (by
                unfold divStep
                rw [if_neg (by omega), HDQ.out, hbq, HKS.out]
                exact hs))
              have hTp : T.parts ≤ 4096 := by
                have h1 := (best_ok hp (rank q) q (Nat.le_refl _) hq1 T cost4 hbq).2.2
                have h2 := bound_small hq1 (show q ≤ 16384 by omega)
                omega
              clear HPP hbq hox
              gi_wp2
              gi_loopw [69] (fun x wr => ∃ j : Nat, j ≤ m ∧ x = .int .i64 j ∧ Hid (Kb bb W5 wr) ∧ Hid (CS p QB bm bb n W0 f ((ks.take j).foldl (fun b k => offer b ((leaf k a).times T) (sat (tcost a (q : Int) (sat (leaf k a).C) cost4 (k == 2)))) b0) wr)) (fun x _ => m - (intOf x).toNat)
              case atStart => exact ⟨0, by omega, rfl, Lib.hid (Kb.refl _ _), HS5⟩
              case round =>
                obtain ⟨j, hj, rfl, hkr, HS⟩ := hrel
                by_cases hlt : j < m
                · obtain ⟨g, k, rfl, HKk, z1, z2, z3⟩ := hHL.out wr (.of2 hkr.out) j hlt
                  have hkrs := hkr.out.size
                  have kB := (Kp.refl wr).alloc (.cells #[.int .i64 k, .int .i64 (a : Int), .slice none 0 0] 28)
                  have hGr : wr.heap[G]? = _ := (hkr.out.block G hGlt hGb.1).trans HBX.out
                  have zc := (row4_facts hGr).1.2.2.2
                  have zc2 := kB.later zc
                  gi_wp2
                  obtain ⟨y1, y2, y3⟩ := row3 wr (.int .i64 k) (.int .i64 (a : Int)) (.slice none 0 0) 28
                  have hR := World.block_lt_of_cell? _ _ y1
                  generalize wr.alloc (.cells #[.int .i64 k, .int .i64 (a : Int), .slice none 0 0] 28) = WB at *
                  obtain ⟨R, hR0⟩ : ∃ R, wr.heap.size = R := ⟨_, rfl⟩
                  simp only [hR0] at y1 y2 y3 hR ⊢
                  have hRb : R ≠ bb := by omega
                  have HSt : Hid (∀ w', Kb bb WB w' → w'.cell? ⟨bo, 0, none⟩ = some (.func (.func 45) #[] #[.pointer (some ⟨bb, 0, none⟩)]) ∧ w'.cell? ⟨R, 0, none⟩ = some (.int .i64 k) ∧ w'.cell? ⟨R, 1, none⟩ = some (.int .i64 (a : Int)) ∧ w'.cell? ⟨R, 2, none⟩ = some (.slice none 0 0) ∧ w'.cell? ⟨G, 0, none⟩ = some (.int .i64 k4) ∧ w'.cell? ⟨G, 1, none⟩ = some (.int .i64 n4) ∧ w'.cell? ⟨G, 2, none⟩ = some (.slice o4 m4 c4) ∧ w'.cell? ⟨G, 3, none⟩ = some (.int .i64 cost4) ∧ w'.cell? ⟨B1, 0, none⟩ = some (.int .i64 (n : Int))) := Lib.hid fun w' k2 => by
                    have hG2 := (k2.block G (Nat.lt_of_lt_of_le (Nat.lt_of_lt_of_le hGlt hkrs) kB.size) hGb.1).trans ((kB.block G (Nat.lt_of_lt_of_le hGlt hkrs)).trans hGr)
                    obtain ⟨⟨g0, g1, g2, g3⟩, _⟩ := row4_facts hG2
                    have hfr := HFZ.out.k2 ((K2.of2 (b1 := bm) hkr.out).trans ((K2.of kB).trans (.of2 k2)))
                    exact ⟨hfr.cells.2.2.1, (k2.cell (p := ⟨R, 0, none⟩) hR hRb).trans y1, (k2.cell (p := ⟨R, 1, none⟩) hR hRb).trans y2, (k2.cell (p := ⟨R, 2, none⟩) hR hRb).trans y3, g0, g1, g2, g3, hfr.cells.2.1⟩
                  have hkin : k ∈ p.heads a := by rw [HKS.out, HKk.out]; exact List.getElem_mem _
                  have HKin := Lib.hid hkin
                  have hlen := Lib.hid (leaf_len hp (a := (a : Int)) (by omega) hkin)
                  obtain ⟨hs0, hs1⟩ := sat_leaf hp (a := (a : Int)) (by omega) hkin
                  have HT : Hid (∀ w', Kp WB w' → Calls Tryd.prog 21 #[.agg #[.int .i64 k, .int .i64 a, .slice none 0 0], .agg #[.int .i64 k4, .int .i64 n4, .slice o4 m4 c4]] w' fun e w'' => ∃ o c, e = .returned (.agg #[.int .i64 3, .int .i64 0, .slice o 2 c]) ∧ Hid (OX (fun g => WB.heap.size ≤ g) w'' ((leaf k a).times T) (.agg #[.int .i64 3, .int .i64 0, .slice o 2 c])) ∧ Kp w' w'') := Lib.hid fun w' kp => by
                    refine (Times_any (leaf k a) T _ _ w' (leaf_ox (fun _ => True) _ _ _ (by omega) (by omega)).oin (((HOX.out.stay hkr.out.size (fun g hg hq => hkr.out.block g hg hq.2) (fun _ _ h => h)).kp (kB.trans kp)).oin) (by rw [leaf_parts]; decide) hTp).mono ?_
                    rintro e w'' ⟨o, c, rfl, h1, h2⟩
                    exact ⟨o, c, rfl, Lib.hid (h1.mono (fun g _ h => Nat.le_trans kp.size h)), h2⟩
                  have HCost : Hid (∀ w', Calls Tryd.prog 34 #[.agg #[.int .i64 k, .int .i64 a, .slice none 0 0]] w' fun e w'' => e = .returned (.int .i64 (sat (leaf k a).C)) ∧ Kp w' w'') := Lib.hid fun w' => cost_leaf hp (by omega) (by omega) HKin.out w'
                  obtain ⟨sc, hsc⟩ : ∃ sc, sat (leaf k a).C = sc := ⟨_, rfl⟩
                  have HSC := Lib.hid hsc
                  rw [hsc] at HCost hs0 hs1
                  clear hsc
                  obtain ⟨tc, htc⟩ : ∃ tc, sat (tcost a (q : Int) sc cost4 (k == 2)) = tc := ⟨_, rfl⟩
                  have HTc : Hid (∀ w', Calls Tryd.prog 48 #[.int .i64 a, .int .i64 q, .int .i64 sc, .int .i64 cost4, .bool (k == 2)] w' fun e w'' => e = .returned (.int .i64 tc) ∧ Kp w' w'') := Lib.hid fun w' => by rw [← htc]; exact ptcost_any a q sc cost4 (k == 2) w' (by omega) (by omega) (by omega) (by omega) hs0 hs1 hy0 hy1
                  have htr : 0 ≤ tc ∧ tc ≤ 4611686018427387905 := by rw [← htc]; exact sat_range _ (tcost_nonneg _ _ _ _ _ (by omega) (by omega) hs0 hy0)
                  have HOff : Hid (∀ w' o c, Kp WB w' → Hid (OX (fun g => WB.heap.size ≤ g) w' ((leaf k a).times T) (.agg #[.int .i64 3, .int .i64 0, .slice o 2 c])) → Calls Tryd.prog 45 #[(.agg #[.int .i64 3, .int .i64 0, .slice o 2 c]), .int .i64 tc, .pointer (some ⟨bb, 0, none⟩)] w' fun e w'' => ∃ v, e = .returned v ∧ Hid (CS p QB bm bb n W0 f ((ks.take (j + 1)).foldl (fun b k => offer b ((leaf k a).times T) (sat (tcost a (q : Int) (sat (leaf k a).C) cost4 (k == 2)))) b0) w'') ∧ Kb bb w' w'') := Lib.hid fun w' o c kp hox => by
                    have hbw : W5.heap.size ≤ WB.heap.size := Nat.le_trans hkrs kB.size
                    refine (offer_any (fun g => QB g ∧ g ≠ bb) bb _ ((leaf k a).times T) _ _ _ _ _ tc w' (fun g h => h.2) ((HS.out.kp (kB.trans kp)).bbIs) (hox.out.mono (fun g _ h => ⟨(HQX2.out g (by omega)).1, by omega⟩)) htr.1 htr.2).mono ?_
                    rintro e w'' ⟨⟨v, rfl⟩, h1, h2⟩
                    refine ⟨v, rfl, Lib.hid ?_, h2⟩
                    rw [foldl_snoc _ _ _ _ (by rw [HM.out]; exact hlt), ← HKk.out, HSC.out, htc]
                    exact (HS.out.kp (kB.trans kp)).offer h2 h1
                  clear htc z1 z2 z3 zc zc2 y1 y2 y3 hGr hkin
                  have HKB := Lib.hid kB
                  have kd : Kp WB WB.drew := (Kp.refl WB).drew
                  refine wpIn_region_held_drew (S := fun w' => w'.cell? ⟨bo, 0, none⟩ = some (.func (.func 45) #[] #[.pointer (some ⟨bb, 0, none⟩)]) ∧ w'.cell? ⟨R, 0, none⟩ = some (.int .i64 k) ∧ w'.cell? ⟨R, 1, none⟩ = some (.int .i64 (a : Int)) ∧ w'.cell? ⟨R, 2, none⟩ = some (.slice none 0 0) ∧ w'.cell? ⟨G, 0, none⟩ = some (.int .i64 k4) ∧ w'.cell? ⟨G, 1, none⟩ = some (.int .i64 n4) ∧ w'.cell? ⟨G, 2, none⟩ = some (.slice o4 m4 c4) ∧ w'.cell? ⟨G, 3, none⟩ = some (.int .i64 cost4) ∧ w'.cell? ⟨B1, 0, none⟩ = some (.int .i64 (n : Int))) (by kernel_rfl) (by kernel_rfl) (fun ⟨_, _, h⟩ => nomatch (show Exit.outgrown = Exit.normal from h.1)) (HSt.out _ (.of kd)) (fun hHeld => ?_)
                  refine wpAnyH_take (i := 0) (oi := Oper.mk _ _ _ _ _ _) (v := ?_) rfl (by kernel_rfl) (by kernel_rfl) (by kernel_rfl) (fun _ _ _ h => h) (Or.inl ⟨by rfl, ?_⟩) (by assumption) ?_
                  rotate_left
                  · intro w hSw
                    (try dsimp only at hSw)
                    go_simp
                    try with_reducible rfl
                  try simp only [Act.put, List.setIfInBounds_toArray, List.set_cons_zero, List.set_cons_succ]
                  refine wpAnyH_take (i := 1) (oi := Oper.mk _ _ _ _ _ _) (v := ?_) rfl (by kernel_rfl) (by kernel_rfl) (by kernel_rfl) (fun _ _ _ h => h) (Or.inl ⟨by rfl, ?_⟩) (by assumption) ?_
                  rotate_left
                  · intro w hSw
                    (try dsimp only at hSw)
                    go_simp
                    try with_reducible rfl
                  try simp only [Act.put, List.setIfInBounds_toArray, List.set_cons_zero, List.set_cons_succ]
                  refine wpAnyH_take (i := 2) (oi := Oper.mk _ _ _ _ _ _) (v := ?_) rfl (by kernel_rfl) (by kernel_rfl) (by kernel_rfl) (fun _ _ _ h => h) (Or.inl ⟨by rfl, ?_⟩) (by assumption) ?_
                  rotate_left
                  · intro w hSw
                    (try dsimp only at hSw)
                    go_simp
                    try with_reducible rfl
                  try simp only [Act.put, List.setIfInBounds_toArray, List.set_cons_zero, List.set_cons_succ]
                  refine wpAnyH_take (i := 3) (oi := Oper.mk _ _ _ _ _ _) (v := ?_) rfl (by kernel_rfl) (by kernel_rfl) (by kernel_rfl) (fun _ _ _ h => h) (Or.inl ⟨by rfl, ?_⟩) (by assumption) ?_
                  rotate_left
                  · intro w hSw
                    (try dsimp only at hSw)
                    go_simp
                    try with_reducible rfl
                  try simp only [Act.put, List.setIfInBounds_toArray, List.set_cons_zero, List.set_cons_succ]
                  refine wpAnyH_take (i := 5) (oi := Oper.mk _ _ _ _ _ _) (v := ?_) rfl (by kernel_rfl) (by kernel_rfl) (by kernel_rfl) (fun _ _ _ h => h) (Or.inl ⟨by rfl, ?_⟩) (by assumption) ?_
                  rotate_left
                  · intro w hSw
                    (try dsimp only at hSw)
                    go_simp
                    try with_reducible rfl
                  try simp only [Act.put, List.setIfInBounds_toArray, List.set_cons_zero, List.set_cons_succ]
                  refine wpAnyH_take (i := 6) (oi := Oper.mk _ _ _ _ _ _) (v := ?_) rfl (by kernel_rfl) (by kernel_rfl) (by kernel_rfl) (fun _ _ _ h => h) (Or.inl ⟨by rfl, ?_⟩) (by assumption) ?_
                  rotate_left
                  · intro w hSw
                    (try dsimp only at hSw)
                    go_simp
                    try with_reducible rfl
                  try simp only [Act.put, List.setIfInBounds_toArray, List.set_cons_zero, List.set_cons_succ]
                  refine wpAnyH_take (i := 7) (oi := Oper.mk _ _ _ _ _ _) (v := ?_) rfl (by kernel_rfl) (by kernel_rfl) (by kernel_rfl) (fun _ _ _ h => h) (Or.inl ⟨by rfl, ?_⟩) (by assumption) ?_
                  rotate_left
                  · intro w hSw
                    (try dsimp only at hSw)
                    go_simp
                    try with_reducible rfl
                  try simp only [Act.put, List.setIfInBounds_toArray, List.set_cons_zero, List.set_cons_succ]
                  refine wpAnyH_take (i := 8) (oi := Oper.mk _ _ _ _ _ _) (v := ?_) rfl (by kernel_rfl) (by kernel_rfl) (by kernel_rfl) (fun _ _ _ h => h) (Or.inl ⟨by rfl, ?_⟩) (by assumption) ?_
                  rotate_left
                  · intro w hSw
                    (try dsimp only at hSw)
                    go_simp
                    rw [if_neg (by omega), HQQ.out]
                    try with_reducible rfl
                  try simp only [Act.put, List.setIfInBounds_toArray, List.set_cons_zero, List.set_cons_succ]
                  refine wpAnyH_take (i := 9) (oi := Oper.mk _ _ _ _ _ _) (v := ?_) rfl (by kernel_rfl) (by kernel_rfl) (by kernel_rfl) (fun _ _ _ h => h) (Or.inl ⟨by rfl, ?_⟩) (by assumption) ?_
                  rotate_left
                  · intro w hSw
                    (try dsimp only at hSw)
                    go_simp
                    try with_reducible rfl
                  try simp only [Act.put, List.setIfInBounds_toArray, List.set_cons_zero, List.set_cons_succ]
                  refine wpAnyH_take (i := 11) (oi := Oper.mk _ _ _ _ _ _) (v := ?_) rfl (by kernel_rfl) (by kernel_rfl) (by kernel_rfl) (fun _ _ _ h => h) (Or.inl ⟨by rfl, ?_⟩) (by assumption) ?_
                  rotate_left
                  · intro w hSw
                    (try dsimp only at hSw)
                    go_simp
                    try with_reducible rfl
                  try simp only [Act.put, List.setIfInBounds_toArray, List.set_cons_zero, List.set_cons_succ]
                  refine wpAnyH_take (i := 12) (oi := Oper.mk _ _ _ _ _ _) (v := ?_) rfl (by kernel_rfl) (by kernel_rfl) (by kernel_rfl) (fun _ _ _ h => h) (Or.inl ⟨by rfl, ?_⟩) (by assumption) ?_
                  rotate_left
                  · intro w hSw
                    (try dsimp only at hSw)
                    go_simp
                    try with_reducible rfl
                  try simp only [Act.put, List.setIfInBounds_toArray, List.set_cons_zero, List.set_cons_succ]
                  refine wpAnyH_take (i := 13) (oi := Oper.mk _ _ _ _ _ _) (v := ?_) rfl (by kernel_rfl) (by kernel_rfl) (by kernel_rfl) (fun _ _ _ h => h) (Or.inl ⟨by rfl, ?_⟩) (by assumption) ?_
                  rotate_left
                  · intro w hSw
                    (try dsimp only at hSw)
                    go_simp
                    try with_reducible rfl
                  try simp only [Act.put, List.setIfInBounds_toArray, List.set_cons_zero, List.set_cons_succ]
                  refine wpAnyH_take (i := 14) (oi := Oper.mk _ _ _ _ _ _) (v := ?_) rfl (by kernel_rfl) (by kernel_rfl) (by kernel_rfl) (fun _ _ _ h => h) (Or.inl ⟨by rfl, ?_⟩) (by assumption) ?_
                  rotate_left
                  · intro w hSw
                    (try dsimp only at hSw)
                    go_simp
                    try with_reducible rfl
                  try simp only [Act.put, List.setIfInBounds_toArray, List.set_cons_zero, List.set_cons_succ]
                  refine wpAnyH_take (i := 15) (oi := Oper.mk _ _ _ _ _ _) (v := ?_) rfl (by kernel_rfl) (by kernel_rfl) (by kernel_rfl) (fun _ _ _ h => h) (Or.inl ⟨by rfl, ?_⟩) (by assumption) ?_
                  rotate_left
                  · intro w hSw
                    (try dsimp only at hSw)
                    go_simp
                    try with_reducible rfl
                  try simp only [Act.put, List.setIfInBounds_toArray, List.set_cons_zero, List.set_cons_succ]
                  refine wpAnyH_ready (rs := [4]) (by kernel_rfl) (by simp) ?_
                  refine AllReadyH.cons (o := Oper.mk _ _ _ _ _ _) rfl (fun K hK => ?_) AllReadyH.nil
                  go_simp
                  go_at_call 21
                  refine (HT.out _ kd).mono ?_
                  rintro e w5 ⟨o5, c5, rfl, hx5, hk5⟩
                  refine hK.out _ _ (HSt.out _ (.of (kd.trans hk5))) (fun hHeld => ?_)
                  clear hK K hHeld
                  try simp only [Act.put, List.setIfInBounds_toArray, List.set_cons_zero, List.set_cons_succ]
                  refine wpAnyH_ready (rs := [10]) (by kernel_rfl) (by simp) ?_
                  refine AllReadyH.cons (o := Oper.mk _ _ _ _ _ _) rfl (fun K hK => ?_) AllReadyH.nil
                  go_simp
                  go_at_call 34
                  refine (HCost.out _).mono ?_
                  rintro e w6 ⟨rfl, hk6⟩
                  refine hK.out _ _ (HSt.out _ (.of ((kd.trans hk5).trans hk6))) (fun hHeld => ?_)
                  clear hK K hHeld
                  try simp only [Act.put, List.setIfInBounds_toArray, List.set_cons_zero, List.set_cons_succ]
                  refine wpAnyH_ready (rs := [16]) (by kernel_rfl) (by simp) ?_
                  refine AllReadyH.cons (o := Oper.mk _ _ _ _ _ _) rfl (fun K hK => ?_) AllReadyH.nil
                  go_simp
                  go_at_call 48
                  refine (HTc.out _).mono ?_
                  rintro e w7 ⟨rfl, hk7⟩
                  refine hK.out _ _ (HSt.out _ (.of (((kd.trans hk5).trans hk6).trans hk7))) (fun hHeld => ?_)
                  clear hK K hHeld
                  try simp only [Act.put, List.setIfInBounds_toArray, List.set_cons_zero, List.set_cons_succ]
                  refine wpAnyH_ready (rs := [17]) (by kernel_rfl) (by simp) ?_
                  refine AllReadyH.cons (o := Oper.mk _ _ _ _ _ _) rfl (fun K hK => ?_) AllReadyH.nil
                  go_simp
                  go_at_call 45
                  refine (HOff.out _ _ _ (((kd.trans hk5).trans hk6).trans hk7) (Lib.hid ((hx5.out.kp hk6).kp hk7))).mono ?_
                  rintro e w8 ⟨v8, rfl, hS8, hk8⟩
                  refine hK.out _ _ (HSt.out _ ((Kb.of (((kd.trans hk5).trans hk6).trans hk7)).trans hk8)) (fun hHeld => ?_)
                  clear hK K hHeld
                  try simp only [Act.put, List.setIfInBounds_toArray, List.set_cons_zero, List.set_cons_succ]
                  refine wpAnyH_done (by kernel_rfl) ?_ _
                  gi_wp2
                  go_roundw
                  case rel => exact ⟨j + 1, by omega, by go_num, Lib.hid ((hkr.out.trans (.of (HKB.out.trans (((kd.trans hk5).trans hk6).trans hk7)))).trans hk8), hS8⟩
                  case measure => simp [intOf]; omega
                · obtain rfl : m = j := by omega
                  have HE := Lib.hid (HP.out wr hkr.out (by have h := HS.out; rw [← HM.out, List.take_length] at h; exact h))
                  clear HP HS hHL
                  gi_wp2
                  exact HE.out
end Go.Proofs.YtgjlldapnodfbaaDoor
