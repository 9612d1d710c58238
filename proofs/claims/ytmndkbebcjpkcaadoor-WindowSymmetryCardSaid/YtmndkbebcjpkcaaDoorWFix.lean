/-
  The walks of window.Weight, of window.Join at the statements' own literal, and of the statements' 'fixed'.
-/
import Derived.Test.YtmndkbebcjpkcaaDoorWSame
namespace Go.Proofs.YtmndkbebcjpkcaaDoor
open Go Go.RowKit Go.Fl Go.Roots

/-- What Weight has added up at place p after k elements. -/
def wt (f : Nat → Nat) (hop : Nat) : Nat → Nat → Nat
  | 0, _ => 0
  | k + 1, p => if k < hop then (if p = k then mul (f k) (f k) else wt f hop k p) else (if p = k % hop then add (wt f hop k p) (mul (f k) (f k)) else wt f hop k p)
theorem PartF.put {f g : Nat → Nat} {xs : List Value} {n k c : Nat} (h : PartF f xs n) (hk : k < xs.length) (hc : cn c = g k) (hg : ∀ j, j < n → j ≠ k → g j = f j) : PartF g (xs.set k (.float .f64 c)) n := by
  intro j hj
  by_cases e : j = k
  · subst e; exact ⟨c, by simp [hk], hc⟩
  · obtain ⟨c', h1, h2⟩ := h j hj
    exact ⟨c', by rw [List.getElem?_set_ne (by omega)]; exact h1, by rw [h2, hg j hj e]⟩

set_option maxRecDepth 100000 in
set_option maxHeartbeats 400000 in
theorem Weight_any (ga n ca base hop : Nat) (f : Nat → Nat) (xa : List Value) (w : World) (hn : n ≤ 1048576) (h1 : 1 ≤ hop) (h2 : hop ≤ 4096)
    (ha : w.ownsRow base 34 1 (.slice (some ⟨ga, 0, none⟩) n ca) n xa) (pa : PartF f xa n) :
    Calls Tryd.prog 14 #[.slice (some ⟨ga, 0, none⟩) n ca, .int .i64 hop] w fun e w' => ∃ g xs, e = .returned (.tuple #[.slice (some ⟨g, 0, none⟩) hop hop, .nilIface]) ∧
      w'.ownsRow w.heap.size 34 1 (.slice (some ⟨g, 0, none⟩) hop hop) hop xs ∧ PartF (wt f hop n) xs hop ∧ Kp w w' := by
  have b1 : decide ((hop : Int) < 1) = false := by simp; omega
  have b2 : decide ((4096 : Int) < hop) = false := by simp; omega
  obtain ⟨i0, hi, hz0, hz1, hz2⟩ := info_parts info_f
  have la := ha.1
  go_enter Tryd.func14, Tryd.ntmps14
  go_wp2_with (at_make; refine wpList_make_full _ rfl _ _ 23 rfl w.heap.size 34 i0 (.float .f64 0) 1 Tryd.underlying23 hi hz0 hz1 _ _ _ _ hop rfl rfl rfl rfl (by rw [hz2]; omega) (by unfold maxLen; omega) (Nat.le_refl _) ?_)
  intro w1 hown hgrow
  have hk1 : Kp w w1 := (Kp.refl w).grown hgrow (fun k hk => by cases hk)
  have hp0 : PartF (wt f hop 0) (madeCells #[.float .f64 0] hop).toList hop := by
    rw [toList_madeCells_one]
    exact fun j hj => ⟨0, by simp [hj], cn_0⟩
  clear hgrow hi hz0 hz1 hz2
  go_wp2_with fail
  go_loopw [21] (fun i wr => ∃ (k : Nat) (xs : List Value), k ≤ n ∧ i = .int .i64 k ∧ wr.ownsRow w.heap.size 34 1 (.slice (some ⟨w.heap.size, 0, none⟩) hop hop) hop xs ∧ PartF (wt f hop k) xs hop ∧ Kp w wr) (fun i _ => n - (intOf i).toNat)
  case atStart => exact ⟨0, _, by omega, rfl, hown, hp0, hk1⟩
  case round =>
    clear hown hk1 hp0
    obtain ⟨k, xs, hk, rfl, hown, hp, hkp⟩ := hrel
    have hlen := hown.1
    by_cases hlt : k < n
    · obtain ⟨c1, hx1, hc1⟩ := pa k hlt
      have q1 := (hkp.owns ha).cellAt k (by omega)
      rw [hx1] at q1
      clear hx1
      by_cases hh : k < hop
      · go_wp2_with (first
          | ((with_reducible apply wpList_fl .mul rfl); exact rfl; exact rfl; intro r1 m1 hr1; have hown2 := owns_drewN hown m1; have hcell := hown2.cellAt k (by omega); rw [List.getElem?_eq_getElem (show k < xs.length by omega)] at hcell; have hfr := hown2.frozenAt k))
        go_roundw
        case rel =>
          refine ⟨k + 1, _, by omega, by go_num, (hown2.stored k _).1, hp.put (by omega) ?_ ?_, (hkp.drewN m1).setCell (Nat.le_refl _) _⟩
          · rw [hr1, hc1]; unfold wt; rw [if_pos hh, if_pos rfl]; rfl
          · intro j _ hne; rw [wt, if_pos hh, if_neg hne]
        case measure => simp [intOf]; omega
      · have hm : k % hop < hop := Nat.mod_lt _ (by omega)
        obtain ⟨c2, hx2, hc2⟩ := hp (k % hop) hm
        have q2 := hown.cellAt (k % hop) (by omega)
        rw [hx2] at q2
        have hfr := hown.frozenAt (k % hop)
        have em : ((k : Int).tmod (hop : Int)) = ((k % hop : Nat) : Int) := by rw [Int.tmod_eq_emod_of_nonneg (by omega)]; rfl
        go_wp2_with (first
          | ((with_reducible apply wpList_fl .mul rfl); exact rfl; exact rfl; intro r1 m1 hr1)
          | ((with_reducible apply wpList_fl .add rfl); exact rfl; exact rfl; intro r2 m2 hr2))
        go_roundw
        case rel =>
          refine ⟨k + 1, _, by omega, by go_num, ((owns_drewN hown (m1 + m2)).stored (k % hop) _).1, hp.put (by omega) ?_ ?_, (hkp.drewN (m1 + m2)).setCell (Nat.le_refl _) _⟩
          · rw [hr2, hr1, hc1, hc2]; rw [wt, if_neg hh, if_pos rfl]; rfl
          · intro j _ hne; rw [wt, if_neg hh, if_neg hne]
        case measure => simp [intOf]; omega
    · obtain rfl : k = n := by omega
      go_wp2_with fail
      go_ret2
      exact ⟨_, xs, rfl, hown, hp, hkp⟩

theorem info_c : (Tryd.prog.info? 39).map (fun i => (i.zero, i.size, i.bytes)) = some (some (.complex .f64 0 0), 1, 16) := by kernel_rfl
theorem info_b : (Tryd.prog.info? 4).map (fun i => (i.zero, i.size, i.bytes)) = some (some (.bool false), 1, 1) := by kernel_rfl
abbrev cx (a : Nat) : Value := .complex .f64 a 0
abbrev L1 : List Value := [cx 4607182418800017408, cx 4611686018427387904, cx 4613937818241073152]
abbrev L2 : List Value := [cx 4621819117588971520, cx 4626322717216342016, cx 4629137466983448576]
def joined : Nat → List Value
  | 0 => [cx 0, cx 0, cx 0, cx 0, cx 0]
  | 1 => [cx 4607182418800017408, cx 0, cx 0, cx 0, cx 0]
  | 2 => [cx 4607182418800017408, cx 4611686018427387904, cx 0, cx 0, cx 0]
  | 3 => [cx 4607182418800017408, cx 4611686018427387904, cx 4613937818241073152, cx 0, cx 0]
  | 4 => [cx 4607182418800017408, cx 4611686018427387904, cx 4623507967449235456, cx 0, cx 0]
  | 5 => [cx 4607182418800017408, cx 4611686018427387904, cx 4623507967449235456, cx 4626322717216342016, cx 0]
  | _ => [cx 4607182418800017408, cx 4611686018427387904, cx 4623507967449235456, cx 4626322717216342016, cx 4629137466983448576]
def seen : Nat → List Value
  | 0 => [.bool false, .bool false, .bool false, .bool false, .bool false]
  | 1 => [.bool true, .bool false, .bool false, .bool false, .bool false]
  | 2 => [.bool true, .bool true, .bool false, .bool false, .bool false]
  | 3 => [.bool true, .bool true, .bool true, .bool false, .bool false]
  | 4 => [.bool true, .bool true, .bool true, .bool false, .bool false]
  | 5 => [.bool true, .bool true, .bool true, .bool true, .bool false]
  | _ => [.bool true, .bool true, .bool true, .bool true, .bool true]
structure JR (w wr : World) (gs t : Nat) : Prop where
  o : wr.ownsRow w.heap.size 39 1 (.slice (some ⟨w.heap.size, 0, none⟩) 5 5) 5 (joined t)
  s : wr.ownsRow w.heap.size 4 1 (.slice (some ⟨gs, 0, none⟩) 5 5) 5 (seen t)
  k : Kp w wr
theorem JR.next {w wr : World} {gs t : Nat} (h : JR w wr gs t) (n p : Nat) (v : Value) (h1 : (joined t).set p v = joined (t + 1)) (h2 : (seen t).set p (.bool true) = seen (t + 1)) (hq : w.heap.size < gs) :
    JR w (((wr.drewN n).setCell ⟨w.heap.size, p, none⟩ v).setCell ⟨gs, p, none⟩ (.bool true)) gs (t + 1) := by
  obtain ⟨a1, a2⟩ := (owns_drewN h.o n).stored p v
  have b0 := (owns_drewN h.s n).kept a2 (.inr (by intro e; simp [Value.ownBlock] at e; omega))
  obtain ⟨b1, b2⟩ := b0.stored p (.bool true)
  have c1 := a1.kept b2 (.inr (by intro e; simp [Value.ownBlock] at e; omega))
  rw [h1] at c1
  rw [h2] at b1
  exact ⟨c1, b1, ((h.k.drewN n).setCell (Nat.le_refl _) _).setCell (by show w.heap.size ≤ gs; omega) _⟩
theorem add13 : fl .add 4613937818241073152 4621819117588971520 = 4623507967449235456 := by decide +kernel
theorem add00 : fl .add 0 0 = 0 := by decide +kernel
theorem add13n : fl .add 4613937818241073152 4621819117588971520 ≠ NAN := by decide +kernel
theorem add00n : fl .add 0 0 ≠ NAN := by decide +kernel

set_option maxRecDepth 100000 in
set_option maxHeartbeats 400000 in
theorem Join_fixed (base a b f : Nat) (w : World)
    (hF : w.ownsRow base 36 1 (.slice (some ⟨f, 0, none⟩) 2 2) 2 [.slice (some ⟨a, 0, none⟩) 3 3, .slice (some ⟨b, 0, none⟩) 3 3])
    (hA : w.ownsRow base 39 1 (.slice (some ⟨a, 0, none⟩) 3 3) 3 L1)
    (hB : w.ownsRow base 39 1 (.slice (some ⟨b, 0, none⟩) 3 3) 3 L2) :
    Calls Tryd.prog 13 #[.slice (some ⟨f, 0, none⟩) 2 2, .int .i64 2] w fun e w' => ∃ g, e = .returned (.tuple #[.slice (some ⟨g, 0, none⟩) 5 5, .nilIface]) ∧
      w'.ownsRow w.heap.size 39 1 (.slice (some ⟨g, 0, none⟩) 5 5) 5 (joined 6) ∧ Kp w w' := by
  have f0 : w.cell? ⟨f, 0, none⟩ = some (.slice (some ⟨a, 0, none⟩) 3 3) := hF.cellAt 0 (by omega)
  have f1 : w.cell? ⟨f, 1, none⟩ = some (.slice (some ⟨b, 0, none⟩) 3 3) := hF.cellAt 1 (by omega)
  obtain ⟨i0, hi, hz0, hz1, hz2⟩ := info_parts info_c
  obtain ⟨i1, hj, hy0, hy1, hy2⟩ := info_parts info_b
  go_enter Tryd.func13, Tryd.ntmps13
  go_wp2_with fail
  go_loop [8, 29] (fun _ c => ∃ k : Int, 0 ≤ k ∧ k ≤ 2 ∧ c = .int .i64 k) (fun _ c => 2 - (intOf c).toNat)
  case atStart => exact ⟨0, by omega, by omega, rfl⟩
  case round =>
    obtain ⟨k, h0, h2, rfl⟩ := hrel
    obtain rfl | rfl | rfl : k = 0 ∨ k = 1 ∨ k = 2 := by omega
    · go_wp2_with fail
      go_round
      case rel => exact ⟨1, by omega, by omega, rfl⟩
      case measure => simp [intOf]
    · go_wp2_with fail
      go_round
      case rel => exact ⟨2, by omega, by omega, rfl⟩
      case measure => simp [intOf]
    · go_wp2_with (at_make; refine wpList_make_full _ rfl _ _ 36 rfl w.heap.size 39 i0 (.complex .f64 0 0) 1 Tryd.underlying36 hi hz0 hz1 _ _ _ _ 5 rfl rfl rfl rfl (by rw [hz2]; omega) (by unfold maxLen; omega) (Nat.le_refl _) ?_)
      intro w1 hown hgrow
      have hk1 : Kp w w1 := (Kp.refl w).grown hgrow (fun k hk => by cases hk)
      have hl1 : w.heap.size < w1.heap.size := (hown.lt _ rfl).2
      clear hgrow hi hz0 hz1 hz2
      go_wp2_with (at_make; refine wpList_make_full _ rfl _ _ 52 rfl w.heap.size 4 i1 (.bool false) 1 Tryd.underlying52 hj hy0 hy1 _ _ _ _ 5 rfl rfl rfl rfl (by rw [hy2]; omega) (by unfold maxLen; omega) (by omega) ?_)
      intro w2 hown2 hgrow2
      have hk2 : Kp w w2 := hk1.grown hgrow2 (fun k hk => by cases hk)
      have R0 : JR w w2 w1.heap.size 0 := ⟨by have := hown.kept hgrow2 (.inr (by intro e; cases e)); rw [toList_madeCells_one] at this; exact this, by rw [toList_madeCells_one] at hown2; exact hown2, hk2⟩
      have A0 : Hid _ := Lib.hid hA
      have B0 : Hid _ := Lib.hid hB
      have F0 : Hid _ := Lib.hid hF
      clear hgrow2 hj hy0 hy1 hy2 hown hown2 hk1 hk2 f0 f1 hA hB hF
      generalize w1.heap.size = gs at *
      go_wp2_with fail
      go_loopw [12, 13, 68] (fun _ _ c wr => ∃ k : Int, 0 ≤ k ∧ k ≤ 2 ∧ c = .int .i64 k ∧ JR w wr gs (3 * k).toNat) (fun _ _ c _ => 2 - (intOf c).toNat)
      case atStart => exact ⟨0, by omega, by omega, rfl, R0⟩
      case round =>
        clear R0
        obtain ⟨k, h0, h2, rfl, R1⟩ := hrel
        obtain rfl | rfl | rfl : k = 0 ∨ k = 1 ∨ k = 2 := by omega
        · have f0 : wr.cell? ⟨f, 0, none⟩ = some (.slice (some ⟨a, 0, none⟩) 3 3) := (R1.k.owns F0.out).cellAt 0 (by omega)
          go_wp2_with fail
          go_loopw [75] (fun c wr => ∃ k : Int, 0 ≤ k ∧ k ≤ 3 ∧ c = .int .i64 k ∧ JR w wr gs (0 + k).toNat) (fun c _ => 3 - (intOf c).toNat)
          case atStart => exact ⟨0, by omega, by omega, rfl, R1⟩
          case round =>
            clear R1
            obtain ⟨k, h0, h2, rfl, R2⟩ := hrel
            obtain rfl | rfl | rfl | rfl : k = 0 ∨ k = 1 ∨ k = 2 ∨ k = 3 := by omega
            · have qs : wr.cell? ⟨gs, 0, none⟩ = some (.bool false) := R2.s.cellAt 0 (by omega)
              have qv : wr.cell? ⟨a, 0, none⟩ = some (L1[0]) := (R2.k.owns A0.out).cellAt 0 (by omega)
              have fo := R2.o.frozenAt 0
              have fs := R2.s.frozenAt 0
              have qo : wr.cell? ⟨w.heap.size, 0, none⟩ = some ((joined 0)[0]) := R2.o.cellAt 0 (by omega)
              simp only [joined, seen, List.getElem_cons_zero, List.getElem_cons_succ] at qv qo
              go_wp2_with fail
              go_roundw
              case rel => exact ⟨1, by omega, by omega, rfl, R2.next 0 0 _ rfl rfl hl1⟩
              case measure => simp [intOf]
            · have qs : wr.cell? ⟨gs, 1, none⟩ = some (.bool false) := R2.s.cellAt 1 (by omega)
              have qv : wr.cell? ⟨a, 1, none⟩ = some (L1[1]) := (R2.k.owns A0.out).cellAt 1 (by omega)
              have fo := R2.o.frozenAt 1
              have fs := R2.s.frozenAt 1
              have qo : wr.cell? ⟨w.heap.size, 1, none⟩ = some ((joined 1)[1]) := R2.o.cellAt 1 (by omega)
              simp only [joined, seen, List.getElem_cons_zero, List.getElem_cons_succ] at qv qo
              go_wp2_with fail
              go_roundw
              case rel => exact ⟨2, by omega, by omega, rfl, R2.next 0 1 _ rfl rfl hl1⟩
              case measure => simp [intOf]
            · have qs : wr.cell? ⟨gs, 2, none⟩ = some (.bool false) := R2.s.cellAt 2 (by omega)
              have qv : wr.cell? ⟨a, 2, none⟩ = some (L1[2]) := (R2.k.owns A0.out).cellAt 2 (by omega)
              have fo := R2.o.frozenAt 2
              have fs := R2.s.frozenAt 2
              have qo : wr.cell? ⟨w.heap.size, 2, none⟩ = some ((joined 2)[2]) := R2.o.cellAt 2 (by omega)
              simp only [joined, seen, List.getElem_cons_zero, List.getElem_cons_succ] at qv qo
              go_wp2_with fail
              go_roundw
              case rel => exact ⟨3, by omega, by omega, rfl, R2.next 0 2 _ rfl rfl hl1⟩
              case measure => simp [intOf]
            · go_wp2_with fail
              go_roundw
              case rel => exact ⟨1, by omega, by omega, rfl, R2⟩
              case measure => simp [intOf]
        · have f0 : wr.cell? ⟨f, 1, none⟩ = some (.slice (some ⟨b, 0, none⟩) 3 3) := (R1.k.owns F0.out).cellAt 1 (by omega)
          go_wp2_with fail
          go_loopw [75] (fun c wr => ∃ k : Int, 0 ≤ k ∧ k ≤ 3 ∧ c = .int .i64 k ∧ JR w wr gs (3 + k).toNat) (fun c _ => 3 - (intOf c).toNat)
          case atStart => exact ⟨0, by omega, by omega, rfl, R1⟩
          case round =>
            clear R1
            obtain ⟨k, h0, h2, rfl, R2⟩ := hrel
            obtain rfl | rfl | rfl | rfl : k = 0 ∨ k = 1 ∨ k = 2 ∨ k = 3 := by omega
            · have qs : wr.cell? ⟨gs, 2, none⟩ = some (.bool true) := R2.s.cellAt 2 (by omega)
              have qv : wr.cell? ⟨b, 0, none⟩ = some (L2[0]) := (R2.k.owns B0.out).cellAt 0 (by omega)
              have fo := R2.o.frozenAt 2
              have fs := R2.s.frozenAt 2
              have qo : wr.cell? ⟨w.heap.size, 2, none⟩ = some ((joined 3)[2]) := R2.o.cellAt 2 (by omega)
              simp only [joined, seen, List.getElem_cons_zero, List.getElem_cons_succ] at qv qo
              go_wp2_with fail
              have e13 : ∀ w, (binOp .add 34 (.float .f64 4613937818241073152) (.float .f64 4621819117588971520)).run Tryd.prog w = .ok (.float .f64 4623507967449235456) w := fun w => by (first | (show (Op.floatArith .add .f64 4613937818241073152 4621819117588971520).run _ w = _; exact run_floatArith w (by decide +kernel)) | (show (Op.floatArith .add .f64 0 0).run _ w = _; exact run_floatArith w (by decide +kernel)))
              have e00 : ∀ w, (binOp .add 34 (.float .f64 0) (.float .f64 0)).run Tryd.prog w = .ok (.float .f64 0) w := fun w => by (first | (show (Op.floatArith .add .f64 4613937818241073152 4621819117588971520).run _ w = _; exact run_floatArith w (by decide +kernel)) | (show (Op.floatArith .add .f64 0 0).run _ w = _; exact run_floatArith w (by decide +kernel)))
              go_quiet (fail)
              go_wp2_with fail
              go_roundw
              case rel => exact ⟨1, by omega, by omega, rfl, R2.next nq 2 _ rfl rfl hl1⟩
              case measure => simp [intOf]
            · have qs : wr.cell? ⟨gs, 3, none⟩ = some (.bool false) := R2.s.cellAt 3 (by omega)
              have qv : wr.cell? ⟨b, 1, none⟩ = some (L2[1]) := (R2.k.owns B0.out).cellAt 1 (by omega)
              have fo := R2.o.frozenAt 3
              have fs := R2.s.frozenAt 3
              have qo : wr.cell? ⟨w.heap.size, 3, none⟩ = some ((joined 4)[3]) := R2.o.cellAt 3 (by omega)
              simp only [joined, seen, List.getElem_cons_zero, List.getElem_cons_succ] at qv qo
              go_wp2_with fail
              go_roundw
              case rel => exact ⟨2, by omega, by omega, rfl, R2.next 0 3 _ rfl rfl hl1⟩
              case measure => simp [intOf]
            · have qs : wr.cell? ⟨gs, 4, none⟩ = some (.bool false) := R2.s.cellAt 4 (by omega)
              have qv : wr.cell? ⟨b, 2, none⟩ = some (L2[2]) := (R2.k.owns B0.out).cellAt 2 (by omega)
              have fo := R2.o.frozenAt 4
              have fs := R2.s.frozenAt 4
              have qo : wr.cell? ⟨w.heap.size, 4, none⟩ = some ((joined 5)[4]) := R2.o.cellAt 4 (by omega)
              simp only [joined, seen, List.getElem_cons_zero, List.getElem_cons_succ] at qv qo
              go_wp2_with fail
              go_roundw
              case rel => exact ⟨3, by omega, by omega, rfl, R2.next 0 4 _ rfl rfl hl1⟩
              case measure => simp [intOf]
            · go_wp2_with fail
              go_roundw
              case rel => exact ⟨2, by omega, by omega, rfl, R2⟩
              case measure => simp [intOf]
        · go_wp2_with fail
          go_ret2
          exact ⟨_, rfl, R1.o, R1.k⟩
end Go.Proofs.YtmndkbebcjpkcaaDoor
