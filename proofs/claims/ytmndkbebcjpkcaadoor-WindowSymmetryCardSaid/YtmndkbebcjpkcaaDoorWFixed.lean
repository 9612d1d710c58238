/-
  The walk of the statements' own 'fixed'.
-/
import Derived.Test.YtmndkbebcjpkcaaDoorWFix
namespace Go.Proofs.YtmndkbebcjpkcaaDoor
open Go Go.RowKit Go.Fl Go.Roots

theorem wel_at : wel 1 4 0 = 0 ∧ wel 1 4 1 = 4602678819172646912 ∧ wel 1 4 2 = ONE ∧ wel 1 4 3 = 4602678819172646912 := by decide +kernel
theorem wt_at : wt (fun j => wel 1 (4 : Nat) j) 2 4 0 = ONE ∧ wt (fun j => wel 1 (4 : Nat) j) 2 4 1 = 4602678819172646912 := by decide +kernel
theorem ownsRow_lit {base : Nat} {e : TypeId} (w : World) (cur : Array Value) (n b : Nat) (hb : base ≤ w.heap.size) (hm : n ≤ maxLen) (hs : cur.size = n) (he : b = w.heap.size) :
    (w.alloc (.cells cur e)).ownsRow base e 1 (.slice (some ⟨b, 0, none⟩) n n) n cur.toList := by
  subst he
  exact ⟨by rw [Array.length_toList, hs, Nat.mul_one], .inr ⟨w.heap.size, n, cur, rfl, hb, heap_alloc_new w _, Nat.le_refl _, hm, by omega, by rw [Nat.mul_one, ← hs, ← Array.length_toList, List.take_length]⟩⟩
theorem alloc_size (w : World) (o : Obj) : (w.alloc o).heap.size = w.heap.size + 1 := Array.size_push ..
theorem kp_owns {w w' : World} (k : Kp w w') {base : Nat} {e : TypeId} {size : Nat} {v : Value} {n : Nat} {xs : List Value} (h : w.ownsRow base e size v n xs) : w'.ownsRow base e size v n xs := k.owns h
set_option maxRecDepth 100000 in
set_option maxHeartbeats 1000000 in
theorem fixed_any (w : World) :
    Calls Tryd.prog 5 #[] w fun e w' => e = .returned (.bool true) ∧ Kp w w' := by
  have e0 := cn_0
  have t0 : (ord 0 0 == some .eq) = true := by decide +kernel
  have t1 : (ord 4602678819172646912 (cn 4602678819172646912) == some .eq) = true := by decide +kernel
  have t2 : (ord ONE (cn 4607182418800017408) == some .eq) = true := by decide +kernel
  have t3 : (ord (cn 4623507967449235456) (cn 4623507967449235456) == some .eq) = true := by decide +kernel
  go_enter Tryd.func5, Tryd.ntmps5
  go_wp2_with fail
  refine (Window_any 1 4 _ (by omega) (by omega) (by omega) (by omega)).mono ?_
  rintro e w1 ⟨gw, xs, rfl, hown, hp, hk1⟩
  obtain ⟨c0, hx0, hc0⟩ := hp 0 (by omega)
  obtain ⟨c1, hx1, hc1⟩ := hp 1 (by omega)
  obtain ⟨c2, hx2, hc2⟩ := hp 2 (by omega)
  obtain ⟨c3, hx3, hc3⟩ := hp 3 (by omega)
  have q0 := hown.cellAt 0 (by omega)
  have q1 := hown.cellAt 1 (by omega)
  have q2 := hown.cellAt 2 (by omega)
  have q3 := hown.cellAt 3 (by omega)
  rw [hx0] at q0
  rw [hx1] at q1
  rw [hx2] at q2
  rw [hx3] at q3
  replace hc0 : cn c0 = 0 := hc0.trans wel_at.1
  replace hc1 : cn c1 = 4602678819172646912 := hc1.trans wel_at.2.1
  replace hc2 : cn c2 = ONE := hc2.trans wel_at.2.2.1
  replace hc3 : cn c3 = 4602678819172646912 := hc3.trans wel_at.2.2.2
  have HP := Lib.hid hp
  have HO := Lib.hid hown
  have hn : ((wname 3).toList == [115, 105, 110, 101]) = true := by decide +kernel
  clear hp hown hx0 hx1 hx2 hx3
  go_wp2_with (first
    | (go_at_call 10; (with_reducible refine (Name_any _ _).mono ?_); rintro e w1 ⟨rfl, rfl⟩)
    | (go_at_call 13; refine (Join_fixed w1.heap.size w1.heap.size (w1.heap.size + 1) (w1.heap.size + 2) _ ?j1 ?j2 ?j3).mono ?_))
  case j1 => exact ownsRow_lit _ _ _ _ (by simp only [alloc_size]; omega) (by unfold maxLen; omega) rfl (by simp only [alloc_size])
  case j2 => exact ((ownsRow_lit w1 _ 3 _ (Nat.le_refl _) (by unfold maxLen; omega) rfl rfl).alloc _).alloc _
  case j3 => exact (ownsRow_lit (w1.alloc _) _ 3 _ (by simp only [alloc_size]; omega) (by unfold maxLen; omega) rfl (by simp only [alloc_size])).alloc _
  rintro e w2 ⟨gj, rfl, hj, hk2⟩
  have hk02 : Kp w1 w2 := ((((Kp.refl w1).alloc _).alloc _).alloc _).trans hk2
  have HJ : w2.cell? ⟨gj, 2, none⟩ = some (cx 4623507967449235456) := hj.cellAt 2 (by omega)
  have HO2 := Lib.hid (hk02.owns HO.out)
  have HL := hj.lt gj rfl
  clear q0 q1 q2 q3 hc0 hc1 hc2 hc3 hj HO hk2
  go_wp2_with fail
  refine (Weight_any gw 4 4 _ 2 _ xs _ (by omega) (by omega) (by omega) HO2.out HP.out).mono ?_
  rintro e w3 ⟨gg, ys, rfl, hg, hpg, hk3⟩
  obtain ⟨c0, hx0, hc0⟩ := hpg 0 (by omega)
  obtain ⟨c1, hx1, hc1⟩ := hpg 1 (by omega)
  have q0 := hg.cellAt 0 (by omega)
  have q1 := hg.cellAt 1 (by omega)
  rw [hx0] at q0
  rw [hx1] at q1
  replace hc0 := hc0.trans wt_at.1
  replace hc1 := hc1.trans wt_at.2
  have qj := hk3.later HJ
  clear HP HO2 hx0 hx1 hpg hg HJ
  go_wp2_with fail
  go_ret
  exact ⟨rfl, by repeat (first | exact Kp.refl _ | refine Kp.drewN ?_ _ | refine Kp.trans ?_ (by assumption))⟩
end Go.Proofs.YtmndkbebcjpkcaaDoor
