/-
  New orders: order.Times and Blue.
-/
import Derived.Test.YtgjlldapnodfbaaDoorOMake
import Derived.Deep.RegionHeld3
namespace Go.Ord
def two (a b : Tr) (i : Nat) : Tr := if i = 0 then a else b
def Tr.times (a b : Tr) : Tr := .mk 3 0 2 (two a b)
def Tr.blue (n : Int) (m : Tr) : Tr := .mk 4 n 1 (fun _ => m)
end Go.Ord
namespace Go.Proofs.YtgjlldapnodfbaaDoor
open Go Go.RowKit Go.Fl Go.Ord

theorem OIn.form {w : World} {T : Tr} {v : Value} (h : OIn w T v) : ∃ k n m o c, v = .agg #[.int .i64 k, .int .i64 n, .slice o m c] := by
  cases T with
  | nil => exact (OIn.nil h).elim
  | mk k n m kid =>
    obtain ⟨o, c, e, _⟩ := h
    exact ⟨k, n, m, o, c, e⟩
/-- The kids' row, and the order's own block written. -/
theorem set3_other (w : World) (R : Nat) (a b c : Value) (q : Nat) (h : q ≠ R) : (((w.setCell ⟨R, 0, none⟩ a).setCell ⟨R, 1, none⟩ b).setCell ⟨R, 2, none⟩ c).heap[q]? = w.heap[q]? := by
  rw [heap_set_other _ _ _ _ h, heap_set_other _ _ _ _ h, heap_set_other _ _ _ _ h]
theorem Kp.set3 {w0 w : World} {R : Nat} (h : Kp w0 w) (hR : w0.heap.size ≤ R) (a b c : Value) : Kp w0 (((w.setCell ⟨R, 0, none⟩ a).setCell ⟨R, 1, none⟩ b).setCell ⟨R, 2, none⟩ c) := ((h.setCell hR _).setCell hR _).setCell hR _
theorem row6_all (w : World) (a b c d e f : Value) (t : TypeId) : ∀ j u, #[a, b, c, d, e, f][j]? = some u → (w.alloc (.cells #[a, b, c, d, e, f] t)).cell? ⟨w.heap.size, j, none⟩ = some u := by
  intro j u h
  rw [cell_of_row _ _ _ _ _ _ (heap_alloc_new w _)]; exact h
theorem times_fin {N R : Nat} {w5 : World} {S T : Tr} {k1 n1 k2 n2 : Int} {m1 m2 c1 c2 : Nat} {o1 o2 : Option Addr} (hR : R < w5.heap.size) (hN : N ≤ w5.heap.size)
    (hS : OX (fun g => N ≤ g ∧ g ≠ R) w5 S (.agg #[.int .i64 k1, .int .i64 n1, .slice o1 m1 c1])) (hT : OX (fun g => N ≤ g ∧ g ≠ R) w5 T (.agg #[.int .i64 k2, .int .i64 n2, .slice o2 m2 c2])) (a b c : Value) (ty : TypeId) (cp : Nat) :
    OX (fun g => N ≤ g) ((((w5.setCell ⟨R, 0, none⟩ a).setCell ⟨R, 1, none⟩ b).setCell ⟨R, 2, none⟩ c).alloc (.cells #[.int .i64 k1, .int .i64 n1, .slice o1 m1 c1, .int .i64 k2, .int .i64 n2, .slice o2 m2 c2] ty)) (S.times T) (.agg #[.int .i64 3, .int .i64 0, .slice (some ⟨w5.heap.size, 0, none⟩) 2 cp]) := by
  have hsz : ((((w5.setCell ⟨R, 0, none⟩ a).setCell ⟨R, 1, none⟩ b).setCell ⟨R, 2, none⟩ c)).heap.size = w5.heap.size := by simp
  refine ⟨_, _, rfl, ⟨by decide, by decide, by decide⟩, fun _ => ⟨_, _, rfl, ⟨by simp, hN⟩, fun i hi => ?_⟩⟩
  have st : ∀ q, q < w5.heap.size → (N ≤ q ∧ q ≠ R) → ((((w5.setCell ⟨R, 0, none⟩ a).setCell ⟨R, 1, none⟩ b).setCell ⟨R, 2, none⟩ c).alloc (.cells #[.int .i64 k1, .int .i64 n1, .slice o1 m1 c1, .int .i64 k2, .int .i64 n2, .slice o2 m2 c2] ty)).heap[q]? = w5.heap[q]? := fun q hq h => by
    rw [heap_alloc_old _ _ (by rw [hsz]; exact hq), set3_other _ _ _ _ _ _ h.2]
  have hr := row6_all ((((w5.setCell ⟨R, 0, none⟩ a).setCell ⟨R, 1, none⟩ b).setCell ⟨R, 2, none⟩ c)) (.int .i64 k1) (.int .i64 n1) (.slice o1 m1 c1) (.int .i64 k2) (.int .i64 n2) (.slice o2 m2 c2) ty
  rw [hsz] at hr
  obtain rfl | rfl : i = 0 ∨ i = 1 := by omega
  · exact ⟨_, _, _, hr 0 _ rfl, hr 1 _ rfl, hr 2 _ rfl, hS.stay (by simp) st (fun q _ h => h.1)⟩
  · exact ⟨_, _, _, hr 3 _ rfl, hr 4 _ rfl, hr 5 _ rfl, hT.stay (by simp) st (fun q _ h => h.1)⟩
set_option maxRecDepth 100000 in
set_option maxHeartbeats 4000000 in
theorem Times_any (S T : Tr) (u v : Value) (w : World) (hS : OIn w S u) (hT : OIn w T v) (pS : S.parts ≤ 4096) (pT : T.parts ≤ 4096) :
    Calls Tryd.prog 21 #[u, v] w fun e w' => ∃ o c, e = .returned (.agg #[.int .i64 3, .int .i64 0, .slice o 2 c]) ∧ OX (fun g => w.heap.size ≤ g) w' (S.times T) (.agg #[.int .i64 3, .int .i64 0, .slice o 2 c]) ∧ Kp w w' := by
  obtain ⟨k1, n1, m1, o1, c1, rfl⟩ := hS.form
  obtain ⟨k2, n2, m2, o2, c2, rfl⟩ := hT.form
  have hk0 := (((Kp.refl w).alloc (.cells #[.int .i64 k1, .int .i64 n1, .slice o1 m1 c1] 28)).alloc (.cells #[.int .i64 k2, .int .i64 n2, .slice o2 m2 c2] 28)).alloc (.cells #[.int .i64 0, .int .i64 0, .slice none 0 0] 28)
  have hA := heap_alloc_old ((w.alloc (.cells #[.int .i64 k1, .int .i64 n1, .slice o1 m1 c1] 28)).alloc (.cells #[.int .i64 k2, .int .i64 n2, .slice o2 m2 c2] 28)) (.cells #[.int .i64 0, .int .i64 0, .slice none 0 0] 28) (show w.heap.size < _ by simp; omega)
  rw [heap_alloc2_old] at hA
  have hB := heap_alloc2_old (w.alloc (.cells #[.int .i64 k1, .int .i64 n1, .slice o1 m1 c1] 28)) (.cells #[.int .i64 k2, .int .i64 n2, .slice o2 m2 c2] 28) (.cells #[.int .i64 0, .int .i64 0, .slice none 0 0] 28)
  have hR := heap_alloc2_new (w.alloc (.cells #[.int .i64 k1, .int .i64 n1, .slice o1 m1 c1] 28)) (.cells #[.int .i64 k2, .int .i64 n2, .slice o2 m2 c2] 28) (.cells #[.int .i64 0, .int .i64 0, .slice none 0 0] 28)
  rw [World.size_alloc] at hB hR
  obtain ⟨W3, hW3⟩ : ∃ W3, ((w.alloc (.cells #[.int .i64 k1, .int .i64 n1, .slice o1 m1 c1] 28)).alloc (.cells #[.int .i64 k2, .int .i64 n2, .slice o2 m2 c2] 28)).alloc (.cells #[.int .i64 0, .int .i64 0, .slice none 0 0] 28) = W3 := ⟨_, rfl⟩
  rw [hW3] at hk0 hA hB hR
  have cS : Hid (∀ w', Kp W3 w' → Calls Tryd.prog 38 #[.agg #[.int .i64 k1, .int .i64 n1, .slice o1 m1 c1]] w' fun e w'' => ∃ o' c', e = .returned (.agg #[.int .i64 k1, .int .i64 n1, .slice o' m1 c']) ∧ OX (fun g => W3.heap.size ≤ g) w'' S (.agg #[.int .i64 k1, .int .i64 n1, .slice o' m1 c']) ∧ Kp W3 w'' ∧ Kp w' w'') :=
    Lib.hid fun w' hk => (copied_any S _ _ _ _ _ w' (hS.kp (hk0.trans hk)) pS).mono (by rintro e w2 ⟨o', c', rfl, h1, h2⟩; exact ⟨o', c', rfl, h1.mono (fun g _ h => Nat.le_trans hk.size h), hk.trans h2, h2⟩)
  have cT : Hid (∀ w', Kp W3 w' → Calls Tryd.prog 38 #[.agg #[.int .i64 k2, .int .i64 n2, .slice o2 m2 c2]] w' fun e w'' => ∃ o' c', e = .returned (.agg #[.int .i64 k2, .int .i64 n2, .slice o' m2 c']) ∧ OX (fun g => W3.heap.size ≤ g) w'' T (.agg #[.int .i64 k2, .int .i64 n2, .slice o' m2 c']) ∧ Kp W3 w'' ∧ Kp w' w'') :=
    Lib.hid fun w' hk => (copied_any T _ _ _ _ _ w' (hT.kp (hk0.trans hk)) pT).mono (by rintro e w2 ⟨o', c', rfl, h1, h2⟩; exact ⟨o', c', rfl, h1.mono (fun g _ h => Nat.le_trans hk.size h), hk.trans h2, h2⟩)
  clear hS hT
  go_enter Tryd.func21, Tryd.ntmps21
  go_upto_region 1 with fail
  have HN : Hid (Kp w W3 ∧ w.heap.size + 1 + 1 < W3.heap.size) := Lib.hid ⟨hk0, (Array.getElem?_eq_some_iff.1 hR).1⟩
  have HRh := Lib.hid hR
  obtain ⟨A, eA⟩ : ∃ A, w.heap.size = A := ⟨_, rfl⟩
  rw [eA] at hA hB hR HN HRh
  simp only [eA]
  clear hW3 hk0
  obtain ⟨R, eR⟩ : ∃ R, A + 1 + 1 = R := ⟨_, rfl⟩
  obtain ⟨B, eB⟩ : ∃ B, A + 1 = B := ⟨_, rfl⟩
  rw [eR] at hR HN HRh
  rw [eB] at hB
  simp only [eR]
  simp only [eB]
  have hAR : ¬ A = R := by omega
  have hBR : ¬ B = R := by omega
  have hAR' : ¬ R = A := by omega
  have hBR' : ¬ R = B := by omega
  have hRw : Hid (w.heap.size ≤ R) := Lib.hid (by omega)
  clear eA eR eB
  have hlA : A < W3.heap.size := (Array.getElem?_eq_some_iff.1 hA).1
  have hlB : B < W3.heap.size := (Array.getElem?_eq_some_iff.1 hB).1
  have hlR : R < W3.heap.size := (Array.getElem?_eq_some_iff.1 hR).1
  have HF : Hid (∀ w', Kp W3 w' → Hid (w'.cell? ⟨A, 0, none⟩ = some (.int .i64 k1) ∧ w'.cell? ⟨A, 1, none⟩ = some (.int .i64 n1) ∧ w'.cell? ⟨A, 2, none⟩ = some (.slice o1 m1 c1) ∧ w'.cell? ⟨B, 0, none⟩ = some (.int .i64 k2) ∧ w'.cell? ⟨B, 1, none⟩ = some (.int .i64 n2) ∧ w'.cell? ⟨B, 2, none⟩ = some (.slice o2 m2 c2))) :=
    Lib.hid fun w' h => Lib.hid ⟨h.later (cell_of_row _ _ 0 _ _ _ hA), h.later (cell_of_row _ _ 1 _ _ _ hA), h.later (cell_of_row _ _ 2 _ _ _ hA), h.later (cell_of_row _ _ 0 _ _ _ hB), h.later (cell_of_row _ _ 1 _ _ _ hB), h.later (cell_of_row _ _ 2 _ _ _ hB)⟩
  have HG : Hid (∀ (w' : World), Kp W3 w' → ∀ (a b c : Value) (x : Obj), Hid (((((w'.setCell ⟨R, 0, none⟩ a).setCell ⟨R, 1, none⟩ b).setCell ⟨R, 2, none⟩ c).alloc x).cell? ⟨A, 0, none⟩ = some (.int .i64 k1) ∧ ((((w'.setCell ⟨R, 0, none⟩ a).setCell ⟨R, 1, none⟩ b).setCell ⟨R, 2, none⟩ c).alloc x).cell? ⟨A, 1, none⟩ = some (.int .i64 n1) ∧ ((((w'.setCell ⟨R, 0, none⟩ a).setCell ⟨R, 1, none⟩ b).setCell ⟨R, 2, none⟩ c).alloc x).cell? ⟨A, 2, none⟩ = some (.slice o1 m1 c1) ∧ ((((w'.setCell ⟨R, 0, none⟩ a).setCell ⟨R, 1, none⟩ b).setCell ⟨R, 2, none⟩ c).alloc x).cell? ⟨B, 0, none⟩ = some (.int .i64 k2) ∧ ((((w'.setCell ⟨R, 0, none⟩ a).setCell ⟨R, 1, none⟩ b).setCell ⟨R, 2, none⟩ c).alloc x).cell? ⟨B, 1, none⟩ = some (.int .i64 n2) ∧ ((((w'.setCell ⟨R, 0, none⟩ a).setCell ⟨R, 1, none⟩ b).setCell ⟨R, 2, none⟩ c).alloc x).cell? ⟨B, 2, none⟩ = some (.slice o2 m2 c2))) :=
    Lib.hid fun w' h a b c x => by
      have e : ∀ q j, q < W3.heap.size → q ≠ R → ((((w'.setCell ⟨R, 0, none⟩ a).setCell ⟨R, 1, none⟩ b).setCell ⟨R, 2, none⟩ c).alloc x).cell? ⟨q, j, none⟩ = w'.cell? ⟨q, j, none⟩ := fun q j hq hn =>
        World.cell?_of_block (by
          show (((((w'.setCell ⟨R, 0, none⟩ a).setCell ⟨R, 1, none⟩ b).setCell ⟨R, 2, none⟩ c).alloc x)).heap[q]? = _
          rw [heap_alloc_old _ _ (by have := h.size; simp; omega), set3_other _ _ _ _ _ _ hn])
      obtain ⟨e1, e2, e3, e4, e5, e6⟩ := (HF.out w' h).out
      exact Lib.hid ⟨(e A 0 hlA hAR).trans e1, (e A 1 hlA hAR).trans e2, (e A 2 hlA hAR).trans e3, (e B 0 hlB hBR).trans e4, (e B 1 hlB hBR).trans e5, (e B 2 hlB hBR).trans e6⟩
  have HZ : Hid (∀ w', Kp W3 w' → Hid (w'.heap[R]? = some (.cells #[.int .i64 0, .int .i64 0, .slice none 0 0] 28 (0, 0)))) := Lib.hid fun w' h => Lib.hid ((h.block R hlR).trans hR)
  clear hA hB hR
  have kd : Kp W3 W3.drew := (Kp.refl W3).drew
  obtain ⟨z1, z2, z3, z4, z5, z6⟩ := (HF.out _ (Kp.refl _)).out
  go_region_held3 (fun w' => w'.cell? ⟨A, 0, none⟩ = some (.int .i64 k1) ∧ w'.cell? ⟨A, 1, none⟩ = some (.int .i64 n1) ∧ w'.cell? ⟨A, 2, none⟩ = some (.slice o1 m1 c1) ∧ w'.cell? ⟨B, 0, none⟩ = some (.int .i64 k2) ∧ w'.cell? ⟨B, 1, none⟩ = some (.int .i64 n2) ∧ w'.cell? ⟨B, 2, none⟩ = some (.slice o2 m2 c2)) (first | go_keep | exact (HF.out _ hk4).out | exact (HF.out _ hk5).out | exact (HG.out _ hk5 _ _ _ _).out) (first
    | (go_at_call 38; (with_reducible refine (cS.out _ kd).mono ?_); rintro e w4 ⟨oS, cS', rfl, hx4, hk4, hk4'⟩; obtain ⟨v1, v2, v3, v4, v5, v6⟩ := (HF.out _ hk4).out)
    | (go_at_call 38; (with_reducible refine (cT.out _ hk4).mono ?_); rintro e w5 ⟨oT, cT', rfl, hx5, hk5, hk5'⟩; have zr := (HZ.out _ hk5).out; have hlr : R < w5.heap.size := Nat.lt_of_lt_of_le hlR hk5.size; have hnr : ¬ R = w5.heap.size := Nat.ne_of_lt hlr; have y0 : w5.cell? ⟨R, 0, none⟩ = some (.int .i64 0) := cell_of_row _ R 0 _ _ _ zr; have f0 : w5.frozen? ⟨R, 0, none⟩ = false := (by simp only [World.frozen?, zr]; rfl); have y1 : w5.cell? ⟨R, 1, none⟩ = some (.int .i64 0) := cell_of_row _ R 1 _ _ _ zr; have f1 : w5.frozen? ⟨R, 1, none⟩ = false := (by simp only [World.frozen?, zr]; rfl); have y2 : w5.cell? ⟨R, 2, none⟩ = some (.slice none 0 0) := cell_of_row _ R 2 _ _ _ zr; have f2 : w5.frozen? ⟨R, 2, none⟩ = false := (by simp only [World.frozen?, zr]; rfl)))
  go_wp2_with fail
  have hN := HN.out.1.size
  refine bodyPost_ret (ret_order rfl _ _ R (.int .i64 3) (.int .i64 0) (.slice (some ⟨w5.heap.size, 0, none⟩) 2 2) 28 (0, 0) rfl ((heap_alloc_old _ _ (by simp; exact hlr)).trans (heap_set3 _ _ _ _ _ _ _ _ _ _ zr))) rfl ⟨_, _, rfl, ?_, ?_⟩
  · exact times_fin hlr (by have := hk5.size; omega) ((hx4.kp hk5').mono fun g _ h => ⟨by omega, by omega⟩) (hx5.mono fun g _ h => ⟨by omega, by omega⟩) _ _ _ _ _
  · exact Kp.alloc (Kp.set3 (HN.out.1.trans hk5) hRw.out _ _ _) _
theorem blue_fin {N R : Nat} {w5 : World} {T : Tr} {n k2 n2 : Int} {m2 c2 : Nat} {o2 : Option Addr} (hn : 0 ≤ n) (hn2 : n ≤ 16384) (hR : R < w5.heap.size) (hN : N ≤ w5.heap.size)
    (hT : OX (fun g => N ≤ g ∧ g ≠ R) w5 T (.agg #[.int .i64 k2, .int .i64 n2, .slice o2 m2 c2])) (a b c : Value) (ty : TypeId) (cp : Nat) :
    OX (fun g => N ≤ g) ((((w5.setCell ⟨R, 0, none⟩ a).setCell ⟨R, 1, none⟩ b).setCell ⟨R, 2, none⟩ c).alloc (.cells #[.int .i64 k2, .int .i64 n2, .slice o2 m2 c2] ty)) (T.blue n) (.agg #[.int .i64 4, .int .i64 n, .slice (some ⟨w5.heap.size, 0, none⟩) 1 cp]) := by
  have hsz : ((((w5.setCell ⟨R, 0, none⟩ a).setCell ⟨R, 1, none⟩ b).setCell ⟨R, 2, none⟩ c)).heap.size = w5.heap.size := by simp
  refine ⟨_, _, rfl, ⟨by decide, by omega, by omega⟩, fun _ => ⟨_, _, rfl, ⟨by simp, hN⟩, fun i hi => ?_⟩⟩
  have st : ∀ q, q < w5.heap.size → (N ≤ q ∧ q ≠ R) → ((((w5.setCell ⟨R, 0, none⟩ a).setCell ⟨R, 1, none⟩ b).setCell ⟨R, 2, none⟩ c).alloc (.cells #[.int .i64 k2, .int .i64 n2, .slice o2 m2 c2] ty)).heap[q]? = w5.heap[q]? := fun q hq h => by
    rw [heap_alloc_old _ _ (by rw [hsz]; exact hq), set3_other _ _ _ _ _ _ h.2]
  obtain ⟨r1, r2, r3⟩ := box3 (((w5.setCell ⟨R, 0, none⟩ a).setCell ⟨R, 1, none⟩ b).setCell ⟨R, 2, none⟩ c) (.int .i64 k2) (.int .i64 n2) (.slice o2 m2 c2) ty
  rw [hsz] at r1 r2 r3
  obtain rfl : i = 0 := by omega
  exact ⟨_, _, _, r1, r2, r3, hT.stay (by simp) st (fun q _ h => h.1)⟩
set_option maxRecDepth 100000 in
set_option maxHeartbeats 4000000 in
theorem Blue_any (n : Int) (T : Tr) (v : Value) (w : World) (hn : 0 ≤ n) (hn2 : n ≤ 16384) (hT : OIn w T v) (pT : T.parts ≤ 4096) :
    Calls Tryd.prog 22 #[.int .i64 n, v] w fun e w' => ∃ o c, e = .returned (.agg #[.int .i64 4, .int .i64 n, .slice o 1 c]) ∧ OX (fun g => w.heap.size ≤ g) w' (T.blue n) (.agg #[.int .i64 4, .int .i64 n, .slice o 1 c]) ∧ Kp w w' := by
  obtain ⟨k2, n2, m2, o2, c2, rfl⟩ := hT.form
  have hk0 := ((Kp.refl w).alloc (.cells #[.int .i64 k2, .int .i64 n2, .slice o2 m2 c2] 28)).alloc (.cells #[.int .i64 0, .int .i64 0, .slice none 0 0] 28)
  have hA := heap_alloc2_old w (.cells #[.int .i64 k2, .int .i64 n2, .slice o2 m2 c2] 28) (.cells #[.int .i64 0, .int .i64 0, .slice none 0 0] 28)
  have hR := heap_alloc2_new w (.cells #[.int .i64 k2, .int .i64 n2, .slice o2 m2 c2] 28) (.cells #[.int .i64 0, .int .i64 0, .slice none 0 0] 28)
  obtain ⟨W3, hW3⟩ : ∃ W3, (w.alloc (.cells #[.int .i64 k2, .int .i64 n2, .slice o2 m2 c2] 28)).alloc (.cells #[.int .i64 0, .int .i64 0, .slice none 0 0] 28) = W3 := ⟨_, rfl⟩
  rw [hW3] at hk0 hA hR
  have cT : Hid (∀ w', Kp W3 w' → Calls Tryd.prog 38 #[.agg #[.int .i64 k2, .int .i64 n2, .slice o2 m2 c2]] w' fun e w'' => ∃ o' c', e = .returned (.agg #[.int .i64 k2, .int .i64 n2, .slice o' m2 c']) ∧ OX (fun g => W3.heap.size ≤ g) w'' T (.agg #[.int .i64 k2, .int .i64 n2, .slice o' m2 c']) ∧ Kp W3 w'') :=
    Lib.hid fun w' hk => (copied_any T _ _ _ _ _ w' (hT.kp (hk0.trans hk)) pT).mono (by rintro e w2 ⟨o', c', rfl, h1, h2⟩; exact ⟨o', c', rfl, h1.mono (fun g _ h => Nat.le_trans hk.size h), hk.trans h2⟩)
  clear hT
  have a0 := cell_of_row _ _ 0 _ _ _ hA
  have a1 := cell_of_row _ _ 1 _ _ _ hA
  have a2 := cell_of_row _ _ 2 _ _ _ hA
  have hlR : w.heap.size + 1 < W3.heap.size := (Array.getElem?_eq_some_iff.1 hR).1
  go_enter Tryd.func22, Tryd.ntmps22
  go_wp2_with (go_at_call 38; (with_reducible refine (cT.out _ (Kp.refl _)).mono ?_); rintro e w5 ⟨oT, cT', rfl, hx5, hk5⟩; have zr := (hk5.block _ hlR).trans hR; have hlr : w.heap.size + 1 < w5.heap.size := Nat.lt_of_lt_of_le hlR hk5.size; have hnr : ¬ w.heap.size + 1 = w5.heap.size := Nat.ne_of_lt hlr; have y0 : w5.cell? ⟨w.heap.size + 1, 0, none⟩ = some (.int .i64 0) := cell_of_row _ _ 0 _ _ _ zr; have y1 : w5.cell? ⟨w.heap.size + 1, 1, none⟩ = some (.int .i64 0) := cell_of_row _ _ 1 _ _ _ zr; have y2 : w5.cell? ⟨w.heap.size + 1, 2, none⟩ = some (.slice none 0 0) := cell_of_row _ _ 2 _ _ _ zr; have f0 : w5.frozen? ⟨w.heap.size + 1, 0, none⟩ = false := (by simp only [World.frozen?, zr]; rfl); have f1 : w5.frozen? ⟨w.heap.size + 1, 1, none⟩ = false := (by simp only [World.frozen?, zr]; rfl); have f2 : w5.frozen? ⟨w.heap.size + 1, 2, none⟩ = false := (by simp only [World.frozen?, zr]; rfl))
  have hN := hk0.size
  refine bodyPost_ret (ret_order rfl _ _ (w.heap.size + 1) (.int .i64 4) (.int .i64 n) (.slice (some ⟨w5.heap.size, 0, none⟩) 1 1) 28 (0, 0) rfl ((heap_alloc_old _ _ (by simp; exact hlr)).trans (heap_set3 _ _ _ _ _ _ _ _ _ _ zr))) rfl ⟨_, _, rfl, ?_, ?_⟩
  · exact blue_fin hn hn2 hlr (by have := hk5.size; omega) (hx5.mono fun g _ h => ⟨by omega, by omega⟩) _ _ _ _ _
  · exact Kp.alloc (Kp.set3 (hk0.trans hk5) (by omega) _ _ _) _
end Go.Proofs.YtgjlldapnodfbaaDoor
