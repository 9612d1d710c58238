/-
  A dearer part does not make the whole cheaper (plain); order.Blue at every number.
-/
import Derived.Test.YtgjlldapnodfbaaDoorOCosts
namespace Go.Ord
theorem mul_mono {b x x' : Int} (hb : 0 ≤ b) (h : x ≤ x') : b * x ≤ b * x' := Int.mul_le_mul_of_nonneg_left h hb
theorem tcost_left {a b x x' y : Int} {f : Bool} (hb : 0 ≤ b) (h : x ≤ x') : tcost a b x y f ≤ tcost a b x' y f := by
  unfold tcost
  have := mul_mono hb h
  omega
theorem tcost_right {a b x y y' : Int} {f : Bool} (ha : 0 ≤ a) (h : y ≤ y') : tcost a b x y f ≤ tcost a b x y' f := by
  unfold tcost
  have := mul_mono ha h
  omega
theorem bcost_mono {n m x x' : Int} (h : x ≤ x') : bcost n m x ≤ bcost n m x' := by unfold bcost; omega
theorem cost_zero {T : Tr} (h : T.cost.2 = 0) : T.Len ≠ 0 ∧ T.C ≤ 4611686018427387904 ∧ T.cost.1 = T.C := by
  by_cases c : T.Len = 0
  · rw [cost_bad c] at h; cases h
  · by_cases c2 : 4611686018427387904 < T.C
    · rw [cost_dear c c2] at h; cases h
    · rw [cost_good c c2]; exact ⟨c, by omega, rfl⟩
theorem Len_len {T : Tr} (h : T.Len ≠ 0) : T.Len = T.len := by
  obtain ⟨h1, h2, _⟩ := Len_ne h
  exact Len_small h1 h2
/-- The three wholes, out of two parts of the same kind and length. -/
def whole (A W : Tr) (n : Int) (i : Nat) : Tr := if i = 0 then A.times W else if i = 1 then W.times A else A.blue n
theorem times_C (A B : Tr) : (A.times B).C = tcost A.len B.len A.C B.C (A.kind == 2) := C3 0 2 (two A B)
theorem blue_C (A : Tr) (n : Int) : (A.blue n).C = bcost n A.len A.C := C4 n 1 (fun _ => A)
theorem grows {A B W : Tr} {n : Int} (hA : A.cost.2 = 0) (hB : B.cost.2 = 0) (hW : W.cost.2 = 0) (hk : A.kind = B.kind) (hl : A.Len = B.Len) (hc : A.cost.1 ≤ B.cost.1) (i : Nat) :
    ¬ ((whole A W n i).cost.2 = 0 ∧ (whole B W n i).cost.2 = 0 ∧ (whole B W n i).cost.1 < (whole A W n i).cost.1) := by
  rintro ⟨h1, h2, h3⟩
  obtain ⟨a1, a2, a3⟩ := cost_zero hA
  obtain ⟨b1, b2, b3⟩ := cost_zero hB
  obtain ⟨w1, w2, w3⟩ := cost_zero hW
  rw [(cost_zero h1).2.2, (cost_zero h2).2.2] at h3
  rw [a3, b3] at hc
  rw [Len_len a1, Len_len b1] at hl
  have lw := W.len_range
  have la := A.len_range
  have hle : (whole A W n i).C ≤ (whole B W n i).C := by
    unfold whole
    split
    · rw [times_C, times_C, hk, hl]; exact tcost_left (by omega) hc
    · split
      · rw [times_C, times_C, hl]; exact tcost_right (by omega) hc
      · rw [blue_C, blue_C, hl]; exact bcost_mono hc
  omega
end Go.Ord
namespace Go.Proofs.YtgjlldapnodfbaaDoor
open Go Go.RowKit Go.Fl Go.Ord
theorem blue_fin' {N R : Nat} {w5 : World} {T : Tr} {n k2 n2 : Int} {m2 c2 : Nat} {o2 : Option Addr} (hn : -9223372036854775808 ≤ n) (hn2 : n ≤ 9223372036854775807) (hR : R < w5.heap.size) (hN : N ≤ w5.heap.size)
    (hT : OX (fun g => N ≤ g ∧ g ≠ R) w5 T (.agg #[.int .i64 k2, .int .i64 n2, .slice o2 m2 c2])) (a b c : Value) (ty : TypeId) (cp : Nat) :
    OX (fun g => N ≤ g) ((((w5.setCell ⟨R, 0, none⟩ a).setCell ⟨R, 1, none⟩ b).setCell ⟨R, 2, none⟩ c).alloc (.cells #[.int .i64 k2, .int .i64 n2, .slice o2 m2 c2] ty)) (T.blue n) (.agg #[.int .i64 4, .int .i64 n, .slice (some ⟨w5.heap.size, 0, none⟩) 1 cp]) := by
  have hsz : ((((w5.setCell ⟨R, 0, none⟩ a).setCell ⟨R, 1, none⟩ b).setCell ⟨R, 2, none⟩ c)).heap.size = w5.heap.size := by simp
  refine ⟨_, _, rfl, ⟨by decide, by omega, by omega⟩, fun _ => ⟨_, _, rfl, ⟨by simp, hN⟩, fun i hi => ?_⟩⟩
  have st : ∀ q, q < w5.heap.size → (N ≤ q ∧ q ≠ R) → ((((w5.setCell ⟨R, 0, none⟩ a).setCell ⟨R, 1, none⟩ b).setCell ⟨R, 2, none⟩ c).alloc (.cells #[.int .i64 k2, .int .i64 n2, .slice o2 m2 c2] ty)).heap[q]? = w5.heap[q]? := fun q hq h => by
    rw [heap_alloc_old _ _ _ (by rw [hsz]; exact hq), set3_other _ _ _ _ _ _ h.2]
  obtain ⟨r1, r2, r3⟩ := box3 (((w5.setCell ⟨R, 0, none⟩ a).setCell ⟨R, 1, none⟩ b).setCell ⟨R, 2, none⟩ c) (.int .i64 k2) (.int .i64 n2) (.slice o2 m2 c2) ty
  rw [hsz] at r1 r2 r3
  obtain rfl : i = 0 := by omega
  exact ⟨_, _, _, r1, r2, r3, hT.stay (by simp) st (fun q _ h => h.1)⟩
set_option maxRecDepth 100000 in
set_option maxHeartbeats 4000000 in
theorem Blue_all (n : Int) (T : Tr) (v : Value) (w : World) (hn : -9223372036854775808 ≤ n) (hn2 : n ≤ 9223372036854775807) (hT : OIn w T v) (pT : T.parts ≤ 4096) :
    Calls Tryd.prog 22 #[.int .i64 n, v] w fun e w' => ∃ o c, e = .returned (.agg #[.int .i64 4, .int .i64 n, .slice o 1 c]) ∧ OX (fun g => w.heap.size ≤ g) w' (T.blue n) (.agg #[.int .i64 4, .int .i64 n, .slice o 1 c]) ∧ Kp w w' := by
  obtain ⟨k2, n2, m2, o2, c2, rfl⟩ := hT.form
  have hk0 := ((Kp.refl w).alloc (.cells #[.int .i64 k2, .int .i64 n2, .slice o2 m2 c2] 28)).alloc (.cells #[.int .i64 0, .int .i64 0, .slice none 0 0] 28)
  have hA := heap_alloc2_old w (.cells #[.int .i64 k2, .int .i64 n2, .slice o2 m2 c2] 28) (.cells #[.int .i64 0, .int .i64 0, .slice none 0 0] 28)
  have hR := heap_alloc2_new w (.cells #[.int .i64 k2, .int .i64 n2, .slice o2 m2 c2] 28) (.cells #[.int .i64 0, .int .i64 0, .slice none 0 0] 28)
  obtain ⟨W3, hW3⟩ : ∃ W3, (w.alloc (.cells #[.int .i64 k2, .int .i64 n2, .slice o2 m2 c2] 28)).alloc (.cells #[.int .i64 0, .int .i64 0, .slice none 0 0] 28) = W3 := ⟨_, rfl⟩
  rw [hW3] at hk0 hA hR
  have cT : Hid (∀ w', Kp W3 w' → Calls Tryd.prog 38 #[.agg #[.int .i64 k2, .int .i64 n2, .slice o2 m2 c2]] w' fun e w'' => ∃ o' c', e = .returned (.agg #[.int .i64 k2, .int .i64 n2, .slice o' m2 c']) ∧ OX (fun g => W3.heap.size ≤ g) w'' T (.agg #[.int .i64 k2, .int .i64 n2, .slice o' m2 c']) ∧ Kp W3 w'') :=
    Lib.hid fun w' hk => (copied_any T _ _ _ _ _ w' (hT.kp (hk0.trans hk)) pT).mono (by rintro e w2 ⟨o', c', rfl, h1, h2⟩; exact ⟨o', c', rfl, h1.mono (fun g _ h => Nat.le_trans hk.size h), hk.trans h2⟩)
  clear hT
  have a0 := cell_of_row _ _ 0 _ _ _ hA
  have a1 := cell_of_row _ _ 1 _ _ _ hA
  have a2 := cell_of_row _ _ 2 _ _ _ hA
  have hlR : w.heap.size + 1 < W3.heap.size := (Array.getElem?_eq_some_iff.1 hR).1
  go_enter Tryd.func22, Tryd.ntmps22
  go_wp2_with (go_at_call 38; (with_reducible refine (cT.out _ (Kp.refl _)).mono ?_); rintro e w5 ⟨oT, cT', rfl, hx5, hk5⟩; have zr := (hk5.block _ hlR).trans hR; have hlr : w.heap.size + 1 < w5.heap.size := Nat.lt_of_lt_of_le hlR hk5.size; have hnr : ¬ w.heap.size + 1 = w5.heap.size := Nat.ne_of_lt hlr; have y0 : w5.cell? ⟨w.heap.size + 1, 0, none⟩ = some (.int .i64 0) := cell_of_row _ _ 0 _ _ _ zr; have y1 : w5.cell? ⟨w.heap.size + 1, 1, none⟩ = some (.int .i64 0) := cell_of_row _ _ 1 _ _ _ zr; have y2 : w5.cell? ⟨w.heap.size + 1, 2, none⟩ = some (.slice none 0 0) := cell_of_row _ _ 2 _ _ _ zr; have f0 : w5.frozen? ⟨w.heap.size + 1, 0, none⟩ = false := (by simp only [World.frozen?, zr]; rfl); have f1 : w5.frozen? ⟨w.heap.size + 1, 1, none⟩ = false := (by simp only [World.frozen?, zr]; rfl); have f2 : w5.frozen? ⟨w.heap.size + 1, 2, none⟩ = false := (by simp only [World.frozen?, zr]; rfl))
  have hN := hk0.size
  refine bodyPost_ret (ret_order rfl _ _ (w.heap.size + 1) (.int .i64 4) (.int .i64 n) (.slice (some ⟨w5.heap.size, 0, none⟩) 1 1) 28 (0, 0) rfl ((heap_alloc_old _ _ _ (by simp; exact hlr)).trans (heap_set3 _ _ _ _ _ _ _ _ _ _ zr))) rfl ⟨_, _, rfl, ?_, ?_⟩
  · exact blue_fin' hn hn2 hlr (by have := hk5.size; omega) (hx5.mono fun g _ h => ⟨by omega, by omega⟩) _ _ _ _ _
  · exact Kp.alloc (Kp.set3 (hk0.trans hk5) (by omega) _ _ _) _
end Go.Proofs.YtgjlldapnodfbaaDoor
