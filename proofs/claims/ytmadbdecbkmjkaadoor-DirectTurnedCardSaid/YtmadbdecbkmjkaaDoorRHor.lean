/-
  The walk of roots.horner.
-/
import Derived.Test.YtmadbdecbkmjkaaDoorRSpec
import Derived.Test.YtmadbdecbkmjkaaDoorW
import Derived.Test.YtmadbdecbkmjkaaDoorProg
namespace Go.Proofs.YtmadbdecbkmjkaaDoor
open Go Go.RowKit Go.Fl Go.Roots

/-- Block g holds the coefficients found before number m. -/
def Arr (wr : World) (g first m : Nat) : Prop :=
  (∀ j, j < 9 → wr.cell? ⟨g, j, none⟩ = some (.float .f64 (cof first m j))) ∧ (∀ j, wr.frozen? ⟨g, j, none⟩ = false)
theorem Arr.drewN {wr : World} {g first m : Nat} (h : Arr wr g first m) (n : Nat) : Arr (wr.drewN n) g first m := h
theorem cof_skip {first m : Nat} (h : (m - first) % 2 = 1 ∨ m < first) (j : Nat) : cof first (m + 1) j = cof first m j := by
  unfold cof
  by_cases h1 : 1 ≤ 2 * j + first ∧ 2 * j + first < m
  · rw [if_pos h1, if_pos (by omega)]
  · rw [if_neg h1, if_neg (by omega)]
theorem Arr.skip {wr : World} {g first m : Nat} (h : Arr wr g first m) (hp : (m - first) % 2 = 1 ∨ m < first) : Arr wr g first (m + 1) :=
  ⟨fun j hj => by rw [cof_skip hp]; exact h.1 j hj, h.2⟩
theorem Arr.step {wr : World} {g first m j v : Nat} (h : Arr wr g first m) (hm : m = 2 * j + first) (h1 : 1 ≤ m) (hj : j < 9) (hv : v = C first j) :
    Arr (wr.setCell ⟨g, j, none⟩ (.float .f64 v)) g first (m + 1) := by
  subst hv
  refine ⟨fun i hi => ?_, fun i => ?_⟩
  · by_cases e : i = j
    · subst e
      rw [World.cell?_setCell_same _ _ _ (h.1 i hi)]
      unfold cof; rw [if_pos (by omega)]
    · rw [World.cell?_setCell_other]
      · rw [h.1 i hi]; unfold cof
        by_cases h2 : 1 ≤ 2 * i + first ∧ 2 * i + first < m
        · rw [if_pos h2, if_pos (by omega)]
        · rw [if_neg h2, if_neg (by omega)]
      · intro he; injection he; omega
  · rw [World.frozen?_setCell]; exact h.2 i

/-- Block g holds all the coefficients. -/
def Full (wr : World) (g first : Nat) : Prop := ∀ j, j < 9 → wr.cell? ⟨g, j, none⟩ = some (.float .f64 (C first j))
theorem Full.drewN {wr : World} {g first : Nat} (h : Full wr g first) (n : Nat) : Full (wr.drewN n) g first := h
theorem C00 : C 0 0 = 4607182418800017408 := by decide +kernel
theorem Arr.full0 {wr : World} {g : Nat} (h : Arr wr g 0 17) : Full (wr.setCell ⟨g, 0, none⟩ (.float .f64 4607182418800017408)) g 0 := by
  intro i hi
  by_cases e : i = 0
  · subst e
    rw [World.cell?_setCell_same _ _ _ (h.1 0 hi), C00]
  · rw [World.cell?_setCell_other]
    · rw [h.1 i hi]; unfold cof; rw [if_pos (by omega)]
    · intro he; injection he; omega
theorem Arr.full1 {wr : World} {g : Nat} (h : Arr wr g 1 18) : Full wr g 1 := by
  intro i hi
  rw [h.1 i hi]; unfold cof; rw [if_pos (by omega)]
theorem hor_step (first y j p q r : Nat) (hf : first < 2) (hj : j < 8) (hp : cn p = hor first (cn y) j) (hq : cn q = fl .mul (cn y) (cn p)) (hr : cn r = fl .sub (cn (C first (7 - j))) (cn q)) :
    cn r = hor first (cn y) (j + 1) := by
  rw [hr, hq, hp, C_not first hf _ (by omega)]; rfl
theorem C_at (first m j : Nat) (h : 2 * j + first = m + 1) : fl .quo 4607182418800017408 (fl .mul (F m) (floatOfInt .f64 (m + 1))) = C first j := by
  unfold C; rw [h]; rfl
theorem cof_none (first j : Nat) : cof first 1 j = 0 := by
  unfold cof; rw [if_neg (by omega)]
theorem Arr.start (w : World) (first : Nat) : Arr (w.alloc (.cells #[.float .f64 0, .float .f64 0, .float .f64 0, .float .f64 0, .float .f64 0, .float .f64 0, .float .f64 0, .float .f64 0, .float .f64 0] 95)) w.heap.size first 1 := by
  refine ⟨fun j hj => ?_, fun j => ?_⟩
  · rw [cof_none]
    match j, hj with
    | 0, _ | 1, _ | 2, _ | 3, _ | 4, _ | 5, _ | 6, _ | 7, _ | 8, _ => simp [go_sem]
  · simp [go_sem]

set_option maxRecDepth 100000 in
set_option maxHeartbeats 400000 in
theorem horner0_any (y : Nat) (w : World) :
    Calls Tryd.prog 74 #[.float .f64 y, .int .i64 0] w fun e w' => ∃ r, e = .returned (.float .f64 r) ∧ cn r = horner (cn y) 0 ∧ Kp w w' := by
  go_enter Tryd.func74, Tryd.ntmps74
  go_wp2_with fail
  go_loopw [6, 7] (fun f i wr => ∃ m : Nat, m ≤ 16 ∧ f = .float .f64 (F m) ∧ i = .int .i64 (m + 1) ∧ Arr wr w.heap.size 0 (m + 1) ∧ Kp w wr ∧ w.heap.size < wr.heap.size) (fun _ i _ => 17 - (intOf i).toNat)
  case atStart => exact ⟨0, by omega, rfl, rfl, Arr.start w 0, (Kp.refl w).alloc _, by simp⟩
  case round =>
    obtain ⟨m, h2, rfl, rfl, hA, hk, hs⟩ := hrel
    by_cases hlt : m < 16
    · have hn1 := F_fine m (by omega)
      have hn2 := C_fine (m + 1) (by omega)
      by_cases hp : ((m : Int) + 1) % 2 = 0
      · have hc := hA.1 ((m + 1) / 2) (by omega)
        have hf := hA.2 ((m + 1) / 2)
        have hb : (((m : Int) + 1) % 2 == 0) = true := by simpa using hp
        go_wp2_with (first
          | ((with_reducible apply wpList_flx .mul rfl); exact rfl; exact rfl; exact hn1)
          | ((with_reducible apply wpList_flx .quo rfl); exact rfl; exact rfl; exact hn2))
        go_roundw
        case rel => exact ⟨m + 1, by omega, rfl, by simp, Arr.step hA (j := (m + 1) / 2) (by omega) (by omega) (by omega) (C_at 0 m _ (by omega)), hk.setCell (Nat.le_refl _) _, by simpa [World.setCell] using hs⟩
        case measure => simp [intOf]; omega
      · have hb : (((m : Int) + 1) % 2 == 0) = false := by simpa using hp
        go_wp2_with ((with_reducible apply wpList_flx .mul rfl); exact rfl; exact rfl; exact hn1)
        go_roundw
        case rel => exact ⟨m + 1, by omega, rfl, by simp, Arr.skip hA (.inl (by omega)), hk, hs⟩
        case measure => simp [intOf]; omega
    · obtain rfl : m = 16 := by omega
      rw [show (((16 : Nat) : Int) + 1) = 17 from rfl]
      have hc0 := hA.1 0 (by omega)
      have hf0 := hA.2 0
      have hc8 := hA.1 8 (by omega)
      have HF := Arr.full0 hA
      clear hA
      go_wp2_with fail
      go_loopw [8, 9] (fun p k wx => ∃ j q : Nat, j ≤ 8 ∧ p = .float .f64 q ∧ cn q = hor 0 (cn y) j ∧ k = .int .i64 (7 - j) ∧ Full wx w.heap.size 0 ∧ Kp w wx) (fun _ k _ => (intOf k + 1).toNat)
      case atStart =>
        refine ⟨0, _, by omega, rfl, ?_, by simp, HF, hk.setCell (Nat.le_refl _) _⟩
        exact (C_not 0 (by omega) 8 (by omega))
      case round =>
        obtain ⟨j, q, hj, rfl, hq, rfl, hF, hk2⟩ := hrel
        by_cases hl : j < 8
        · have hc := hF (7 - j) (by omega)
          go_wp2_with (first
            | ((with_reducible apply wpList_fl .mul rfl); exact rfl; exact rfl; intro r1 n1 hr1)
            | ((with_reducible apply wpList_fl .sub rfl); exact rfl; exact rfl; intro r2 n2 hr2))
          go_roundw
          case rel => exact ⟨j + 1, r2, by omega, rfl, hor_step 0 y j q r1 r2 (by omega) hl hq hr1 hr2, by congr 1; omega, hF.drewN _, hk2.drewN _⟩
          case measure => simp [intOf]; omega
        · obtain rfl : j = 8 := by omega
          go_wp2_with fail
          go_ret
          exact ⟨q, rfl, hq, hk2⟩

set_option maxRecDepth 100000 in
set_option maxHeartbeats 400000 in
theorem horner1_any (y : Nat) (w : World) :
    Calls Tryd.prog 74 #[.float .f64 y, .int .i64 1] w fun e w' => ∃ r, e = .returned (.float .f64 r) ∧ cn r = horner (cn y) 1 ∧ Kp w w' := by
  go_enter Tryd.func74, Tryd.ntmps74
  go_wp2_with fail
  go_loopw [6, 7] (fun f i wr => ∃ m : Nat, m ≤ 17 ∧ f = .float .f64 (F m) ∧ i = .int .i64 (m + 1) ∧ Arr wr w.heap.size 1 (m + 1) ∧ Kp w wr ∧ w.heap.size < wr.heap.size) (fun _ i _ => 18 - (intOf i).toNat)
  case atStart => exact ⟨0, by omega, rfl, rfl, Arr.start w 1, (Kp.refl w).alloc _, by simp⟩
  case round =>
    obtain ⟨m, h2, rfl, rfl, hA, hk, hs⟩ := hrel
    by_cases hlt : m < 17
    · have hn1 := F_fine m (by omega)
      have hn2 := C_fine (m + 1) (by omega)
      have hge : decide ((1 : Int) ≤ (m : Int) + 1) = true := by simp; omega
      by_cases hp : (m : Int) % 2 = 0
      · have hc := hA.1 (m / 2) (by omega)
        have hf := hA.2 (m / 2)
        have hb : ((m : Int) % 2 == 0) = true := by simpa using hp
        go_wp2_with (first
          | ((with_reducible apply wpList_flx .mul rfl); exact rfl; exact rfl; exact hn1)
          | ((with_reducible apply wpList_flx .quo rfl); exact rfl; exact rfl; exact hn2))
        go_roundw
        case rel => exact ⟨m + 1, by omega, rfl, by simp, Arr.step hA (j := m / 2) (by omega) (by omega) (by omega) (C_at 1 m _ (by omega)), hk.setCell (Nat.le_refl _) _, by simpa [World.setCell] using hs⟩
        case measure => simp [intOf]; omega
      · have hb : ((m : Int) % 2 == 0) = false := by simpa using hp
        go_wp2_with ((with_reducible apply wpList_flx .mul rfl); exact rfl; exact rfl; exact hn1)
        go_roundw
        case rel => exact ⟨m + 1, by omega, rfl, by simp, Arr.skip hA (.inl (by omega)), hk, hs⟩
        case measure => simp [intOf]; omega
    · obtain rfl : m = 17 := by omega
      rw [show (((17 : Nat) : Int) + 1) = 18 from rfl]
      have hc8 := hA.1 8 (by omega)
      have HF := Arr.full1 hA
      have e8 : cof 1 (17 + 1) 8 = C 1 8 := rfl
      rw [e8] at hc8
      clear hA e8
      go_wp2_with fail
      go_loopw [8, 9] (fun p k wx => ∃ j q : Nat, j ≤ 8 ∧ p = .float .f64 q ∧ cn q = hor 1 (cn y) j ∧ k = .int .i64 (7 - j) ∧ Full wx w.heap.size 1 ∧ Kp w wx) (fun _ k _ => (intOf k + 1).toNat)
      case atStart =>
        refine ⟨0, _, by omega, rfl, ?_, by simp, HF, hk⟩
        exact (C_not 1 (by omega) 8 (by omega))
      case round =>
        obtain ⟨j, q, hj, rfl, hq, rfl, hF, hk2⟩ := hrel
        by_cases hl : j < 8
        · have hc := hF (7 - j) (by omega)
          go_wp2_with (first
            | ((with_reducible apply wpList_fl .mul rfl); exact rfl; exact rfl; intro r1 n1 hr1)
            | ((with_reducible apply wpList_fl .sub rfl); exact rfl; exact rfl; intro r2 n2 hr2))
          go_roundw
          case rel => exact ⟨j + 1, r2, by omega, rfl, hor_step 1 y j q r1 r2 (by omega) hl hq hr1 hr2, by congr 1; omega, hF.drewN _, hk2.drewN _⟩
          case measure => simp [intOf]; omega
        · obtain rfl : j = 8 := by omega
          go_wp2_with fail
          go_ret
          exact ⟨q, rfl, hq, hk2⟩
end Go.Proofs.YtmadbdecbkmjkaaDoor
