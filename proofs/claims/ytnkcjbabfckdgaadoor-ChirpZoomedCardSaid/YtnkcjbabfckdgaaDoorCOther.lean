/-
  The walks of layer 13: Other, Size.
-/
import Derived.Test.YtnkcjbabfckdgaaDoorCSm
import Derived.Test.YtnkcjbabfckdgaaDoorCRef
namespace Go.Proofs.YtnkcjbabfckdgaaDoor
open Go Go.RowKit Go.Fl Go.Roots

/-- A list's cell set: what it reads as. -/
theorem PartC.put {f f' : Nat → Nat × Nat} {xs : List Value} {n : Nat} (h : PartC f xs n) (i c s : Nat) (hi : i < xs.length) (hc : cn c = (f' i).1) (hs : cn s = (f' i).2) (he : ∀ j, j < n → j ≠ i → f' j = f j) : PartC f' (xs.set i (.complex .f64 c s)) n := fun j hj => by
  by_cases e : j = i
  · subst e; exact ⟨c, s, by simp [hi], hc, hs⟩
  · obtain ⟨c', s', h1, h2⟩ := h j hj
    exact ⟨c', s', by rw [List.getElem?_set_ne (by omega)]; exact h1, by rw [he j hj e]; exact h2⟩
/-- The middle of a round: the chirp stands at its first place. -/
def othM (n m k i : Nat) : Nat × Nat := if i = k then ((chirp n i).1, neg (chirp n i).2) else oth n m k i
theorem othM_k (n m k : Nat) : othM n m k k = ((chirp n k).1, neg (chirp n k).2) := by unfold othM; rw [if_pos rfl]
theorem othM_ne {n m k j : Nat} (h : j ≠ k) : othM n m k j = oth n m k j := by unfold othM; rw [if_neg h]
theorem oth_last {n m k : Nat} (hk : k < n) (h1 : 1 ≤ k) (hm : 2 * n ≤ m + 1) : oth n m (k + 1) (m - k) = ((chirp n k).1, neg (chirp n k).2) := by
  unfold oth
  rw [if_neg (by omega), if_pos (by omega), show m - (m - k) = k by omega]
theorem oth_next {n m k j : Nat} (hk : k < n) (hm : 2 * n ≤ m + 1) (hj : j < m) (h : j ≠ m - k) : oth n m (k + 1) j = othM n m k j := by
  unfold othM oth
  by_cases a : j = k
  · rw [if_pos a, if_pos (by omega)]
  · rw [if_neg a]
    by_cases b : j < k
    · rw [if_pos b, if_pos (by omega)]
    · rw [if_neg b, if_neg (by omega)]
      by_cases c : m - j < k
      · rw [if_pos c, if_pos (by omega)]
      · rw [if_neg c, if_neg (by omega)]
theorem oth_first {n m : Nat} {j : Nat} (hj : j < m) : othM n m 0 j = oth n m 1 j := by
  unfold othM oth
  by_cases a : j = 0
  · rw [if_pos a, if_pos (by omega)]
  · rw [if_neg a, if_neg (by omega), if_neg (by omega), if_neg (by omega), if_neg (by omega)]
theorem PartC.same {f f' : Nat → Nat × Nat} {xs : List Value} {n : Nat} (h : PartC f xs n) (he : ∀ j, j < n → f' j = f j) : PartC f' xs n := fun j hj => by
  obtain ⟨c, s, h1, h2⟩ := h j hj
  exact ⟨c, s, h1, by rw [he j hj]; exact h2⟩
set_option maxRecDepth 100000 in
set_option maxHeartbeats 1000000 in
theorem COther_any (n m : Nat) (w : World) (h1 : 1 ≤ n) (h2 : 2 * n ≤ m + 1) (h3 : m ≤ 16384) :
    Calls Tryd.prog 20 #[.int .i64 n, .int .i64 m] w fun e w' => ∃ g xs, e = .returned (.tuple #[.slice (some ⟨g, 0, none⟩) m m, .nilIface]) ∧
      w'.ownsRow w.heap.size 23 1 (.slice (some ⟨g, 0, none⟩) m m) m xs ∧ PartC (oth n m n) xs m ∧ Kp w w' := by
  have b1 : decide ((n : Int) < 1) = false := by simp; omega
  have b2 : decide ((16384 : Int) < m) = false := by simp; omega
  have b3 : decide ((m : Int) < (n : Int)) = false := by simp; omega
  have b4 : decide ((m : Int) < 2 * (n : Int) - 1) = false := by simp; omega
  obtain ⟨i0, hi, hz0, hz1, hz2⟩ := info_parts info_c
  go_enter Tryd.func20, Tryd.ntmps20
  go_wp2_with (at_make; refine wpList_make_full _ rfl _ _ 38 rfl w.heap.size 23 i0 (.complex .f64 0 0) 1 Tryd.underlying38 hi hz0 hz1 _ _ _ _ m rfl rfl rfl rfl (by rw [hz2]; omega) (by unfold maxLen; omega) (Nat.le_refl _) ?_)
  intro w1 hown hgrow
  have hk1 : Kp w w1 := (Kp.refl w).grown hgrow (fun k hk => by cases hk)
  clear hgrow hi hz0 hz1 hz2 b1 b2 b3 b4
  go_wp2_with fail
  go_loopw [7, 8, 9, 32] (fun _ _ _ i wr => ∃ (k : Nat) (xs : List Value), k ≤ n ∧ i = .int .i64 k ∧ wr.ownsRow w.heap.size 23 1 (.slice (some ⟨w.heap.size, 0, none⟩) m m) m xs ∧ PartC (oth n m k) xs m ∧ Kp w wr) (fun _ _ _ i _ => n - (intOf i).toNat)
  case atStart => exact ⟨0, _, by omega, rfl, hown, fun j hj => ⟨0, 0, by simp [toList_madeCells_one, hj], by rw [oth_zero]; exact cn_0, by rw [oth_zero]; exact cn_0⟩, hk1⟩
  case round =>
    clear hown hk1
    obtain ⟨k, xs, hk, rfl, hown, hp, hkp⟩ := hrel
    have hlen := hown.1
    by_cases hlt : k < n
    · rcases Nat.eq_zero_or_pos k with hk0 | hk0
      · subst hk0
        go_wp2_with (first
          | (go_at_call 9; (refine (CAt_any _ _ _ (by omega) (by omega)).mono ?_); rintro e w2 ⟨c, s, rfl, hc, hs, hk2⟩; have hown2 := hk2.owns hown; have hcell := hown2.cellAt 0 (by omega); rw [List.getElem?_eq_getElem (show 0 < xs.length by omega)] at hcell; have hfr := hown2.frozenAt 0)
          | (go_at_call 33; (refine (Conj_any _ _ _).mono ?_); rintro e w4 ⟨rfl, rfl⟩))
        go_roundw
        case rel => exact ⟨1, _, by omega, by go_num, (hown2.stored 0 _).1, (hp.put (f' := othM n m 0) 0 _ _ (by omega) (by rw [othM_k]; exact hc) (by rw [othM_k, cn_negFloat, hs]; rfl) (fun j _ hj => othM_ne hj)).same (fun j hj => (oth_first hj).symm), (hkp.trans hk2).setCell (Nat.le_refl _) _⟩
        case measure => simp [intOf]; omega
      · obtain ⟨p, hp'⟩ : ∃ p, m - k = p := ⟨_, rfl⟩
        have ep : (m : Int) - (k : Int) = (p : Int) := by omega
        have hpm : p < m := by omega
        have hpk : p ≠ k := by omega
        have dk : decide ((0 : Int) < (k : Int)) = true := by simp; omega
        go_wp2_with (first
          | (go_at_call 9; (refine (CAt_any _ _ _ (by omega) (by omega)).mono ?_); rintro e w2 ⟨c, s, rfl, hc, hs, hk2⟩; have hown2 := hk2.owns hown; have hcell := hown2.cellAt k (by omega); rw [List.getElem?_eq_getElem (show k < xs.length by omega)] at hcell; have hfr := hown2.frozenAt k)
          | (go_at_call 33; (refine (Conj_any _ _ _).mono ?_); rintro e w4 ⟨rfl, rfl⟩; obtain ⟨hown3, hst3⟩ := hown2.stored k (.complex .f64 c (Op.negFloat .f64 s)); have hcell3 := hown3.cellAt p (by omega); rw [List.getElem?_eq_getElem (show p < (xs.set k (.complex .f64 c (Op.negFloat .f64 s))).length by simp; omega)] at hcell3; have hfr3 := hown3.frozenAt p))
        go_roundw
        case rel =>
          have hp1 := hp.put (f' := othM n m k) k c (Op.negFloat .f64 s) (by omega) (by rw [othM_k]; exact hc) (by rw [othM_k, cn_negFloat, hs]) (fun j _ hj => othM_ne hj)
          have hp2 := hp1.put (f' := oth n m (k + 1)) p c (Op.negFloat .f64 s) (by simp; omega) (by rw [← hp', oth_last hlt hk0 h2]; exact hc) (by rw [← hp', oth_last hlt hk0 h2, cn_negFloat, hs]) (fun j hj hne => oth_next hlt h2 hj (by omega))
          exact ⟨k + 1, _, by omega, by go_num, (hown3.stored p _).1, hp2, ((hkp.trans hk2).setCell (Nat.le_refl _) _).setCell (Nat.le_refl _) _⟩
        case measure => simp [intOf]; omega
    · obtain rfl : k = n := by omega
      go_wp2_with fail
      go_ret2
      exact ⟨_, xs, rfl, hown, hp, hkp⟩
set_option maxRecDepth 100000 in
set_option maxHeartbeats 1000000 in
theorem rOther_any (n m : Nat) (w : World) (h1 : 1 ≤ n) (h2 : 2 * n ≤ m + 1) (h3 : m ≤ 16384) :
    Calls Tryd.prog 22 #[.int .i64 n, .int .i64 m] w fun e w' => ∃ g xs, e = .returned (.slice (some ⟨g, 0, none⟩) m m) ∧
      w'.ownsRow w.heap.size 23 1 (.slice (some ⟨g, 0, none⟩) m m) m xs ∧ PartC (oth n m n) xs m ∧ Kp w w' := by
  obtain ⟨i0, hi, hz0, hz1, hz2⟩ := info_parts info_c
  go_enter Tryd.func22, Tryd.ntmps22
  go_wp2_with (at_make; refine wpList_make_full _ rfl _ _ 38 rfl w.heap.size 23 i0 (.complex .f64 0 0) 1 Tryd.underlying38 hi hz0 hz1 _ _ _ _ m rfl rfl rfl rfl (by rw [hz2]; omega) (by unfold maxLen; omega) (Nat.le_refl _) ?_)
  intro w1 hown hgrow
  have hk1 : Kp w w1 := (Kp.refl w).grown hgrow (fun k hk => by cases hk)
  clear hgrow hi hz0 hz1 hz2
  go_wp2_with fail
  go_loopw [6, 7] (fun i _ wr => ∃ (k : Nat) (xs : List Value), k ≤ n ∧ i = .int .i64 k ∧ wr.ownsRow w.heap.size 23 1 (.slice (some ⟨w.heap.size, 0, none⟩) m m) m xs ∧ PartC (oth n m k) xs m ∧ Kp w wr) (fun i _ _ => n - (intOf i).toNat)
  case atStart => exact ⟨0, _, by omega, rfl, hown, fun j hj => ⟨0, 0, by simp [toList_madeCells_one, hj], by rw [oth_zero]; exact cn_0, by rw [oth_zero]; exact cn_0⟩, hk1⟩
  case round =>
    clear hown hk1
    obtain ⟨k, xs, hk, rfl, hown, hp, hkp⟩ := hrel
    have hlen := hown.1
    by_cases hlt : k < n
    · rcases Nat.eq_zero_or_pos k with hk0 | hk0
      · subst hk0
        go_wp2_with (go_at_call 29; (refine (rCAt_any _ _ _ (by omega) (by omega)).mono ?_); rintro e w2 ⟨c, s, rfl, hc, hs, hk2⟩; have hown2 := hk2.owns hown; have hcell := hown2.cellAt 0 (by omega); rw [List.getElem?_eq_getElem (show 0 < xs.length by omega)] at hcell; have hfr := hown2.frozenAt 0)
        go_roundw
        case rel => exact ⟨1, _, by omega, by go_num, (hown2.stored 0 _).1, (hp.put (f' := othM n m 0) 0 _ _ (by omega) (by rw [othM_k]; exact hc) (by rw [othM_k, cn_negFloat, hs]; rfl) (fun j _ hj => othM_ne hj)).same (fun j hj => (oth_first hj).symm), (hkp.trans hk2).setCell (Nat.le_refl _) _⟩
        case measure => simp [intOf]; omega
      · obtain ⟨p, hp'⟩ : ∃ p, m - k = p := ⟨_, rfl⟩
        have ep : (m : Int) - (k : Int) = (p : Int) := by omega
        have hpm : p < m := by omega
        have hpk : p ≠ k := by omega
        have dk : decide ((0 : Int) < (k : Int)) = true := by simp; omega
        go_wp2_with (go_at_call 29; (refine (rCAt_any _ _ _ (by omega) (by omega)).mono ?_); rintro e w2 ⟨c, s, rfl, hc, hs, hk2⟩; have hown2 := hk2.owns hown; have hcell := hown2.cellAt k (by omega); rw [List.getElem?_eq_getElem (show k < xs.length by omega)] at hcell; have hfr := hown2.frozenAt k; obtain ⟨hown3, hst3⟩ := hown2.stored k (.complex .f64 c (Op.negFloat .f64 s)); have hread := hown3.cellAt k (by omega); rw [List.getElem?_set_self (by omega)] at hread; have hcell3 := hown3.cellAt p (by omega); rw [List.getElem?_eq_getElem (show p < (xs.set k (.complex .f64 c (Op.negFloat .f64 s))).length by simp; omega)] at hcell3; have hfr3 := hown3.frozenAt p)
        go_roundw
        case rel =>
          have hp1 := hp.put (f' := othM n m k) k c (Op.negFloat .f64 s) (by omega) (by rw [othM_k]; exact hc) (by rw [othM_k, cn_negFloat, hs]) (fun j _ hj => othM_ne hj)
          have hp2 := hp1.put (f' := oth n m (k + 1)) p c (Op.negFloat .f64 s) (by simp; omega) (by rw [← hp', oth_last hlt hk0 h2]; exact hc) (by rw [← hp', oth_last hlt hk0 h2, cn_negFloat, hs]) (fun j hj hne => oth_next hlt h2 hj (by omega))
          exact ⟨k + 1, _, by omega, by go_num, (hown3.stored p _).1, hp2, ((hkp.trans hk2).setCell (Nat.le_refl _) _).setCell (Nat.le_refl _) _⟩
        case measure => simp [intOf]; omega
    · obtain rfl : k = n := by omega
      go_wp2_with fail
      go_ret
      exact ⟨_, xs, rfl, hown, hp, hkp⟩
/-- Which lengths the other list has. -/
def OthOk (n m : Int) : Prop := 1 ≤ n ∧ m ≤ 16384 ∧ n ≤ 16384 ∧ 2 * n - 1 ≤ m
set_option maxRecDepth 100000 in
set_option maxHeartbeats 1000000 in
theorem COther_bad (n m : Int) (aL : Addr) (w : World) (hL : errAt w 0 aL) (hw : -9223372036854775808 ≤ m) (h : ¬ OthOk n m) :
    Calls Tryd.prog 20 #[.int .i64 n, .int .i64 m] w fun e w' => e = .returned (.tuple #[.slice none 0 0, .iface 78 (.pointer (some aL))]) ∧ Kp w w' := by
  unfold errAt at hL
  have key : decide (n < 1) = true ∨ (decide (n < 1) = false ∧ decide (16384 < m) = true) ∨ (decide (n < 1) = false ∧ decide (16384 < m) = false ∧ decide (m < n) = true) ∨
      ((decide (n < 1) = false ∧ decide (16384 < m) = false ∧ decide (m < n) = false ∧ decide (m < 2 * n - 1) = true) ∧ 1 ≤ n ∧ n ≤ 16384) := by
    unfold OthOk at h
    simp only [decide_eq_true_eq, decide_eq_false_iff_not]
    omega
  clear h
  rcases key with b1 | ⟨b1, b2⟩ | ⟨b1, b2, b3⟩ | ⟨⟨b1, b2, b3, b4⟩, h1, h2⟩
  all_goals
    go_enter Tryd.func20, Tryd.ntmps20
    go_wp2_with fail
    go_quiet (fail)
    go_wp2_with fail
    go_ret2
    exact ⟨rfl, (Kp.refl _).drewN _⟩
end Go.Proofs.YtnkcjbabfckdgaaDoor
