/-
  The walk of roots.All.
-/
import Derived.Test.YtmadbdecbkmjkaaDoorRApi
namespace Go.Proofs.YtmadbdecbkmjkaaDoor
open Go Go.RowKit Go.Fl Go.Roots

theorem info_c : (Tryd.prog.info? 27).map (fun i => (i.zero, i.size, i.bytes)) = some (some (.complex .f64 0 0), 1, 16) := by kernel_rfl

/-- The first k roots are there. -/
def PartR (n : Nat) (xs : List Value) (k : Nat) : Prop := ∀ j, j < k → ∃ c s, xs[j]? = some (.complex .f64 c s) ∧ cn c = (root n j).1 ∧ cn s = (root n j).2
theorem PartR.step {n : Nat} {xs : List Value} {k c s : Nat} (h : PartR n xs k) (hk : k < xs.length) (hc : cn c = (root n k).1) (hs : cn s = (root n k).2) : PartR n (xs.set k (.complex .f64 c s)) (k + 1) := by
  intro j hj
  by_cases e : j = k
  · subst e; exact ⟨c, s, by simp [hk], hc, hs⟩
  · obtain ⟨c', s', h1, h2⟩ := h j (by omega)
    exact ⟨c', s', by rw [List.getElem?_set_ne (by omega)]; exact h1, h2⟩
set_option maxRecDepth 100000 in
set_option maxHeartbeats 400000 in
theorem All_any (n : Nat) (w : World) (h1 : 1 ≤ n) (h2 : n ≤ 16384) :
    Calls Tryd.prog 48 #[.int .i64 n] w fun e w' => ∃ g xs, e = .returned (.tuple #[.slice (some ⟨g, 0, none⟩) n n, .nilIface]) ∧
      w'.ownsRow w.heap.size 27 1 (.slice (some ⟨g, 0, none⟩) n n) n xs ∧ CL xs (fun j => root n j) n ∧ Kp w w' := by
  have b1 : decide ((n : Int) < 1) = false := by simp; omega
  have b2 : decide ((16384 : Int) < n) = false := by simp; omega
  obtain ⟨i0, hi, hz0, hz1, hz2⟩ := info_parts info_c
  go_enter Tryd.func48, Tryd.ntmps48
  go_wp2_with (at_make; refine wpList_make_full _ rfl _ _ 26 rfl w.heap.size 27 i0 (.complex .f64 0 0) 1 Tryd.underlying26 hi hz0 hz1 _ _ _ _ n rfl rfl rfl rfl (by rw [hz2]; omega) (by unfold maxLen; omega) (Nat.le_refl _) ?_)
  intro w1 hown hgrow
  have hk1 : Kp w w1 := (Kp.refl w).grown hgrow (fun k hk => by cases hk)
  clear hgrow hi hz0 hz1 hz2
  go_wp2_with fail
  go_loopw [5, 17] (fun _ i wr => ∃ (k : Nat) (xs : List Value), k ≤ n ∧ i = .int .i64 k ∧ wr.ownsRow w.heap.size 27 1 (.slice (some ⟨w.heap.size, 0, none⟩) n n) n xs ∧ PartR n xs k ∧ Kp w wr) (fun _ i _ => n - (intOf i).toNat)
  case atStart => exact ⟨0, _, by omega, rfl, hown, fun j hj => absurd hj (by omega), hk1⟩
  case round =>
    clear hown hk1
    obtain ⟨k, xs, hk, rfl, hown, hp, hkp⟩ := hrel
    have hlen := hown.1
    by_cases hlt : k < n
    · go_wp2_with (go_at_call 62; (with_reducible refine (Root_any _ _ _ (by omega) (by omega)).mono ?_); rintro e w2 ⟨c, s, rfl, hc, hs, hk2⟩; have hown2 := hk2.owns hown; have hcell := hown2.cellAt k (by omega); rw [List.getElem?_eq_getElem (show k < xs.length by omega)] at hcell; have hfr := hown2.frozenAt k)
      go_roundw
      case rel => exact ⟨k + 1, _, by omega, by go_num, (hown2.stored k _).1, hp.step (by omega) hc hs, (hkp.trans hk2).setCell (Nat.le_refl _) _⟩
      case measure => simp [intOf]; omega
    · obtain rfl : k = n := by omega
      go_wp2_with fail
      go_ret2
      exact ⟨_, xs, rfl, hown, ⟨by simpa using hlen, hp⟩, hkp⟩

set_option maxRecDepth 100000 in
set_option maxHeartbeats 400000 in
theorem All_bad (n : Int) (aL : Addr) (w : World) (hL : errAt w 2 aL) (h : n < 1 ∨ 16384 < n) :
    Calls Tryd.prog 48 #[.int .i64 n] w fun e w' => e = .returned (.tuple #[.slice none 0 0, .iface 96 (.pointer (some aL))]) ∧ Kp w w' := by
  unfold errAt at hL
  rcases h with h | h
  · have b1 : decide (n < 1) = true := by simpa using h
    go_enter Tryd.func48, Tryd.ntmps48
    go_wp2_with fail
    go_quiet (fail)
    go_wp2_with fail
    go_ret2
    exact ⟨rfl, (Kp.refl _).drewN _⟩
  · have b1 : decide (n < 1) = false := by simp; omega
    have b2 : decide (16384 < n) = true := by simpa using h
    go_enter Tryd.func48, Tryd.ntmps48
    go_wp2_with fail
    go_quiet (fail)
    go_wp2_with fail
    go_ret2
    exact ⟨rfl, (Kp.refl _).drewN _⟩
end Go.Proofs.YtmadbdecbkmjkaaDoor
