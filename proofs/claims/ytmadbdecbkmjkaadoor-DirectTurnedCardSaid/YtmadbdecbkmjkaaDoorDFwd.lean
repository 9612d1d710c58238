/-
  The walks of direct's table and Forward.
-/
import Derived.Test.YtmadbdecbkmjkaaDoorDSumA
namespace Go.Proofs.YtmadbdecbkmjkaaDoor
open Go Go.RowKit Go.Fl Go.Roots

set_option maxRecDepth 100000 in
set_option maxHeartbeats 400000 in
theorem table_any (n : Nat) (w : World) (h1 : 1 ≤ n) (h2 : n ≤ 1024) :
    Calls Tryd.prog 29 #[.int .i64 n] w fun e w' => ∃ g, e = .returned (.tuple #[.slice (some ⟨g, 0, none⟩) n n, .nilIface]) ∧
      w.heap.size ≤ g ∧ g < w'.heap.size ∧ Has w' g n (fun j => root n j) ∧ Kp w w' := by
  have b1 : decide ((n : Int) < 1) = false := by simp; omega
  have b2 : decide ((1024 : Int) < n) = false := by simp; omega
  go_enter Tryd.func29, Tryd.ntmps29
  go_wp2_with (go_at_call 48; (refine (All_any n _ h1 (by omega)).mono ?_); rintro e w2 ⟨g, xs, rfl, hown, ⟨_, hC⟩, hk⟩)
  go_ret2
  exact ⟨g, rfl, (hown.lt g rfl).1, (hown.lt g rfl).2, Has.own hown (Nat.le_refl _) hC, hk⟩
set_option maxRecDepth 100000 in
set_option maxHeartbeats 400000 in
theorem table_bad (n : Int) (aL : Addr) (w : World) (hL : errAt w 2 aL) (h : n < 1 ∨ 1024 < n) :
    Calls Tryd.prog 29 #[.int .i64 n] w fun e w' => e = .returned (.tuple #[.slice none 0 0, .iface 96 (.pointer (some aL))]) ∧ Kp w w' := by
  unfold errAt at hL
  rcases h with h | h
  · have b1 : decide (n < 1) = true := by simpa using h
    go_enter Tryd.func29, Tryd.ntmps29
    go_wp2_with fail
    go_quiet (fail)
    go_wp2_with fail
    go_ret2
    exact ⟨rfl, (Kp.refl _).drewN _⟩
  · have b1 : decide (n < 1) = false := by simp; omega
    have b2 : decide (1024 < n) = true := by simpa using h
    go_enter Tryd.func29, Tryd.ntmps29
    go_wp2_with fail
    go_quiet (fail)
    go_wp2_with fail
    go_ret2
    exact ⟨rfl, (Kp.refl _).drewN _⟩

/-- The first k values are f's. -/
def PartC (f : Nat → Nat × Nat) (xs : List Value) (k : Nat) : Prop := ∀ j, j < k → ∃ c s, xs[j]? = some (.complex .f64 c s) ∧ cn c = (f j).1 ∧ cn s = (f j).2
theorem PartC.step {f : Nat → Nat × Nat} {xs : List Value} {k c s : Nat} (h : PartC f xs k) (hk : k < xs.length) (hc : cn c = (f k).1) (hs : cn s = (f k).2) : PartC f (xs.set k (.complex .f64 c s)) (k + 1) := by
  intro j hj
  by_cases e : j = k
  · subst e; exact ⟨c, s, by simp [hk], hc, hs⟩
  · obtain ⟨c', s', h1, h2⟩ := h j (by omega)
    exact ⟨c', s', by rw [List.getElem?_set_ne (by omega)]; exact h1, h2⟩
theorem PartC.snoc {f : Nat → Nat × Nat} {xs : List Value} {k c s : Nat} (h : PartC f xs k) (hk : xs.length = k) (hc : cn c = (f k).1) (hs : cn s = (f k).2) : PartC f (xs ++ [.complex .f64 c s]) (k + 1) := by
  intro j hj
  by_cases e : j = k
  · subst e; exact ⟨c, s, by simp [hk], hc, hs⟩
  · obtain ⟨c', s', h1, h2⟩ := h j (by omega)
    exact ⟨c', s', by rw [List.getElem?_append_left (by omega)]; exact h1, h2⟩

set_option maxRecDepth 100000 in
set_option maxHeartbeats 400000 in
theorem Forward_any (g n cap : Nat) (f : Nat → Nat × Nat) (w : World) (n1 : 1 ≤ n) (n2 : n ≤ 1024) (hf : Has w g n f) :
    Calls Tryd.prog 9 #[.slice (some ⟨g, 0, none⟩) n cap] w fun e w' => ∃ gy xs, e = .returned (.tuple #[.slice (some ⟨gy, 0, none⟩) n n, .nilIface]) ∧
      w'.ownsRow w.heap.size 27 1 (.slice (some ⟨gy, 0, none⟩) n n) n xs ∧ PartC (fun j => dft f n j) xs n ∧ Kp w w' := by
  obtain ⟨i0, hi, hz0, hz1, hz2⟩ := info_parts info_c
  have hx0 : (w.alloc (.cells #[.slice (some ⟨g, 0, none⟩) n cap] 26)).cell? ⟨w.heap.size, 0, none⟩ = some (.slice (some ⟨g, 0, none⟩) n cap) := cell_of_one (heap_alloc_new w _)
  have hka : Kp w (w.alloc (.cells #[.slice (some ⟨g, 0, none⟩) n cap] 26)) := (Kp.refl w).alloc _
  go_enter Tryd.func9, Tryd.ntmps9
  go_wp2_with (first
    | (go_at_call 29; (refine (table_any n _ n1 n2).mono ?_); rintro e w2 ⟨gw, rfl, hg1, hg2, hW, hk⟩; have hx2 := hk.later hx0)
    | (at_make; refine wpList_make_full _ rfl _ _ 26 rfl w2.heap.size 27 i0 (.complex .f64 0 0) 1 Tryd.underlying26 hi hz0 hz1 _ _ _ _ n rfl rfl rfl rfl (by rw [hz2]; omega) (by unfold maxLen; omega) (Nat.le_refl _) ?_))
  intro w3 hown hgrow
  have hk3 : Kp w2 w3 := (Kp.refl w2).grown hgrow (fun k hk => by cases hk)
  have hkw : Kp w w2 := hka.trans hk
  have hf2 := hf.kp hkw
  clear hgrow hi hz0 hz1 hz2 hx0 hka hk hf hg1 hg2
  go_wp2_with fail
  go_loopw [7, 22] (fun _ i wr => ∃ (k : Nat) (xs : List Value), k ≤ n ∧ i = .int .i64 k ∧ wr.ownsRow w2.heap.size 27 1 (.slice (some ⟨w2.heap.size, 0, none⟩) n n) n xs ∧ PartC (fun j => dft f n j) xs k ∧ Kp w2 wr) (fun _ i _ => n - (intOf i).toNat)
  case atStart => exact ⟨0, _, by omega, rfl, hown, fun j hj => absurd hj (by omega), hk3⟩
  case round =>
    clear hown hk3
    obtain ⟨k, xs, hk, rfl, hown, hp, hkp⟩ := hrel
    have hlen := hown.1
    by_cases hlt : k < n
    · go_wp2_with (go_at_call 30; (refine (fsum_any gw n _ g n cap k f _ n1 n2 (hW.kp hkp) (hkp.later hx2) (hf2.kp hkp)).mono ?_); rintro e w4 ⟨c, s, rfl, hc, hs, hk4⟩; have hown2 := hk4.owns hown; have hcell := hown2.cellAt k (by omega); rw [List.getElem?_eq_getElem (show k < xs.length by omega)] at hcell; have hfr := hown2.frozenAt k)
      go_roundw
      case rel => exact ⟨k + 1, _, by omega, by go_num, (hown2.stored k _).1, hp.step (by omega) hc hs, (hkp.trans hk4).setCell (Nat.le_refl _) _⟩
      case measure => simp [intOf]; omega
    · obtain rfl : k = n := by omega
      go_wp2_with fail
      go_ret2
      exact ⟨_, xs, rfl, owns_mono hown hkw.size, hp, hkw.trans hkp⟩
set_option maxRecDepth 100000 in
set_option maxHeartbeats 400000 in
theorem Forward_bad (b : Option Addr) (n cap : Nat) (aL : Addr) (w : World) (hL : errAt w 2 aL) (h : n < 1 ∨ 1024 < n) :
    Calls Tryd.prog 9 #[.slice b n cap] w fun e w' => e = .returned (.tuple #[.slice none 0 0, .iface 96 (.pointer (some aL))]) ∧ Kp w w' := by
  have hL1 : errAt (w.alloc (.cells #[.slice b n cap] 26)) 2 aL := ((Kp.refl w).alloc _).later hL
  have H : Hid ((n : Int) < 1 ∨ 1024 < (n : Int)) := Lib.hid (by omega)
  clear h hL
  go_enter Tryd.func9, Tryd.ntmps9
  go_wp2_with (go_at_call 29; (refine (table_bad _ aL _ hL1 H.out).mono ?_); rintro e w2 ⟨rfl, hk⟩)
  go_ret2
  exact ⟨rfl, ((Kp.refl w).alloc _).trans hk⟩
end Go.Proofs.YtmadbdecbkmjkaaDoor
