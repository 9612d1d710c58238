/-
  The walks of the statements' own lists of layer 10: same, sameList, listOf, room, kept, wide.
-/
import Derived.Test.YtmadbdecbkmjkaaDoorDRef3
import Derived.Test.YtmadbdecbkmjkaaDoorSame
import Derived.Deep.RegionHeld3
import Derived.Deep.AppendLies
namespace Go.Proofs.YtmadbdecbkmjkaaDoor
open Go Go.RowKit Go.Fl Go.Roots

set_option maxRecDepth 100000 in
set_option maxHeartbeats 400000 in
theorem dsame_yes (a b c d : Nat) (w : World) (h1 : cn a = cn c) (h2 : cn b = cn d) :
    Calls Tryd.prog 24 #[.complex .f64 a b, .complex .f64 c d] w fun e w' => e = .returned (.bool true) ∧ w = w' := by
  have H1 := Lib.hid h1
  have H2 := Lib.hid h2
  clear h1 h2
  go_enter Tryd.func24, Tryd.ntmps24
  go_wp2_with (first
    | (go_at_call 43; (with_reducible refine (Same_yes _ _ _ H1.out).mono ?_); rintro e w1 ⟨rfl, rfl⟩)
    | (go_at_call 43; (with_reducible refine (Same_yes _ _ _ H2.out).mono ?_); rintro e w1 ⟨rfl, rfl⟩))
  go_ret
  exact ⟨rfl, rfl⟩
set_option maxRecDepth 100000 in
set_option maxHeartbeats 400000 in
theorem dsameList_yes (oa ob : Option Addr) (n ca cb : Nat) (f : Nat → Nat × Nat) (w : World) (hn : n ≤ 8796093022208) (ha : Rd w oa n f) (hb : Rd w ob n f) :
    Calls Tryd.prog 17 #[.slice oa n ca, .slice ob n cb] w fun e w' => e = .returned (.bool true) ∧ Kp w w' := by
  go_enter Tryd.func17, Tryd.ntmps17
  go_wp2_with fail
  go_loopw [5, 6, 14] (fun _ _ c wr => ∃ (k : Nat), k ≤ n ∧ c = .int .i64 k ∧ Kp w wr) (fun _ _ c _ => n - (intOf c).toNat)
  case atStart => exact ⟨0, by omega, rfl, Kp.refl _⟩
  case round =>
    obtain ⟨k, hk, rfl, hkp⟩ := hrel
    by_cases hlt : k < n
    · obtain ⟨ga, rfl, hA⟩ := ha (by omega)
      obtain ⟨gb, rfl, hB⟩ := hb (by omega)
      obtain ⟨c1, s1, q1, hc1, hs1⟩ := hA.kp hkp k hlt
      obtain ⟨c2, s2, q2, hc2, hs2⟩ := hB.kp hkp k hlt
      have EC : Hid (cn c1 = cn c2 ∧ cn s1 = cn s2) := Lib.hid ⟨hc1.trans hc2.symm, hs1.trans hs2.symm⟩
      clear hc1 hc2 hs1 hs2 hA hB
      go_wp2_with fail
      go_quiet ((go_at_call 24; exact Calls.quiet_of_same ((dsame_yes _ _ _ _ _ EC.out.1 EC.out.2).mono fun e w' ⟨he, hw⟩ => ⟨he, hw.symm⟩)))
      go_wp2_with fail
      go_roundw
      case rel => exact ⟨k + 1, by omega, by go_num, hkp.drewN nq⟩
      case measure => simp [intOf]; omega
    · obtain rfl : k = n := by omega
      go_wp2_with fail
      go_ret
      exact ⟨rfl, hkp⟩
/-- A slice of words that came in. -/
def Wd (w : World) (o : Option Addr) (n : Nat) (bs : Nat → Int) : Prop := 0 < n → ∃ g off, o = some ⟨g, off, none⟩ ∧ g < w.heap.size ∧ ∀ j, j < n → w.cell? ⟨g, off + j, none⟩ = some (.int .u64 (bs j))
theorem Wd.kp {w w' : World} {o : Option Addr} {n : Nat} {bs : Nat → Int} (h : Wd w o n bs) (k : Kp w w') : Wd w' o n bs := fun hn => by
  obtain ⟨g, off, h1, h2, h3⟩ := h hn; exact ⟨g, off, h1, Nat.lt_of_lt_of_le h2 k.size, fun j hj => k.later (h3 j hj)⟩
/-- The list of these words. -/
def lst (bs : Nat → Int) (j : Nat) : Nat × Nat := (cn (bs (2 * j)).toNat, cn (bs (2 * j + 1)).toNat)
set_option maxRecDepth 100000 in
set_option maxHeartbeats 1000000 in
theorem listOf_any (o : Option Addr) (n cap : Nat) (bs : Nat → Int) (w : World) (hn : n ≤ 17592186044416) (hb : Wd w o n bs) :
    Calls Tryd.prog 12 #[.slice o n cap] w fun e w' => ∃ v, e = .returned v ∧ CO w' w.heap.size v (n / 2) (lst bs) ∧ (∃ g c, v = .slice (some ⟨g, 0, none⟩) (n / 2) c) ∧ Kp w w' := by
  obtain ⟨i0, hi, hz0, hz1, hz2⟩ := info_parts info_c
  have hown0 := owns_empty w
  have hk0 : Kp w (w.alloc (.cells #[] 27)) := (Kp.refl w).alloc _
  go_enter Tryd.func12, Tryd.ntmps12
  go_wp2_with fail
  go_loopw [3, 4] (fun v i wr => ∃ (k : Nat) (xs : List Value), k ≤ n / 2 ∧ i = .int .i64 ((2 * k : Nat) : Int) ∧ wr.ownsRow w.heap.size 27 1 v k xs ∧ PartC (lst bs) xs k ∧ (v = .slice (some ⟨w.heap.size, 0, none⟩) 0 0 ∨ 0 < k) ∧ Kp w wr) (fun _ i _ => n + 1 - (intOf i).toNat)
  case atStart => exact ⟨0, [], by omega, rfl, hown0, fun j hj => absurd hj (by omega), Or.inl rfl, hk0⟩
  case round =>
    clear hown0 hk0
    obtain ⟨k, xs, hk, rfl, hown, hp, hnil, hkp⟩ := hrel
    have hlen := hown.1
    have HNIL := Lib.hid hnil
    clear hnil
    by_cases hlt : 2 * k + 1 < n
    · obtain ⟨g, off, rfl, hgl, hbs⟩ := hb (by omega)
      have q1 := hkp.later (hbs (2 * k) (by omega))
      have q2 := hkp.later (hbs (2 * k + 1) (by omega))
      have HB : Hid (k + 1 ≤ 8796093022208 ∧ w.heap.size ≤ wr.heap.size) := Lib.hid ⟨by omega, hkp.size⟩
      have hg1 : g < wr.heap.size := Nat.lt_of_lt_of_le hgl hkp.size
      have hne : ∀ b, u3.ownBlock = some b → b ≠ g := fun b hb' => by have := (hown.lt b hb').1; omega
      obtain ⟨x, hx⟩ : ∃ x, bs (2 * k) = x := ⟨_, rfl⟩
      obtain ⟨y, hy⟩ : ∃ y, bs (2 * k + 1) = y := ⟨_, rfl⟩
      obtain ⟨i, hik⟩ : ∃ i, 2 * k = i := ⟨_, rfl⟩
      have HL : Hid (cn x.toNat = (lst bs k).1 ∧ cn y.toNat = (lst bs k).2) := Lib.hid ⟨by rw [← hx]; rfl, by rw [← hy]; rfl⟩
      rw [hx] at q1
      rw [hy] at q2
      rw [hik] at q1 q2 hlt ⊢
      have HI := Lib.hid hik
      clear hbs hx hy hik
      have hn1 : (i : Int) + 1 < (n : Int) := by omega
      have hi0 : (0 : Int) ≤ (i : Int) := by omega
      have hil : (i : Int) < (n : Int) := by omega
      have hn0 : (0 : Int) ≤ (i : Int) + 1 := by omega
      have hnt : ((i : Int) + 1).toNat = i + 1 := by omega
      have hnw : IntKind.i64.wrap ((i : Int) + 1) = (i : Int) + 1 := IntWalk.i64_in _ (by omega)
      have HNE := Lib.hid hne
      clear hne
      go_wp2_with fail
      go_region_held3 (fun w' => w'.cell? ⟨g, off + i, none⟩ = some (.int .u64 x) ∧ w'.cell? ⟨g, off + (i + 1), none⟩ = some (.int .u64 y)) (first | go_keep | (go_split_ands; refine ⟨?_, ?_⟩ <;> (rw [hgrow.cell_far _ (by simp; omega) (fun h => (HNE.out _ h.symm) rfl)]; assumption)))
        ((refine step_append_lies _ (by rfl) _ _ 26 (by rfl) w.heap.size 27 i0 (.complex .f64 0 0) 1 16 Tryd.underlying26 hi hz0 hz1 hz2 rfl (by omega) _ k xs (by rfl) ((hown.alloc _).drew) ⟨wr.heap.size, 0, none⟩ 1 1 [.complex .f64 x.toNat y.toNat] (by rfl) (by rfl) (World.news_of_block (cs := #[.complex .f64 x.toNat y.toNat]) (t := 27) (fr := (0, 0)) (heap_alloc_new wr _)) (by simp [Value.oneCell']) (by decide) (by have := HB.out.1; unfold maxLen; exact Nat.le_trans this (by decide)) (Nat.le_trans (Nat.mul_le_mul_right 16 HB.out.1) (by decide)) (Nat.le_trans HB.out.2 (by simp)) (wr.heap.size + 1) (by simp) ?_; intro gg cap' w1 hown1 hgrow hat hlt'))
      have hk5 : Kp w w1 := ((hkp.alloc _).drew).grown hgrow (fun j hj => (hown.lt j hj).1)
      have hp5 := hp.snoc (c := x.toNat) (s := y.toNat) (by simpa using hlen) HL.out.1 HL.out.2
      clear hn0 hnt hnw hgrow hat
      go_wp2_with fail
      go_roundw
      case rel => exact ⟨k + 1, _, by have := HI.out; omega, by have := HI.out; go_num, hown1, hp5, Or.inr (by omega), hk5⟩
      case measure => simp [intOf]; omega
    · go_wp2_with fail
      go_ret
      refine ⟨_, rfl, ⟨xs, by rw [show n / 2 = k by omega]; exact hown, by rw [show n / 2 = k by omega]; exact hp⟩, ?_, hkp⟩
      rw [show n / 2 = k by omega]
      rcases HNIL.out with h | h
      · have hk0 : k = 0 := by
          rcases hown.2 with ⟨h2, h3⟩ | ⟨_, _, _, h2, _⟩
          · exact h3
          · rw [h] at h2; injection h2 with _ h4; exact h4.symm
        exact ⟨w.heap.size, 0, by rw [hk0]; exact h⟩
      · exact owns_form hown h
theorem wide_any (o : Option Addr) (n cap : Nat) (w : World) :
    Calls Tryd.prog 13 #[.slice o n cap] w fun e w' => e = .returned (.bool (decide (200 < n ∧ n ≤ 1024))) ∧ w = w' := by
  by_cases h1 : 200 < n
  · have d1 : decide ((200 : Int) < (n : Int)) = true := by simp; omega
    by_cases h2 : n ≤ 1024
    · have d2 : decide ((n : Int) ≤ 1024) = true := by simp; omega
      rw [decide_eq_true (p := 200 < n ∧ n ≤ 1024) ⟨h1, h2⟩]
      clear h1 h2
      go_enter Tryd.func13, Tryd.ntmps13
      go_wp2_with fail
      go_ret
      exact ⟨rfl, rfl⟩
    · have d2 : decide ((n : Int) ≤ 1024) = false := by simp; omega
      rw [decide_eq_false (p := 200 < n ∧ n ≤ 1024) (fun h => h2 h.2)]
      clear h1 h2
      go_enter Tryd.func13, Tryd.ntmps13
      go_wp2_with fail
      go_ret
      exact ⟨rfl, rfl⟩
  · have d1 : decide ((200 : Int) < (n : Int)) = false := by simp; omega
    rw [decide_eq_false (p := 200 < n ∧ n ≤ 1024) (fun h => h1 h.1)]
    clear h1
    go_enter Tryd.func13, Tryd.ntmps13
    go_wp2_with fail
    go_ret
    exact ⟨rfl, rfl⟩
end Go.Proofs.YtmadbdecbkmjkaaDoor
