/-
  The walks of direct.At.
-/
import Derived.Test.YtmadbdecbkmjkaaDoorDSlide
namespace Go.Proofs.YtmadbdecbkmjkaaDoor
open Go Go.RowKit Go.Fl Go.Roots

/-- Is the place wrong? -/
def offRange (m at' jump n : Int) : Prop := at' < 0 ∨ m ≤ at' ∨ jump < 1 ∨ (1 < n ∧ (m - 1 - at') / (n - 1) < jump)
theorem at_in {m at' jump n : Nat} (_ : at' < m) (h2 : (jump : Int) ≤ ((m : Int) - 1 - at') / ((n : Int) - 1)) (n1 : 1 < n) : ∀ j, j < n → at' + j * jump < m := by
  intro j hj
  have h3 := Int.mul_ediv_self_le (x := (m : Int) - 1 - at') (k := (n : Int) - 1) (by omega)
  have h4 : ((n : Int) - 1) * (jump : Int) ≤ ((n : Int) - 1) * (((m : Int) - 1 - at') / ((n : Int) - 1)) := Int.mul_le_mul_of_nonneg_left h2 (by omega)
  have h5 : (j : Int) * (jump : Int) ≤ ((n : Int) - 1) * (jump : Int) := Int.mul_le_mul_of_nonneg_right (by omega) (by omega)
  have h6 : ((j * jump : Nat) : Int) = (j : Int) * (jump : Int) := Int.natCast_mul ..
  omega
theorem alloc_size (w : World) (o : Obj) : (w.alloc o).heap.size = w.heap.size + 1 := Array.size_push ..
theorem boxes3 (w : World) (u v x : Value) (t1 t2 t3 : TypeId) :
    (((w.alloc (.cells #[u] t1)).alloc (.cells #[v] t2)).alloc (.cells #[x] t3)).cell? ⟨w.heap.size, 0, none⟩ = some u ∧
    (((w.alloc (.cells #[u] t1)).alloc (.cells #[v] t2)).alloc (.cells #[x] t3)).cell? ⟨w.heap.size + 1, 0, none⟩ = some v ∧
    (((w.alloc (.cells #[u] t1)).alloc (.cells #[v] t2)).alloc (.cells #[x] t3)).cell? ⟨w.heap.size + 1 + 1, 0, none⟩ = some x ∧
    Kp w (((w.alloc (.cells #[u] t1)).alloc (.cells #[v] t2)).alloc (.cells #[x] t3)) := by
  have h1 : (w.alloc (.cells #[u] t1)).cell? ⟨w.heap.size, 0, none⟩ = some u := cell_of_one (heap_alloc_new w _)
  have h2 : ((w.alloc (.cells #[u] t1)).alloc (.cells #[v] t2)).cell? ⟨w.heap.size + 1, 0, none⟩ = some v := by
    have := cell_of_one (heap_alloc_new (w.alloc (.cells #[u] t1)) (.cells #[v] t2 (0, 0)))
    rwa [alloc_size] at this
  have h3 : (((w.alloc (.cells #[u] t1)).alloc (.cells #[v] t2)).alloc (.cells #[x] t3)).cell? ⟨w.heap.size + 1 + 1, 0, none⟩ = some x := by
    have := cell_of_one (heap_alloc_new ((w.alloc (.cells #[u] t1)).alloc (.cells #[v] t2)) (.cells #[x] t3 (0, 0)))
    rwa [alloc_size, alloc_size] at this
  exact ⟨(((Kp.refl _).alloc _).alloc _).later h1, ((Kp.refl _).alloc _).later h2, h3, (((Kp.refl _).alloc _).alloc _).alloc _⟩
set_option maxRecDepth 100000 in
set_option maxHeartbeats 400000 in
theorem At_any (g m cap at' jump n : Nat) (k : Int) (f : Nat → Nat × Nat) (w : World) (n1 : 1 ≤ n) (n2 : n ≤ 1024) (hm : m ≤ 17592186044416) (ha : at' < m) (hj : 1 ≤ jump) (hjm : jump ≤ 9223372036854775807) (hr : 1 < n → (jump : Int) ≤ ((m : Int) - 1 - at') / ((n : Int) - 1)) (hf : Has w g m f) :
    Calls Tryd.prog 22 #[.slice (some ⟨g, 0, none⟩) m cap, .int .i64 at', .int .i64 jump, .int .i64 n, .int .i64 k] w fun e w' => ∃ c s, e = .returned (.tuple #[.complex .f64 c s, .nilIface]) ∧ cn c = (dft (fun j => f (at' + j * jump)) n k).1 ∧ cn s = (dft (fun j => f (at' + j * jump)) n k).2 ∧ Kp w w' := by
  obtain ⟨x0, a0, j0, hk0⟩ := boxes3 w (.slice (some ⟨g, 0, none⟩) m cap) (.int .i64 at') (.int .i64 jump) 26 3 3
  have bs : Hid _ := Lib.hid (And.intro x0 (And.intro a0 (And.intro j0 hk0)))
  clear x0 a0 j0 hk0
  go_enter Tryd.func22, Tryd.ntmps22
  go_wp2_with (go_at_call 29; (refine (table_any n _ n1 n2).mono ?_); rintro e w2 ⟨gw, rfl, hg1, hg2, hW, hk⟩)
  have x2 := hk.later bs.out.1
  have a2 := hk.later bs.out.2.1
  have j2 := hk.later bs.out.2.2.1
  have hkw := bs.out.2.2.2.trans hk
  have hf2 := hf.kp hkw
  clear bs hk hg1 hg2 hf
  have d0 : decide ((at' : Int) < 0) = false := by simp
  have d1 : decide ((m : Int) ≤ (at' : Int)) = false := by simp; omega
  have d1' : ¬ m ≤ at' := by omega
  have d2 : decide ((jump : Int) < 1) = false := by simp; omega
  have d2' : ¬ jump < 1 := by omega
  by_cases hn : 1 < n
  · have hrn := hr hn
    have hin := at_in ha hrn hn
    have e1 : IntKind.i64.wrap ((m : Int) - 1) = (m : Int) - 1 := IntWalk.i64_in _ (by omega)
    have e2 : IntKind.i64.wrap ((m : Int) - 1 - (at' : Int)) = ((m - 1 - at' : Nat) : Int) := by rw [IntWalk.i64_in _ (by omega)]; omega
    have e3 : IntKind.i64.wrap ((n : Int) - 1) = ((n - 1 : Nat) : Int) := by rw [IntWalk.i64_in _ (by omega)]; omega
    obtain ⟨q, hq⟩ : ∃ q : Nat, (m - 1 - at') / (n - 1) = q := ⟨_, rfl⟩
    have e4 : (((m - 1 - at' : Nat) : Int)).tdiv ((n - 1 : Nat) : Int) = (q : Int) := by rw [← Int.ofNat_tdiv, hq]
    have e5 : IntKind.i64.wrap ((q : Nat) : Int) = (q : Int) := IntWalk.i64_in _ (by have := Nat.div_le_self (m - 1 - at') (n - 1); omega)
    have d3 : ¬ q < jump := by
      have : (((m - 1 - at') / (n - 1) : Nat) : Int) = ((m : Int) - 1 - at') / ((n : Int) - 1) := by rw [Int.natCast_ediv]; congr 1 <;> omega
      rw [hq] at this
      omega
    have dn : decide ((1 : Int) < (n : Int)) = true := by simp; omega
    have HX := Lib.hid hin
    clear hin hrn hr hq
    go_wp2_with fail
    go_quiet (fail)
    have hf3 := hf2.kp ((Kp.refl w2).drewN nq)
    have hW3 := hW.kp ((Kp.refl w2).drewN nq)
    have x3 : (w2.drewN nq).cell? ⟨w.heap.size, 0, none⟩ = _ := x2
    have a3 : (w2.drewN nq).cell? ⟨w.heap.size + 1, 0, none⟩ = _ := a2
    have j3 : (w2.drewN nq).cell? ⟨w.heap.size + 1 + 1, 0, none⟩ = _ := j2
    go_wp2_with (go_at_call 30; (refine (asum_any gw n _ _ _ g n m cap at' jump k f _ n1 n2 hW3 x3 a3 j3 hf3 (by omega) HX.out).mono ?_); rintro e w4 ⟨c, s, rfl, hc, hs, hk4⟩)
    go_ret2
    exact ⟨c, s, rfl, hc, hs, (hkw.drewN _).trans hk4⟩
  · obtain rfl : n = 1 := by omega
    have dn : decide ((1 : Int) < ((1 : Nat) : Int)) = false := by decide
    clear hr
    go_wp2_with fail
    go_quiet (fail)
    have hf3 := hf2.kp ((Kp.refl w2).drewN nq)
    have hW3 := hW.kp ((Kp.refl w2).drewN nq)
    have x3 : (w2.drewN nq).cell? ⟨w.heap.size, 0, none⟩ = _ := x2
    have a3 : (w2.drewN nq).cell? ⟨w.heap.size + 1, 0, none⟩ = _ := a2
    have j3 : (w2.drewN nq).cell? ⟨w.heap.size + 1 + 1, 0, none⟩ = _ := j2
    go_wp2_with (go_at_call 30; (refine (asum_any gw 1 _ _ _ g 1 m cap at' jump k f _ n1 n2 hW3 x3 a3 j3 hf3 (by omega) (fun j hj => by (have h0 : j = 0 := by omega); subst h0; omega)).mono ?_); rintro e w4 ⟨c, s, rfl, hc, hs, hk4⟩)
    go_ret2
    exact ⟨c, s, rfl, hc, hs, (hkw.drewN _).trans hk4⟩
set_option maxRecDepth 100000 in
set_option maxHeartbeats 400000 in
theorem At_len (b : Option Addr) (m cap : Nat) (at' jump n k : Int) (aL : Addr) (w : World) (hL : errAt w 2 aL) (h : n < 1 ∨ 1024 < n) :
    Calls Tryd.prog 22 #[.slice b m cap, .int .i64 at', .int .i64 jump, .int .i64 n, .int .i64 k] w fun e w' => e = .returned (.tuple #[.complex .f64 0 0, .iface 96 (.pointer (some aL))]) ∧ Kp w w' := by
  obtain ⟨_, _, _, hk0⟩ := boxes3 w (.slice b m cap) (.int .i64 at') (.int .i64 jump) 26 3 3
  have H := Lib.hid h
  have HL := Lib.hid (hk0.later hL)
  have HK := Lib.hid hk0
  clear h hL hk0
  go_enter Tryd.func22, Tryd.ntmps22
  go_wp2_with (go_at_call 29; (refine (table_bad _ aL _ HL.out H.out).mono ?_); rintro e w2 ⟨rfl, hk⟩)
  go_ret2
  exact ⟨rfl, HK.out.trans hk⟩
/-- The guard of At, reckoned: the place is wrong. -/
theorem At_range (b : Option Addr) (m cap : Nat) (at' jump : Int) (n : Nat) (k : Int) (aR : Addr) (w : World) (hR : errAt w 0 aR) (n1 : 1 ≤ n) (n2 : n ≤ 1024) (hm : m ≤ 17592186044416) (wj : jump ≤ 9223372036854775807) (h : offRange m at' jump n) :
    Calls Tryd.prog 22 #[.slice b m cap, .int .i64 at', .int .i64 jump, .int .i64 n, .int .i64 k] w fun e w' => e = .returned (.tuple #[.complex .f64 0 0, .iface 96 (.pointer (some aR))]) ∧ Kp w w' := by
  obtain ⟨x0, a0, j0, hk0⟩ := boxes3 w (.slice b m cap) (.int .i64 at') (.int .i64 jump) 26 3 3
  have bs : Hid _ := Lib.hid (And.intro x0 (And.intro a0 (And.intro j0 hk0)))
  clear x0 a0 j0 hk0
  unfold errAt at hR
  by_cases c1 : at' < 0
  · have d1 : decide (at' < 0) = true := by simpa using c1
    clear h
    go_enter Tryd.func22, Tryd.ntmps22
    go_wp2_with (go_at_call 29; (refine (table_any n _ n1 n2).mono ?_); rintro e w2 ⟨gw, rfl, hg1, hg2, hW, hk⟩)
    have x2 := hk.later bs.out.1
    have a2 := hk.later bs.out.2.1
    have j2 := hk.later bs.out.2.2.1
    have hkw := bs.out.2.2.2.trans hk
    have r2 := hkw.later hR
    clear bs hk hg1 hg2 hR hW
    go_quiet (fail)
    go_wp2_with fail
    go_quiet (fail)
    go_wp2_with fail
    go_ret2
    exact ⟨rfl, (hkw.drewN _).drewN _⟩
  have d1 : decide (at' < 0) = false := by simpa using c1
  by_cases c2 : (m : Int) ≤ at'
  · have d2 : decide ((m : Int) ≤ at') = true := by simpa using c2
    clear h
    go_enter Tryd.func22, Tryd.ntmps22
    go_wp2_with (go_at_call 29; (refine (table_any n _ n1 n2).mono ?_); rintro e w2 ⟨gw, rfl, hg1, hg2, hW, hk⟩)
    have x2 := hk.later bs.out.1
    have a2 := hk.later bs.out.2.1
    have j2 := hk.later bs.out.2.2.1
    have hkw := bs.out.2.2.2.trans hk
    have r2 := hkw.later hR
    clear bs hk hg1 hg2 hR hW
    go_quiet (fail)
    go_wp2_with fail
    go_quiet (fail)
    go_wp2_with fail
    go_ret2
    exact ⟨rfl, (hkw.drewN _).drewN _⟩
  have d2 : decide ((m : Int) ≤ at') = false := by simpa using c2
  by_cases c3 : jump < 1
  · have d3 : decide (jump < 1) = true := by simpa using c3
    clear h
    go_enter Tryd.func22, Tryd.ntmps22
    go_wp2_with (go_at_call 29; (refine (table_any n _ n1 n2).mono ?_); rintro e w2 ⟨gw, rfl, hg1, hg2, hW, hk⟩)
    have x2 := hk.later bs.out.1
    have a2 := hk.later bs.out.2.1
    have j2 := hk.later bs.out.2.2.1
    have hkw := bs.out.2.2.2.trans hk
    have r2 := hkw.later hR
    clear bs hk hg1 hg2 hR hW
    go_quiet (fail)
    go_wp2_with fail
    go_quiet (fail)
    go_wp2_with fail
    go_ret2
    exact ⟨rfl, (hkw.drewN _).drewN _⟩
  have d3 : decide (jump < 1) = false := by simpa using c3
  obtain ⟨hn, hq⟩ : 1 < (n : Int) ∧ ((m : Int) - 1 - at') / ((n : Int) - 1) < jump := by
    rcases h with h | h | h | h
    · exact absurd h c1
    · exact absurd h c2
    · exact absurd h c3
    · exact h
  have d4 : decide ((1 : Int) < (n : Int)) = true := by simpa using hn
  obtain ⟨a, rfl⟩ := Int.eq_ofNat_of_zero_le (show 0 ≤ at' by omega)
  have d2' : ¬ m ≤ a := by omega
  have e1 : IntKind.i64.wrap ((m : Int) - 1) = (m : Int) - 1 := IntWalk.i64_in _ (by omega)
  have e2 : IntKind.i64.wrap ((m : Int) - 1 - (a : Int)) = ((m - 1 - a : Nat) : Int) := by rw [IntWalk.i64_in _ (by omega)]; omega
  have e3 : IntKind.i64.wrap ((n : Int) - 1) = ((n - 1 : Nat) : Int) := by rw [IntWalk.i64_in _ (by omega)]; omega
  obtain ⟨q, hq'⟩ : ∃ q : Nat, (m - 1 - a) / (n - 1) = q := ⟨_, rfl⟩
  have e4 : (((m - 1 - a : Nat) : Int)).tdiv ((n - 1 : Nat) : Int) = (q : Int) := by rw [← Int.ofNat_tdiv, hq']
  have d5 : decide ((q : Int) < jump) = true := by
    have : (((m - 1 - a) / (n - 1) : Nat) : Int) = ((m : Int) - 1 - a) / ((n : Int) - 1) := by rw [Int.natCast_ediv]; congr 1 <;> omega
    rw [hq'] at this
    simp; omega
  have hqm : q ≤ m := by rw [← hq']; exact Nat.le_trans (Nat.div_le_self _ _) (by omega)
  have hqb : -9223372036854775808 ≤ (q : Int) ∧ (q : Int) ≤ 9223372036854775807 := by clear e1 e2 e3 e4 hq hq'; omega
  have e5 : IntKind.i64.wrap ((q : Nat) : Int) = (q : Int) := IntWalk.i64_in _ hqb
  have e6 : wrap64 ((q : Nat) : Int) = (q : Int) := (IntWalk.i64_left _).symm.trans e5
  clear h hq hq' c1 c2 c3
  go_enter Tryd.func22, Tryd.ntmps22
  go_wp2_with (go_at_call 29; (refine (table_any n _ n1 n2).mono ?_); rintro e w2 ⟨gw, rfl, hg1, hg2, hW, hk⟩)
  have x2 := hk.later bs.out.1
  have a2 := hk.later bs.out.2.1
  have j2 := hk.later bs.out.2.2.1
  have hkw := bs.out.2.2.2.trans hk
  have r2 := hkw.later hR
  clear bs hk hg1 hg2 hR hW
  go_quiet (fail)
  go_wp2_with fail
  go_quiet (fail)
  go_wp2_with fail
  go_ret2
  exact ⟨rfl, (hkw.drewN _).drewN _⟩
end Go.Proofs.YtmadbdecbkmjkaaDoor
