/-
  The walk of PlannerCosts.
-/
import Derived.Test.YtgjlldapnodfbaaDoorOFixed
import Derived.Test.YtgjlldapnodfbaaDoorOOpen
namespace Go.Proofs.YtgjlldapnodfbaaDoor
open Go Go.RowKit Go.Fl Go.Ord Go.Pr Go.Maps

theorem Errs.four {w : World} {E : Nat → Addr} (h : Errs w E) : Er4 w (E 4) (E 6) (E 7) (E 2) := ⟨h.cell 4 (by decide), h.cell 6 (by decide), h.cell 7 (by decide), h.cell 2 (by decide)⟩
theorem Num_errNo (E : Nat → Addr) (e : Nat) (w : World) (hE : Errs w E) (he : e = 0 ∨ e = 3 ∨ e = 8) :
    Calls Tryd.prog 11 #[errNo (E 7) (E 2) e] w fun r w' => r = .returned (.int .i64 (e : Int)) ∧ Kp w w' := by
  rcases he with rfl | rfl | rfl
  · exact (Num_nil w).mono fun r w' ⟨h1, h2⟩ => ⟨h1, h2 ▸ Kp.refl w⟩
  · exact Num_err E 2 (by decide) w hE
  · exact Num_err E 7 (by decide) w hE
theorem cost_no (T : Tr) : T.cost.2 = 0 ∨ T.cost.2 = 3 ∨ T.cost.2 = 8 := by
  by_cases h : T.Len = 0
  · rw [cost_bad h]; simp
  · by_cases h2 : 4611686018427387904 < T.C
    · rw [cost_dear h h2]; simp
    · rw [cost_good h h2]; simp
set_option maxRecDepth 100000 in
set_option maxHeartbeats 2000000 in
theorem walk_PlannerCosts (W : World) (v : Value) (T : Tr) (hT : OIn W T v) (E : Nat → Addr) (hE : Errs W E) :
    Calls Tryd.prog 4 #[v] W fun e w' => e = .returned (.bool true) ∧ Kp W w' := by
  have HF : Hid (∀ w', Kp W w' → Calls Tryd.prog 8 #[] w' fun e w'' => e = .returned (.bool true) ∧ Kp w' w'') := Lib.hid fun w' k => ofixed_any _ _ _ _ w' (hE.kp k).four
  have HC : Hid (∀ w', Kp W w' → Calls Tryd.prog 18 #[v] w' fun e w'' => e = .returned (.tuple #[.int .i64 T.cost.1, errNo (E 7) (E 2) T.cost.2]) ∧ Kp w' w'') := Lib.hid fun w' k => pCost_any T v _ _ w' (hT.kp k) ((hE.kp k).cell 7 (by decide)) ((hE.kp k).cell 2 (by decide))
  have HR : Hid (∀ w', Kp W w' → Calls Tryd.prog 19 #[v] w' fun e w'' => e = .returned (.tuple #[.int .i64 T.cost.1, .int .i64 (T.cost.2 : Nat)]) ∧ Kp w' w'') := Lib.hid fun w' k => rCost_any T v w' (hT.kp k)
  have HN : Hid (∀ w', Kp W w' → Calls Tryd.prog 11 #[errNo (E 7) (E 2) T.cost.2] w' fun e w'' => e = .returned (.int .i64 (T.cost.2 : Nat)) ∧ Kp w' w'') := Lib.hid fun w' k => Num_errNo E _ w' (hE.kp k) (cost_no T)
  obtain ⟨k, n, m, o, c, rfl⟩ := hT.form
  obtain ⟨C, hC⟩ : ∃ C, T.cost.1 = C := ⟨_, rfl⟩
  obtain ⟨e0, he0⟩ : ∃ e0, T.cost.2 = e0 := ⟨_, rfl⟩
  rw [hC, he0] at HC HR
  rw [he0] at HN
  obtain ⟨ev, hev⟩ : ∃ ev, errNo (E 7) (E 2) e0 = ev := ⟨_, rfl⟩
  rw [hev] at HC HN
  clear hev hC he0 hT hE
  have hA := heap_alloc_new W (.cells #[.int .i64 k, .int .i64 n, .slice o m c] 28)
  have k0 := (Kp.refl W).alloc (.cells #[.int .i64 k, .int .i64 n, .slice o m c] 28)
  go_enter Tryd.func4, Tryd.ntmps4
  go_wp2_with (first
    | (go_at_call 8; (with_reducible refine (HF.out _ k0).mono ?_); rintro e w1 ⟨rfl, hk1⟩; have kA := k0.trans hk1; obtain ⟨⟨b0, b1, b2⟩, _⟩ := row3_facts ((hk1.block _ (Array.getElem?_eq_some_iff.1 hA).1).trans hA))
    | (go_at_call 18; (with_reducible refine (HC.out _ kA).mono ?_); rintro e w2 ⟨rfl, hk2⟩; have kB := kA.trans hk2; obtain ⟨⟨d0, d1, d2⟩, _⟩ := row3_facts (((hk1.trans hk2).block _ (Array.getElem?_eq_some_iff.1 hA).1).trans hA))
    | (go_at_call 19; (with_reducible refine (HR.out _ kB).mono ?_); rintro e w3 ⟨rfl, hk3⟩; have kC := kB.trans hk3)
    | (go_at_call 11; (with_reducible refine (HN.out _ kC).mono ?_); rintro e w4 ⟨rfl, hk4⟩))
  go_ret
  exact ⟨rfl, kC.trans hk4⟩
end Go.Proofs.YtgjlldapnodfbaaDoor
