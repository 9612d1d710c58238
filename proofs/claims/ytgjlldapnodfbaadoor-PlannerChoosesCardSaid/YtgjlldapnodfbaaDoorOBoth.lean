/-
  Choose of the planner and of the reference, side by side; the walk of PlannerChooses.
-/
import Derived.Test.YtgjlldapnodfbaaDoorOChooses
import Derived.Test.YtgjlldapnodfbaaDoorORefI
namespace Go.Proofs.YtgjlldapnodfbaaDoor
open Go Go.RowKit Go.Fl Go.Ord Go.Pr

theorem both_choose (n : Int) (p : Pol) (hl : p.fl.length ≤ 17592186044416) (E : Nat → Addr) : ∃ T ev en, Both p E n T ev en := by
  by_cases hn : n < 1 ∨ 4096 < n
  · refine ⟨tr0, _, 7, fun w vf hE hv => ?_, fun w vf hv => ?_, fun w hE => Num_len E w hE⟩
    · refine (Choose_len n _ (E 6) w hn ⟨_, _, _, rfl⟩ hE.len).mono ?_
      rintro e w' ⟨rfl, hk⟩
      exact ⟨_, _, _, _, _, rfl, Lib.hid (tr0_in w'), hk⟩
    · refine (rChoose_len n _ w hn ⟨_, _, _, rfl⟩).mono ?_
      rintro e w' ⟨rfl, hk⟩
      exact ⟨_, _, _, _, _, rfl, Lib.hid (tr0_in w'), hk⟩
  · obtain ⟨m, rfl⟩ : ∃ m : Nat, n = (m : Int) := ⟨n.toNat, by omega⟩
    cases hp : p.ok with
    | false =>
      refine ⟨tr0, _, 5, fun w vf hE hv => ?_, fun w vf hv => ?_, fun w hE => Num_range E w hE⟩
      · refine (Choose_pol m p vf (E 4) w (by omega) (by omega) hv hp hE.range).mono ?_
        rintro e w' ⟨rfl, hk⟩
        exact ⟨_, _, _, _, _, rfl, Lib.hid (tr0_in w'), hk⟩
      · refine (rChoose_pol m p vf w (by omega) (by omega) hl hv hp).mono ?_
        rintro e w' ⟨rfl, hk⟩
        exact ⟨_, _, _, _, _, rfl, Lib.hid (tr0_in w'), hk⟩
    | true =>
      refine ⟨trOf (best p m), .nilIface, 0, fun w vf hE hv => ?_, fun w vf hv => ?_, fun w hE => (Num_nil w).mono fun e w' h => ⟨h.1, h.2 ▸ Kp.refl w⟩⟩
      · refine (Choose_good m p vf (E 4) w (by omega) (by omega) hv hp hE.range).mono ?_
        rintro e w' ⟨k, n0, o, mm, c, rfl, h1, hk⟩
        exact ⟨_, _, _, _, _, rfl, Lib.hid (OB.oin h1), hk⟩
      · refine (rChoose_good m p vf w (by omega) (by omega) hl hv hp (rcheap_any (Pol.ok_good hp) vf (rank m) m (Nat.le_refl _) (by omega) (by omega))).mono ?_
        rintro e w' ⟨k, n0, o, mm, c, rfl, h1, hk⟩
        exact ⟨_, _, _, _, _, rfl, Lib.hid (OB.oin h1), hk⟩
theorem walk_PlannerChooses (W : World) (n : Int) (_ : (Lit.int .i64 n).wf = true) (p : Pol) (vf : Value) (hv : FlIn W vf p.fl) (hl : p.fl.length ≤ 17592186044416) (E : Nat → Addr) (hE : Errs W E) :
    Calls Tryd.prog 3 #[.int .i64 n, .agg #[.int .i64 p.D, vf, .int .i64 p.P]] W fun e w' => e = .returned (.bool true) ∧ Kp W w' := by
  obtain ⟨T, ev, en, hB⟩ := both_choose n p hl E
  exact chooses_any W n p vf hv hl E hE T ev en hB
end Go.Proofs.YtgjlldapnodfbaaDoor
