/-
  Choose and Check of the planner and of the reference, side by side.
-/
import Derived.Test.YtgjlldapnodfbaaDoorORefH
import Derived.Test.YtgjlldapnodfbaaDoorOCosts
namespace Go.Proofs.YtgjlldapnodfbaaDoor
open Go Go.RowKit Go.Fl Go.Ord Go.Pr

/-- The order that is none. -/
def tr0 : Tr := .mk 0 0 0 (fun _ => .nil)
theorem tr0_in (w : World) : OIn w tr0 (.agg #[.int .i64 0, .int .i64 0, .slice none 0 0]) := ⟨none, 0, rfl, ⟨by decide, by decide, by decide⟩, fun h => absurd h (by decide)⟩
def trOf : Option (Tr × Int) → Tr
  | none => tr0
  | some (T, _) => T
theorem OB.oin {Q : Nat → Prop} {w : World} {b : Option (Tr × Int)} {k n : Int} {s : Value} (h : OB Q w b k n s) : OIn w (trOf b) (.agg #[.int .i64 k, .int .i64 n, s]) := by
  cases b with
  | none => obtain ⟨rfl, rfl, rfl⟩ := h; exact tr0_in w
  | some x => exact OX.oin h
/-- Both give the same order and the same error. -/
structure Both (p : Pol) (E : Nat → Addr) (n : Int) (T : Tr) (ev : Value) (en : Nat) : Prop where
  a : ∀ w vf, Errs w E → FlIn w vf p.fl → Calls Tryd.prog 9 #[.int .i64 n, .agg #[.int .i64 p.D, vf, .int .i64 p.P]] w fun e w' => ∃ k n0 o m c, e = .returned (.tuple #[.agg #[.int .i64 k, .int .i64 n0, .slice o m c], ev]) ∧ Hid (OIn w' T (.agg #[.int .i64 k, .int .i64 n0, .slice o m c])) ∧ Kp w w'
  b : ∀ w vf, FlIn w vf p.fl → Calls Tryd.prog 10 #[.int .i64 n, .agg #[.int .i64 p.D, vf, .int .i64 p.P]] w fun e w' => ∃ k n0 o m c, e = .returned (.tuple #[.agg #[.int .i64 k, .int .i64 n0, .slice o m c], .int .i64 (en : Nat)]) ∧ Hid (OIn w' T (.agg #[.int .i64 k, .int .i64 n0, .slice o m c])) ∧ Kp w w'
  c : ∀ w, Errs w E → Calls Tryd.prog 11 #[ev] w fun e w' => e = .returned (.int .i64 (en : Nat)) ∧ Kp w w'
/-- Both check alike. -/
structure BothC (p : Pol) (E : Nat → Addr) (ev : Value) (en : Nat) : Prop where
  a : ∀ w vf, Errs w E → FlIn w vf p.fl → Calls Tryd.prog 14 #[.agg #[.int .i64 p.D, vf, .int .i64 p.P]] w fun e w' => e = .returned ev ∧ Kp w w'
  b : ∀ w vf, FlIn w vf p.fl → Calls Tryd.prog 15 #[.agg #[.int .i64 p.D, vf, .int .i64 p.P]] w fun e w' => e = .returned (.int .i64 (en : Nat)) ∧ Kp w w'
  c : ∀ w, Errs w E → Calls Tryd.prog 11 #[ev] w fun e w' => e = .returned (.int .i64 (en : Nat)) ∧ Kp w w'
theorem both_check (p : Pol) (hl : p.fl.length ≤ 17592186044416) (E : Nat → Addr) : ∃ ev en, BothC p E ev en := by
  cases hp : p.ok with
  | false =>
    refine ⟨_, 5, fun w vf hE hv => ?_, fun w vf hv => ?_, fun w hE => Num_range E w hE⟩
    · have h := pCheck_any p vf (E 4) w hv hE.range
      unfold chk at h
      rw [hp] at h
      exact h
    · have h := rPCheck_any p vf w hl hv
      rw [hp] at h
      exact h
  | true =>
    refine ⟨.nilIface, 0, fun w vf hE hv => ?_, fun w vf hv => ?_, fun w hE => (Num_nil w).mono fun e w' h => ⟨h.1, h.2 ▸ Kp.refl w⟩⟩
    · have h := pCheck_any p vf (E 4) w hv hE.range
      unfold chk at h
      rw [hp] at h
      exact h
    · have h := rPCheck_any p vf w hl hv
      rw [hp] at h
      exact h
end Go.Proofs.YtgjlldapnodfbaaDoor
