/-
  The walks of size, Gcd, less, and of the references' own.
-/
import Derived.Test.YtgjlldapnodfbaaDoorErr
import Derived.Test.YtgjlldapnodfbaaDoorPMod
namespace Go.Proofs.YtgjlldapnodfbaaDoor
open Go Go.RowKit Go.Fl

/-- A quiet call: draws at most. -/
def Dr (w w' : World) : Prop := ∃ n, w' = w.drewN n
theorem Dr.refl (w : World) : Dr w w := ⟨0, rfl⟩
theorem Dr.drewN {a b : World} (h : Dr a b) (n : Nat) : Dr a (b.drewN n) := by
  obtain ⟨m, rfl⟩ := h; exact ⟨m + n, by rw [World.drewN_drewN]⟩
theorem Dr.trans {a b c : World} (h : Dr a b) (k : Dr b c) : Dr a c := by
  obtain ⟨m, rfl⟩ := k; exact h.drewN m
theorem Dr.kp {a b : World} (h : Dr a b) : Kp a b := by
  obtain ⟨m, rfl⟩ := h; exact (Kp.refl a).drewN m
theorem Dr.quiet {P : Program} {f : FuncId} {args : Array Value} {w : World} {n : Nat} {v : Value}
    (h : Calls P f args (w.drewN n) fun e w' => e = .returned v ∧ Dr (w.drewN n) w') : Calls P f args (w.drewN n) fun e w'' => e = .returned v ∧ ∃ m, w'' = w.drewN m :=
  Calls.quiet_of (h.mono fun _ _ ⟨he, m, hm⟩ => ⟨he, m, hm⟩)

theorem ret_u {a b : Int} (h : a = b) : Ending.returned (.int .u64 a) = .returned (.int .u64 b) := by rw [h]
theorem ret_i {a b : Int} (h : a = b) : Ending.returned (.int .i64 a) = .returned (.int .i64 b) := by rw [h]
theorem ret_b {a b : Bool} (h : a = b) : Ending.returned (.bool a) = .returned (.bool b) := by rw [h]

/-- Gcd's number. -/
def gcdI (a b : Int) : Int := wrap64 ((Int.gcd a b : Nat) : Int)
def lessI (a b m : Int) : Int := if b ≤ a then a - b else m - (b - a)
end Go.Proofs.YtgjlldapnodfbaaDoor
