/-
  The walks of the reference of layer 10: Conj, One, Forward, Inverse, Slide.
-/
import Derived.Test.YtnkcjbabfckdgaaDoorDRef
import Derived.Maps.AppendAt
namespace Go.Proofs.YtnkcjbabfckdgaaDoor
open Go Go.RowKit Go.Fl Go.Roots

/-- A list of the call's own that reads as f. -/
def CO (w : World) (base : Nat) (v : Value) (n : Nat) (f : Nat → Nat × Nat) : Prop := ∃ xs, w.ownsRow base 23 1 v n xs ∧ PartC f xs n
theorem CO.kp {w w' : World} {base : Nat} {v : Value} {n : Nat} {f : Nat → Nat × Nat} (h : CO w base v n f) (k : Kp w w') : CO w' base v n f := by
  obtain ⟨xs, h1, h2⟩ := h; exact ⟨xs, k.owns h1, h2⟩
theorem CO.mono {w : World} {base base' : Nat} {v : Value} {n : Nat} {f : Nat → Nat × Nat} (h : CO w base v n f) (hb : base' ≤ base) : CO w base' v n f := by
  obtain ⟨xs, h1, h2⟩ := h; exact ⟨xs, owns_mono h1 hb, h2⟩
/-- A slice that reads as f. -/
def Rd (w : World) (o : Option Addr) (n : Nat) (f : Nat → Nat × Nat) : Prop := 0 < n → ∃ g, o = some ⟨g, 0, none⟩ ∧ Has w g n f
theorem Rd.kp {w w' : World} {o : Option Addr} {n : Nat} {f : Nat → Nat × Nat} (h : Rd w o n f) (k : Kp w w') : Rd w' o n f := fun hn => by
  obtain ⟨g, h1, h2⟩ := h hn; exact ⟨g, h1, h2.kp k⟩
theorem CO.rd {w : World} {base : Nat} {v : Value} {n : Nat} {f : Nat → Nat × Nat} (h : CO w base v n f) : ∃ o c, v = .slice o n c ∧ Rd w o n f := by
  obtain ⟨xs, h1, h2⟩ := h
  rcases h1.2 with ⟨rfl, rfl⟩ | ⟨g, cap, cur, rfl, r⟩
  · exact ⟨_, _, rfl, fun h => absurd h (by omega)⟩
  · exact ⟨_, _, rfl, fun _ => ⟨g, rfl, Has.own h1 (Nat.le_refl _) h2⟩⟩
theorem CO.some {w : World} {base : Nat} {v : Value} {n : Nat} {f : Nat → Nat × Nat} (h : CO w base v n f) (hn : 0 < n) : ∃ g c, v = .slice (Option.some ⟨g, 0, Option.none⟩) n c ∧ Has w g n f := by
  obtain ⟨xs, h1, h2⟩ := h
  obtain ⟨g, c, rfl⟩ := owns_form h1 hn
  exact ⟨g, c, rfl, Has.own h1 (Nat.le_refl _) h2⟩
theorem owns_empty (w : World) : (w.alloc (.cells #[] 23)).ownsRow w.heap.size 23 1 (.slice (some ⟨w.heap.size, 0, none⟩) 0 0) 0 [] :=
  World.ownsRow_lit (base := w.heap.size) (e := 23) (size := 1) w #[] 0 (Nat.le_refl _) (by decide) rfl

end Go.Proofs.YtnkcjbabfckdgaaDoor
