/-
  What the chooser's map holds: the cheapest orders of the lengths that are known.
-/
import Derived.Test.YtgjlldapnodfbaaDoorOBest2
namespace Go.Proofs.YtgjlldapnodfbaaDoor
open Go Go.RowKit Go.Fl Go.Ord Go.Pr

/-- A tree never lies in a map's block. -/
theorem OX.not_map {Q : Nat → Prop} {w : World} {b : Nat} (hb : ∀ j, w.cell? ⟨b, j, none⟩ = none) : ∀ {T : Tr} {v : Value}, OX Q w T v → OX (fun g => Q g ∧ g ≠ b) w T v := by
  intro T
  induction T with
  | nil => intro v h; exact (OX.nil h).elim
  | mk k n m kid ih =>
    rintro v ⟨o, c, h1, h2, h3⟩
    refine ⟨o, c, h1, h2, fun hm => ?_⟩
    obtain ⟨g, off, e, hg, hc⟩ := h3 hm
    refine ⟨g, off, e, ⟨hg.1, hg.2, fun eb => ?_⟩, fun i hi => ?_⟩
    · obtain ⟨a, _, _, q1, _⟩ := hc 0 hm
      rw [eb, hb] at q1
      cases q1
    · obtain ⟨a, b', s, q1, q2, q3, h⟩ := hc i hi
      exact ⟨a, b', s, q1, q2, q3, ih i h⟩
theorem MP.no_cell {w : World} {b n : Nat} {f : Nat → Option Value} (h : MP w b n f) (j : Nat) : w.cell? ⟨b, j, none⟩ = none := by
  obtain ⟨D, ⟨es, clock, hb, _⟩, _⟩ := h
  simp [World.cell?, hb]
/-- All but block b stays, and what lay in b was no cell: trees stay. -/
theorem OX.kb {Q : Nat → Prop} {w w' : World} {b : Nat} {T : Tr} {v : Value} (h : OX Q w T v) (hb : ∀ j, w.cell? ⟨b, j, none⟩ = none) (hk : Kb b w w') : OX Q w' T v :=
  (h.not_map hb).stay hk.size (fun g hg hq => hk.block g hg hq.2) (fun _ _ hq => hq.1)
/-- Every entry is the cheapest of its length. -/
def Memo (p : Pol) (Q : Nat → Prop) (w : World) (f : Nat → Option Value) : Prop :=
  ∀ i v, f i = some v → 1 ≤ i ∧ ∃ k n o m c cost, v = .agg #[.int .i64 k, .int .i64 n, .slice o m c, .int .i64 cost] ∧ BVal Q w (best p i) k n (.slice o m c) cost
theorem BVal.kmap {Q : Nat → Prop} {w w' : World} {bm : Nat} {b : Option (Tr × Int)} {k n : Int} {s : Value} {c : Int} (hb : ∀ j, w.cell? ⟨bm, j, none⟩ = none) (h : BVal Q w b k n s c) (hk : Kb bm w w') : BVal Q w' b k n s c := by
  cases b with
  | none => exact h
  | some p => exact ⟨h.1, h.2.1, h.2.2.1, h.2.2.2.kb hb hk⟩
theorem Memo.kb {p : Pol} {Q : Nat → Prop} {w w' : World} {bm : Nat} {f : Nat → Option Value} (h : Memo p Q w f) (hb : ∀ j, w.cell? ⟨bm, j, none⟩ = none) (hk : Kb bm w w') : Memo p Q w' f := fun i v hv => by
  obtain ⟨h1, k, n, o, m, c, cost, e, hB⟩ := h i v hv
  exact ⟨h1, k, n, o, m, c, cost, e, hB.kmap hb hk⟩
theorem Memo.kp {p : Pol} {Q : Nat → Prop} {w w' : World} {f : Nat → Option Value} (h : Memo p Q w f) (hk : Kp w w') : Memo p Q w' f := fun i v hv => by
  obtain ⟨h1, k, n, o, m, c, cost, e, hB⟩ := h i v hv
  exact ⟨h1, k, n, o, m, c, cost, e, hB.kp hk⟩
theorem Memo.put {p : Pol} {Q : Nat → Prop} {w : World} {f : Nat → Option Value} (h : Memo p Q w f) {i : Nat} (hi : 1 ≤ i) {k n : Int} {o : Option Addr} {m c : Nat} {cost : Int} (hB : BVal Q w (best p i) k n (.slice o m c) cost) :
    Memo p Q w (fun j => if j = i then some (.agg #[.int .i64 k, .int .i64 n, .slice o m c, .int .i64 cost]) else f j) := fun j v hv => by
  by_cases e : j = i
  · subst e
    simp only [if_pos] at hv
    cases hv
    exact ⟨hi, k, n, o, m, c, cost, rfl, hB⟩
  · simp only [if_neg e] at hv
    exact h j v hv
theorem Memo.empty (p : Pol) (Q : Nat → Prop) (w : World) : Memo p Q w (fun _ => none) := fun _ _ h => by cases h
end Go.Proofs.YtgjlldapnodfbaaDoor
