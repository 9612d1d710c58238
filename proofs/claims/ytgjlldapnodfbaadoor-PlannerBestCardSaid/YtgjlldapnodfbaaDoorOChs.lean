/-
  cheapest at every length.
-/
import Derived.Test.YtgjlldapnodfbaaDoorOMiss
namespace Go.Proofs.YtgjlldapnodfbaaDoor
open Go Go.RowKit Go.Fl Go.Ord Go.Pr

theorem cheapest_any {p : Pol} (hp : p.Good) (bc bm : Nat) (vf : Value) : ∀ (r n : Nat), rank n ≤ r → 1 ≤ n → n ≤ 16384 → CSpec p bc bm vf n := by
  intro r
  induction r with
  | zero => intro n h hn; have := (rank_le n).1; omega
  | succ r ih =>
    intro n hr hn1 hn2 Q w f hQ hc hfl hM
    cases hf : f n with
    | none => exact cheap_miss p hp bc bm vf n hn1 hn2 (fun m h1 h2 h3 => ih m (by omega) h1 h2) Q w f hQ hc hfl hM hf
    | some v =>
      obtain ⟨_, k, n0, o, m, c, cost, rfl, hB⟩ := hM.2.1 n v hf
      refine (cheap_hit p bc bm _ vf n f k n0 o m c cost w (by omega) hc hM.1 hf).mono ?_
      rintro e w' ⟨rfl, hk⟩
      exact ⟨k, n0, o, m, c, cost, f, rfl, hB.kp hk, hM.kp hk, .of hk, fun _ _ => rfl⟩
end Go.Proofs.YtgjlldapnodfbaaDoor
