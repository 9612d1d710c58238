/-
  The reference's cheapest at every length.
-/
import Derived.Test.YtgjlldapnodfbaaDoorORefG
namespace Go.Proofs.YtgjlldapnodfbaaDoor
open Go Go.RowKit Go.Fl Go.Ord Go.Pr

theorem rcheap_any {p : Pol} (hp : p.Good) (vf : Value) : ∀ (r n : Nat), rank n ≤ r → 1 ≤ n → n ≤ 16384 → RSpec p vf n := by
  intro r
  induction r with
  | zero => intro n h hn; have := (rank_le n).1; omega
  | succ r ih =>
    intro n hr hn1 hn2 Q S bk w l hQ hfl hK
    by_cases hn : n ∈ l
    · exact rcheap_hit p vf n Q S bk w l hfl hK hn
    · exact rcheap_miss p hp vf n hn1 hn2 (fun m h1 h2 h3 => ih m (by omega) h1 h2) Q S bk w l hQ hfl hK hn
end Go.Proofs.YtgjlldapnodfbaaDoor
