/-
  Marks; an append that says what became of the old row.
-/
import Derived.Test.YtifbcaiegalhbaaDoorPFac2
import Derived.Deep.RegionHeld3
import Derived.Deep.AppendLies
import Derived.Deep.DeepAppendRoom
namespace Go.Proofs.YtifbcaiegalhbaaDoor
open Go Go.RowKit Go.Fl Go.Pr

/-- What timbremem.Mark answers. -/
def mk0 (i j : Nat) : Int := IntKind.u64.wrap (IntKind.u64.wrap (((i : Int) + 1) * 11400714819323198485) + IntKind.u64.wrap (((j : Int) + 1) * 13787848793156543929))
def mk (i j : Nat) : Int := wrap64 (wrap64 (IntKind.u64.wrap (bits BinOp.xor IntKind.u64 (mk0 i j) (mk0 i j / 536870912) * 10723151780598845931) / 8589934592) + 1)
theorem Mark_any (i j : Nat) (w : World) (hi : i ≤ 1099511627776) (hj : j ≤ 1099511627776) :
    Calls Tryd.prog 46 #[.int .i64 i, .int .i64 j] w fun e w' => e = .returned (.int .i64 (mk i j)) ∧ w = w' := by
  go_enter Tryd.func46, Tryd.ntmps46
  go_wp2_with fail
  go_ret
  exact ⟨rfl, rfl⟩
section
variable {P : Program} (w : World)
/-- Of one element: it is written behind the row, where there is room; or a new row is made, and all that was there stays. -/
theorem run_append_mv (base : Nat) (t ty e : TypeId) (i : TypeInfo) (z : Value) (bytes : Nat) (ht : P.underlying t = some (.slice e)) (hi : P.info? e = some i) (hz : i.zero = some z)
    (hsize : i.size = 1) (hby : i.bytes = bytes) (hzs : z.cells.size = 1)
    (v : Value) (n : Nat) (xs : List Value) (hown : w.ownsRow base e 1 v n xs)
    (a : Addr) (c : Nat) (x : Value) (hnews : w.cell? a = some x) (ha : a.add 0 = a) (h1 : x.oneCell' = true)
    (h63 : n + 1 ≤ maxLen) (hbytes : (n + 1) * bytes ≤ 140737488355328) (hbase : base ≤ w.heap.size) :
    ∃ g cap w', (Builtin.append_ #[t, t] ty #[v, .slice (some a) 1 c]).run P w = .ok (.slice (some ⟨g, 0, none⟩) (n + 1) cap) w' ∧
      w'.ownsRow base e 1 (.slice (some ⟨g, 0, none⟩) (n + 1) cap) (n + 1) (xs ++ [x]) ∧ g < w'.heap.size ∧
      ((v.ownBlock = some g ∧ w.grownBy w' (some g)) ∨ (g = w.heap.size ∧ w.grownBy w' none)) := by
  have hN : ∀ j u, [x][j]? = some u → w.cell? (a.add j) = some u := by
    intro j u hj
    match j, hj with
    | 0, hj => simp at hj; subst hj; rw [ha]; exact hnews
  have hO : ∀ u ∈ [x], u.oneCell' = true := by intro u hu; simp at hu; subst hu; exact h1
  obtain ⟨v', w', hr, h2, h3, h4, h5⟩ := run_append_own_at (P := P) w base t ty e i z 1 bytes ht hi hz hsize hby hzs (by decide) v n xs hown a 1 c [x] rfl hN hO h63 hbytes hbase
  obtain ⟨g, cap, rfl⟩ := owns_form h2 (by omega)
  refine ⟨g, cap, w', hr, h2, (h2.lt g rfl).2, ?_⟩
  have hlt := (h2.lt g rfl).2
  by_cases hv : v.ownBlock = some g
  · left
    exact ⟨hv, by rw [hv] at h3; exact h3⟩
  · right
    have hg : g = w.heap.size := by
      rcases h5 with h | h
      · exact absurd h.symm hv
      · simpa [Value.ownBlock] using h
    refine ⟨hg, ?_⟩
    rcases hown.2 with ⟨rfl, rfl⟩ | ⟨g', cap', cur, rfl, hbg, hgg, hnc, hcm, hcs, htake⟩
    · exact h3
    · have hnr : ¬ n + 1 ≤ cap' := by
        intro hroom
        obtain ⟨w2, r2, _, _⟩ := run_append_own_spare (P := P) w base t ty e i 1 ht hi hsize g' n cap' xs hown a 1 c [x] rfl hN hO hroom
        rw [hr] at r2
        injection r2 with e1 e2
        injection e1 with e3
        injection e3 with e4
        injection e4 with e5
        exact hv (by simp [Value.ownBlock, e5])
      have holds : ∀ j u, xs[j]? = some u → w.cell? ((⟨g', 0, none⟩ : Addr).add j) = some u := hown.cells (g := g') rfl
      have hfit : Builtin.nextslicecap (n + 1) cap' * i.bytes ≤ 281474976710656 := by
        refine Nat.le_trans (Nat.mul_le_mul_right _ (nextslicecap_le (by omega))) ?_
        rw [hby, Nat.mul_assoc]; omega
      have hr2 := run_append_grow (P := P) w t ty e i z ht hi hz ⟨g', 0, none⟩ n cap' xs (by rw [hsize]; exact hown.1) holds a 1 c [x] (by rw [hsize]; rfl) hN (by omega) (by unfold maxLen at h63; omega) hfit
      rw [hr] at hr2
      injection hr2 with _ e2
      subst e2
      exact ⟨rfl, rfl, rfl, by simp, fun k hk _ => heap_alloc_old w.drew _ hk⟩
end
end Go.Proofs.YtifbcaiegalhbaaDoor
