/-
  Arguments opened to cells: slices of numbers, slices of structs of four numbers.
-/
import Derived.Test.YtgjlldapnodfbaaDoorLaid
import Derived.Deep.Slices
import Derived.Deep.Fields
import Derived.ChangeSame
import Derived.ChangeSlices
import Derived.SizedLaws
import Derived.Carry
namespace Go.Proofs.YtgjlldapnodfbaaDoor
set_option maxRecDepth 100000
open Go Go.RowKit Go.Fl Go.ChangeShapes Go.WideShapes Go.ChangeAt Go.Deep

/-- A slice of numbers lies there. -/
def NumS (k : IntKind) (w : World) (o : Option Addr) (n : Nat) (bs : Nat → Int) : Prop := 0 < n → ∃ g off, o = some ⟨g, off, none⟩ ∧ g < w.heap.size ∧ ∀ j, j < n → w.cell? ⟨g, off + j, none⟩ = some (.int k (bs j))
section
variable {H : Type} {enc : TypeId × Value → H} {W : World}
theorem open_nums {t e : TypeId} {k : IntKind} {base : Nat} {v : Value} {d : DataW H} {p : List MemPlace} (ht : Tryd.prog.underlying t = some (.slice e)) (he : Tryd.prog.underlying e = some (.int k)) (hc : Tryd.prog.cellsOf e = 1)
    (hv : Value.okWide Tryd.prog W .any base t v) (h : DataW.Trod enc Tryd.prog W 0 (fun _ => true) true t v d p) (hlt : ∀ x ∈ p, x.block < W.heap.size) :
    ∃ (o : Option Addr) (n c : Nat) (bs : Nat → Int), v = .slice o n c ∧ NumS k W o n bs ∧ (∀ j, j < n → (Lit.int k (bs j)).wf = true) ∧ (n = 0 ∨ ∃ el sp, d = .slice el sp ∧ el.length = n) := by
  obtain ⟨a0, len, cap, rfl⟩ := okWide_slice ht hv
  obtain ⟨fuel, hf⟩ := h
  rcases open_ints ht he hc hf with ⟨hcs, hx⟩ | ⟨a, len', cap', zs, hcs, _, hl, hm, hz, hx, hcell, hwz⟩
  · simp [Value.cells] at hcs
    obtain ⟨rfl, rfl, rfl⟩ := hcs
    exact ⟨none, 0, 0, fun _ => 0, rfl, fun h => absurd h (by omega), fun j h => absurd h (by omega), Or.inl rfl⟩
  · simp [Value.cells] at hcs
    obtain ⟨rfl, rfl, rfl⟩ := hcs
    simp only [Prod.mk.injEq] at hx
    obtain ⟨rfl, rfl⟩ := hx
    simp only [if_true] at hz
    refine ⟨some a, len, cap, fun j => zs.getD j 0, rfl, fun h0 => ?_, fun j hj => ?_, Or.inr ⟨_, _, rfl, by simp [lits]; omega⟩⟩
    · obtain ⟨b, off, spot⟩ := a
      have hspot : spot = none := by simpa [Addr.add] using World.cell?_spot (hcell 0 (by omega))
      subst hspot
      have hbW : b < W.heap.size := hlt (.cell b off) (MemPlace.mem_row.2 ⟨0, by omega, by simp⟩)
      exact ⟨b, off, rfl, hbW, fun j hj => by rw [← add_plain]; exact hcell j (by omega)⟩
    · refine hwz _ ?_
      show zs.getD j 0 ∈ zs
      rw [List.getD_eq_getElem?_getD, List.getElem?_eq_getElem (by omega)]
      exact List.getElem_mem _
/-- The reach of a slice of numbers. -/
theorem reach_nums {ts : List TypeId} {ds : List (DataW H)} (hsz : (DataW.weightsEach Tryd.prog ts ds).all (· ≤ reachBytes) = true) {j : Nat} {t e : TypeId} {d : DataW H} {n b : Nat} (ht : ts[j]? = some t) (hd : ds[j]? = some d) (hu : Tryd.prog.underlying t = some (.slice e)) (hb : Tryd.prog.bytesOf e = b)
    (h : n = 0 ∨ ∃ el sp, d = .slice el sp ∧ el.length = n) : n * b ≤ 140737488351232 := by
  rcases h with rfl | ⟨el, sp, rfl, rfl⟩
  · omega
  · have := sized_slice hsz ht hd hu
    rw [hb] at this
    simp only [reachBytes] at this
    have h2 := Nat.mul_le_mul_right b (show el.length ≤ el.length + sp.length by omega)
    omega
theorem open_slice_fields {P : Program} {w : World} {base : Nat} {spare : Nat → Bool} {held : Bool} {t e : TypeId} {fs : Array Field} {fuel : Nat} {cs : List Value} {x : DataW H × List MemPlace} (ht : P.underlying t = some (.slice e)) (he : P.underlying e = some (.struct fs))
    (hone : oneCellFields P fs = true) (hC : P.cellsOf e = fs.size) (h : DataW.trod enc P w base spare held fuel t cs = some x) :
    (cs = [.slice none 0 0] ∧ x = (.nil, [])) ∨
    ∃ (a : Addr) (len cap m : Nat) (D : Nat → DataW H) (Pl : Nat → List MemPlace), cs = [.slice (some a) len cap] ∧ base ≤ a.block ∧ len ≤ cap ∧ cap ≤ maxLen ∧ m = (if spare a.block then cap else len) ∧
      x = (.slice ((List.range len).map D) ((List.range (m - len)).map fun j => D (len + j)), MemPlace.row a (m * fs.size) ++ (List.range m).flatMap Pl) ∧
      ∀ i, i < m → ∃ (ys : List (DataW H × List MemPlace)) (n : Nat), D i = .agg (ys.map (·.1)) ∧ Pl i = ys.flatMap (·.2) ∧ ys.length = fs.size ∧
        ∀ (j : Nat) (f : Field), fs[j]? = some f → ∃ (v : Value) (y : DataW H × List MemPlace), w.cell? (a.add (i * fs.size + j)) = some v ∧ ys[j]? = some y ∧ DataW.trod enc P w base spare held n f.type [v] = some y := by
  rcases open_slice ht h with h0 | ⟨a, len, cap, m, n, D, Pl, hcs, hb, hl, hm, hmm, hx, hi⟩
  · exact .inl h0
  · refine .inr ⟨a, len, cap, m, D, Pl, hcs, hb, hl, hm, hmm, by rw [hC] at hx; exact hx, fun i him => ?_⟩
    obtain ⟨cs', hc, ht'⟩ := hi i him
    rw [hC] at hc
    obtain ⟨ys, n', hn', hy, hlen, hyl, hf⟩ := DataW.trod_struct he ht'
    obtain ⟨_, hcl, hat⟩ := World.cells?_some hc
    simp only [Prod.mk.injEq] at hy
    refine ⟨ys, n', hy.1, hy.2, hyl, fun j f hj => ?_⟩
    obtain ⟨ho, hk⟩ := hone_of hone j f hj
    have hjl : j < fs.size := (Array.getElem?_eq_some_iff.1 hj).1
    have hcell := hat j hjl
    have hv : cs'[j]? = some (cs'[j]'(by omega)) := List.getElem?_eq_getElem (by omega)
    have h1 := hf j f hj
    rw [ho, hk] at h1
    have hone' : (cs'.drop j).take 1 = [cs'[j]'(by omega)] := by
      rw [List.drop_eq_getElem_cons (by omega)]
      rfl
    rw [hone'] at h1
    have hys : ys[j]? = some (ys[j]'(by omega)) := List.getElem?_eq_getElem (by omega)
    refine ⟨_, _, ?_, hys, h1.trans hys⟩
    rw [← Go.Deep.add_add, hcell, hv]
/-- A slice of structs of numbers lies there: element j's field i. -/
def StrS (k : IntKind) (m : Nat) (w : World) (o : Option Addr) (n : Nat) (ps : Nat → Nat → Int) : Prop := 0 < n → ∃ g off, o = some ⟨g, off, none⟩ ∧ g < w.heap.size ∧ ∀ j, j < n → ∀ i, i < m → w.cell? ⟨g, off + (j * m + i), none⟩ = some (.int k (ps j i))
theorem open_structs {t e : TypeId} {k : IntKind} {fs : Array Field} {base : Nat} {v : Value} {d : DataW H} {p : List MemPlace} (ht : Tryd.prog.underlying t = some (.slice e)) (he : Tryd.prog.underlying e = some (.struct fs)) (hone : oneCellFields Tryd.prog fs = true) (hC : Tryd.prog.cellsOf e = fs.size)
    (hpos : 0 < fs.size) (hk : ∀ (j : Nat) (f : Field), fs[j]? = some f → Tryd.prog.underlying f.type = some (.int k))
    (hv : Value.okWide Tryd.prog W .any base t v) (h : DataW.Trod enc Tryd.prog W 0 (fun _ => true) true t v d p) (hlt : ∀ x ∈ p, x.block < W.heap.size) :
    ∃ (o : Option Addr) (n c : Nat) (ps : Nat → Nat → Int), v = .slice o n c ∧ StrS k fs.size W o n ps ∧ (∀ j, j < n → ∀ i, i < fs.size → (Lit.int k (ps j i)).wf = true) ∧ (n = 0 ∨ ∃ el sp, d = .slice el sp ∧ el.length = n) := by
  obtain ⟨a0, len, cap, rfl⟩ := okWide_slice ht hv
  obtain ⟨fuel, hf⟩ := h
  rcases open_slice_fields ht he hone hC hf with ⟨hcs, hx⟩ | ⟨a, len', cap', m, D, Pl, hcs, _, hl, hm, hmm, hx, hi⟩
  · simp [Value.cells] at hcs
    obtain ⟨rfl, rfl, rfl⟩ := hcs
    exact ⟨none, 0, 0, fun _ _ => 0, rfl, fun h => absurd h (by omega), fun j h => absurd h (by omega), Or.inl rfl⟩
  · simp [Value.cells] at hcs
    obtain ⟨rfl, rfl, rfl⟩ := hcs
    simp only [Prod.mk.injEq] at hx
    obtain ⟨rfl, rfl⟩ := hx
    simp only [if_true] at hmm
    have each : ∀ i j, i < len → j < fs.size → ∃ z : Int, W.cell? (a.add (i * fs.size + j)) = some (.int k z) ∧ (Lit.int k z).wf = true := by
      intro i j hil hjl
      obtain ⟨ys, n, _, _, _, hy⟩ := hi i (by omega)
      obtain ⟨u, y, hu, _, ht'⟩ := hy j _ (Array.getElem?_eq_getElem hjl)
      obtain ⟨z, hz, _, hw⟩ := DataW.trod_int (hk j _ (Array.getElem?_eq_getElem hjl)) ht'
      cases hz
      exact ⟨z, hu, hw⟩
    refine ⟨some a, len, cap, fun i j => if hh : i < len ∧ j < fs.size then Classical.choose (each i j hh.1 hh.2) else 0, rfl, fun h0 => ?_, fun i hil j hjl => ?_, Or.inr ⟨_, _, rfl, by simp⟩⟩
    · obtain ⟨b, off, spot⟩ := a
      obtain ⟨z0, hz0, _⟩ := each 0 0 h0 hpos
      have hspot : spot = none := by simpa [Addr.add] using World.cell?_spot hz0
      subst hspot
      have hbW : b < W.heap.size := by have := World.block_lt_of_cell? _ _ hz0; simpa [Addr.add] using this
      refine ⟨b, off, rfl, hbW, fun i hil j hjl => ?_⟩
      dsimp only
      rw [dif_pos ⟨hil, hjl⟩, ← add_plain]
      exact (Classical.choose_spec (each i j hil hjl)).1
    · dsimp only
      rw [dif_pos ⟨hil, hjl⟩]
      exact (Classical.choose_spec (each i j hil hjl)).2
end
theorem laidOut : laidOutB Tryd.prog = true := by kernel_rfl
end Go.Proofs.YtgjlldapnodfbaaDoor
