import Derived.Test.YtgjlldapnodfbaaDoorErr
import Derived.Test.YtgjlldapnodfbaaDoorRows
import Derived.ProofKit
import Derived.LaidMore
import Derived.LaidLaws
import Derived.MakeChecks
import Derived.Stop.Joined
import Derived.Stop.ErrReads
import Derived.Deep.Slices
import Derived.Deep.Fields
import Derived.ChangeSame
import Derived.ChangeSlices
import Derived.SizedLaws
import Derived.Carry
import Derived.Test.YtgjlldapnodfbaaDoorOCost4
import Derived.Lib.SmallJoins
import Derived.Test.YtgjlldapnodfbaaDoorOFixed
/-
  What the listed error variables hold at the call's start: each a pointer of its own.
-/
namespace Go.Proofs.YtgjlldapnodfbaaDoor
open Go Go.RowKit Go.Fl Go.ChangeShapes Go.WideShapes Go.ChangeAt

/-- A row's end where what was there stays. -/
theorem post_kp {H : Type} {enc : TypeId × Value → H} {P : Program} {f : Func} {s : ChangeSpec} {apart fresh handsOn : Bool} {W W' : World} {args : Array Value} {v : Value} {ds gs : List (DataW H)} {before pa pv : List MemPlace}
    (hW : DataW.Whole enc P f.params.toList s.vars apart W args.toList ds gs before)
    (hres : ∀ (b : Nat) (sp : Nat → Bool) (hd : Bool), DataW.TrodAll enc P W' b sp hd f.resultTypes.toList (v.resultList f.resultTypes.size) (s.fn H (ds ++ gs)).results [])
    (hargs : DataW.TrodAll enc P W' 0 (fun b => decide (b < W.heap.size)) true f.params.toList args.toList (s.fn H (ds ++ gs)).args pa)
    (hvars : DataW.TrodVars enc P W' (fun b => decide (b < W.heap.size)) s.vars (s.fn H (ds ++ gs)).vars pv)
    (hk : Kp W W') : s.post enc P f apart fresh handsOn false W args v W' :=
  ⟨ds, gs, before, [], pa, pv, hW, hres _ _ _, hargs, hvars, Below.frame hk _, fun h => by cases h⟩

/-- The errors' variables and texts, by number less 1. -/
def msgs : List (String × List UInt8) := [
  ("timbre/api.ErrShort", [116, 105, 109, 98, 114, 101, 58, 32, 116, 111, 111, 32, 115, 104, 111, 114, 116]),
  ("timbre/api.ErrVarint", [116, 105, 109, 98, 114, 101, 58, 32, 118, 97, 114, 105, 110, 116]),
  ("timbre/api.ErrLimit", [116, 105, 109, 98, 114, 101, 58, 32, 108, 105, 109, 105, 116]),
  ("timbre/api.ErrTail", [116, 105, 109, 98, 114, 101, 58, 32, 116, 97, 105, 108]),
  ("timbre/api.ErrRange", [116, 105, 109, 98, 114, 101, 58, 32, 114, 97, 110, 103, 101]),
  ("timbre/api.ErrText", [116, 105, 109, 98, 114, 101, 58, 32, 116, 101, 120, 116]),
  ("timbre/api.ErrLength", [116, 105, 109, 98, 114, 101, 58, 32, 108, 101, 110, 103, 116, 104]),
  ("timbre/api.ErrOrder", [116, 105, 109, 98, 114, 101, 58, 32, 111, 114, 100, 101, 114]),
  ("timbre/api.ErrProgram", [116, 105, 109, 98, 114, 101, 58, 32, 112, 114, 111, 103, 114, 97, 109]),
  ("timbre/api.ErrState", [116, 105, 109, 98, 114, 101, 58, 32, 115, 116, 97, 116, 101]),
  ("timbre/api.ErrRoot", [116, 105, 109, 98, 114, 101, 58, 32, 114, 111, 111, 116]),
  ("timbre/api.ErrPerm", [116, 105, 109, 98, 114, 101, 58, 32, 112, 101, 114, 109, 117, 116, 97, 116, 105, 111, 110]),
  ("timbre/api.ErrNumber", [116, 105, 109, 98, 114, 101, 58, 32, 110, 117, 109, 98, 101, 114]),
  ("timbre/api.ErrWorkers", [116, 105, 109, 98, 114, 101, 58, 32, 119, 111, 114, 107, 101, 114, 115]),
  ("timbre/api.ErrDone", [116, 105, 109, 98, 114, 101, 58, 32, 100, 111, 110, 101]),
  ("timbre/api.ErrUnknown", [116, 105, 109, 98, 114, 101, 58, 32, 117, 110, 107, 110, 111, 119, 110]),
  ("timbre/api.ErrMode", [116, 105, 109, 98, 114, 101, 58, 32, 109, 111, 100, 101]),
  ("timbre/api.ErrCommand", [116, 105, 109, 98, 114, 101, 58, 32, 99, 111, 109, 109, 97, 110, 100]),
  ("timbre/api.ErrExact", [116, 105, 109, 98, 114, 101, 58, 32, 101, 120, 97, 99, 116])]
def sentD (m : List UInt8) : DataW Unit := .iface "*errors.errorString" (.ptr (.agg [.lit (.string m)]))

theorem name_err : Tryd.prog.typeName? 3 114 = some "*errors.errorString" := by kernel_rfl
theorem cells_es : Tryd.prog.cellsOf 132 = 1 := by kernel_rfl
theorem cells_str : Tryd.prog.cellsOf 9 = 1 := by kernel_rfl
theorem star_err : "*" ++ "errors.errorString" = "*errors.errorString" := by decide
theorem row_err (u : TypeId) (h : Tryd.prog.typeName? 3 u = some "*errors.errorString") : u = 114 :=
  typeName_ptr_named (nm := "errors.errorString") (by rw [star_err]; kernel_rfl) (by kernel_rfl) (by decide) u (by rw [star_err]; exact h)

/-- What a listed sentinel gives. -/
def SentAt (W : World) (x : String × List UInt8) : Prop :=
  ∃ g a s, Tryd.prog.globalNamed x.1 = some g ∧ W.cell? ⟨g, 0, none⟩ = some (errV a) ∧ W.cell? a = some (.string s) ∧ s.data.toList = x.2 ∧ ∃ c t, W.heap[a.block]? = some (.cells c t (0, 0))

set_option maxRecDepth 100000 in
theorem sents_of_vars {W : World} : ∀ (L : List (String × List UInt8)) (ps : List MemPlace),
    (∀ x ∈ L, (Tryd.prog.globalNamed x.1).bind (fun g => (Tryd.prog.globals[g]?).map (·.type)) = some 30) →
    DataW.LaidVars Tryd.prog W (L.map fun x => (x.1, sentD x.2)) ps →
    (∀ b off, MemPlace.cell b off ∈ ps → (∃ c t, W.heap[b]? = some (.cells c t (0, 0))) ∧ ∀ u v, W.cell? ⟨b, off, none⟩ = some (.iface u v) → Value.okWide Tryd.prog W .any 0 u v) →
    ∀ x ∈ L, SentAt W x
  | [], _, _, _, _ => fun _ hx => by cases hx
  | y :: L, ps, hT, h, hrows => by
    obtain ⟨g, t, cs, f, p, q, hg, ht, hv, hd, hq, e⟩ := h
    subst e
    have ht' : t = 30 := by
      have := hT y (List.mem_cons_self)
      rw [hg, Option.bind_some, ht] at this
      exact Option.some.inj this
    subst ht'
    obtain ⟨l⟩ := cs
    have ok : ∀ u v, l = [.iface u v] → Value.okWide Tryd.prog W .any 0 u v := fun u v e => by
      subst e
      exact (hrows g 0 (by simp [MemPlace.row])).2 u v (by simpa using World.var?_cell hg hv 0)
    obtain ⟨a, s, rfl, hc, hs, _, rfl⟩ := errorString_of_trod Tryd.underlying30 row_err Tryd.underlying114 Tryd.underlying132 rfl rfl Tryd.underlying9 cells_es cells_str hd ok
    have hb := (hrows a.block a.off (by simp [MemPlace.row])).1
    intro x hx
    rcases List.mem_cons.1 hx with rfl | hx
    · exact ⟨g, a, s, hg, by simpa [errV] using World.var?_cell hg hv 0, hc, hs, hb⟩
    · exact sents_of_vars L q (fun z hz => hT z (List.mem_cons_of_mem _ hz)) hq (fun b off hm => hrows b off (by simp [hm])) x hx

theorem sents_of_laid {W : World} (L : List (String × List UInt8)) (hT : (L.all fun x => (Tryd.prog.globalNamed x.1).bind (fun g => (Tryd.prog.globals[g]?).map (·.type)) == some 30) = true)
    (h : laidMetH Tryd.prog (L.map fun x => (x.1, sentD x.2)) W) : ∀ x ∈ L, SentAt W x := by
  rw [MakeChecks.laidMetH_plain _ _ _ (by simp [List.all_eq_true, sentD, DataW.handleName?])] at h
  obtain ⟨ps, hv, _, hrows⟩ := h
  exact sents_of_vars L ps (fun x hx => by simpa using List.all_eq_true.1 hT x hx) hv hrows

theorem msgs_globB : ((List.range 19).all fun i => Tryd.prog.globalNamed ((msgs.getD i default).1) == some (glob i)) = true := by kernel_rfl
theorem msgs_glob (i : Nat) (hi : i < 19) : Tryd.prog.globalNamed ((msgs.getD i default).1) = some (glob i) := by
  simpa using List.all_eq_true.1 msgs_globB i (List.mem_range.2 hi)
theorem msgs_diff : ∀ i, i < 19 → ∀ j, j < 19 → i ≠ j → (msgs.getD i default).2 ≠ (msgs.getD j default).2 := by decide
theorem msgs_mem : ∀ i, i < 19 → msgs.getD i default ∈ msgs := by decide
theorem msgs_type : (msgs.all fun x => (Tryd.prog.globalNamed x.1).bind (fun g => (Tryd.prog.globals[g]?).map (·.type)) == some 30) = true := by kernel_rfl

theorem errs_of_laid {W : World} (h : laidMetH Tryd.prog (msgs.map fun x => (x.1, sentD x.2)) W) : ∃ E, Errs W E := by
  have H := sents_of_laid msgs msgs_type h
  have S : ∀ i, i < 19 → ∃ a, W.cell? ⟨glob i, 0, none⟩ = some (errV a) ∧ (∃ s, W.cell? a = some (.string s) ∧ s.data.toList = (msgs.getD i default).2) ∧ ∃ c t, W.heap[a.block]? = some (.cells c t (0, 0)) := by
    intro i hi
    obtain ⟨g, a, s, hg, hc, hs, hm, hb⟩ := H _ (msgs_mem i hi)
    rw [msgs_glob i hi] at hg
    obtain rfl := Option.some.inj hg
    exact ⟨a, hc, ⟨s, hs, hm⟩, hb⟩
  refine ⟨fun i => if hi : i < 19 then Classical.choose (S i hi) else ⟨0, 0, none⟩, ?_, ?_, ?_⟩
  · intro i hi
    rw [dif_pos hi]
    exact (Classical.choose_spec (S i hi)).1
  · intro i j hi hj hne e
    rw [dif_pos hi, dif_pos hj] at e
    obtain ⟨s1, hs1, hm1⟩ := (Classical.choose_spec (S i hi)).2.1
    obtain ⟨s2, hs2, hm2⟩ := (Classical.choose_spec (S j hj)).2.1
    rw [e, hs2] at hs1
    cases hs1
    exact msgs_diff i hi j hj hne (hm1.symm.trans hm2)
  · intro i hi
    rw [dif_pos hi]
    exact (Classical.choose_spec (S i hi)).2.2
end Go.Proofs.YtgjlldapnodfbaaDoor
/-
  Arguments opened to cells: slices of numbers, slices of structs of four numbers.
-/
namespace Go.Proofs.YtgjlldapnodfbaaDoor
set_option maxRecDepth 100000
open Go Go.RowKit Go.Fl Go.ChangeShapes Go.WideShapes Go.ChangeAt Go.Deep

/-- A slice of numbers lies there. -/
def NumS (k : IntKind) (w : World) (o : Option Addr) (n : Nat) (bs : Nat → Int) : Prop := 0 < n → ∃ g off, o = some ⟨g, off, none⟩ ∧ g < w.heap.size ∧ ∀ j, j < n → w.cell? ⟨g, off + j, none⟩ = some (.int k (bs j))
section
variable {H : Type} {enc : TypeId × Value → H} {W : World}
theorem open_nums {t e : TypeId} {k : IntKind} {base : Nat} {v : Value} {d : DataW H} {p : List MemPlace} (ht : Tryd.prog.underlying t = some (.slice e)) (he : Tryd.prog.underlying e = some (.int k)) (hc : Tryd.prog.cellsOf e = 1)
    (hv : Value.okWide Tryd.prog W .any base t v) (h : DataW.Trod enc Tryd.prog W 0 (fun _ => true) true t v d p) (hlt : ∀ x ∈ p, x.block < W.heap.size) :
    ∃ (o : Option Addr) (n c : Nat) (bs : Nat → Int), v = .slice o n c ∧ NumS k W o n bs ∧ (∀ j, j < n → (Lit.int k (bs j)).wf = true) ∧ (n = 0 ∨ ∃ el sp, d = .slice el sp ∧ el.length = n) := by
  obtain ⟨a0, len, cap, rfl⟩ := okWide_slice ht hv
  obtain ⟨fuel, hf⟩ := h
  rcases open_ints ht he hc hf with ⟨hcs, hx⟩ | ⟨a, len', cap', zs, hcs, _, hl, hm, hz, hx, hcell, hwz⟩
  · simp [Value.cells] at hcs
    obtain ⟨rfl, rfl, rfl⟩ := hcs
    exact ⟨none, 0, 0, fun _ => 0, rfl, fun h => absurd h (by omega), fun j h => absurd h (by omega), Or.inl rfl⟩
  · simp [Value.cells] at hcs
    obtain ⟨rfl, rfl, rfl⟩ := hcs
    simp only [Prod.mk.injEq] at hx
    obtain ⟨rfl, rfl⟩ := hx
    simp only [if_true] at hz
    refine ⟨some a, len, cap, fun j => zs.getD j 0, rfl, fun h0 => ?_, fun j hj => ?_, Or.inr ⟨_, _, rfl, by simp [lits]; omega⟩⟩
    · obtain ⟨b, off, spot⟩ := a
      have hspot : spot = none := by simpa [Addr.add] using World.cell?_spot (hcell 0 (by omega))
      subst hspot
      have hbW : b < W.heap.size := hlt (.cell b off) (MemPlace.mem_row.2 ⟨0, by omega, by simp⟩)
      exact ⟨b, off, rfl, hbW, fun j hj => by rw [← add_plain]; exact hcell j (by omega)⟩
    · refine hwz _ ?_
      show zs.getD j 0 ∈ zs
      rw [List.getD_eq_getElem?_getD, List.getElem?_eq_getElem (by omega)]
      exact List.getElem_mem _
/-- The reach of a slice of numbers. -/
theorem reach_nums {ts : List TypeId} {ds : List (DataW H)} (hsz : (DataW.weightsEach Tryd.prog ts ds).all (· ≤ reachBytes) = true) {j : Nat} {t e : TypeId} {d : DataW H} {n b : Nat} (ht : ts[j]? = some t) (hd : ds[j]? = some d) (hu : Tryd.prog.underlying t = some (.slice e)) (hb : Tryd.prog.bytesOf e = b)
    (h : n = 0 ∨ ∃ el sp, d = .slice el sp ∧ el.length = n) : n * b ≤ 140737488351232 := by
  rcases h with rfl | ⟨el, sp, rfl, rfl⟩
  · omega
  · have := sized_slice hsz ht hd hu
    rw [hb] at this
    simp only [reachBytes] at this
    have h2 := Nat.mul_le_mul_right b (show el.length ≤ el.length + sp.length by omega)
    omega
theorem open_slice_fields {P : Program} {w : World} {base : Nat} {spare : Nat → Bool} {held : Bool} {t e : TypeId} {fs : Array Field} {fuel : Nat} {cs : List Value} {x : DataW H × List MemPlace} (ht : P.underlying t = some (.slice e)) (he : P.underlying e = some (.struct fs))
    (hone : oneCellFields P fs = true) (hC : P.cellsOf e = fs.size) (h : DataW.trod enc P w base spare held fuel t cs = some x) :
    (cs = [.slice none 0 0] ∧ x = (.nil, [])) ∨
    ∃ (a : Addr) (len cap m : Nat) (D : Nat → DataW H) (Pl : Nat → List MemPlace), cs = [.slice (some a) len cap] ∧ base ≤ a.block ∧ len ≤ cap ∧ cap ≤ maxLen ∧ m = (if spare a.block then cap else len) ∧
      x = (.slice ((List.range len).map D) ((List.range (m - len)).map fun j => D (len + j)), MemPlace.row a (m * fs.size) ++ (List.range m).flatMap Pl) ∧
      ∀ i, i < m → ∃ (ys : List (DataW H × List MemPlace)) (n : Nat), D i = .agg (ys.map (·.1)) ∧ Pl i = ys.flatMap (·.2) ∧ ys.length = fs.size ∧
        ∀ (j : Nat) (f : Field), fs[j]? = some f → ∃ (v : Value) (y : DataW H × List MemPlace), w.cell? (a.add (i * fs.size + j)) = some v ∧ ys[j]? = some y ∧ DataW.trod enc P w base spare held n f.type [v] = some y := by
  rcases open_slice ht h with h0 | ⟨a, len, cap, m, n, D, Pl, hcs, hb, hl, hm, hmm, hx, hi⟩
  · exact .inl h0
  · refine .inr ⟨a, len, cap, m, D, Pl, hcs, hb, hl, hm, hmm, by rw [hC] at hx; exact hx, fun i him => ?_⟩
    obtain ⟨cs', hc, ht'⟩ := hi i him
    rw [hC] at hc
    obtain ⟨ys, n', hn', hy, hlen, hyl, hf⟩ := DataW.trod_struct he ht'
    obtain ⟨_, hcl, hat⟩ := World.cells?_some hc
    simp only [Prod.mk.injEq] at hy
    refine ⟨ys, n', hy.1, hy.2, hyl, fun j f hj => ?_⟩
    obtain ⟨ho, hk⟩ := hone_of hone j f hj
    have hjl : j < fs.size := (Array.getElem?_eq_some_iff.1 hj).1
    have hcell := hat j hjl
    have hv : cs'[j]? = some (cs'[j]'(by omega)) := List.getElem?_eq_getElem (by omega)
    have h1 := hf j f hj
    rw [ho, hk] at h1
    have hone' : (cs'.drop j).take 1 = [cs'[j]'(by omega)] := by
      rw [List.drop_eq_getElem_cons (by omega)]
      rfl
    rw [hone'] at h1
    have hys : ys[j]? = some (ys[j]'(by omega)) := List.getElem?_eq_getElem (by omega)
    refine ⟨_, _, ?_, hys, h1.trans hys⟩
    rw [← Go.Deep.add_add, hcell, hv]
/-- A slice of structs of numbers lies there: element j's field i. -/
def StrS (k : IntKind) (m : Nat) (w : World) (o : Option Addr) (n : Nat) (ps : Nat → Nat → Int) : Prop := 0 < n → ∃ g off, o = some ⟨g, off, none⟩ ∧ g < w.heap.size ∧ ∀ j, j < n → ∀ i, i < m → w.cell? ⟨g, off + (j * m + i), none⟩ = some (.int k (ps j i))
theorem open_structs {t e : TypeId} {k : IntKind} {fs : Array Field} {base : Nat} {v : Value} {d : DataW H} {p : List MemPlace} (ht : Tryd.prog.underlying t = some (.slice e)) (he : Tryd.prog.underlying e = some (.struct fs)) (hone : oneCellFields Tryd.prog fs = true) (hC : Tryd.prog.cellsOf e = fs.size)
    (hpos : 0 < fs.size) (hk : ∀ (j : Nat) (f : Field), fs[j]? = some f → Tryd.prog.underlying f.type = some (.int k))
    (hv : Value.okWide Tryd.prog W .any base t v) (h : DataW.Trod enc Tryd.prog W 0 (fun _ => true) true t v d p) (hlt : ∀ x ∈ p, x.block < W.heap.size) :
    ∃ (o : Option Addr) (n c : Nat) (ps : Nat → Nat → Int), v = .slice o n c ∧ StrS k fs.size W o n ps ∧ (∀ j, j < n → ∀ i, i < fs.size → (Lit.int k (ps j i)).wf = true) ∧ (n = 0 ∨ ∃ el sp, d = .slice el sp ∧ el.length = n) := by
  obtain ⟨a0, len, cap, rfl⟩ := okWide_slice ht hv
  obtain ⟨fuel, hf⟩ := h
  rcases open_slice_fields ht he hone hC hf with ⟨hcs, hx⟩ | ⟨a, len', cap', m, D, Pl, hcs, _, hl, hm, hmm, hx, hi⟩
  · simp [Value.cells] at hcs
    obtain ⟨rfl, rfl, rfl⟩ := hcs
    exact ⟨none, 0, 0, fun _ _ => 0, rfl, fun h => absurd h (by omega), fun j h => absurd h (by omega), Or.inl rfl⟩
  · simp [Value.cells] at hcs
    obtain ⟨rfl, rfl, rfl⟩ := hcs
    simp only [Prod.mk.injEq] at hx
    obtain ⟨rfl, rfl⟩ := hx
    simp only [if_true] at hmm
    have each : ∀ i j, i < len → j < fs.size → ∃ z : Int, W.cell? (a.add (i * fs.size + j)) = some (.int k z) ∧ (Lit.int k z).wf = true := by
      intro i j hil hjl
      obtain ⟨ys, n, _, _, _, hy⟩ := hi i (by omega)
      obtain ⟨u, y, hu, _, ht'⟩ := hy j _ (Array.getElem?_eq_getElem hjl)
      obtain ⟨z, hz, _, hw⟩ := DataW.trod_int (hk j _ (Array.getElem?_eq_getElem hjl)) ht'
      cases hz
      exact ⟨z, hu, hw⟩
    refine ⟨some a, len, cap, fun i j => if hh : i < len ∧ j < fs.size then Classical.choose (each i j hh.1 hh.2) else 0, rfl, fun h0 => ?_, fun i hil j hjl => ?_, Or.inr ⟨_, _, rfl, by simp⟩⟩
    · obtain ⟨b, off, spot⟩ := a
      obtain ⟨z0, hz0, _⟩ := each 0 0 h0 hpos
      have hspot : spot = none := by simpa [Addr.add] using World.cell?_spot hz0
      subst hspot
      have hbW : b < W.heap.size := by have := World.block_lt_of_cell? _ _ hz0; simpa [Addr.add] using this
      refine ⟨b, off, rfl, hbW, fun i hil j hjl => ?_⟩
      dsimp only
      rw [dif_pos ⟨hil, hjl⟩, ← add_plain]
      exact (Classical.choose_spec (each i j hil hjl)).1
    · dsimp only
      rw [dif_pos ⟨hil, hjl⟩]
      exact (Classical.choose_spec (each i j hil hjl)).2
end
theorem laidOut : laidOutB Tryd.prog = true := by kernel_rfl
end Go.Proofs.YtgjlldapnodfbaaDoor
/-
  An argument that is an order, opened to a tree.
-/
namespace Go.Proofs.YtgjlldapnodfbaaDoor
open Go Go.RowKit Go.Fl Go.Ord Go.ChangeShapes Go.WideShapes Go.ChangeAt Go.Deep
set_option maxRecDepth 100000

theorem cellsO : Tryd.prog.cellsOf 28 = 3 := by kernel_rfl
theorem cellsI : Tryd.prog.cellsOf 3 = 1 := by kernel_rfl
theorem cellsSO : Tryd.prog.cellsOf 26 = 1 := by kernel_rfl
theorem bytesO : Tryd.prog.bytesOf 28 = 40 := by kernel_rfl
theorem wAll_mem {H : Type} {P : Program} {e : TypeId} : ∀ {l : List (DataW H)} {d : DataW H}, d ∈ l → ∀ n ∈ d.weights P e, n ∈ DataW.weightsAll P e l
  | [], _, h, _, _ => by cases h
  | d0 :: l, d, h, n, hn => by
    simp only [DataW.weightsAll, List.mem_append]
    rcases List.mem_cons.1 h with rfl | h
    · exact .inl hn
    · exact .inr (wAll_mem h n hn)
theorem i64_of_wf {n : Int} (h : (Lit.int .i64 n).wf = true) : -9223372036854775808 ≤ n ∧ n ≤ 9223372036854775807 := by
  have h1 := of_decide_eq_true (show decide (IntKind.i64.min ≤ n ∧ n ≤ IntKind.i64.max) = true from by simpa [Lit.wf] using h)
  rw [show IntKind.i64.min = -9223372036854775808 by rfl, show IntKind.i64.max = 9223372036854775807 by rfl] at h1
  exact h1
theorem ad_plain (b off x y : Nat) : (((⟨b, off, none⟩ : Addr).add x).add y) = ⟨b, off + x + y, none⟩ := by
  unfold Addr.add; split <;> split <;> simp_all
theorem open_order {H : Type} {enc : TypeId × Value → H} {W : World} : ∀ (N fuel : Nat) (c0 c1 c2 : Value) (x : DataW H × List MemPlace), fuel ≤ N →
    DataW.trod enc Tryd.prog W 0 (fun _ => true) true fuel 28 [c0, c1, c2] = some x → (∀ p ∈ x.2, p.block < W.heap.size) → (∀ n ∈ x.1.weights Tryd.prog 28, n ≤ reachBytes) →
    ∃ T, OIn W T (.agg #[c0, c1, c2]) := by
  intro N
  induction N with
  | zero =>
    intro fuel c0 c1 c2 x hN h _ _
    obtain rfl : fuel = 0 := by omega
    simp [DataW.trod] at h
  | succ N ih =>
    intro fuel c0 c1 c2 x hN h hp hw
    obtain ⟨xs, n0, hfu, hx, _, hlen, hf⟩ := DataW.trod_struct Tryd.underlying28 h
    match xs, hlen with
    | [y0, y1, y2], _ =>
      have h0 : DataW.trod enc Tryd.prog W 0 (fun _ => true) true n0 3 [c0] = some y0 := by simpa [cellsI] using hf 0 _ rfl
      have h1 : DataW.trod enc Tryd.prog W 0 (fun _ => true) true n0 3 [c1] = some y1 := by simpa [cellsI] using hf 1 _ rfl
      have h2 : DataW.trod enc Tryd.prog W 0 (fun _ => true) true n0 26 [c2] = some y2 := by simpa [cellsSO] using hf 2 _ rfl
      obtain ⟨k, e0, _, _⟩ := DataW.trod_int Tryd.underlying3 h0
      obtain ⟨n, e1, _, w1⟩ := DataW.trod_int Tryd.underlying3 h1
      obtain rfl : c0 = .int .i64 k := by simpa using e0
      obtain rfl : c1 = .int .i64 n := by simpa using e1
      obtain ⟨hn0, hn1⟩ := i64_of_wf w1
      subst hx
      have hp2 : ∀ p ∈ y2.2, p.block < W.heap.size := fun p hpp => hp p (by simp [hpp])
      have hw2 : ∀ n ∈ y2.1.weights Tryd.prog 26, n ≤ reachBytes := fun n hn => hw n (by
        simp only [DataW.weights, Tryd.underlying28]
        exact DataW.weights_mem_each (j := 2) rfl rfl n hn)
      rcases DataW.trod_slice Tryd.underlying26 h2 with ⟨e2, _⟩ | ⟨a, len, cap, elems, rest, nf, hnf, e2, hx2, _, hl, hm, hel, hat0, _⟩
      · obtain rfl : c2 = .slice none 0 0 := by simpa using e2
        exact ⟨.mk k n 0 (fun _ => .nil), none, 0, rfl, ⟨by decide, hn0, hn1⟩, fun h => absurd h (by decide)⟩
      · obtain rfl : c2 = .slice (some a) len cap := by simpa using e2
        subst hx2
        obtain ⟨b, off, spot⟩ := a
        have hlen5 : len ≤ 5864062014805 := by
          have := hw2 _ (by simp only [DataW.weights, Tryd.underlying26]; exact List.mem_cons_self ..)
          simp only [List.length_map, bytesO, reachBytes] at this
          omega
        rcases Nat.eq_zero_or_pos len with hz | hpos
        · subst hz
          exact ⟨.mk k n 0 (fun _ => .nil), _, cap, rfl, ⟨by decide, hn0, hn1⟩, fun h => absurd h (by decide)⟩
        have elem : ∀ i, i < len → ∃ a0 a1 a2 y, W.cell? (((⟨b, off, spot⟩ : Addr).add (i * 3)).add 0) = some a0 ∧ W.cell? (((⟨b, off, spot⟩ : Addr).add (i * 3)).add 1) = some a1 ∧ W.cell? (((⟨b, off, spot⟩ : Addr).add (i * 3)).add 2) = some a2 ∧
            DataW.trod enc Tryd.prog W 0 (fun _ => true) true nf 28 [a0, a1, a2] = some y ∧ y ∈ elems := by
          intro i hi
          have h3 := hat0 i hi
          rw [cellsO, List.getElem?_eq_getElem (by omega), Option.bind_eq_some_iff] at h3
          obtain ⟨cs', hc, ht⟩ := h3
          obtain ⟨_, hcl, hat⟩ := World.cells?_some hc
          match cs', hcl with
          | [a0, a1, a2], _ => exact ⟨a0, a1, a2, _, hat 0 (by decide), hat 1 (by decide), hat 2 (by decide), ht, List.getElem_mem _⟩
        have hspot : spot = none := by
          obtain ⟨a0, _, _, _, q0, _⟩ := elem 0 hpos
          simpa [Addr.add] using World.cell?_spot q0
        subst hspot
        have sub : ∀ i, i < len → ∃ T a0 a1 a2, W.cell? ⟨b, off + i * 3, none⟩ = some a0 ∧ W.cell? ⟨b, off + i * 3 + 1, none⟩ = some a1 ∧ W.cell? ⟨b, off + i * 3 + 2, none⟩ = some a2 ∧ OIn W T (.agg #[a0, a1, a2]) := by
          intro i hi
          obtain ⟨a0, a1, a2, y, q0, q1, q2, ht, hy⟩ := elem i hi
          rw [ad_plain] at q0 q1 q2
          obtain ⟨T, hT⟩ := ih nf a0 a1 a2 y (by omega) ht (fun p hpp => hp2 p (by simp only [List.mem_append, List.mem_flatMap]; exact .inr ⟨y, .inl hy, hpp⟩))
            (fun n hn => hw2 n (by
              simp only [DataW.weights, Tryd.underlying26]
              exact List.mem_cons_of_mem _ (List.mem_append_left _ (wAll_mem (List.mem_map.2 ⟨y, hy, rfl⟩) n hn))))
          exact ⟨T, a0, a1, a2, q0, q1, q2, hT⟩
        have hb : b < W.heap.size := by
          obtain ⟨_, _, _, _, q0, _⟩ := sub 0 hpos
          exact World.block_lt_of_cell? W _ q0
        let kid : Nat → Tr := fun i => if h : i < len then Classical.choose (sub i h) else .nil
        refine ⟨.mk k n len kid, _, cap, rfl, ⟨hlen5, hn0, hn1⟩, fun _ => ⟨b, off, rfl, hb, fun i hi => ?_⟩⟩
        obtain ⟨a0, a1, a2, q0, q1, q2, hT⟩ := Classical.choose_spec (sub i hi)
        have e : kid i = Classical.choose (sub i hi) := by simp only [kid]; rw [dif_pos hi]
        exact ⟨a0, a1, a2, q0, q1, q2, by rw [e]; exact hT⟩
/-- An argument. -/
theorem open_order_arg {H : Type} {enc : TypeId × Value → H} {W : World} {base : Nat} {v : Value} {d : DataW H} {p : List MemPlace} (hv : Value.okWide Tryd.prog W .any base 28 v) (h : DataW.Trod enc Tryd.prog W 0 (fun _ => true) true 28 v d p)
    (hp : ∀ x ∈ p, x.block < W.heap.size) (hw : ∀ n ∈ d.weights Tryd.prog 28, n ≤ reachBytes) : ∃ T, OIn W T v := by
  obtain ⟨cs, rfl, hs⟩ := okWide_struct Tryd.underlying28 hv
  rw [cellsO] at hs
  obtain ⟨fuel, hf⟩ := h
  obtain ⟨l⟩ := cs
  match l, hs with
  | [c0, c1, c2], _ => exact open_order fuel fuel c0 c1 c2 _ (Nat.le_refl _) hf hp hw
end Go.Proofs.YtgjlldapnodfbaaDoor
/-
  The walk of PlannerCosts.
-/
namespace Go.Proofs.YtgjlldapnodfbaaDoor
open Go Go.RowKit Go.Fl Go.Ord Go.Pr Go.Maps

theorem Errs.four {w : World} {E : Nat → Addr} (h : Errs w E) : Er4 w (E 4) (E 6) (E 7) (E 2) := ⟨h.cell 4 (by decide), h.cell 6 (by decide), h.cell 7 (by decide), h.cell 2 (by decide)⟩
theorem Num_errNo (E : Nat → Addr) (e : Nat) (w : World) (hE : Errs w E) (he : e = 0 ∨ e = 3 ∨ e = 8) :
    Calls Tryd.prog 11 #[errNo (E 7) (E 2) e] w fun r w' => r = .returned (.int .i64 (e : Int)) ∧ Kp w w' := by
  rcases he with rfl | rfl | rfl
  · exact (Num_nil w).mono fun r w' ⟨h1, h2⟩ => ⟨h1, h2 ▸ Kp.refl w⟩
  · exact Num_err E 2 (by decide) w hE
  · exact Num_err E 7 (by decide) w hE
theorem cost_no (T : Tr) : T.cost.2 = 0 ∨ T.cost.2 = 3 ∨ T.cost.2 = 8 := by
  by_cases h : T.Len = 0
  · rw [cost_bad h]; simp
  · by_cases h2 : 4611686018427387904 < T.C
    · rw [cost_dear h h2]; simp
    · rw [cost_good h h2]; simp
set_option maxRecDepth 100000 in
set_option maxHeartbeats 2000000 in
theorem walk_PlannerCosts (W : World) (v : Value) (T : Tr) (hT : OIn W T v) (E : Nat → Addr) (hE : Errs W E) :
    Calls Tryd.prog 4 #[v] W fun e w' => e = .returned (.bool true) ∧ Kp W w' := by
  have HF : Hid (∀ w', Kp W w' → Calls Tryd.prog 8 #[] w' fun e w'' => e = .returned (.bool true) ∧ Kp w' w'') := Lib.hid fun w' k => ofixed_any _ _ _ _ w' (hE.kp k).four
  have HC : Hid (∀ w', Kp W w' → Calls Tryd.prog 18 #[v] w' fun e w'' => e = .returned (.tuple #[.int .i64 T.cost.1, errNo (E 7) (E 2) T.cost.2]) ∧ Kp w' w'') := Lib.hid fun w' k => pCost_any T v _ _ w' (hT.kp k) ((hE.kp k).cell 7 (by decide)) ((hE.kp k).cell 2 (by decide))
  have HR : Hid (∀ w', Kp W w' → Calls Tryd.prog 19 #[v] w' fun e w'' => e = .returned (.tuple #[.int .i64 T.cost.1, .int .i64 (T.cost.2 : Nat)]) ∧ Kp w' w'') := Lib.hid fun w' k => rCost_any T v w' (hT.kp k)
  have HN : Hid (∀ w', Kp W w' → Calls Tryd.prog 11 #[errNo (E 7) (E 2) T.cost.2] w' fun e w'' => e = .returned (.int .i64 (T.cost.2 : Nat)) ∧ Kp w' w'') := Lib.hid fun w' k => Num_errNo E _ w' (hE.kp k) (cost_no T)
  obtain ⟨k, n, m, o, c, rfl⟩ := hT.form
  obtain ⟨C, hC⟩ : ∃ C, T.cost.1 = C := ⟨_, rfl⟩
  obtain ⟨e0, he0⟩ : ∃ e0, T.cost.2 = e0 := ⟨_, rfl⟩
  rw [hC, he0] at HC HR
  rw [he0] at HN
  obtain ⟨ev, hev⟩ : ∃ ev, errNo (E 7) (E 2) e0 = ev := ⟨_, rfl⟩
  rw [hev] at HC HN
  clear hev hC he0 hT hE
  have hA := heap_alloc_new W (.cells #[.int .i64 k, .int .i64 n, .slice o m c] 28)
  have k0 := (Kp.refl W).alloc (.cells #[.int .i64 k, .int .i64 n, .slice o m c] 28)
  go_enter Tryd.func4, Tryd.ntmps4
  go_wp2_with (first
    | (go_at_call 8; (with_reducible refine (HF.out _ k0).mono ?_); rintro e w1 ⟨rfl, hk1⟩; have kA := k0.trans hk1; obtain ⟨⟨b0, b1, b2⟩, _⟩ := row3_facts ((hk1.block _ (Array.getElem?_eq_some_iff.1 hA).1).trans hA))
    | (go_at_call 18; (with_reducible refine (HC.out _ kA).mono ?_); rintro e w2 ⟨rfl, hk2⟩; have kB := kA.trans hk2; obtain ⟨⟨d0, d1, d2⟩, _⟩ := row3_facts (((hk1.trans hk2).block _ (Array.getElem?_eq_some_iff.1 hA).1).trans hA))
    | (go_at_call 19; (with_reducible refine (HR.out _ kB).mono ?_); rintro e w3 ⟨rfl, hk3⟩; have kC := kB.trans hk3)
    | (go_at_call 11; (with_reducible refine (HN.out _ kC).mono ?_); rintro e w4 ⟨rfl, hk4⟩))
  go_ret
  exact ⟨rfl, kC.trans hk4⟩
end Go.Proofs.YtgjlldapnodfbaaDoor
