/-
  What the listed error variables hold at the call's start: each a pointer of its own.
-/
import Derived.Test.YtgjlldapnodfbaaDoorErr
import Derived.Test.YtgjlldapnodfbaaDoorRows
import Derived.ProofKit
import Derived.LaidMore
import Derived.LaidLaws
import Derived.MakeChecks
import Derived.Stop.Joined
import Derived.Stop.ErrReads
namespace Go.Proofs.YtgjlldapnodfbaaDoor
open Go Go.RowKit Go.Fl Go.ChangeShapes Go.WideShapes Go.ChangeAt

/-- A row's end where what was there stays. -/
theorem post_kp {H : Type} {enc : TypeId × Value → H} {P : Program} {f : Func} {s : ChangeSpec} {apart fresh handsOn : Bool} {W W' : World} {args : Array Value} {v : Value} {ds gs : List (DataW H)} {before pa pv : List MemPlace}
    (hW : DataW.Whole enc P f.params.toList s.vars apart W args.toList ds gs before)
    (hres : ∀ (b : Nat) (sp : Nat → Bool) (hd : Bool), DataW.TrodAll enc P W' b sp hd f.resultTypes.toList (v.resultList f.resultTypes.size) (s.fn H (ds ++ gs)).results [])
    (hargs : DataW.TrodAll enc P W' 0 (fun b => decide (b < W.heap.size)) true f.params.toList args.toList (s.fn H (ds ++ gs)).args pa)
    (hvars : DataW.TrodVars enc P W' (fun b => decide (b < W.heap.size)) s.vars (s.fn H (ds ++ gs)).vars pv)
    (hk : Kp W W') : s.post enc P f apart fresh handsOn false W args v W' :=
  ⟨ds, gs, before, [], pa, pv, hW, hres _ _ _, hargs, hvars, Below.frame hk _, fun h => by cases h⟩

/-- The errors' variables and texts, by number less 1. -/
def msgs : List (String × List UInt8) := [
  ("timbre/api.ErrShort", [116, 105, 109, 98, 114, 101, 58, 32, 116, 111, 111, 32, 115, 104, 111, 114, 116]),
  ("timbre/api.ErrVarint", [116, 105, 109, 98, 114, 101, 58, 32, 118, 97, 114, 105, 110, 116]),
  ("timbre/api.ErrLimit", [116, 105, 109, 98, 114, 101, 58, 32, 108, 105, 109, 105, 116]),
  ("timbre/api.ErrTail", [116, 105, 109, 98, 114, 101, 58, 32, 116, 97, 105, 108]),
  ("timbre/api.ErrRange", [116, 105, 109, 98, 114, 101, 58, 32, 114, 97, 110, 103, 101]),
  ("timbre/api.ErrText", [116, 105, 109, 98, 114, 101, 58, 32, 116, 101, 120, 116]),
  ("timbre/api.ErrLength", [116, 105, 109, 98, 114, 101, 58, 32, 108, 101, 110, 103, 116, 104]),
  ("timbre/api.ErrOrder", [116, 105, 109, 98, 114, 101, 58, 32, 111, 114, 100, 101, 114]),
  ("timbre/api.ErrProgram", [116, 105, 109, 98, 114, 101, 58, 32, 112, 114, 111, 103, 114, 97, 109]),
  ("timbre/api.ErrState", [116, 105, 109, 98, 114, 101, 58, 32, 115, 116, 97, 116, 101]),
  ("timbre/api.ErrRoot", [116, 105, 109, 98, 114, 101, 58, 32, 114, 111, 111, 116]),
  ("timbre/api.ErrPerm", [116, 105, 109, 98, 114, 101, 58, 32, 112, 101, 114, 109, 117, 116, 97, 116, 105, 111, 110]),
  ("timbre/api.ErrNumber", [116, 105, 109, 98, 114, 101, 58, 32, 110, 117, 109, 98, 101, 114]),
  ("timbre/api.ErrWorkers", [116, 105, 109, 98, 114, 101, 58, 32, 119, 111, 114, 107, 101, 114, 115]),
  ("timbre/api.ErrDone", [116, 105, 109, 98, 114, 101, 58, 32, 100, 111, 110, 101]),
  ("timbre/api.ErrUnknown", [116, 105, 109, 98, 114, 101, 58, 32, 117, 110, 107, 110, 111, 119, 110]),
  ("timbre/api.ErrMode", [116, 105, 109, 98, 114, 101, 58, 32, 109, 111, 100, 101]),
  ("timbre/api.ErrCommand", [116, 105, 109, 98, 114, 101, 58, 32, 99, 111, 109, 109, 97, 110, 100]),
  ("timbre/api.ErrExact", [116, 105, 109, 98, 114, 101, 58, 32, 101, 120, 97, 99, 116])]
def sentD (m : List UInt8) : DataW Unit := .iface "*errors.errorString" (.ptr (.agg [.lit (.string m)]))

theorem name_err : Tryd.prog.typeName? 3 114 = some "*errors.errorString" := by kernel_rfl
theorem cells_es : Tryd.prog.cellsOf 132 = 1 := by kernel_rfl
theorem cells_str : Tryd.prog.cellsOf 9 = 1 := by kernel_rfl
theorem star_err : "*" ++ "errors.errorString" = "*errors.errorString" := by decide
theorem row_err (u : TypeId) (h : Tryd.prog.typeName? 3 u = some "*errors.errorString") : u = 114 :=
  typeName_ptr_named (nm := "errors.errorString") (by rw [star_err]; kernel_rfl) (by kernel_rfl) (by decide) u (by rw [star_err]; exact h)

/-- What a listed sentinel gives. -/
def SentAt (W : World) (x : String × List UInt8) : Prop :=
  ∃ g a s, Tryd.prog.globalNamed x.1 = some g ∧ W.cell? ⟨g, 0, none⟩ = some (errV a) ∧ W.cell? a = some (.string s) ∧ s.data.toList = x.2 ∧ ∃ c t, W.heap[a.block]? = some (.cells c t (0, 0))

set_option maxRecDepth 100000 in
theorem sents_of_vars {W : World} : ∀ (L : List (String × List UInt8)) (ps : List MemPlace),
    (∀ x ∈ L, (Tryd.prog.globalNamed x.1).bind (fun g => (Tryd.prog.globals[g]?).map (·.type)) = some 30) →
    DataW.LaidVars Tryd.prog W (L.map fun x => (x.1, sentD x.2)) ps →
    (∀ b off, MemPlace.cell b off ∈ ps → (∃ c t, W.heap[b]? = some (.cells c t (0, 0))) ∧ ∀ u v, W.cell? ⟨b, off, none⟩ = some (.iface u v) → Value.okWide Tryd.prog W .any 0 u v) →
    ∀ x ∈ L, SentAt W x
  | [], _, _, _, _ => fun _ hx => by cases hx
  | y :: L, ps, hT, h, hrows => by
    obtain ⟨g, t, cs, f, p, q, hg, ht, hv, hd, hq, e⟩ := h
    subst e
    have ht' : t = 30 := by
      have := hT y (List.mem_cons_self)
      rw [hg, Option.bind_some, ht] at this
      exact Option.some.inj this
    subst ht'
    obtain ⟨l⟩ := cs
    have ok : ∀ u v, l = [.iface u v] → Value.okWide Tryd.prog W .any 0 u v := fun u v e => by
      subst e
      exact (hrows g 0 (by simp [MemPlace.row])).2 u v (by simpa using World.var?_cell hg hv 0)
    obtain ⟨a, s, rfl, hc, hs, _, rfl⟩ := errorString_of_trod Tryd.underlying30 row_err Tryd.underlying114 Tryd.underlying132 rfl rfl Tryd.underlying9 cells_es cells_str hd ok
    have hb := (hrows a.block a.off (by simp [MemPlace.row])).1
    intro x hx
    rcases List.mem_cons.1 hx with rfl | hx
    · exact ⟨g, a, s, hg, by simpa [errV] using World.var?_cell hg hv 0, hc, hs, hb⟩
    · exact sents_of_vars L q (fun z hz => hT z (List.mem_cons_of_mem _ hz)) hq (fun b off hm => hrows b off (by simp [hm])) x hx

theorem sents_of_laid {W : World} (L : List (String × List UInt8)) (hT : (L.all fun x => (Tryd.prog.globalNamed x.1).bind (fun g => (Tryd.prog.globals[g]?).map (·.type)) == some 30) = true)
    (h : laidMetH Tryd.prog (L.map fun x => (x.1, sentD x.2)) W) : ∀ x ∈ L, SentAt W x := by
  rw [MakeChecks.laidMetH_plain _ _ _ (by simp [List.all_eq_true, sentD, DataW.handleName?])] at h
  obtain ⟨ps, hv, _, hrows⟩ := h
  exact sents_of_vars L ps (fun x hx => by simpa using List.all_eq_true.1 hT x hx) hv hrows

theorem msgs_globB : ((List.range 19).all fun i => Tryd.prog.globalNamed ((msgs.getD i default).1) == some (glob i)) = true := by kernel_rfl
theorem msgs_glob (i : Nat) (hi : i < 19) : Tryd.prog.globalNamed ((msgs.getD i default).1) = some (glob i) := by
  simpa using List.all_eq_true.1 msgs_globB i (List.mem_range.2 hi)
theorem msgs_diff : ∀ i, i < 19 → ∀ j, j < 19 → i ≠ j → (msgs.getD i default).2 ≠ (msgs.getD j default).2 := by decide
theorem msgs_mem : ∀ i, i < 19 → msgs.getD i default ∈ msgs := by decide
theorem msgs_type : (msgs.all fun x => (Tryd.prog.globalNamed x.1).bind (fun g => (Tryd.prog.globals[g]?).map (·.type)) == some 30) = true := by kernel_rfl

theorem errs_of_laid {W : World} (h : laidMetH Tryd.prog (msgs.map fun x => (x.1, sentD x.2)) W) : ∃ E, Errs W E := by
  have H := sents_of_laid msgs msgs_type h
  have S : ∀ i, i < 19 → ∃ a, W.cell? ⟨glob i, 0, none⟩ = some (errV a) ∧ (∃ s, W.cell? a = some (.string s) ∧ s.data.toList = (msgs.getD i default).2) ∧ ∃ c t, W.heap[a.block]? = some (.cells c t (0, 0)) := by
    intro i hi
    obtain ⟨g, a, s, hg, hc, hs, hm, hb⟩ := H _ (msgs_mem i hi)
    rw [msgs_glob i hi] at hg
    obtain rfl := Option.some.inj hg
    exact ⟨a, hc, ⟨s, hs, hm⟩, hb⟩
  refine ⟨fun i => if hi : i < 19 then Classical.choose (S i hi) else ⟨0, 0, none⟩, ?_, ?_, ?_⟩
  · intro i hi
    rw [dif_pos hi]
    exact (Classical.choose_spec (S i hi)).1
  · intro i j hi hj hne e
    rw [dif_pos hi, dif_pos hj] at e
    obtain ⟨s1, hs1, hm1⟩ := (Classical.choose_spec (S i hi)).2.1
    obtain ⟨s2, hs2, hm2⟩ := (Classical.choose_spec (S j hj)).2.1
    rw [e, hs2] at hs1
    cases hs1
    exact msgs_diff i hi j hj hne (hm1.symm.trans hm2)
  · intro i hi
    rw [dif_pos hi]
    exact (Classical.choose_spec (S i hi)).2.2
end Go.Proofs.YtgjlldapnodfbaaDoor
