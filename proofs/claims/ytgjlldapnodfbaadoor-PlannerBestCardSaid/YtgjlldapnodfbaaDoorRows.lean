/-
  NARROWER THAN 'FOR EVERY INPUT', by the rows' own cells (each row's printed sentence says how): PlannerChooses: laid · PlannerCosts: loops, laid · PlannerGrows: loops, laid · PlannerLists: laid · PlannerBest: laid.
  DERIVED. THE GIVEN ROWS OF THIS SEAT. 5 by the template 'for every input the law returns true; each argument reads behind the call as it read before'; 0 by the template 'total and deterministic' (their statements: YtgjlldapnodfbaaDoorTotals.lean).
  GIVEN WITH THE SEED: the statements are not yours to turn. If you find one false, say at which input.
  Laid BY PROGRAM, IN A SANDBOX (cutbox-rows.mjs): the forced cells as the released guide's own fill.sh prints them over the translation 0bb7d8941bcf0084… (all of the seat's roots in one cut). By AI agents, Wed Nov 11 2026. No macro, syntax, notation, axiom, sorry.
-/
import Derived.Test.YtgjlldapnodfbaaDoorChecked
import GoSem.Claim
import GoSem.ClaimJoined
import GoSem.ClaimMapViews
import Derived.JoinedTies
import Derived.KernelRfl
namespace Go.Proofs.YtgjlldapnodfbaaDoor
/- THE CELL 'sum', in the pinned program and in every row, IS THE sha256 OF THE DUMP (.gsa) THAT YtgjlldapnodfbaaDoorProg.lean LOADS. Nothing in Lean hashes anything: it is a label: what it is worth is what the hold of that sum in a sandbox is worth. -/
noncomputable def Tryd.pinned : Pinned := { name := "ytgjlldapnodfbaadoor", sum := "0bb7d8941bcf0084bcf54c45756076484b35e063c7b9bd9ed15fa73e1434e841", checked := Tryd.checked }
namespace Rows
def none {H : Type} : Left H := { results := [], args := [] }

/- WHAT THE LISTED PACKAGE-LEVEL VARIABLES READ AS WHEN THE CALL BEGINS. Each datum BY PROGRAM (the guide's laid-datum.mjs) off the statement by which the dump's own 'gosem.cut.vars' lays the variable. In a bare row this is a premise. The card (YtgjlldapnodfbaaDoorCards.lean) ties it to the program's text. -/
def laid_timbre_api_ErrShort {H : Type} : DataW H := .iface "*errors.errorString" (.ptr (.agg [.lit (.string [116, 105, 109, 98, 114, 101, 58, 32, 116, 111, 111, 32, 115, 104, 111, 114, 116])]))
def laid_timbre_api_ErrVarint {H : Type} : DataW H := .iface "*errors.errorString" (.ptr (.agg [.lit (.string [116, 105, 109, 98, 114, 101, 58, 32, 118, 97, 114, 105, 110, 116])]))
def laid_timbre_api_ErrLimit {H : Type} : DataW H := .iface "*errors.errorString" (.ptr (.agg [.lit (.string [116, 105, 109, 98, 114, 101, 58, 32, 108, 105, 109, 105, 116])]))
def laid_timbre_api_ErrTail {H : Type} : DataW H := .iface "*errors.errorString" (.ptr (.agg [.lit (.string [116, 105, 109, 98, 114, 101, 58, 32, 116, 97, 105, 108])]))
def laid_timbre_api_ErrRange {H : Type} : DataW H := .iface "*errors.errorString" (.ptr (.agg [.lit (.string [116, 105, 109, 98, 114, 101, 58, 32, 114, 97, 110, 103, 101])]))
def laid_timbre_api_ErrText {H : Type} : DataW H := .iface "*errors.errorString" (.ptr (.agg [.lit (.string [116, 105, 109, 98, 114, 101, 58, 32, 116, 101, 120, 116])]))
def laid_timbre_api_ErrLength {H : Type} : DataW H := .iface "*errors.errorString" (.ptr (.agg [.lit (.string [116, 105, 109, 98, 114, 101, 58, 32, 108, 101, 110, 103, 116, 104])]))
def laid_timbre_api_ErrOrder {H : Type} : DataW H := .iface "*errors.errorString" (.ptr (.agg [.lit (.string [116, 105, 109, 98, 114, 101, 58, 32, 111, 114, 100, 101, 114])]))
def laid_timbre_api_ErrProgram {H : Type} : DataW H := .iface "*errors.errorString" (.ptr (.agg [.lit (.string [116, 105, 109, 98, 114, 101, 58, 32, 112, 114, 111, 103, 114, 97, 109])]))
def laid_timbre_api_ErrState {H : Type} : DataW H := .iface "*errors.errorString" (.ptr (.agg [.lit (.string [116, 105, 109, 98, 114, 101, 58, 32, 115, 116, 97, 116, 101])]))
def laid_timbre_api_ErrRoot {H : Type} : DataW H := .iface "*errors.errorString" (.ptr (.agg [.lit (.string [116, 105, 109, 98, 114, 101, 58, 32, 114, 111, 111, 116])]))
def laid_timbre_api_ErrPerm {H : Type} : DataW H := .iface "*errors.errorString" (.ptr (.agg [.lit (.string [116, 105, 109, 98, 114, 101, 58, 32, 112, 101, 114, 109, 117, 116, 97, 116, 105, 111, 110])]))
def laid_timbre_api_ErrNumber {H : Type} : DataW H := .iface "*errors.errorString" (.ptr (.agg [.lit (.string [116, 105, 109, 98, 114, 101, 58, 32, 110, 117, 109, 98, 101, 114])]))
def laid_timbre_api_ErrWorkers {H : Type} : DataW H := .iface "*errors.errorString" (.ptr (.agg [.lit (.string [116, 105, 109, 98, 114, 101, 58, 32, 119, 111, 114, 107, 101, 114, 115])]))
def laid_timbre_api_ErrDone {H : Type} : DataW H := .iface "*errors.errorString" (.ptr (.agg [.lit (.string [116, 105, 109, 98, 114, 101, 58, 32, 100, 111, 110, 101])]))
def laid_timbre_api_ErrUnknown {H : Type} : DataW H := .iface "*errors.errorString" (.ptr (.agg [.lit (.string [116, 105, 109, 98, 114, 101, 58, 32, 117, 110, 107, 110, 111, 119, 110])]))
def laid_timbre_api_ErrMode {H : Type} : DataW H := .iface "*errors.errorString" (.ptr (.agg [.lit (.string [116, 105, 109, 98, 114, 101, 58, 32, 109, 111, 100, 101])]))
def laid_timbre_api_ErrCommand {H : Type} : DataW H := .iface "*errors.errorString" (.ptr (.agg [.lit (.string [116, 105, 109, 98, 114, 101, 58, 32, 99, 111, 109, 109, 97, 110, 100])]))
def laid_timbre_api_ErrExact {H : Type} : DataW H := .iface "*errors.errorString" (.ptr (.agg [.lit (.string [116, 105, 109, 98, 114, 101, 58, 32, 101, 120, 97, 99, 116])]))

/-- 'timbrelaw14.PlannerChooses': WHATEVER THE INPUT: true; the input reads as it did. -/
def plannerChoosesSpec : ChangeSpec := { name := "plannerChooses", fn := fun _ => fun
  | [d1, d2] => { results := [.lit (.bool true)], args := [d1, d2] }
  | _ => none }
def plannerChoosesRow : OpenClaim := { program := "ytgjlldapnodfbaadoor", sum := "0bb7d8941bcf0084bcf54c45756076484b35e063c7b9bd9ed15fa73e1434e841", func := "timbre/timbrelaw14.PlannerChooses", spec := "plannerChooses", unfollowed := true, recurses := true, named := ["timbre/api.ErrRange", "timbre/api.ErrLength", "timbre/api.ErrOrder", "timbre/api.ErrLimit", "timbre/api.ErrShort", "timbre/api.ErrVarint", "timbre/api.ErrTail", "timbre/api.ErrText", "timbre/api.ErrProgram", "timbre/api.ErrState", "timbre/api.ErrRoot", "timbre/api.ErrPerm", "timbre/api.ErrNumber", "timbre/api.ErrWorkers", "timbre/api.ErrDone", "timbre/api.ErrUnknown", "timbre/api.ErrMode", "timbre/api.ErrCommand", "timbre/api.ErrExact"], apart := false, laid := [("timbre/api.ErrShort", laid_timbre_api_ErrShort), ("timbre/api.ErrVarint", laid_timbre_api_ErrVarint), ("timbre/api.ErrLimit", laid_timbre_api_ErrLimit), ("timbre/api.ErrTail", laid_timbre_api_ErrTail), ("timbre/api.ErrRange", laid_timbre_api_ErrRange), ("timbre/api.ErrText", laid_timbre_api_ErrText), ("timbre/api.ErrLength", laid_timbre_api_ErrLength), ("timbre/api.ErrOrder", laid_timbre_api_ErrOrder), ("timbre/api.ErrProgram", laid_timbre_api_ErrProgram), ("timbre/api.ErrState", laid_timbre_api_ErrState), ("timbre/api.ErrRoot", laid_timbre_api_ErrRoot), ("timbre/api.ErrPerm", laid_timbre_api_ErrPerm), ("timbre/api.ErrNumber", laid_timbre_api_ErrNumber), ("timbre/api.ErrWorkers", laid_timbre_api_ErrWorkers), ("timbre/api.ErrDone", laid_timbre_api_ErrDone), ("timbre/api.ErrUnknown", laid_timbre_api_ErrUnknown), ("timbre/api.ErrMode", laid_timbre_api_ErrMode), ("timbre/api.ErrCommand", laid_timbre_api_ErrCommand), ("timbre/api.ErrExact", laid_timbre_api_ErrExact)] }
def PlannerChoosesSaid : Prop := plannerChoosesRow.holds Tryd.pinned (OpenSpec.ofChange plannerChoosesSpec)

/-- ITS FALSE NEIGHBOUR: 'it returns false'. Refute it at one input. -/
def plannerChoosesWrong : ChangeSpec := { name := "plannerChooses", fn := fun _ => fun
  | [d1, d2] => { results := [.lit (.bool false)], args := [d1, d2] }
  | _ => none }
def PlannerChoosesWrongFalsely : Prop := plannerChoosesRow.holds Tryd.pinned (OpenSpec.ofChange plannerChoosesWrong)

/-- 'timbrelaw14.PlannerCosts': WHATEVER THE INPUT: true; the input reads as it did. -/
def plannerCostsSpec : ChangeSpec := { name := "plannerCosts", fn := fun _ => fun
  | [d] => { results := [.lit (.bool true)], args := [d] }
  | _ => none }
def plannerCostsRow : OpenClaim := { program := "ytgjlldapnodfbaadoor", sum := "0bb7d8941bcf0084bcf54c45756076484b35e063c7b9bd9ed15fa73e1434e841", func := "timbre/timbrelaw14.PlannerCosts", spec := "plannerCosts", unfollowed := true, recurses := true, named := ["timbre/api.ErrRange", "timbre/api.ErrLength", "timbre/api.ErrOrder", "timbre/api.ErrLimit", "timbre/api.ErrShort", "timbre/api.ErrVarint", "timbre/api.ErrTail", "timbre/api.ErrText", "timbre/api.ErrProgram", "timbre/api.ErrState", "timbre/api.ErrRoot", "timbre/api.ErrPerm", "timbre/api.ErrNumber", "timbre/api.ErrWorkers", "timbre/api.ErrDone", "timbre/api.ErrUnknown", "timbre/api.ErrMode", "timbre/api.ErrCommand", "timbre/api.ErrExact"], loops := true, apart := false, laid := [("timbre/api.ErrShort", laid_timbre_api_ErrShort), ("timbre/api.ErrVarint", laid_timbre_api_ErrVarint), ("timbre/api.ErrLimit", laid_timbre_api_ErrLimit), ("timbre/api.ErrTail", laid_timbre_api_ErrTail), ("timbre/api.ErrRange", laid_timbre_api_ErrRange), ("timbre/api.ErrText", laid_timbre_api_ErrText), ("timbre/api.ErrLength", laid_timbre_api_ErrLength), ("timbre/api.ErrOrder", laid_timbre_api_ErrOrder), ("timbre/api.ErrProgram", laid_timbre_api_ErrProgram), ("timbre/api.ErrState", laid_timbre_api_ErrState), ("timbre/api.ErrRoot", laid_timbre_api_ErrRoot), ("timbre/api.ErrPerm", laid_timbre_api_ErrPerm), ("timbre/api.ErrNumber", laid_timbre_api_ErrNumber), ("timbre/api.ErrWorkers", laid_timbre_api_ErrWorkers), ("timbre/api.ErrDone", laid_timbre_api_ErrDone), ("timbre/api.ErrUnknown", laid_timbre_api_ErrUnknown), ("timbre/api.ErrMode", laid_timbre_api_ErrMode), ("timbre/api.ErrCommand", laid_timbre_api_ErrCommand), ("timbre/api.ErrExact", laid_timbre_api_ErrExact)] }
def PlannerCostsSaid : Prop := plannerCostsRow.holds Tryd.pinned (OpenSpec.ofChange plannerCostsSpec)

/-- ITS FALSE NEIGHBOUR: 'it returns false'. Refute it at one input. -/
def plannerCostsWrong : ChangeSpec := { name := "plannerCosts", fn := fun _ => fun
  | [d] => { results := [.lit (.bool false)], args := [d] }
  | _ => none }
def PlannerCostsWrongFalsely : Prop := plannerCostsRow.holds Tryd.pinned (OpenSpec.ofChange plannerCostsWrong)

/-- 'timbrelaw14.PlannerGrows': WHATEVER THE INPUT: true; the input reads as it did. -/
def plannerGrowsSpec : ChangeSpec := { name := "plannerGrows", fn := fun _ => fun
  | [d1, d2, d3, d4] => { results := [.lit (.bool true)], args := [d1, d2, d3, d4] }
  | _ => none }
def plannerGrowsRow : OpenClaim := { program := "ytgjlldapnodfbaadoor", sum := "0bb7d8941bcf0084bcf54c45756076484b35e063c7b9bd9ed15fa73e1434e841", func := "timbre/timbrelaw14.PlannerGrows", spec := "plannerGrows", unfollowed := true, recurses := true, named := ["timbre/api.ErrRange", "timbre/api.ErrLength", "timbre/api.ErrOrder", "timbre/api.ErrLimit"], loops := true, apart := false, laid := [("timbre/api.ErrLimit", laid_timbre_api_ErrLimit), ("timbre/api.ErrRange", laid_timbre_api_ErrRange), ("timbre/api.ErrLength", laid_timbre_api_ErrLength), ("timbre/api.ErrOrder", laid_timbre_api_ErrOrder)] }
def PlannerGrowsSaid : Prop := plannerGrowsRow.holds Tryd.pinned (OpenSpec.ofChange plannerGrowsSpec)

/-- ITS FALSE NEIGHBOUR: 'it returns false'. Refute it at one input. -/
def plannerGrowsWrong : ChangeSpec := { name := "plannerGrows", fn := fun _ => fun
  | [d1, d2, d3, d4] => { results := [.lit (.bool false)], args := [d1, d2, d3, d4] }
  | _ => none }
def PlannerGrowsWrongFalsely : Prop := plannerGrowsRow.holds Tryd.pinned (OpenSpec.ofChange plannerGrowsWrong)

/-- 'timbrelaw14.PlannerLists': WHATEVER THE INPUT: true; the input reads as it did. -/
def plannerListsSpec : ChangeSpec := { name := "plannerLists", fn := fun _ => fun
  | [d1, d2, d3] => { results := [.lit (.bool true)], args := [d1, d2, d3] }
  | _ => none }
def plannerListsRow : OpenClaim := { program := "ytgjlldapnodfbaadoor", sum := "0bb7d8941bcf0084bcf54c45756076484b35e063c7b9bd9ed15fa73e1434e841", func := "timbre/timbrelaw14.PlannerLists", spec := "plannerLists", unfollowed := true, recurses := true, named := ["timbre/api.ErrRange", "timbre/api.ErrLength", "timbre/api.ErrOrder", "timbre/api.ErrLimit"], apart := false, laid := [("timbre/api.ErrLimit", laid_timbre_api_ErrLimit), ("timbre/api.ErrRange", laid_timbre_api_ErrRange), ("timbre/api.ErrLength", laid_timbre_api_ErrLength), ("timbre/api.ErrOrder", laid_timbre_api_ErrOrder)] }
def PlannerListsSaid : Prop := plannerListsRow.holds Tryd.pinned (OpenSpec.ofChange plannerListsSpec)

/-- ITS FALSE NEIGHBOUR: 'it returns false'. Refute it at one input. -/
def plannerListsWrong : ChangeSpec := { name := "plannerLists", fn := fun _ => fun
  | [d1, d2, d3] => { results := [.lit (.bool false)], args := [d1, d2, d3] }
  | _ => none }
def PlannerListsWrongFalsely : Prop := plannerListsRow.holds Tryd.pinned (OpenSpec.ofChange plannerListsWrong)

/-- 'timbrelaw14.PlannerBest': WHATEVER THE INPUT: true; the input reads as it did. -/
def plannerBestSpec : ChangeSpec := { name := "plannerBest", fn := fun _ => fun
  | [d1, d2] => { results := [.lit (.bool true)], args := [d1, d2] }
  | _ => none }
def plannerBestRow : OpenClaim := { program := "ytgjlldapnodfbaadoor", sum := "0bb7d8941bcf0084bcf54c45756076484b35e063c7b9bd9ed15fa73e1434e841", func := "timbre/timbrelaw14.PlannerBest", spec := "plannerBest", unfollowed := true, recurses := true, named := ["timbre/api.ErrRange", "timbre/api.ErrLength", "timbre/api.ErrOrder", "timbre/api.ErrLimit", "timbre/api.ErrShort", "timbre/api.ErrVarint", "timbre/api.ErrTail", "timbre/api.ErrText", "timbre/api.ErrProgram", "timbre/api.ErrState", "timbre/api.ErrRoot", "timbre/api.ErrPerm", "timbre/api.ErrNumber", "timbre/api.ErrWorkers", "timbre/api.ErrDone", "timbre/api.ErrUnknown", "timbre/api.ErrMode", "timbre/api.ErrCommand", "timbre/api.ErrExact"], apart := false, laid := [("timbre/api.ErrShort", laid_timbre_api_ErrShort), ("timbre/api.ErrVarint", laid_timbre_api_ErrVarint), ("timbre/api.ErrLimit", laid_timbre_api_ErrLimit), ("timbre/api.ErrTail", laid_timbre_api_ErrTail), ("timbre/api.ErrRange", laid_timbre_api_ErrRange), ("timbre/api.ErrText", laid_timbre_api_ErrText), ("timbre/api.ErrLength", laid_timbre_api_ErrLength), ("timbre/api.ErrOrder", laid_timbre_api_ErrOrder), ("timbre/api.ErrProgram", laid_timbre_api_ErrProgram), ("timbre/api.ErrState", laid_timbre_api_ErrState), ("timbre/api.ErrRoot", laid_timbre_api_ErrRoot), ("timbre/api.ErrPerm", laid_timbre_api_ErrPerm), ("timbre/api.ErrNumber", laid_timbre_api_ErrNumber), ("timbre/api.ErrWorkers", laid_timbre_api_ErrWorkers), ("timbre/api.ErrDone", laid_timbre_api_ErrDone), ("timbre/api.ErrUnknown", laid_timbre_api_ErrUnknown), ("timbre/api.ErrMode", laid_timbre_api_ErrMode), ("timbre/api.ErrCommand", laid_timbre_api_ErrCommand), ("timbre/api.ErrExact", laid_timbre_api_ErrExact)] }
def PlannerBestSaid : Prop := plannerBestRow.holds Tryd.pinned (OpenSpec.ofChange plannerBestSpec)

/-- ITS FALSE NEIGHBOUR: 'it returns false'. Refute it at one input. -/
def plannerBestWrong : ChangeSpec := { name := "plannerBest", fn := fun _ => fun
  | [d1, d2] => { results := [.lit (.bool false)], args := [d1, d2] }
  | _ => none }
def PlannerBestWrongFalsely : Prop := plannerBestRow.holds Tryd.pinned (OpenSpec.ofChange plannerBestWrong)

/- THE SECOND FORM. 'bulk': how many values and letters a reading holds, each counted each time it is reached (what is shared counts as often as it is met; a slice's spare places count too). A statement '..UptoSaid' is the law's where the arguments, and the package variables that the reading takes, are together of bulk at most 1048576: NARROWER than '..Said'. Prove '..Said' where nothing that the law and all that it calls make is longer than what came in: it says more and counts as full. Else prove '..UptoSaid'. A law counts once. -/
mutual
def uptoBulk {H : Type} : DataW H → Nat
  | .lit (.string bytes) => bytes.length + 1
  | .lit _ => 1
  | .nil => 1
  | .ptr d => uptoBulk d + 1
  | .slice elems spare => uptoBulkAll elems + uptoBulkAll spare + 1
  | .agg parts => uptoBulkAll parts + 1
  | .iface _ d => uptoBulk d + 1
  | .map entries => uptoBulkEntries entries + 1
  | .held _ => 1
def uptoBulkAll {H : Type} : List (DataW H) → Nat
  | [] => 0
  | d :: r => uptoBulk d + uptoBulkAll r
def uptoBulkEntries {H : Type} : List (Lit × DataW H) → Nat
  | [] => 0
  | x :: r => uptoBulkEntry x + uptoBulkEntries r
def uptoBulkEntry {H : Type} : Lit × DataW H → Nat
  | (.string bytes, d) => bytes.length + uptoBulk d + 1
  | (_, d) => uptoBulk d + 1
 end
def uptoSmall : (H : Type) → List (DataW H) → Bool := fun _ ds => decide (uptoBulkAll ds ≤ 1048576)
def OpenSpec.upto (s : _root_.Go.ChangeSpec) : _root_.Go.OpenSpec := { _root_.Go.OpenSpec.ofChange s with cond := some uptoSmall }

/-- 'timbrelaw14.PlannerChooses', WHERE WHAT IT READS IS OF BULK AT MOST 1048576: true; the input reads as it did. -/
def plannerChoosesUptoRow : OpenClaim := { program := "ytgjlldapnodfbaadoor", sum := "0bb7d8941bcf0084bcf54c45756076484b35e063c7b9bd9ed15fa73e1434e841", func := "timbre/timbrelaw14.PlannerChooses", spec := "plannerChooses", unfollowed := true, recurses := true, named := ["timbre/api.ErrRange", "timbre/api.ErrLength", "timbre/api.ErrOrder", "timbre/api.ErrLimit", "timbre/api.ErrShort", "timbre/api.ErrVarint", "timbre/api.ErrTail", "timbre/api.ErrText", "timbre/api.ErrProgram", "timbre/api.ErrState", "timbre/api.ErrRoot", "timbre/api.ErrPerm", "timbre/api.ErrNumber", "timbre/api.ErrWorkers", "timbre/api.ErrDone", "timbre/api.ErrUnknown", "timbre/api.ErrMode", "timbre/api.ErrCommand", "timbre/api.ErrExact"], apart := false, laid := [("timbre/api.ErrShort", laid_timbre_api_ErrShort), ("timbre/api.ErrVarint", laid_timbre_api_ErrVarint), ("timbre/api.ErrLimit", laid_timbre_api_ErrLimit), ("timbre/api.ErrTail", laid_timbre_api_ErrTail), ("timbre/api.ErrRange", laid_timbre_api_ErrRange), ("timbre/api.ErrText", laid_timbre_api_ErrText), ("timbre/api.ErrLength", laid_timbre_api_ErrLength), ("timbre/api.ErrOrder", laid_timbre_api_ErrOrder), ("timbre/api.ErrProgram", laid_timbre_api_ErrProgram), ("timbre/api.ErrState", laid_timbre_api_ErrState), ("timbre/api.ErrRoot", laid_timbre_api_ErrRoot), ("timbre/api.ErrPerm", laid_timbre_api_ErrPerm), ("timbre/api.ErrNumber", laid_timbre_api_ErrNumber), ("timbre/api.ErrWorkers", laid_timbre_api_ErrWorkers), ("timbre/api.ErrDone", laid_timbre_api_ErrDone), ("timbre/api.ErrUnknown", laid_timbre_api_ErrUnknown), ("timbre/api.ErrMode", laid_timbre_api_ErrMode), ("timbre/api.ErrCommand", laid_timbre_api_ErrCommand), ("timbre/api.ErrExact", laid_timbre_api_ErrExact)], narrowed := true }
def PlannerChoosesUptoSaid : Prop := plannerChoosesUptoRow.holds Tryd.pinned (OpenSpec.upto plannerChoosesSpec)

/-- 'timbrelaw14.PlannerCosts', WHERE WHAT IT READS IS OF BULK AT MOST 1048576: true; the input reads as it did. -/
def plannerCostsUptoRow : OpenClaim := { program := "ytgjlldapnodfbaadoor", sum := "0bb7d8941bcf0084bcf54c45756076484b35e063c7b9bd9ed15fa73e1434e841", func := "timbre/timbrelaw14.PlannerCosts", spec := "plannerCosts", unfollowed := true, recurses := true, named := ["timbre/api.ErrRange", "timbre/api.ErrLength", "timbre/api.ErrOrder", "timbre/api.ErrLimit", "timbre/api.ErrShort", "timbre/api.ErrVarint", "timbre/api.ErrTail", "timbre/api.ErrText", "timbre/api.ErrProgram", "timbre/api.ErrState", "timbre/api.ErrRoot", "timbre/api.ErrPerm", "timbre/api.ErrNumber", "timbre/api.ErrWorkers", "timbre/api.ErrDone", "timbre/api.ErrUnknown", "timbre/api.ErrMode", "timbre/api.ErrCommand", "timbre/api.ErrExact"], loops := true, apart := false, laid := [("timbre/api.ErrShort", laid_timbre_api_ErrShort), ("timbre/api.ErrVarint", laid_timbre_api_ErrVarint), ("timbre/api.ErrLimit", laid_timbre_api_ErrLimit), ("timbre/api.ErrTail", laid_timbre_api_ErrTail), ("timbre/api.ErrRange", laid_timbre_api_ErrRange), ("timbre/api.ErrText", laid_timbre_api_ErrText), ("timbre/api.ErrLength", laid_timbre_api_ErrLength), ("timbre/api.ErrOrder", laid_timbre_api_ErrOrder), ("timbre/api.ErrProgram", laid_timbre_api_ErrProgram), ("timbre/api.ErrState", laid_timbre_api_ErrState), ("timbre/api.ErrRoot", laid_timbre_api_ErrRoot), ("timbre/api.ErrPerm", laid_timbre_api_ErrPerm), ("timbre/api.ErrNumber", laid_timbre_api_ErrNumber), ("timbre/api.ErrWorkers", laid_timbre_api_ErrWorkers), ("timbre/api.ErrDone", laid_timbre_api_ErrDone), ("timbre/api.ErrUnknown", laid_timbre_api_ErrUnknown), ("timbre/api.ErrMode", laid_timbre_api_ErrMode), ("timbre/api.ErrCommand", laid_timbre_api_ErrCommand), ("timbre/api.ErrExact", laid_timbre_api_ErrExact)], narrowed := true }
def PlannerCostsUptoSaid : Prop := plannerCostsUptoRow.holds Tryd.pinned (OpenSpec.upto plannerCostsSpec)

/-- 'timbrelaw14.PlannerGrows', WHERE WHAT IT READS IS OF BULK AT MOST 1048576: true; the input reads as it did. -/
def plannerGrowsUptoRow : OpenClaim := { program := "ytgjlldapnodfbaadoor", sum := "0bb7d8941bcf0084bcf54c45756076484b35e063c7b9bd9ed15fa73e1434e841", func := "timbre/timbrelaw14.PlannerGrows", spec := "plannerGrows", unfollowed := true, recurses := true, named := ["timbre/api.ErrRange", "timbre/api.ErrLength", "timbre/api.ErrOrder", "timbre/api.ErrLimit"], loops := true, apart := false, laid := [("timbre/api.ErrLimit", laid_timbre_api_ErrLimit), ("timbre/api.ErrRange", laid_timbre_api_ErrRange), ("timbre/api.ErrLength", laid_timbre_api_ErrLength), ("timbre/api.ErrOrder", laid_timbre_api_ErrOrder)], narrowed := true }
def PlannerGrowsUptoSaid : Prop := plannerGrowsUptoRow.holds Tryd.pinned (OpenSpec.upto plannerGrowsSpec)

/-- 'timbrelaw14.PlannerLists', WHERE WHAT IT READS IS OF BULK AT MOST 1048576: true; the input reads as it did. -/
def plannerListsUptoRow : OpenClaim := { program := "ytgjlldapnodfbaadoor", sum := "0bb7d8941bcf0084bcf54c45756076484b35e063c7b9bd9ed15fa73e1434e841", func := "timbre/timbrelaw14.PlannerLists", spec := "plannerLists", unfollowed := true, recurses := true, named := ["timbre/api.ErrRange", "timbre/api.ErrLength", "timbre/api.ErrOrder", "timbre/api.ErrLimit"], apart := false, laid := [("timbre/api.ErrLimit", laid_timbre_api_ErrLimit), ("timbre/api.ErrRange", laid_timbre_api_ErrRange), ("timbre/api.ErrLength", laid_timbre_api_ErrLength), ("timbre/api.ErrOrder", laid_timbre_api_ErrOrder)], narrowed := true }
def PlannerListsUptoSaid : Prop := plannerListsUptoRow.holds Tryd.pinned (OpenSpec.upto plannerListsSpec)

/-- 'timbrelaw14.PlannerBest', WHERE WHAT IT READS IS OF BULK AT MOST 1048576: true; the input reads as it did. -/
def plannerBestUptoRow : OpenClaim := { program := "ytgjlldapnodfbaadoor", sum := "0bb7d8941bcf0084bcf54c45756076484b35e063c7b9bd9ed15fa73e1434e841", func := "timbre/timbrelaw14.PlannerBest", spec := "plannerBest", unfollowed := true, recurses := true, named := ["timbre/api.ErrRange", "timbre/api.ErrLength", "timbre/api.ErrOrder", "timbre/api.ErrLimit", "timbre/api.ErrShort", "timbre/api.ErrVarint", "timbre/api.ErrTail", "timbre/api.ErrText", "timbre/api.ErrProgram", "timbre/api.ErrState", "timbre/api.ErrRoot", "timbre/api.ErrPerm", "timbre/api.ErrNumber", "timbre/api.ErrWorkers", "timbre/api.ErrDone", "timbre/api.ErrUnknown", "timbre/api.ErrMode", "timbre/api.ErrCommand", "timbre/api.ErrExact"], apart := false, laid := [("timbre/api.ErrShort", laid_timbre_api_ErrShort), ("timbre/api.ErrVarint", laid_timbre_api_ErrVarint), ("timbre/api.ErrLimit", laid_timbre_api_ErrLimit), ("timbre/api.ErrTail", laid_timbre_api_ErrTail), ("timbre/api.ErrRange", laid_timbre_api_ErrRange), ("timbre/api.ErrText", laid_timbre_api_ErrText), ("timbre/api.ErrLength", laid_timbre_api_ErrLength), ("timbre/api.ErrOrder", laid_timbre_api_ErrOrder), ("timbre/api.ErrProgram", laid_timbre_api_ErrProgram), ("timbre/api.ErrState", laid_timbre_api_ErrState), ("timbre/api.ErrRoot", laid_timbre_api_ErrRoot), ("timbre/api.ErrPerm", laid_timbre_api_ErrPerm), ("timbre/api.ErrNumber", laid_timbre_api_ErrNumber), ("timbre/api.ErrWorkers", laid_timbre_api_ErrWorkers), ("timbre/api.ErrDone", laid_timbre_api_ErrDone), ("timbre/api.ErrUnknown", laid_timbre_api_ErrUnknown), ("timbre/api.ErrMode", laid_timbre_api_ErrMode), ("timbre/api.ErrCommand", laid_timbre_api_ErrCommand), ("timbre/api.ErrExact", laid_timbre_api_ErrExact)], narrowed := true }
def PlannerBestUptoSaid : Prop := plannerBestUptoRow.holds Tryd.pinned (OpenSpec.upto plannerBestSpec)

end Rows
end Go.Proofs.YtgjlldapnodfbaaDoor
