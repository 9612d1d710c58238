/-
  NARROWER THAN 'FOR EVERY INPUT', by the rows' own cells (each row's printed sentence says how): RootsAll: laid · RootsPlaces: laid · RootsReckoned: laid · RootsTurned: laid · RootsTwist: laid · RootsTwisted: laid · RootsCircle: laid.
  DERIVED. THE GIVEN ROWS OF THIS SEAT. 7 by the template 'for every input the law returns true; each argument reads behind the call as it read before'; 0 by the template 'total and deterministic' (their statements: YtijbkcjbkioefaaDoorTotals.lean).
  GIVEN WITH THE SEED: the statements are not yours to turn. If you find one false, say at which input.
  Laid BY PROGRAM, IN A SANDBOX (cutbox-rows.mjs): the forced cells as the released guide's own fill.sh prints them over the translation f4809691e023c290… (all of the seat's roots in one cut). By AI agents, Wed Nov 11 2026. No macro, syntax, notation, axiom, sorry.
-/
import Derived.Test.YtijbkcjbkioefaaDoorChecked
import GoSem.Claim
import GoSem.ClaimJoined
import GoSem.ClaimMapViews
import Derived.JoinedTies
import Derived.KernelRfl
namespace Go.Proofs.YtijbkcjbkioefaaDoor
/- THE CELL 'sum', in the pinned program and in every row, IS THE sha256 OF THE DUMP (.gsa) THAT YtijbkcjbkioefaaDoorProg.lean LOADS. Nothing in Lean hashes anything: it is a label: what it is worth is what the hold of that sum in a sandbox is worth. -/
noncomputable def Tryd.pinned : Pinned := { name := "ytijbkcjbkioefaadoor", sum := "f4809691e023c29080a9b97f391c8b4c766a991c1d68ccfd7865f237b03efe80", checked := Tryd.checked }
namespace Rows
def none {H : Type} : Left H := { results := [], args := [] }

/- WHAT THE LISTED PACKAGE-LEVEL VARIABLES READ AS WHEN THE CALL BEGINS. Each datum BY PROGRAM (the guide's laid-datum.mjs) off the statement by which the dump's own 'gosem.cut.vars' lays the variable. In a bare row this is a premise. The card (YtijbkcjbkioefaaDoorCards.lean) ties it to the program's text. -/
def laid_timbre_api_ErrShort {H : Type} : DataW H := .iface "*errors.errorString" (.ptr (.agg [.lit (.string [116, 105, 109, 98, 114, 101, 58, 32, 116, 111, 111, 32, 115, 104, 111, 114, 116])]))
def laid_timbre_api_ErrVarint {H : Type} : DataW H := .iface "*errors.errorString" (.ptr (.agg [.lit (.string [116, 105, 109, 98, 114, 101, 58, 32, 118, 97, 114, 105, 110, 116])]))
def laid_timbre_api_ErrLimit {H : Type} : DataW H := .iface "*errors.errorString" (.ptr (.agg [.lit (.string [116, 105, 109, 98, 114, 101, 58, 32, 108, 105, 109, 105, 116])]))
def laid_timbre_api_ErrTail {H : Type} : DataW H := .iface "*errors.errorString" (.ptr (.agg [.lit (.string [116, 105, 109, 98, 114, 101, 58, 32, 116, 97, 105, 108])]))
def laid_timbre_api_ErrRange {H : Type} : DataW H := .iface "*errors.errorString" (.ptr (.agg [.lit (.string [116, 105, 109, 98, 114, 101, 58, 32, 114, 97, 110, 103, 101])]))
def laid_timbre_api_ErrText {H : Type} : DataW H := .iface "*errors.errorString" (.ptr (.agg [.lit (.string [116, 105, 109, 98, 114, 101, 58, 32, 116, 101, 120, 116])]))
def laid_timbre_api_ErrLength {H : Type} : DataW H := .iface "*errors.errorString" (.ptr (.agg [.lit (.string [116, 105, 109, 98, 114, 101, 58, 32, 108, 101, 110, 103, 116, 104])]))
def laid_timbre_api_ErrOrder {H : Type} : DataW H := .iface "*errors.errorString" (.ptr (.agg [.lit (.string [116, 105, 109, 98, 114, 101, 58, 32, 111, 114, 100, 101, 114])]))
def laid_timbre_api_ErrProgram {H : Type} : DataW H := .iface "*errors.errorString" (.ptr (.agg [.lit (.string [116, 105, 109, 98, 114, 101, 58, 32, 112, 114, 111, 103, 114, 97, 109])]))
def laid_timbre_api_ErrState {H : Type} : DataW H := .iface "*errors.errorString" (.ptr (.agg [.lit (.string [116, 105, 109, 98, 114, 101, 58, 32, 115, 116, 97, 116, 101])]))
def laid_timbre_api_ErrRoot {H : Type} : DataW H := .iface "*errors.errorString" (.ptr (.agg [.lit (.string [116, 105, 109, 98, 114, 101, 58, 32, 114, 111, 111, 116])]))
def laid_timbre_api_ErrPerm {H : Type} : DataW H := .iface "*errors.errorString" (.ptr (.agg [.lit (.string [116, 105, 109, 98, 114, 101, 58, 32, 112, 101, 114, 109, 117, 116, 97, 116, 105, 111, 110])]))
def laid_timbre_api_ErrNumber {H : Type} : DataW H := .iface "*errors.errorString" (.ptr (.agg [.lit (.string [116, 105, 109, 98, 114, 101, 58, 32, 110, 117, 109, 98, 101, 114])]))
def laid_timbre_api_ErrWorkers {H : Type} : DataW H := .iface "*errors.errorString" (.ptr (.agg [.lit (.string [116, 105, 109, 98, 114, 101, 58, 32, 119, 111, 114, 107, 101, 114, 115])]))
def laid_timbre_api_ErrDone {H : Type} : DataW H := .iface "*errors.errorString" (.ptr (.agg [.lit (.string [116, 105, 109, 98, 114, 101, 58, 32, 100, 111, 110, 101])]))
def laid_timbre_api_ErrUnknown {H : Type} : DataW H := .iface "*errors.errorString" (.ptr (.agg [.lit (.string [116, 105, 109, 98, 114, 101, 58, 32, 117, 110, 107, 110, 111, 119, 110])]))
def laid_timbre_api_ErrMode {H : Type} : DataW H := .iface "*errors.errorString" (.ptr (.agg [.lit (.string [116, 105, 109, 98, 114, 101, 58, 32, 109, 111, 100, 101])]))
def laid_timbre_api_ErrCommand {H : Type} : DataW H := .iface "*errors.errorString" (.ptr (.agg [.lit (.string [116, 105, 109, 98, 114, 101, 58, 32, 99, 111, 109, 109, 97, 110, 100])]))
def laid_timbre_api_ErrExact {H : Type} : DataW H := .iface "*errors.errorString" (.ptr (.agg [.lit (.string [116, 105, 109, 98, 114, 101, 58, 32, 101, 120, 97, 99, 116])]))

/-- 'timbrelaw07.RootsAll': WHATEVER THE INPUT: true; the input reads as it did. -/
def rootsAllSpec : ChangeSpec := { name := "rootsAll", fn := fun _ => fun
  | [d] => { results := [.lit (.bool true)], args := [d] }
  | _ => none }
def rootsAllRow : OpenClaim := { program := "ytijbkcjbkioefaadoor", sum := "f4809691e023c29080a9b97f391c8b4c766a991c1d68ccfd7865f237b03efe80", func := "timbre/timbrelaw07.RootsAll", spec := "rootsAll", inPlace := ["math.Float64frombits", "math.Float64bits"], named := ["timbre/api.ErrLength", "timbre/api.ErrRange", "timbre/api.ErrShort", "timbre/api.ErrVarint", "timbre/api.ErrLimit", "timbre/api.ErrTail", "timbre/api.ErrText", "timbre/api.ErrOrder", "timbre/api.ErrProgram", "timbre/api.ErrState", "timbre/api.ErrRoot", "timbre/api.ErrPerm", "timbre/api.ErrNumber", "timbre/api.ErrWorkers", "timbre/api.ErrDone", "timbre/api.ErrUnknown", "timbre/api.ErrMode", "timbre/api.ErrCommand", "timbre/api.ErrExact"], apart := false, laid := [("timbre/api.ErrShort", laid_timbre_api_ErrShort), ("timbre/api.ErrVarint", laid_timbre_api_ErrVarint), ("timbre/api.ErrLimit", laid_timbre_api_ErrLimit), ("timbre/api.ErrTail", laid_timbre_api_ErrTail), ("timbre/api.ErrRange", laid_timbre_api_ErrRange), ("timbre/api.ErrText", laid_timbre_api_ErrText), ("timbre/api.ErrLength", laid_timbre_api_ErrLength), ("timbre/api.ErrOrder", laid_timbre_api_ErrOrder), ("timbre/api.ErrProgram", laid_timbre_api_ErrProgram), ("timbre/api.ErrState", laid_timbre_api_ErrState), ("timbre/api.ErrRoot", laid_timbre_api_ErrRoot), ("timbre/api.ErrPerm", laid_timbre_api_ErrPerm), ("timbre/api.ErrNumber", laid_timbre_api_ErrNumber), ("timbre/api.ErrWorkers", laid_timbre_api_ErrWorkers), ("timbre/api.ErrDone", laid_timbre_api_ErrDone), ("timbre/api.ErrUnknown", laid_timbre_api_ErrUnknown), ("timbre/api.ErrMode", laid_timbre_api_ErrMode), ("timbre/api.ErrCommand", laid_timbre_api_ErrCommand), ("timbre/api.ErrExact", laid_timbre_api_ErrExact)] }
def RootsAllSaid : Prop := rootsAllRow.holds Tryd.pinned (OpenSpec.ofChange rootsAllSpec)

/-- ITS FALSE NEIGHBOUR: 'it returns false'. Refute it at one input. -/
def rootsAllWrong : ChangeSpec := { name := "rootsAll", fn := fun _ => fun
  | [d] => { results := [.lit (.bool false)], args := [d] }
  | _ => none }
def RootsAllWrongFalsely : Prop := rootsAllRow.holds Tryd.pinned (OpenSpec.ofChange rootsAllWrong)

/-- 'timbrelaw07.RootsPlaces': WHATEVER THE INPUT: true; the input reads as it did. -/
def rootsPlacesSpec : ChangeSpec := { name := "rootsPlaces", fn := fun _ => fun
  | [d1, d2] => { results := [.lit (.bool true)], args := [d1, d2] }
  | _ => none }
def rootsPlacesRow : OpenClaim := { program := "ytijbkcjbkioefaadoor", sum := "f4809691e023c29080a9b97f391c8b4c766a991c1d68ccfd7865f237b03efe80", func := "timbre/timbrelaw07.RootsPlaces", spec := "rootsPlaces", inPlace := ["math.Float64frombits", "math.Float64bits"], named := ["timbre/api.ErrLength", "timbre/api.ErrRange"], apart := false, laid := [("timbre/api.ErrRange", laid_timbre_api_ErrRange), ("timbre/api.ErrLength", laid_timbre_api_ErrLength)] }
def RootsPlacesSaid : Prop := rootsPlacesRow.holds Tryd.pinned (OpenSpec.ofChange rootsPlacesSpec)

/-- ITS FALSE NEIGHBOUR: 'it returns false'. Refute it at one input. -/
def rootsPlacesWrong : ChangeSpec := { name := "rootsPlaces", fn := fun _ => fun
  | [d1, d2] => { results := [.lit (.bool false)], args := [d1, d2] }
  | _ => none }
def RootsPlacesWrongFalsely : Prop := rootsPlacesRow.holds Tryd.pinned (OpenSpec.ofChange rootsPlacesWrong)

/-- 'timbrelaw07.RootsReckoned': WHATEVER THE INPUT: true; the input reads as it did. -/
def rootsReckonedSpec : ChangeSpec := { name := "rootsReckoned", fn := fun _ => fun
  | [d1, d2, d3] => { results := [.lit (.bool true)], args := [d1, d2, d3] }
  | _ => none }
def rootsReckonedRow : OpenClaim := { program := "ytijbkcjbkioefaadoor", sum := "f4809691e023c29080a9b97f391c8b4c766a991c1d68ccfd7865f237b03efe80", func := "timbre/timbrelaw07.RootsReckoned", spec := "rootsReckoned", inPlace := ["math.Float64frombits", "math.Float64bits"], named := ["timbre/api.ErrLength", "timbre/api.ErrRange", "timbre/api.ErrShort", "timbre/api.ErrVarint", "timbre/api.ErrLimit", "timbre/api.ErrTail", "timbre/api.ErrText", "timbre/api.ErrOrder", "timbre/api.ErrProgram", "timbre/api.ErrState", "timbre/api.ErrRoot", "timbre/api.ErrPerm", "timbre/api.ErrNumber", "timbre/api.ErrWorkers", "timbre/api.ErrDone", "timbre/api.ErrUnknown", "timbre/api.ErrMode", "timbre/api.ErrCommand", "timbre/api.ErrExact"], apart := false, laid := [("timbre/api.ErrShort", laid_timbre_api_ErrShort), ("timbre/api.ErrVarint", laid_timbre_api_ErrVarint), ("timbre/api.ErrLimit", laid_timbre_api_ErrLimit), ("timbre/api.ErrTail", laid_timbre_api_ErrTail), ("timbre/api.ErrRange", laid_timbre_api_ErrRange), ("timbre/api.ErrText", laid_timbre_api_ErrText), ("timbre/api.ErrLength", laid_timbre_api_ErrLength), ("timbre/api.ErrOrder", laid_timbre_api_ErrOrder), ("timbre/api.ErrProgram", laid_timbre_api_ErrProgram), ("timbre/api.ErrState", laid_timbre_api_ErrState), ("timbre/api.ErrRoot", laid_timbre_api_ErrRoot), ("timbre/api.ErrPerm", laid_timbre_api_ErrPerm), ("timbre/api.ErrNumber", laid_timbre_api_ErrNumber), ("timbre/api.ErrWorkers", laid_timbre_api_ErrWorkers), ("timbre/api.ErrDone", laid_timbre_api_ErrDone), ("timbre/api.ErrUnknown", laid_timbre_api_ErrUnknown), ("timbre/api.ErrMode", laid_timbre_api_ErrMode), ("timbre/api.ErrCommand", laid_timbre_api_ErrCommand), ("timbre/api.ErrExact", laid_timbre_api_ErrExact)] }
def RootsReckonedSaid : Prop := rootsReckonedRow.holds Tryd.pinned (OpenSpec.ofChange rootsReckonedSpec)

/-- ITS FALSE NEIGHBOUR: 'it returns false'. Refute it at one input. -/
def rootsReckonedWrong : ChangeSpec := { name := "rootsReckoned", fn := fun _ => fun
  | [d1, d2, d3] => { results := [.lit (.bool false)], args := [d1, d2, d3] }
  | _ => none }
def RootsReckonedWrongFalsely : Prop := rootsReckonedRow.holds Tryd.pinned (OpenSpec.ofChange rootsReckonedWrong)

/-- 'timbrelaw07.RootsTurned': WHATEVER THE INPUT: true; the input reads as it did. -/
def rootsTurnedSpec : ChangeSpec := { name := "rootsTurned", fn := fun _ => fun
  | [d1, d2, d3] => { results := [.lit (.bool true)], args := [d1, d2, d3] }
  | _ => none }
def rootsTurnedRow : OpenClaim := { program := "ytijbkcjbkioefaadoor", sum := "f4809691e023c29080a9b97f391c8b4c766a991c1d68ccfd7865f237b03efe80", func := "timbre/timbrelaw07.RootsTurned", spec := "rootsTurned", inPlace := ["math.Float64frombits", "math.Float64bits"], named := ["timbre/api.ErrLength", "timbre/api.ErrRange"], apart := false, laid := [("timbre/api.ErrRange", laid_timbre_api_ErrRange), ("timbre/api.ErrLength", laid_timbre_api_ErrLength)] }
def RootsTurnedSaid : Prop := rootsTurnedRow.holds Tryd.pinned (OpenSpec.ofChange rootsTurnedSpec)

/-- ITS FALSE NEIGHBOUR: 'it returns false'. Refute it at one input. -/
def rootsTurnedWrong : ChangeSpec := { name := "rootsTurned", fn := fun _ => fun
  | [d1, d2, d3] => { results := [.lit (.bool false)], args := [d1, d2, d3] }
  | _ => none }
def RootsTurnedWrongFalsely : Prop := rootsTurnedRow.holds Tryd.pinned (OpenSpec.ofChange rootsTurnedWrong)

/-- 'timbrelaw07.RootsTwist': WHATEVER THE INPUT: true; the input reads as it did. -/
def rootsTwistSpec : ChangeSpec := { name := "rootsTwist", fn := fun _ => fun
  | [d1, d2, d3, d4] => { results := [.lit (.bool true)], args := [d1, d2, d3, d4] }
  | _ => none }
def rootsTwistRow : OpenClaim := { program := "ytijbkcjbkioefaadoor", sum := "f4809691e023c29080a9b97f391c8b4c766a991c1d68ccfd7865f237b03efe80", func := "timbre/timbrelaw07.RootsTwist", spec := "rootsTwist", inPlace := ["math.Float64frombits", "math.Float64bits"], named := ["timbre/api.ErrLength", "timbre/api.ErrRange", "timbre/api.ErrShort", "timbre/api.ErrVarint", "timbre/api.ErrLimit", "timbre/api.ErrTail", "timbre/api.ErrText", "timbre/api.ErrOrder", "timbre/api.ErrProgram", "timbre/api.ErrState", "timbre/api.ErrRoot", "timbre/api.ErrPerm", "timbre/api.ErrNumber", "timbre/api.ErrWorkers", "timbre/api.ErrDone", "timbre/api.ErrUnknown", "timbre/api.ErrMode", "timbre/api.ErrCommand", "timbre/api.ErrExact"], apart := false, laid := [("timbre/api.ErrShort", laid_timbre_api_ErrShort), ("timbre/api.ErrVarint", laid_timbre_api_ErrVarint), ("timbre/api.ErrLimit", laid_timbre_api_ErrLimit), ("timbre/api.ErrTail", laid_timbre_api_ErrTail), ("timbre/api.ErrRange", laid_timbre_api_ErrRange), ("timbre/api.ErrText", laid_timbre_api_ErrText), ("timbre/api.ErrLength", laid_timbre_api_ErrLength), ("timbre/api.ErrOrder", laid_timbre_api_ErrOrder), ("timbre/api.ErrProgram", laid_timbre_api_ErrProgram), ("timbre/api.ErrState", laid_timbre_api_ErrState), ("timbre/api.ErrRoot", laid_timbre_api_ErrRoot), ("timbre/api.ErrPerm", laid_timbre_api_ErrPerm), ("timbre/api.ErrNumber", laid_timbre_api_ErrNumber), ("timbre/api.ErrWorkers", laid_timbre_api_ErrWorkers), ("timbre/api.ErrDone", laid_timbre_api_ErrDone), ("timbre/api.ErrUnknown", laid_timbre_api_ErrUnknown), ("timbre/api.ErrMode", laid_timbre_api_ErrMode), ("timbre/api.ErrCommand", laid_timbre_api_ErrCommand), ("timbre/api.ErrExact", laid_timbre_api_ErrExact)] }
def RootsTwistSaid : Prop := rootsTwistRow.holds Tryd.pinned (OpenSpec.ofChange rootsTwistSpec)

/-- ITS FALSE NEIGHBOUR: 'it returns false'. Refute it at one input. -/
def rootsTwistWrong : ChangeSpec := { name := "rootsTwist", fn := fun _ => fun
  | [d1, d2, d3, d4] => { results := [.lit (.bool false)], args := [d1, d2, d3, d4] }
  | _ => none }
def RootsTwistWrongFalsely : Prop := rootsTwistRow.holds Tryd.pinned (OpenSpec.ofChange rootsTwistWrong)

/-- 'timbrelaw07.RootsTwisted': WHATEVER THE INPUT: true; the input reads as it did. -/
def rootsTwistedSpec : ChangeSpec := { name := "rootsTwisted", fn := fun _ => fun
  | [d1, d2, d3] => { results := [.lit (.bool true)], args := [d1, d2, d3] }
  | _ => none }
def rootsTwistedRow : OpenClaim := { program := "ytijbkcjbkioefaadoor", sum := "f4809691e023c29080a9b97f391c8b4c766a991c1d68ccfd7865f237b03efe80", func := "timbre/timbrelaw07.RootsTwisted", spec := "rootsTwisted", inPlace := ["math.Float64frombits", "math.Float64bits"], named := ["timbre/api.ErrLength", "timbre/api.ErrRange"], apart := false, laid := [("timbre/api.ErrRange", laid_timbre_api_ErrRange), ("timbre/api.ErrLength", laid_timbre_api_ErrLength)] }
def RootsTwistedSaid : Prop := rootsTwistedRow.holds Tryd.pinned (OpenSpec.ofChange rootsTwistedSpec)

/-- ITS FALSE NEIGHBOUR: 'it returns false'. Refute it at one input. -/
def rootsTwistedWrong : ChangeSpec := { name := "rootsTwisted", fn := fun _ => fun
  | [d1, d2, d3] => { results := [.lit (.bool false)], args := [d1, d2, d3] }
  | _ => none }
def RootsTwistedWrongFalsely : Prop := rootsTwistedRow.holds Tryd.pinned (OpenSpec.ofChange rootsTwistedWrong)

/-- 'timbrelaw07.RootsCircle': WHATEVER THE INPUT: true; the input reads as it did. -/
def rootsCircleSpec : ChangeSpec := { name := "rootsCircle", fn := fun _ => fun
  | [d1, d2] => { results := [.lit (.bool true)], args := [d1, d2] }
  | _ => none }
def rootsCircleRow : OpenClaim := { program := "ytijbkcjbkioefaadoor", sum := "f4809691e023c29080a9b97f391c8b4c766a991c1d68ccfd7865f237b03efe80", func := "timbre/timbrelaw07.RootsCircle", spec := "rootsCircle", inPlace := ["math.Float64frombits", "math.FMA"], named := ["timbre/api.ErrLength", "timbre/api.ErrRange"], apart := false, laid := [("timbre/api.ErrRange", laid_timbre_api_ErrRange), ("timbre/api.ErrLength", laid_timbre_api_ErrLength)] }
def RootsCircleSaid : Prop := rootsCircleRow.holds Tryd.pinned (OpenSpec.ofChange rootsCircleSpec)

/-- ITS FALSE NEIGHBOUR: 'it returns false'. Refute it at one input. -/
def rootsCircleWrong : ChangeSpec := { name := "rootsCircle", fn := fun _ => fun
  | [d1, d2] => { results := [.lit (.bool false)], args := [d1, d2] }
  | _ => none }
def RootsCircleWrongFalsely : Prop := rootsCircleRow.holds Tryd.pinned (OpenSpec.ofChange rootsCircleWrong)

/- THE SECOND FORM. 'bulk': how many values and letters a reading holds, each counted each time it is reached (what is shared counts as often as it is met; a slice's spare places count too). A statement '..UptoSaid' is the law's where the arguments, and the package variables that the reading takes, are together of bulk at most 1048576: NARROWER than '..Said'. Prove '..Said' where nothing that the law and all that it calls make is longer than what came in: it says more and counts as full. Else prove '..UptoSaid'. A law counts once. -/
mutual
def uptoBulk {H : Type} : DataW H → Nat
  | .lit (.string bytes) => bytes.length + 1
  | .lit _ => 1
  | .nil => 1
  | .ptr d => uptoBulk d + 1
  | .slice elems spare => uptoBulkAll elems + uptoBulkAll spare + 1
  | .agg parts => uptoBulkAll parts + 1
  | .iface _ d => uptoBulk d + 1
  | .map entries => uptoBulkEntries entries + 1
  | .held _ => 1
def uptoBulkAll {H : Type} : List (DataW H) → Nat
  | [] => 0
  | d :: r => uptoBulk d + uptoBulkAll r
def uptoBulkEntries {H : Type} : List (Lit × DataW H) → Nat
  | [] => 0
  | x :: r => uptoBulkEntry x + uptoBulkEntries r
def uptoBulkEntry {H : Type} : Lit × DataW H → Nat
  | (.string bytes, d) => bytes.length + uptoBulk d + 1
  | (_, d) => uptoBulk d + 1
 end
def uptoSmall : (H : Type) → List (DataW H) → Bool := fun _ ds => decide (uptoBulkAll ds ≤ 1048576)
def OpenSpec.upto (s : _root_.Go.ChangeSpec) : _root_.Go.OpenSpec := { _root_.Go.OpenSpec.ofChange s with cond := some uptoSmall }

/-- 'timbrelaw07.RootsAll', WHERE WHAT IT READS IS OF BULK AT MOST 1048576: true; the input reads as it did. -/
def rootsAllUptoRow : OpenClaim := { program := "ytijbkcjbkioefaadoor", sum := "f4809691e023c29080a9b97f391c8b4c766a991c1d68ccfd7865f237b03efe80", func := "timbre/timbrelaw07.RootsAll", spec := "rootsAll", inPlace := ["math.Float64frombits", "math.Float64bits"], named := ["timbre/api.ErrLength", "timbre/api.ErrRange", "timbre/api.ErrShort", "timbre/api.ErrVarint", "timbre/api.ErrLimit", "timbre/api.ErrTail", "timbre/api.ErrText", "timbre/api.ErrOrder", "timbre/api.ErrProgram", "timbre/api.ErrState", "timbre/api.ErrRoot", "timbre/api.ErrPerm", "timbre/api.ErrNumber", "timbre/api.ErrWorkers", "timbre/api.ErrDone", "timbre/api.ErrUnknown", "timbre/api.ErrMode", "timbre/api.ErrCommand", "timbre/api.ErrExact"], apart := false, laid := [("timbre/api.ErrShort", laid_timbre_api_ErrShort), ("timbre/api.ErrVarint", laid_timbre_api_ErrVarint), ("timbre/api.ErrLimit", laid_timbre_api_ErrLimit), ("timbre/api.ErrTail", laid_timbre_api_ErrTail), ("timbre/api.ErrRange", laid_timbre_api_ErrRange), ("timbre/api.ErrText", laid_timbre_api_ErrText), ("timbre/api.ErrLength", laid_timbre_api_ErrLength), ("timbre/api.ErrOrder", laid_timbre_api_ErrOrder), ("timbre/api.ErrProgram", laid_timbre_api_ErrProgram), ("timbre/api.ErrState", laid_timbre_api_ErrState), ("timbre/api.ErrRoot", laid_timbre_api_ErrRoot), ("timbre/api.ErrPerm", laid_timbre_api_ErrPerm), ("timbre/api.ErrNumber", laid_timbre_api_ErrNumber), ("timbre/api.ErrWorkers", laid_timbre_api_ErrWorkers), ("timbre/api.ErrDone", laid_timbre_api_ErrDone), ("timbre/api.ErrUnknown", laid_timbre_api_ErrUnknown), ("timbre/api.ErrMode", laid_timbre_api_ErrMode), ("timbre/api.ErrCommand", laid_timbre_api_ErrCommand), ("timbre/api.ErrExact", laid_timbre_api_ErrExact)], narrowed := true }
def RootsAllUptoSaid : Prop := rootsAllUptoRow.holds Tryd.pinned (OpenSpec.upto rootsAllSpec)

/-- 'timbrelaw07.RootsPlaces', WHERE WHAT IT READS IS OF BULK AT MOST 1048576: true; the input reads as it did. -/
def rootsPlacesUptoRow : OpenClaim := { program := "ytijbkcjbkioefaadoor", sum := "f4809691e023c29080a9b97f391c8b4c766a991c1d68ccfd7865f237b03efe80", func := "timbre/timbrelaw07.RootsPlaces", spec := "rootsPlaces", inPlace := ["math.Float64frombits", "math.Float64bits"], named := ["timbre/api.ErrLength", "timbre/api.ErrRange"], apart := false, laid := [("timbre/api.ErrRange", laid_timbre_api_ErrRange), ("timbre/api.ErrLength", laid_timbre_api_ErrLength)], narrowed := true }
def RootsPlacesUptoSaid : Prop := rootsPlacesUptoRow.holds Tryd.pinned (OpenSpec.upto rootsPlacesSpec)

/-- 'timbrelaw07.RootsReckoned', WHERE WHAT IT READS IS OF BULK AT MOST 1048576: true; the input reads as it did. -/
def rootsReckonedUptoRow : OpenClaim := { program := "ytijbkcjbkioefaadoor", sum := "f4809691e023c29080a9b97f391c8b4c766a991c1d68ccfd7865f237b03efe80", func := "timbre/timbrelaw07.RootsReckoned", spec := "rootsReckoned", inPlace := ["math.Float64frombits", "math.Float64bits"], named := ["timbre/api.ErrLength", "timbre/api.ErrRange", "timbre/api.ErrShort", "timbre/api.ErrVarint", "timbre/api.ErrLimit", "timbre/api.ErrTail", "timbre/api.ErrText", "timbre/api.ErrOrder", "timbre/api.ErrProgram", "timbre/api.ErrState", "timbre/api.ErrRoot", "timbre/api.ErrPerm", "timbre/api.ErrNumber", "timbre/api.ErrWorkers", "timbre/api.ErrDone", "timbre/api.ErrUnknown", "timbre/api.ErrMode", "timbre/api.ErrCommand", "timbre/api.ErrExact"], apart := false, laid := [("timbre/api.ErrShort", laid_timbre_api_ErrShort), ("timbre/api.ErrVarint", laid_timbre_api_ErrVarint), ("timbre/api.ErrLimit", laid_timbre_api_ErrLimit), ("timbre/api.ErrTail", laid_timbre_api_ErrTail), ("timbre/api.ErrRange", laid_timbre_api_ErrRange), ("timbre/api.ErrText", laid_timbre_api_ErrText), ("timbre/api.ErrLength", laid_timbre_api_ErrLength), ("timbre/api.ErrOrder", laid_timbre_api_ErrOrder), ("timbre/api.ErrProgram", laid_timbre_api_ErrProgram), ("timbre/api.ErrState", laid_timbre_api_ErrState), ("timbre/api.ErrRoot", laid_timbre_api_ErrRoot), ("timbre/api.ErrPerm", laid_timbre_api_ErrPerm), ("timbre/api.ErrNumber", laid_timbre_api_ErrNumber), ("timbre/api.ErrWorkers", laid_timbre_api_ErrWorkers), ("timbre/api.ErrDone", laid_timbre_api_ErrDone), ("timbre/api.ErrUnknown", laid_timbre_api_ErrUnknown), ("timbre/api.ErrMode", laid_timbre_api_ErrMode), ("timbre/api.ErrCommand", laid_timbre_api_ErrCommand), ("timbre/api.ErrExact", laid_timbre_api_ErrExact)], narrowed := true }
def RootsReckonedUptoSaid : Prop := rootsReckonedUptoRow.holds Tryd.pinned (OpenSpec.upto rootsReckonedSpec)

/-- 'timbrelaw07.RootsTurned', WHERE WHAT IT READS IS OF BULK AT MOST 1048576: true; the input reads as it did. -/
def rootsTurnedUptoRow : OpenClaim := { program := "ytijbkcjbkioefaadoor", sum := "f4809691e023c29080a9b97f391c8b4c766a991c1d68ccfd7865f237b03efe80", func := "timbre/timbrelaw07.RootsTurned", spec := "rootsTurned", inPlace := ["math.Float64frombits", "math.Float64bits"], named := ["timbre/api.ErrLength", "timbre/api.ErrRange"], apart := false, laid := [("timbre/api.ErrRange", laid_timbre_api_ErrRange), ("timbre/api.ErrLength", laid_timbre_api_ErrLength)], narrowed := true }
def RootsTurnedUptoSaid : Prop := rootsTurnedUptoRow.holds Tryd.pinned (OpenSpec.upto rootsTurnedSpec)

/-- 'timbrelaw07.RootsTwist', WHERE WHAT IT READS IS OF BULK AT MOST 1048576: true; the input reads as it did. -/
def rootsTwistUptoRow : OpenClaim := { program := "ytijbkcjbkioefaadoor", sum := "f4809691e023c29080a9b97f391c8b4c766a991c1d68ccfd7865f237b03efe80", func := "timbre/timbrelaw07.RootsTwist", spec := "rootsTwist", inPlace := ["math.Float64frombits", "math.Float64bits"], named := ["timbre/api.ErrLength", "timbre/api.ErrRange", "timbre/api.ErrShort", "timbre/api.ErrVarint", "timbre/api.ErrLimit", "timbre/api.ErrTail", "timbre/api.ErrText", "timbre/api.ErrOrder", "timbre/api.ErrProgram", "timbre/api.ErrState", "timbre/api.ErrRoot", "timbre/api.ErrPerm", "timbre/api.ErrNumber", "timbre/api.ErrWorkers", "timbre/api.ErrDone", "timbre/api.ErrUnknown", "timbre/api.ErrMode", "timbre/api.ErrCommand", "timbre/api.ErrExact"], apart := false, laid := [("timbre/api.ErrShort", laid_timbre_api_ErrShort), ("timbre/api.ErrVarint", laid_timbre_api_ErrVarint), ("timbre/api.ErrLimit", laid_timbre_api_ErrLimit), ("timbre/api.ErrTail", laid_timbre_api_ErrTail), ("timbre/api.ErrRange", laid_timbre_api_ErrRange), ("timbre/api.ErrText", laid_timbre_api_ErrText), ("timbre/api.ErrLength", laid_timbre_api_ErrLength), ("timbre/api.ErrOrder", laid_timbre_api_ErrOrder), ("timbre/api.ErrProgram", laid_timbre_api_ErrProgram), ("timbre/api.ErrState", laid_timbre_api_ErrState), ("timbre/api.ErrRoot", laid_timbre_api_ErrRoot), ("timbre/api.ErrPerm", laid_timbre_api_ErrPerm), ("timbre/api.ErrNumber", laid_timbre_api_ErrNumber), ("timbre/api.ErrWorkers", laid_timbre_api_ErrWorkers), ("timbre/api.ErrDone", laid_timbre_api_ErrDone), ("timbre/api.ErrUnknown", laid_timbre_api_ErrUnknown), ("timbre/api.ErrMode", laid_timbre_api_ErrMode), ("timbre/api.ErrCommand", laid_timbre_api_ErrCommand), ("timbre/api.ErrExact", laid_timbre_api_ErrExact)], narrowed := true }
def RootsTwistUptoSaid : Prop := rootsTwistUptoRow.holds Tryd.pinned (OpenSpec.upto rootsTwistSpec)

/-- 'timbrelaw07.RootsTwisted', WHERE WHAT IT READS IS OF BULK AT MOST 1048576: true; the input reads as it did. -/
def rootsTwistedUptoRow : OpenClaim := { program := "ytijbkcjbkioefaadoor", sum := "f4809691e023c29080a9b97f391c8b4c766a991c1d68ccfd7865f237b03efe80", func := "timbre/timbrelaw07.RootsTwisted", spec := "rootsTwisted", inPlace := ["math.Float64frombits", "math.Float64bits"], named := ["timbre/api.ErrLength", "timbre/api.ErrRange"], apart := false, laid := [("timbre/api.ErrRange", laid_timbre_api_ErrRange), ("timbre/api.ErrLength", laid_timbre_api_ErrLength)], narrowed := true }
def RootsTwistedUptoSaid : Prop := rootsTwistedUptoRow.holds Tryd.pinned (OpenSpec.upto rootsTwistedSpec)

/-- 'timbrelaw07.RootsCircle', WHERE WHAT IT READS IS OF BULK AT MOST 1048576: true; the input reads as it did. -/
def rootsCircleUptoRow : OpenClaim := { program := "ytijbkcjbkioefaadoor", sum := "f4809691e023c29080a9b97f391c8b4c766a991c1d68ccfd7865f237b03efe80", func := "timbre/timbrelaw07.RootsCircle", spec := "rootsCircle", inPlace := ["math.Float64frombits", "math.FMA"], named := ["timbre/api.ErrLength", "timbre/api.ErrRange"], apart := false, laid := [("timbre/api.ErrRange", laid_timbre_api_ErrRange), ("timbre/api.ErrLength", laid_timbre_api_ErrLength)], narrowed := true }
def RootsCircleUptoSaid : Prop := rootsCircleUptoRow.holds Tryd.pinned (OpenSpec.upto rootsCircleSpec)

end Rows
end Go.Proofs.YtijbkcjbkioefaaDoor
