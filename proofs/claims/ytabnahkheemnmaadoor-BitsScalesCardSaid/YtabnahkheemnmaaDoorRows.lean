/-
  NARROWER THAN 'FOR EVERY INPUT', by the rows' own cells (each row's printed sentence says how): BitsTwo: laid · BitsBack: laid · BitsSteps: laid · BitsOrder: laid · BitsScales: laid · BitsLists: laid · BitsOne: laid.
  DERIVED. THE GIVEN ROWS OF THIS SEAT. 7 by the template 'for every input the law returns true; each argument reads behind the call as it read before'; 0 by the template 'total and deterministic' (their statements: YtabnahkheemnmaaDoorTotals.lean).
  GIVEN WITH THE SEED: the statements are not yours to turn. If you find one false, say at which input.
  Laid BY PROGRAM, IN A SANDBOX (cutbox-rows.mjs): the forced cells as the released guide's own fill.sh prints them over the translation 44acaca9eaa0a62d… (all of the seat's roots in one cut). By AI agents, Wed Nov 11 2026. No macro, syntax, notation, axiom, sorry.
-/
import Derived.Test.YtabnahkheemnmaaDoorChecked
import GoSem.Claim
import GoSem.ClaimJoined
import GoSem.ClaimMapViews
import Derived.JoinedTies
import Derived.KernelRfl
namespace Go.Proofs.YtabnahkheemnmaaDoor
/- THE CELL 'sum', in the pinned program and in every row, IS THE sha256 OF THE DUMP (.gsa) THAT YtabnahkheemnmaaDoorProg.lean LOADS. Nothing in Lean hashes anything: it is a label: what it is worth is what the hold of that sum in a sandbox is worth. -/
noncomputable def Tryd.pinned : Pinned := { name := "ytabnahkheemnmaadoor", sum := "44acaca9eaa0a62dafeb8787f971cd5e34330f7b6fa7ede9d5d3889d3d0a4281", checked := Tryd.checked }
namespace Rows
def none {H : Type} : Left H := { results := [], args := [] }

/- WHAT THE LISTED PACKAGE-LEVEL VARIABLES READ AS WHEN THE CALL BEGINS. Each datum BY PROGRAM (the guide's laid-datum.mjs) off the statement by which the dump's own 'gosem.cut.vars' lays the variable. In a bare row this is a premise. The card (YtabnahkheemnmaaDoorCards.lean) ties it to the program's text. -/
def laid_timbre_api_ErrShort {H : Type} : DataW H := .iface "*errors.errorString" (.ptr (.agg [.lit (.string [116, 105, 109, 98, 114, 101, 58, 32, 116, 111, 111, 32, 115, 104, 111, 114, 116])]))
def laid_timbre_api_ErrVarint {H : Type} : DataW H := .iface "*errors.errorString" (.ptr (.agg [.lit (.string [116, 105, 109, 98, 114, 101, 58, 32, 118, 97, 114, 105, 110, 116])]))
def laid_timbre_api_ErrLimit {H : Type} : DataW H := .iface "*errors.errorString" (.ptr (.agg [.lit (.string [116, 105, 109, 98, 114, 101, 58, 32, 108, 105, 109, 105, 116])]))
def laid_timbre_api_ErrTail {H : Type} : DataW H := .iface "*errors.errorString" (.ptr (.agg [.lit (.string [116, 105, 109, 98, 114, 101, 58, 32, 116, 97, 105, 108])]))
def laid_timbre_api_ErrRange {H : Type} : DataW H := .iface "*errors.errorString" (.ptr (.agg [.lit (.string [116, 105, 109, 98, 114, 101, 58, 32, 114, 97, 110, 103, 101])]))
def laid_timbre_api_ErrText {H : Type} : DataW H := .iface "*errors.errorString" (.ptr (.agg [.lit (.string [116, 105, 109, 98, 114, 101, 58, 32, 116, 101, 120, 116])]))
def laid_timbre_api_ErrLength {H : Type} : DataW H := .iface "*errors.errorString" (.ptr (.agg [.lit (.string [116, 105, 109, 98, 114, 101, 58, 32, 108, 101, 110, 103, 116, 104])]))
def laid_timbre_api_ErrOrder {H : Type} : DataW H := .iface "*errors.errorString" (.ptr (.agg [.lit (.string [116, 105, 109, 98, 114, 101, 58, 32, 111, 114, 100, 101, 114])]))
def laid_timbre_api_ErrProgram {H : Type} : DataW H := .iface "*errors.errorString" (.ptr (.agg [.lit (.string [116, 105, 109, 98, 114, 101, 58, 32, 112, 114, 111, 103, 114, 97, 109])]))
def laid_timbre_api_ErrState {H : Type} : DataW H := .iface "*errors.errorString" (.ptr (.agg [.lit (.string [116, 105, 109, 98, 114, 101, 58, 32, 115, 116, 97, 116, 101])]))
def laid_timbre_api_ErrRoot {H : Type} : DataW H := .iface "*errors.errorString" (.ptr (.agg [.lit (.string [116, 105, 109, 98, 114, 101, 58, 32, 114, 111, 111, 116])]))
def laid_timbre_api_ErrPerm {H : Type} : DataW H := .iface "*errors.errorString" (.ptr (.agg [.lit (.string [116, 105, 109, 98, 114, 101, 58, 32, 112, 101, 114, 109, 117, 116, 97, 116, 105, 111, 110])]))
def laid_timbre_api_ErrNumber {H : Type} : DataW H := .iface "*errors.errorString" (.ptr (.agg [.lit (.string [116, 105, 109, 98, 114, 101, 58, 32, 110, 117, 109, 98, 101, 114])]))
def laid_timbre_api_ErrWorkers {H : Type} : DataW H := .iface "*errors.errorString" (.ptr (.agg [.lit (.string [116, 105, 109, 98, 114, 101, 58, 32, 119, 111, 114, 107, 101, 114, 115])]))
def laid_timbre_api_ErrDone {H : Type} : DataW H := .iface "*errors.errorString" (.ptr (.agg [.lit (.string [116, 105, 109, 98, 114, 101, 58, 32, 100, 111, 110, 101])]))
def laid_timbre_api_ErrUnknown {H : Type} : DataW H := .iface "*errors.errorString" (.ptr (.agg [.lit (.string [116, 105, 109, 98, 114, 101, 58, 32, 117, 110, 107, 110, 111, 119, 110])]))
def laid_timbre_api_ErrMode {H : Type} : DataW H := .iface "*errors.errorString" (.ptr (.agg [.lit (.string [116, 105, 109, 98, 114, 101, 58, 32, 109, 111, 100, 101])]))
def laid_timbre_api_ErrCommand {H : Type} : DataW H := .iface "*errors.errorString" (.ptr (.agg [.lit (.string [116, 105, 109, 98, 114, 101, 58, 32, 99, 111, 109, 109, 97, 110, 100])]))
def laid_timbre_api_ErrExact {H : Type} : DataW H := .iface "*errors.errorString" (.ptr (.agg [.lit (.string [116, 105, 109, 98, 114, 101, 58, 32, 101, 120, 97, 99, 116])]))

/-- 'timbrelaw01.BitsTwo': WHATEVER THE INPUT: true; the input reads as it did. -/
def bitsTwoSpec : ChangeSpec := { name := "bitsTwo", fn := fun _ => fun
  | [d1, d2] => { results := [.lit (.bool true)], args := [d1, d2] }
  | _ => none }
def bitsTwoRow : OpenClaim := { program := "ytabnahkheemnmaadoor", sum := "44acaca9eaa0a62dafeb8787f971cd5e34330f7b6fa7ede9d5d3889d3d0a4281", func := "timbre/timbrelaw01.BitsTwo", spec := "bitsTwo", inPlace := ["math.Float64bits", "math.Float64frombits", "math.archTrunc"], named := ["timbre/api.ErrNumber", "timbre/api.ErrShort", "timbre/api.ErrVarint", "timbre/api.ErrLimit", "timbre/api.ErrTail", "timbre/api.ErrRange", "timbre/api.ErrText", "timbre/api.ErrLength", "timbre/api.ErrOrder", "timbre/api.ErrProgram", "timbre/api.ErrState", "timbre/api.ErrRoot", "timbre/api.ErrPerm", "timbre/api.ErrWorkers", "timbre/api.ErrDone", "timbre/api.ErrUnknown", "timbre/api.ErrMode", "timbre/api.ErrCommand", "timbre/api.ErrExact"], apart := false, laid := [("timbre/api.ErrShort", laid_timbre_api_ErrShort), ("timbre/api.ErrVarint", laid_timbre_api_ErrVarint), ("timbre/api.ErrLimit", laid_timbre_api_ErrLimit), ("timbre/api.ErrTail", laid_timbre_api_ErrTail), ("timbre/api.ErrRange", laid_timbre_api_ErrRange), ("timbre/api.ErrText", laid_timbre_api_ErrText), ("timbre/api.ErrLength", laid_timbre_api_ErrLength), ("timbre/api.ErrOrder", laid_timbre_api_ErrOrder), ("timbre/api.ErrProgram", laid_timbre_api_ErrProgram), ("timbre/api.ErrState", laid_timbre_api_ErrState), ("timbre/api.ErrRoot", laid_timbre_api_ErrRoot), ("timbre/api.ErrPerm", laid_timbre_api_ErrPerm), ("timbre/api.ErrNumber", laid_timbre_api_ErrNumber), ("timbre/api.ErrWorkers", laid_timbre_api_ErrWorkers), ("timbre/api.ErrDone", laid_timbre_api_ErrDone), ("timbre/api.ErrUnknown", laid_timbre_api_ErrUnknown), ("timbre/api.ErrMode", laid_timbre_api_ErrMode), ("timbre/api.ErrCommand", laid_timbre_api_ErrCommand), ("timbre/api.ErrExact", laid_timbre_api_ErrExact)] }
def BitsTwoSaid : Prop := bitsTwoRow.holds Tryd.pinned (OpenSpec.ofChange bitsTwoSpec)

/-- ITS FALSE NEIGHBOUR: 'it returns false'. Refute it at one input. -/
def bitsTwoWrong : ChangeSpec := { name := "bitsTwo", fn := fun _ => fun
  | [d1, d2] => { results := [.lit (.bool false)], args := [d1, d2] }
  | _ => none }
def BitsTwoWrongFalsely : Prop := bitsTwoRow.holds Tryd.pinned (OpenSpec.ofChange bitsTwoWrong)

/-- 'timbrelaw01.BitsBack': WHATEVER THE INPUT: true; the input reads as it did. -/
def bitsBackSpec : ChangeSpec := { name := "bitsBack", fn := fun _ => fun
  | [d1, d2] => { results := [.lit (.bool true)], args := [d1, d2] }
  | _ => none }
def bitsBackRow : OpenClaim := { program := "ytabnahkheemnmaadoor", sum := "44acaca9eaa0a62dafeb8787f971cd5e34330f7b6fa7ede9d5d3889d3d0a4281", func := "timbre/timbrelaw01.BitsBack", spec := "bitsBack", inPlace := ["math.Float64bits", "math.Float64frombits", "math.archTrunc"], named := ["timbre/api.ErrNumber"], apart := false, laid := [("timbre/api.ErrNumber", laid_timbre_api_ErrNumber)] }
def BitsBackSaid : Prop := bitsBackRow.holds Tryd.pinned (OpenSpec.ofChange bitsBackSpec)

/-- ITS FALSE NEIGHBOUR: 'it returns false'. Refute it at one input. -/
def bitsBackWrong : ChangeSpec := { name := "bitsBack", fn := fun _ => fun
  | [d1, d2] => { results := [.lit (.bool false)], args := [d1, d2] }
  | _ => none }
def BitsBackWrongFalsely : Prop := bitsBackRow.holds Tryd.pinned (OpenSpec.ofChange bitsBackWrong)

/-- 'timbrelaw01.BitsSteps': WHATEVER THE INPUT: true; the input reads as it did. -/
def bitsStepsSpec : ChangeSpec := { name := "bitsSteps", fn := fun _ => fun
  | [d1, d2, d3, d4] => { results := [.lit (.bool true)], args := [d1, d2, d3, d4] }
  | _ => none }
def bitsStepsRow : OpenClaim := { program := "ytabnahkheemnmaadoor", sum := "44acaca9eaa0a62dafeb8787f971cd5e34330f7b6fa7ede9d5d3889d3d0a4281", func := "timbre/timbrelaw01.BitsSteps", spec := "bitsSteps", inPlace := ["math.Float64bits", "math.Float64frombits", "math.archTrunc"], named := ["timbre/api.ErrNumber", "timbre/api.ErrShort", "timbre/api.ErrVarint", "timbre/api.ErrLimit", "timbre/api.ErrTail", "timbre/api.ErrRange", "timbre/api.ErrText", "timbre/api.ErrLength", "timbre/api.ErrOrder", "timbre/api.ErrProgram", "timbre/api.ErrState", "timbre/api.ErrRoot", "timbre/api.ErrPerm", "timbre/api.ErrWorkers", "timbre/api.ErrDone", "timbre/api.ErrUnknown", "timbre/api.ErrMode", "timbre/api.ErrCommand", "timbre/api.ErrExact"], apart := false, laid := [("timbre/api.ErrShort", laid_timbre_api_ErrShort), ("timbre/api.ErrVarint", laid_timbre_api_ErrVarint), ("timbre/api.ErrLimit", laid_timbre_api_ErrLimit), ("timbre/api.ErrTail", laid_timbre_api_ErrTail), ("timbre/api.ErrRange", laid_timbre_api_ErrRange), ("timbre/api.ErrText", laid_timbre_api_ErrText), ("timbre/api.ErrLength", laid_timbre_api_ErrLength), ("timbre/api.ErrOrder", laid_timbre_api_ErrOrder), ("timbre/api.ErrProgram", laid_timbre_api_ErrProgram), ("timbre/api.ErrState", laid_timbre_api_ErrState), ("timbre/api.ErrRoot", laid_timbre_api_ErrRoot), ("timbre/api.ErrPerm", laid_timbre_api_ErrPerm), ("timbre/api.ErrNumber", laid_timbre_api_ErrNumber), ("timbre/api.ErrWorkers", laid_timbre_api_ErrWorkers), ("timbre/api.ErrDone", laid_timbre_api_ErrDone), ("timbre/api.ErrUnknown", laid_timbre_api_ErrUnknown), ("timbre/api.ErrMode", laid_timbre_api_ErrMode), ("timbre/api.ErrCommand", laid_timbre_api_ErrCommand), ("timbre/api.ErrExact", laid_timbre_api_ErrExact)] }
def BitsStepsSaid : Prop := bitsStepsRow.holds Tryd.pinned (OpenSpec.ofChange bitsStepsSpec)

/-- ITS FALSE NEIGHBOUR: 'it returns false'. Refute it at one input. -/
def bitsStepsWrong : ChangeSpec := { name := "bitsSteps", fn := fun _ => fun
  | [d1, d2, d3, d4] => { results := [.lit (.bool false)], args := [d1, d2, d3, d4] }
  | _ => none }
def BitsStepsWrongFalsely : Prop := bitsStepsRow.holds Tryd.pinned (OpenSpec.ofChange bitsStepsWrong)

/-- 'timbrelaw01.BitsOrder': WHATEVER THE INPUT: true; the input reads as it did. -/
def bitsOrderSpec : ChangeSpec := { name := "bitsOrder", fn := fun _ => fun
  | [d1, d2, d3] => { results := [.lit (.bool true)], args := [d1, d2, d3] }
  | _ => none }
def bitsOrderRow : OpenClaim := { program := "ytabnahkheemnmaadoor", sum := "44acaca9eaa0a62dafeb8787f971cd5e34330f7b6fa7ede9d5d3889d3d0a4281", func := "timbre/timbrelaw01.BitsOrder", spec := "bitsOrder", inPlace := ["math.Float64bits", "math.Float64frombits", "math.archTrunc"], named := ["timbre/api.ErrNumber"], apart := false, laid := [("timbre/api.ErrNumber", laid_timbre_api_ErrNumber)] }
def BitsOrderSaid : Prop := bitsOrderRow.holds Tryd.pinned (OpenSpec.ofChange bitsOrderSpec)

/-- ITS FALSE NEIGHBOUR: 'it returns false'. Refute it at one input. -/
def bitsOrderWrong : ChangeSpec := { name := "bitsOrder", fn := fun _ => fun
  | [d1, d2, d3] => { results := [.lit (.bool false)], args := [d1, d2, d3] }
  | _ => none }
def BitsOrderWrongFalsely : Prop := bitsOrderRow.holds Tryd.pinned (OpenSpec.ofChange bitsOrderWrong)

/-- 'timbrelaw01.BitsScales': WHATEVER THE INPUT: true; the input reads as it did. -/
def bitsScalesSpec : ChangeSpec := { name := "bitsScales", fn := fun _ => fun
  | [d1, d2] => { results := [.lit (.bool true)], args := [d1, d2] }
  | _ => none }
def bitsScalesRow : OpenClaim := { program := "ytabnahkheemnmaadoor", sum := "44acaca9eaa0a62dafeb8787f971cd5e34330f7b6fa7ede9d5d3889d3d0a4281", func := "timbre/timbrelaw01.BitsScales", spec := "bitsScales", inPlace := ["math.Float64bits", "math.Float64frombits", "math.archTrunc"], named := ["timbre/api.ErrNumber", "timbre/api.ErrShort", "timbre/api.ErrVarint", "timbre/api.ErrLimit", "timbre/api.ErrTail", "timbre/api.ErrRange", "timbre/api.ErrText", "timbre/api.ErrLength", "timbre/api.ErrOrder", "timbre/api.ErrProgram", "timbre/api.ErrState", "timbre/api.ErrRoot", "timbre/api.ErrPerm", "timbre/api.ErrWorkers", "timbre/api.ErrDone", "timbre/api.ErrUnknown", "timbre/api.ErrMode", "timbre/api.ErrCommand", "timbre/api.ErrExact"], apart := false, laid := [("timbre/api.ErrShort", laid_timbre_api_ErrShort), ("timbre/api.ErrVarint", laid_timbre_api_ErrVarint), ("timbre/api.ErrLimit", laid_timbre_api_ErrLimit), ("timbre/api.ErrTail", laid_timbre_api_ErrTail), ("timbre/api.ErrRange", laid_timbre_api_ErrRange), ("timbre/api.ErrText", laid_timbre_api_ErrText), ("timbre/api.ErrLength", laid_timbre_api_ErrLength), ("timbre/api.ErrOrder", laid_timbre_api_ErrOrder), ("timbre/api.ErrProgram", laid_timbre_api_ErrProgram), ("timbre/api.ErrState", laid_timbre_api_ErrState), ("timbre/api.ErrRoot", laid_timbre_api_ErrRoot), ("timbre/api.ErrPerm", laid_timbre_api_ErrPerm), ("timbre/api.ErrNumber", laid_timbre_api_ErrNumber), ("timbre/api.ErrWorkers", laid_timbre_api_ErrWorkers), ("timbre/api.ErrDone", laid_timbre_api_ErrDone), ("timbre/api.ErrUnknown", laid_timbre_api_ErrUnknown), ("timbre/api.ErrMode", laid_timbre_api_ErrMode), ("timbre/api.ErrCommand", laid_timbre_api_ErrCommand), ("timbre/api.ErrExact", laid_timbre_api_ErrExact)] }
def BitsScalesSaid : Prop := bitsScalesRow.holds Tryd.pinned (OpenSpec.ofChange bitsScalesSpec)

/-- ITS FALSE NEIGHBOUR: 'it returns false'. Refute it at one input. -/
def bitsScalesWrong : ChangeSpec := { name := "bitsScales", fn := fun _ => fun
  | [d1, d2] => { results := [.lit (.bool false)], args := [d1, d2] }
  | _ => none }
def BitsScalesWrongFalsely : Prop := bitsScalesRow.holds Tryd.pinned (OpenSpec.ofChange bitsScalesWrong)

/-- 'timbrelaw01.BitsLists': WHATEVER THE INPUT: true; the input reads as it did. -/
def bitsListsSpec : ChangeSpec := { name := "bitsLists", fn := fun _ => fun
  | [d1, d2] => { results := [.lit (.bool true)], args := [d1, d2] }
  | _ => none }
def bitsListsRow : OpenClaim := { program := "ytabnahkheemnmaadoor", sum := "44acaca9eaa0a62dafeb8787f971cd5e34330f7b6fa7ede9d5d3889d3d0a4281", func := "timbre/timbrelaw01.BitsLists", spec := "bitsLists", inPlace := ["math.Float64bits", "math.Float64frombits", "math.archTrunc"], named := ["timbre/api.ErrNumber"], apart := false, laid := [("timbre/api.ErrNumber", laid_timbre_api_ErrNumber)] }
def BitsListsSaid : Prop := bitsListsRow.holds Tryd.pinned (OpenSpec.ofChange bitsListsSpec)

/-- ITS FALSE NEIGHBOUR: 'it returns false'. Refute it at one input. -/
def bitsListsWrong : ChangeSpec := { name := "bitsLists", fn := fun _ => fun
  | [d1, d2] => { results := [.lit (.bool false)], args := [d1, d2] }
  | _ => none }
def BitsListsWrongFalsely : Prop := bitsListsRow.holds Tryd.pinned (OpenSpec.ofChange bitsListsWrong)

/-- 'timbrelaw01.BitsOne': WHATEVER THE INPUT: true; the input reads as it did. -/
def bitsOneSpec : ChangeSpec := { name := "bitsOne", fn := fun _ => fun
  | [d1, d2] => { results := [.lit (.bool true)], args := [d1, d2] }
  | _ => none }
def bitsOneRow : OpenClaim := { program := "ytabnahkheemnmaadoor", sum := "44acaca9eaa0a62dafeb8787f971cd5e34330f7b6fa7ede9d5d3889d3d0a4281", func := "timbre/timbrelaw01.BitsOne", spec := "bitsOne", inPlace := ["math.Float64bits", "math.Float64frombits", "math.archTrunc"], named := ["timbre/api.ErrNumber", "timbre/api.ErrShort", "timbre/api.ErrVarint", "timbre/api.ErrLimit", "timbre/api.ErrTail", "timbre/api.ErrRange", "timbre/api.ErrText", "timbre/api.ErrLength", "timbre/api.ErrOrder", "timbre/api.ErrProgram", "timbre/api.ErrState", "timbre/api.ErrRoot", "timbre/api.ErrPerm", "timbre/api.ErrWorkers", "timbre/api.ErrDone", "timbre/api.ErrUnknown", "timbre/api.ErrMode", "timbre/api.ErrCommand", "timbre/api.ErrExact"], apart := false, laid := [("timbre/api.ErrShort", laid_timbre_api_ErrShort), ("timbre/api.ErrVarint", laid_timbre_api_ErrVarint), ("timbre/api.ErrLimit", laid_timbre_api_ErrLimit), ("timbre/api.ErrTail", laid_timbre_api_ErrTail), ("timbre/api.ErrRange", laid_timbre_api_ErrRange), ("timbre/api.ErrText", laid_timbre_api_ErrText), ("timbre/api.ErrLength", laid_timbre_api_ErrLength), ("timbre/api.ErrOrder", laid_timbre_api_ErrOrder), ("timbre/api.ErrProgram", laid_timbre_api_ErrProgram), ("timbre/api.ErrState", laid_timbre_api_ErrState), ("timbre/api.ErrRoot", laid_timbre_api_ErrRoot), ("timbre/api.ErrPerm", laid_timbre_api_ErrPerm), ("timbre/api.ErrNumber", laid_timbre_api_ErrNumber), ("timbre/api.ErrWorkers", laid_timbre_api_ErrWorkers), ("timbre/api.ErrDone", laid_timbre_api_ErrDone), ("timbre/api.ErrUnknown", laid_timbre_api_ErrUnknown), ("timbre/api.ErrMode", laid_timbre_api_ErrMode), ("timbre/api.ErrCommand", laid_timbre_api_ErrCommand), ("timbre/api.ErrExact", laid_timbre_api_ErrExact)] }
def BitsOneSaid : Prop := bitsOneRow.holds Tryd.pinned (OpenSpec.ofChange bitsOneSpec)

/-- ITS FALSE NEIGHBOUR: 'it returns false'. Refute it at one input. -/
def bitsOneWrong : ChangeSpec := { name := "bitsOne", fn := fun _ => fun
  | [d1, d2] => { results := [.lit (.bool false)], args := [d1, d2] }
  | _ => none }
def BitsOneWrongFalsely : Prop := bitsOneRow.holds Tryd.pinned (OpenSpec.ofChange bitsOneWrong)

/- THE SECOND FORM. 'bulk': how many values and letters a reading holds, each counted each time it is reached (what is shared counts as often as it is met; a slice's spare places count too). A statement '..UptoSaid' is the law's where the arguments, and the package variables that the reading takes, are together of bulk at most 1048576: NARROWER than '..Said'. Prove '..Said' where nothing that the law and all that it calls make is longer than what came in: it says more and counts as full. Else prove '..UptoSaid'. A law counts once. -/
mutual
def uptoBulk {H : Type} : DataW H → Nat
  | .lit (.string bytes) => bytes.length + 1
  | .lit _ => 1
  | .nil => 1
  | .ptr d => uptoBulk d + 1
  | .slice elems spare => uptoBulkAll elems + uptoBulkAll spare + 1
  | .agg parts => uptoBulkAll parts + 1
  | .iface _ d => uptoBulk d + 1
  | .map entries => uptoBulkEntries entries + 1
  | .held _ => 1
def uptoBulkAll {H : Type} : List (DataW H) → Nat
  | [] => 0
  | d :: r => uptoBulk d + uptoBulkAll r
def uptoBulkEntries {H : Type} : List (Lit × DataW H) → Nat
  | [] => 0
  | x :: r => uptoBulkEntry x + uptoBulkEntries r
def uptoBulkEntry {H : Type} : Lit × DataW H → Nat
  | (.string bytes, d) => bytes.length + uptoBulk d + 1
  | (_, d) => uptoBulk d + 1
 end
def uptoSmall : (H : Type) → List (DataW H) → Bool := fun _ ds => decide (uptoBulkAll ds ≤ 1048576)
def OpenSpec.upto (s : _root_.Go.ChangeSpec) : _root_.Go.OpenSpec := { _root_.Go.OpenSpec.ofChange s with cond := some uptoSmall }

/-- 'timbrelaw01.BitsTwo', WHERE WHAT IT READS IS OF BULK AT MOST 1048576: true; the input reads as it did. -/
def bitsTwoUptoRow : OpenClaim := { program := "ytabnahkheemnmaadoor", sum := "44acaca9eaa0a62dafeb8787f971cd5e34330f7b6fa7ede9d5d3889d3d0a4281", func := "timbre/timbrelaw01.BitsTwo", spec := "bitsTwo", inPlace := ["math.Float64bits", "math.Float64frombits", "math.archTrunc"], named := ["timbre/api.ErrNumber", "timbre/api.ErrShort", "timbre/api.ErrVarint", "timbre/api.ErrLimit", "timbre/api.ErrTail", "timbre/api.ErrRange", "timbre/api.ErrText", "timbre/api.ErrLength", "timbre/api.ErrOrder", "timbre/api.ErrProgram", "timbre/api.ErrState", "timbre/api.ErrRoot", "timbre/api.ErrPerm", "timbre/api.ErrWorkers", "timbre/api.ErrDone", "timbre/api.ErrUnknown", "timbre/api.ErrMode", "timbre/api.ErrCommand", "timbre/api.ErrExact"], apart := false, laid := [("timbre/api.ErrShort", laid_timbre_api_ErrShort), ("timbre/api.ErrVarint", laid_timbre_api_ErrVarint), ("timbre/api.ErrLimit", laid_timbre_api_ErrLimit), ("timbre/api.ErrTail", laid_timbre_api_ErrTail), ("timbre/api.ErrRange", laid_timbre_api_ErrRange), ("timbre/api.ErrText", laid_timbre_api_ErrText), ("timbre/api.ErrLength", laid_timbre_api_ErrLength), ("timbre/api.ErrOrder", laid_timbre_api_ErrOrder), ("timbre/api.ErrProgram", laid_timbre_api_ErrProgram), ("timbre/api.ErrState", laid_timbre_api_ErrState), ("timbre/api.ErrRoot", laid_timbre_api_ErrRoot), ("timbre/api.ErrPerm", laid_timbre_api_ErrPerm), ("timbre/api.ErrNumber", laid_timbre_api_ErrNumber), ("timbre/api.ErrWorkers", laid_timbre_api_ErrWorkers), ("timbre/api.ErrDone", laid_timbre_api_ErrDone), ("timbre/api.ErrUnknown", laid_timbre_api_ErrUnknown), ("timbre/api.ErrMode", laid_timbre_api_ErrMode), ("timbre/api.ErrCommand", laid_timbre_api_ErrCommand), ("timbre/api.ErrExact", laid_timbre_api_ErrExact)], narrowed := true }
def BitsTwoUptoSaid : Prop := bitsTwoUptoRow.holds Tryd.pinned (OpenSpec.upto bitsTwoSpec)

/-- 'timbrelaw01.BitsBack', WHERE WHAT IT READS IS OF BULK AT MOST 1048576: true; the input reads as it did. -/
def bitsBackUptoRow : OpenClaim := { program := "ytabnahkheemnmaadoor", sum := "44acaca9eaa0a62dafeb8787f971cd5e34330f7b6fa7ede9d5d3889d3d0a4281", func := "timbre/timbrelaw01.BitsBack", spec := "bitsBack", inPlace := ["math.Float64bits", "math.Float64frombits", "math.archTrunc"], named := ["timbre/api.ErrNumber"], apart := false, laid := [("timbre/api.ErrNumber", laid_timbre_api_ErrNumber)], narrowed := true }
def BitsBackUptoSaid : Prop := bitsBackUptoRow.holds Tryd.pinned (OpenSpec.upto bitsBackSpec)

/-- 'timbrelaw01.BitsSteps', WHERE WHAT IT READS IS OF BULK AT MOST 1048576: true; the input reads as it did. -/
def bitsStepsUptoRow : OpenClaim := { program := "ytabnahkheemnmaadoor", sum := "44acaca9eaa0a62dafeb8787f971cd5e34330f7b6fa7ede9d5d3889d3d0a4281", func := "timbre/timbrelaw01.BitsSteps", spec := "bitsSteps", inPlace := ["math.Float64bits", "math.Float64frombits", "math.archTrunc"], named := ["timbre/api.ErrNumber", "timbre/api.ErrShort", "timbre/api.ErrVarint", "timbre/api.ErrLimit", "timbre/api.ErrTail", "timbre/api.ErrRange", "timbre/api.ErrText", "timbre/api.ErrLength", "timbre/api.ErrOrder", "timbre/api.ErrProgram", "timbre/api.ErrState", "timbre/api.ErrRoot", "timbre/api.ErrPerm", "timbre/api.ErrWorkers", "timbre/api.ErrDone", "timbre/api.ErrUnknown", "timbre/api.ErrMode", "timbre/api.ErrCommand", "timbre/api.ErrExact"], apart := false, laid := [("timbre/api.ErrShort", laid_timbre_api_ErrShort), ("timbre/api.ErrVarint", laid_timbre_api_ErrVarint), ("timbre/api.ErrLimit", laid_timbre_api_ErrLimit), ("timbre/api.ErrTail", laid_timbre_api_ErrTail), ("timbre/api.ErrRange", laid_timbre_api_ErrRange), ("timbre/api.ErrText", laid_timbre_api_ErrText), ("timbre/api.ErrLength", laid_timbre_api_ErrLength), ("timbre/api.ErrOrder", laid_timbre_api_ErrOrder), ("timbre/api.ErrProgram", laid_timbre_api_ErrProgram), ("timbre/api.ErrState", laid_timbre_api_ErrState), ("timbre/api.ErrRoot", laid_timbre_api_ErrRoot), ("timbre/api.ErrPerm", laid_timbre_api_ErrPerm), ("timbre/api.ErrNumber", laid_timbre_api_ErrNumber), ("timbre/api.ErrWorkers", laid_timbre_api_ErrWorkers), ("timbre/api.ErrDone", laid_timbre_api_ErrDone), ("timbre/api.ErrUnknown", laid_timbre_api_ErrUnknown), ("timbre/api.ErrMode", laid_timbre_api_ErrMode), ("timbre/api.ErrCommand", laid_timbre_api_ErrCommand), ("timbre/api.ErrExact", laid_timbre_api_ErrExact)], narrowed := true }
def BitsStepsUptoSaid : Prop := bitsStepsUptoRow.holds Tryd.pinned (OpenSpec.upto bitsStepsSpec)

/-- 'timbrelaw01.BitsOrder', WHERE WHAT IT READS IS OF BULK AT MOST 1048576: true; the input reads as it did. -/
def bitsOrderUptoRow : OpenClaim := { program := "ytabnahkheemnmaadoor", sum := "44acaca9eaa0a62dafeb8787f971cd5e34330f7b6fa7ede9d5d3889d3d0a4281", func := "timbre/timbrelaw01.BitsOrder", spec := "bitsOrder", inPlace := ["math.Float64bits", "math.Float64frombits", "math.archTrunc"], named := ["timbre/api.ErrNumber"], apart := false, laid := [("timbre/api.ErrNumber", laid_timbre_api_ErrNumber)], narrowed := true }
def BitsOrderUptoSaid : Prop := bitsOrderUptoRow.holds Tryd.pinned (OpenSpec.upto bitsOrderSpec)

/-- 'timbrelaw01.BitsScales', WHERE WHAT IT READS IS OF BULK AT MOST 1048576: true; the input reads as it did. -/
def bitsScalesUptoRow : OpenClaim := { program := "ytabnahkheemnmaadoor", sum := "44acaca9eaa0a62dafeb8787f971cd5e34330f7b6fa7ede9d5d3889d3d0a4281", func := "timbre/timbrelaw01.BitsScales", spec := "bitsScales", inPlace := ["math.Float64bits", "math.Float64frombits", "math.archTrunc"], named := ["timbre/api.ErrNumber", "timbre/api.ErrShort", "timbre/api.ErrVarint", "timbre/api.ErrLimit", "timbre/api.ErrTail", "timbre/api.ErrRange", "timbre/api.ErrText", "timbre/api.ErrLength", "timbre/api.ErrOrder", "timbre/api.ErrProgram", "timbre/api.ErrState", "timbre/api.ErrRoot", "timbre/api.ErrPerm", "timbre/api.ErrWorkers", "timbre/api.ErrDone", "timbre/api.ErrUnknown", "timbre/api.ErrMode", "timbre/api.ErrCommand", "timbre/api.ErrExact"], apart := false, laid := [("timbre/api.ErrShort", laid_timbre_api_ErrShort), ("timbre/api.ErrVarint", laid_timbre_api_ErrVarint), ("timbre/api.ErrLimit", laid_timbre_api_ErrLimit), ("timbre/api.ErrTail", laid_timbre_api_ErrTail), ("timbre/api.ErrRange", laid_timbre_api_ErrRange), ("timbre/api.ErrText", laid_timbre_api_ErrText), ("timbre/api.ErrLength", laid_timbre_api_ErrLength), ("timbre/api.ErrOrder", laid_timbre_api_ErrOrder), ("timbre/api.ErrProgram", laid_timbre_api_ErrProgram), ("timbre/api.ErrState", laid_timbre_api_ErrState), ("timbre/api.ErrRoot", laid_timbre_api_ErrRoot), ("timbre/api.ErrPerm", laid_timbre_api_ErrPerm), ("timbre/api.ErrNumber", laid_timbre_api_ErrNumber), ("timbre/api.ErrWorkers", laid_timbre_api_ErrWorkers), ("timbre/api.ErrDone", laid_timbre_api_ErrDone), ("timbre/api.ErrUnknown", laid_timbre_api_ErrUnknown), ("timbre/api.ErrMode", laid_timbre_api_ErrMode), ("timbre/api.ErrCommand", laid_timbre_api_ErrCommand), ("timbre/api.ErrExact", laid_timbre_api_ErrExact)], narrowed := true }
def BitsScalesUptoSaid : Prop := bitsScalesUptoRow.holds Tryd.pinned (OpenSpec.upto bitsScalesSpec)

/-- 'timbrelaw01.BitsLists', WHERE WHAT IT READS IS OF BULK AT MOST 1048576: true; the input reads as it did. -/
def bitsListsUptoRow : OpenClaim := { program := "ytabnahkheemnmaadoor", sum := "44acaca9eaa0a62dafeb8787f971cd5e34330f7b6fa7ede9d5d3889d3d0a4281", func := "timbre/timbrelaw01.BitsLists", spec := "bitsLists", inPlace := ["math.Float64bits", "math.Float64frombits", "math.archTrunc"], named := ["timbre/api.ErrNumber"], apart := false, laid := [("timbre/api.ErrNumber", laid_timbre_api_ErrNumber)], narrowed := true }
def BitsListsUptoSaid : Prop := bitsListsUptoRow.holds Tryd.pinned (OpenSpec.upto bitsListsSpec)

/-- 'timbrelaw01.BitsOne', WHERE WHAT IT READS IS OF BULK AT MOST 1048576: true; the input reads as it did. -/
def bitsOneUptoRow : OpenClaim := { program := "ytabnahkheemnmaadoor", sum := "44acaca9eaa0a62dafeb8787f971cd5e34330f7b6fa7ede9d5d3889d3d0a4281", func := "timbre/timbrelaw01.BitsOne", spec := "bitsOne", inPlace := ["math.Float64bits", "math.Float64frombits", "math.archTrunc"], named := ["timbre/api.ErrNumber", "timbre/api.ErrShort", "timbre/api.ErrVarint", "timbre/api.ErrLimit", "timbre/api.ErrTail", "timbre/api.ErrRange", "timbre/api.ErrText", "timbre/api.ErrLength", "timbre/api.ErrOrder", "timbre/api.ErrProgram", "timbre/api.ErrState", "timbre/api.ErrRoot", "timbre/api.ErrPerm", "timbre/api.ErrWorkers", "timbre/api.ErrDone", "timbre/api.ErrUnknown", "timbre/api.ErrMode", "timbre/api.ErrCommand", "timbre/api.ErrExact"], apart := false, laid := [("timbre/api.ErrShort", laid_timbre_api_ErrShort), ("timbre/api.ErrVarint", laid_timbre_api_ErrVarint), ("timbre/api.ErrLimit", laid_timbre_api_ErrLimit), ("timbre/api.ErrTail", laid_timbre_api_ErrTail), ("timbre/api.ErrRange", laid_timbre_api_ErrRange), ("timbre/api.ErrText", laid_timbre_api_ErrText), ("timbre/api.ErrLength", laid_timbre_api_ErrLength), ("timbre/api.ErrOrder", laid_timbre_api_ErrOrder), ("timbre/api.ErrProgram", laid_timbre_api_ErrProgram), ("timbre/api.ErrState", laid_timbre_api_ErrState), ("timbre/api.ErrRoot", laid_timbre_api_ErrRoot), ("timbre/api.ErrPerm", laid_timbre_api_ErrPerm), ("timbre/api.ErrNumber", laid_timbre_api_ErrNumber), ("timbre/api.ErrWorkers", laid_timbre_api_ErrWorkers), ("timbre/api.ErrDone", laid_timbre_api_ErrDone), ("timbre/api.ErrUnknown", laid_timbre_api_ErrUnknown), ("timbre/api.ErrMode", laid_timbre_api_ErrMode), ("timbre/api.ErrCommand", laid_timbre_api_ErrCommand), ("timbre/api.ErrExact", laid_timbre_api_ErrExact)], narrowed := true }
def BitsOneUptoSaid : Prop := bitsOneUptoRow.holds Tryd.pinned (OpenSpec.upto bitsOneSpec)

end Rows
end Go.Proofs.YtabnahkheemnmaaDoor
