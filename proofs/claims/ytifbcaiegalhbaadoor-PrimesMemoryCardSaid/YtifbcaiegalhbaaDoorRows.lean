/-
  NARROWER THAN 'FOR EVERY INPUT', by the rows' own cells (each row's printed sentence says how): PrimesModulo: laid · PrimesGcd: laid · PrimesPowers: laid · PrimesRoots: laid · PrimesSmooths: laid · PrimesWholes: laid · PrimesFactors: laid · PrimesMemory: laid.
  DERIVED. THE GIVEN ROWS OF THIS SEAT. 8 by the template 'for every input the law returns true; each argument reads behind the call as it read before'; 0 by the template 'total and deterministic' (their statements: YtifbcaiegalhbaaDoorTotals.lean).
  GIVEN WITH THE SEED: the statements are not yours to turn. If you find one false, say at which input.
  Laid BY PROGRAM, IN A SANDBOX (cutbox-rows.mjs): the forced cells as the released guide's own fill.sh prints them over the translation 8a27d35482b5adfb… (all of the seat's roots in one cut). By AI agents, Wed Nov 11 2026. No macro, syntax, notation, axiom, sorry.
-/
import Derived.Test.YtifbcaiegalhbaaDoorChecked
import GoSem.Claim
import GoSem.ClaimJoined
import GoSem.ClaimMapViews
import Derived.JoinedTies
import Derived.KernelRfl
namespace Go.Proofs.YtifbcaiegalhbaaDoor
/- THE CELL 'sum', in the pinned program and in every row, IS THE sha256 OF THE DUMP (.gsa) THAT YtifbcaiegalhbaaDoorProg.lean LOADS. Nothing in Lean hashes anything: it is a label: what it is worth is what the hold of that sum in a sandbox is worth. -/
noncomputable def Tryd.pinned : Pinned := { name := "ytifbcaiegalhbaadoor", sum := "8a27d35482b5adfba89cf1a294f500821f678205926c8207115fb3bf57bd8740", checked := Tryd.checked }
namespace Rows
def none {H : Type} : Left H := { results := [], args := [] }

/- WHAT THE LISTED PACKAGE-LEVEL VARIABLES READ AS WHEN THE CALL BEGINS. Each datum BY PROGRAM (the guide's laid-datum.mjs) off the statement by which the dump's own 'gosem.cut.vars' lays the variable. In a bare row this is a premise. The card (YtifbcaiegalhbaaDoorCards.lean) ties it to the program's text. -/
def laid_timbre_api_ErrShort {H : Type} : DataW H := .iface "*errors.errorString" (.ptr (.agg [.lit (.string [116, 105, 109, 98, 114, 101, 58, 32, 116, 111, 111, 32, 115, 104, 111, 114, 116])]))
def laid_timbre_api_ErrVarint {H : Type} : DataW H := .iface "*errors.errorString" (.ptr (.agg [.lit (.string [116, 105, 109, 98, 114, 101, 58, 32, 118, 97, 114, 105, 110, 116])]))
def laid_timbre_api_ErrLimit {H : Type} : DataW H := .iface "*errors.errorString" (.ptr (.agg [.lit (.string [116, 105, 109, 98, 114, 101, 58, 32, 108, 105, 109, 105, 116])]))
def laid_timbre_api_ErrTail {H : Type} : DataW H := .iface "*errors.errorString" (.ptr (.agg [.lit (.string [116, 105, 109, 98, 114, 101, 58, 32, 116, 97, 105, 108])]))
def laid_timbre_api_ErrRange {H : Type} : DataW H := .iface "*errors.errorString" (.ptr (.agg [.lit (.string [116, 105, 109, 98, 114, 101, 58, 32, 114, 97, 110, 103, 101])]))
def laid_timbre_api_ErrText {H : Type} : DataW H := .iface "*errors.errorString" (.ptr (.agg [.lit (.string [116, 105, 109, 98, 114, 101, 58, 32, 116, 101, 120, 116])]))
def laid_timbre_api_ErrLength {H : Type} : DataW H := .iface "*errors.errorString" (.ptr (.agg [.lit (.string [116, 105, 109, 98, 114, 101, 58, 32, 108, 101, 110, 103, 116, 104])]))
def laid_timbre_api_ErrOrder {H : Type} : DataW H := .iface "*errors.errorString" (.ptr (.agg [.lit (.string [116, 105, 109, 98, 114, 101, 58, 32, 111, 114, 100, 101, 114])]))
def laid_timbre_api_ErrProgram {H : Type} : DataW H := .iface "*errors.errorString" (.ptr (.agg [.lit (.string [116, 105, 109, 98, 114, 101, 58, 32, 112, 114, 111, 103, 114, 97, 109])]))
def laid_timbre_api_ErrState {H : Type} : DataW H := .iface "*errors.errorString" (.ptr (.agg [.lit (.string [116, 105, 109, 98, 114, 101, 58, 32, 115, 116, 97, 116, 101])]))
def laid_timbre_api_ErrRoot {H : Type} : DataW H := .iface "*errors.errorString" (.ptr (.agg [.lit (.string [116, 105, 109, 98, 114, 101, 58, 32, 114, 111, 111, 116])]))
def laid_timbre_api_ErrPerm {H : Type} : DataW H := .iface "*errors.errorString" (.ptr (.agg [.lit (.string [116, 105, 109, 98, 114, 101, 58, 32, 112, 101, 114, 109, 117, 116, 97, 116, 105, 111, 110])]))
def laid_timbre_api_ErrNumber {H : Type} : DataW H := .iface "*errors.errorString" (.ptr (.agg [.lit (.string [116, 105, 109, 98, 114, 101, 58, 32, 110, 117, 109, 98, 101, 114])]))
def laid_timbre_api_ErrWorkers {H : Type} : DataW H := .iface "*errors.errorString" (.ptr (.agg [.lit (.string [116, 105, 109, 98, 114, 101, 58, 32, 119, 111, 114, 107, 101, 114, 115])]))
def laid_timbre_api_ErrDone {H : Type} : DataW H := .iface "*errors.errorString" (.ptr (.agg [.lit (.string [116, 105, 109, 98, 114, 101, 58, 32, 100, 111, 110, 101])]))
def laid_timbre_api_ErrUnknown {H : Type} : DataW H := .iface "*errors.errorString" (.ptr (.agg [.lit (.string [116, 105, 109, 98, 114, 101, 58, 32, 117, 110, 107, 110, 111, 119, 110])]))
def laid_timbre_api_ErrMode {H : Type} : DataW H := .iface "*errors.errorString" (.ptr (.agg [.lit (.string [116, 105, 109, 98, 114, 101, 58, 32, 109, 111, 100, 101])]))
def laid_timbre_api_ErrCommand {H : Type} : DataW H := .iface "*errors.errorString" (.ptr (.agg [.lit (.string [116, 105, 109, 98, 114, 101, 58, 32, 99, 111, 109, 109, 97, 110, 100])]))
def laid_timbre_api_ErrExact {H : Type} : DataW H := .iface "*errors.errorString" (.ptr (.agg [.lit (.string [116, 105, 109, 98, 114, 101, 58, 32, 101, 120, 97, 99, 116])]))

/-- 'timbrelaw05.PrimesModulo': WHATEVER THE INPUT: true; the input reads as it did. -/
def primesModuloSpec : ChangeSpec := { name := "primesModulo", fn := fun _ => fun
  | [d1, d2, d3, d4] => { results := [.lit (.bool true)], args := [d1, d2, d3, d4] }
  | _ => none }
def primesModuloRow : OpenClaim := { program := "ytifbcaiegalhbaadoor", sum := "8a27d35482b5adfba89cf1a294f500821f678205926c8207115fb3bf57bd8740", func := "timbre/timbrelaw05.PrimesModulo", spec := "primesModulo", named := ["timbre/api.ErrRoot", "math/bits.divideError", "math/bits.overflowError", "timbre/api.ErrRange", "timbre/api.ErrShort", "timbre/api.ErrVarint", "timbre/api.ErrLimit", "timbre/api.ErrTail", "timbre/api.ErrText", "timbre/api.ErrLength", "timbre/api.ErrOrder", "timbre/api.ErrProgram", "timbre/api.ErrState", "timbre/api.ErrPerm", "timbre/api.ErrNumber", "timbre/api.ErrWorkers", "timbre/api.ErrDone", "timbre/api.ErrUnknown", "timbre/api.ErrMode", "timbre/api.ErrCommand", "timbre/api.ErrExact"], apart := false, laid := [("timbre/api.ErrShort", laid_timbre_api_ErrShort), ("timbre/api.ErrVarint", laid_timbre_api_ErrVarint), ("timbre/api.ErrLimit", laid_timbre_api_ErrLimit), ("timbre/api.ErrTail", laid_timbre_api_ErrTail), ("timbre/api.ErrRange", laid_timbre_api_ErrRange), ("timbre/api.ErrText", laid_timbre_api_ErrText), ("timbre/api.ErrLength", laid_timbre_api_ErrLength), ("timbre/api.ErrOrder", laid_timbre_api_ErrOrder), ("timbre/api.ErrProgram", laid_timbre_api_ErrProgram), ("timbre/api.ErrState", laid_timbre_api_ErrState), ("timbre/api.ErrRoot", laid_timbre_api_ErrRoot), ("timbre/api.ErrPerm", laid_timbre_api_ErrPerm), ("timbre/api.ErrNumber", laid_timbre_api_ErrNumber), ("timbre/api.ErrWorkers", laid_timbre_api_ErrWorkers), ("timbre/api.ErrDone", laid_timbre_api_ErrDone), ("timbre/api.ErrUnknown", laid_timbre_api_ErrUnknown), ("timbre/api.ErrMode", laid_timbre_api_ErrMode), ("timbre/api.ErrCommand", laid_timbre_api_ErrCommand), ("timbre/api.ErrExact", laid_timbre_api_ErrExact)] }
def PrimesModuloSaid : Prop := primesModuloRow.holds Tryd.pinned (OpenSpec.ofChange primesModuloSpec)

/-- ITS FALSE NEIGHBOUR: 'it returns false'. Refute it at one input. -/
def primesModuloWrong : ChangeSpec := { name := "primesModulo", fn := fun _ => fun
  | [d1, d2, d3, d4] => { results := [.lit (.bool false)], args := [d1, d2, d3, d4] }
  | _ => none }
def PrimesModuloWrongFalsely : Prop := primesModuloRow.holds Tryd.pinned (OpenSpec.ofChange primesModuloWrong)

/-- 'timbrelaw05.PrimesGcd': WHATEVER THE INPUT: true; the input reads as it did. -/
def primesGcdSpec : ChangeSpec := { name := "primesGcd", fn := fun _ => fun
  | [d1, d2, d3] => { results := [.lit (.bool true)], args := [d1, d2, d3] }
  | _ => none }
def primesGcdRow : OpenClaim := { program := "ytifbcaiegalhbaadoor", sum := "8a27d35482b5adfba89cf1a294f500821f678205926c8207115fb3bf57bd8740", func := "timbre/timbrelaw05.PrimesGcd", spec := "primesGcd", named := ["timbre/api.ErrRoot", "math/bits.divideError", "math/bits.overflowError", "timbre/api.ErrRange"], apart := false, laid := [("timbre/api.ErrRange", laid_timbre_api_ErrRange), ("timbre/api.ErrRoot", laid_timbre_api_ErrRoot)] }
def PrimesGcdSaid : Prop := primesGcdRow.holds Tryd.pinned (OpenSpec.ofChange primesGcdSpec)

/-- ITS FALSE NEIGHBOUR: 'it returns false'. Refute it at one input. -/
def primesGcdWrong : ChangeSpec := { name := "primesGcd", fn := fun _ => fun
  | [d1, d2, d3] => { results := [.lit (.bool false)], args := [d1, d2, d3] }
  | _ => none }
def PrimesGcdWrongFalsely : Prop := primesGcdRow.holds Tryd.pinned (OpenSpec.ofChange primesGcdWrong)

/-- 'timbrelaw05.PrimesPowers': WHATEVER THE INPUT: true; the input reads as it did. -/
def primesPowersSpec : ChangeSpec := { name := "primesPowers", fn := fun _ => fun
  | [d1, d2, d3, d4, d5] => { results := [.lit (.bool true)], args := [d1, d2, d3, d4, d5] }
  | _ => none }
def primesPowersRow : OpenClaim := { program := "ytifbcaiegalhbaadoor", sum := "8a27d35482b5adfba89cf1a294f500821f678205926c8207115fb3bf57bd8740", func := "timbre/timbrelaw05.PrimesPowers", spec := "primesPowers", named := ["timbre/api.ErrRoot", "math/bits.divideError", "math/bits.overflowError", "timbre/api.ErrRange"], apart := false, laid := [("timbre/api.ErrRange", laid_timbre_api_ErrRange), ("timbre/api.ErrRoot", laid_timbre_api_ErrRoot)] }
def PrimesPowersSaid : Prop := primesPowersRow.holds Tryd.pinned (OpenSpec.ofChange primesPowersSpec)

/-- ITS FALSE NEIGHBOUR: 'it returns false'. Refute it at one input. -/
def primesPowersWrong : ChangeSpec := { name := "primesPowers", fn := fun _ => fun
  | [d1, d2, d3, d4, d5] => { results := [.lit (.bool false)], args := [d1, d2, d3, d4, d5] }
  | _ => none }
def PrimesPowersWrongFalsely : Prop := primesPowersRow.holds Tryd.pinned (OpenSpec.ofChange primesPowersWrong)

/-- 'timbrelaw05.PrimesRoots': WHATEVER THE INPUT: true; the input reads as it did. -/
def primesRootsSpec : ChangeSpec := { name := "primesRoots", fn := fun _ => fun
  | [d] => { results := [.lit (.bool true)], args := [d] }
  | _ => none }
def primesRootsRow : OpenClaim := { program := "ytifbcaiegalhbaadoor", sum := "8a27d35482b5adfba89cf1a294f500821f678205926c8207115fb3bf57bd8740", func := "timbre/timbrelaw05.PrimesRoots", spec := "primesRoots", named := ["timbre/api.ErrRoot", "math/bits.divideError", "math/bits.overflowError", "timbre/api.ErrRange", "timbre/api.ErrShort", "timbre/api.ErrVarint", "timbre/api.ErrLimit", "timbre/api.ErrTail", "timbre/api.ErrText", "timbre/api.ErrLength", "timbre/api.ErrOrder", "timbre/api.ErrProgram", "timbre/api.ErrState", "timbre/api.ErrPerm", "timbre/api.ErrNumber", "timbre/api.ErrWorkers", "timbre/api.ErrDone", "timbre/api.ErrUnknown", "timbre/api.ErrMode", "timbre/api.ErrCommand", "timbre/api.ErrExact"], apart := false, laid := [("timbre/api.ErrShort", laid_timbre_api_ErrShort), ("timbre/api.ErrVarint", laid_timbre_api_ErrVarint), ("timbre/api.ErrLimit", laid_timbre_api_ErrLimit), ("timbre/api.ErrTail", laid_timbre_api_ErrTail), ("timbre/api.ErrRange", laid_timbre_api_ErrRange), ("timbre/api.ErrText", laid_timbre_api_ErrText), ("timbre/api.ErrLength", laid_timbre_api_ErrLength), ("timbre/api.ErrOrder", laid_timbre_api_ErrOrder), ("timbre/api.ErrProgram", laid_timbre_api_ErrProgram), ("timbre/api.ErrState", laid_timbre_api_ErrState), ("timbre/api.ErrRoot", laid_timbre_api_ErrRoot), ("timbre/api.ErrPerm", laid_timbre_api_ErrPerm), ("timbre/api.ErrNumber", laid_timbre_api_ErrNumber), ("timbre/api.ErrWorkers", laid_timbre_api_ErrWorkers), ("timbre/api.ErrDone", laid_timbre_api_ErrDone), ("timbre/api.ErrUnknown", laid_timbre_api_ErrUnknown), ("timbre/api.ErrMode", laid_timbre_api_ErrMode), ("timbre/api.ErrCommand", laid_timbre_api_ErrCommand), ("timbre/api.ErrExact", laid_timbre_api_ErrExact)] }
def PrimesRootsSaid : Prop := primesRootsRow.holds Tryd.pinned (OpenSpec.ofChange primesRootsSpec)

/-- ITS FALSE NEIGHBOUR: 'it returns false'. Refute it at one input. -/
def primesRootsWrong : ChangeSpec := { name := "primesRoots", fn := fun _ => fun
  | [d] => { results := [.lit (.bool false)], args := [d] }
  | _ => none }
def PrimesRootsWrongFalsely : Prop := primesRootsRow.holds Tryd.pinned (OpenSpec.ofChange primesRootsWrong)

/-- 'timbrelaw05.PrimesSmooths': WHATEVER THE INPUT: true; the input reads as it did. -/
def primesSmoothsSpec : ChangeSpec := { name := "primesSmooths", fn := fun _ => fun
  | [d1, d2] => { results := [.lit (.bool true)], args := [d1, d2] }
  | _ => none }
def primesSmoothsRow : OpenClaim := { program := "ytifbcaiegalhbaadoor", sum := "8a27d35482b5adfba89cf1a294f500821f678205926c8207115fb3bf57bd8740", func := "timbre/timbrelaw05.PrimesSmooths", spec := "primesSmooths", named := ["timbre/api.ErrRoot", "math/bits.divideError", "math/bits.overflowError", "timbre/api.ErrRange", "timbre/api.ErrShort", "timbre/api.ErrVarint", "timbre/api.ErrLimit", "timbre/api.ErrTail", "timbre/api.ErrText", "timbre/api.ErrLength", "timbre/api.ErrOrder", "timbre/api.ErrProgram", "timbre/api.ErrState", "timbre/api.ErrPerm", "timbre/api.ErrNumber", "timbre/api.ErrWorkers", "timbre/api.ErrDone", "timbre/api.ErrUnknown", "timbre/api.ErrMode", "timbre/api.ErrCommand", "timbre/api.ErrExact"], apart := false, laid := [("timbre/api.ErrShort", laid_timbre_api_ErrShort), ("timbre/api.ErrVarint", laid_timbre_api_ErrVarint), ("timbre/api.ErrLimit", laid_timbre_api_ErrLimit), ("timbre/api.ErrTail", laid_timbre_api_ErrTail), ("timbre/api.ErrRange", laid_timbre_api_ErrRange), ("timbre/api.ErrText", laid_timbre_api_ErrText), ("timbre/api.ErrLength", laid_timbre_api_ErrLength), ("timbre/api.ErrOrder", laid_timbre_api_ErrOrder), ("timbre/api.ErrProgram", laid_timbre_api_ErrProgram), ("timbre/api.ErrState", laid_timbre_api_ErrState), ("timbre/api.ErrRoot", laid_timbre_api_ErrRoot), ("timbre/api.ErrPerm", laid_timbre_api_ErrPerm), ("timbre/api.ErrNumber", laid_timbre_api_ErrNumber), ("timbre/api.ErrWorkers", laid_timbre_api_ErrWorkers), ("timbre/api.ErrDone", laid_timbre_api_ErrDone), ("timbre/api.ErrUnknown", laid_timbre_api_ErrUnknown), ("timbre/api.ErrMode", laid_timbre_api_ErrMode), ("timbre/api.ErrCommand", laid_timbre_api_ErrCommand), ("timbre/api.ErrExact", laid_timbre_api_ErrExact)] }
def PrimesSmoothsSaid : Prop := primesSmoothsRow.holds Tryd.pinned (OpenSpec.ofChange primesSmoothsSpec)

/-- ITS FALSE NEIGHBOUR: 'it returns false'. Refute it at one input. -/
def primesSmoothsWrong : ChangeSpec := { name := "primesSmooths", fn := fun _ => fun
  | [d1, d2] => { results := [.lit (.bool false)], args := [d1, d2] }
  | _ => none }
def PrimesSmoothsWrongFalsely : Prop := primesSmoothsRow.holds Tryd.pinned (OpenSpec.ofChange primesSmoothsWrong)

/-- 'timbrelaw05.PrimesWholes': WHATEVER THE INPUT: true; the input reads as it did. -/
def primesWholesSpec : ChangeSpec := { name := "primesWholes", fn := fun _ => fun
  | [d1, d2] => { results := [.lit (.bool true)], args := [d1, d2] }
  | _ => none }
def primesWholesRow : OpenClaim := { program := "ytifbcaiegalhbaadoor", sum := "8a27d35482b5adfba89cf1a294f500821f678205926c8207115fb3bf57bd8740", func := "timbre/timbrelaw05.PrimesWholes", spec := "primesWholes", unfollowed := true, recurses := true, named := ["timbre/api.ErrRoot", "math/bits.divideError", "math/bits.overflowError", "timbre/api.ErrRange", "timbre/api.ErrShort", "timbre/api.ErrVarint", "timbre/api.ErrLimit", "timbre/api.ErrTail", "timbre/api.ErrText", "timbre/api.ErrLength", "timbre/api.ErrOrder", "timbre/api.ErrProgram", "timbre/api.ErrState", "timbre/api.ErrPerm", "timbre/api.ErrNumber", "timbre/api.ErrWorkers", "timbre/api.ErrDone", "timbre/api.ErrUnknown", "timbre/api.ErrMode", "timbre/api.ErrCommand", "timbre/api.ErrExact"], apart := false, laid := [("timbre/api.ErrShort", laid_timbre_api_ErrShort), ("timbre/api.ErrVarint", laid_timbre_api_ErrVarint), ("timbre/api.ErrLimit", laid_timbre_api_ErrLimit), ("timbre/api.ErrTail", laid_timbre_api_ErrTail), ("timbre/api.ErrRange", laid_timbre_api_ErrRange), ("timbre/api.ErrText", laid_timbre_api_ErrText), ("timbre/api.ErrLength", laid_timbre_api_ErrLength), ("timbre/api.ErrOrder", laid_timbre_api_ErrOrder), ("timbre/api.ErrProgram", laid_timbre_api_ErrProgram), ("timbre/api.ErrState", laid_timbre_api_ErrState), ("timbre/api.ErrRoot", laid_timbre_api_ErrRoot), ("timbre/api.ErrPerm", laid_timbre_api_ErrPerm), ("timbre/api.ErrNumber", laid_timbre_api_ErrNumber), ("timbre/api.ErrWorkers", laid_timbre_api_ErrWorkers), ("timbre/api.ErrDone", laid_timbre_api_ErrDone), ("timbre/api.ErrUnknown", laid_timbre_api_ErrUnknown), ("timbre/api.ErrMode", laid_timbre_api_ErrMode), ("timbre/api.ErrCommand", laid_timbre_api_ErrCommand), ("timbre/api.ErrExact", laid_timbre_api_ErrExact)] }
def PrimesWholesSaid : Prop := primesWholesRow.holds Tryd.pinned (OpenSpec.ofChange primesWholesSpec)

/-- ITS FALSE NEIGHBOUR: 'it returns false'. Refute it at one input. -/
def primesWholesWrong : ChangeSpec := { name := "primesWholes", fn := fun _ => fun
  | [d1, d2] => { results := [.lit (.bool false)], args := [d1, d2] }
  | _ => none }
def PrimesWholesWrongFalsely : Prop := primesWholesRow.holds Tryd.pinned (OpenSpec.ofChange primesWholesWrong)

/-- 'timbrelaw05.PrimesFactors': WHATEVER THE INPUT: true; the input reads as it did. -/
def primesFactorsSpec : ChangeSpec := { name := "primesFactors", fn := fun _ => fun
  | [d] => { results := [.lit (.bool true)], args := [d] }
  | _ => none }
def primesFactorsRow : OpenClaim := { program := "ytifbcaiegalhbaadoor", sum := "8a27d35482b5adfba89cf1a294f500821f678205926c8207115fb3bf57bd8740", func := "timbre/timbrelaw05.PrimesFactors", spec := "primesFactors", unfollowed := true, recurses := true, named := ["timbre/api.ErrRoot", "math/bits.divideError", "math/bits.overflowError", "timbre/api.ErrRange"], apart := false, laid := [("timbre/api.ErrRange", laid_timbre_api_ErrRange), ("timbre/api.ErrRoot", laid_timbre_api_ErrRoot)] }
def PrimesFactorsSaid : Prop := primesFactorsRow.holds Tryd.pinned (OpenSpec.ofChange primesFactorsSpec)

/-- ITS FALSE NEIGHBOUR: 'it returns false'. Refute it at one input. -/
def primesFactorsWrong : ChangeSpec := { name := "primesFactors", fn := fun _ => fun
  | [d] => { results := [.lit (.bool false)], args := [d] }
  | _ => none }
def PrimesFactorsWrongFalsely : Prop := primesFactorsRow.holds Tryd.pinned (OpenSpec.ofChange primesFactorsWrong)

/-- 'timbrelaw05.PrimesMemory': WHATEVER THE INPUT: true; the input reads as it did. -/
def primesMemorySpec : ChangeSpec := { name := "primesMemory", fn := fun _ => fun
  | [d1, d2] => { results := [.lit (.bool true)], args := [d1, d2] }
  | _ => none }
def primesMemoryRow : OpenClaim := { program := "ytifbcaiegalhbaadoor", sum := "8a27d35482b5adfba89cf1a294f500821f678205926c8207115fb3bf57bd8740", func := "timbre/timbrelaw05.PrimesMemory", spec := "primesMemory", unfollowed := true, recurses := true, named := ["timbre/api.ErrRoot", "math/bits.divideError", "math/bits.overflowError", "timbre/api.ErrRange"], apart := false, laid := [("timbre/api.ErrRange", laid_timbre_api_ErrRange), ("timbre/api.ErrRoot", laid_timbre_api_ErrRoot)] }
def PrimesMemorySaid : Prop := primesMemoryRow.holds Tryd.pinned (OpenSpec.ofChange primesMemorySpec)

/-- ITS FALSE NEIGHBOUR: 'it returns false'. Refute it at one input. -/
def primesMemoryWrong : ChangeSpec := { name := "primesMemory", fn := fun _ => fun
  | [d1, d2] => { results := [.lit (.bool false)], args := [d1, d2] }
  | _ => none }
def PrimesMemoryWrongFalsely : Prop := primesMemoryRow.holds Tryd.pinned (OpenSpec.ofChange primesMemoryWrong)

/- THE SECOND FORM. 'bulk': how many values and letters a reading holds, each counted each time it is reached (what is shared counts as often as it is met; a slice's spare places count too). A statement '..UptoSaid' is the law's where the arguments, and the package variables that the reading takes, are together of bulk at most 1048576: NARROWER than '..Said'. Prove '..Said' where nothing that the law and all that it calls make is longer than what came in: it says more and counts as full. Else prove '..UptoSaid'. A law counts once. -/
mutual
def uptoBulk {H : Type} : DataW H → Nat
  | .lit (.string bytes) => bytes.length + 1
  | .lit _ => 1
  | .nil => 1
  | .ptr d => uptoBulk d + 1
  | .slice elems spare => uptoBulkAll elems + uptoBulkAll spare + 1
  | .agg parts => uptoBulkAll parts + 1
  | .iface _ d => uptoBulk d + 1
  | .map entries => uptoBulkEntries entries + 1
  | .held _ => 1
def uptoBulkAll {H : Type} : List (DataW H) → Nat
  | [] => 0
  | d :: r => uptoBulk d + uptoBulkAll r
def uptoBulkEntries {H : Type} : List (Lit × DataW H) → Nat
  | [] => 0
  | x :: r => uptoBulkEntry x + uptoBulkEntries r
def uptoBulkEntry {H : Type} : Lit × DataW H → Nat
  | (.string bytes, d) => bytes.length + uptoBulk d + 1
  | (_, d) => uptoBulk d + 1
 end
def uptoSmall : (H : Type) → List (DataW H) → Bool := fun _ ds => decide (uptoBulkAll ds ≤ 1048576)
def OpenSpec.upto (s : _root_.Go.ChangeSpec) : _root_.Go.OpenSpec := { _root_.Go.OpenSpec.ofChange s with cond := some uptoSmall }

/-- 'timbrelaw05.PrimesModulo', WHERE WHAT IT READS IS OF BULK AT MOST 1048576: true; the input reads as it did. -/
def primesModuloUptoRow : OpenClaim := { program := "ytifbcaiegalhbaadoor", sum := "8a27d35482b5adfba89cf1a294f500821f678205926c8207115fb3bf57bd8740", func := "timbre/timbrelaw05.PrimesModulo", spec := "primesModulo", named := ["timbre/api.ErrRoot", "math/bits.divideError", "math/bits.overflowError", "timbre/api.ErrRange", "timbre/api.ErrShort", "timbre/api.ErrVarint", "timbre/api.ErrLimit", "timbre/api.ErrTail", "timbre/api.ErrText", "timbre/api.ErrLength", "timbre/api.ErrOrder", "timbre/api.ErrProgram", "timbre/api.ErrState", "timbre/api.ErrPerm", "timbre/api.ErrNumber", "timbre/api.ErrWorkers", "timbre/api.ErrDone", "timbre/api.ErrUnknown", "timbre/api.ErrMode", "timbre/api.ErrCommand", "timbre/api.ErrExact"], apart := false, laid := [("timbre/api.ErrShort", laid_timbre_api_ErrShort), ("timbre/api.ErrVarint", laid_timbre_api_ErrVarint), ("timbre/api.ErrLimit", laid_timbre_api_ErrLimit), ("timbre/api.ErrTail", laid_timbre_api_ErrTail), ("timbre/api.ErrRange", laid_timbre_api_ErrRange), ("timbre/api.ErrText", laid_timbre_api_ErrText), ("timbre/api.ErrLength", laid_timbre_api_ErrLength), ("timbre/api.ErrOrder", laid_timbre_api_ErrOrder), ("timbre/api.ErrProgram", laid_timbre_api_ErrProgram), ("timbre/api.ErrState", laid_timbre_api_ErrState), ("timbre/api.ErrRoot", laid_timbre_api_ErrRoot), ("timbre/api.ErrPerm", laid_timbre_api_ErrPerm), ("timbre/api.ErrNumber", laid_timbre_api_ErrNumber), ("timbre/api.ErrWorkers", laid_timbre_api_ErrWorkers), ("timbre/api.ErrDone", laid_timbre_api_ErrDone), ("timbre/api.ErrUnknown", laid_timbre_api_ErrUnknown), ("timbre/api.ErrMode", laid_timbre_api_ErrMode), ("timbre/api.ErrCommand", laid_timbre_api_ErrCommand), ("timbre/api.ErrExact", laid_timbre_api_ErrExact)], narrowed := true }
def PrimesModuloUptoSaid : Prop := primesModuloUptoRow.holds Tryd.pinned (OpenSpec.upto primesModuloSpec)

/-- 'timbrelaw05.PrimesGcd', WHERE WHAT IT READS IS OF BULK AT MOST 1048576: true; the input reads as it did. -/
def primesGcdUptoRow : OpenClaim := { program := "ytifbcaiegalhbaadoor", sum := "8a27d35482b5adfba89cf1a294f500821f678205926c8207115fb3bf57bd8740", func := "timbre/timbrelaw05.PrimesGcd", spec := "primesGcd", named := ["timbre/api.ErrRoot", "math/bits.divideError", "math/bits.overflowError", "timbre/api.ErrRange"], apart := false, laid := [("timbre/api.ErrRange", laid_timbre_api_ErrRange), ("timbre/api.ErrRoot", laid_timbre_api_ErrRoot)], narrowed := true }
def PrimesGcdUptoSaid : Prop := primesGcdUptoRow.holds Tryd.pinned (OpenSpec.upto primesGcdSpec)

/-- 'timbrelaw05.PrimesPowers', WHERE WHAT IT READS IS OF BULK AT MOST 1048576: true; the input reads as it did. -/
def primesPowersUptoRow : OpenClaim := { program := "ytifbcaiegalhbaadoor", sum := "8a27d35482b5adfba89cf1a294f500821f678205926c8207115fb3bf57bd8740", func := "timbre/timbrelaw05.PrimesPowers", spec := "primesPowers", named := ["timbre/api.ErrRoot", "math/bits.divideError", "math/bits.overflowError", "timbre/api.ErrRange"], apart := false, laid := [("timbre/api.ErrRange", laid_timbre_api_ErrRange), ("timbre/api.ErrRoot", laid_timbre_api_ErrRoot)], narrowed := true }
def PrimesPowersUptoSaid : Prop := primesPowersUptoRow.holds Tryd.pinned (OpenSpec.upto primesPowersSpec)

/-- 'timbrelaw05.PrimesRoots', WHERE WHAT IT READS IS OF BULK AT MOST 1048576: true; the input reads as it did. -/
def primesRootsUptoRow : OpenClaim := { program := "ytifbcaiegalhbaadoor", sum := "8a27d35482b5adfba89cf1a294f500821f678205926c8207115fb3bf57bd8740", func := "timbre/timbrelaw05.PrimesRoots", spec := "primesRoots", named := ["timbre/api.ErrRoot", "math/bits.divideError", "math/bits.overflowError", "timbre/api.ErrRange", "timbre/api.ErrShort", "timbre/api.ErrVarint", "timbre/api.ErrLimit", "timbre/api.ErrTail", "timbre/api.ErrText", "timbre/api.ErrLength", "timbre/api.ErrOrder", "timbre/api.ErrProgram", "timbre/api.ErrState", "timbre/api.ErrPerm", "timbre/api.ErrNumber", "timbre/api.ErrWorkers", "timbre/api.ErrDone", "timbre/api.ErrUnknown", "timbre/api.ErrMode", "timbre/api.ErrCommand", "timbre/api.ErrExact"], apart := false, laid := [("timbre/api.ErrShort", laid_timbre_api_ErrShort), ("timbre/api.ErrVarint", laid_timbre_api_ErrVarint), ("timbre/api.ErrLimit", laid_timbre_api_ErrLimit), ("timbre/api.ErrTail", laid_timbre_api_ErrTail), ("timbre/api.ErrRange", laid_timbre_api_ErrRange), ("timbre/api.ErrText", laid_timbre_api_ErrText), ("timbre/api.ErrLength", laid_timbre_api_ErrLength), ("timbre/api.ErrOrder", laid_timbre_api_ErrOrder), ("timbre/api.ErrProgram", laid_timbre_api_ErrProgram), ("timbre/api.ErrState", laid_timbre_api_ErrState), ("timbre/api.ErrRoot", laid_timbre_api_ErrRoot), ("timbre/api.ErrPerm", laid_timbre_api_ErrPerm), ("timbre/api.ErrNumber", laid_timbre_api_ErrNumber), ("timbre/api.ErrWorkers", laid_timbre_api_ErrWorkers), ("timbre/api.ErrDone", laid_timbre_api_ErrDone), ("timbre/api.ErrUnknown", laid_timbre_api_ErrUnknown), ("timbre/api.ErrMode", laid_timbre_api_ErrMode), ("timbre/api.ErrCommand", laid_timbre_api_ErrCommand), ("timbre/api.ErrExact", laid_timbre_api_ErrExact)], narrowed := true }
def PrimesRootsUptoSaid : Prop := primesRootsUptoRow.holds Tryd.pinned (OpenSpec.upto primesRootsSpec)

/-- 'timbrelaw05.PrimesSmooths', WHERE WHAT IT READS IS OF BULK AT MOST 1048576: true; the input reads as it did. -/
def primesSmoothsUptoRow : OpenClaim := { program := "ytifbcaiegalhbaadoor", sum := "8a27d35482b5adfba89cf1a294f500821f678205926c8207115fb3bf57bd8740", func := "timbre/timbrelaw05.PrimesSmooths", spec := "primesSmooths", named := ["timbre/api.ErrRoot", "math/bits.divideError", "math/bits.overflowError", "timbre/api.ErrRange", "timbre/api.ErrShort", "timbre/api.ErrVarint", "timbre/api.ErrLimit", "timbre/api.ErrTail", "timbre/api.ErrText", "timbre/api.ErrLength", "timbre/api.ErrOrder", "timbre/api.ErrProgram", "timbre/api.ErrState", "timbre/api.ErrPerm", "timbre/api.ErrNumber", "timbre/api.ErrWorkers", "timbre/api.ErrDone", "timbre/api.ErrUnknown", "timbre/api.ErrMode", "timbre/api.ErrCommand", "timbre/api.ErrExact"], apart := false, laid := [("timbre/api.ErrShort", laid_timbre_api_ErrShort), ("timbre/api.ErrVarint", laid_timbre_api_ErrVarint), ("timbre/api.ErrLimit", laid_timbre_api_ErrLimit), ("timbre/api.ErrTail", laid_timbre_api_ErrTail), ("timbre/api.ErrRange", laid_timbre_api_ErrRange), ("timbre/api.ErrText", laid_timbre_api_ErrText), ("timbre/api.ErrLength", laid_timbre_api_ErrLength), ("timbre/api.ErrOrder", laid_timbre_api_ErrOrder), ("timbre/api.ErrProgram", laid_timbre_api_ErrProgram), ("timbre/api.ErrState", laid_timbre_api_ErrState), ("timbre/api.ErrRoot", laid_timbre_api_ErrRoot), ("timbre/api.ErrPerm", laid_timbre_api_ErrPerm), ("timbre/api.ErrNumber", laid_timbre_api_ErrNumber), ("timbre/api.ErrWorkers", laid_timbre_api_ErrWorkers), ("timbre/api.ErrDone", laid_timbre_api_ErrDone), ("timbre/api.ErrUnknown", laid_timbre_api_ErrUnknown), ("timbre/api.ErrMode", laid_timbre_api_ErrMode), ("timbre/api.ErrCommand", laid_timbre_api_ErrCommand), ("timbre/api.ErrExact", laid_timbre_api_ErrExact)], narrowed := true }
def PrimesSmoothsUptoSaid : Prop := primesSmoothsUptoRow.holds Tryd.pinned (OpenSpec.upto primesSmoothsSpec)

/-- 'timbrelaw05.PrimesWholes', WHERE WHAT IT READS IS OF BULK AT MOST 1048576: true; the input reads as it did. -/
def primesWholesUptoRow : OpenClaim := { program := "ytifbcaiegalhbaadoor", sum := "8a27d35482b5adfba89cf1a294f500821f678205926c8207115fb3bf57bd8740", func := "timbre/timbrelaw05.PrimesWholes", spec := "primesWholes", unfollowed := true, recurses := true, named := ["timbre/api.ErrRoot", "math/bits.divideError", "math/bits.overflowError", "timbre/api.ErrRange", "timbre/api.ErrShort", "timbre/api.ErrVarint", "timbre/api.ErrLimit", "timbre/api.ErrTail", "timbre/api.ErrText", "timbre/api.ErrLength", "timbre/api.ErrOrder", "timbre/api.ErrProgram", "timbre/api.ErrState", "timbre/api.ErrPerm", "timbre/api.ErrNumber", "timbre/api.ErrWorkers", "timbre/api.ErrDone", "timbre/api.ErrUnknown", "timbre/api.ErrMode", "timbre/api.ErrCommand", "timbre/api.ErrExact"], apart := false, laid := [("timbre/api.ErrShort", laid_timbre_api_ErrShort), ("timbre/api.ErrVarint", laid_timbre_api_ErrVarint), ("timbre/api.ErrLimit", laid_timbre_api_ErrLimit), ("timbre/api.ErrTail", laid_timbre_api_ErrTail), ("timbre/api.ErrRange", laid_timbre_api_ErrRange), ("timbre/api.ErrText", laid_timbre_api_ErrText), ("timbre/api.ErrLength", laid_timbre_api_ErrLength), ("timbre/api.ErrOrder", laid_timbre_api_ErrOrder), ("timbre/api.ErrProgram", laid_timbre_api_ErrProgram), ("timbre/api.ErrState", laid_timbre_api_ErrState), ("timbre/api.ErrRoot", laid_timbre_api_ErrRoot), ("timbre/api.ErrPerm", laid_timbre_api_ErrPerm), ("timbre/api.ErrNumber", laid_timbre_api_ErrNumber), ("timbre/api.ErrWorkers", laid_timbre_api_ErrWorkers), ("timbre/api.ErrDone", laid_timbre_api_ErrDone), ("timbre/api.ErrUnknown", laid_timbre_api_ErrUnknown), ("timbre/api.ErrMode", laid_timbre_api_ErrMode), ("timbre/api.ErrCommand", laid_timbre_api_ErrCommand), ("timbre/api.ErrExact", laid_timbre_api_ErrExact)], narrowed := true }
def PrimesWholesUptoSaid : Prop := primesWholesUptoRow.holds Tryd.pinned (OpenSpec.upto primesWholesSpec)

/-- 'timbrelaw05.PrimesFactors', WHERE WHAT IT READS IS OF BULK AT MOST 1048576: true; the input reads as it did. -/
def primesFactorsUptoRow : OpenClaim := { program := "ytifbcaiegalhbaadoor", sum := "8a27d35482b5adfba89cf1a294f500821f678205926c8207115fb3bf57bd8740", func := "timbre/timbrelaw05.PrimesFactors", spec := "primesFactors", unfollowed := true, recurses := true, named := ["timbre/api.ErrRoot", "math/bits.divideError", "math/bits.overflowError", "timbre/api.ErrRange"], apart := false, laid := [("timbre/api.ErrRange", laid_timbre_api_ErrRange), ("timbre/api.ErrRoot", laid_timbre_api_ErrRoot)], narrowed := true }
def PrimesFactorsUptoSaid : Prop := primesFactorsUptoRow.holds Tryd.pinned (OpenSpec.upto primesFactorsSpec)

/-- 'timbrelaw05.PrimesMemory', WHERE WHAT IT READS IS OF BULK AT MOST 1048576: true; the input reads as it did. -/
def primesMemoryUptoRow : OpenClaim := { program := "ytifbcaiegalhbaadoor", sum := "8a27d35482b5adfba89cf1a294f500821f678205926c8207115fb3bf57bd8740", func := "timbre/timbrelaw05.PrimesMemory", spec := "primesMemory", unfollowed := true, recurses := true, named := ["timbre/api.ErrRoot", "math/bits.divideError", "math/bits.overflowError", "timbre/api.ErrRange"], apart := false, laid := [("timbre/api.ErrRange", laid_timbre_api_ErrRange), ("timbre/api.ErrRoot", laid_timbre_api_ErrRoot)], narrowed := true }
def PrimesMemoryUptoSaid : Prop := primesMemoryUptoRow.holds Tryd.pinned (OpenSpec.upto primesMemorySpec)

end Rows
end Go.Proofs.YtifbcaiegalhbaaDoor
