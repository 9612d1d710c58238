/-
  DERIVED. GIVEN WITH THE SEED: THE PROGRAM's TIES (one call each: nine closed facts by the kernel) AND EACH ROW's TIE, after the 31st guide's Derived/Test/Toyas{Tie, Card}.lean. No idea stands in it: it is a product of the set-up. Laid BY PROGRAM, IN A SANDBOX (cutbox-door.mjs). By AI agents, Wed Nov 11 2026. No macro, syntax, notation, axiom, sorry.
-/
import Derived.Test.YtmadbdecbkmjkaaDoorRows
import Derived.LaidByTextLater
import Derived.SevenTiedAt
import Derived.LaidSub
import Derived.LaidOnce
namespace Go.Proofs.YtmadbdecbkmjkaaDoor
open Go
set_option maxRecDepth 100000
theorem seatTie1 : Tryd.prog.laidByTextLater [("timbre/api.ErrShort", Rows.laid_timbre_api_ErrShort), ("timbre/api.ErrVarint", Rows.laid_timbre_api_ErrVarint), ("timbre/api.ErrLimit", Rows.laid_timbre_api_ErrLimit), ("timbre/api.ErrTail", Rows.laid_timbre_api_ErrTail), ("timbre/api.ErrRange", Rows.laid_timbre_api_ErrRange), ("timbre/api.ErrText", Rows.laid_timbre_api_ErrText), ("timbre/api.ErrLength", Rows.laid_timbre_api_ErrLength), ("timbre/api.ErrOrder", Rows.laid_timbre_api_ErrOrder), ("timbre/api.ErrProgram", Rows.laid_timbre_api_ErrProgram), ("timbre/api.ErrState", Rows.laid_timbre_api_ErrState), ("timbre/api.ErrRoot", Rows.laid_timbre_api_ErrRoot), ("timbre/api.ErrPerm", Rows.laid_timbre_api_ErrPerm), ("timbre/api.ErrNumber", Rows.laid_timbre_api_ErrNumber), ("timbre/api.ErrWorkers", Rows.laid_timbre_api_ErrWorkers), ("timbre/api.ErrDone", Rows.laid_timbre_api_ErrDone), ("timbre/api.ErrUnknown", Rows.laid_timbre_api_ErrUnknown), ("timbre/api.ErrMode", Rows.laid_timbre_api_ErrMode), ("timbre/api.ErrCommand", Rows.laid_timbre_api_ErrCommand), ("timbre/api.ErrExact", Rows.laid_timbre_api_ErrExact)] [.sentinel, .sentinel, .sentinel, .sentinel, .sentinel, .sentinel, .sentinel, .sentinel, .sentinel, .sentinel, .sentinel, .sentinel, .sentinel, .sentinel, .sentinel, .sentinel, .sentinel, .sentinel, .sentinel] true :=
  Program.laidByTextLater_by_one 370 8 2 (by kernel_rfl) (by kernel_rfl) (by kernel_rfl) (by kernel_rfl) (by kernel_rfl) (by kernel_rfl) (fun _ _ => by kernel_rfl)
theorem noOwnUnsafe : Tryd.pinned.checked.prog.headLifts.contains "ownunsafe" = false := by kernel_rfl
theorem tie : Tryd.prog.laidByTextLater [("timbre/api.ErrRange", Rows.laid_timbre_api_ErrRange), ("timbre/api.ErrLength", Rows.laid_timbre_api_ErrLength)] [.sentinel, .sentinel] true :=
  Program.laidByTextLater.sub seatTie1 ["timbre/api.ErrRange", "timbre/api.ErrLength"] (by kernel_rfl) (by kernel_rfl)
theorem directWhole_row_tie : Rows.directWholeRow.laidByTextAt .later Tryd.pinned [.sentinel, .sentinel] true :=
  OpenClaim.laidByTextAt_later rfl rfl tie noOwnUnsafe
theorem directSpread_row_tie : Rows.directSpreadRow.laidByTextAt .later Tryd.pinned [.sentinel, .sentinel] true :=
  OpenClaim.laidByTextAt_later rfl rfl tie noOwnUnsafe
theorem directTurned_row_tie : Rows.directTurnedRow.laidByTextAt .later Tryd.pinned [.sentinel, .sentinel] true :=
  OpenClaim.laidByTextAt_later rfl rfl tie noOwnUnsafe
theorem tie2 : Tryd.prog.laidByTextLater [("timbre/api.ErrShort", Rows.laid_timbre_api_ErrShort), ("timbre/api.ErrVarint", Rows.laid_timbre_api_ErrVarint), ("timbre/api.ErrLimit", Rows.laid_timbre_api_ErrLimit), ("timbre/api.ErrTail", Rows.laid_timbre_api_ErrTail), ("timbre/api.ErrRange", Rows.laid_timbre_api_ErrRange), ("timbre/api.ErrText", Rows.laid_timbre_api_ErrText), ("timbre/api.ErrLength", Rows.laid_timbre_api_ErrLength), ("timbre/api.ErrOrder", Rows.laid_timbre_api_ErrOrder), ("timbre/api.ErrProgram", Rows.laid_timbre_api_ErrProgram), ("timbre/api.ErrState", Rows.laid_timbre_api_ErrState), ("timbre/api.ErrRoot", Rows.laid_timbre_api_ErrRoot), ("timbre/api.ErrPerm", Rows.laid_timbre_api_ErrPerm), ("timbre/api.ErrNumber", Rows.laid_timbre_api_ErrNumber), ("timbre/api.ErrWorkers", Rows.laid_timbre_api_ErrWorkers), ("timbre/api.ErrDone", Rows.laid_timbre_api_ErrDone), ("timbre/api.ErrUnknown", Rows.laid_timbre_api_ErrUnknown), ("timbre/api.ErrMode", Rows.laid_timbre_api_ErrMode), ("timbre/api.ErrCommand", Rows.laid_timbre_api_ErrCommand), ("timbre/api.ErrExact", Rows.laid_timbre_api_ErrExact)] [.sentinel, .sentinel, .sentinel, .sentinel, .sentinel, .sentinel, .sentinel, .sentinel, .sentinel, .sentinel, .sentinel, .sentinel, .sentinel, .sentinel, .sentinel, .sentinel, .sentinel, .sentinel, .sentinel] true :=
  Program.laidByTextLater.sub seatTie1 ["timbre/api.ErrShort", "timbre/api.ErrVarint", "timbre/api.ErrLimit", "timbre/api.ErrTail", "timbre/api.ErrRange", "timbre/api.ErrText", "timbre/api.ErrLength", "timbre/api.ErrOrder", "timbre/api.ErrProgram", "timbre/api.ErrState", "timbre/api.ErrRoot", "timbre/api.ErrPerm", "timbre/api.ErrNumber", "timbre/api.ErrWorkers", "timbre/api.ErrDone", "timbre/api.ErrUnknown", "timbre/api.ErrMode", "timbre/api.ErrCommand", "timbre/api.ErrExact"] (by kernel_rfl) (by kernel_rfl)
theorem directPlays_row_tie : Rows.directPlaysRow.laidByTextAt .later Tryd.pinned [.sentinel, .sentinel, .sentinel, .sentinel, .sentinel, .sentinel, .sentinel, .sentinel, .sentinel, .sentinel, .sentinel, .sentinel, .sentinel, .sentinel, .sentinel, .sentinel, .sentinel, .sentinel, .sentinel] true :=
  OpenClaim.laidByTextAt_later rfl rfl tie2 noOwnUnsafe
theorem directAt_row_tie : Rows.directAtRow.laidByTextAt .later Tryd.pinned [.sentinel, .sentinel, .sentinel, .sentinel, .sentinel, .sentinel, .sentinel, .sentinel, .sentinel, .sentinel, .sentinel, .sentinel, .sentinel, .sentinel, .sentinel, .sentinel, .sentinel, .sentinel, .sentinel] true :=
  OpenClaim.laidByTextAt_later rfl rfl tie2 noOwnUnsafe
theorem directWholeUpto_row_tie : Rows.directWholeUptoRow.laidByTextAt .later Tryd.pinned [.sentinel, .sentinel] true :=
  OpenClaim.laidByTextAt_later rfl rfl tie noOwnUnsafe
theorem directPlaysUpto_row_tie : Rows.directPlaysUptoRow.laidByTextAt .later Tryd.pinned [.sentinel, .sentinel, .sentinel, .sentinel, .sentinel, .sentinel, .sentinel, .sentinel, .sentinel, .sentinel, .sentinel, .sentinel, .sentinel, .sentinel, .sentinel, .sentinel, .sentinel, .sentinel, .sentinel] true :=
  OpenClaim.laidByTextAt_later rfl rfl tie2 noOwnUnsafe
theorem directAtUpto_row_tie : Rows.directAtUptoRow.laidByTextAt .later Tryd.pinned [.sentinel, .sentinel, .sentinel, .sentinel, .sentinel, .sentinel, .sentinel, .sentinel, .sentinel, .sentinel, .sentinel, .sentinel, .sentinel, .sentinel, .sentinel, .sentinel, .sentinel, .sentinel, .sentinel] true :=
  OpenClaim.laidByTextAt_later rfl rfl tie2 noOwnUnsafe
theorem directSpreadUpto_row_tie : Rows.directSpreadUptoRow.laidByTextAt .later Tryd.pinned [.sentinel, .sentinel] true :=
  OpenClaim.laidByTextAt_later rfl rfl tie noOwnUnsafe
theorem directTurnedUpto_row_tie : Rows.directTurnedUptoRow.laidByTextAt .later Tryd.pinned [.sentinel, .sentinel] true :=
  OpenClaim.laidByTextAt_later rfl rfl tie noOwnUnsafe
end Go.Proofs.YtmadbdecbkmjkaaDoor
