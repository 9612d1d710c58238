/-
  DERIVED. GIVEN WITH THE SEED: THE CARDS: each row of YtmndkbebcjpkcaaDoorRows.lean that lists a variable, with what it lists TIED to the program's text (the seventh form; the later family's looks); each row that meets fmt, with fmt's text TOLD by the authors' own Lean function (tested against real Go, not proved from fmt's source: count such statements apart). THE CARD IS WHAT COUNTS. Prove the row's statement (the work); the ties are given (YtmndkbebcjpkcaaDoorTie.lean); close each card by the builder's one call (the guide's Derived/Test/ToyasCard.lean, 'card_holds'). Laid BY PROGRAM, IN A SANDBOX (cutbox-door.mjs). By AI agents, Wed Nov 11 2026. No macro, syntax, notation, axiom, sorry.
-/
import Derived.Test.YtmndkbebcjpkcaaDoorRows
import GoSem.ClaimSeven
namespace Go.Proofs.YtmndkbebcjpkcaaDoor
namespace Rows

/-- THE TIED CARD OF 'timbrelaw27.WindowMakes'. -/
def windowMakesCard : Claim7 := { stood := { row := windowMakesRow, standIns := [], harness := (true, "21b3dec4ad115edab598da8f9b48c233c74f68c7fd0710fa970eab34390a5178"), looks := true }, kinds := [], alts := [], laidByText := true, laidKinds := [.sentinel, .sentinel, .sentinel, .sentinel, .sentinel, .sentinel, .sentinel, .sentinel, .sentinel, .sentinel, .sentinel, .sentinel, .sentinel, .sentinel, .sentinel, .sentinel, .sentinel, .sentinel, .sentinel], laidTests := true, laidLooks := .later }
def WindowMakesCardSaid : Prop := Claim7.holds Tryd.pinned (.plain (OpenSpec.ofChange windowMakesSpec)) windowMakesCard

/-- THE TIED CARD OF 'timbrelaw27.WindowSymmetry'. -/
def windowSymmetryCard : Claim7 := { stood := { row := windowSymmetryRow, standIns := [], harness := (true, "21b3dec4ad115edab598da8f9b48c233c74f68c7fd0710fa970eab34390a5178"), looks := true }, kinds := [], alts := [], laidByText := true, laidKinds := [.sentinel, .sentinel, .sentinel, .sentinel, .sentinel, .sentinel, .sentinel, .sentinel, .sentinel, .sentinel, .sentinel, .sentinel, .sentinel, .sentinel, .sentinel, .sentinel, .sentinel, .sentinel, .sentinel], laidTests := true, laidLooks := .later }
def WindowSymmetryCardSaid : Prop := Claim7.holds Tryd.pinned (.plain (OpenSpec.ofChange windowSymmetrySpec)) windowSymmetryCard

/-- THE SECOND FORM's CARD OF 'timbrelaw27.WindowMakes'. -/
def windowMakesUptoCard : Claim7 := { stood := { row := windowMakesUptoRow, standIns := [], harness := (true, "21b3dec4ad115edab598da8f9b48c233c74f68c7fd0710fa970eab34390a5178"), looks := true }, kinds := [], alts := [], laidByText := true, laidKinds := [.sentinel, .sentinel, .sentinel, .sentinel, .sentinel, .sentinel, .sentinel, .sentinel, .sentinel, .sentinel, .sentinel, .sentinel, .sentinel, .sentinel, .sentinel, .sentinel, .sentinel, .sentinel, .sentinel], laidTests := true, laidLooks := .later }
def WindowMakesUptoCardSaid : Prop := Claim7.holds Tryd.pinned (.plain (OpenSpec.upto windowMakesSpec)) windowMakesUptoCard

/-- THE SECOND FORM's CARD OF 'timbrelaw27.WindowSymmetry'. -/
def windowSymmetryUptoCard : Claim7 := { stood := { row := windowSymmetryUptoRow, standIns := [], harness := (true, "21b3dec4ad115edab598da8f9b48c233c74f68c7fd0710fa970eab34390a5178"), looks := true }, kinds := [], alts := [], laidByText := true, laidKinds := [.sentinel, .sentinel, .sentinel, .sentinel, .sentinel, .sentinel, .sentinel, .sentinel, .sentinel, .sentinel, .sentinel, .sentinel, .sentinel, .sentinel, .sentinel, .sentinel, .sentinel, .sentinel, .sentinel], laidTests := true, laidLooks := .later }
def WindowSymmetryUptoCardSaid : Prop := Claim7.holds Tryd.pinned (.plain (OpenSpec.upto windowSymmetrySpec)) windowSymmetryUptoCard
end Rows
end Go.Proofs.YtmndkbebcjpkcaaDoor
