/-
  DERIVED. GIVEN WITH THE SEED: THE CARDS: each row of YtijbkcjbkioefaaDoorRows.lean that lists a variable, with what it lists TIED to the program's text (the seventh form; the later family's looks); each row that meets fmt, with fmt's text TOLD by the authors' own Lean function (tested against real Go, not proved from fmt's source: count such statements apart). THE CARD IS WHAT COUNTS. Prove the row's statement (the work); the ties are given (YtijbkcjbkioefaaDoorTie.lean); close each card by the builder's one call (the guide's Derived/Test/ToyasCard.lean, 'card_holds'). Laid BY PROGRAM, IN A SANDBOX (cutbox-door.mjs). By AI agents, Wed Nov 11 2026. No macro, syntax, notation, axiom, sorry.
-/
import Derived.Test.YtijbkcjbkioefaaDoorRows
import GoSem.ClaimSeven
namespace Go.Proofs.YtijbkcjbkioefaaDoor
namespace Rows

/-- THE TIED CARD OF 'timbrelaw07.RootsAll'. -/
def rootsAllCard : Claim7 := { stood := { row := rootsAllRow, standIns := [], harness := (true, "4cd64ed0220c38d5b2644c66767b6201f61e086069757f79c49d93c0f6309c39"), looks := true }, kinds := [], alts := [], laidByText := true, laidKinds := [.sentinel, .sentinel, .sentinel, .sentinel, .sentinel, .sentinel, .sentinel, .sentinel, .sentinel, .sentinel, .sentinel, .sentinel, .sentinel, .sentinel, .sentinel, .sentinel, .sentinel, .sentinel, .sentinel], laidTests := true, laidLooks := .later }
def RootsAllCardSaid : Prop := Claim7.holds Tryd.pinned (.plain (OpenSpec.ofChange rootsAllSpec)) rootsAllCard

/-- THE TIED CARD OF 'timbrelaw07.RootsPlaces'. -/
def rootsPlacesCard : Claim7 := { stood := { row := rootsPlacesRow, standIns := [], harness := (true, "4cd64ed0220c38d5b2644c66767b6201f61e086069757f79c49d93c0f6309c39"), looks := true }, kinds := [], alts := [], laidByText := true, laidKinds := [.sentinel, .sentinel], laidTests := true, laidLooks := .later }
def RootsPlacesCardSaid : Prop := Claim7.holds Tryd.pinned (.plain (OpenSpec.ofChange rootsPlacesSpec)) rootsPlacesCard

/-- THE TIED CARD OF 'timbrelaw07.RootsReckoned'. -/
def rootsReckonedCard : Claim7 := { stood := { row := rootsReckonedRow, standIns := [], harness := (true, "4cd64ed0220c38d5b2644c66767b6201f61e086069757f79c49d93c0f6309c39"), looks := true }, kinds := [], alts := [], laidByText := true, laidKinds := [.sentinel, .sentinel, .sentinel, .sentinel, .sentinel, .sentinel, .sentinel, .sentinel, .sentinel, .sentinel, .sentinel, .sentinel, .sentinel, .sentinel, .sentinel, .sentinel, .sentinel, .sentinel, .sentinel], laidTests := true, laidLooks := .later }
def RootsReckonedCardSaid : Prop := Claim7.holds Tryd.pinned (.plain (OpenSpec.ofChange rootsReckonedSpec)) rootsReckonedCard

/-- THE TIED CARD OF 'timbrelaw07.RootsTurned'. -/
def rootsTurnedCard : Claim7 := { stood := { row := rootsTurnedRow, standIns := [], harness := (true, "4cd64ed0220c38d5b2644c66767b6201f61e086069757f79c49d93c0f6309c39"), looks := true }, kinds := [], alts := [], laidByText := true, laidKinds := [.sentinel, .sentinel], laidTests := true, laidLooks := .later }
def RootsTurnedCardSaid : Prop := Claim7.holds Tryd.pinned (.plain (OpenSpec.ofChange rootsTurnedSpec)) rootsTurnedCard

/-- THE TIED CARD OF 'timbrelaw07.RootsTwist'. -/
def rootsTwistCard : Claim7 := { stood := { row := rootsTwistRow, standIns := [], harness := (true, "4cd64ed0220c38d5b2644c66767b6201f61e086069757f79c49d93c0f6309c39"), looks := true }, kinds := [], alts := [], laidByText := true, laidKinds := [.sentinel, .sentinel, .sentinel, .sentinel, .sentinel, .sentinel, .sentinel, .sentinel, .sentinel, .sentinel, .sentinel, .sentinel, .sentinel, .sentinel, .sentinel, .sentinel, .sentinel, .sentinel, .sentinel], laidTests := true, laidLooks := .later }
def RootsTwistCardSaid : Prop := Claim7.holds Tryd.pinned (.plain (OpenSpec.ofChange rootsTwistSpec)) rootsTwistCard

/-- THE TIED CARD OF 'timbrelaw07.RootsTwisted'. -/
def rootsTwistedCard : Claim7 := { stood := { row := rootsTwistedRow, standIns := [], harness := (true, "4cd64ed0220c38d5b2644c66767b6201f61e086069757f79c49d93c0f6309c39"), looks := true }, kinds := [], alts := [], laidByText := true, laidKinds := [.sentinel, .sentinel], laidTests := true, laidLooks := .later }
def RootsTwistedCardSaid : Prop := Claim7.holds Tryd.pinned (.plain (OpenSpec.ofChange rootsTwistedSpec)) rootsTwistedCard

/-- THE TIED CARD OF 'timbrelaw07.RootsCircle'. -/
def rootsCircleCard : Claim7 := { stood := { row := rootsCircleRow, standIns := [], harness := (true, "4cd64ed0220c38d5b2644c66767b6201f61e086069757f79c49d93c0f6309c39"), looks := true }, kinds := [], alts := [], laidByText := true, laidKinds := [.sentinel, .sentinel], laidTests := true, laidLooks := .later }
def RootsCircleCardSaid : Prop := Claim7.holds Tryd.pinned (.plain (OpenSpec.ofChange rootsCircleSpec)) rootsCircleCard

/-- THE SECOND FORM's CARD OF 'timbrelaw07.RootsAll'. -/
def rootsAllUptoCard : Claim7 := { stood := { row := rootsAllUptoRow, standIns := [], harness := (true, "4cd64ed0220c38d5b2644c66767b6201f61e086069757f79c49d93c0f6309c39"), looks := true }, kinds := [], alts := [], laidByText := true, laidKinds := [.sentinel, .sentinel, .sentinel, .sentinel, .sentinel, .sentinel, .sentinel, .sentinel, .sentinel, .sentinel, .sentinel, .sentinel, .sentinel, .sentinel, .sentinel, .sentinel, .sentinel, .sentinel, .sentinel], laidTests := true, laidLooks := .later }
def RootsAllUptoCardSaid : Prop := Claim7.holds Tryd.pinned (.plain (OpenSpec.upto rootsAllSpec)) rootsAllUptoCard

/-- THE SECOND FORM's CARD OF 'timbrelaw07.RootsPlaces'. -/
def rootsPlacesUptoCard : Claim7 := { stood := { row := rootsPlacesUptoRow, standIns := [], harness := (true, "4cd64ed0220c38d5b2644c66767b6201f61e086069757f79c49d93c0f6309c39"), looks := true }, kinds := [], alts := [], laidByText := true, laidKinds := [.sentinel, .sentinel], laidTests := true, laidLooks := .later }
def RootsPlacesUptoCardSaid : Prop := Claim7.holds Tryd.pinned (.plain (OpenSpec.upto rootsPlacesSpec)) rootsPlacesUptoCard

/-- THE SECOND FORM's CARD OF 'timbrelaw07.RootsReckoned'. -/
def rootsReckonedUptoCard : Claim7 := { stood := { row := rootsReckonedUptoRow, standIns := [], harness := (true, "4cd64ed0220c38d5b2644c66767b6201f61e086069757f79c49d93c0f6309c39"), looks := true }, kinds := [], alts := [], laidByText := true, laidKinds := [.sentinel, .sentinel, .sentinel, .sentinel, .sentinel, .sentinel, .sentinel, .sentinel, .sentinel, .sentinel, .sentinel, .sentinel, .sentinel, .sentinel, .sentinel, .sentinel, .sentinel, .sentinel, .sentinel], laidTests := true, laidLooks := .later }
def RootsReckonedUptoCardSaid : Prop := Claim7.holds Tryd.pinned (.plain (OpenSpec.upto rootsReckonedSpec)) rootsReckonedUptoCard

/-- THE SECOND FORM's CARD OF 'timbrelaw07.RootsTurned'. -/
def rootsTurnedUptoCard : Claim7 := { stood := { row := rootsTurnedUptoRow, standIns := [], harness := (true, "4cd64ed0220c38d5b2644c66767b6201f61e086069757f79c49d93c0f6309c39"), looks := true }, kinds := [], alts := [], laidByText := true, laidKinds := [.sentinel, .sentinel], laidTests := true, laidLooks := .later }
def RootsTurnedUptoCardSaid : Prop := Claim7.holds Tryd.pinned (.plain (OpenSpec.upto rootsTurnedSpec)) rootsTurnedUptoCard

/-- THE SECOND FORM's CARD OF 'timbrelaw07.RootsTwist'. -/
def rootsTwistUptoCard : Claim7 := { stood := { row := rootsTwistUptoRow, standIns := [], harness := (true, "4cd64ed0220c38d5b2644c66767b6201f61e086069757f79c49d93c0f6309c39"), looks := true }, kinds := [], alts := [], laidByText := true, laidKinds := [.sentinel, .sentinel, .sentinel, .sentinel, .sentinel, .sentinel, .sentinel, .sentinel, .sentinel, .sentinel, .sentinel, .sentinel, .sentinel, .sentinel, .sentinel, .sentinel, .sentinel, .sentinel, .sentinel], laidTests := true, laidLooks := .later }
def RootsTwistUptoCardSaid : Prop := Claim7.holds Tryd.pinned (.plain (OpenSpec.upto rootsTwistSpec)) rootsTwistUptoCard

/-- THE SECOND FORM's CARD OF 'timbrelaw07.RootsTwisted'. -/
def rootsTwistedUptoCard : Claim7 := { stood := { row := rootsTwistedUptoRow, standIns := [], harness := (true, "4cd64ed0220c38d5b2644c66767b6201f61e086069757f79c49d93c0f6309c39"), looks := true }, kinds := [], alts := [], laidByText := true, laidKinds := [.sentinel, .sentinel], laidTests := true, laidLooks := .later }
def RootsTwistedUptoCardSaid : Prop := Claim7.holds Tryd.pinned (.plain (OpenSpec.upto rootsTwistedSpec)) rootsTwistedUptoCard

/-- THE SECOND FORM's CARD OF 'timbrelaw07.RootsCircle'. -/
def rootsCircleUptoCard : Claim7 := { stood := { row := rootsCircleUptoRow, standIns := [], harness := (true, "4cd64ed0220c38d5b2644c66767b6201f61e086069757f79c49d93c0f6309c39"), looks := true }, kinds := [], alts := [], laidByText := true, laidKinds := [.sentinel, .sentinel], laidTests := true, laidLooks := .later }
def RootsCircleUptoCardSaid : Prop := Claim7.holds Tryd.pinned (.plain (OpenSpec.upto rootsCircleSpec)) rootsCircleUptoCard
end Rows
end Go.Proofs.YtijbkcjbkioefaaDoor
