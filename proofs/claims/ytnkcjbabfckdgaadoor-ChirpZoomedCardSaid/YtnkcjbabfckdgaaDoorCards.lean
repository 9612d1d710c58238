/-
  DERIVED. GIVEN WITH THE SEED: THE CARDS: each row of YtnkcjbabfckdgaaDoorRows.lean that lists a variable, with what it lists TIED to the program's text (the seventh form; the later family's looks); each row that meets fmt, with fmt's text TOLD by the authors' own Lean function (tested against real Go, not proved from fmt's source: count such statements apart). THE CARD IS WHAT COUNTS. Prove the row's statement (the work); the ties are given (YtnkcjbabfckdgaaDoorTie.lean); close each card by the builder's one call (the guide's Derived/Test/ToyasCard.lean, 'card_holds'). Laid BY PROGRAM, IN A SANDBOX (cutbox-door.mjs). By AI agents, Wed Nov 11 2026. No macro, syntax, notation, axiom, sorry.
-/
import Derived.Test.YtnkcjbabfckdgaaDoorRows
import GoSem.ClaimSeven
namespace Go.Proofs.YtnkcjbabfckdgaaDoor
namespace Rows

/-- THE TIED CARD OF 'timbrelaw13.ChirpNumbers'. -/
def chirpNumbersCard : Claim7 := { stood := { row := chirpNumbersRow, standIns := [], harness := (true, "6ea7c912767232ae56d10c10f9d153757c799a1ba703b52707b34a6d0be87eeb"), looks := true }, kinds := [], alts := [], laidByText := true, laidKinds := [.sentinel, .sentinel, .sentinel, .sentinel, .sentinel, .sentinel, .sentinel, .sentinel, .sentinel, .sentinel, .sentinel, .sentinel, .sentinel, .sentinel, .sentinel, .sentinel, .sentinel, .sentinel, .sentinel], laidTests := true, laidLooks := .later }
def ChirpNumbersCardSaid : Prop := Claim7.holds Tryd.pinned (.plain (OpenSpec.ofChange chirpNumbersSpec)) chirpNumbersCard

/-- THE TIED CARD OF 'timbrelaw13.ChirpLists'. -/
def chirpListsCard : Claim7 := { stood := { row := chirpListsRow, standIns := [], harness := (true, "6ea7c912767232ae56d10c10f9d153757c799a1ba703b52707b34a6d0be87eeb"), looks := true }, kinds := [], alts := [], laidByText := true, laidKinds := [.sentinel, .sentinel, .sentinel, .sentinel, .sentinel, .sentinel, .sentinel, .sentinel, .sentinel, .sentinel, .sentinel, .sentinel, .sentinel, .sentinel, .sentinel, .sentinel, .sentinel, .sentinel, .sentinel], laidTests := true, laidLooks := .later }
def ChirpListsCardSaid : Prop := Claim7.holds Tryd.pinned (.plain (OpenSpec.ofChange chirpListsSpec)) chirpListsCard

/-- THE TIED CARD OF 'timbrelaw13.ChirpZooms'. -/
def chirpZoomsCard : Claim7 := { stood := { row := chirpZoomsRow, standIns := [], harness := (true, "6ea7c912767232ae56d10c10f9d153757c799a1ba703b52707b34a6d0be87eeb"), looks := true }, kinds := [], alts := [], laidByText := true, laidKinds := [.sentinel, .sentinel, .sentinel, .sentinel, .sentinel, .sentinel, .sentinel, .sentinel, .sentinel, .sentinel, .sentinel, .sentinel, .sentinel, .sentinel, .sentinel, .sentinel, .sentinel, .sentinel, .sentinel], laidTests := true, laidLooks := .later }
def ChirpZoomsCardSaid : Prop := Claim7.holds Tryd.pinned (.plain (OpenSpec.ofChange chirpZoomsSpec)) chirpZoomsCard

/-- THE TIED CARD OF 'timbrelaw13.ChirpMirror'. -/
def chirpMirrorCard : Claim7 := { stood := { row := chirpMirrorRow, standIns := [], harness := (true, "6ea7c912767232ae56d10c10f9d153757c799a1ba703b52707b34a6d0be87eeb"), looks := true }, kinds := [], alts := [], laidByText := true, laidKinds := [.sentinel, .sentinel], laidTests := true, laidLooks := .later }
def ChirpMirrorCardSaid : Prop := Claim7.holds Tryd.pinned (.plain (OpenSpec.ofChange chirpMirrorSpec)) chirpMirrorCard

/-- THE TIED CARD OF 'timbrelaw13.ChirpZoomed'. -/
def chirpZoomedCard : Claim7 := { stood := { row := chirpZoomedRow, standIns := [], harness := (true, "6ea7c912767232ae56d10c10f9d153757c799a1ba703b52707b34a6d0be87eeb"), looks := true }, kinds := [], alts := [], laidByText := true, laidKinds := [.sentinel, .sentinel], laidTests := true, laidLooks := .later }
def ChirpZoomedCardSaid : Prop := Claim7.holds Tryd.pinned (.plain (OpenSpec.ofChange chirpZoomedSpec)) chirpZoomedCard

/-- THE SECOND FORM's CARD OF 'timbrelaw13.ChirpNumbers'. -/
def chirpNumbersUptoCard : Claim7 := { stood := { row := chirpNumbersUptoRow, standIns := [], harness := (true, "6ea7c912767232ae56d10c10f9d153757c799a1ba703b52707b34a6d0be87eeb"), looks := true }, kinds := [], alts := [], laidByText := true, laidKinds := [.sentinel, .sentinel, .sentinel, .sentinel, .sentinel, .sentinel, .sentinel, .sentinel, .sentinel, .sentinel, .sentinel, .sentinel, .sentinel, .sentinel, .sentinel, .sentinel, .sentinel, .sentinel, .sentinel], laidTests := true, laidLooks := .later }
def ChirpNumbersUptoCardSaid : Prop := Claim7.holds Tryd.pinned (.plain (OpenSpec.upto chirpNumbersSpec)) chirpNumbersUptoCard

/-- THE SECOND FORM's CARD OF 'timbrelaw13.ChirpLists'. -/
def chirpListsUptoCard : Claim7 := { stood := { row := chirpListsUptoRow, standIns := [], harness := (true, "6ea7c912767232ae56d10c10f9d153757c799a1ba703b52707b34a6d0be87eeb"), looks := true }, kinds := [], alts := [], laidByText := true, laidKinds := [.sentinel, .sentinel, .sentinel, .sentinel, .sentinel, .sentinel, .sentinel, .sentinel, .sentinel, .sentinel, .sentinel, .sentinel, .sentinel, .sentinel, .sentinel, .sentinel, .sentinel, .sentinel, .sentinel], laidTests := true, laidLooks := .later }
def ChirpListsUptoCardSaid : Prop := Claim7.holds Tryd.pinned (.plain (OpenSpec.upto chirpListsSpec)) chirpListsUptoCard

/-- THE SECOND FORM's CARD OF 'timbrelaw13.ChirpZooms'. -/
def chirpZoomsUptoCard : Claim7 := { stood := { row := chirpZoomsUptoRow, standIns := [], harness := (true, "6ea7c912767232ae56d10c10f9d153757c799a1ba703b52707b34a6d0be87eeb"), looks := true }, kinds := [], alts := [], laidByText := true, laidKinds := [.sentinel, .sentinel, .sentinel, .sentinel, .sentinel, .sentinel, .sentinel, .sentinel, .sentinel, .sentinel, .sentinel, .sentinel, .sentinel, .sentinel, .sentinel, .sentinel, .sentinel, .sentinel, .sentinel], laidTests := true, laidLooks := .later }
def ChirpZoomsUptoCardSaid : Prop := Claim7.holds Tryd.pinned (.plain (OpenSpec.upto chirpZoomsSpec)) chirpZoomsUptoCard

/-- THE SECOND FORM's CARD OF 'timbrelaw13.ChirpMirror'. -/
def chirpMirrorUptoCard : Claim7 := { stood := { row := chirpMirrorUptoRow, standIns := [], harness := (true, "6ea7c912767232ae56d10c10f9d153757c799a1ba703b52707b34a6d0be87eeb"), looks := true }, kinds := [], alts := [], laidByText := true, laidKinds := [.sentinel, .sentinel], laidTests := true, laidLooks := .later }
def ChirpMirrorUptoCardSaid : Prop := Claim7.holds Tryd.pinned (.plain (OpenSpec.upto chirpMirrorSpec)) chirpMirrorUptoCard

/-- THE SECOND FORM's CARD OF 'timbrelaw13.ChirpZoomed'. -/
def chirpZoomedUptoCard : Claim7 := { stood := { row := chirpZoomedUptoRow, standIns := [], harness := (true, "6ea7c912767232ae56d10c10f9d153757c799a1ba703b52707b34a6d0be87eeb"), looks := true }, kinds := [], alts := [], laidByText := true, laidKinds := [.sentinel, .sentinel], laidTests := true, laidLooks := .later }
def ChirpZoomedUptoCardSaid : Prop := Claim7.holds Tryd.pinned (.plain (OpenSpec.upto chirpZoomedSpec)) chirpZoomedUptoCard
end Rows
end Go.Proofs.YtnkcjbabfckdgaaDoor
