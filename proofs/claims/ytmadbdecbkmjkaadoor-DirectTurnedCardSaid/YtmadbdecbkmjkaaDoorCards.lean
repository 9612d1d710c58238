/-
  DERIVED. GIVEN WITH THE SEED: THE CARDS: each row of YtmadbdecbkmjkaaDoorRows.lean that lists a variable, with what it lists TIED to the program's text (the seventh form; the later family's looks); each row that meets fmt, with fmt's text TOLD by the authors' own Lean function (tested against real Go, not proved from fmt's source: count such statements apart). THE CARD IS WHAT COUNTS. Prove the row's statement (the work); the ties are given (YtmadbdecbkmjkaaDoorTie.lean); close each card by the builder's one call (the guide's Derived/Test/ToyasCard.lean, 'card_holds'). Laid BY PROGRAM, IN A SANDBOX (cutbox-door.mjs). By AI agents, Wed Nov 11 2026. No macro, syntax, notation, axiom, sorry.
-/
import Derived.Test.YtmadbdecbkmjkaaDoorRows
import GoSem.ClaimSeven
namespace Go.Proofs.YtmadbdecbkmjkaaDoor
namespace Rows

/-- THE TIED CARD OF 'timbrelaw10.DirectWhole'. -/
def directWholeCard : Claim7 := { stood := { row := directWholeRow, standIns := [], harness := (true, "069e9cdaead674a2df98c364a54844cad2cda9f54749f8289ae56bc730329752"), looks := true }, kinds := [], alts := [], laidByText := true, laidKinds := [.sentinel, .sentinel], laidTests := true, laidLooks := .later }
def DirectWholeCardSaid : Prop := Claim7.holds Tryd.pinned (.plain (OpenSpec.ofChange directWholeSpec)) directWholeCard

/-- THE TIED CARD OF 'timbrelaw10.DirectPlays'. -/
def directPlaysCard : Claim7 := { stood := { row := directPlaysRow, standIns := [], harness := (true, "069e9cdaead674a2df98c364a54844cad2cda9f54749f8289ae56bc730329752"), looks := true }, kinds := [], alts := [], laidByText := true, laidKinds := [.sentinel, .sentinel, .sentinel, .sentinel, .sentinel, .sentinel, .sentinel, .sentinel, .sentinel, .sentinel, .sentinel, .sentinel, .sentinel, .sentinel, .sentinel, .sentinel, .sentinel, .sentinel, .sentinel], laidTests := true, laidLooks := .later }
def DirectPlaysCardSaid : Prop := Claim7.holds Tryd.pinned (.plain (OpenSpec.ofChange directPlaysSpec)) directPlaysCard

/-- THE TIED CARD OF 'timbrelaw10.DirectAt'. -/
def directAtCard : Claim7 := { stood := { row := directAtRow, standIns := [], harness := (true, "069e9cdaead674a2df98c364a54844cad2cda9f54749f8289ae56bc730329752"), looks := true }, kinds := [], alts := [], laidByText := true, laidKinds := [.sentinel, .sentinel, .sentinel, .sentinel, .sentinel, .sentinel, .sentinel, .sentinel, .sentinel, .sentinel, .sentinel, .sentinel, .sentinel, .sentinel, .sentinel, .sentinel, .sentinel, .sentinel, .sentinel], laidTests := true, laidLooks := .later }
def DirectAtCardSaid : Prop := Claim7.holds Tryd.pinned (.plain (OpenSpec.ofChange directAtSpec)) directAtCard

/-- THE TIED CARD OF 'timbrelaw10.DirectSpread'. -/
def directSpreadCard : Claim7 := { stood := { row := directSpreadRow, standIns := [], harness := (true, "069e9cdaead674a2df98c364a54844cad2cda9f54749f8289ae56bc730329752"), looks := true }, kinds := [], alts := [], laidByText := true, laidKinds := [.sentinel, .sentinel], laidTests := true, laidLooks := .later }
def DirectSpreadCardSaid : Prop := Claim7.holds Tryd.pinned (.plain (OpenSpec.ofChange directSpreadSpec)) directSpreadCard

/-- THE TIED CARD OF 'timbrelaw10.DirectTurned'. -/
def directTurnedCard : Claim7 := { stood := { row := directTurnedRow, standIns := [], harness := (true, "069e9cdaead674a2df98c364a54844cad2cda9f54749f8289ae56bc730329752"), looks := true }, kinds := [], alts := [], laidByText := true, laidKinds := [.sentinel, .sentinel], laidTests := true, laidLooks := .later }
def DirectTurnedCardSaid : Prop := Claim7.holds Tryd.pinned (.plain (OpenSpec.ofChange directTurnedSpec)) directTurnedCard

/-- THE SECOND FORM's CARD OF 'timbrelaw10.DirectWhole'. -/
def directWholeUptoCard : Claim7 := { stood := { row := directWholeUptoRow, standIns := [], harness := (true, "069e9cdaead674a2df98c364a54844cad2cda9f54749f8289ae56bc730329752"), looks := true }, kinds := [], alts := [], laidByText := true, laidKinds := [.sentinel, .sentinel], laidTests := true, laidLooks := .later }
def DirectWholeUptoCardSaid : Prop := Claim7.holds Tryd.pinned (.plain (OpenSpec.upto directWholeSpec)) directWholeUptoCard

/-- THE SECOND FORM's CARD OF 'timbrelaw10.DirectPlays'. -/
def directPlaysUptoCard : Claim7 := { stood := { row := directPlaysUptoRow, standIns := [], harness := (true, "069e9cdaead674a2df98c364a54844cad2cda9f54749f8289ae56bc730329752"), looks := true }, kinds := [], alts := [], laidByText := true, laidKinds := [.sentinel, .sentinel, .sentinel, .sentinel, .sentinel, .sentinel, .sentinel, .sentinel, .sentinel, .sentinel, .sentinel, .sentinel, .sentinel, .sentinel, .sentinel, .sentinel, .sentinel, .sentinel, .sentinel], laidTests := true, laidLooks := .later }
def DirectPlaysUptoCardSaid : Prop := Claim7.holds Tryd.pinned (.plain (OpenSpec.upto directPlaysSpec)) directPlaysUptoCard

/-- THE SECOND FORM's CARD OF 'timbrelaw10.DirectAt'. -/
def directAtUptoCard : Claim7 := { stood := { row := directAtUptoRow, standIns := [], harness := (true, "069e9cdaead674a2df98c364a54844cad2cda9f54749f8289ae56bc730329752"), looks := true }, kinds := [], alts := [], laidByText := true, laidKinds := [.sentinel, .sentinel, .sentinel, .sentinel, .sentinel, .sentinel, .sentinel, .sentinel, .sentinel, .sentinel, .sentinel, .sentinel, .sentinel, .sentinel, .sentinel, .sentinel, .sentinel, .sentinel, .sentinel], laidTests := true, laidLooks := .later }
def DirectAtUptoCardSaid : Prop := Claim7.holds Tryd.pinned (.plain (OpenSpec.upto directAtSpec)) directAtUptoCard

/-- THE SECOND FORM's CARD OF 'timbrelaw10.DirectSpread'. -/
def directSpreadUptoCard : Claim7 := { stood := { row := directSpreadUptoRow, standIns := [], harness := (true, "069e9cdaead674a2df98c364a54844cad2cda9f54749f8289ae56bc730329752"), looks := true }, kinds := [], alts := [], laidByText := true, laidKinds := [.sentinel, .sentinel], laidTests := true, laidLooks := .later }
def DirectSpreadUptoCardSaid : Prop := Claim7.holds Tryd.pinned (.plain (OpenSpec.upto directSpreadSpec)) directSpreadUptoCard

/-- THE SECOND FORM's CARD OF 'timbrelaw10.DirectTurned'. -/
def directTurnedUptoCard : Claim7 := { stood := { row := directTurnedUptoRow, standIns := [], harness := (true, "069e9cdaead674a2df98c364a54844cad2cda9f54749f8289ae56bc730329752"), looks := true }, kinds := [], alts := [], laidByText := true, laidKinds := [.sentinel, .sentinel], laidTests := true, laidLooks := .later }
def DirectTurnedUptoCardSaid : Prop := Claim7.holds Tryd.pinned (.plain (OpenSpec.upto directTurnedSpec)) directTurnedUptoCard
end Rows
end Go.Proofs.YtmadbdecbkmjkaaDoor
