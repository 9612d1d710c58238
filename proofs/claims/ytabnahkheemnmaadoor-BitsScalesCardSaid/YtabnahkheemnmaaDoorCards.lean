/-
  DERIVED. GIVEN WITH THE SEED: THE CARDS: each row of YtabnahkheemnmaaDoorRows.lean that lists a variable, with what it lists TIED to the program's text (the seventh form; the later family's looks); each row that meets fmt, with fmt's text TOLD by the authors' own Lean function (tested against real Go, not proved from fmt's source: count such statements apart). THE CARD IS WHAT COUNTS. Prove the row's statement (the work); the ties are given (YtabnahkheemnmaaDoorTie.lean); close each card by the builder's one call (the guide's Derived/Test/ToyasCard.lean, 'card_holds'). Laid BY PROGRAM, IN A SANDBOX (cutbox-door.mjs). By AI agents, Wed Nov 11 2026. No macro, syntax, notation, axiom, sorry.
-/
import Derived.Test.YtabnahkheemnmaaDoorRows
import GoSem.ClaimSeven
namespace Go.Proofs.YtabnahkheemnmaaDoor
namespace Rows

/-- THE TIED CARD OF 'timbrelaw01.BitsTwo'. -/
def bitsTwoCard : Claim7 := { stood := { row := bitsTwoRow, standIns := [], harness := (true, "01e4d4549b66a14e763c72dda1de05cdabbc281ef2fa69ffc56e49c5eb5c31c3"), looks := true }, kinds := [], alts := [], laidByText := true, laidKinds := [.sentinel, .sentinel, .sentinel, .sentinel, .sentinel, .sentinel, .sentinel, .sentinel, .sentinel, .sentinel, .sentinel, .sentinel, .sentinel, .sentinel, .sentinel, .sentinel, .sentinel, .sentinel, .sentinel], laidTests := true, laidLooks := .later }
def BitsTwoCardSaid : Prop := Claim7.holds Tryd.pinned (.plain (OpenSpec.ofChange bitsTwoSpec)) bitsTwoCard

/-- THE TIED CARD OF 'timbrelaw01.BitsBack'. -/
def bitsBackCard : Claim7 := { stood := { row := bitsBackRow, standIns := [], harness := (true, "01e4d4549b66a14e763c72dda1de05cdabbc281ef2fa69ffc56e49c5eb5c31c3"), looks := true }, kinds := [], alts := [], laidByText := true, laidKinds := [.sentinel], laidTests := true, laidLooks := .later }
def BitsBackCardSaid : Prop := Claim7.holds Tryd.pinned (.plain (OpenSpec.ofChange bitsBackSpec)) bitsBackCard

/-- THE TIED CARD OF 'timbrelaw01.BitsSteps'. -/
def bitsStepsCard : Claim7 := { stood := { row := bitsStepsRow, standIns := [], harness := (true, "01e4d4549b66a14e763c72dda1de05cdabbc281ef2fa69ffc56e49c5eb5c31c3"), looks := true }, kinds := [], alts := [], laidByText := true, laidKinds := [.sentinel, .sentinel, .sentinel, .sentinel, .sentinel, .sentinel, .sentinel, .sentinel, .sentinel, .sentinel, .sentinel, .sentinel, .sentinel, .sentinel, .sentinel, .sentinel, .sentinel, .sentinel, .sentinel], laidTests := true, laidLooks := .later }
def BitsStepsCardSaid : Prop := Claim7.holds Tryd.pinned (.plain (OpenSpec.ofChange bitsStepsSpec)) bitsStepsCard

/-- THE TIED CARD OF 'timbrelaw01.BitsOrder'. -/
def bitsOrderCard : Claim7 := { stood := { row := bitsOrderRow, standIns := [], harness := (true, "01e4d4549b66a14e763c72dda1de05cdabbc281ef2fa69ffc56e49c5eb5c31c3"), looks := true }, kinds := [], alts := [], laidByText := true, laidKinds := [.sentinel], laidTests := true, laidLooks := .later }
def BitsOrderCardSaid : Prop := Claim7.holds Tryd.pinned (.plain (OpenSpec.ofChange bitsOrderSpec)) bitsOrderCard

/-- THE TIED CARD OF 'timbrelaw01.BitsScales'. -/
def bitsScalesCard : Claim7 := { stood := { row := bitsScalesRow, standIns := [], harness := (true, "01e4d4549b66a14e763c72dda1de05cdabbc281ef2fa69ffc56e49c5eb5c31c3"), looks := true }, kinds := [], alts := [], laidByText := true, laidKinds := [.sentinel, .sentinel, .sentinel, .sentinel, .sentinel, .sentinel, .sentinel, .sentinel, .sentinel, .sentinel, .sentinel, .sentinel, .sentinel, .sentinel, .sentinel, .sentinel, .sentinel, .sentinel, .sentinel], laidTests := true, laidLooks := .later }
def BitsScalesCardSaid : Prop := Claim7.holds Tryd.pinned (.plain (OpenSpec.ofChange bitsScalesSpec)) bitsScalesCard

/-- THE TIED CARD OF 'timbrelaw01.BitsLists'. -/
def bitsListsCard : Claim7 := { stood := { row := bitsListsRow, standIns := [], harness := (true, "01e4d4549b66a14e763c72dda1de05cdabbc281ef2fa69ffc56e49c5eb5c31c3"), looks := true }, kinds := [], alts := [], laidByText := true, laidKinds := [.sentinel], laidTests := true, laidLooks := .later }
def BitsListsCardSaid : Prop := Claim7.holds Tryd.pinned (.plain (OpenSpec.ofChange bitsListsSpec)) bitsListsCard

/-- THE TIED CARD OF 'timbrelaw01.BitsOne'. -/
def bitsOneCard : Claim7 := { stood := { row := bitsOneRow, standIns := [], harness := (true, "01e4d4549b66a14e763c72dda1de05cdabbc281ef2fa69ffc56e49c5eb5c31c3"), looks := true }, kinds := [], alts := [], laidByText := true, laidKinds := [.sentinel, .sentinel, .sentinel, .sentinel, .sentinel, .sentinel, .sentinel, .sentinel, .sentinel, .sentinel, .sentinel, .sentinel, .sentinel, .sentinel, .sentinel, .sentinel, .sentinel, .sentinel, .sentinel], laidTests := true, laidLooks := .later }
def BitsOneCardSaid : Prop := Claim7.holds Tryd.pinned (.plain (OpenSpec.ofChange bitsOneSpec)) bitsOneCard

/-- THE SECOND FORM's CARD OF 'timbrelaw01.BitsTwo'. -/
def bitsTwoUptoCard : Claim7 := { stood := { row := bitsTwoUptoRow, standIns := [], harness := (true, "01e4d4549b66a14e763c72dda1de05cdabbc281ef2fa69ffc56e49c5eb5c31c3"), looks := true }, kinds := [], alts := [], laidByText := true, laidKinds := [.sentinel, .sentinel, .sentinel, .sentinel, .sentinel, .sentinel, .sentinel, .sentinel, .sentinel, .sentinel, .sentinel, .sentinel, .sentinel, .sentinel, .sentinel, .sentinel, .sentinel, .sentinel, .sentinel], laidTests := true, laidLooks := .later }
def BitsTwoUptoCardSaid : Prop := Claim7.holds Tryd.pinned (.plain (OpenSpec.upto bitsTwoSpec)) bitsTwoUptoCard

/-- THE SECOND FORM's CARD OF 'timbrelaw01.BitsBack'. -/
def bitsBackUptoCard : Claim7 := { stood := { row := bitsBackUptoRow, standIns := [], harness := (true, "01e4d4549b66a14e763c72dda1de05cdabbc281ef2fa69ffc56e49c5eb5c31c3"), looks := true }, kinds := [], alts := [], laidByText := true, laidKinds := [.sentinel], laidTests := true, laidLooks := .later }
def BitsBackUptoCardSaid : Prop := Claim7.holds Tryd.pinned (.plain (OpenSpec.upto bitsBackSpec)) bitsBackUptoCard

/-- THE SECOND FORM's CARD OF 'timbrelaw01.BitsSteps'. -/
def bitsStepsUptoCard : Claim7 := { stood := { row := bitsStepsUptoRow, standIns := [], harness := (true, "01e4d4549b66a14e763c72dda1de05cdabbc281ef2fa69ffc56e49c5eb5c31c3"), looks := true }, kinds := [], alts := [], laidByText := true, laidKinds := [.sentinel, .sentinel, .sentinel, .sentinel, .sentinel, .sentinel, .sentinel, .sentinel, .sentinel, .sentinel, .sentinel, .sentinel, .sentinel, .sentinel, .sentinel, .sentinel, .sentinel, .sentinel, .sentinel], laidTests := true, laidLooks := .later }
def BitsStepsUptoCardSaid : Prop := Claim7.holds Tryd.pinned (.plain (OpenSpec.upto bitsStepsSpec)) bitsStepsUptoCard

/-- THE SECOND FORM's CARD OF 'timbrelaw01.BitsOrder'. -/
def bitsOrderUptoCard : Claim7 := { stood := { row := bitsOrderUptoRow, standIns := [], harness := (true, "01e4d4549b66a14e763c72dda1de05cdabbc281ef2fa69ffc56e49c5eb5c31c3"), looks := true }, kinds := [], alts := [], laidByText := true, laidKinds := [.sentinel], laidTests := true, laidLooks := .later }
def BitsOrderUptoCardSaid : Prop := Claim7.holds Tryd.pinned (.plain (OpenSpec.upto bitsOrderSpec)) bitsOrderUptoCard

/-- THE SECOND FORM's CARD OF 'timbrelaw01.BitsScales'. -/
def bitsScalesUptoCard : Claim7 := { stood := { row := bitsScalesUptoRow, standIns := [], harness := (true, "01e4d4549b66a14e763c72dda1de05cdabbc281ef2fa69ffc56e49c5eb5c31c3"), looks := true }, kinds := [], alts := [], laidByText := true, laidKinds := [.sentinel, .sentinel, .sentinel, .sentinel, .sentinel, .sentinel, .sentinel, .sentinel, .sentinel, .sentinel, .sentinel, .sentinel, .sentinel, .sentinel, .sentinel, .sentinel, .sentinel, .sentinel, .sentinel], laidTests := true, laidLooks := .later }
def BitsScalesUptoCardSaid : Prop := Claim7.holds Tryd.pinned (.plain (OpenSpec.upto bitsScalesSpec)) bitsScalesUptoCard

/-- THE SECOND FORM's CARD OF 'timbrelaw01.BitsLists'. -/
def bitsListsUptoCard : Claim7 := { stood := { row := bitsListsUptoRow, standIns := [], harness := (true, "01e4d4549b66a14e763c72dda1de05cdabbc281ef2fa69ffc56e49c5eb5c31c3"), looks := true }, kinds := [], alts := [], laidByText := true, laidKinds := [.sentinel], laidTests := true, laidLooks := .later }
def BitsListsUptoCardSaid : Prop := Claim7.holds Tryd.pinned (.plain (OpenSpec.upto bitsListsSpec)) bitsListsUptoCard

/-- THE SECOND FORM's CARD OF 'timbrelaw01.BitsOne'. -/
def bitsOneUptoCard : Claim7 := { stood := { row := bitsOneUptoRow, standIns := [], harness := (true, "01e4d4549b66a14e763c72dda1de05cdabbc281ef2fa69ffc56e49c5eb5c31c3"), looks := true }, kinds := [], alts := [], laidByText := true, laidKinds := [.sentinel, .sentinel, .sentinel, .sentinel, .sentinel, .sentinel, .sentinel, .sentinel, .sentinel, .sentinel, .sentinel, .sentinel, .sentinel, .sentinel, .sentinel, .sentinel, .sentinel, .sentinel, .sentinel], laidTests := true, laidLooks := .later }
def BitsOneUptoCardSaid : Prop := Claim7.holds Tryd.pinned (.plain (OpenSpec.upto bitsOneSpec)) bitsOneUptoCard
end Rows
end Go.Proofs.YtabnahkheemnmaaDoor
