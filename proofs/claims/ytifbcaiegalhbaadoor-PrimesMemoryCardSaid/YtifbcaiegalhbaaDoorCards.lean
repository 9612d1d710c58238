/-
  DERIVED. GIVEN WITH THE SEED: THE CARDS: each row of YtifbcaiegalhbaaDoorRows.lean that lists a variable, with what it lists TIED to the program's text (the seventh form; the later family's looks); each row that meets fmt, with fmt's text TOLD by the authors' own Lean function (tested against real Go, not proved from fmt's source: count such statements apart). THE CARD IS WHAT COUNTS. Prove the row's statement (the work); the ties are given (YtifbcaiegalhbaaDoorTie.lean); close each card by the builder's one call (the guide's Derived/Test/ToyasCard.lean, 'card_holds'). Laid BY PROGRAM, IN A SANDBOX (cutbox-door.mjs). By AI agents, Wed Nov 11 2026. No macro, syntax, notation, axiom, sorry.
-/
import Derived.Test.YtifbcaiegalhbaaDoorRows
import GoSem.ClaimSeven
namespace Go.Proofs.YtifbcaiegalhbaaDoor
namespace Rows

/-- THE TIED CARD OF 'timbrelaw05.PrimesModulo'. -/
def primesModuloCard : Claim7 := { stood := { row := primesModuloRow, standIns := [], harness := (true, "52ec94a650b89d6e5ac9105541dd46c1f5086eab4f66de4c0f1decaf6041c01c"), looks := true }, kinds := [], alts := [], laidByText := true, laidKinds := [.sentinel, .sentinel, .sentinel, .sentinel, .sentinel, .sentinel, .sentinel, .sentinel, .sentinel, .sentinel, .sentinel, .sentinel, .sentinel, .sentinel, .sentinel, .sentinel, .sentinel, .sentinel, .sentinel], laidTests := true, laidLooks := .later }
def PrimesModuloCardSaid : Prop := Claim7.holds Tryd.pinned (.plain (OpenSpec.ofChange primesModuloSpec)) primesModuloCard

/-- THE TIED CARD OF 'timbrelaw05.PrimesGcd'. -/
def primesGcdCard : Claim7 := { stood := { row := primesGcdRow, standIns := [], harness := (true, "52ec94a650b89d6e5ac9105541dd46c1f5086eab4f66de4c0f1decaf6041c01c"), looks := true }, kinds := [], alts := [], laidByText := true, laidKinds := [.sentinel, .sentinel], laidTests := true, laidLooks := .later }
def PrimesGcdCardSaid : Prop := Claim7.holds Tryd.pinned (.plain (OpenSpec.ofChange primesGcdSpec)) primesGcdCard

/-- THE TIED CARD OF 'timbrelaw05.PrimesPowers'. -/
def primesPowersCard : Claim7 := { stood := { row := primesPowersRow, standIns := [], harness := (true, "52ec94a650b89d6e5ac9105541dd46c1f5086eab4f66de4c0f1decaf6041c01c"), looks := true }, kinds := [], alts := [], laidByText := true, laidKinds := [.sentinel, .sentinel], laidTests := true, laidLooks := .later }
def PrimesPowersCardSaid : Prop := Claim7.holds Tryd.pinned (.plain (OpenSpec.ofChange primesPowersSpec)) primesPowersCard

/-- THE TIED CARD OF 'timbrelaw05.PrimesRoots'. -/
def primesRootsCard : Claim7 := { stood := { row := primesRootsRow, standIns := [], harness := (true, "52ec94a650b89d6e5ac9105541dd46c1f5086eab4f66de4c0f1decaf6041c01c"), looks := true }, kinds := [], alts := [], laidByText := true, laidKinds := [.sentinel, .sentinel, .sentinel, .sentinel, .sentinel, .sentinel, .sentinel, .sentinel, .sentinel, .sentinel, .sentinel, .sentinel, .sentinel, .sentinel, .sentinel, .sentinel, .sentinel, .sentinel, .sentinel], laidTests := true, laidLooks := .later }
def PrimesRootsCardSaid : Prop := Claim7.holds Tryd.pinned (.plain (OpenSpec.ofChange primesRootsSpec)) primesRootsCard

/-- THE TIED CARD OF 'timbrelaw05.PrimesSmooths'. -/
def primesSmoothsCard : Claim7 := { stood := { row := primesSmoothsRow, standIns := [], harness := (true, "52ec94a650b89d6e5ac9105541dd46c1f5086eab4f66de4c0f1decaf6041c01c"), looks := true }, kinds := [], alts := [], laidByText := true, laidKinds := [.sentinel, .sentinel, .sentinel, .sentinel, .sentinel, .sentinel, .sentinel, .sentinel, .sentinel, .sentinel, .sentinel, .sentinel, .sentinel, .sentinel, .sentinel, .sentinel, .sentinel, .sentinel, .sentinel], laidTests := true, laidLooks := .later }
def PrimesSmoothsCardSaid : Prop := Claim7.holds Tryd.pinned (.plain (OpenSpec.ofChange primesSmoothsSpec)) primesSmoothsCard

/-- THE TIED CARD OF 'timbrelaw05.PrimesWholes'. -/
def primesWholesCard : Claim7 := { stood := { row := primesWholesRow, standIns := [], harness := (true, "52ec94a650b89d6e5ac9105541dd46c1f5086eab4f66de4c0f1decaf6041c01c"), looks := true }, kinds := [], alts := [], laidByText := true, laidKinds := [.sentinel, .sentinel, .sentinel, .sentinel, .sentinel, .sentinel, .sentinel, .sentinel, .sentinel, .sentinel, .sentinel, .sentinel, .sentinel, .sentinel, .sentinel, .sentinel, .sentinel, .sentinel, .sentinel], laidTests := true, laidLooks := .later }
def PrimesWholesCardSaid : Prop := Claim7.holds Tryd.pinned (.plain (OpenSpec.ofChange primesWholesSpec)) primesWholesCard

/-- THE TIED CARD OF 'timbrelaw05.PrimesFactors'. -/
def primesFactorsCard : Claim7 := { stood := { row := primesFactorsRow, standIns := [], harness := (true, "52ec94a650b89d6e5ac9105541dd46c1f5086eab4f66de4c0f1decaf6041c01c"), looks := true }, kinds := [], alts := [], laidByText := true, laidKinds := [.sentinel, .sentinel], laidTests := true, laidLooks := .later }
def PrimesFactorsCardSaid : Prop := Claim7.holds Tryd.pinned (.plain (OpenSpec.ofChange primesFactorsSpec)) primesFactorsCard

/-- THE TIED CARD OF 'timbrelaw05.PrimesMemory'. -/
def primesMemoryCard : Claim7 := { stood := { row := primesMemoryRow, standIns := [], harness := (true, "52ec94a650b89d6e5ac9105541dd46c1f5086eab4f66de4c0f1decaf6041c01c"), looks := true }, kinds := [], alts := [], laidByText := true, laidKinds := [.sentinel, .sentinel], laidTests := true, laidLooks := .later }
def PrimesMemoryCardSaid : Prop := Claim7.holds Tryd.pinned (.plain (OpenSpec.ofChange primesMemorySpec)) primesMemoryCard

/-- THE SECOND FORM's CARD OF 'timbrelaw05.PrimesModulo'. -/
def primesModuloUptoCard : Claim7 := { stood := { row := primesModuloUptoRow, standIns := [], harness := (true, "52ec94a650b89d6e5ac9105541dd46c1f5086eab4f66de4c0f1decaf6041c01c"), looks := true }, kinds := [], alts := [], laidByText := true, laidKinds := [.sentinel, .sentinel, .sentinel, .sentinel, .sentinel, .sentinel, .sentinel, .sentinel, .sentinel, .sentinel, .sentinel, .sentinel, .sentinel, .sentinel, .sentinel, .sentinel, .sentinel, .sentinel, .sentinel], laidTests := true, laidLooks := .later }
def PrimesModuloUptoCardSaid : Prop := Claim7.holds Tryd.pinned (.plain (OpenSpec.upto primesModuloSpec)) primesModuloUptoCard

/-- THE SECOND FORM's CARD OF 'timbrelaw05.PrimesGcd'. -/
def primesGcdUptoCard : Claim7 := { stood := { row := primesGcdUptoRow, standIns := [], harness := (true, "52ec94a650b89d6e5ac9105541dd46c1f5086eab4f66de4c0f1decaf6041c01c"), looks := true }, kinds := [], alts := [], laidByText := true, laidKinds := [.sentinel, .sentinel], laidTests := true, laidLooks := .later }
def PrimesGcdUptoCardSaid : Prop := Claim7.holds Tryd.pinned (.plain (OpenSpec.upto primesGcdSpec)) primesGcdUptoCard

/-- THE SECOND FORM's CARD OF 'timbrelaw05.PrimesPowers'. -/
def primesPowersUptoCard : Claim7 := { stood := { row := primesPowersUptoRow, standIns := [], harness := (true, "52ec94a650b89d6e5ac9105541dd46c1f5086eab4f66de4c0f1decaf6041c01c"), looks := true }, kinds := [], alts := [], laidByText := true, laidKinds := [.sentinel, .sentinel], laidTests := true, laidLooks := .later }
def PrimesPowersUptoCardSaid : Prop := Claim7.holds Tryd.pinned (.plain (OpenSpec.upto primesPowersSpec)) primesPowersUptoCard

/-- THE SECOND FORM's CARD OF 'timbrelaw05.PrimesRoots'. -/
def primesRootsUptoCard : Claim7 := { stood := { row := primesRootsUptoRow, standIns := [], harness := (true, "52ec94a650b89d6e5ac9105541dd46c1f5086eab4f66de4c0f1decaf6041c01c"), looks := true }, kinds := [], alts := [], laidByText := true, laidKinds := [.sentinel, .sentinel, .sentinel, .sentinel, .sentinel, .sentinel, .sentinel, .sentinel, .sentinel, .sentinel, .sentinel, .sentinel, .sentinel, .sentinel, .sentinel, .sentinel, .sentinel, .sentinel, .sentinel], laidTests := true, laidLooks := .later }
def PrimesRootsUptoCardSaid : Prop := Claim7.holds Tryd.pinned (.plain (OpenSpec.upto primesRootsSpec)) primesRootsUptoCard

/-- THE SECOND FORM's CARD OF 'timbrelaw05.PrimesSmooths'. -/
def primesSmoothsUptoCard : Claim7 := { stood := { row := primesSmoothsUptoRow, standIns := [], harness := (true, "52ec94a650b89d6e5ac9105541dd46c1f5086eab4f66de4c0f1decaf6041c01c"), looks := true }, kinds := [], alts := [], laidByText := true, laidKinds := [.sentinel, .sentinel, .sentinel, .sentinel, .sentinel, .sentinel, .sentinel, .sentinel, .sentinel, .sentinel, .sentinel, .sentinel, .sentinel, .sentinel, .sentinel, .sentinel, .sentinel, .sentinel, .sentinel], laidTests := true, laidLooks := .later }
def PrimesSmoothsUptoCardSaid : Prop := Claim7.holds Tryd.pinned (.plain (OpenSpec.upto primesSmoothsSpec)) primesSmoothsUptoCard

/-- THE SECOND FORM's CARD OF 'timbrelaw05.PrimesWholes'. -/
def primesWholesUptoCard : Claim7 := { stood := { row := primesWholesUptoRow, standIns := [], harness := (true, "52ec94a650b89d6e5ac9105541dd46c1f5086eab4f66de4c0f1decaf6041c01c"), looks := true }, kinds := [], alts := [], laidByText := true, laidKinds := [.sentinel, .sentinel, .sentinel, .sentinel, .sentinel, .sentinel, .sentinel, .sentinel, .sentinel, .sentinel, .sentinel, .sentinel, .sentinel, .sentinel, .sentinel, .sentinel, .sentinel, .sentinel, .sentinel], laidTests := true, laidLooks := .later }
def PrimesWholesUptoCardSaid : Prop := Claim7.holds Tryd.pinned (.plain (OpenSpec.upto primesWholesSpec)) primesWholesUptoCard

/-- THE SECOND FORM's CARD OF 'timbrelaw05.PrimesFactors'. -/
def primesFactorsUptoCard : Claim7 := { stood := { row := primesFactorsUptoRow, standIns := [], harness := (true, "52ec94a650b89d6e5ac9105541dd46c1f5086eab4f66de4c0f1decaf6041c01c"), looks := true }, kinds := [], alts := [], laidByText := true, laidKinds := [.sentinel, .sentinel], laidTests := true, laidLooks := .later }
def PrimesFactorsUptoCardSaid : Prop := Claim7.holds Tryd.pinned (.plain (OpenSpec.upto primesFactorsSpec)) primesFactorsUptoCard

/-- THE SECOND FORM's CARD OF 'timbrelaw05.PrimesMemory'. -/
def primesMemoryUptoCard : Claim7 := { stood := { row := primesMemoryUptoRow, standIns := [], harness := (true, "52ec94a650b89d6e5ac9105541dd46c1f5086eab4f66de4c0f1decaf6041c01c"), looks := true }, kinds := [], alts := [], laidByText := true, laidKinds := [.sentinel, .sentinel], laidTests := true, laidLooks := .later }
def PrimesMemoryUptoCardSaid : Prop := Claim7.holds Tryd.pinned (.plain (OpenSpec.upto primesMemorySpec)) primesMemoryUptoCard
end Rows
end Go.Proofs.YtifbcaiegalhbaaDoor
