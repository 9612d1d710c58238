/-
  DERIVED. GIVEN WITH THE SEED: THE CARDS: each row of YtgjlldapnodfbaaDoorRows.lean that lists a variable, with what it lists TIED to the program's text (the seventh form; the later family's looks); each row that meets fmt, with fmt's text TOLD by the authors' own Lean function (tested against real Go, not proved from fmt's source: count such statements apart). THE CARD IS WHAT COUNTS. Prove the row's statement (the work); the ties are given (YtgjlldapnodfbaaDoorTie.lean); close each card by the builder's one call (the guide's Derived/Test/ToyasCard.lean, 'card_holds'). Laid BY PROGRAM, IN A SANDBOX (cutbox-door.mjs). By AI agents, Wed Nov 11 2026. No macro, syntax, notation, axiom, sorry.
-/
import Derived.Test.YtgjlldapnodfbaaDoorRows
import GoSem.ClaimSeven
namespace Go.Proofs.YtgjlldapnodfbaaDoor
namespace Rows

/-- THE TIED CARD OF 'timbrelaw14.PlannerChooses'. -/
def plannerChoosesCard : Claim7 := { stood := { row := plannerChoosesRow, standIns := [], harness := (true, "41b7994ee62029bac3283a80e99d9b6d16d709d9da08914cbacbba7977f71eac"), looks := true }, kinds := [], alts := [], laidByText := true, laidKinds := [.sentinel, .sentinel, .sentinel, .sentinel, .sentinel, .sentinel, .sentinel, .sentinel, .sentinel, .sentinel, .sentinel, .sentinel, .sentinel, .sentinel, .sentinel, .sentinel, .sentinel, .sentinel, .sentinel], laidTests := true, laidLooks := .later }
def PlannerChoosesCardSaid : Prop := Claim7.holds Tryd.pinned (.plain (OpenSpec.ofChange plannerChoosesSpec)) plannerChoosesCard

/-- THE TIED CARD OF 'timbrelaw14.PlannerCosts'. -/
def plannerCostsCard : Claim7 := { stood := { row := plannerCostsRow, standIns := [], harness := (true, "41b7994ee62029bac3283a80e99d9b6d16d709d9da08914cbacbba7977f71eac"), looks := true }, kinds := [], alts := [], laidByText := true, laidKinds := [.sentinel, .sentinel, .sentinel, .sentinel, .sentinel, .sentinel, .sentinel, .sentinel, .sentinel, .sentinel, .sentinel, .sentinel, .sentinel, .sentinel, .sentinel, .sentinel, .sentinel, .sentinel, .sentinel], laidTests := true, laidLooks := .later }
def PlannerCostsCardSaid : Prop := Claim7.holds Tryd.pinned (.plain (OpenSpec.ofChange plannerCostsSpec)) plannerCostsCard

/-- THE TIED CARD OF 'timbrelaw14.PlannerGrows'. -/
def plannerGrowsCard : Claim7 := { stood := { row := plannerGrowsRow, standIns := [], harness := (true, "41b7994ee62029bac3283a80e99d9b6d16d709d9da08914cbacbba7977f71eac"), looks := true }, kinds := [], alts := [], laidByText := true, laidKinds := [.sentinel, .sentinel, .sentinel, .sentinel], laidTests := true, laidLooks := .later }
def PlannerGrowsCardSaid : Prop := Claim7.holds Tryd.pinned (.plain (OpenSpec.ofChange plannerGrowsSpec)) plannerGrowsCard

/-- THE TIED CARD OF 'timbrelaw14.PlannerLists'. -/
def plannerListsCard : Claim7 := { stood := { row := plannerListsRow, standIns := [], harness := (true, "41b7994ee62029bac3283a80e99d9b6d16d709d9da08914cbacbba7977f71eac"), looks := true }, kinds := [], alts := [], laidByText := true, laidKinds := [.sentinel, .sentinel, .sentinel, .sentinel], laidTests := true, laidLooks := .later }
def PlannerListsCardSaid : Prop := Claim7.holds Tryd.pinned (.plain (OpenSpec.ofChange plannerListsSpec)) plannerListsCard

/-- THE TIED CARD OF 'timbrelaw14.PlannerBest'. -/
def plannerBestCard : Claim7 := { stood := { row := plannerBestRow, standIns := [], harness := (true, "41b7994ee62029bac3283a80e99d9b6d16d709d9da08914cbacbba7977f71eac"), looks := true }, kinds := [], alts := [], laidByText := true, laidKinds := [.sentinel, .sentinel, .sentinel, .sentinel, .sentinel, .sentinel, .sentinel, .sentinel, .sentinel, .sentinel, .sentinel, .sentinel, .sentinel, .sentinel, .sentinel, .sentinel, .sentinel, .sentinel, .sentinel], laidTests := true, laidLooks := .later }
def PlannerBestCardSaid : Prop := Claim7.holds Tryd.pinned (.plain (OpenSpec.ofChange plannerBestSpec)) plannerBestCard

/-- THE SECOND FORM's CARD OF 'timbrelaw14.PlannerChooses'. -/
def plannerChoosesUptoCard : Claim7 := { stood := { row := plannerChoosesUptoRow, standIns := [], harness := (true, "41b7994ee62029bac3283a80e99d9b6d16d709d9da08914cbacbba7977f71eac"), looks := true }, kinds := [], alts := [], laidByText := true, laidKinds := [.sentinel, .sentinel, .sentinel, .sentinel, .sentinel, .sentinel, .sentinel, .sentinel, .sentinel, .sentinel, .sentinel, .sentinel, .sentinel, .sentinel, .sentinel, .sentinel, .sentinel, .sentinel, .sentinel], laidTests := true, laidLooks := .later }
def PlannerChoosesUptoCardSaid : Prop := Claim7.holds Tryd.pinned (.plain (OpenSpec.upto plannerChoosesSpec)) plannerChoosesUptoCard

/-- THE SECOND FORM's CARD OF 'timbrelaw14.PlannerCosts'. -/
def plannerCostsUptoCard : Claim7 := { stood := { row := plannerCostsUptoRow, standIns := [], harness := (true, "41b7994ee62029bac3283a80e99d9b6d16d709d9da08914cbacbba7977f71eac"), looks := true }, kinds := [], alts := [], laidByText := true, laidKinds := [.sentinel, .sentinel, .sentinel, .sentinel, .sentinel, .sentinel, .sentinel, .sentinel, .sentinel, .sentinel, .sentinel, .sentinel, .sentinel, .sentinel, .sentinel, .sentinel, .sentinel, .sentinel, .sentinel], laidTests := true, laidLooks := .later }
def PlannerCostsUptoCardSaid : Prop := Claim7.holds Tryd.pinned (.plain (OpenSpec.upto plannerCostsSpec)) plannerCostsUptoCard

/-- THE SECOND FORM's CARD OF 'timbrelaw14.PlannerGrows'. -/
def plannerGrowsUptoCard : Claim7 := { stood := { row := plannerGrowsUptoRow, standIns := [], harness := (true, "41b7994ee62029bac3283a80e99d9b6d16d709d9da08914cbacbba7977f71eac"), looks := true }, kinds := [], alts := [], laidByText := true, laidKinds := [.sentinel, .sentinel, .sentinel, .sentinel], laidTests := true, laidLooks := .later }
def PlannerGrowsUptoCardSaid : Prop := Claim7.holds Tryd.pinned (.plain (OpenSpec.upto plannerGrowsSpec)) plannerGrowsUptoCard

/-- THE SECOND FORM's CARD OF 'timbrelaw14.PlannerLists'. -/
def plannerListsUptoCard : Claim7 := { stood := { row := plannerListsUptoRow, standIns := [], harness := (true, "41b7994ee62029bac3283a80e99d9b6d16d709d9da08914cbacbba7977f71eac"), looks := true }, kinds := [], alts := [], laidByText := true, laidKinds := [.sentinel, .sentinel, .sentinel, .sentinel], laidTests := true, laidLooks := .later }
def PlannerListsUptoCardSaid : Prop := Claim7.holds Tryd.pinned (.plain (OpenSpec.upto plannerListsSpec)) plannerListsUptoCard

/-- THE SECOND FORM's CARD OF 'timbrelaw14.PlannerBest'. -/
def plannerBestUptoCard : Claim7 := { stood := { row := plannerBestUptoRow, standIns := [], harness := (true, "41b7994ee62029bac3283a80e99d9b6d16d709d9da08914cbacbba7977f71eac"), looks := true }, kinds := [], alts := [], laidByText := true, laidKinds := [.sentinel, .sentinel, .sentinel, .sentinel, .sentinel, .sentinel, .sentinel, .sentinel, .sentinel, .sentinel, .sentinel, .sentinel, .sentinel, .sentinel, .sentinel, .sentinel, .sentinel, .sentinel, .sentinel], laidTests := true, laidLooks := .later }
def PlannerBestUptoCardSaid : Prop := Claim7.holds Tryd.pinned (.plain (OpenSpec.upto plannerBestSpec)) plannerBestUptoCard
end Rows
end Go.Proofs.YtgjlldapnodfbaaDoor
