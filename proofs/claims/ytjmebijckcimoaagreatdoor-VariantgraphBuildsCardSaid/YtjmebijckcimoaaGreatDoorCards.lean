/-
  DERIVED. GIVEN WITH THE SEED: THE CARDS: each row of YtjmebijckcimoaaGreatDoorRows.lean that lists a variable, with what it lists TIED to the program's text (the seventh form; the later family's looks); each row that meets fmt, with fmt's text TOLD by the authors' own Lean function (tested against real Go, not proved from fmt's source: count such statements apart). THE CARD IS WHAT COUNTS. Prove the row's statement (the work); the ties are given (YtjmebijckcimoaaGreatDoorTie.lean); close each card by the builder's one call (the guide's Derived/Test/ToyasCard.lean, 'card_holds'). Laid BY PROGRAM, IN A SANDBOX (cutbox-door.mjs). By AI agents, Wed Nov 11 2026. No macro, syntax, notation, axiom, sorry.
-/
import Derived.Test.YtjmebijckcimoaaGreatDoorRows
import GoSem.ClaimSeven
namespace Go.Proofs.YtjmebijckcimoaaGreatDoor
namespace Rows

/-- THE TIED CARD OF 'apographlaw24.VariantgraphBuilds'. -/
def variantgraphBuildsCard : Claim7 := { stood := { row := variantgraphBuildsRow, standIns := [], harness := (true, "6ffe4555634e2b9f20e6eea44404021920b68e5ad0dfa28b8db2102622612fa1"), looks := true }, kinds := [], alts := [], laidByText := true, laidKinds := [.data, .data, .data, .sentinel, .sentinel], laidTests := true, laidLooks := .later }
def VariantgraphBuildsCardSaid : Prop := Claim7.holds Tryz.pinned (.plain (OpenSpec.ofChange variantgraphBuildsSpec)) variantgraphBuildsCard

/-- THE TIED CARD OF 'apographlaw24.VariantgraphFlows'. -/
def variantgraphFlowsCard : Claim7 := { stood := { row := variantgraphFlowsRow, standIns := [], harness := (true, "6ffe4555634e2b9f20e6eea44404021920b68e5ad0dfa28b8db2102622612fa1"), looks := true }, kinds := [], alts := [], laidByText := true, laidKinds := [.data, .data, .data, .sentinel, .sentinel], laidTests := true, laidLooks := .later }
def VariantgraphFlowsCardSaid : Prop := Claim7.holds Tryz.pinned (.plain (OpenSpec.ofChange variantgraphFlowsSpec)) variantgraphFlowsCard

/-- THE TIED CARD OF 'apographlaw24.VariantgraphSpells'. -/
def variantgraphSpellsCard : Claim7 := { stood := { row := variantgraphSpellsRow, standIns := [], harness := (true, "6ffe4555634e2b9f20e6eea44404021920b68e5ad0dfa28b8db2102622612fa1"), looks := true }, kinds := [], alts := [], laidByText := true, laidKinds := [.data, .data, .data, .sentinel, .sentinel], laidTests := true, laidLooks := .later }
def VariantgraphSpellsCardSaid : Prop := Claim7.holds Tryz.pinned (.plain (OpenSpec.ofChange variantgraphSpellsSpec)) variantgraphSpellsCard

/-- THE TIED CARD OF 'apographlaw24.VariantgraphNodes'. -/
def variantgraphNodesCard : Claim7 := { stood := { row := variantgraphNodesRow, standIns := [], harness := (true, "6ffe4555634e2b9f20e6eea44404021920b68e5ad0dfa28b8db2102622612fa1"), looks := true }, kinds := [], alts := [], laidByText := true, laidKinds := [.data, .data, .data, .sentinel, .sentinel], laidTests := true, laidLooks := .later }
def VariantgraphNodesCardSaid : Prop := Claim7.holds Tryz.pinned (.plain (OpenSpec.ofChange variantgraphNodesSpec)) variantgraphNodesCard

/-- THE TIED CARD OF 'apographlaw24.VariantgraphChecks'. -/
def variantgraphChecksCard : Claim7 := { stood := { row := variantgraphChecksRow, standIns := [], harness := (true, "6ffe4555634e2b9f20e6eea44404021920b68e5ad0dfa28b8db2102622612fa1"), looks := true }, kinds := [], alts := [], laidByText := true, laidKinds := [.data, .data, .data, .sentinel, .sentinel], laidTests := true, laidLooks := .later }
def VariantgraphChecksCardSaid : Prop := Claim7.holds Tryz.pinned (.plain (OpenSpec.ofChange variantgraphChecksSpec)) variantgraphChecksCard

/-- THE TIED CARD OF 'apographlaw24.VariantgraphOrders'. -/
def variantgraphOrdersCard : Claim7 := { stood := { row := variantgraphOrdersRow, standIns := [], harness := (true, "6ffe4555634e2b9f20e6eea44404021920b68e5ad0dfa28b8db2102622612fa1"), looks := true }, kinds := [], alts := [], laidByText := true, laidKinds := [.data, .data, .data, .sentinel, .sentinel], laidTests := true, laidLooks := .later }
def VariantgraphOrdersCardSaid : Prop := Claim7.holds Tryz.pinned (.plain (OpenSpec.ofChange variantgraphOrdersSpec)) variantgraphOrdersCard

/-- THE TIED CARD OF 'apographlaw24.VariantgraphContracts'. -/
def variantgraphContractsCard : Claim7 := { stood := { row := variantgraphContractsRow, standIns := [], harness := (true, "6ffe4555634e2b9f20e6eea44404021920b68e5ad0dfa28b8db2102622612fa1"), looks := true }, kinds := [], alts := [], laidByText := true, laidKinds := [.data, .data, .data, .sentinel, .sentinel], laidTests := true, laidLooks := .later }
def VariantgraphContractsCardSaid : Prop := Claim7.holds Tryz.pinned (.plain (OpenSpec.ofChange variantgraphContractsSpec)) variantgraphContractsCard

/-- THE TIED CARD OF 'apographlaw24.VariantgraphPaths'. -/
def variantgraphPathsCard : Claim7 := { stood := { row := variantgraphPathsRow, standIns := [], harness := (true, "6ffe4555634e2b9f20e6eea44404021920b68e5ad0dfa28b8db2102622612fa1"), looks := true }, kinds := [], alts := [], laidByText := true, laidKinds := [.data, .data, .data, .sentinel, .sentinel], laidTests := true, laidLooks := .later }
def VariantgraphPathsCardSaid : Prop := Claim7.holds Tryz.pinned (.plain (OpenSpec.ofChange variantgraphPathsSpec)) variantgraphPathsCard

/-- THE SECOND FORM's CARD OF 'apographlaw24.VariantgraphBuilds'. -/
def variantgraphBuildsUptoCard : Claim7 := { stood := { row := variantgraphBuildsUptoRow, standIns := [], harness := (true, "6ffe4555634e2b9f20e6eea44404021920b68e5ad0dfa28b8db2102622612fa1"), looks := true }, kinds := [], alts := [], laidByText := true, laidKinds := [.data, .data, .data, .sentinel, .sentinel], laidTests := true, laidLooks := .later }
def VariantgraphBuildsUptoCardSaid : Prop := Claim7.holds Tryz.pinned (.plain (OpenSpec.upto variantgraphBuildsSpec)) variantgraphBuildsUptoCard

/-- THE SECOND FORM's CARD OF 'apographlaw24.VariantgraphFlows'. -/
def variantgraphFlowsUptoCard : Claim7 := { stood := { row := variantgraphFlowsUptoRow, standIns := [], harness := (true, "6ffe4555634e2b9f20e6eea44404021920b68e5ad0dfa28b8db2102622612fa1"), looks := true }, kinds := [], alts := [], laidByText := true, laidKinds := [.data, .data, .data, .sentinel, .sentinel], laidTests := true, laidLooks := .later }
def VariantgraphFlowsUptoCardSaid : Prop := Claim7.holds Tryz.pinned (.plain (OpenSpec.upto variantgraphFlowsSpec)) variantgraphFlowsUptoCard

/-- THE SECOND FORM's CARD OF 'apographlaw24.VariantgraphSpells'. -/
def variantgraphSpellsUptoCard : Claim7 := { stood := { row := variantgraphSpellsUptoRow, standIns := [], harness := (true, "6ffe4555634e2b9f20e6eea44404021920b68e5ad0dfa28b8db2102622612fa1"), looks := true }, kinds := [], alts := [], laidByText := true, laidKinds := [.data, .data, .data, .sentinel, .sentinel], laidTests := true, laidLooks := .later }
def VariantgraphSpellsUptoCardSaid : Prop := Claim7.holds Tryz.pinned (.plain (OpenSpec.upto variantgraphSpellsSpec)) variantgraphSpellsUptoCard

/-- THE SECOND FORM's CARD OF 'apographlaw24.VariantgraphNodes'. -/
def variantgraphNodesUptoCard : Claim7 := { stood := { row := variantgraphNodesUptoRow, standIns := [], harness := (true, "6ffe4555634e2b9f20e6eea44404021920b68e5ad0dfa28b8db2102622612fa1"), looks := true }, kinds := [], alts := [], laidByText := true, laidKinds := [.data, .data, .data, .sentinel, .sentinel], laidTests := true, laidLooks := .later }
def VariantgraphNodesUptoCardSaid : Prop := Claim7.holds Tryz.pinned (.plain (OpenSpec.upto variantgraphNodesSpec)) variantgraphNodesUptoCard

/-- THE SECOND FORM's CARD OF 'apographlaw24.VariantgraphChecks'. -/
def variantgraphChecksUptoCard : Claim7 := { stood := { row := variantgraphChecksUptoRow, standIns := [], harness := (true, "6ffe4555634e2b9f20e6eea44404021920b68e5ad0dfa28b8db2102622612fa1"), looks := true }, kinds := [], alts := [], laidByText := true, laidKinds := [.data, .data, .data, .sentinel, .sentinel], laidTests := true, laidLooks := .later }
def VariantgraphChecksUptoCardSaid : Prop := Claim7.holds Tryz.pinned (.plain (OpenSpec.upto variantgraphChecksSpec)) variantgraphChecksUptoCard

/-- THE SECOND FORM's CARD OF 'apographlaw24.VariantgraphOrders'. -/
def variantgraphOrdersUptoCard : Claim7 := { stood := { row := variantgraphOrdersUptoRow, standIns := [], harness := (true, "6ffe4555634e2b9f20e6eea44404021920b68e5ad0dfa28b8db2102622612fa1"), looks := true }, kinds := [], alts := [], laidByText := true, laidKinds := [.data, .data, .data, .sentinel, .sentinel], laidTests := true, laidLooks := .later }
def VariantgraphOrdersUptoCardSaid : Prop := Claim7.holds Tryz.pinned (.plain (OpenSpec.upto variantgraphOrdersSpec)) variantgraphOrdersUptoCard

/-- THE SECOND FORM's CARD OF 'apographlaw24.VariantgraphContracts'. -/
def variantgraphContractsUptoCard : Claim7 := { stood := { row := variantgraphContractsUptoRow, standIns := [], harness := (true, "6ffe4555634e2b9f20e6eea44404021920b68e5ad0dfa28b8db2102622612fa1"), looks := true }, kinds := [], alts := [], laidByText := true, laidKinds := [.data, .data, .data, .sentinel, .sentinel], laidTests := true, laidLooks := .later }
def VariantgraphContractsUptoCardSaid : Prop := Claim7.holds Tryz.pinned (.plain (OpenSpec.upto variantgraphContractsSpec)) variantgraphContractsUptoCard

/-- THE SECOND FORM's CARD OF 'apographlaw24.VariantgraphPaths'. -/
def variantgraphPathsUptoCard : Claim7 := { stood := { row := variantgraphPathsUptoRow, standIns := [], harness := (true, "6ffe4555634e2b9f20e6eea44404021920b68e5ad0dfa28b8db2102622612fa1"), looks := true }, kinds := [], alts := [], laidByText := true, laidKinds := [.data, .data, .data, .sentinel, .sentinel], laidTests := true, laidLooks := .later }
def VariantgraphPathsUptoCardSaid : Prop := Claim7.holds Tryz.pinned (.plain (OpenSpec.upto variantgraphPathsSpec)) variantgraphPathsUptoCard
end Rows
end Go.Proofs.YtjmebijckcimoaaGreatDoor
