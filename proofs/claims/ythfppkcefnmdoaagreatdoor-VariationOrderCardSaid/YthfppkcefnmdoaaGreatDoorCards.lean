/-
  DERIVED. GIVEN WITH THE SEED: THE CARDS: each row of YthfppkcefnmdoaaGreatDoorRows.lean that lists a variable, with what it lists TIED to the program's text (the seventh form; the later family's looks); each row that meets fmt, with fmt's text TOLD by the authors' own Lean function (tested against real Go, not proved from fmt's source: count such statements apart). THE CARD IS WHAT COUNTS. Prove the row's statement (the work); the ties are given (YthfppkcefnmdoaaGreatDoorTie.lean); close each card by the builder's one call (the guide's Derived/Test/ToyasCard.lean, 'card_holds'). Laid BY PROGRAM, IN A SANDBOX (cutbox-door.mjs). By AI agents, Wed Nov 11 2026. No macro, syntax, notation, axiom, sorry.
-/
import Derived.Test.YthfppkcefnmdoaaGreatDoorRows
import GoSem.ClaimSeven
namespace Go.Proofs.YthfppkcefnmdoaaGreatDoor
namespace Rows

/-- THE TIED CARD OF 'apographlaw25.VariationReadings'. -/
def variationReadingsCard : Claim7 := { stood := { row := variationReadingsRow, standIns := [], harness := (true, "69cceac869b8a30733409e5aae3be1c717af91dc9b351335b4638bac4e4b140a"), looks := true }, kinds := [], alts := [], laidByText := true, laidKinds := [.data, .data, .data, .sentinel, .sentinel], laidTests := true, laidLooks := .later }
def VariationReadingsCardSaid : Prop := Claim7.holds Tryz.pinned (.plain (OpenSpec.ofChange variationReadingsSpec)) variationReadingsCard

/-- THE TIED CARD OF 'apographlaw25.VariationPlaces'. -/
def variationPlacesCard : Claim7 := { stood := { row := variationPlacesRow, standIns := [], harness := (true, "69cceac869b8a30733409e5aae3be1c717af91dc9b351335b4638bac4e4b140a"), looks := true }, kinds := [], alts := [], laidByText := true, laidKinds := [.data, .data, .data, .sentinel, .sentinel], laidTests := true, laidLooks := .later }
def VariationPlacesCardSaid : Prop := Claim7.holds Tryz.pinned (.plain (OpenSpec.ofChange variationPlacesSpec)) variationPlacesCard

/-- THE TIED CARD OF 'apographlaw25.VariationJoin'. -/
def variationJoinCard : Claim7 := { stood := { row := variationJoinRow, standIns := [], harness := (true, "69cceac869b8a30733409e5aae3be1c717af91dc9b351335b4638bac4e4b140a"), looks := true }, kinds := [], alts := [], laidByText := true, laidKinds := [.data, .data, .data, .sentinel, .sentinel], laidTests := true, laidLooks := .later }
def VariationJoinCardSaid : Prop := Claim7.holds Tryz.pinned (.plain (OpenSpec.ofChange variationJoinSpec)) variationJoinCard

/-- THE TIED CARD OF 'apographlaw25.VariationStates'. -/
def variationStatesCard : Claim7 := { stood := { row := variationStatesRow, standIns := [], harness := (true, "69cceac869b8a30733409e5aae3be1c717af91dc9b351335b4638bac4e4b140a"), looks := true }, kinds := [], alts := [], laidByText := true, laidKinds := [.data, .data, .data, .sentinel, .sentinel], laidTests := true, laidLooks := .later }
def VariationStatesCardSaid : Prop := Claim7.holds Tryz.pinned (.plain (OpenSpec.ofChange variationStatesSpec)) variationStatesCard

/-- THE TIED CARD OF 'apographlaw25.VariationUnits'. -/
def variationUnitsCard : Claim7 := { stood := { row := variationUnitsRow, standIns := [], harness := (true, "69cceac869b8a30733409e5aae3be1c717af91dc9b351335b4638bac4e4b140a"), looks := true }, kinds := [], alts := [], laidByText := true, laidKinds := [.data, .data, .data, .sentinel, .sentinel], laidTests := true, laidLooks := .later }
def VariationUnitsCardSaid : Prop := Claim7.holds Tryz.pinned (.plain (OpenSpec.ofChange variationUnitsSpec)) variationUnitsCard

/-- THE TIED CARD OF 'apographlaw25.VariationOthers'. -/
def variationOthersCard : Claim7 := { stood := { row := variationOthersRow, standIns := [], harness := (true, "69cceac869b8a30733409e5aae3be1c717af91dc9b351335b4638bac4e4b140a"), looks := true }, kinds := [], alts := [], laidByText := true, laidKinds := [.data, .data, .data, .sentinel, .sentinel], laidTests := true, laidLooks := .later }
def VariationOthersCardSaid : Prop := Claim7.holds Tryz.pinned (.plain (OpenSpec.ofChange variationOthersSpec)) variationOthersCard

/-- THE TIED CARD OF 'apographlaw25.VariationTexts'. -/
def variationTextsCard : Claim7 := { stood := { row := variationTextsRow, standIns := [], harness := (true, "69cceac869b8a30733409e5aae3be1c717af91dc9b351335b4638bac4e4b140a"), looks := true }, kinds := [], alts := [], laidByText := true, laidKinds := [.data, .data, .data, .sentinel, .sentinel], laidTests := true, laidLooks := .later }
def VariationTextsCardSaid : Prop := Claim7.holds Tryz.pinned (.plain (OpenSpec.ofChange variationTextsSpec)) variationTextsCard

/-- THE TIED CARD OF 'apographlaw25.VariationOrder'. -/
def variationOrderCard : Claim7 := { stood := { row := variationOrderRow, standIns := [], harness := (true, "69cceac869b8a30733409e5aae3be1c717af91dc9b351335b4638bac4e4b140a"), looks := true }, kinds := [], alts := [], laidByText := true, laidKinds := [.data, .data, .data, .sentinel, .sentinel], laidTests := true, laidLooks := .later }
def VariationOrderCardSaid : Prop := Claim7.holds Tryz.pinned (.plain (OpenSpec.ofChange variationOrderSpec)) variationOrderCard

/-- THE SECOND FORM's CARD OF 'apographlaw25.VariationReadings'. -/
def variationReadingsUptoCard : Claim7 := { stood := { row := variationReadingsUptoRow, standIns := [], harness := (true, "69cceac869b8a30733409e5aae3be1c717af91dc9b351335b4638bac4e4b140a"), looks := true }, kinds := [], alts := [], laidByText := true, laidKinds := [.data, .data, .data, .sentinel, .sentinel], laidTests := true, laidLooks := .later }
def VariationReadingsUptoCardSaid : Prop := Claim7.holds Tryz.pinned (.plain (OpenSpec.upto variationReadingsSpec)) variationReadingsUptoCard

/-- THE SECOND FORM's CARD OF 'apographlaw25.VariationPlaces'. -/
def variationPlacesUptoCard : Claim7 := { stood := { row := variationPlacesUptoRow, standIns := [], harness := (true, "69cceac869b8a30733409e5aae3be1c717af91dc9b351335b4638bac4e4b140a"), looks := true }, kinds := [], alts := [], laidByText := true, laidKinds := [.data, .data, .data, .sentinel, .sentinel], laidTests := true, laidLooks := .later }
def VariationPlacesUptoCardSaid : Prop := Claim7.holds Tryz.pinned (.plain (OpenSpec.upto variationPlacesSpec)) variationPlacesUptoCard

/-- THE SECOND FORM's CARD OF 'apographlaw25.VariationJoin'. -/
def variationJoinUptoCard : Claim7 := { stood := { row := variationJoinUptoRow, standIns := [], harness := (true, "69cceac869b8a30733409e5aae3be1c717af91dc9b351335b4638bac4e4b140a"), looks := true }, kinds := [], alts := [], laidByText := true, laidKinds := [.data, .data, .data, .sentinel, .sentinel], laidTests := true, laidLooks := .later }
def VariationJoinUptoCardSaid : Prop := Claim7.holds Tryz.pinned (.plain (OpenSpec.upto variationJoinSpec)) variationJoinUptoCard

/-- THE SECOND FORM's CARD OF 'apographlaw25.VariationStates'. -/
def variationStatesUptoCard : Claim7 := { stood := { row := variationStatesUptoRow, standIns := [], harness := (true, "69cceac869b8a30733409e5aae3be1c717af91dc9b351335b4638bac4e4b140a"), looks := true }, kinds := [], alts := [], laidByText := true, laidKinds := [.data, .data, .data, .sentinel, .sentinel], laidTests := true, laidLooks := .later }
def VariationStatesUptoCardSaid : Prop := Claim7.holds Tryz.pinned (.plain (OpenSpec.upto variationStatesSpec)) variationStatesUptoCard

/-- THE SECOND FORM's CARD OF 'apographlaw25.VariationUnits'. -/
def variationUnitsUptoCard : Claim7 := { stood := { row := variationUnitsUptoRow, standIns := [], harness := (true, "69cceac869b8a30733409e5aae3be1c717af91dc9b351335b4638bac4e4b140a"), looks := true }, kinds := [], alts := [], laidByText := true, laidKinds := [.data, .data, .data, .sentinel, .sentinel], laidTests := true, laidLooks := .later }
def VariationUnitsUptoCardSaid : Prop := Claim7.holds Tryz.pinned (.plain (OpenSpec.upto variationUnitsSpec)) variationUnitsUptoCard

/-- THE SECOND FORM's CARD OF 'apographlaw25.VariationOthers'. -/
def variationOthersUptoCard : Claim7 := { stood := { row := variationOthersUptoRow, standIns := [], harness := (true, "69cceac869b8a30733409e5aae3be1c717af91dc9b351335b4638bac4e4b140a"), looks := true }, kinds := [], alts := [], laidByText := true, laidKinds := [.data, .data, .data, .sentinel, .sentinel], laidTests := true, laidLooks := .later }
def VariationOthersUptoCardSaid : Prop := Claim7.holds Tryz.pinned (.plain (OpenSpec.upto variationOthersSpec)) variationOthersUptoCard

/-- THE SECOND FORM's CARD OF 'apographlaw25.VariationTexts'. -/
def variationTextsUptoCard : Claim7 := { stood := { row := variationTextsUptoRow, standIns := [], harness := (true, "69cceac869b8a30733409e5aae3be1c717af91dc9b351335b4638bac4e4b140a"), looks := true }, kinds := [], alts := [], laidByText := true, laidKinds := [.data, .data, .data, .sentinel, .sentinel], laidTests := true, laidLooks := .later }
def VariationTextsUptoCardSaid : Prop := Claim7.holds Tryz.pinned (.plain (OpenSpec.upto variationTextsSpec)) variationTextsUptoCard

/-- THE SECOND FORM's CARD OF 'apographlaw25.VariationOrder'. -/
def variationOrderUptoCard : Claim7 := { stood := { row := variationOrderUptoRow, standIns := [], harness := (true, "69cceac869b8a30733409e5aae3be1c717af91dc9b351335b4638bac4e4b140a"), looks := true }, kinds := [], alts := [], laidByText := true, laidKinds := [.data, .data, .data, .sentinel, .sentinel], laidTests := true, laidLooks := .later }
def VariationOrderUptoCardSaid : Prop := Claim7.holds Tryz.pinned (.plain (OpenSpec.upto variationOrderSpec)) variationOrderUptoCard
end Rows
end Go.Proofs.YthfppkcefnmdoaaGreatDoor
