/-
  DERIVED. GIVEN WITH THE SEED: THE CARDS: each row of YtbahddjbncinbaaGreatDoorRows.lean that lists a variable, with what it lists TIED to the program's text (the seventh form; the later family's looks); each row that meets fmt, with fmt's text TOLD by the authors' own Lean function (tested against real Go, not proved from fmt's source: count such statements apart). THE CARD IS WHAT COUNTS. Prove the row's statement (the work); the ties are given (YtbahddjbncinbaaGreatDoorTie.lean); close each card by the builder's one call (the guide's Derived/Test/ToyasCard.lean, 'card_holds'). Laid BY PROGRAM, IN A SANDBOX (cutbox-door.mjs). By AI agents, Wed Nov 11 2026. No macro, syntax, notation, axiom, sorry.
-/
import Derived.Test.YtbahddjbncinbaaGreatDoorRows
import GoSem.ClaimSeven
namespace Go.Proofs.YtbahddjbncinbaaGreatDoor
namespace Rows

/-- THE TIED CARD OF 'apographlaw23.TranspositionPairs'. -/
def transpositionPairsCard : Claim7 := { stood := { row := transpositionPairsRow, standIns := [], harness := (true, "6a8a94ca69f88f4fc6aa081aa28695caa96d7725db81d335ac3b9b4c73565480"), looks := true }, kinds := [], alts := [], laidByText := true, laidKinds := [.data, .data, .data, .sentinel, .sentinel], laidTests := true, laidLooks := .later }
def TranspositionPairsCardSaid : Prop := Claim7.holds Tryz.pinned (.plain (OpenSpec.ofChange transpositionPairsSpec)) transpositionPairsCard

/-- THE TIED CARD OF 'apographlaw23.TranspositionUnique'. -/
def transpositionUniqueCard : Claim7 := { stood := { row := transpositionUniqueRow, standIns := [], harness := (true, "6a8a94ca69f88f4fc6aa081aa28695caa96d7725db81d335ac3b9b4c73565480"), looks := true }, kinds := [], alts := [], laidByText := true, laidKinds := [.data, .data, .data, .sentinel, .sentinel], laidTests := true, laidLooks := .later }
def TranspositionUniqueCardSaid : Prop := Claim7.holds Tryz.pinned (.plain (OpenSpec.ofChange transpositionUniqueSpec)) transpositionUniqueCard

/-- THE TIED CARD OF 'apographlaw23.TranspositionEqual'. -/
def transpositionEqualCard : Claim7 := { stood := { row := transpositionEqualRow, standIns := [], harness := (true, "6a8a94ca69f88f4fc6aa081aa28695caa96d7725db81d335ac3b9b4c73565480"), looks := true }, kinds := [], alts := [], laidByText := true, laidKinds := [.data, .data, .data, .sentinel, .sentinel], laidTests := true, laidLooks := .later }
def TranspositionEqualCardSaid : Prop := Claim7.holds Tryz.pinned (.plain (OpenSpec.ofChange transpositionEqualSpec)) transpositionEqualCard

/-- THE TIED CARD OF 'apographlaw23.TranspositionUndone'. -/
def transpositionUndoneCard : Claim7 := { stood := { row := transpositionUndoneRow, standIns := [], harness := (true, "6a8a94ca69f88f4fc6aa081aa28695caa96d7725db81d335ac3b9b4c73565480"), looks := true }, kinds := [], alts := [], laidByText := true, laidKinds := [.data, .data, .data, .sentinel, .sentinel], laidTests := true, laidLooks := .later }
def TranspositionUndoneCardSaid : Prop := Claim7.holds Tryz.pinned (.plain (OpenSpec.ofChange transpositionUndoneSpec)) transpositionUndoneCard

/-- THE TIED CARD OF 'apographlaw23.TranspositionChain'. -/
def transpositionChainCard : Claim7 := { stood := { row := transpositionChainRow, standIns := [], harness := (true, "6a8a94ca69f88f4fc6aa081aa28695caa96d7725db81d335ac3b9b4c73565480"), looks := true }, kinds := [], alts := [], laidByText := true, laidKinds := [.data, .data, .data, .sentinel, .sentinel], laidTests := true, laidLooks := .later }
def TranspositionChainCardSaid : Prop := Claim7.holds Tryz.pinned (.plain (OpenSpec.ofChange transpositionChainSpec)) transpositionChainCard

/-- THE TIED CARD OF 'apographlaw23.TranspositionBlocks'. -/
def transpositionBlocksCard : Claim7 := { stood := { row := transpositionBlocksRow, standIns := [], harness := (true, "6a8a94ca69f88f4fc6aa081aa28695caa96d7725db81d335ac3b9b4c73565480"), looks := true }, kinds := [], alts := [], laidByText := true, laidKinds := [.data, .data, .data, .sentinel, .sentinel], laidTests := true, laidLooks := .later }
def TranspositionBlocksCardSaid : Prop := Claim7.holds Tryz.pinned (.plain (OpenSpec.ofChange transpositionBlocksSpec)) transpositionBlocksCard

/-- THE TIED CARD OF 'apographlaw23.TranspositionChecked'. -/
def transpositionCheckedCard : Claim7 := { stood := { row := transpositionCheckedRow, standIns := [], harness := (true, "6a8a94ca69f88f4fc6aa081aa28695caa96d7725db81d335ac3b9b4c73565480"), looks := true }, kinds := [], alts := [], laidByText := true, laidKinds := [.data, .data, .data, .sentinel, .sentinel], laidTests := true, laidLooks := .later }
def TranspositionCheckedCardSaid : Prop := Claim7.holds Tryz.pinned (.plain (OpenSpec.ofChange transpositionCheckedSpec)) transpositionCheckedCard

/-- THE TIED CARD OF 'apographlaw23.TranspositionMoved'. -/
def transpositionMovedCard : Claim7 := { stood := { row := transpositionMovedRow, standIns := [], harness := (true, "6a8a94ca69f88f4fc6aa081aa28695caa96d7725db81d335ac3b9b4c73565480"), looks := true }, kinds := [], alts := [], laidByText := true, laidKinds := [.data, .data, .data, .sentinel, .sentinel], laidTests := true, laidLooks := .later }
def TranspositionMovedCardSaid : Prop := Claim7.holds Tryz.pinned (.plain (OpenSpec.ofChange transpositionMovedSpec)) transpositionMovedCard

/-- THE TIED CARD OF 'apographlaw23.TranspositionDivided'. -/
def transpositionDividedCard : Claim7 := { stood := { row := transpositionDividedRow, standIns := [], harness := (true, "6a8a94ca69f88f4fc6aa081aa28695caa96d7725db81d335ac3b9b4c73565480"), looks := true }, kinds := [], alts := [], laidByText := true, laidKinds := [.data, .data, .data, .sentinel, .sentinel], laidTests := true, laidLooks := .later }
def TranspositionDividedCardSaid : Prop := Claim7.holds Tryz.pinned (.plain (OpenSpec.ofChange transpositionDividedSpec)) transpositionDividedCard

/-- THE SECOND FORM's CARD OF 'apographlaw23.TranspositionPairs'. -/
def transpositionPairsUptoCard : Claim7 := { stood := { row := transpositionPairsUptoRow, standIns := [], harness := (true, "6a8a94ca69f88f4fc6aa081aa28695caa96d7725db81d335ac3b9b4c73565480"), looks := true }, kinds := [], alts := [], laidByText := true, laidKinds := [.data, .data, .data, .sentinel, .sentinel], laidTests := true, laidLooks := .later }
def TranspositionPairsUptoCardSaid : Prop := Claim7.holds Tryz.pinned (.plain (OpenSpec.upto transpositionPairsSpec)) transpositionPairsUptoCard

/-- THE SECOND FORM's CARD OF 'apographlaw23.TranspositionUnique'. -/
def transpositionUniqueUptoCard : Claim7 := { stood := { row := transpositionUniqueUptoRow, standIns := [], harness := (true, "6a8a94ca69f88f4fc6aa081aa28695caa96d7725db81d335ac3b9b4c73565480"), looks := true }, kinds := [], alts := [], laidByText := true, laidKinds := [.data, .data, .data, .sentinel, .sentinel], laidTests := true, laidLooks := .later }
def TranspositionUniqueUptoCardSaid : Prop := Claim7.holds Tryz.pinned (.plain (OpenSpec.upto transpositionUniqueSpec)) transpositionUniqueUptoCard

/-- THE SECOND FORM's CARD OF 'apographlaw23.TranspositionEqual'. -/
def transpositionEqualUptoCard : Claim7 := { stood := { row := transpositionEqualUptoRow, standIns := [], harness := (true, "6a8a94ca69f88f4fc6aa081aa28695caa96d7725db81d335ac3b9b4c73565480"), looks := true }, kinds := [], alts := [], laidByText := true, laidKinds := [.data, .data, .data, .sentinel, .sentinel], laidTests := true, laidLooks := .later }
def TranspositionEqualUptoCardSaid : Prop := Claim7.holds Tryz.pinned (.plain (OpenSpec.upto transpositionEqualSpec)) transpositionEqualUptoCard

/-- THE SECOND FORM's CARD OF 'apographlaw23.TranspositionUndone'. -/
def transpositionUndoneUptoCard : Claim7 := { stood := { row := transpositionUndoneUptoRow, standIns := [], harness := (true, "6a8a94ca69f88f4fc6aa081aa28695caa96d7725db81d335ac3b9b4c73565480"), looks := true }, kinds := [], alts := [], laidByText := true, laidKinds := [.data, .data, .data, .sentinel, .sentinel], laidTests := true, laidLooks := .later }
def TranspositionUndoneUptoCardSaid : Prop := Claim7.holds Tryz.pinned (.plain (OpenSpec.upto transpositionUndoneSpec)) transpositionUndoneUptoCard

/-- THE SECOND FORM's CARD OF 'apographlaw23.TranspositionChain'. -/
def transpositionChainUptoCard : Claim7 := { stood := { row := transpositionChainUptoRow, standIns := [], harness := (true, "6a8a94ca69f88f4fc6aa081aa28695caa96d7725db81d335ac3b9b4c73565480"), looks := true }, kinds := [], alts := [], laidByText := true, laidKinds := [.data, .data, .data, .sentinel, .sentinel], laidTests := true, laidLooks := .later }
def TranspositionChainUptoCardSaid : Prop := Claim7.holds Tryz.pinned (.plain (OpenSpec.upto transpositionChainSpec)) transpositionChainUptoCard

/-- THE SECOND FORM's CARD OF 'apographlaw23.TranspositionBlocks'. -/
def transpositionBlocksUptoCard : Claim7 := { stood := { row := transpositionBlocksUptoRow, standIns := [], harness := (true, "6a8a94ca69f88f4fc6aa081aa28695caa96d7725db81d335ac3b9b4c73565480"), looks := true }, kinds := [], alts := [], laidByText := true, laidKinds := [.data, .data, .data, .sentinel, .sentinel], laidTests := true, laidLooks := .later }
def TranspositionBlocksUptoCardSaid : Prop := Claim7.holds Tryz.pinned (.plain (OpenSpec.upto transpositionBlocksSpec)) transpositionBlocksUptoCard

/-- THE SECOND FORM's CARD OF 'apographlaw23.TranspositionChecked'. -/
def transpositionCheckedUptoCard : Claim7 := { stood := { row := transpositionCheckedUptoRow, standIns := [], harness := (true, "6a8a94ca69f88f4fc6aa081aa28695caa96d7725db81d335ac3b9b4c73565480"), looks := true }, kinds := [], alts := [], laidByText := true, laidKinds := [.data, .data, .data, .sentinel, .sentinel], laidTests := true, laidLooks := .later }
def TranspositionCheckedUptoCardSaid : Prop := Claim7.holds Tryz.pinned (.plain (OpenSpec.upto transpositionCheckedSpec)) transpositionCheckedUptoCard

/-- THE SECOND FORM's CARD OF 'apographlaw23.TranspositionMoved'. -/
def transpositionMovedUptoCard : Claim7 := { stood := { row := transpositionMovedUptoRow, standIns := [], harness := (true, "6a8a94ca69f88f4fc6aa081aa28695caa96d7725db81d335ac3b9b4c73565480"), looks := true }, kinds := [], alts := [], laidByText := true, laidKinds := [.data, .data, .data, .sentinel, .sentinel], laidTests := true, laidLooks := .later }
def TranspositionMovedUptoCardSaid : Prop := Claim7.holds Tryz.pinned (.plain (OpenSpec.upto transpositionMovedSpec)) transpositionMovedUptoCard

/-- THE SECOND FORM's CARD OF 'apographlaw23.TranspositionDivided'. -/
def transpositionDividedUptoCard : Claim7 := { stood := { row := transpositionDividedUptoRow, standIns := [], harness := (true, "6a8a94ca69f88f4fc6aa081aa28695caa96d7725db81d335ac3b9b4c73565480"), looks := true }, kinds := [], alts := [], laidByText := true, laidKinds := [.data, .data, .data, .sentinel, .sentinel], laidTests := true, laidLooks := .later }
def TranspositionDividedUptoCardSaid : Prop := Claim7.holds Tryz.pinned (.plain (OpenSpec.upto transpositionDividedSpec)) transpositionDividedUptoCard
end Rows
end Go.Proofs.YtbahddjbncinbaaGreatDoor
