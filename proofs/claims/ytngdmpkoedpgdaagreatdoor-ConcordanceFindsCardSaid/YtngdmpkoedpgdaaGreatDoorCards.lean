/-
  DERIVED. GIVEN WITH THE SEED: THE CARDS: each row of YtngdmpkoedpgdaaGreatDoorRows.lean that lists a variable, with what it lists TIED to the program's text (the seventh form; the later family's looks); each row that meets fmt, with fmt's text TOLD by the authors' own Lean function (tested against real Go, not proved from fmt's source: count such statements apart). THE CARD IS WHAT COUNTS. Prove the row's statement (the work); the ties are given (YtngdmpkoedpgdaaGreatDoorTie.lean); close each card by the builder's one call (the guide's Derived/Test/ToyasCard.lean, 'card_holds'). Laid BY PROGRAM, IN A SANDBOX (cutbox-door.mjs). By AI agents, Wed Nov 11 2026. No macro, syntax, notation, axiom, sorry.
-/
import Derived.Test.YtngdmpkoedpgdaaGreatDoorRows
import GoSem.ClaimSeven
namespace Go.Proofs.YtngdmpkoedpgdaaGreatDoor
namespace Rows

/-- THE TIED CARD OF 'apographlaw56.ConcordanceComplete'. -/
def concordanceCompleteCard : Claim7 := { stood := { row := concordanceCompleteRow, standIns := [], harness := (true, "987e8f1020761b70f3dca35b1264babf2287f6c3d92b6e8a56f952ecaa0138b3"), looks := true }, kinds := [], alts := [], laidByText := true, laidKinds := [.data, .data, .data], laidTests := true, laidLooks := .later }
def ConcordanceCompleteCardSaid : Prop := Claim7.holds Tryz.pinned (.plain (OpenSpec.ofChange concordanceCompleteSpec)) concordanceCompleteCard

/-- THE TIED CARD OF 'apographlaw56.ConcordanceFrequent'. -/
def concordanceFrequentCard : Claim7 := { stood := { row := concordanceFrequentRow, standIns := [], harness := (true, "987e8f1020761b70f3dca35b1264babf2287f6c3d92b6e8a56f952ecaa0138b3"), looks := true }, kinds := [], alts := [], laidByText := true, laidKinds := [.data, .data, .data], laidTests := true, laidLooks := .later }
def ConcordanceFrequentCardSaid : Prop := Claim7.holds Tryz.pinned (.plain (OpenSpec.ofChange concordanceFrequentSpec)) concordanceFrequentCard

/-- THE TIED CARD OF 'apographlaw56.ConcordanceMerges'. -/
def concordanceMergesCard : Claim7 := { stood := { row := concordanceMergesRow, standIns := [], harness := (true, "987e8f1020761b70f3dca35b1264babf2287f6c3d92b6e8a56f952ecaa0138b3"), looks := true }, kinds := [], alts := [], laidByText := true, laidKinds := [.data, .data, .data], laidTests := true, laidLooks := .later }
def ConcordanceMergesCardSaid : Prop := Claim7.holds Tryz.pinned (.plain (OpenSpec.ofChange concordanceMergesSpec)) concordanceMergesCard

/-- THE TIED CARD OF 'apographlaw56.ConcordanceContexts'. -/
def concordanceContextsCard : Claim7 := { stood := { row := concordanceContextsRow, standIns := [], harness := (true, "987e8f1020761b70f3dca35b1264babf2287f6c3d92b6e8a56f952ecaa0138b3"), looks := true }, kinds := [], alts := [], laidByText := true, laidKinds := [.data, .data, .data], laidTests := true, laidLooks := .later }
def ConcordanceContextsCardSaid : Prop := Claim7.holds Tryz.pinned (.plain (OpenSpec.ofChange concordanceContextsSpec)) concordanceContextsCard

/-- THE TIED CARD OF 'apographlaw56.ConcordanceFinds'. -/
def concordanceFindsCard : Claim7 := { stood := { row := concordanceFindsRow, standIns := [], harness := (true, "987e8f1020761b70f3dca35b1264babf2287f6c3d92b6e8a56f952ecaa0138b3"), looks := true }, kinds := [], alts := [], laidByText := true, laidKinds := [.data, .data, .data, .data, .data, .data, .pinned, .pinned], laidTests := true, laidLooks := .later }
def ConcordanceFindsCardSaid : Prop := Claim7.holds Tryz.pinned (.plain (OpenSpec.ofChange concordanceFindsSpec)) concordanceFindsCard

/-- THE TIED CARD OF 'apographlaw56.ConcordanceNames'. -/
def concordanceNamesCard : Claim7 := { stood := { row := concordanceNamesRow, standIns := [], harness := (true, "987e8f1020761b70f3dca35b1264babf2287f6c3d92b6e8a56f952ecaa0138b3"), looks := true }, kinds := [], alts := [], laidByText := true, laidKinds := [.data, .data, .data, .sentinel, .sentinel], laidTests := true, laidLooks := .later }
def ConcordanceNamesCardSaid : Prop := Claim7.holds Tryz.pinned (.plain (OpenSpec.ofChange concordanceNamesSpec)) concordanceNamesCard

/-- THE TIED CARD OF 'apographlaw56.ConcordanceWords'. -/
def concordanceWordsCard : Claim7 := { stood := { row := concordanceWordsRow, standIns := [], harness := (true, "987e8f1020761b70f3dca35b1264babf2287f6c3d92b6e8a56f952ecaa0138b3"), looks := true }, kinds := [], alts := [], laidByText := true, laidKinds := [.data, .data, .data, .sentinel, .sentinel], laidTests := true, laidLooks := .later }
def ConcordanceWordsCardSaid : Prop := Claim7.holds Tryz.pinned (.plain (OpenSpec.ofChange concordanceWordsSpec)) concordanceWordsCard

/-- THE TIED CARD OF 'apographlaw56.ConcordanceTexts'. -/
def concordanceTextsCard : Claim7 := { stood := { row := concordanceTextsRow, standIns := [], harness := (true, "987e8f1020761b70f3dca35b1264babf2287f6c3d92b6e8a56f952ecaa0138b3"), looks := true }, kinds := [], alts := [], laidByText := true, laidKinds := [.data, .data, .data, .data, .sentinel, .sentinel, .pinned], laidTests := true, laidLooks := .later }
def ConcordanceTextsCardSaid : Prop := Claim7.holds Tryz.pinned (.plain (OpenSpec.ofChange concordanceTextsSpec)) concordanceTextsCard

/-- THE TIED CARD OF 'apographlaw56.ConcordanceLists'. -/
def concordanceListsCard : Claim7 := { stood := { row := concordanceListsRow, standIns := [], harness := (true, "987e8f1020761b70f3dca35b1264babf2287f6c3d92b6e8a56f952ecaa0138b3"), looks := true }, kinds := [], alts := [], laidByText := true, laidKinds := [.data, .data, .data, .data, .sentinel, .sentinel, .pinned], laidTests := true, laidLooks := .later }
def ConcordanceListsCardSaid : Prop := Claim7.holds Tryz.pinned (.plain (OpenSpec.ofChange concordanceListsSpec)) concordanceListsCard

/-- THE SECOND FORM's CARD OF 'apographlaw56.ConcordanceComplete'. -/
def concordanceCompleteUptoCard : Claim7 := { stood := { row := concordanceCompleteUptoRow, standIns := [], harness := (true, "987e8f1020761b70f3dca35b1264babf2287f6c3d92b6e8a56f952ecaa0138b3"), looks := true }, kinds := [], alts := [], laidByText := true, laidKinds := [.data, .data, .data], laidTests := true, laidLooks := .later }
def ConcordanceCompleteUptoCardSaid : Prop := Claim7.holds Tryz.pinned (.plain (OpenSpec.upto concordanceCompleteSpec)) concordanceCompleteUptoCard

/-- THE SECOND FORM's CARD OF 'apographlaw56.ConcordanceFrequent'. -/
def concordanceFrequentUptoCard : Claim7 := { stood := { row := concordanceFrequentUptoRow, standIns := [], harness := (true, "987e8f1020761b70f3dca35b1264babf2287f6c3d92b6e8a56f952ecaa0138b3"), looks := true }, kinds := [], alts := [], laidByText := true, laidKinds := [.data, .data, .data], laidTests := true, laidLooks := .later }
def ConcordanceFrequentUptoCardSaid : Prop := Claim7.holds Tryz.pinned (.plain (OpenSpec.upto concordanceFrequentSpec)) concordanceFrequentUptoCard

/-- THE SECOND FORM's CARD OF 'apographlaw56.ConcordanceMerges'. -/
def concordanceMergesUptoCard : Claim7 := { stood := { row := concordanceMergesUptoRow, standIns := [], harness := (true, "987e8f1020761b70f3dca35b1264babf2287f6c3d92b6e8a56f952ecaa0138b3"), looks := true }, kinds := [], alts := [], laidByText := true, laidKinds := [.data, .data, .data], laidTests := true, laidLooks := .later }
def ConcordanceMergesUptoCardSaid : Prop := Claim7.holds Tryz.pinned (.plain (OpenSpec.upto concordanceMergesSpec)) concordanceMergesUptoCard

/-- THE SECOND FORM's CARD OF 'apographlaw56.ConcordanceContexts'. -/
def concordanceContextsUptoCard : Claim7 := { stood := { row := concordanceContextsUptoRow, standIns := [], harness := (true, "987e8f1020761b70f3dca35b1264babf2287f6c3d92b6e8a56f952ecaa0138b3"), looks := true }, kinds := [], alts := [], laidByText := true, laidKinds := [.data, .data, .data], laidTests := true, laidLooks := .later }
def ConcordanceContextsUptoCardSaid : Prop := Claim7.holds Tryz.pinned (.plain (OpenSpec.upto concordanceContextsSpec)) concordanceContextsUptoCard

/-- THE SECOND FORM's CARD OF 'apographlaw56.ConcordanceFinds'. -/
def concordanceFindsUptoCard : Claim7 := { stood := { row := concordanceFindsUptoRow, standIns := [], harness := (true, "987e8f1020761b70f3dca35b1264babf2287f6c3d92b6e8a56f952ecaa0138b3"), looks := true }, kinds := [], alts := [], laidByText := true, laidKinds := [.data, .data, .data, .data, .data, .data, .pinned, .pinned], laidTests := true, laidLooks := .later }
def ConcordanceFindsUptoCardSaid : Prop := Claim7.holds Tryz.pinned (.plain (OpenSpec.upto concordanceFindsSpec)) concordanceFindsUptoCard

/-- THE SECOND FORM's CARD OF 'apographlaw56.ConcordanceNames'. -/
def concordanceNamesUptoCard : Claim7 := { stood := { row := concordanceNamesUptoRow, standIns := [], harness := (true, "987e8f1020761b70f3dca35b1264babf2287f6c3d92b6e8a56f952ecaa0138b3"), looks := true }, kinds := [], alts := [], laidByText := true, laidKinds := [.data, .data, .data, .sentinel, .sentinel], laidTests := true, laidLooks := .later }
def ConcordanceNamesUptoCardSaid : Prop := Claim7.holds Tryz.pinned (.plain (OpenSpec.upto concordanceNamesSpec)) concordanceNamesUptoCard

/-- THE SECOND FORM's CARD OF 'apographlaw56.ConcordanceWords'. -/
def concordanceWordsUptoCard : Claim7 := { stood := { row := concordanceWordsUptoRow, standIns := [], harness := (true, "987e8f1020761b70f3dca35b1264babf2287f6c3d92b6e8a56f952ecaa0138b3"), looks := true }, kinds := [], alts := [], laidByText := true, laidKinds := [.data, .data, .data, .sentinel, .sentinel], laidTests := true, laidLooks := .later }
def ConcordanceWordsUptoCardSaid : Prop := Claim7.holds Tryz.pinned (.plain (OpenSpec.upto concordanceWordsSpec)) concordanceWordsUptoCard

/-- THE SECOND FORM's CARD OF 'apographlaw56.ConcordanceTexts'. -/
def concordanceTextsUptoCard : Claim7 := { stood := { row := concordanceTextsUptoRow, standIns := [], harness := (true, "987e8f1020761b70f3dca35b1264babf2287f6c3d92b6e8a56f952ecaa0138b3"), looks := true }, kinds := [], alts := [], laidByText := true, laidKinds := [.data, .data, .data, .data, .sentinel, .sentinel, .pinned], laidTests := true, laidLooks := .later }
def ConcordanceTextsUptoCardSaid : Prop := Claim7.holds Tryz.pinned (.plain (OpenSpec.upto concordanceTextsSpec)) concordanceTextsUptoCard

/-- THE SECOND FORM's CARD OF 'apographlaw56.ConcordanceLists'. -/
def concordanceListsUptoCard : Claim7 := { stood := { row := concordanceListsUptoRow, standIns := [], harness := (true, "987e8f1020761b70f3dca35b1264babf2287f6c3d92b6e8a56f952ecaa0138b3"), looks := true }, kinds := [], alts := [], laidByText := true, laidKinds := [.data, .data, .data, .data, .sentinel, .sentinel, .pinned], laidTests := true, laidLooks := .later }
def ConcordanceListsUptoCardSaid : Prop := Claim7.holds Tryz.pinned (.plain (OpenSpec.upto concordanceListsSpec)) concordanceListsUptoCard
end Rows
end Go.Proofs.YtngdmpkoedpgdaaGreatDoor
