/-
  DERIVED. GIVEN WITH THE SEED: THE CARDS: each row of YtaejdonacadpkaaDoorRows.lean that lists a variable, with what it lists TIED to the program's text (the seventh form; the later family's looks); each row that meets fmt, with fmt's text TOLD by the authors' own Lean function (tested against real Go, not proved from fmt's source: count such statements apart). THE CARD IS WHAT COUNTS. Prove the row's statement (the work); the ties are given (YtaejdonacadpkaaDoorTie.lean); close each card by the builder's one call (the guide's Derived/Test/ToyasCard.lean, 'card_holds'). Laid BY PROGRAM, IN A SANDBOX (cutbox-door.mjs). By AI agents, Wed Nov 11 2026. No macro, syntax, notation, axiom, sorry.
-/
import Derived.Test.YtaejdonacadpkaaDoorRows
import GoSem.ClaimSeven
namespace Go.Proofs.YtaejdonacadpkaaDoor
namespace Rows

/-- THE TIED CARD OF 'skywavelaw01.CodeLines'. -/
def codeLinesCard : Claim7 := { stood := { row := codeLinesRow, standIns := [], harness := (true, "ee19cd7ee6b5fab0998a82897a644ad11553945fdebba13656d2570efa8c2749"), looks := false }, kinds := [], alts := [], laidByText := true, laidKinds := [.widerDeep], laidTests := true, laidLooks := .later }
def CodeLinesCardSaid : Prop := Claim7.holds Tryd.pinned (.plain (OpenSpec.ofChange codeLinesSpec)) codeLinesCard

/-- THE TIED CARD OF 'skywavelaw01.CodeFrames'. -/
def codeFramesCard : Claim7 := { stood := { row := codeFramesRow, standIns := [], harness := (true, "ee19cd7ee6b5fab0998a82897a644ad11553945fdebba13656d2570efa8c2749"), looks := false }, kinds := [], alts := [], laidByText := true, laidKinds := [.widerDeep], laidTests := true, laidLooks := .later }
def CodeFramesCardSaid : Prop := Claim7.holds Tryd.pinned (.plain (OpenSpec.ofChange codeFramesSpec)) codeFramesCard

/-- THE TIED CARD OF 'skywavelaw01.CodeChirps'. -/
def codeChirpsCard : Claim7 := { stood := { row := codeChirpsRow, standIns := [], harness := (true, "ee19cd7ee6b5fab0998a82897a644ad11553945fdebba13656d2570efa8c2749"), looks := false }, kinds := [], alts := [], laidByText := true, laidKinds := [.widerDeep], laidTests := true, laidLooks := .later }
def CodeChirpsCardSaid : Prop := Claim7.holds Tryd.pinned (.plain (OpenSpec.ofChange codeChirpsSpec)) codeChirpsCard

/-- THE TIED CARD OF 'skywavelaw01.CodeStairs'. -/
def codeStairsCard : Claim7 := { stood := { row := codeStairsRow, standIns := [], harness := (true, "ee19cd7ee6b5fab0998a82897a644ad11553945fdebba13656d2570efa8c2749"), looks := false }, kinds := [], alts := [], laidByText := true, laidKinds := [.widerDeep], laidTests := true, laidLooks := .later }
def CodeStairsCardSaid : Prop := Claim7.holds Tryd.pinned (.plain (OpenSpec.ofChange codeStairsSpec)) codeStairsCard

/-- THE TIED CARD OF 'skywavelaw01.CodeSearches'. -/
def codeSearchesCard : Claim7 := { stood := { row := codeSearchesRow, standIns := [], harness := (true, "ee19cd7ee6b5fab0998a82897a644ad11553945fdebba13656d2570efa8c2749"), looks := false }, kinds := [], alts := [], laidByText := true, laidKinds := [.widerDeep], laidTests := true, laidLooks := .later }
def CodeSearchesCardSaid : Prop := Claim7.holds Tryd.pinned (.plain (OpenSpec.ofChange codeSearchesSpec)) codeSearchesCard

/-- THE TIED CARD OF 'skywavelaw01.CodeHarmonics'. -/
def codeHarmonicsCard : Claim7 := { stood := { row := codeHarmonicsRow, standIns := [], harness := (true, "ee19cd7ee6b5fab0998a82897a644ad11553945fdebba13656d2570efa8c2749"), looks := false }, kinds := [], alts := [], laidByText := true, laidKinds := [.widerDeep], laidTests := true, laidLooks := .later }
def CodeHarmonicsCardSaid : Prop := Claim7.holds Tryd.pinned (.plain (OpenSpec.ofChange codeHarmonicsSpec)) codeHarmonicsCard

/-- THE TIED CARD OF 'skywavelaw01.CodeCombined'. -/
def codeCombinedCard : Claim7 := { stood := { row := codeCombinedRow, standIns := [], harness := (true, "ee19cd7ee6b5fab0998a82897a644ad11553945fdebba13656d2570efa8c2749"), looks := false }, kinds := [], alts := [], laidByText := true, laidKinds := [.widerDeep], laidTests := true, laidLooks := .later }
def CodeCombinedCardSaid : Prop := Claim7.holds Tryd.pinned (.plain (OpenSpec.ofChange codeCombinedSpec)) codeCombinedCard

/-- THE TIED CARD OF 'skywavelaw01.CodeCorrelations'. -/
def codeCorrelationsCard : Claim7 := { stood := { row := codeCorrelationsRow, standIns := [], harness := (true, "ee19cd7ee6b5fab0998a82897a644ad11553945fdebba13656d2570efa8c2749"), looks := false }, kinds := [], alts := [], laidByText := true, laidKinds := [.widerDeep], laidTests := true, laidLooks := .later }
def CodeCorrelationsCardSaid : Prop := Claim7.holds Tryd.pinned (.plain (OpenSpec.ofChange codeCorrelationsSpec)) codeCorrelationsCard

/-- THE TIED CARD OF 'skywavelaw01.CodeCleaned'. -/
def codeCleanedCard : Claim7 := { stood := { row := codeCleanedRow, standIns := [], harness := (true, "ee19cd7ee6b5fab0998a82897a644ad11553945fdebba13656d2570efa8c2749"), looks := false }, kinds := [], alts := [], laidByText := true, laidKinds := [.widerDeep], laidTests := true, laidLooks := .later }
def CodeCleanedCardSaid : Prop := Claim7.holds Tryd.pinned (.plain (OpenSpec.ofChange codeCleanedSpec)) codeCleanedCard

/-- THE TIED CARD OF 'skywavelaw01.CodeRemoved'. -/
def codeRemovedCard : Claim7 := { stood := { row := codeRemovedRow, standIns := [], harness := (true, "ee19cd7ee6b5fab0998a82897a644ad11553945fdebba13656d2570efa8c2749"), looks := false }, kinds := [], alts := [], laidByText := true, laidKinds := [.widerDeep], laidTests := true, laidLooks := .later }
def CodeRemovedCardSaid : Prop := Claim7.holds Tryd.pinned (.plain (OpenSpec.ofChange codeRemovedSpec)) codeRemovedCard

/-- THE TIED CARD OF 'skywavetop.TopCodeLines'. -/
def topCodeLinesCard : Claim7 := { stood := { row := topCodeLinesRow, standIns := [], harness := (true, "ee19cd7ee6b5fab0998a82897a644ad11553945fdebba13656d2570efa8c2749"), looks := false }, kinds := [], alts := [], laidByText := true, laidKinds := [.widerDeep], laidTests := true, laidLooks := .later }
def TopCodeLinesCardSaid : Prop := Claim7.holds Tryd.pinned (.plain (OpenSpec.ofChange topCodeLinesSpec)) topCodeLinesCard

/-- THE TIED CARD OF 'skywavelaw01.CodeWhateverLost'. -/
def codeWhateverLostCard : Claim7 := { stood := { row := codeWhateverLostRow, standIns := [], harness := (true, "ee19cd7ee6b5fab0998a82897a644ad11553945fdebba13656d2570efa8c2749"), looks := false }, kinds := [], alts := [], laidByText := true, laidKinds := [.widerDeep], laidTests := true, laidLooks := .later }
def CodeWhateverLostCardSaid : Prop := Claim7.holds Tryd.pinned (.plain (OpenSpec.ofChange codeWhateverLostSpec)) codeWhateverLostCard

/-- THE SECOND FORM's CARD OF 'skywavelaw01.CodeLines'. -/
def codeLinesUptoCard : Claim7 := { stood := { row := codeLinesUptoRow, standIns := [], harness := (true, "ee19cd7ee6b5fab0998a82897a644ad11553945fdebba13656d2570efa8c2749"), looks := false }, kinds := [], alts := [], laidByText := true, laidKinds := [.widerDeep], laidTests := true, laidLooks := .later }
def CodeLinesUptoCardSaid : Prop := Claim7.holds Tryd.pinned (.plain (OpenSpec.upto codeLinesSpec)) codeLinesUptoCard

/-- THE SECOND FORM's CARD OF 'skywavelaw01.CodeFrames'. -/
def codeFramesUptoCard : Claim7 := { stood := { row := codeFramesUptoRow, standIns := [], harness := (true, "ee19cd7ee6b5fab0998a82897a644ad11553945fdebba13656d2570efa8c2749"), looks := false }, kinds := [], alts := [], laidByText := true, laidKinds := [.widerDeep], laidTests := true, laidLooks := .later }
def CodeFramesUptoCardSaid : Prop := Claim7.holds Tryd.pinned (.plain (OpenSpec.upto codeFramesSpec)) codeFramesUptoCard

/-- THE SECOND FORM's CARD OF 'skywavelaw01.CodeChirps'. -/
def codeChirpsUptoCard : Claim7 := { stood := { row := codeChirpsUptoRow, standIns := [], harness := (true, "ee19cd7ee6b5fab0998a82897a644ad11553945fdebba13656d2570efa8c2749"), looks := false }, kinds := [], alts := [], laidByText := true, laidKinds := [.widerDeep], laidTests := true, laidLooks := .later }
def CodeChirpsUptoCardSaid : Prop := Claim7.holds Tryd.pinned (.plain (OpenSpec.upto codeChirpsSpec)) codeChirpsUptoCard

/-- THE SECOND FORM's CARD OF 'skywavelaw01.CodeStairs'. -/
def codeStairsUptoCard : Claim7 := { stood := { row := codeStairsUptoRow, standIns := [], harness := (true, "ee19cd7ee6b5fab0998a82897a644ad11553945fdebba13656d2570efa8c2749"), looks := false }, kinds := [], alts := [], laidByText := true, laidKinds := [.widerDeep], laidTests := true, laidLooks := .later }
def CodeStairsUptoCardSaid : Prop := Claim7.holds Tryd.pinned (.plain (OpenSpec.upto codeStairsSpec)) codeStairsUptoCard

/-- THE SECOND FORM's CARD OF 'skywavelaw01.CodeSearches'. -/
def codeSearchesUptoCard : Claim7 := { stood := { row := codeSearchesUptoRow, standIns := [], harness := (true, "ee19cd7ee6b5fab0998a82897a644ad11553945fdebba13656d2570efa8c2749"), looks := false }, kinds := [], alts := [], laidByText := true, laidKinds := [.widerDeep], laidTests := true, laidLooks := .later }
def CodeSearchesUptoCardSaid : Prop := Claim7.holds Tryd.pinned (.plain (OpenSpec.upto codeSearchesSpec)) codeSearchesUptoCard

/-- THE SECOND FORM's CARD OF 'skywavelaw01.CodeHarmonics'. -/
def codeHarmonicsUptoCard : Claim7 := { stood := { row := codeHarmonicsUptoRow, standIns := [], harness := (true, "ee19cd7ee6b5fab0998a82897a644ad11553945fdebba13656d2570efa8c2749"), looks := false }, kinds := [], alts := [], laidByText := true, laidKinds := [.widerDeep], laidTests := true, laidLooks := .later }
def CodeHarmonicsUptoCardSaid : Prop := Claim7.holds Tryd.pinned (.plain (OpenSpec.upto codeHarmonicsSpec)) codeHarmonicsUptoCard

/-- THE SECOND FORM's CARD OF 'skywavelaw01.CodeCombined'. -/
def codeCombinedUptoCard : Claim7 := { stood := { row := codeCombinedUptoRow, standIns := [], harness := (true, "ee19cd7ee6b5fab0998a82897a644ad11553945fdebba13656d2570efa8c2749"), looks := false }, kinds := [], alts := [], laidByText := true, laidKinds := [.widerDeep], laidTests := true, laidLooks := .later }
def CodeCombinedUptoCardSaid : Prop := Claim7.holds Tryd.pinned (.plain (OpenSpec.upto codeCombinedSpec)) codeCombinedUptoCard

/-- THE SECOND FORM's CARD OF 'skywavelaw01.CodeCorrelations'. -/
def codeCorrelationsUptoCard : Claim7 := { stood := { row := codeCorrelationsUptoRow, standIns := [], harness := (true, "ee19cd7ee6b5fab0998a82897a644ad11553945fdebba13656d2570efa8c2749"), looks := false }, kinds := [], alts := [], laidByText := true, laidKinds := [.widerDeep], laidTests := true, laidLooks := .later }
def CodeCorrelationsUptoCardSaid : Prop := Claim7.holds Tryd.pinned (.plain (OpenSpec.upto codeCorrelationsSpec)) codeCorrelationsUptoCard

/-- THE SECOND FORM's CARD OF 'skywavelaw01.CodeCleaned'. -/
def codeCleanedUptoCard : Claim7 := { stood := { row := codeCleanedUptoRow, standIns := [], harness := (true, "ee19cd7ee6b5fab0998a82897a644ad11553945fdebba13656d2570efa8c2749"), looks := false }, kinds := [], alts := [], laidByText := true, laidKinds := [.widerDeep], laidTests := true, laidLooks := .later }
def CodeCleanedUptoCardSaid : Prop := Claim7.holds Tryd.pinned (.plain (OpenSpec.upto codeCleanedSpec)) codeCleanedUptoCard

/-- THE SECOND FORM's CARD OF 'skywavelaw01.CodeRemoved'. -/
def codeRemovedUptoCard : Claim7 := { stood := { row := codeRemovedUptoRow, standIns := [], harness := (true, "ee19cd7ee6b5fab0998a82897a644ad11553945fdebba13656d2570efa8c2749"), looks := false }, kinds := [], alts := [], laidByText := true, laidKinds := [.widerDeep], laidTests := true, laidLooks := .later }
def CodeRemovedUptoCardSaid : Prop := Claim7.holds Tryd.pinned (.plain (OpenSpec.upto codeRemovedSpec)) codeRemovedUptoCard

/-- THE SECOND FORM's CARD OF 'skywavetop.TopCodeLines'. -/
def topCodeLinesUptoCard : Claim7 := { stood := { row := topCodeLinesUptoRow, standIns := [], harness := (true, "ee19cd7ee6b5fab0998a82897a644ad11553945fdebba13656d2570efa8c2749"), looks := false }, kinds := [], alts := [], laidByText := true, laidKinds := [.widerDeep], laidTests := true, laidLooks := .later }
def TopCodeLinesUptoCardSaid : Prop := Claim7.holds Tryd.pinned (.plain (OpenSpec.upto topCodeLinesSpec)) topCodeLinesUptoCard

/-- THE SECOND FORM's CARD OF 'skywavelaw01.CodeWhateverLost'. -/
def codeWhateverLostUptoCard : Claim7 := { stood := { row := codeWhateverLostUptoRow, standIns := [], harness := (true, "ee19cd7ee6b5fab0998a82897a644ad11553945fdebba13656d2570efa8c2749"), looks := false }, kinds := [], alts := [], laidByText := true, laidKinds := [.widerDeep], laidTests := true, laidLooks := .later }
def CodeWhateverLostUptoCardSaid : Prop := Claim7.holds Tryd.pinned (.plain (OpenSpec.upto codeWhateverLostSpec)) codeWhateverLostUptoCard
end Rows
end Go.Proofs.YtaejdonacadpkaaDoor
