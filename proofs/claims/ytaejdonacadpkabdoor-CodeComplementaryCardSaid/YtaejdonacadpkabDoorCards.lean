/-
  DERIVED. GIVEN WITH THE SEED: THE CARDS: each row of YtaejdonacadpkabDoorRows.lean that lists a variable, with what it lists TIED to the program's text (the seventh form; the later family's looks); each row that meets fmt, with fmt's text TOLD by the authors' own Lean function (tested against real Go, not proved from fmt's source: count such statements apart). THE CARD IS WHAT COUNTS. Prove the row's statement (the work); the ties are given (YtaejdonacadpkabDoorTie.lean); close each card by the builder's one call (the guide's Derived/Test/ToyasCard.lean, 'card_holds'). Laid BY PROGRAM, IN A SANDBOX (cutbox-door.mjs). By AI agents, Wed Nov 11 2026. No macro, syntax, notation, axiom, sorry.
-/
import Derived.Test.YtaejdonacadpkabDoorRows
import GoSem.ClaimSeven
namespace Go.Proofs.YtaejdonacadpkabDoor
namespace Rows

/-- THE TIED CARD OF 'skywavelaw01.CodePairs'. -/
def codePairsCard : Claim7 := { stood := { row := codePairsRow, standIns := [], harness := (true, "53395bbf87fe8c8afec1629102594935a19a6d57d2f0ba9d647716e391b31ab4"), looks := false }, kinds := [], alts := [], laidByText := true, laidKinds := [.widerDeep], laidTests := true, laidLooks := .later }
def CodePairsCardSaid : Prop := Claim7.holds Tryd.pinned (.plain (OpenSpec.ofChange codePairsSpec)) codePairsCard

/-- THE TIED CARD OF 'skywavelaw01.CodeComplementary'. -/
def codeComplementaryCard : Claim7 := { stood := { row := codeComplementaryRow, standIns := [], harness := (true, "53395bbf87fe8c8afec1629102594935a19a6d57d2f0ba9d647716e391b31ab4"), looks := false }, kinds := [], alts := [], laidByText := true, laidKinds := [.widerDeep], laidTests := true, laidLooks := .later }
def CodeComplementaryCardSaid : Prop := Claim7.holds Tryd.pinned (.plain (OpenSpec.ofChange codeComplementarySpec)) codeComplementaryCard

/-- THE TIED CARD OF 'skywavelaw01.CodeLevels'. -/
def codeLevelsCard : Claim7 := { stood := { row := codeLevelsRow, standIns := [], harness := (true, "53395bbf87fe8c8afec1629102594935a19a6d57d2f0ba9d647716e391b31ab4"), looks := false }, kinds := [], alts := [], laidByText := true, laidKinds := [.widerDeep], laidTests := true, laidLooks := .later }
def CodeLevelsCardSaid : Prop := Claim7.holds Tryd.pinned (.plain (OpenSpec.ofChange codeLevelsSpec)) codeLevelsCard

/-- THE SECOND FORM's CARD OF 'skywavelaw01.CodePairs'. -/
def codePairsUptoCard : Claim7 := { stood := { row := codePairsUptoRow, standIns := [], harness := (true, "53395bbf87fe8c8afec1629102594935a19a6d57d2f0ba9d647716e391b31ab4"), looks := false }, kinds := [], alts := [], laidByText := true, laidKinds := [.widerDeep], laidTests := true, laidLooks := .later }
def CodePairsUptoCardSaid : Prop := Claim7.holds Tryd.pinned (.plain (OpenSpec.upto codePairsSpec)) codePairsUptoCard

/-- THE SECOND FORM's CARD OF 'skywavelaw01.CodeComplementary'. -/
def codeComplementaryUptoCard : Claim7 := { stood := { row := codeComplementaryUptoRow, standIns := [], harness := (true, "53395bbf87fe8c8afec1629102594935a19a6d57d2f0ba9d647716e391b31ab4"), looks := false }, kinds := [], alts := [], laidByText := true, laidKinds := [.widerDeep], laidTests := true, laidLooks := .later }
def CodeComplementaryUptoCardSaid : Prop := Claim7.holds Tryd.pinned (.plain (OpenSpec.upto codeComplementarySpec)) codeComplementaryUptoCard

/-- THE SECOND FORM's CARD OF 'skywavelaw01.CodeLevels'. -/
def codeLevelsUptoCard : Claim7 := { stood := { row := codeLevelsUptoRow, standIns := [], harness := (true, "53395bbf87fe8c8afec1629102594935a19a6d57d2f0ba9d647716e391b31ab4"), looks := false }, kinds := [], alts := [], laidByText := true, laidKinds := [.widerDeep], laidTests := true, laidLooks := .later }
def CodeLevelsUptoCardSaid : Prop := Claim7.holds Tryd.pinned (.plain (OpenSpec.upto codeLevelsSpec)) codeLevelsUptoCard
end Rows
end Go.Proofs.YtaejdonacadpkabDoor
