/-
  NARROWER THAN 'FOR EVERY INPUT', by the rows' own cells (each row's printed sentence says how): CodePairs: laid · CodeComplementary: laid · CodeLevels: laid.
  DERIVED. THE GIVEN ROWS OF THIS SEAT. 3 by the template 'for every input the law returns true; each argument reads behind the call as it read before'; 0 by the template 'total and deterministic' (their statements: YtaejdonacadpkabDoorTotals.lean).
  GIVEN WITH THE SEED: the statements are not yours to turn. If you find one false, say at which input.
  Laid BY PROGRAM, IN A SANDBOX (cutbox-rows.mjs): the forced cells as the released guide's own fill.sh prints them over the translation de6eaf7afe850a58… (all of the seat's roots in one cut). By AI agents, Wed Nov 11 2026. No macro, syntax, notation, axiom, sorry.
-/
import Derived.Test.YtaejdonacadpkabDoorChecked
import GoSem.Claim
import GoSem.ClaimJoined
import GoSem.ClaimMapViews
import Derived.JoinedTies
import Derived.KernelRfl
namespace Go.Proofs.YtaejdonacadpkabDoor
/- THE CELL 'sum', in the pinned program and in every row, IS THE sha256 OF THE DUMP (.gsa) THAT YtaejdonacadpkabDoorProg.lean LOADS. Nothing in Lean hashes anything: it is a label: what it is worth is what the hold of that sum in a sandbox is worth. -/
noncomputable def Tryd.pinned : Pinned := { name := "ytaejdonacadpkabdoor", sum := "de6eaf7afe850a58bfb323902688672ad0ef4246b0f713b579b8e38c91cc995b", checked := Tryd.checked }
namespace Rows
def none {H : Type} : Left H := { results := [], args := [] }

/- WHAT THE LISTED PACKAGE-LEVEL VARIABLES READ AS WHEN THE CALL BEGINS. Each datum BY PROGRAM (the guide's laid-datum.mjs) off the statement by which the dump's own 'gosem.cut.vars' lays the variable. In a bare row this is a premise. The card (YtaejdonacadpkabDoorCards.lean) ties it to the program's text. -/
def laid_skywave_code_quarters {H : Type} : DataW H := .agg [.agg [.lit (.int .i64 1), .lit (.int .i64 0)], .agg [.lit (.int .i64 0), .lit (.int .i64 1)], .agg [.lit (.int .i64 (-1)), .lit (.int .i64 0)], .agg [.lit (.int .i64 0), .lit (.int .i64 (-1))]]

/-- 'skywavelaw01.CodePairs': WHATEVER THE INPUT: true; the input reads as it did. -/
def codePairsSpec : ChangeSpec := { name := "codePairs", fn := fun _ => fun
  | [d] => { results := [.lit (.bool true)], args := [d] }
  | _ => none }
def codePairsRow : OpenClaim := { program := "ytaejdonacadpkabdoor", sum := "de6eaf7afe850a58bfb323902688672ad0ef4246b0f713b579b8e38c91cc995b", func := "skywave/skywavelaw01.CodePairs", spec := "codePairs", unfollowed := true, recurses := true, named := ["skywave/code.quarters"], apart := false, laid := [("skywave/code.quarters", laid_skywave_code_quarters)] }
def CodePairsSaid : Prop := codePairsRow.holds Tryd.pinned (OpenSpec.ofChange codePairsSpec)

/-- ITS FALSE NEIGHBOUR: 'it returns false'. Refute it at one input. -/
def codePairsWrong : ChangeSpec := { name := "codePairs", fn := fun _ => fun
  | [d] => { results := [.lit (.bool false)], args := [d] }
  | _ => none }
def CodePairsWrongFalsely : Prop := codePairsRow.holds Tryd.pinned (OpenSpec.ofChange codePairsWrong)

/-- 'skywavelaw01.CodeComplementary': WHATEVER THE INPUT: true; the input reads as it did. -/
def codeComplementarySpec : ChangeSpec := { name := "codeComplementary", fn := fun _ => fun
  | [d] => { results := [.lit (.bool true)], args := [d] }
  | _ => none }
def codeComplementaryRow : OpenClaim := { program := "ytaejdonacadpkabdoor", sum := "de6eaf7afe850a58bfb323902688672ad0ef4246b0f713b579b8e38c91cc995b", func := "skywave/skywavelaw01.CodeComplementary", spec := "codeComplementary", unfollowed := true, recurses := true, named := ["skywave/code.quarters"], apart := false, laid := [("skywave/code.quarters", laid_skywave_code_quarters)] }
def CodeComplementarySaid : Prop := codeComplementaryRow.holds Tryd.pinned (OpenSpec.ofChange codeComplementarySpec)

/-- ITS FALSE NEIGHBOUR: 'it returns false'. Refute it at one input. -/
def codeComplementaryWrong : ChangeSpec := { name := "codeComplementary", fn := fun _ => fun
  | [d] => { results := [.lit (.bool false)], args := [d] }
  | _ => none }
def CodeComplementaryWrongFalsely : Prop := codeComplementaryRow.holds Tryd.pinned (OpenSpec.ofChange codeComplementaryWrong)

/-- 'skywavelaw01.CodeLevels': WHATEVER THE INPUT: true; the input reads as it did. -/
def codeLevelsSpec : ChangeSpec := { name := "codeLevels", fn := fun _ => fun
  | [d1, d2, d3] => { results := [.lit (.bool true)], args := [d1, d2, d3] }
  | _ => none }
def codeLevelsRow : OpenClaim := { program := "ytaejdonacadpkabdoor", sum := "de6eaf7afe850a58bfb323902688672ad0ef4246b0f713b579b8e38c91cc995b", func := "skywave/skywavelaw01.CodeLevels", spec := "codeLevels", unfollowed := true, recurses := true, named := ["skywave/code.quarters"], apart := false, laid := [("skywave/code.quarters", laid_skywave_code_quarters)] }
def CodeLevelsSaid : Prop := codeLevelsRow.holds Tryd.pinned (OpenSpec.ofChange codeLevelsSpec)

/-- ITS FALSE NEIGHBOUR: 'it returns false'. Refute it at one input. -/
def codeLevelsWrong : ChangeSpec := { name := "codeLevels", fn := fun _ => fun
  | [d1, d2, d3] => { results := [.lit (.bool false)], args := [d1, d2, d3] }
  | _ => none }
def CodeLevelsWrongFalsely : Prop := codeLevelsRow.holds Tryd.pinned (OpenSpec.ofChange codeLevelsWrong)

/- THE SECOND FORM. 'bulk': how many values and letters a reading holds, each counted each time it is reached (what is shared counts as often as it is met; a slice's spare places count too). A statement '..UptoSaid' is the law's where the arguments, and the package variables that the reading takes, are together of bulk at most 1048576: NARROWER than '..Said'. Prove '..Said' where nothing that the law and all that it calls make is longer than what came in: it says more and counts as full. Else prove '..UptoSaid'. A law counts once. -/
mutual
def uptoBulk {H : Type} : DataW H → Nat
  | .lit (.string bytes) => bytes.length + 1
  | .lit _ => 1
  | .nil => 1
  | .ptr d => uptoBulk d + 1
  | .slice elems spare => uptoBulkAll elems + uptoBulkAll spare + 1
  | .agg parts => uptoBulkAll parts + 1
  | .iface _ d => uptoBulk d + 1
  | .map entries => uptoBulkEntries entries + 1
  | .held _ => 1
def uptoBulkAll {H : Type} : List (DataW H) → Nat
  | [] => 0
  | d :: r => uptoBulk d + uptoBulkAll r
def uptoBulkEntries {H : Type} : List (Lit × DataW H) → Nat
  | [] => 0
  | x :: r => uptoBulkEntry x + uptoBulkEntries r
def uptoBulkEntry {H : Type} : Lit × DataW H → Nat
  | (.string bytes, d) => bytes.length + uptoBulk d + 1
  | (_, d) => uptoBulk d + 1
 end
def uptoSmall : (H : Type) → List (DataW H) → Bool := fun _ ds => decide (uptoBulkAll ds ≤ 1048576)
def OpenSpec.upto (s : _root_.Go.ChangeSpec) : _root_.Go.OpenSpec := { _root_.Go.OpenSpec.ofChange s with cond := some uptoSmall }

/-- 'skywavelaw01.CodePairs', WHERE WHAT IT READS IS OF BULK AT MOST 1048576: true; the input reads as it did. -/
def codePairsUptoRow : OpenClaim := { program := "ytaejdonacadpkabdoor", sum := "de6eaf7afe850a58bfb323902688672ad0ef4246b0f713b579b8e38c91cc995b", func := "skywave/skywavelaw01.CodePairs", spec := "codePairs", unfollowed := true, recurses := true, named := ["skywave/code.quarters"], apart := false, laid := [("skywave/code.quarters", laid_skywave_code_quarters)], narrowed := true }
def CodePairsUptoSaid : Prop := codePairsUptoRow.holds Tryd.pinned (OpenSpec.upto codePairsSpec)

/-- 'skywavelaw01.CodeComplementary', WHERE WHAT IT READS IS OF BULK AT MOST 1048576: true; the input reads as it did. -/
def codeComplementaryUptoRow : OpenClaim := { program := "ytaejdonacadpkabdoor", sum := "de6eaf7afe850a58bfb323902688672ad0ef4246b0f713b579b8e38c91cc995b", func := "skywave/skywavelaw01.CodeComplementary", spec := "codeComplementary", unfollowed := true, recurses := true, named := ["skywave/code.quarters"], apart := false, laid := [("skywave/code.quarters", laid_skywave_code_quarters)], narrowed := true }
def CodeComplementaryUptoSaid : Prop := codeComplementaryUptoRow.holds Tryd.pinned (OpenSpec.upto codeComplementarySpec)

/-- 'skywavelaw01.CodeLevels', WHERE WHAT IT READS IS OF BULK AT MOST 1048576: true; the input reads as it did. -/
def codeLevelsUptoRow : OpenClaim := { program := "ytaejdonacadpkabdoor", sum := "de6eaf7afe850a58bfb323902688672ad0ef4246b0f713b579b8e38c91cc995b", func := "skywave/skywavelaw01.CodeLevels", spec := "codeLevels", unfollowed := true, recurses := true, named := ["skywave/code.quarters"], apart := false, laid := [("skywave/code.quarters", laid_skywave_code_quarters)], narrowed := true }
def CodeLevelsUptoSaid : Prop := codeLevelsUptoRow.holds Tryd.pinned (OpenSpec.upto codeLevelsSpec)

end Rows
end Go.Proofs.YtaejdonacadpkabDoor
