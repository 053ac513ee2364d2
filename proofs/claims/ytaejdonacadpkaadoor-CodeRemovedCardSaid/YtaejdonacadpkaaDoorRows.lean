/-
  NARROWER THAN 'FOR EVERY INPUT', by the rows' own cells (each row's printed sentence says how): CodeLines: laid · CodeFrames: laid · CodeChirps: laid · CodeStairs: laid · CodeSearches: laid · CodeHarmonics: laid · CodeCombined: laid · CodeCorrelations: laid · CodeCleaned: laid · CodeRemoved: laid · TopCodeLines: laid · CodeWhateverLost: laid.
  DERIVED. THE GIVEN ROWS OF THIS SEAT. 12 by the template 'for every input the law returns true; each argument reads behind the call as it read before'; 0 by the template 'total and deterministic' (their statements: YtaejdonacadpkaaDoorTotals.lean).
  GIVEN WITH THE SEED: the statements are not yours to turn. If you find one false, say at which input.
  Laid BY PROGRAM, IN A SANDBOX (cutbox-rows.mjs): the forced cells as the released guide's own fill.sh prints them over the translation abe7535b5181326b… (all of the seat's roots in one cut). By AI agents, Wed Nov 11 2026. No macro, syntax, notation, axiom, sorry.
-/
import Derived.Test.YtaejdonacadpkaaDoorChecked
import GoSem.Claim
import GoSem.ClaimJoined
import GoSem.ClaimMapViews
import Derived.JoinedTies
import Derived.KernelRfl
namespace Go.Proofs.YtaejdonacadpkaaDoor
/- THE CELL 'sum', in the pinned program and in every row, IS THE sha256 OF THE DUMP (.gsa) THAT YtaejdonacadpkaaDoorProg.lean LOADS. Nothing in Lean hashes anything: it is a label: what it is worth is what the hold of that sum in a sandbox is worth. -/
noncomputable def Tryd.pinned : Pinned := { name := "ytaejdonacadpkaadoor", sum := "abe7535b5181326bd1c57723c62b78059ba73742d537a28f1c25f90c5d3ce5ff", checked := Tryd.checked }
namespace Rows
def none {H : Type} : Left H := { results := [], args := [] }

/- WHAT THE LISTED PACKAGE-LEVEL VARIABLES READ AS WHEN THE CALL BEGINS. Each datum BY PROGRAM (the guide's laid-datum.mjs) off the statement by which the dump's own 'gosem.cut.vars' lays the variable. In a bare row this is a premise. The card (YtaejdonacadpkaaDoorCards.lean) ties it to the program's text. -/
def laid_skywave_code_quarters {H : Type} : DataW H := .agg [.agg [.lit (.int .i64 1), .lit (.int .i64 0)], .agg [.lit (.int .i64 0), .lit (.int .i64 1)], .agg [.lit (.int .i64 (-1)), .lit (.int .i64 0)], .agg [.lit (.int .i64 0), .lit (.int .i64 (-1))]]

/-- 'skywavelaw01.CodeLines': WHATEVER THE INPUT: true; the input reads as it did. -/
def codeLinesSpec : ChangeSpec := { name := "codeLines", fn := fun _ => fun
  | [d1, d2] => { results := [.lit (.bool true)], args := [d1, d2] }
  | _ => none }
def codeLinesRow : OpenClaim := { program := "ytaejdonacadpkaadoor", sum := "abe7535b5181326bd1c57723c62b78059ba73742d537a28f1c25f90c5d3ce5ff", func := "skywave/skywavelaw01.CodeLines", spec := "codeLines", unfollowed := true, recurses := true, named := ["skywave/code.quarters"], apart := false, laid := [("skywave/code.quarters", laid_skywave_code_quarters)] }
def CodeLinesSaid : Prop := codeLinesRow.holds Tryd.pinned (OpenSpec.ofChange codeLinesSpec)

/-- ITS FALSE NEIGHBOUR: 'it returns false'. Refute it at one input. -/
def codeLinesWrong : ChangeSpec := { name := "codeLines", fn := fun _ => fun
  | [d1, d2] => { results := [.lit (.bool false)], args := [d1, d2] }
  | _ => none }
def CodeLinesWrongFalsely : Prop := codeLinesRow.holds Tryd.pinned (OpenSpec.ofChange codeLinesWrong)

/-- 'skywavelaw01.CodeFrames': WHATEVER THE INPUT: true; the input reads as it did. -/
def codeFramesSpec : ChangeSpec := { name := "codeFrames", fn := fun _ => fun
  | [d] => { results := [.lit (.bool true)], args := [d] }
  | _ => none }
def codeFramesRow : OpenClaim := { program := "ytaejdonacadpkaadoor", sum := "abe7535b5181326bd1c57723c62b78059ba73742d537a28f1c25f90c5d3ce5ff", func := "skywave/skywavelaw01.CodeFrames", spec := "codeFrames", unfollowed := true, recurses := true, named := ["skywave/code.quarters"], apart := false, laid := [("skywave/code.quarters", laid_skywave_code_quarters)] }
def CodeFramesSaid : Prop := codeFramesRow.holds Tryd.pinned (OpenSpec.ofChange codeFramesSpec)

/-- ITS FALSE NEIGHBOUR: 'it returns false'. Refute it at one input. -/
def codeFramesWrong : ChangeSpec := { name := "codeFrames", fn := fun _ => fun
  | [d] => { results := [.lit (.bool false)], args := [d] }
  | _ => none }
def CodeFramesWrongFalsely : Prop := codeFramesRow.holds Tryd.pinned (OpenSpec.ofChange codeFramesWrong)

/-- 'skywavelaw01.CodeChirps': WHATEVER THE INPUT: true; the input reads as it did. -/
def codeChirpsSpec : ChangeSpec := { name := "codeChirps", fn := fun _ => fun
  | [d1, d2, d3] => { results := [.lit (.bool true)], args := [d1, d2, d3] }
  | _ => none }
def codeChirpsRow : OpenClaim := { program := "ytaejdonacadpkaadoor", sum := "abe7535b5181326bd1c57723c62b78059ba73742d537a28f1c25f90c5d3ce5ff", func := "skywave/skywavelaw01.CodeChirps", spec := "codeChirps", unfollowed := true, recurses := true, named := ["skywave/code.quarters"], apart := false, laid := [("skywave/code.quarters", laid_skywave_code_quarters)] }
def CodeChirpsSaid : Prop := codeChirpsRow.holds Tryd.pinned (OpenSpec.ofChange codeChirpsSpec)

/-- ITS FALSE NEIGHBOUR: 'it returns false'. Refute it at one input. -/
def codeChirpsWrong : ChangeSpec := { name := "codeChirps", fn := fun _ => fun
  | [d1, d2, d3] => { results := [.lit (.bool false)], args := [d1, d2, d3] }
  | _ => none }
def CodeChirpsWrongFalsely : Prop := codeChirpsRow.holds Tryd.pinned (OpenSpec.ofChange codeChirpsWrong)

/-- 'skywavelaw01.CodeStairs': WHATEVER THE INPUT: true; the input reads as it did. -/
def codeStairsSpec : ChangeSpec := { name := "codeStairs", fn := fun _ => fun
  | [d1, d2] => { results := [.lit (.bool true)], args := [d1, d2] }
  | _ => none }
def codeStairsRow : OpenClaim := { program := "ytaejdonacadpkaadoor", sum := "abe7535b5181326bd1c57723c62b78059ba73742d537a28f1c25f90c5d3ce5ff", func := "skywave/skywavelaw01.CodeStairs", spec := "codeStairs", unfollowed := true, recurses := true, named := ["skywave/code.quarters"], apart := false, laid := [("skywave/code.quarters", laid_skywave_code_quarters)] }
def CodeStairsSaid : Prop := codeStairsRow.holds Tryd.pinned (OpenSpec.ofChange codeStairsSpec)

/-- ITS FALSE NEIGHBOUR: 'it returns false'. Refute it at one input. -/
def codeStairsWrong : ChangeSpec := { name := "codeStairs", fn := fun _ => fun
  | [d1, d2] => { results := [.lit (.bool false)], args := [d1, d2] }
  | _ => none }
def CodeStairsWrongFalsely : Prop := codeStairsRow.holds Tryd.pinned (OpenSpec.ofChange codeStairsWrong)

/-- 'skywavelaw01.CodeSearches': WHATEVER THE INPUT: true; the input reads as it did. -/
def codeSearchesSpec : ChangeSpec := { name := "codeSearches", fn := fun _ => fun
  | [d1, d2] => { results := [.lit (.bool true)], args := [d1, d2] }
  | _ => none }
def codeSearchesRow : OpenClaim := { program := "ytaejdonacadpkaadoor", sum := "abe7535b5181326bd1c57723c62b78059ba73742d537a28f1c25f90c5d3ce5ff", func := "skywave/skywavelaw01.CodeSearches", spec := "codeSearches", unfollowed := true, recurses := true, named := ["skywave/code.quarters"], apart := false, laid := [("skywave/code.quarters", laid_skywave_code_quarters)] }
def CodeSearchesSaid : Prop := codeSearchesRow.holds Tryd.pinned (OpenSpec.ofChange codeSearchesSpec)

/-- ITS FALSE NEIGHBOUR: 'it returns false'. Refute it at one input. -/
def codeSearchesWrong : ChangeSpec := { name := "codeSearches", fn := fun _ => fun
  | [d1, d2] => { results := [.lit (.bool false)], args := [d1, d2] }
  | _ => none }
def CodeSearchesWrongFalsely : Prop := codeSearchesRow.holds Tryd.pinned (OpenSpec.ofChange codeSearchesWrong)

/-- 'skywavelaw01.CodeHarmonics': WHATEVER THE INPUT: true; the input reads as it did. -/
def codeHarmonicsSpec : ChangeSpec := { name := "codeHarmonics", fn := fun _ => fun
  | [d1, d2] => { results := [.lit (.bool true)], args := [d1, d2] }
  | _ => none }
def codeHarmonicsRow : OpenClaim := { program := "ytaejdonacadpkaadoor", sum := "abe7535b5181326bd1c57723c62b78059ba73742d537a28f1c25f90c5d3ce5ff", func := "skywave/skywavelaw01.CodeHarmonics", spec := "codeHarmonics", unfollowed := true, recurses := true, named := ["skywave/code.quarters"], apart := false, laid := [("skywave/code.quarters", laid_skywave_code_quarters)] }
def CodeHarmonicsSaid : Prop := codeHarmonicsRow.holds Tryd.pinned (OpenSpec.ofChange codeHarmonicsSpec)

/-- ITS FALSE NEIGHBOUR: 'it returns false'. Refute it at one input. -/
def codeHarmonicsWrong : ChangeSpec := { name := "codeHarmonics", fn := fun _ => fun
  | [d1, d2] => { results := [.lit (.bool false)], args := [d1, d2] }
  | _ => none }
def CodeHarmonicsWrongFalsely : Prop := codeHarmonicsRow.holds Tryd.pinned (OpenSpec.ofChange codeHarmonicsWrong)

/-- 'skywavelaw01.CodeCombined': WHATEVER THE INPUT: true; the input reads as it did. -/
def codeCombinedSpec : ChangeSpec := { name := "codeCombined", fn := fun _ => fun
  | [d1, d2] => { results := [.lit (.bool true)], args := [d1, d2] }
  | _ => none }
def codeCombinedRow : OpenClaim := { program := "ytaejdonacadpkaadoor", sum := "abe7535b5181326bd1c57723c62b78059ba73742d537a28f1c25f90c5d3ce5ff", func := "skywave/skywavelaw01.CodeCombined", spec := "codeCombined", unfollowed := true, recurses := true, named := ["skywave/code.quarters"], apart := false, laid := [("skywave/code.quarters", laid_skywave_code_quarters)] }
def CodeCombinedSaid : Prop := codeCombinedRow.holds Tryd.pinned (OpenSpec.ofChange codeCombinedSpec)

/-- ITS FALSE NEIGHBOUR: 'it returns false'. Refute it at one input. -/
def codeCombinedWrong : ChangeSpec := { name := "codeCombined", fn := fun _ => fun
  | [d1, d2] => { results := [.lit (.bool false)], args := [d1, d2] }
  | _ => none }
def CodeCombinedWrongFalsely : Prop := codeCombinedRow.holds Tryd.pinned (OpenSpec.ofChange codeCombinedWrong)

/-- 'skywavelaw01.CodeCorrelations': WHATEVER THE INPUT: true; the input reads as it did. -/
def codeCorrelationsSpec : ChangeSpec := { name := "codeCorrelations", fn := fun _ => fun
  | [d1, d2, d3] => { results := [.lit (.bool true)], args := [d1, d2, d3] }
  | _ => none }
def codeCorrelationsRow : OpenClaim := { program := "ytaejdonacadpkaadoor", sum := "abe7535b5181326bd1c57723c62b78059ba73742d537a28f1c25f90c5d3ce5ff", func := "skywave/skywavelaw01.CodeCorrelations", spec := "codeCorrelations", unfollowed := true, recurses := true, named := ["skywave/code.quarters"], apart := false, laid := [("skywave/code.quarters", laid_skywave_code_quarters)] }
def CodeCorrelationsSaid : Prop := codeCorrelationsRow.holds Tryd.pinned (OpenSpec.ofChange codeCorrelationsSpec)

/-- ITS FALSE NEIGHBOUR: 'it returns false'. Refute it at one input. -/
def codeCorrelationsWrong : ChangeSpec := { name := "codeCorrelations", fn := fun _ => fun
  | [d1, d2, d3] => { results := [.lit (.bool false)], args := [d1, d2, d3] }
  | _ => none }
def CodeCorrelationsWrongFalsely : Prop := codeCorrelationsRow.holds Tryd.pinned (OpenSpec.ofChange codeCorrelationsWrong)

/-- 'skywavelaw01.CodeCleaned': WHATEVER THE INPUT: true; the input reads as it did. -/
def codeCleanedSpec : ChangeSpec := { name := "codeCleaned", fn := fun _ => fun
  | [d1, d2] => { results := [.lit (.bool true)], args := [d1, d2] }
  | _ => none }
def codeCleanedRow : OpenClaim := { program := "ytaejdonacadpkaadoor", sum := "abe7535b5181326bd1c57723c62b78059ba73742d537a28f1c25f90c5d3ce5ff", func := "skywave/skywavelaw01.CodeCleaned", spec := "codeCleaned", unfollowed := true, recurses := true, named := ["skywave/code.quarters"], apart := false, laid := [("skywave/code.quarters", laid_skywave_code_quarters)] }
def CodeCleanedSaid : Prop := codeCleanedRow.holds Tryd.pinned (OpenSpec.ofChange codeCleanedSpec)

/-- ITS FALSE NEIGHBOUR: 'it returns false'. Refute it at one input. -/
def codeCleanedWrong : ChangeSpec := { name := "codeCleaned", fn := fun _ => fun
  | [d1, d2] => { results := [.lit (.bool false)], args := [d1, d2] }
  | _ => none }
def CodeCleanedWrongFalsely : Prop := codeCleanedRow.holds Tryd.pinned (OpenSpec.ofChange codeCleanedWrong)

/-- 'skywavelaw01.CodeRemoved': WHATEVER THE INPUT: true; the input reads as it did. -/
def codeRemovedSpec : ChangeSpec := { name := "codeRemoved", fn := fun _ => fun
  | [d1, d2, d3] => { results := [.lit (.bool true)], args := [d1, d2, d3] }
  | _ => none }
def codeRemovedRow : OpenClaim := { program := "ytaejdonacadpkaadoor", sum := "abe7535b5181326bd1c57723c62b78059ba73742d537a28f1c25f90c5d3ce5ff", func := "skywave/skywavelaw01.CodeRemoved", spec := "codeRemoved", unfollowed := true, recurses := true, named := ["skywave/code.quarters"], apart := false, laid := [("skywave/code.quarters", laid_skywave_code_quarters)] }
def CodeRemovedSaid : Prop := codeRemovedRow.holds Tryd.pinned (OpenSpec.ofChange codeRemovedSpec)

/-- ITS FALSE NEIGHBOUR: 'it returns false'. Refute it at one input. -/
def codeRemovedWrong : ChangeSpec := { name := "codeRemoved", fn := fun _ => fun
  | [d1, d2, d3] => { results := [.lit (.bool false)], args := [d1, d2, d3] }
  | _ => none }
def CodeRemovedWrongFalsely : Prop := codeRemovedRow.holds Tryd.pinned (OpenSpec.ofChange codeRemovedWrong)

/-- 'skywavetop.TopCodeLines': WHATEVER THE INPUT: true; the input reads as it did. -/
def topCodeLinesSpec : ChangeSpec := { name := "topCodeLines", fn := fun _ => fun
  | [d1, d2] => { results := [.lit (.bool true)], args := [d1, d2] }
  | _ => none }
def topCodeLinesRow : OpenClaim := { program := "ytaejdonacadpkaadoor", sum := "abe7535b5181326bd1c57723c62b78059ba73742d537a28f1c25f90c5d3ce5ff", func := "skywave/skywavetop.TopCodeLines", spec := "topCodeLines", unfollowed := true, recurses := true, named := ["skywave/code.quarters"], apart := false, laid := [("skywave/code.quarters", laid_skywave_code_quarters)] }
def TopCodeLinesSaid : Prop := topCodeLinesRow.holds Tryd.pinned (OpenSpec.ofChange topCodeLinesSpec)

/-- ITS FALSE NEIGHBOUR: 'it returns false'. Refute it at one input. -/
def topCodeLinesWrong : ChangeSpec := { name := "topCodeLines", fn := fun _ => fun
  | [d1, d2] => { results := [.lit (.bool false)], args := [d1, d2] }
  | _ => none }
def TopCodeLinesWrongFalsely : Prop := topCodeLinesRow.holds Tryd.pinned (OpenSpec.ofChange topCodeLinesWrong)

/-- 'skywavelaw01.CodeWhateverLost': WHATEVER THE INPUT: true; the input reads as it did. -/
def codeWhateverLostSpec : ChangeSpec := { name := "codeWhateverLost", fn := fun _ => fun
  | [d1, d2, d3] => { results := [.lit (.bool true)], args := [d1, d2, d3] }
  | _ => none }
def codeWhateverLostRow : OpenClaim := { program := "ytaejdonacadpkaadoor", sum := "abe7535b5181326bd1c57723c62b78059ba73742d537a28f1c25f90c5d3ce5ff", func := "skywave/skywavelaw01.CodeWhateverLost", spec := "codeWhateverLost", unfollowed := true, recurses := true, named := ["skywave/code.quarters"], apart := false, laid := [("skywave/code.quarters", laid_skywave_code_quarters)] }
def CodeWhateverLostSaid : Prop := codeWhateverLostRow.holds Tryd.pinned (OpenSpec.ofChange codeWhateverLostSpec)

/-- ITS FALSE NEIGHBOUR: 'it returns false'. Refute it at one input. -/
def codeWhateverLostWrong : ChangeSpec := { name := "codeWhateverLost", fn := fun _ => fun
  | [d1, d2, d3] => { results := [.lit (.bool false)], args := [d1, d2, d3] }
  | _ => none }
def CodeWhateverLostWrongFalsely : Prop := codeWhateverLostRow.holds Tryd.pinned (OpenSpec.ofChange codeWhateverLostWrong)

/- THE SECOND FORM. 'bulk': how many values and letters a reading holds, each counted each time it is reached (what is shared counts as often as it is met; a slice's spare places count too). A statement '..UptoSaid' is the law's where the arguments, and the package variables that the reading takes, are together of bulk at most 1048576: NARROWER than '..Said'. Prove '..Said' where nothing that the law and all that it calls make is longer than what came in: it says more and counts as full. Else prove '..UptoSaid'. A law counts once. -/
mutual
def uptoBulk {H : Type} : DataW H → Nat
  | .lit (.string bytes) => bytes.length + 1
  | .lit _ => 1
  | .nil => 1
  | .ptr d => uptoBulk d + 1
  | .slice elems spare => uptoBulkAll elems + uptoBulkAll spare + 1
  | .agg parts => uptoBulkAll parts + 1
  | .iface _ d => uptoBulk d + 1
  | .map entries => uptoBulkEntries entries + 1
  | .held _ => 1
def uptoBulkAll {H : Type} : List (DataW H) → Nat
  | [] => 0
  | d :: r => uptoBulk d + uptoBulkAll r
def uptoBulkEntries {H : Type} : List (Lit × DataW H) → Nat
  | [] => 0
  | x :: r => uptoBulkEntry x + uptoBulkEntries r
def uptoBulkEntry {H : Type} : Lit × DataW H → Nat
  | (.string bytes, d) => bytes.length + uptoBulk d + 1
  | (_, d) => uptoBulk d + 1
 end
def uptoSmall : (H : Type) → List (DataW H) → Bool := fun _ ds => decide (uptoBulkAll ds ≤ 1048576)
def OpenSpec.upto (s : _root_.Go.ChangeSpec) : _root_.Go.OpenSpec := { _root_.Go.OpenSpec.ofChange s with cond := some uptoSmall }

/-- 'skywavelaw01.CodeLines', WHERE WHAT IT READS IS OF BULK AT MOST 1048576: true; the input reads as it did. -/
def codeLinesUptoRow : OpenClaim := { program := "ytaejdonacadpkaadoor", sum := "abe7535b5181326bd1c57723c62b78059ba73742d537a28f1c25f90c5d3ce5ff", func := "skywave/skywavelaw01.CodeLines", spec := "codeLines", unfollowed := true, recurses := true, named := ["skywave/code.quarters"], apart := false, laid := [("skywave/code.quarters", laid_skywave_code_quarters)], narrowed := true }
def CodeLinesUptoSaid : Prop := codeLinesUptoRow.holds Tryd.pinned (OpenSpec.upto codeLinesSpec)

/-- 'skywavelaw01.CodeFrames', WHERE WHAT IT READS IS OF BULK AT MOST 1048576: true; the input reads as it did. -/
def codeFramesUptoRow : OpenClaim := { program := "ytaejdonacadpkaadoor", sum := "abe7535b5181326bd1c57723c62b78059ba73742d537a28f1c25f90c5d3ce5ff", func := "skywave/skywavelaw01.CodeFrames", spec := "codeFrames", unfollowed := true, recurses := true, named := ["skywave/code.quarters"], apart := false, laid := [("skywave/code.quarters", laid_skywave_code_quarters)], narrowed := true }
def CodeFramesUptoSaid : Prop := codeFramesUptoRow.holds Tryd.pinned (OpenSpec.upto codeFramesSpec)

/-- 'skywavelaw01.CodeChirps', WHERE WHAT IT READS IS OF BULK AT MOST 1048576: true; the input reads as it did. -/
def codeChirpsUptoRow : OpenClaim := { program := "ytaejdonacadpkaadoor", sum := "abe7535b5181326bd1c57723c62b78059ba73742d537a28f1c25f90c5d3ce5ff", func := "skywave/skywavelaw01.CodeChirps", spec := "codeChirps", unfollowed := true, recurses := true, named := ["skywave/code.quarters"], apart := false, laid := [("skywave/code.quarters", laid_skywave_code_quarters)], narrowed := true }
def CodeChirpsUptoSaid : Prop := codeChirpsUptoRow.holds Tryd.pinned (OpenSpec.upto codeChirpsSpec)

/-- 'skywavelaw01.CodeStairs', WHERE WHAT IT READS IS OF BULK AT MOST 1048576: true; the input reads as it did. -/
def codeStairsUptoRow : OpenClaim := { program := "ytaejdonacadpkaadoor", sum := "abe7535b5181326bd1c57723c62b78059ba73742d537a28f1c25f90c5d3ce5ff", func := "skywave/skywavelaw01.CodeStairs", spec := "codeStairs", unfollowed := true, recurses := true, named := ["skywave/code.quarters"], apart := false, laid := [("skywave/code.quarters", laid_skywave_code_quarters)], narrowed := true }
def CodeStairsUptoSaid : Prop := codeStairsUptoRow.holds Tryd.pinned (OpenSpec.upto codeStairsSpec)

/-- 'skywavelaw01.CodeSearches', WHERE WHAT IT READS IS OF BULK AT MOST 1048576: true; the input reads as it did. -/
def codeSearchesUptoRow : OpenClaim := { program := "ytaejdonacadpkaadoor", sum := "abe7535b5181326bd1c57723c62b78059ba73742d537a28f1c25f90c5d3ce5ff", func := "skywave/skywavelaw01.CodeSearches", spec := "codeSearches", unfollowed := true, recurses := true, named := ["skywave/code.quarters"], apart := false, laid := [("skywave/code.quarters", laid_skywave_code_quarters)], narrowed := true }
def CodeSearchesUptoSaid : Prop := codeSearchesUptoRow.holds Tryd.pinned (OpenSpec.upto codeSearchesSpec)

/-- 'skywavelaw01.CodeHarmonics', WHERE WHAT IT READS IS OF BULK AT MOST 1048576: true; the input reads as it did. -/
def codeHarmonicsUptoRow : OpenClaim := { program := "ytaejdonacadpkaadoor", sum := "abe7535b5181326bd1c57723c62b78059ba73742d537a28f1c25f90c5d3ce5ff", func := "skywave/skywavelaw01.CodeHarmonics", spec := "codeHarmonics", unfollowed := true, recurses := true, named := ["skywave/code.quarters"], apart := false, laid := [("skywave/code.quarters", laid_skywave_code_quarters)], narrowed := true }
def CodeHarmonicsUptoSaid : Prop := codeHarmonicsUptoRow.holds Tryd.pinned (OpenSpec.upto codeHarmonicsSpec)

/-- 'skywavelaw01.CodeCombined', WHERE WHAT IT READS IS OF BULK AT MOST 1048576: true; the input reads as it did. -/
def codeCombinedUptoRow : OpenClaim := { program := "ytaejdonacadpkaadoor", sum := "abe7535b5181326bd1c57723c62b78059ba73742d537a28f1c25f90c5d3ce5ff", func := "skywave/skywavelaw01.CodeCombined", spec := "codeCombined", unfollowed := true, recurses := true, named := ["skywave/code.quarters"], apart := false, laid := [("skywave/code.quarters", laid_skywave_code_quarters)], narrowed := true }
def CodeCombinedUptoSaid : Prop := codeCombinedUptoRow.holds Tryd.pinned (OpenSpec.upto codeCombinedSpec)

/-- 'skywavelaw01.CodeCorrelations', WHERE WHAT IT READS IS OF BULK AT MOST 1048576: true; the input reads as it did. -/
def codeCorrelationsUptoRow : OpenClaim := { program := "ytaejdonacadpkaadoor", sum := "abe7535b5181326bd1c57723c62b78059ba73742d537a28f1c25f90c5d3ce5ff", func := "skywave/skywavelaw01.CodeCorrelations", spec := "codeCorrelations", unfollowed := true, recurses := true, named := ["skywave/code.quarters"], apart := false, laid := [("skywave/code.quarters", laid_skywave_code_quarters)], narrowed := true }
def CodeCorrelationsUptoSaid : Prop := codeCorrelationsUptoRow.holds Tryd.pinned (OpenSpec.upto codeCorrelationsSpec)

/-- 'skywavelaw01.CodeCleaned', WHERE WHAT IT READS IS OF BULK AT MOST 1048576: true; the input reads as it did. -/
def codeCleanedUptoRow : OpenClaim := { program := "ytaejdonacadpkaadoor", sum := "abe7535b5181326bd1c57723c62b78059ba73742d537a28f1c25f90c5d3ce5ff", func := "skywave/skywavelaw01.CodeCleaned", spec := "codeCleaned", unfollowed := true, recurses := true, named := ["skywave/code.quarters"], apart := false, laid := [("skywave/code.quarters", laid_skywave_code_quarters)], narrowed := true }
def CodeCleanedUptoSaid : Prop := codeCleanedUptoRow.holds Tryd.pinned (OpenSpec.upto codeCleanedSpec)

/-- 'skywavelaw01.CodeRemoved', WHERE WHAT IT READS IS OF BULK AT MOST 1048576: true; the input reads as it did. -/
def codeRemovedUptoRow : OpenClaim := { program := "ytaejdonacadpkaadoor", sum := "abe7535b5181326bd1c57723c62b78059ba73742d537a28f1c25f90c5d3ce5ff", func := "skywave/skywavelaw01.CodeRemoved", spec := "codeRemoved", unfollowed := true, recurses := true, named := ["skywave/code.quarters"], apart := false, laid := [("skywave/code.quarters", laid_skywave_code_quarters)], narrowed := true }
def CodeRemovedUptoSaid : Prop := codeRemovedUptoRow.holds Tryd.pinned (OpenSpec.upto codeRemovedSpec)

/-- 'skywavetop.TopCodeLines', WHERE WHAT IT READS IS OF BULK AT MOST 1048576: true; the input reads as it did. -/
def topCodeLinesUptoRow : OpenClaim := { program := "ytaejdonacadpkaadoor", sum := "abe7535b5181326bd1c57723c62b78059ba73742d537a28f1c25f90c5d3ce5ff", func := "skywave/skywavetop.TopCodeLines", spec := "topCodeLines", unfollowed := true, recurses := true, named := ["skywave/code.quarters"], apart := false, laid := [("skywave/code.quarters", laid_skywave_code_quarters)], narrowed := true }
def TopCodeLinesUptoSaid : Prop := topCodeLinesUptoRow.holds Tryd.pinned (OpenSpec.upto topCodeLinesSpec)

/-- 'skywavelaw01.CodeWhateverLost', WHERE WHAT IT READS IS OF BULK AT MOST 1048576: true; the input reads as it did. -/
def codeWhateverLostUptoRow : OpenClaim := { program := "ytaejdonacadpkaadoor", sum := "abe7535b5181326bd1c57723c62b78059ba73742d537a28f1c25f90c5d3ce5ff", func := "skywave/skywavelaw01.CodeWhateverLost", spec := "codeWhateverLost", unfollowed := true, recurses := true, named := ["skywave/code.quarters"], apart := false, laid := [("skywave/code.quarters", laid_skywave_code_quarters)], narrowed := true }
def CodeWhateverLostUptoSaid : Prop := codeWhateverLostUptoRow.holds Tryd.pinned (OpenSpec.upto codeWhateverLostSpec)

end Rows
end Go.Proofs.YtaejdonacadpkaaDoor
