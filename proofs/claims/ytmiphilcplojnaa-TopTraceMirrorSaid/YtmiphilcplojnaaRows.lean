/-
  No cell of these rows narrows 'for every input' (looked for: loops, veiled, ifaces, maps, wideKeys, modest, calm, conditions, laid).
  DERIVED. THE GIVEN ROWS OF THIS SEAT. 10 by the template 'for every input the law returns true; each argument reads behind the call as it read before'; 0 by the template 'total and deterministic' (their statements: YtmiphilcplojnaaTotals.lean).
  GIVEN WITH THE SEED: the statements are not yours to turn. If you find one false, say at which input.
  Laid BY PROGRAM, IN A SANDBOX (cutbox-rows.mjs): the forced cells as the released guide's own fill.sh prints them over the translation 4ebde629538d988f… (all of the seat's roots in one cut). By AI agents, Wed Nov 11 2026. No macro, syntax, notation, axiom, sorry.
-/
import Derived.Test.YtmiphilcplojnaaChecked
import GoSem.Claim
import GoSem.ClaimJoined
import GoSem.ClaimMapViews
import Derived.JoinedTies
import Derived.KernelRfl
namespace Go.Proofs.Ytmiphilcplojnaa
/- THE CELL 'sum', in the pinned program and in every row, IS THE sha256 OF THE DUMP (.gsa) THAT YtmiphilcplojnaaProg.lean LOADS. Nothing in Lean hashes anything: it is a label: what it is worth is what the hold of that sum in a sandbox is worth. -/
noncomputable def Try.pinned : Pinned := { name := "ytmiphilcplojnaa", sum := "4ebde629538d988fa0a5391199138a19827ce46494a3e0d1d0363ba97b2df38a", checked := Try.checked }
namespace Rows
def none {H : Type} : Left H := { results := [], args := [] }

/-- 'skywavelaw03.TraceSeen': WHATEVER THE INPUT: true; the input reads as it did. -/
def traceSeenSpec : ChangeSpec := { name := "traceSeen", fn := fun _ => fun
  | [d1, d2, d3] => { results := [.lit (.bool true)], args := [d1, d2, d3] }
  | _ => none }
def traceSeenRow : OpenClaim := { program := "ytmiphilcplojnaa", sum := "4ebde629538d988fa0a5391199138a19827ce46494a3e0d1d0363ba97b2df38a", func := "skywave/skywavelaw03.TraceSeen", spec := "traceSeen", unfollowed := true, recurses := true, apart := false }
def TraceSeenSaid : Prop := traceSeenRow.holds Try.pinned (OpenSpec.ofChange traceSeenSpec)

/-- ITS FALSE NEIGHBOUR: 'it returns false'. Refute it at one input. -/
def traceSeenWrong : ChangeSpec := { name := "traceSeen", fn := fun _ => fun
  | [d1, d2, d3] => { results := [.lit (.bool false)], args := [d1, d2, d3] }
  | _ => none }
def TraceSeenWrongFalsely : Prop := traceSeenRow.holds Try.pinned (OpenSpec.ofChange traceSeenWrong)

/-- 'skywavelaw03.TraceGrams': WHATEVER THE INPUT: true; the input reads as it did. -/
def traceGramsSpec : ChangeSpec := { name := "traceGrams", fn := fun _ => fun
  | [d1, d2] => { results := [.lit (.bool true)], args := [d1, d2] }
  | _ => none }
def traceGramsRow : OpenClaim := { program := "ytmiphilcplojnaa", sum := "4ebde629538d988fa0a5391199138a19827ce46494a3e0d1d0363ba97b2df38a", func := "skywave/skywavelaw03.TraceGrams", spec := "traceGrams", unfollowed := true, recurses := true, apart := false }
def TraceGramsSaid : Prop := traceGramsRow.holds Try.pinned (OpenSpec.ofChange traceGramsSpec)

/-- ITS FALSE NEIGHBOUR: 'it returns false'. Refute it at one input. -/
def traceGramsWrong : ChangeSpec := { name := "traceGrams", fn := fun _ => fun
  | [d1, d2] => { results := [.lit (.bool false)], args := [d1, d2] }
  | _ => none }
def TraceGramsWrongFalsely : Prop := traceGramsRow.holds Try.pinned (OpenSpec.ofChange traceGramsWrong)

/-- 'skywavelaw03.TraceReadings': WHATEVER THE INPUT: true; the input reads as it did. -/
def traceReadingsSpec : ChangeSpec := { name := "traceReadings", fn := fun _ => fun
  | [d1, d2] => { results := [.lit (.bool true)], args := [d1, d2] }
  | _ => none }
def traceReadingsRow : OpenClaim := { program := "ytmiphilcplojnaa", sum := "4ebde629538d988fa0a5391199138a19827ce46494a3e0d1d0363ba97b2df38a", func := "skywave/skywavelaw03.TraceReadings", spec := "traceReadings", unfollowed := true, recurses := true, apart := false }
def TraceReadingsSaid : Prop := traceReadingsRow.holds Try.pinned (OpenSpec.ofChange traceReadingsSpec)

/-- ITS FALSE NEIGHBOUR: 'it returns false'. Refute it at one input. -/
def traceReadingsWrong : ChangeSpec := { name := "traceReadings", fn := fun _ => fun
  | [d1, d2] => { results := [.lit (.bool false)], args := [d1, d2] }
  | _ => none }
def TraceReadingsWrongFalsely : Prop := traceReadingsRow.holds Try.pinned (OpenSpec.ofChange traceReadingsWrong)

/-- 'skywavelaw03.TraceTwo': WHATEVER THE INPUT: true; the input reads as it did. -/
def traceTwoSpec : ChangeSpec := { name := "traceTwo", fn := fun _ => fun
  | [d1, d2, d3] => { results := [.lit (.bool true)], args := [d1, d2, d3] }
  | _ => none }
def traceTwoRow : OpenClaim := { program := "ytmiphilcplojnaa", sum := "4ebde629538d988fa0a5391199138a19827ce46494a3e0d1d0363ba97b2df38a", func := "skywave/skywavelaw03.TraceTwo", spec := "traceTwo", unfollowed := true, recurses := true, apart := false }
def TraceTwoSaid : Prop := traceTwoRow.holds Try.pinned (OpenSpec.ofChange traceTwoSpec)

/-- ITS FALSE NEIGHBOUR: 'it returns false'. Refute it at one input. -/
def traceTwoWrong : ChangeSpec := { name := "traceTwo", fn := fun _ => fun
  | [d1, d2, d3] => { results := [.lit (.bool false)], args := [d1, d2, d3] }
  | _ => none }
def TraceTwoWrongFalsely : Prop := traceTwoRow.holds Try.pinned (OpenSpec.ofChange traceTwoWrong)

/-- 'skywavelaw03.TracePaths': WHATEVER THE INPUT: true; the input reads as it did. -/
def tracePathsSpec : ChangeSpec := { name := "tracePaths", fn := fun _ => fun
  | [d1, d2, d3] => { results := [.lit (.bool true)], args := [d1, d2, d3] }
  | _ => none }
def tracePathsRow : OpenClaim := { program := "ytmiphilcplojnaa", sum := "4ebde629538d988fa0a5391199138a19827ce46494a3e0d1d0363ba97b2df38a", func := "skywave/skywavelaw03.TracePaths", spec := "tracePaths", unfollowed := true, recurses := true, apart := false }
def TracePathsSaid : Prop := tracePathsRow.holds Try.pinned (OpenSpec.ofChange tracePathsSpec)

/-- ITS FALSE NEIGHBOUR: 'it returns false'. Refute it at one input. -/
def tracePathsWrong : ChangeSpec := { name := "tracePaths", fn := fun _ => fun
  | [d1, d2, d3] => { results := [.lit (.bool false)], args := [d1, d2, d3] }
  | _ => none }
def TracePathsWrongFalsely : Prop := tracePathsRow.holds Try.pinned (OpenSpec.ofChange tracePathsWrong)

/-- 'skywavetop.TopTraceMirror': WHATEVER THE INPUT: true; the input reads as it did. -/
def topTraceMirrorSpec : ChangeSpec := { name := "topTraceMirror", fn := fun _ => fun
  | [d1, d2, d3] => { results := [.lit (.bool true)], args := [d1, d2, d3] }
  | _ => none }
def topTraceMirrorRow : OpenClaim := { program := "ytmiphilcplojnaa", sum := "4ebde629538d988fa0a5391199138a19827ce46494a3e0d1d0363ba97b2df38a", func := "skywave/skywavetop.TopTraceMirror", spec := "topTraceMirror", unfollowed := true, recurses := true, apart := false }
def TopTraceMirrorSaid : Prop := topTraceMirrorRow.holds Try.pinned (OpenSpec.ofChange topTraceMirrorSpec)

/-- ITS FALSE NEIGHBOUR: 'it returns false'. Refute it at one input. -/
def topTraceMirrorWrong : ChangeSpec := { name := "topTraceMirror", fn := fun _ => fun
  | [d1, d2, d3] => { results := [.lit (.bool false)], args := [d1, d2, d3] }
  | _ => none }
def TopTraceMirrorWrongFalsely : Prop := topTraceMirrorRow.holds Try.pinned (OpenSpec.ofChange topTraceMirrorWrong)

/-- 'skywavelaw03.TraceCosts': WHATEVER THE INPUT: true; the input reads as it did. -/
def traceCostsSpec : ChangeSpec := { name := "traceCosts", fn := fun _ => fun
  | [d1, d2, d3] => { results := [.lit (.bool true)], args := [d1, d2, d3] }
  | _ => none }
def traceCostsRow : OpenClaim := { program := "ytmiphilcplojnaa", sum := "4ebde629538d988fa0a5391199138a19827ce46494a3e0d1d0363ba97b2df38a", func := "skywave/skywavelaw03.TraceCosts", spec := "traceCosts", unfollowed := true, recurses := true, apart := false }
def TraceCostsSaid : Prop := traceCostsRow.holds Try.pinned (OpenSpec.ofChange traceCostsSpec)

/-- ITS FALSE NEIGHBOUR: 'it returns false'. Refute it at one input. -/
def traceCostsWrong : ChangeSpec := { name := "traceCosts", fn := fun _ => fun
  | [d1, d2, d3] => { results := [.lit (.bool false)], args := [d1, d2, d3] }
  | _ => none }
def TraceCostsWrongFalsely : Prop := traceCostsRow.holds Try.pinned (OpenSpec.ofChange traceCostsWrong)

/-- 'skywavelaw03.TraceLayers': WHATEVER THE INPUT: true; the input reads as it did. -/
def traceLayersSpec : ChangeSpec := { name := "traceLayers", fn := fun _ => fun
  | [d1, d2, d3] => { results := [.lit (.bool true)], args := [d1, d2, d3] }
  | _ => none }
def traceLayersRow : OpenClaim := { program := "ytmiphilcplojnaa", sum := "4ebde629538d988fa0a5391199138a19827ce46494a3e0d1d0363ba97b2df38a", func := "skywave/skywavelaw03.TraceLayers", spec := "traceLayers", unfollowed := true, recurses := true, apart := false }
def TraceLayersSaid : Prop := traceLayersRow.holds Try.pinned (OpenSpec.ofChange traceLayersSpec)

/-- ITS FALSE NEIGHBOUR: 'it returns false'. Refute it at one input. -/
def traceLayersWrong : ChangeSpec := { name := "traceLayers", fn := fun _ => fun
  | [d1, d2, d3] => { results := [.lit (.bool false)], args := [d1, d2, d3] }
  | _ => none }
def TraceLayersWrongFalsely : Prop := traceLayersRow.holds Try.pinned (OpenSpec.ofChange traceLayersWrong)

/-- 'skywavelaw03.TraceBounds': WHATEVER THE INPUT: true; the input reads as it did. -/
def traceBoundsSpec : ChangeSpec := { name := "traceBounds", fn := fun _ => fun
  | [d1, d2, d3] => { results := [.lit (.bool true)], args := [d1, d2, d3] }
  | _ => none }
def traceBoundsRow : OpenClaim := { program := "ytmiphilcplojnaa", sum := "4ebde629538d988fa0a5391199138a19827ce46494a3e0d1d0363ba97b2df38a", func := "skywave/skywavelaw03.TraceBounds", spec := "traceBounds", unfollowed := true, recurses := true, apart := false }
def TraceBoundsSaid : Prop := traceBoundsRow.holds Try.pinned (OpenSpec.ofChange traceBoundsSpec)

/-- ITS FALSE NEIGHBOUR: 'it returns false'. Refute it at one input. -/
def traceBoundsWrong : ChangeSpec := { name := "traceBounds", fn := fun _ => fun
  | [d1, d2, d3] => { results := [.lit (.bool false)], args := [d1, d2, d3] }
  | _ => none }
def TraceBoundsWrongFalsely : Prop := traceBoundsRow.holds Try.pinned (OpenSpec.ofChange traceBoundsWrong)

/-- 'skywavelaw03.TraceNoCheaper': WHATEVER THE INPUT: true; the input reads as it did. -/
def traceNoCheaperSpec : ChangeSpec := { name := "traceNoCheaper", fn := fun _ => fun
  | [d1, d2, d3] => { results := [.lit (.bool true)], args := [d1, d2, d3] }
  | _ => none }
def traceNoCheaperRow : OpenClaim := { program := "ytmiphilcplojnaa", sum := "4ebde629538d988fa0a5391199138a19827ce46494a3e0d1d0363ba97b2df38a", func := "skywave/skywavelaw03.TraceNoCheaper", spec := "traceNoCheaper", unfollowed := true, recurses := true, apart := false }
def TraceNoCheaperSaid : Prop := traceNoCheaperRow.holds Try.pinned (OpenSpec.ofChange traceNoCheaperSpec)

/-- ITS FALSE NEIGHBOUR: 'it returns false'. Refute it at one input. -/
def traceNoCheaperWrong : ChangeSpec := { name := "traceNoCheaper", fn := fun _ => fun
  | [d1, d2, d3] => { results := [.lit (.bool false)], args := [d1, d2, d3] }
  | _ => none }
def TraceNoCheaperWrongFalsely : Prop := traceNoCheaperRow.holds Try.pinned (OpenSpec.ofChange traceNoCheaperWrong)

/- THE SECOND FORM. 'bulk': how many values and letters a reading holds, each counted each time it is reached (what is shared counts as often as it is met; a slice's spare places count too). A statement '..UptoSaid' is the law's where the arguments, and the package variables that the reading takes, are together of bulk at most 1048576: NARROWER than '..Said'. Prove '..Said' where nothing that the law and all that it calls make is longer than what came in: it says more and counts as full. Else prove '..UptoSaid'. A law counts once. -/
mutual
def uptoBulk {H : Type} : DataW H → Nat
  | .lit (.string bytes) => bytes.length + 1
  | .lit _ => 1
  | .nil => 1
  | .ptr d => uptoBulk d + 1
  | .slice elems spare => uptoBulkAll elems + uptoBulkAll spare + 1
  | .agg parts => uptoBulkAll parts + 1
  | .iface _ d => uptoBulk d + 1
  | .map entries => uptoBulkEntries entries + 1
  | .held _ => 1
def uptoBulkAll {H : Type} : List (DataW H) → Nat
  | [] => 0
  | d :: r => uptoBulk d + uptoBulkAll r
def uptoBulkEntries {H : Type} : List (Lit × DataW H) → Nat
  | [] => 0
  | x :: r => uptoBulkEntry x + uptoBulkEntries r
def uptoBulkEntry {H : Type} : Lit × DataW H → Nat
  | (.string bytes, d) => bytes.length + uptoBulk d + 1
  | (_, d) => uptoBulk d + 1
 end
def uptoSmall : (H : Type) → List (DataW H) → Bool := fun _ ds => decide (uptoBulkAll ds ≤ 1048576)
def OpenSpec.upto (s : _root_.Go.ChangeSpec) : _root_.Go.OpenSpec := { _root_.Go.OpenSpec.ofChange s with cond := some uptoSmall }

/-- 'skywavelaw03.TraceSeen', WHERE WHAT IT READS IS OF BULK AT MOST 1048576: true; the input reads as it did. -/
def traceSeenUptoRow : OpenClaim := { program := "ytmiphilcplojnaa", sum := "4ebde629538d988fa0a5391199138a19827ce46494a3e0d1d0363ba97b2df38a", func := "skywave/skywavelaw03.TraceSeen", spec := "traceSeen", unfollowed := true, recurses := true, apart := false, narrowed := true }
def TraceSeenUptoSaid : Prop := traceSeenUptoRow.holds Try.pinned (OpenSpec.upto traceSeenSpec)

/-- 'skywavelaw03.TraceGrams', WHERE WHAT IT READS IS OF BULK AT MOST 1048576: true; the input reads as it did. -/
def traceGramsUptoRow : OpenClaim := { program := "ytmiphilcplojnaa", sum := "4ebde629538d988fa0a5391199138a19827ce46494a3e0d1d0363ba97b2df38a", func := "skywave/skywavelaw03.TraceGrams", spec := "traceGrams", unfollowed := true, recurses := true, apart := false, narrowed := true }
def TraceGramsUptoSaid : Prop := traceGramsUptoRow.holds Try.pinned (OpenSpec.upto traceGramsSpec)

/-- 'skywavelaw03.TraceReadings', WHERE WHAT IT READS IS OF BULK AT MOST 1048576: true; the input reads as it did. -/
def traceReadingsUptoRow : OpenClaim := { program := "ytmiphilcplojnaa", sum := "4ebde629538d988fa0a5391199138a19827ce46494a3e0d1d0363ba97b2df38a", func := "skywave/skywavelaw03.TraceReadings", spec := "traceReadings", unfollowed := true, recurses := true, apart := false, narrowed := true }
def TraceReadingsUptoSaid : Prop := traceReadingsUptoRow.holds Try.pinned (OpenSpec.upto traceReadingsSpec)

/-- 'skywavelaw03.TraceTwo', WHERE WHAT IT READS IS OF BULK AT MOST 1048576: true; the input reads as it did. -/
def traceTwoUptoRow : OpenClaim := { program := "ytmiphilcplojnaa", sum := "4ebde629538d988fa0a5391199138a19827ce46494a3e0d1d0363ba97b2df38a", func := "skywave/skywavelaw03.TraceTwo", spec := "traceTwo", unfollowed := true, recurses := true, apart := false, narrowed := true }
def TraceTwoUptoSaid : Prop := traceTwoUptoRow.holds Try.pinned (OpenSpec.upto traceTwoSpec)

/-- 'skywavelaw03.TracePaths', WHERE WHAT IT READS IS OF BULK AT MOST 1048576: true; the input reads as it did. -/
def tracePathsUptoRow : OpenClaim := { program := "ytmiphilcplojnaa", sum := "4ebde629538d988fa0a5391199138a19827ce46494a3e0d1d0363ba97b2df38a", func := "skywave/skywavelaw03.TracePaths", spec := "tracePaths", unfollowed := true, recurses := true, apart := false, narrowed := true }
def TracePathsUptoSaid : Prop := tracePathsUptoRow.holds Try.pinned (OpenSpec.upto tracePathsSpec)

/-- 'skywavetop.TopTraceMirror', WHERE WHAT IT READS IS OF BULK AT MOST 1048576: true; the input reads as it did. -/
def topTraceMirrorUptoRow : OpenClaim := { program := "ytmiphilcplojnaa", sum := "4ebde629538d988fa0a5391199138a19827ce46494a3e0d1d0363ba97b2df38a", func := "skywave/skywavetop.TopTraceMirror", spec := "topTraceMirror", unfollowed := true, recurses := true, apart := false, narrowed := true }
def TopTraceMirrorUptoSaid : Prop := topTraceMirrorUptoRow.holds Try.pinned (OpenSpec.upto topTraceMirrorSpec)

/-- 'skywavelaw03.TraceCosts', WHERE WHAT IT READS IS OF BULK AT MOST 1048576: true; the input reads as it did. -/
def traceCostsUptoRow : OpenClaim := { program := "ytmiphilcplojnaa", sum := "4ebde629538d988fa0a5391199138a19827ce46494a3e0d1d0363ba97b2df38a", func := "skywave/skywavelaw03.TraceCosts", spec := "traceCosts", unfollowed := true, recurses := true, apart := false, narrowed := true }
def TraceCostsUptoSaid : Prop := traceCostsUptoRow.holds Try.pinned (OpenSpec.upto traceCostsSpec)

/-- 'skywavelaw03.TraceLayers', WHERE WHAT IT READS IS OF BULK AT MOST 1048576: true; the input reads as it did. -/
def traceLayersUptoRow : OpenClaim := { program := "ytmiphilcplojnaa", sum := "4ebde629538d988fa0a5391199138a19827ce46494a3e0d1d0363ba97b2df38a", func := "skywave/skywavelaw03.TraceLayers", spec := "traceLayers", unfollowed := true, recurses := true, apart := false, narrowed := true }
def TraceLayersUptoSaid : Prop := traceLayersUptoRow.holds Try.pinned (OpenSpec.upto traceLayersSpec)

/-- 'skywavelaw03.TraceBounds', WHERE WHAT IT READS IS OF BULK AT MOST 1048576: true; the input reads as it did. -/
def traceBoundsUptoRow : OpenClaim := { program := "ytmiphilcplojnaa", sum := "4ebde629538d988fa0a5391199138a19827ce46494a3e0d1d0363ba97b2df38a", func := "skywave/skywavelaw03.TraceBounds", spec := "traceBounds", unfollowed := true, recurses := true, apart := false, narrowed := true }
def TraceBoundsUptoSaid : Prop := traceBoundsUptoRow.holds Try.pinned (OpenSpec.upto traceBoundsSpec)

/-- 'skywavelaw03.TraceNoCheaper', WHERE WHAT IT READS IS OF BULK AT MOST 1048576: true; the input reads as it did. -/
def traceNoCheaperUptoRow : OpenClaim := { program := "ytmiphilcplojnaa", sum := "4ebde629538d988fa0a5391199138a19827ce46494a3e0d1d0363ba97b2df38a", func := "skywave/skywavelaw03.TraceNoCheaper", spec := "traceNoCheaper", unfollowed := true, recurses := true, apart := false, narrowed := true }
def TraceNoCheaperUptoSaid : Prop := traceNoCheaperUptoRow.holds Try.pinned (OpenSpec.upto traceNoCheaperSpec)

end Rows
end Go.Proofs.Ytmiphilcplojnaa
