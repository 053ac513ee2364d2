/-
  No cell of these rows narrows 'for every input' (looked for: loops, veiled, ifaces, maps, wideKeys, modest, calm, conditions, laid).
  DERIVED. THE GIVEN ROWS OF THIS SEAT. 4 by the template 'for every input the law returns true; each argument reads behind the call as it read before'; 0 by the template 'total and deterministic' (their statements: YtkliejppigfjiaaTotals.lean).
  GIVEN WITH THE SEED: the statements are not yours to turn. If you find one false, say at which input.
  Laid BY PROGRAM, IN A SANDBOX (cutbox-rows.mjs): the forced cells as the released guide's own fill.sh prints them over the translation 4c105d4933fb2456… (all of the seat's roots in one cut). By AI agents, Wed Nov 11 2026. No macro, syntax, notation, axiom, sorry.
-/
import Derived.Test.YtkliejppigfjiaaChecked
import GoSem.Claim
import GoSem.ClaimJoined
import GoSem.ClaimMapViews
import Derived.JoinedTies
import Derived.KernelRfl
namespace Go.Proofs.Ytkliejppigfjiaa
/- THE CELL 'sum', in the pinned program and in every row, IS THE sha256 OF THE DUMP (.gsa) THAT YtkliejppigfjiaaProg.lean LOADS. Nothing in Lean hashes anything: it is a label: what it is worth is what the hold of that sum in a sandbox is worth. -/
noncomputable def Try.pinned : Pinned := { name := "ytkliejppigfjiaa", sum := "4c105d4933fb2456ad5cd41c8576867985336a31144dfc0e9ec537bbc95d5d98", checked := Try.checked }
namespace Rows
def none {H : Type} : Left H := { results := [], args := [] }

/-- 'skywavelaw03.TraceLayers': WHATEVER THE INPUT: true; the input reads as it did. -/
def traceLayersSpec : ChangeSpec := { name := "traceLayers", fn := fun _ => fun
  | [d1, d2, d3] => { results := [.lit (.bool true)], args := [d1, d2, d3] }
  | _ => none }
def traceLayersRow : OpenClaim := { program := "ytkliejppigfjiaa", sum := "4c105d4933fb2456ad5cd41c8576867985336a31144dfc0e9ec537bbc95d5d98", func := "skywave/skywavelaw03.TraceLayers", spec := "traceLayers", unfollowed := true, recurses := true, apart := false }
def TraceLayersSaid : Prop := traceLayersRow.holds Try.pinned (OpenSpec.ofChange traceLayersSpec)

/-- ITS FALSE NEIGHBOUR: 'it returns false'. Refute it at one input. -/
def traceLayersWrong : ChangeSpec := { name := "traceLayers", fn := fun _ => fun
  | [d1, d2, d3] => { results := [.lit (.bool false)], args := [d1, d2, d3] }
  | _ => none }
def TraceLayersWrongFalsely : Prop := traceLayersRow.holds Try.pinned (OpenSpec.ofChange traceLayersWrong)

/-- 'skywavelaw03.TraceEdits': WHATEVER THE INPUT: true; the input reads as it did. -/
def traceEditsSpec : ChangeSpec := { name := "traceEdits", fn := fun _ => fun
  | [d1, d2, d3] => { results := [.lit (.bool true)], args := [d1, d2, d3] }
  | _ => none }
def traceEditsRow : OpenClaim := { program := "ytkliejppigfjiaa", sum := "4c105d4933fb2456ad5cd41c8576867985336a31144dfc0e9ec537bbc95d5d98", func := "skywave/skywavelaw03.TraceEdits", spec := "traceEdits", unfollowed := true, recurses := true, apart := false }
def TraceEditsSaid : Prop := traceEditsRow.holds Try.pinned (OpenSpec.ofChange traceEditsSpec)

/-- ITS FALSE NEIGHBOUR: 'it returns false'. Refute it at one input. -/
def traceEditsWrong : ChangeSpec := { name := "traceEdits", fn := fun _ => fun
  | [d1, d2, d3] => { results := [.lit (.bool false)], args := [d1, d2, d3] }
  | _ => none }
def TraceEditsWrongFalsely : Prop := traceEditsRow.holds Try.pinned (OpenSpec.ofChange traceEditsWrong)

/-- 'skywavelaw03.TraceBack': WHATEVER THE INPUT: true; the input reads as it did. -/
def traceBackSpec : ChangeSpec := { name := "traceBack", fn := fun _ => fun
  | [d1, d2, d3] => { results := [.lit (.bool true)], args := [d1, d2, d3] }
  | _ => none }
def traceBackRow : OpenClaim := { program := "ytkliejppigfjiaa", sum := "4c105d4933fb2456ad5cd41c8576867985336a31144dfc0e9ec537bbc95d5d98", func := "skywave/skywavelaw03.TraceBack", spec := "traceBack", unfollowed := true, recurses := true, apart := false }
def TraceBackSaid : Prop := traceBackRow.holds Try.pinned (OpenSpec.ofChange traceBackSpec)

/-- ITS FALSE NEIGHBOUR: 'it returns false'. Refute it at one input. -/
def traceBackWrong : ChangeSpec := { name := "traceBack", fn := fun _ => fun
  | [d1, d2, d3] => { results := [.lit (.bool false)], args := [d1, d2, d3] }
  | _ => none }
def TraceBackWrongFalsely : Prop := traceBackRow.holds Try.pinned (OpenSpec.ofChange traceBackWrong)

/-- 'skywavelaw03.TraceMerged': WHATEVER THE INPUT: true; the input reads as it did. -/
def traceMergedSpec : ChangeSpec := { name := "traceMerged", fn := fun _ => fun
  | [d1, d2] => { results := [.lit (.bool true)], args := [d1, d2] }
  | _ => none }
def traceMergedRow : OpenClaim := { program := "ytkliejppigfjiaa", sum := "4c105d4933fb2456ad5cd41c8576867985336a31144dfc0e9ec537bbc95d5d98", func := "skywave/skywavelaw03.TraceMerged", spec := "traceMerged", unfollowed := true, recurses := true, apart := false }
def TraceMergedSaid : Prop := traceMergedRow.holds Try.pinned (OpenSpec.ofChange traceMergedSpec)

/-- ITS FALSE NEIGHBOUR: 'it returns false'. Refute it at one input. -/
def traceMergedWrong : ChangeSpec := { name := "traceMerged", fn := fun _ => fun
  | [d1, d2] => { results := [.lit (.bool false)], args := [d1, d2] }
  | _ => none }
def TraceMergedWrongFalsely : Prop := traceMergedRow.holds Try.pinned (OpenSpec.ofChange traceMergedWrong)

/- THE SECOND FORM. 'bulk': how many values and letters a reading holds, each counted each time it is reached (what is shared counts as often as it is met; a slice's spare places count too). A statement '..UptoSaid' is the law's where the arguments, and the package variables that the reading takes, are together of bulk at most 1048576: NARROWER than '..Said'. Prove '..Said' where nothing that the law and all that it calls make is longer than what came in: it says more and counts as full. Else prove '..UptoSaid'. A law counts once. -/
mutual
def uptoBulk {H : Type} : DataW H → Nat
  | .lit (.string bytes) => bytes.length + 1
  | .lit _ => 1
  | .nil => 1
  | .ptr d => uptoBulk d + 1
  | .slice elems spare => uptoBulkAll elems + uptoBulkAll spare + 1
  | .agg parts => uptoBulkAll parts + 1
  | .iface _ d => uptoBulk d + 1
  | .map entries => uptoBulkEntries entries + 1
  | .held _ => 1
def uptoBulkAll {H : Type} : List (DataW H) → Nat
  | [] => 0
  | d :: r => uptoBulk d + uptoBulkAll r
def uptoBulkEntries {H : Type} : List (Lit × DataW H) → Nat
  | [] => 0
  | x :: r => uptoBulkEntry x + uptoBulkEntries r
def uptoBulkEntry {H : Type} : Lit × DataW H → Nat
  | (.string bytes, d) => bytes.length + uptoBulk d + 1
  | (_, d) => uptoBulk d + 1
 end
def uptoSmall : (H : Type) → List (DataW H) → Bool := fun _ ds => decide (uptoBulkAll ds ≤ 1048576)
def OpenSpec.upto (s : _root_.Go.ChangeSpec) : _root_.Go.OpenSpec := { _root_.Go.OpenSpec.ofChange s with cond := some uptoSmall }

/-- 'skywavelaw03.TraceLayers', WHERE WHAT IT READS IS OF BULK AT MOST 1048576: true; the input reads as it did. -/
def traceLayersUptoRow : OpenClaim := { program := "ytkliejppigfjiaa", sum := "4c105d4933fb2456ad5cd41c8576867985336a31144dfc0e9ec537bbc95d5d98", func := "skywave/skywavelaw03.TraceLayers", spec := "traceLayers", unfollowed := true, recurses := true, apart := false, narrowed := true }
def TraceLayersUptoSaid : Prop := traceLayersUptoRow.holds Try.pinned (OpenSpec.upto traceLayersSpec)

/-- 'skywavelaw03.TraceEdits', WHERE WHAT IT READS IS OF BULK AT MOST 1048576: true; the input reads as it did. -/
def traceEditsUptoRow : OpenClaim := { program := "ytkliejppigfjiaa", sum := "4c105d4933fb2456ad5cd41c8576867985336a31144dfc0e9ec537bbc95d5d98", func := "skywave/skywavelaw03.TraceEdits", spec := "traceEdits", unfollowed := true, recurses := true, apart := false, narrowed := true }
def TraceEditsUptoSaid : Prop := traceEditsUptoRow.holds Try.pinned (OpenSpec.upto traceEditsSpec)

/-- 'skywavelaw03.TraceBack', WHERE WHAT IT READS IS OF BULK AT MOST 1048576: true; the input reads as it did. -/
def traceBackUptoRow : OpenClaim := { program := "ytkliejppigfjiaa", sum := "4c105d4933fb2456ad5cd41c8576867985336a31144dfc0e9ec537bbc95d5d98", func := "skywave/skywavelaw03.TraceBack", spec := "traceBack", unfollowed := true, recurses := true, apart := false, narrowed := true }
def TraceBackUptoSaid : Prop := traceBackUptoRow.holds Try.pinned (OpenSpec.upto traceBackSpec)

/-- 'skywavelaw03.TraceMerged', WHERE WHAT IT READS IS OF BULK AT MOST 1048576: true; the input reads as it did. -/
def traceMergedUptoRow : OpenClaim := { program := "ytkliejppigfjiaa", sum := "4c105d4933fb2456ad5cd41c8576867985336a31144dfc0e9ec537bbc95d5d98", func := "skywave/skywavelaw03.TraceMerged", spec := "traceMerged", unfollowed := true, recurses := true, apart := false, narrowed := true }
def TraceMergedUptoSaid : Prop := traceMergedUptoRow.holds Try.pinned (OpenSpec.upto traceMergedSpec)

end Rows
end Go.Proofs.Ytkliejppigfjiaa
