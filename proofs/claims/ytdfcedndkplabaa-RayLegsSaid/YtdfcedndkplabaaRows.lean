/-
  No cell of these rows narrows 'for every input' (looked for: loops, veiled, ifaces, maps, wideKeys, modest, calm, conditions, laid).
  DERIVED. THE GIVEN ROWS OF THIS SEAT. 2 by the template 'for every input the law returns true; each argument reads behind the call as it read before'; 0 by the template 'total and deterministic' (their statements: YtdfcedndkplabaaTotals.lean).
  GIVEN WITH THE SEED: the statements are not yours to turn. If you find one false, say at which input.
  Laid BY PROGRAM, IN A SANDBOX (cutbox-rows.mjs): the forced cells as the released guide's own fill.sh prints them over the translation 32d7574c3bdbf802… (all of the seat's roots in one cut). By AI agents, Wed Nov 11 2026. No macro, syntax, notation, axiom, sorry.
-/
import Derived.Test.YtdfcedndkplabaaChecked
import GoSem.Claim
import GoSem.ClaimJoined
import GoSem.ClaimMapViews
import Derived.JoinedTies
import Derived.KernelRfl
namespace Go.Proofs.Ytdfcedndkplabaa
/- THE CELL 'sum', in the pinned program and in every row, IS THE sha256 OF THE DUMP (.gsa) THAT YtdfcedndkplabaaProg.lean LOADS. Nothing in Lean hashes anything: it is a label: what it is worth is what the hold of that sum in a sandbox is worth. -/
noncomputable def Try.pinned : Pinned := { name := "ytdfcedndkplabaa", sum := "32d7574c3bdbf802f30c1d1a00f087c30652693d8cebdd4e465bd160956a8b8c", checked := Try.checked }
namespace Rows
def none {H : Type} : Left H := { results := [], args := [] }

/-- 'skywavelaw05.RaySnell': WHATEVER THE INPUT: true; the input reads as it did. -/
def raySnellSpec : ChangeSpec := { name := "raySnell", fn := fun _ => fun
  | [d1, d2, d3] => { results := [.lit (.bool true)], args := [d1, d2, d3] }
  | _ => none }
def raySnellRow : OpenClaim := { program := "ytdfcedndkplabaa", sum := "32d7574c3bdbf802f30c1d1a00f087c30652693d8cebdd4e465bd160956a8b8c", func := "skywave/skywavelaw05.RaySnell", spec := "raySnell", unfollowed := true, recurses := true, apart := false }
def RaySnellSaid : Prop := raySnellRow.holds Try.pinned (OpenSpec.ofChange raySnellSpec)

/-- ITS FALSE NEIGHBOUR: 'it returns false'. Refute it at one input. -/
def raySnellWrong : ChangeSpec := { name := "raySnell", fn := fun _ => fun
  | [d1, d2, d3] => { results := [.lit (.bool false)], args := [d1, d2, d3] }
  | _ => none }
def RaySnellWrongFalsely : Prop := raySnellRow.holds Try.pinned (OpenSpec.ofChange raySnellWrong)

/-- 'skywavelaw05.RayLegs': WHATEVER THE INPUT: true; the input reads as it did. -/
def rayLegsSpec : ChangeSpec := { name := "rayLegs", fn := fun _ => fun
  | [d1, d2, d3] => { results := [.lit (.bool true)], args := [d1, d2, d3] }
  | _ => none }
def rayLegsRow : OpenClaim := { program := "ytdfcedndkplabaa", sum := "32d7574c3bdbf802f30c1d1a00f087c30652693d8cebdd4e465bd160956a8b8c", func := "skywave/skywavelaw05.RayLegs", spec := "rayLegs", unfollowed := true, recurses := true, apart := false }
def RayLegsSaid : Prop := rayLegsRow.holds Try.pinned (OpenSpec.ofChange rayLegsSpec)

/-- ITS FALSE NEIGHBOUR: 'it returns false'. Refute it at one input. -/
def rayLegsWrong : ChangeSpec := { name := "rayLegs", fn := fun _ => fun
  | [d1, d2, d3] => { results := [.lit (.bool false)], args := [d1, d2, d3] }
  | _ => none }
def RayLegsWrongFalsely : Prop := rayLegsRow.holds Try.pinned (OpenSpec.ofChange rayLegsWrong)

/- THE SECOND FORM. 'bulk': how many values and letters a reading holds, each counted each time it is reached (what is shared counts as often as it is met; a slice's spare places count too). A statement '..UptoSaid' is the law's where the arguments, and the package variables that the reading takes, are together of bulk at most 1048576: NARROWER than '..Said'. Prove '..Said' where nothing that the law and all that it calls make is longer than what came in: it says more and counts as full. Else prove '..UptoSaid'. A law counts once. -/
mutual
def uptoBulk {H : Type} : DataW H → Nat
  | .lit (.string bytes) => bytes.length + 1
  | .lit _ => 1
  | .nil => 1
  | .ptr d => uptoBulk d + 1
  | .slice elems spare => uptoBulkAll elems + uptoBulkAll spare + 1
  | .agg parts => uptoBulkAll parts + 1
  | .iface _ d => uptoBulk d + 1
  | .map entries => uptoBulkEntries entries + 1
  | .held _ => 1
def uptoBulkAll {H : Type} : List (DataW H) → Nat
  | [] => 0
  | d :: r => uptoBulk d + uptoBulkAll r
def uptoBulkEntries {H : Type} : List (Lit × DataW H) → Nat
  | [] => 0
  | x :: r => uptoBulkEntry x + uptoBulkEntries r
def uptoBulkEntry {H : Type} : Lit × DataW H → Nat
  | (.string bytes, d) => bytes.length + uptoBulk d + 1
  | (_, d) => uptoBulk d + 1
 end
def uptoSmall : (H : Type) → List (DataW H) → Bool := fun _ ds => decide (uptoBulkAll ds ≤ 1048576)
def OpenSpec.upto (s : _root_.Go.ChangeSpec) : _root_.Go.OpenSpec := { _root_.Go.OpenSpec.ofChange s with cond := some uptoSmall }

/-- 'skywavelaw05.RaySnell', WHERE WHAT IT READS IS OF BULK AT MOST 1048576: true; the input reads as it did. -/
def raySnellUptoRow : OpenClaim := { program := "ytdfcedndkplabaa", sum := "32d7574c3bdbf802f30c1d1a00f087c30652693d8cebdd4e465bd160956a8b8c", func := "skywave/skywavelaw05.RaySnell", spec := "raySnell", unfollowed := true, recurses := true, apart := false, narrowed := true }
def RaySnellUptoSaid : Prop := raySnellUptoRow.holds Try.pinned (OpenSpec.upto raySnellSpec)

/-- 'skywavelaw05.RayLegs', WHERE WHAT IT READS IS OF BULK AT MOST 1048576: true; the input reads as it did. -/
def rayLegsUptoRow : OpenClaim := { program := "ytdfcedndkplabaa", sum := "32d7574c3bdbf802f30c1d1a00f087c30652693d8cebdd4e465bd160956a8b8c", func := "skywave/skywavelaw05.RayLegs", spec := "rayLegs", unfollowed := true, recurses := true, apart := false, narrowed := true }
def RayLegsUptoSaid : Prop := rayLegsUptoRow.holds Try.pinned (OpenSpec.upto rayLegsSpec)

end Rows
end Go.Proofs.Ytdfcedndkplabaa
