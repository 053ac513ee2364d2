/-
  No cell of these rows narrows 'for every input' (looked for: loops, veiled, ifaces, maps, wideKeys, modest, calm, conditions, laid).
  DERIVED. THE GIVEN ROWS OF THIS SEAT. 11 by the template 'for every input the law returns true; each argument reads behind the call as it read before'; 0 by the template 'total and deterministic' (their statements: YtplaocfagjeikaaTotals.lean).
  GIVEN WITH THE SEED: the statements are not yours to turn. If you find one false, say at which input.
  Laid BY PROGRAM, IN A SANDBOX (cutbox-rows.mjs): the forced cells as the released guide's own fill.sh prints them over the translation 68fff35952cff342… (all of the seat's roots in one cut). By AI agents, Wed Nov 11 2026. No macro, syntax, notation, axiom, sorry.
-/
import Derived.Test.YtplaocfagjeikaaChecked
import GoSem.Claim
import GoSem.ClaimJoined
import GoSem.ClaimMapViews
import Derived.JoinedTies
import Derived.KernelRfl
namespace Go.Proofs.Ytplaocfagjeikaa
/- THE CELL 'sum', in the pinned program and in every row, IS THE sha256 OF THE DUMP (.gsa) THAT YtplaocfagjeikaaProg.lean LOADS. Nothing in Lean hashes anything: it is a label: what it is worth is what the hold of that sum in a sandbox is worth. -/
noncomputable def Try.pinned : Pinned := { name := "ytplaocfagjeikaa", sum := "68fff35952cff342833ad01d317b9ad9011f42e2b275162e5632e1a431eda7e0", checked := Try.checked }
namespace Rows
def none {H : Type} : Left H := { results := [], args := [] }

/-- 'skywavelaw05.RaySkips': WHATEVER THE INPUT: true; the input reads as it did. -/
def raySkipsSpec : ChangeSpec := { name := "raySkips", fn := fun _ => fun
  | [d1, d2, d3] => { results := [.lit (.bool true)], args := [d1, d2, d3] }
  | _ => none }
def raySkipsRow : OpenClaim := { program := "ytplaocfagjeikaa", sum := "68fff35952cff342833ad01d317b9ad9011f42e2b275162e5632e1a431eda7e0", func := "skywave/skywavelaw05.RaySkips", spec := "raySkips", unfollowed := true, recurses := true, apart := false }
def RaySkipsSaid : Prop := raySkipsRow.holds Try.pinned (OpenSpec.ofChange raySkipsSpec)

/-- ITS FALSE NEIGHBOUR: 'it returns false'. Refute it at one input. -/
def raySkipsWrong : ChangeSpec := { name := "raySkips", fn := fun _ => fun
  | [d1, d2, d3] => { results := [.lit (.bool false)], args := [d1, d2, d3] }
  | _ => none }
def RaySkipsWrongFalsely : Prop := raySkipsRow.holds Try.pinned (OpenSpec.ofChange raySkipsWrong)

/-- 'skywavelaw05.RayFields': WHATEVER THE INPUT: true; the input reads as it did. -/
def rayFieldsSpec : ChangeSpec := { name := "rayFields", fn := fun _ => fun
  | [d1, d2, d3] => { results := [.lit (.bool true)], args := [d1, d2, d3] }
  | _ => none }
def rayFieldsRow : OpenClaim := { program := "ytplaocfagjeikaa", sum := "68fff35952cff342833ad01d317b9ad9011f42e2b275162e5632e1a431eda7e0", func := "skywave/skywavelaw05.RayFields", spec := "rayFields", unfollowed := true, recurses := true, apart := false }
def RayFieldsSaid : Prop := rayFieldsRow.holds Try.pinned (OpenSpec.ofChange rayFieldsSpec)

/-- ITS FALSE NEIGHBOUR: 'it returns false'. Refute it at one input. -/
def rayFieldsWrong : ChangeSpec := { name := "rayFields", fn := fun _ => fun
  | [d1, d2, d3] => { results := [.lit (.bool false)], args := [d1, d2, d3] }
  | _ => none }
def RayFieldsWrongFalsely : Prop := rayFieldsRow.holds Try.pinned (OpenSpec.ofChange rayFieldsWrong)

/-- 'skywavelaw05.RayUses': WHATEVER THE INPUT: true; the input reads as it did. -/
def rayUsesSpec : ChangeSpec := { name := "rayUses", fn := fun _ => fun
  | [d1, d2, d3] => { results := [.lit (.bool true)], args := [d1, d2, d3] }
  | _ => none }
def rayUsesRow : OpenClaim := { program := "ytplaocfagjeikaa", sum := "68fff35952cff342833ad01d317b9ad9011f42e2b275162e5632e1a431eda7e0", func := "skywave/skywavelaw05.RayUses", spec := "rayUses", unfollowed := true, recurses := true, apart := false }
def RayUsesSaid : Prop := rayUsesRow.holds Try.pinned (OpenSpec.ofChange rayUsesSpec)

/-- ITS FALSE NEIGHBOUR: 'it returns false'. Refute it at one input. -/
def rayUsesWrong : ChangeSpec := { name := "rayUses", fn := fun _ => fun
  | [d1, d2, d3] => { results := [.lit (.bool false)], args := [d1, d2, d3] }
  | _ => none }
def RayUsesWrongFalsely : Prop := rayUsesRow.holds Try.pinned (OpenSpec.ofChange rayUsesWrong)

/-- 'skywavelaw05.RayBothSides': WHATEVER THE INPUT: true; the input reads as it did. -/
def rayBothSidesSpec : ChangeSpec := { name := "rayBothSides", fn := fun _ => fun
  | [d1, d2, d3] => { results := [.lit (.bool true)], args := [d1, d2, d3] }
  | _ => none }
def rayBothSidesRow : OpenClaim := { program := "ytplaocfagjeikaa", sum := "68fff35952cff342833ad01d317b9ad9011f42e2b275162e5632e1a431eda7e0", func := "skywave/skywavelaw05.RayBothSides", spec := "rayBothSides", unfollowed := true, recurses := true, apart := false }
def RayBothSidesSaid : Prop := rayBothSidesRow.holds Try.pinned (OpenSpec.ofChange rayBothSidesSpec)

/-- ITS FALSE NEIGHBOUR: 'it returns false'. Refute it at one input. -/
def rayBothSidesWrong : ChangeSpec := { name := "rayBothSides", fn := fun _ => fun
  | [d1, d2, d3] => { results := [.lit (.bool false)], args := [d1, d2, d3] }
  | _ => none }
def RayBothSidesWrongFalsely : Prop := rayBothSidesRow.holds Try.pinned (OpenSpec.ofChange rayBothSidesWrong)

/-- 'skywavelaw05.RaySkies': WHATEVER THE INPUT: true; the input reads as it did. -/
def raySkiesSpec : ChangeSpec := { name := "raySkies", fn := fun _ => fun
  | [d1, d2, d3] => { results := [.lit (.bool true)], args := [d1, d2, d3] }
  | _ => none }
def raySkiesRow : OpenClaim := { program := "ytplaocfagjeikaa", sum := "68fff35952cff342833ad01d317b9ad9011f42e2b275162e5632e1a431eda7e0", func := "skywave/skywavelaw05.RaySkies", spec := "raySkies", unfollowed := true, recurses := true, apart := false }
def RaySkiesSaid : Prop := raySkiesRow.holds Try.pinned (OpenSpec.ofChange raySkiesSpec)

/-- ITS FALSE NEIGHBOUR: 'it returns false'. Refute it at one input. -/
def raySkiesWrong : ChangeSpec := { name := "raySkies", fn := fun _ => fun
  | [d1, d2, d3] => { results := [.lit (.bool false)], args := [d1, d2, d3] }
  | _ => none }
def RaySkiesWrongFalsely : Prop := raySkiesRow.holds Try.pinned (OpenSpec.ofChange raySkiesWrong)

/-- 'skywavelaw05.RaySecant': WHATEVER THE INPUT: true; the input reads as it did. -/
def raySecantSpec : ChangeSpec := { name := "raySecant", fn := fun _ => fun
  | [d1, d2, d3] => { results := [.lit (.bool true)], args := [d1, d2, d3] }
  | _ => none }
def raySecantRow : OpenClaim := { program := "ytplaocfagjeikaa", sum := "68fff35952cff342833ad01d317b9ad9011f42e2b275162e5632e1a431eda7e0", func := "skywave/skywavelaw05.RaySecant", spec := "raySecant", unfollowed := true, recurses := true, apart := false }
def RaySecantSaid : Prop := raySecantRow.holds Try.pinned (OpenSpec.ofChange raySecantSpec)

/-- ITS FALSE NEIGHBOUR: 'it returns false'. Refute it at one input. -/
def raySecantWrong : ChangeSpec := { name := "raySecant", fn := fun _ => fun
  | [d1, d2, d3] => { results := [.lit (.bool false)], args := [d1, d2, d3] }
  | _ => none }
def RaySecantWrongFalsely : Prop := raySecantRow.holds Try.pinned (OpenSpec.ofChange raySecantWrong)

/-- 'skywavelaw05.RayTasks': WHATEVER THE INPUT: true; the input reads as it did. -/
def rayTasksSpec : ChangeSpec := { name := "rayTasks", fn := fun _ => fun
  | [d1, d2, d3] => { results := [.lit (.bool true)], args := [d1, d2, d3] }
  | _ => none }
def rayTasksRow : OpenClaim := { program := "ytplaocfagjeikaa", sum := "68fff35952cff342833ad01d317b9ad9011f42e2b275162e5632e1a431eda7e0", func := "skywave/skywavelaw05.RayTasks", spec := "rayTasks", unfollowed := true, recurses := true, apart := false }
def RayTasksSaid : Prop := rayTasksRow.holds Try.pinned (OpenSpec.ofChange rayTasksSpec)

/-- ITS FALSE NEIGHBOUR: 'it returns false'. Refute it at one input. -/
def rayTasksWrong : ChangeSpec := { name := "rayTasks", fn := fun _ => fun
  | [d1, d2, d3] => { results := [.lit (.bool false)], args := [d1, d2, d3] }
  | _ => none }
def RayTasksWrongFalsely : Prop := rayTasksRow.holds Try.pinned (OpenSpec.ofChange rayTasksWrong)

/-- 'skywavelaw05.RayFirstOrder': WHATEVER THE INPUT: true; the input reads as it did. -/
def rayFirstOrderSpec : ChangeSpec := { name := "rayFirstOrder", fn := fun _ => fun
  | [d1, d2, d3] => { results := [.lit (.bool true)], args := [d1, d2, d3] }
  | _ => none }
def rayFirstOrderRow : OpenClaim := { program := "ytplaocfagjeikaa", sum := "68fff35952cff342833ad01d317b9ad9011f42e2b275162e5632e1a431eda7e0", func := "skywave/skywavelaw05.RayFirstOrder", spec := "rayFirstOrder", unfollowed := true, recurses := true, apart := false }
def RayFirstOrderSaid : Prop := rayFirstOrderRow.holds Try.pinned (OpenSpec.ofChange rayFirstOrderSpec)

/-- ITS FALSE NEIGHBOUR: 'it returns false'. Refute it at one input. -/
def rayFirstOrderWrong : ChangeSpec := { name := "rayFirstOrder", fn := fun _ => fun
  | [d1, d2, d3] => { results := [.lit (.bool false)], args := [d1, d2, d3] }
  | _ => none }
def RayFirstOrderWrongFalsely : Prop := rayFirstOrderRow.holds Try.pinned (OpenSpec.ofChange rayFirstOrderWrong)

/-- 'skywavelaw05.RayPaths': WHATEVER THE INPUT: true; the input reads as it did. -/
def rayPathsSpec : ChangeSpec := { name := "rayPaths", fn := fun _ => fun
  | [d1, d2, d3] => { results := [.lit (.bool true)], args := [d1, d2, d3] }
  | _ => none }
def rayPathsRow : OpenClaim := { program := "ytplaocfagjeikaa", sum := "68fff35952cff342833ad01d317b9ad9011f42e2b275162e5632e1a431eda7e0", func := "skywave/skywavelaw05.RayPaths", spec := "rayPaths", unfollowed := true, recurses := true, apart := false }
def RayPathsSaid : Prop := rayPathsRow.holds Try.pinned (OpenSpec.ofChange rayPathsSpec)

/-- ITS FALSE NEIGHBOUR: 'it returns false'. Refute it at one input. -/
def rayPathsWrong : ChangeSpec := { name := "rayPaths", fn := fun _ => fun
  | [d1, d2, d3] => { results := [.lit (.bool false)], args := [d1, d2, d3] }
  | _ => none }
def RayPathsWrongFalsely : Prop := rayPathsRow.holds Try.pinned (OpenSpec.ofChange rayPathsWrong)

/-- 'skywavelaw05.RayLinks': WHATEVER THE INPUT: true; the input reads as it did. -/
def rayLinksSpec : ChangeSpec := { name := "rayLinks", fn := fun _ => fun
  | [d1, d2] => { results := [.lit (.bool true)], args := [d1, d2] }
  | _ => none }
def rayLinksRow : OpenClaim := { program := "ytplaocfagjeikaa", sum := "68fff35952cff342833ad01d317b9ad9011f42e2b275162e5632e1a431eda7e0", func := "skywave/skywavelaw05.RayLinks", spec := "rayLinks", unfollowed := true, recurses := true, apart := false }
def RayLinksSaid : Prop := rayLinksRow.holds Try.pinned (OpenSpec.ofChange rayLinksSpec)

/-- ITS FALSE NEIGHBOUR: 'it returns false'. Refute it at one input. -/
def rayLinksWrong : ChangeSpec := { name := "rayLinks", fn := fun _ => fun
  | [d1, d2] => { results := [.lit (.bool false)], args := [d1, d2] }
  | _ => none }
def RayLinksWrongFalsely : Prop := rayLinksRow.holds Try.pinned (OpenSpec.ofChange rayLinksWrong)

/-- 'skywavelaw05.RayMirrors': WHATEVER THE INPUT: true; the input reads as it did. -/
def rayMirrorsSpec : ChangeSpec := { name := "rayMirrors", fn := fun _ => fun
  | [d1, d2] => { results := [.lit (.bool true)], args := [d1, d2] }
  | _ => none }
def rayMirrorsRow : OpenClaim := { program := "ytplaocfagjeikaa", sum := "68fff35952cff342833ad01d317b9ad9011f42e2b275162e5632e1a431eda7e0", func := "skywave/skywavelaw05.RayMirrors", spec := "rayMirrors", unfollowed := true, recurses := true, apart := false }
def RayMirrorsSaid : Prop := rayMirrorsRow.holds Try.pinned (OpenSpec.ofChange rayMirrorsSpec)

/-- ITS FALSE NEIGHBOUR: 'it returns false'. Refute it at one input. -/
def rayMirrorsWrong : ChangeSpec := { name := "rayMirrors", fn := fun _ => fun
  | [d1, d2] => { results := [.lit (.bool false)], args := [d1, d2] }
  | _ => none }
def RayMirrorsWrongFalsely : Prop := rayMirrorsRow.holds Try.pinned (OpenSpec.ofChange rayMirrorsWrong)

/- THE SECOND FORM. 'bulk': how many values and letters a reading holds, each counted each time it is reached (what is shared counts as often as it is met; a slice's spare places count too). A statement '..UptoSaid' is the law's where the arguments, and the package variables that the reading takes, are together of bulk at most 1048576: NARROWER than '..Said'. Prove '..Said' where nothing that the law and all that it calls make is longer than what came in: it says more and counts as full. Else prove '..UptoSaid'. A law counts once. -/
mutual
def uptoBulk {H : Type} : DataW H → Nat
  | .lit (.string bytes) => bytes.length + 1
  | .lit _ => 1
  | .nil => 1
  | .ptr d => uptoBulk d + 1
  | .slice elems spare => uptoBulkAll elems + uptoBulkAll spare + 1
  | .agg parts => uptoBulkAll parts + 1
  | .iface _ d => uptoBulk d + 1
  | .map entries => uptoBulkEntries entries + 1
  | .held _ => 1
def uptoBulkAll {H : Type} : List (DataW H) → Nat
  | [] => 0
  | d :: r => uptoBulk d + uptoBulkAll r
def uptoBulkEntries {H : Type} : List (Lit × DataW H) → Nat
  | [] => 0
  | x :: r => uptoBulkEntry x + uptoBulkEntries r
def uptoBulkEntry {H : Type} : Lit × DataW H → Nat
  | (.string bytes, d) => bytes.length + uptoBulk d + 1
  | (_, d) => uptoBulk d + 1
 end
def uptoSmall : (H : Type) → List (DataW H) → Bool := fun _ ds => decide (uptoBulkAll ds ≤ 1048576)
def OpenSpec.upto (s : _root_.Go.ChangeSpec) : _root_.Go.OpenSpec := { _root_.Go.OpenSpec.ofChange s with cond := some uptoSmall }

/-- 'skywavelaw05.RaySkips', WHERE WHAT IT READS IS OF BULK AT MOST 1048576: true; the input reads as it did. -/
def raySkipsUptoRow : OpenClaim := { program := "ytplaocfagjeikaa", sum := "68fff35952cff342833ad01d317b9ad9011f42e2b275162e5632e1a431eda7e0", func := "skywave/skywavelaw05.RaySkips", spec := "raySkips", unfollowed := true, recurses := true, apart := false, narrowed := true }
def RaySkipsUptoSaid : Prop := raySkipsUptoRow.holds Try.pinned (OpenSpec.upto raySkipsSpec)

/-- 'skywavelaw05.RayFields', WHERE WHAT IT READS IS OF BULK AT MOST 1048576: true; the input reads as it did. -/
def rayFieldsUptoRow : OpenClaim := { program := "ytplaocfagjeikaa", sum := "68fff35952cff342833ad01d317b9ad9011f42e2b275162e5632e1a431eda7e0", func := "skywave/skywavelaw05.RayFields", spec := "rayFields", unfollowed := true, recurses := true, apart := false, narrowed := true }
def RayFieldsUptoSaid : Prop := rayFieldsUptoRow.holds Try.pinned (OpenSpec.upto rayFieldsSpec)

/-- 'skywavelaw05.RayUses', WHERE WHAT IT READS IS OF BULK AT MOST 1048576: true; the input reads as it did. -/
def rayUsesUptoRow : OpenClaim := { program := "ytplaocfagjeikaa", sum := "68fff35952cff342833ad01d317b9ad9011f42e2b275162e5632e1a431eda7e0", func := "skywave/skywavelaw05.RayUses", spec := "rayUses", unfollowed := true, recurses := true, apart := false, narrowed := true }
def RayUsesUptoSaid : Prop := rayUsesUptoRow.holds Try.pinned (OpenSpec.upto rayUsesSpec)

/-- 'skywavelaw05.RayBothSides', WHERE WHAT IT READS IS OF BULK AT MOST 1048576: true; the input reads as it did. -/
def rayBothSidesUptoRow : OpenClaim := { program := "ytplaocfagjeikaa", sum := "68fff35952cff342833ad01d317b9ad9011f42e2b275162e5632e1a431eda7e0", func := "skywave/skywavelaw05.RayBothSides", spec := "rayBothSides", unfollowed := true, recurses := true, apart := false, narrowed := true }
def RayBothSidesUptoSaid : Prop := rayBothSidesUptoRow.holds Try.pinned (OpenSpec.upto rayBothSidesSpec)

/-- 'skywavelaw05.RaySkies', WHERE WHAT IT READS IS OF BULK AT MOST 1048576: true; the input reads as it did. -/
def raySkiesUptoRow : OpenClaim := { program := "ytplaocfagjeikaa", sum := "68fff35952cff342833ad01d317b9ad9011f42e2b275162e5632e1a431eda7e0", func := "skywave/skywavelaw05.RaySkies", spec := "raySkies", unfollowed := true, recurses := true, apart := false, narrowed := true }
def RaySkiesUptoSaid : Prop := raySkiesUptoRow.holds Try.pinned (OpenSpec.upto raySkiesSpec)

/-- 'skywavelaw05.RaySecant', WHERE WHAT IT READS IS OF BULK AT MOST 1048576: true; the input reads as it did. -/
def raySecantUptoRow : OpenClaim := { program := "ytplaocfagjeikaa", sum := "68fff35952cff342833ad01d317b9ad9011f42e2b275162e5632e1a431eda7e0", func := "skywave/skywavelaw05.RaySecant", spec := "raySecant", unfollowed := true, recurses := true, apart := false, narrowed := true }
def RaySecantUptoSaid : Prop := raySecantUptoRow.holds Try.pinned (OpenSpec.upto raySecantSpec)

/-- 'skywavelaw05.RayTasks', WHERE WHAT IT READS IS OF BULK AT MOST 1048576: true; the input reads as it did. -/
def rayTasksUptoRow : OpenClaim := { program := "ytplaocfagjeikaa", sum := "68fff35952cff342833ad01d317b9ad9011f42e2b275162e5632e1a431eda7e0", func := "skywave/skywavelaw05.RayTasks", spec := "rayTasks", unfollowed := true, recurses := true, apart := false, narrowed := true }
def RayTasksUptoSaid : Prop := rayTasksUptoRow.holds Try.pinned (OpenSpec.upto rayTasksSpec)

/-- 'skywavelaw05.RayFirstOrder', WHERE WHAT IT READS IS OF BULK AT MOST 1048576: true; the input reads as it did. -/
def rayFirstOrderUptoRow : OpenClaim := { program := "ytplaocfagjeikaa", sum := "68fff35952cff342833ad01d317b9ad9011f42e2b275162e5632e1a431eda7e0", func := "skywave/skywavelaw05.RayFirstOrder", spec := "rayFirstOrder", unfollowed := true, recurses := true, apart := false, narrowed := true }
def RayFirstOrderUptoSaid : Prop := rayFirstOrderUptoRow.holds Try.pinned (OpenSpec.upto rayFirstOrderSpec)

/-- 'skywavelaw05.RayPaths', WHERE WHAT IT READS IS OF BULK AT MOST 1048576: true; the input reads as it did. -/
def rayPathsUptoRow : OpenClaim := { program := "ytplaocfagjeikaa", sum := "68fff35952cff342833ad01d317b9ad9011f42e2b275162e5632e1a431eda7e0", func := "skywave/skywavelaw05.RayPaths", spec := "rayPaths", unfollowed := true, recurses := true, apart := false, narrowed := true }
def RayPathsUptoSaid : Prop := rayPathsUptoRow.holds Try.pinned (OpenSpec.upto rayPathsSpec)

/-- 'skywavelaw05.RayLinks', WHERE WHAT IT READS IS OF BULK AT MOST 1048576: true; the input reads as it did. -/
def rayLinksUptoRow : OpenClaim := { program := "ytplaocfagjeikaa", sum := "68fff35952cff342833ad01d317b9ad9011f42e2b275162e5632e1a431eda7e0", func := "skywave/skywavelaw05.RayLinks", spec := "rayLinks", unfollowed := true, recurses := true, apart := false, narrowed := true }
def RayLinksUptoSaid : Prop := rayLinksUptoRow.holds Try.pinned (OpenSpec.upto rayLinksSpec)

/-- 'skywavelaw05.RayMirrors', WHERE WHAT IT READS IS OF BULK AT MOST 1048576: true; the input reads as it did. -/
def rayMirrorsUptoRow : OpenClaim := { program := "ytplaocfagjeikaa", sum := "68fff35952cff342833ad01d317b9ad9011f42e2b275162e5632e1a431eda7e0", func := "skywave/skywavelaw05.RayMirrors", spec := "rayMirrors", unfollowed := true, recurses := true, apart := false, narrowed := true }
def RayMirrorsUptoSaid : Prop := rayMirrorsUptoRow.holds Try.pinned (OpenSpec.upto rayMirrorsSpec)

end Rows
end Go.Proofs.Ytplaocfagjeikaa
