/-
  No cell of these rows narrows 'for every input' (looked for: loops, veiled, ifaces, maps, wideKeys, modest, calm, conditions, laid).
  DERIVED. THE GIVEN ROWS OF THIS SEAT. 2 by the template 'for every input the law returns true; each argument reads behind the call as it read before'; 0 by the template 'total and deterministic' (their statements: YtcdcmeiipfafdaaGreatTotals.lean).
  GIVEN WITH THE SEED: the statements are not yours to turn. If you find one false, say at which input.
  Laid BY PROGRAM, IN A SANDBOX (cutbox-rows.mjs): the forced cells as the released guide's own fill.sh prints them over the translation f6559b09537bbfee… (all of the seat's roots in one cut). By AI agents, Wed Nov 11 2026. No macro, syntax, notation, axiom, sorry.
-/
import Derived.Test.YtcdcmeiipfafdaaGreatChecked
import GoSem.Claim
import GoSem.ClaimJoined
import GoSem.ClaimMapViews
import Derived.JoinedTies
import Derived.KernelRfl
namespace Go.Proofs.YtcdcmeiipfafdaaGreat
/- THE CELL 'sum', in the pinned program and in every row, IS THE sha256 OF THE DUMP (.gsa) THAT YtcdcmeiipfafdaaGreatProg.lean LOADS. Nothing in Lean hashes anything: it is a label: what it is worth is what the hold of that sum in a sandbox is worth. -/
noncomputable def Tryz.pinned : Pinned := { name := "ytcdcmeiipfafdaagreat", sum := "f6559b09537bbfee02681fe9aa166919e5ac67e8a8f0c68076d136cd4bec0f1f", checked := Tryz.checked }
namespace Rows
def none {H : Type} : Left H := { results := [], args := [] }

/-- 'skywavelaw07.ForecastReports': WHATEVER THE INPUT: true; the input reads as it did. -/
def forecastReportsSpec : ChangeSpec := { name := "forecastReports", fn := fun _ => fun
  | [d1, d2, d3] => { results := [.lit (.bool true)], args := [d1, d2, d3] }
  | _ => none }
def forecastReportsRow : OpenClaim := { program := "ytcdcmeiipfafdaagreat", sum := "f6559b09537bbfee02681fe9aa166919e5ac67e8a8f0c68076d136cd4bec0f1f", func := "skywave/skywavelaw07.ForecastReports", spec := "forecastReports", unfollowed := true, recurses := true, apart := false }
def ForecastReportsSaid : Prop := forecastReportsRow.holds Tryz.pinned (OpenSpec.ofChange forecastReportsSpec)

/-- ITS FALSE NEIGHBOUR: 'it returns false'. Refute it at one input. -/
def forecastReportsWrong : ChangeSpec := { name := "forecastReports", fn := fun _ => fun
  | [d1, d2, d3] => { results := [.lit (.bool false)], args := [d1, d2, d3] }
  | _ => none }
def ForecastReportsWrongFalsely : Prop := forecastReportsRow.holds Tryz.pinned (OpenSpec.ofChange forecastReportsWrong)

/-- 'skywavelaw07.ForecastWeights': WHATEVER THE INPUT: true; the input reads as it did. -/
def forecastWeightsSpec : ChangeSpec := { name := "forecastWeights", fn := fun _ => fun
  | [d1, d2, d3] => { results := [.lit (.bool true)], args := [d1, d2, d3] }
  | _ => none }
def forecastWeightsRow : OpenClaim := { program := "ytcdcmeiipfafdaagreat", sum := "f6559b09537bbfee02681fe9aa166919e5ac67e8a8f0c68076d136cd4bec0f1f", func := "skywave/skywavelaw07.ForecastWeights", spec := "forecastWeights", unfollowed := true, recurses := true, apart := false }
def ForecastWeightsSaid : Prop := forecastWeightsRow.holds Tryz.pinned (OpenSpec.ofChange forecastWeightsSpec)

/-- ITS FALSE NEIGHBOUR: 'it returns false'. Refute it at one input. -/
def forecastWeightsWrong : ChangeSpec := { name := "forecastWeights", fn := fun _ => fun
  | [d1, d2, d3] => { results := [.lit (.bool false)], args := [d1, d2, d3] }
  | _ => none }
def ForecastWeightsWrongFalsely : Prop := forecastWeightsRow.holds Tryz.pinned (OpenSpec.ofChange forecastWeightsWrong)

/- THE SECOND FORM. 'bulk': how many values and letters a reading holds, each counted each time it is reached (what is shared counts as often as it is met; a slice's spare places count too). A statement '..UptoSaid' is the law's where the arguments, and the package variables that the reading takes, are together of bulk at most 1048576: NARROWER than '..Said'. Prove '..Said' where nothing that the law and all that it calls make is longer than what came in: it says more and counts as full. Else prove '..UptoSaid'. A law counts once. -/
mutual
def uptoBulk {H : Type} : DataW H → Nat
  | .lit (.string bytes) => bytes.length + 1
  | .lit _ => 1
  | .nil => 1
  | .ptr d => uptoBulk d + 1
  | .slice elems spare => uptoBulkAll elems + uptoBulkAll spare + 1
  | .agg parts => uptoBulkAll parts + 1
  | .iface _ d => uptoBulk d + 1
  | .map entries => uptoBulkEntries entries + 1
  | .held _ => 1
def uptoBulkAll {H : Type} : List (DataW H) → Nat
  | [] => 0
  | d :: r => uptoBulk d + uptoBulkAll r
def uptoBulkEntries {H : Type} : List (Lit × DataW H) → Nat
  | [] => 0
  | x :: r => uptoBulkEntry x + uptoBulkEntries r
def uptoBulkEntry {H : Type} : Lit × DataW H → Nat
  | (.string bytes, d) => bytes.length + uptoBulk d + 1
  | (_, d) => uptoBulk d + 1
 end
def uptoSmall : (H : Type) → List (DataW H) → Bool := fun _ ds => decide (uptoBulkAll ds ≤ 1048576)
def OpenSpec.upto (s : _root_.Go.ChangeSpec) : _root_.Go.OpenSpec := { _root_.Go.OpenSpec.ofChange s with cond := some uptoSmall }

/-- 'skywavelaw07.ForecastReports', WHERE WHAT IT READS IS OF BULK AT MOST 1048576: true; the input reads as it did. -/
def forecastReportsUptoRow : OpenClaim := { program := "ytcdcmeiipfafdaagreat", sum := "f6559b09537bbfee02681fe9aa166919e5ac67e8a8f0c68076d136cd4bec0f1f", func := "skywave/skywavelaw07.ForecastReports", spec := "forecastReports", unfollowed := true, recurses := true, apart := false, narrowed := true }
def ForecastReportsUptoSaid : Prop := forecastReportsUptoRow.holds Tryz.pinned (OpenSpec.upto forecastReportsSpec)

/-- 'skywavelaw07.ForecastWeights', WHERE WHAT IT READS IS OF BULK AT MOST 1048576: true; the input reads as it did. -/
def forecastWeightsUptoRow : OpenClaim := { program := "ytcdcmeiipfafdaagreat", sum := "f6559b09537bbfee02681fe9aa166919e5ac67e8a8f0c68076d136cd4bec0f1f", func := "skywave/skywavelaw07.ForecastWeights", spec := "forecastWeights", unfollowed := true, recurses := true, apart := false, narrowed := true }
def ForecastWeightsUptoSaid : Prop := forecastWeightsUptoRow.holds Tryz.pinned (OpenSpec.upto forecastWeightsSpec)

end Rows
end Go.Proofs.YtcdcmeiipfafdaaGreat
