/-
  No cell of these rows narrows 'for every input' (looked for: loops, veiled, ifaces, maps, wideKeys, modest, calm, conditions, laid).
  DERIVED. THE GIVEN ROWS OF THIS SEAT. 9 by the template 'for every input the law returns true; each argument reads behind the call as it read before'; 0 by the template 'total and deterministic' (their statements: YtfmbgkbnmjbefaaTotals.lean).
  GIVEN WITH THE SEED: the statements are not yours to turn. If you find one false, say at which input.
  Laid BY PROGRAM, IN A SANDBOX (cutbox-rows.mjs): the forced cells as the released guide's own fill.sh prints them over the translation 1bed3db80c7c555b… (all of the seat's roots in one cut). By AI agents, Wed Nov 11 2026. No macro, syntax, notation, axiom, sorry.
-/
import Derived.Test.YtfmbgkbnmjbefaaChecked
import GoSem.Claim
import GoSem.ClaimJoined
import GoSem.ClaimMapViews
import Derived.JoinedTies
import Derived.KernelRfl
namespace Go.Proofs.Ytfmbgkbnmjbefaa
/- THE CELL 'sum', in the pinned program and in every row, IS THE sha256 OF THE DUMP (.gsa) THAT YtfmbgkbnmjbefaaProg.lean LOADS. Nothing in Lean hashes anything: it is a label: what it is worth is what the hold of that sum in a sandbox is worth. -/
noncomputable def Try.pinned : Pinned := { name := "ytfmbgkbnmjbefaa", sum := "1bed3db80c7c555bb28263a269d344d07424e0d203d355a8d7fb19df902987f8", checked := Try.checked }
namespace Rows
def none {H : Type} : Left H := { results := [], args := [] }

/-- 'skywavetop.TopForecastHeard': WHATEVER THE INPUT: true; the input reads as it did. -/
def topForecastHeardSpec : ChangeSpec := { name := "topForecastHeard", fn := fun _ => fun
  | [d1, d2, d3] => { results := [.lit (.bool true)], args := [d1, d2, d3] }
  | _ => none }
def topForecastHeardRow : OpenClaim := { program := "ytfmbgkbnmjbefaa", sum := "1bed3db80c7c555bb28263a269d344d07424e0d203d355a8d7fb19df902987f8", func := "skywave/skywavetop.TopForecastHeard", spec := "topForecastHeard", unfollowed := true, recurses := true, apart := false }
def TopForecastHeardSaid : Prop := topForecastHeardRow.holds Try.pinned (OpenSpec.ofChange topForecastHeardSpec)

/-- ITS FALSE NEIGHBOUR: 'it returns false'. Refute it at one input. -/
def topForecastHeardWrong : ChangeSpec := { name := "topForecastHeard", fn := fun _ => fun
  | [d1, d2, d3] => { results := [.lit (.bool false)], args := [d1, d2, d3] }
  | _ => none }
def TopForecastHeardWrongFalsely : Prop := topForecastHeardRow.holds Try.pinned (OpenSpec.ofChange topForecastHeardWrong)

/-- 'skywavelaw07.ForecastCounts': WHATEVER THE INPUT: true; the input reads as it did. -/
def forecastCountsSpec : ChangeSpec := { name := "forecastCounts", fn := fun _ => fun
  | [d1, d2] => { results := [.lit (.bool true)], args := [d1, d2] }
  | _ => none }
def forecastCountsRow : OpenClaim := { program := "ytfmbgkbnmjbefaa", sum := "1bed3db80c7c555bb28263a269d344d07424e0d203d355a8d7fb19df902987f8", func := "skywave/skywavelaw07.ForecastCounts", spec := "forecastCounts", unfollowed := true, recurses := true, apart := false }
def ForecastCountsSaid : Prop := forecastCountsRow.holds Try.pinned (OpenSpec.ofChange forecastCountsSpec)

/-- ITS FALSE NEIGHBOUR: 'it returns false'. Refute it at one input. -/
def forecastCountsWrong : ChangeSpec := { name := "forecastCounts", fn := fun _ => fun
  | [d1, d2] => { results := [.lit (.bool false)], args := [d1, d2] }
  | _ => none }
def ForecastCountsWrongFalsely : Prop := forecastCountsRow.holds Try.pinned (OpenSpec.ofChange forecastCountsWrong)

/-- 'skywavelaw07.ForecastOnce': WHATEVER THE INPUT: true; the input reads as it did. -/
def forecastOnceSpec : ChangeSpec := { name := "forecastOnce", fn := fun _ => fun
  | [d1, d2, d3] => { results := [.lit (.bool true)], args := [d1, d2, d3] }
  | _ => none }
def forecastOnceRow : OpenClaim := { program := "ytfmbgkbnmjbefaa", sum := "1bed3db80c7c555bb28263a269d344d07424e0d203d355a8d7fb19df902987f8", func := "skywave/skywavelaw07.ForecastOnce", spec := "forecastOnce", unfollowed := true, recurses := true, apart := false }
def ForecastOnceSaid : Prop := forecastOnceRow.holds Try.pinned (OpenSpec.ofChange forecastOnceSpec)

/-- ITS FALSE NEIGHBOUR: 'it returns false'. Refute it at one input. -/
def forecastOnceWrong : ChangeSpec := { name := "forecastOnce", fn := fun _ => fun
  | [d1, d2, d3] => { results := [.lit (.bool false)], args := [d1, d2, d3] }
  | _ => none }
def ForecastOnceWrongFalsely : Prop := forecastOnceRow.holds Try.pinned (OpenSpec.ofChange forecastOnceWrong)

/-- 'skywavelaw07.ForecastMoves': WHATEVER THE INPUT: true; the input reads as it did. -/
def forecastMovesSpec : ChangeSpec := { name := "forecastMoves", fn := fun _ => fun
  | [d1, d2, d3] => { results := [.lit (.bool true)], args := [d1, d2, d3] }
  | _ => none }
def forecastMovesRow : OpenClaim := { program := "ytfmbgkbnmjbefaa", sum := "1bed3db80c7c555bb28263a269d344d07424e0d203d355a8d7fb19df902987f8", func := "skywave/skywavelaw07.ForecastMoves", spec := "forecastMoves", unfollowed := true, recurses := true, apart := false }
def ForecastMovesSaid : Prop := forecastMovesRow.holds Try.pinned (OpenSpec.ofChange forecastMovesSpec)

/-- ITS FALSE NEIGHBOUR: 'it returns false'. Refute it at one input. -/
def forecastMovesWrong : ChangeSpec := { name := "forecastMoves", fn := fun _ => fun
  | [d1, d2, d3] => { results := [.lit (.bool false)], args := [d1, d2, d3] }
  | _ => none }
def ForecastMovesWrongFalsely : Prop := forecastMovesRow.holds Try.pinned (OpenSpec.ofChange forecastMovesWrong)

/-- 'skywavelaw07.ForecastNarrower': WHATEVER THE INPUT: true; the input reads as it did. -/
def forecastNarrowerSpec : ChangeSpec := { name := "forecastNarrower", fn := fun _ => fun
  | [d1, d2] => { results := [.lit (.bool true)], args := [d1, d2] }
  | _ => none }
def forecastNarrowerRow : OpenClaim := { program := "ytfmbgkbnmjbefaa", sum := "1bed3db80c7c555bb28263a269d344d07424e0d203d355a8d7fb19df902987f8", func := "skywave/skywavelaw07.ForecastNarrower", spec := "forecastNarrower", unfollowed := true, recurses := true, apart := false }
def ForecastNarrowerSaid : Prop := forecastNarrowerRow.holds Try.pinned (OpenSpec.ofChange forecastNarrowerSpec)

/-- ITS FALSE NEIGHBOUR: 'it returns false'. Refute it at one input. -/
def forecastNarrowerWrong : ChangeSpec := { name := "forecastNarrower", fn := fun _ => fun
  | [d1, d2] => { results := [.lit (.bool false)], args := [d1, d2] }
  | _ => none }
def ForecastNarrowerWrongFalsely : Prop := forecastNarrowerRow.holds Try.pinned (OpenSpec.ofChange forecastNarrowerWrong)

/-- 'skywavelaw07.ForecastTables': WHATEVER THE INPUT: true; the input reads as it did. -/
def forecastTablesSpec : ChangeSpec := { name := "forecastTables", fn := fun _ => fun
  | [d1, d2, d3] => { results := [.lit (.bool true)], args := [d1, d2, d3] }
  | _ => none }
def forecastTablesRow : OpenClaim := { program := "ytfmbgkbnmjbefaa", sum := "1bed3db80c7c555bb28263a269d344d07424e0d203d355a8d7fb19df902987f8", func := "skywave/skywavelaw07.ForecastTables", spec := "forecastTables", unfollowed := true, recurses := true, apart := false }
def ForecastTablesSaid : Prop := forecastTablesRow.holds Try.pinned (OpenSpec.ofChange forecastTablesSpec)

/-- ITS FALSE NEIGHBOUR: 'it returns false'. Refute it at one input. -/
def forecastTablesWrong : ChangeSpec := { name := "forecastTables", fn := fun _ => fun
  | [d1, d2, d3] => { results := [.lit (.bool false)], args := [d1, d2, d3] }
  | _ => none }
def ForecastTablesWrongFalsely : Prop := forecastTablesRow.holds Try.pinned (OpenSpec.ofChange forecastTablesWrong)

/-- 'skywavelaw07.ForecastSchedules': WHATEVER THE INPUT: true; the input reads as it did. -/
def forecastSchedulesSpec : ChangeSpec := { name := "forecastSchedules", fn := fun _ => fun
  | [d1, d2, d3] => { results := [.lit (.bool true)], args := [d1, d2, d3] }
  | _ => none }
def forecastSchedulesRow : OpenClaim := { program := "ytfmbgkbnmjbefaa", sum := "1bed3db80c7c555bb28263a269d344d07424e0d203d355a8d7fb19df902987f8", func := "skywave/skywavelaw07.ForecastSchedules", spec := "forecastSchedules", unfollowed := true, recurses := true, apart := false }
def ForecastSchedulesSaid : Prop := forecastSchedulesRow.holds Try.pinned (OpenSpec.ofChange forecastSchedulesSpec)

/-- ITS FALSE NEIGHBOUR: 'it returns false'. Refute it at one input. -/
def forecastSchedulesWrong : ChangeSpec := { name := "forecastSchedules", fn := fun _ => fun
  | [d1, d2, d3] => { results := [.lit (.bool false)], args := [d1, d2, d3] }
  | _ => none }
def ForecastSchedulesWrongFalsely : Prop := forecastSchedulesRow.holds Try.pinned (OpenSpec.ofChange forecastSchedulesWrong)

/-- 'skywavelaw07.ForecastColumns': WHATEVER THE INPUT: true; the input reads as it did. -/
def forecastColumnsSpec : ChangeSpec := { name := "forecastColumns", fn := fun _ => fun
  | [d1, d2, d3] => { results := [.lit (.bool true)], args := [d1, d2, d3] }
  | _ => none }
def forecastColumnsRow : OpenClaim := { program := "ytfmbgkbnmjbefaa", sum := "1bed3db80c7c555bb28263a269d344d07424e0d203d355a8d7fb19df902987f8", func := "skywave/skywavelaw07.ForecastColumns", spec := "forecastColumns", unfollowed := true, recurses := true, apart := false }
def ForecastColumnsSaid : Prop := forecastColumnsRow.holds Try.pinned (OpenSpec.ofChange forecastColumnsSpec)

/-- ITS FALSE NEIGHBOUR: 'it returns false'. Refute it at one input. -/
def forecastColumnsWrong : ChangeSpec := { name := "forecastColumns", fn := fun _ => fun
  | [d1, d2, d3] => { results := [.lit (.bool false)], args := [d1, d2, d3] }
  | _ => none }
def ForecastColumnsWrongFalsely : Prop := forecastColumnsRow.holds Try.pinned (OpenSpec.ofChange forecastColumnsWrong)

/-- 'skywavelaw07.ForecastFewest': WHATEVER THE INPUT: true; the input reads as it did. -/
def forecastFewestSpec : ChangeSpec := { name := "forecastFewest", fn := fun _ => fun
  | [d1, d2, d3] => { results := [.lit (.bool true)], args := [d1, d2, d3] }
  | _ => none }
def forecastFewestRow : OpenClaim := { program := "ytfmbgkbnmjbefaa", sum := "1bed3db80c7c555bb28263a269d344d07424e0d203d355a8d7fb19df902987f8", func := "skywave/skywavelaw07.ForecastFewest", spec := "forecastFewest", unfollowed := true, recurses := true, apart := false }
def ForecastFewestSaid : Prop := forecastFewestRow.holds Try.pinned (OpenSpec.ofChange forecastFewestSpec)

/-- ITS FALSE NEIGHBOUR: 'it returns false'. Refute it at one input. -/
def forecastFewestWrong : ChangeSpec := { name := "forecastFewest", fn := fun _ => fun
  | [d1, d2, d3] => { results := [.lit (.bool false)], args := [d1, d2, d3] }
  | _ => none }
def ForecastFewestWrongFalsely : Prop := forecastFewestRow.holds Try.pinned (OpenSpec.ofChange forecastFewestWrong)

/- THE SECOND FORM. 'bulk': how many values and letters a reading holds, each counted each time it is reached (what is shared counts as often as it is met; a slice's spare places count too). A statement '..UptoSaid' is the law's where the arguments, and the package variables that the reading takes, are together of bulk at most 1048576: NARROWER than '..Said'. Prove '..Said' where nothing that the law and all that it calls make is longer than what came in: it says more and counts as full. Else prove '..UptoSaid'. A law counts once. -/
mutual
def uptoBulk {H : Type} : DataW H → Nat
  | .lit (.string bytes) => bytes.length + 1
  | .lit _ => 1
  | .nil => 1
  | .ptr d => uptoBulk d + 1
  | .slice elems spare => uptoBulkAll elems + uptoBulkAll spare + 1
  | .agg parts => uptoBulkAll parts + 1
  | .iface _ d => uptoBulk d + 1
  | .map entries => uptoBulkEntries entries + 1
  | .held _ => 1
def uptoBulkAll {H : Type} : List (DataW H) → Nat
  | [] => 0
  | d :: r => uptoBulk d + uptoBulkAll r
def uptoBulkEntries {H : Type} : List (Lit × DataW H) → Nat
  | [] => 0
  | x :: r => uptoBulkEntry x + uptoBulkEntries r
def uptoBulkEntry {H : Type} : Lit × DataW H → Nat
  | (.string bytes, d) => bytes.length + uptoBulk d + 1
  | (_, d) => uptoBulk d + 1
 end
def uptoSmall : (H : Type) → List (DataW H) → Bool := fun _ ds => decide (uptoBulkAll ds ≤ 1048576)
def OpenSpec.upto (s : _root_.Go.ChangeSpec) : _root_.Go.OpenSpec := { _root_.Go.OpenSpec.ofChange s with cond := some uptoSmall }

/-- 'skywavetop.TopForecastHeard', WHERE WHAT IT READS IS OF BULK AT MOST 1048576: true; the input reads as it did. -/
def topForecastHeardUptoRow : OpenClaim := { program := "ytfmbgkbnmjbefaa", sum := "1bed3db80c7c555bb28263a269d344d07424e0d203d355a8d7fb19df902987f8", func := "skywave/skywavetop.TopForecastHeard", spec := "topForecastHeard", unfollowed := true, recurses := true, apart := false, narrowed := true }
def TopForecastHeardUptoSaid : Prop := topForecastHeardUptoRow.holds Try.pinned (OpenSpec.upto topForecastHeardSpec)

/-- 'skywavelaw07.ForecastCounts', WHERE WHAT IT READS IS OF BULK AT MOST 1048576: true; the input reads as it did. -/
def forecastCountsUptoRow : OpenClaim := { program := "ytfmbgkbnmjbefaa", sum := "1bed3db80c7c555bb28263a269d344d07424e0d203d355a8d7fb19df902987f8", func := "skywave/skywavelaw07.ForecastCounts", spec := "forecastCounts", unfollowed := true, recurses := true, apart := false, narrowed := true }
def ForecastCountsUptoSaid : Prop := forecastCountsUptoRow.holds Try.pinned (OpenSpec.upto forecastCountsSpec)

/-- 'skywavelaw07.ForecastOnce', WHERE WHAT IT READS IS OF BULK AT MOST 1048576: true; the input reads as it did. -/
def forecastOnceUptoRow : OpenClaim := { program := "ytfmbgkbnmjbefaa", sum := "1bed3db80c7c555bb28263a269d344d07424e0d203d355a8d7fb19df902987f8", func := "skywave/skywavelaw07.ForecastOnce", spec := "forecastOnce", unfollowed := true, recurses := true, apart := false, narrowed := true }
def ForecastOnceUptoSaid : Prop := forecastOnceUptoRow.holds Try.pinned (OpenSpec.upto forecastOnceSpec)

/-- 'skywavelaw07.ForecastMoves', WHERE WHAT IT READS IS OF BULK AT MOST 1048576: true; the input reads as it did. -/
def forecastMovesUptoRow : OpenClaim := { program := "ytfmbgkbnmjbefaa", sum := "1bed3db80c7c555bb28263a269d344d07424e0d203d355a8d7fb19df902987f8", func := "skywave/skywavelaw07.ForecastMoves", spec := "forecastMoves", unfollowed := true, recurses := true, apart := false, narrowed := true }
def ForecastMovesUptoSaid : Prop := forecastMovesUptoRow.holds Try.pinned (OpenSpec.upto forecastMovesSpec)

/-- 'skywavelaw07.ForecastNarrower', WHERE WHAT IT READS IS OF BULK AT MOST 1048576: true; the input reads as it did. -/
def forecastNarrowerUptoRow : OpenClaim := { program := "ytfmbgkbnmjbefaa", sum := "1bed3db80c7c555bb28263a269d344d07424e0d203d355a8d7fb19df902987f8", func := "skywave/skywavelaw07.ForecastNarrower", spec := "forecastNarrower", unfollowed := true, recurses := true, apart := false, narrowed := true }
def ForecastNarrowerUptoSaid : Prop := forecastNarrowerUptoRow.holds Try.pinned (OpenSpec.upto forecastNarrowerSpec)

/-- 'skywavelaw07.ForecastTables', WHERE WHAT IT READS IS OF BULK AT MOST 1048576: true; the input reads as it did. -/
def forecastTablesUptoRow : OpenClaim := { program := "ytfmbgkbnmjbefaa", sum := "1bed3db80c7c555bb28263a269d344d07424e0d203d355a8d7fb19df902987f8", func := "skywave/skywavelaw07.ForecastTables", spec := "forecastTables", unfollowed := true, recurses := true, apart := false, narrowed := true }
def ForecastTablesUptoSaid : Prop := forecastTablesUptoRow.holds Try.pinned (OpenSpec.upto forecastTablesSpec)

/-- 'skywavelaw07.ForecastSchedules', WHERE WHAT IT READS IS OF BULK AT MOST 1048576: true; the input reads as it did. -/
def forecastSchedulesUptoRow : OpenClaim := { program := "ytfmbgkbnmjbefaa", sum := "1bed3db80c7c555bb28263a269d344d07424e0d203d355a8d7fb19df902987f8", func := "skywave/skywavelaw07.ForecastSchedules", spec := "forecastSchedules", unfollowed := true, recurses := true, apart := false, narrowed := true }
def ForecastSchedulesUptoSaid : Prop := forecastSchedulesUptoRow.holds Try.pinned (OpenSpec.upto forecastSchedulesSpec)

/-- 'skywavelaw07.ForecastColumns', WHERE WHAT IT READS IS OF BULK AT MOST 1048576: true; the input reads as it did. -/
def forecastColumnsUptoRow : OpenClaim := { program := "ytfmbgkbnmjbefaa", sum := "1bed3db80c7c555bb28263a269d344d07424e0d203d355a8d7fb19df902987f8", func := "skywave/skywavelaw07.ForecastColumns", spec := "forecastColumns", unfollowed := true, recurses := true, apart := false, narrowed := true }
def ForecastColumnsUptoSaid : Prop := forecastColumnsUptoRow.holds Try.pinned (OpenSpec.upto forecastColumnsSpec)

/-- 'skywavelaw07.ForecastFewest', WHERE WHAT IT READS IS OF BULK AT MOST 1048576: true; the input reads as it did. -/
def forecastFewestUptoRow : OpenClaim := { program := "ytfmbgkbnmjbefaa", sum := "1bed3db80c7c555bb28263a269d344d07424e0d203d355a8d7fb19df902987f8", func := "skywave/skywavelaw07.ForecastFewest", spec := "forecastFewest", unfollowed := true, recurses := true, apart := false, narrowed := true }
def ForecastFewestUptoSaid : Prop := forecastFewestUptoRow.holds Try.pinned (OpenSpec.upto forecastFewestSpec)

end Rows
end Go.Proofs.Ytfmbgkbnmjbefaa
