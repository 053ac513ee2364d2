/-
  The example of the ionograms' cheapest trace holds: the closed call, run by the kernel.
  Conditions: none.
-/
import Derived.Test.YtmiphilcplojnaaAwake
namespace Go.Proofs.Ytmiphilcplojnaa
open Go.RowKit
theorem shown_ok (w : World) : Calls Try.prog 43 #[] w fun e w' => e = .returned (.bool true) ∧ Ov w w' :=
  Ev.closed_ok mixed (fuel := 100000) (v := .bool true) (by kernel_rfl) rfl w
end Go.Proofs.Ytmiphilcplojnaa
