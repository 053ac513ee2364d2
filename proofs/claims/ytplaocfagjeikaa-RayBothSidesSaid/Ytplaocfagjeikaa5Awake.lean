/-
  The examples of the document hold: the closed calls, run by the kernel.
  Conditions: none.
-/
import Derived.Test.YtplaocfagjeikaaProg
import Derived.Test.YtplaocfagjeikaaEvCode
namespace Go.Proofs.Ytplaocfagjeikaa
open Go.RowKit

theorem mixed : Try.prog.follows .mixedOrders = true := by kernel_rfl
theorem awake_ok (w : World) : Calls Try.prog 14 #[] w fun e w' => e = .returned (.bool true) ∧ Ov w w' :=
  Ev.closed_ok mixed (fuel := 100000) (v := .bool true) (by kernel_rfl) rfl w
end Go.Proofs.Ytplaocfagjeikaa
