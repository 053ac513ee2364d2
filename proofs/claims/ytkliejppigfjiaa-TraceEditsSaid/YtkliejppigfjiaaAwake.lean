/-
  The examples of the document hold: the closed calls, run by the kernel.
  Conditions: none.
-/
import Derived.Test.YtkliejppigfjiaaProg
import Derived.Test.YtkliejppigfjiaaEvCode
namespace Go.Proofs.Ytkliejppigfjiaa
open Go.RowKit

theorem mixed : Try.prog.follows .mixedOrders = true := by kernel_rfl
theorem awake_ok (w : World) : Calls Try.prog 7 #[] w fun e w' => e = .returned (.bool true) ∧ Ov w w' :=
  Ev.closed_ok mixed (fuel := 100000) (v := .bool true) (by kernel_rfl) rfl w
end Go.Proofs.Ytkliejppigfjiaa
