/-
  The package-level variables that a statement lists, and what they hold. (None here.)
  Conditions: none.
-/
import Derived.Test.YtkliejppigfjiaaReg
namespace Go.Proofs.Ytkliejppigfjiaa.Fx
@[reducible] def gtab : List (Nat × List Value) := []
/-- Slices whose making may come at any time: they are taken for slices that stay. -/
@[reducible] def looseB (_ : Option Nat) (_ _ : Nat) : Bool := false
end Go.Proofs.Ytkliejppigfjiaa.Fx
