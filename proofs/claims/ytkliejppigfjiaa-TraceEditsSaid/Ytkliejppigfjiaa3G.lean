/-
  Chapter 3: the law TraceGrams, as a function that returns true.
  Conditions: none.
-/
import Derived.Test.Ytkliejppigfjiaa3C
import Derived.Test.YtkliejppigfjiaaAwake
namespace Go.Proofs.Ytkliejppigfjiaa
open Go.RowKit Fx
theorem awake_fn : FnOK Try.prog 7 [] (B true) [] := FnOK.of_calls (enters_of (fn := Try.f7) (by kernel_rfl) (by kernel_rfl) rfl) awake_ok
end Go.Proofs.Ytkliejppigfjiaa
