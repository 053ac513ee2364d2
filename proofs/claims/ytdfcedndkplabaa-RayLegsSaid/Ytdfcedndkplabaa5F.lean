/-
  Chapter 5: the law RaySkies (by contract).
  Conditions: none.
-/
import Derived.Test.Ytdfcedndkplabaa5E
import Derived.Test.Ytdfcedndkplabaa5Awake
namespace Go.Proofs.Ytdfcedndkplabaa
open Go.RowKit Fx
theorem awake_fn : FnOK Try.prog 5 [] (B true) [] := FnOK.of_calls (enters_of (fn := Try.f5) (by kernel_rfl) (by kernel_rfl) rfl) awake_ok
end Go.Proofs.Ytdfcedndkplabaa
