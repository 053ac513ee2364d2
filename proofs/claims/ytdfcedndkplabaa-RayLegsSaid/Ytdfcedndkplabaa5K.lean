/-
  Chapter 5: the law RayPaths (by contract).
  Conditions: none.
-/
import Derived.Test.Ytdfcedndkplabaa5I
import Derived.Test.Ytdfcedndkplabaa5J
import Derived.Test.Ytdfcedndkplabaa5F
import Derived.Test.YtdfcedndkplabaaFs
namespace Go.Proofs.Ytdfcedndkplabaa
open Go.RowKit Fx
end Go.Proofs.Ytdfcedndkplabaa
