/-
  Chapter 7: the law ForecastColumns (by contract).
  Conditions: none.
-/
import Derived.Test.Ytpfknijmipklaaa7K
namespace Go.Proofs.Ytpfknijmipklaaa
open Go.RowKit Fx
end Go.Proofs.Ytpfknijmipklaaa
