/-
  Chapter 7: the document's table of counts, the law ForecastTables (by contract).
  Conditions: none.
-/
import Derived.Test.Ytpfknijmipklaaa7G
namespace Go.Proofs.Ytpfknijmipklaaa
open Go.RowKit Fx
end Go.Proofs.Ytpfknijmipklaaa
