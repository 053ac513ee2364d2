/-
  Chapter 7: the document's ranges that are apart, and its least numbers of changes (by contract).
  Conditions: none.
-/
import Derived.Test.Ytpfknijmipklaaa7Q
namespace Go.Proofs.Ytpfknijmipklaaa
open Go.RowKit Fx
end Go.Proofs.Ytpfknijmipklaaa
