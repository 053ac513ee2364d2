/-
  Chapter 7: the document's ranges that are apart, and its least numbers of changes (by contract).
  Conditions: none.
-/
import Derived.Test.YtcdcmeiipfafdaaGreat7Q
namespace Go.Proofs.YtcdcmeiipfafdaaGreat
open Go.RowKit Fx
end Go.Proofs.YtcdcmeiipfafdaaGreat
