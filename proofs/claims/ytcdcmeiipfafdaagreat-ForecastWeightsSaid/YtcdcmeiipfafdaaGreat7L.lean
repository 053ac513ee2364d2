/-
  Chapter 7: the law ForecastColumns (by contract).
  Conditions: none.
-/
import Derived.Test.YtcdcmeiipfafdaaGreat7K
namespace Go.Proofs.YtcdcmeiipfafdaaGreat
open Go.RowKit Fx
end Go.Proofs.YtcdcmeiipfafdaaGreat
