import Derived.Test.Ytmiphilcplojnaa3I
namespace Go.Proofs.Ytmiphilcplojnaa.Fx
theorem elemK_of {v w : V} {K : List V → Prop} (h : v = w) (k : elemK w K) : elemK v K := by rw [h]; exact k
end Go.Proofs.Ytmiphilcplojnaa.Fx
