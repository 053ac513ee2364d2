/-
  Chapter 5: tasks that come in.
  Conditions: none.
-/
import Derived.Test.Ytplaocfagjeikaa5T
import Derived.Test.Ytplaocfagjeikaa5N
namespace Go.Proofs.Ytplaocfagjeikaa
open Go.RowKit Fx
theorem in_task : In Try.prog 66 eTask (fun t => t.fr.length ≤ 9223372036854775807) :=
  in_struct Try.underlying66 (by kernel_rfl) (inL_cons in_i (inL_cons in_range (inL_cons in_ints inL_nil))) fun a h => ⟨⟨a.1, a.2.1.1, a.2.1.2, a.2.2.1⟩, h.2.2.1, rfl⟩
end Go.Proofs.Ytplaocfagjeikaa
