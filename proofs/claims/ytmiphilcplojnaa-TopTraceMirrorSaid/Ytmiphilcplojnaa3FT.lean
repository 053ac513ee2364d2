/-
  Chapter 3: traces and rules that come in.
  Conditions: none.
-/
import Derived.Test.Ytmiphilcplojnaa3F
import Derived.Test.Ytmiphilcplojnaa3T
namespace Go.Proofs.Ytmiphilcplojnaa
open Go.RowKit Fx
theorem in_ints : In Try.prog 25 eInts (fun l => l.length ≤ 9223372036854775807) :=
  (in_slice (f := I) 0 Try.underlying25 (by kernel_rfl) (by kernel_rfl) (by decide) (fun _ _ h => by cases h) in_i).mono fun _ h => h.1
theorem in_path : In Try.prog 27 ePath (fun p => p.rows.length ≤ 9223372036854775807 ∧ -9223372036854775808 ≤ p.fr ∧ p.fr ≤ 9223372036854775807) :=
  in_struct Try.underlying27 (by kernel_rfl) (inL_cons in_i (inL_cons in_ints inL_nil)) fun a h => ⟨⟨a.1, a.2.1⟩, ⟨h.2.1, h.1⟩, rfl⟩
theorem in_rules : In Try.prog 69 eRules (fun _ => True) :=
  in_struct Try.underlying69 (by kernel_rfl) (inL_cons in_i (inL_cons in_i (inL_cons in_i (inL_cons in_i (inL_cons in_i (inL_cons in_i inL_nil)))))) fun a _ => ⟨⟨a.1, a.2.1, a.2.2.1, a.2.2.2.1, a.2.2.2.2.1, a.2.2.2.2.2.1⟩, trivial, rfl⟩
end Go.Proofs.Ytmiphilcplojnaa
