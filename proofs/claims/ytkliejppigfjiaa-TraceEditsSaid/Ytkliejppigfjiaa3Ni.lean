/-
  Chapter 3: what comes in: traces, edits.
  Conditions: none.
-/
import Derived.Test.Ytkliejppigfjiaa3T
import Derived.Test.Ytkliejppigfjiaa3Nb
namespace Go.Proofs.Ytkliejppigfjiaa
open Go.RowKit Go.ChangeShapes Go.WideShapes Fx
theorem in_intsN : In Try.prog 25 eInts (fun l => l.length ≤ 9223372036854775807) :=
  (in_slice (f := I) 0 Try.underlying25 (by kernel_rfl) (by kernel_rfl) (by decide) (fun _ _ h => by cases h) in_i).mono fun _ h => h.1
theorem in_pathN : In Try.prog 27 ePath (fun p => p.rows.length ≤ 9223372036854775807 ∧ -9223372036854775808 ≤ p.fr ∧ p.fr ≤ 9223372036854775807) :=
  in_struct Try.underlying27 (by kernel_rfl) (inL_cons in_i (inL_cons in_intsN inL_nil)) (fun a h => ⟨⟨a.1, a.2.1⟩, ⟨h.2.1, h.1⟩, rfl⟩)
theorem in_str : In Try.prog 9 (fun s => V.sc (.string s)) (fun s => s.size ≤ 9223372036854775807) := in_string Try.underlying9 (by kernel_rfl)
theorem in_ed : In Try.prog 70 eEd (fun _ => True) :=
  in_struct Try.underlying70 (by kernel_rfl) (inL_cons in_i (inL_cons in_i (inL_cons in_i (inL_cons in_i (inL_cons in_str inL_nil))))) (fun a _ => ⟨⟨a.1, a.2.1, a.2.2.1, a.2.2.2.1, a.2.2.2.2.1⟩, trivial, rfl⟩)
theorem in_eds : In Try.prog 57 eEds (fun l => l.length ≤ 9223372036854775807) :=
  (in_slice (f := eEd) edD Try.underlying57 (by kernel_rfl) (by kernel_rfl) (by decide) (fun _ _ h => by cases h) in_ed).mono fun _ h => h.1
end Go.Proofs.Ytkliejppigfjiaa
