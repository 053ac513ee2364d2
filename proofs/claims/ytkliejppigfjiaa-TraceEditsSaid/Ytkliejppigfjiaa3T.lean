/-
  Chapter 3: what the laws' arguments are, by content.
  Conditions: none.
-/
import Derived.Test.Ytkliejppigfjiaa3A
import Derived.Test.YtkliejppigfjiaaFin
namespace Go.Proofs.Ytkliejppigfjiaa
open Go.RowKit Fx
theorem in_i : In Try.prog 3 I (fun n => -9223372036854775808 ≤ n ∧ n ≤ 9223372036854775807) := in_int Try.underlying3 (by kernel_rfl)
theorem in_cell : In Try.prog 136 eCell (fun _ => True) :=
  in_struct Try.underlying136 (by kernel_rfl) (inL_cons in_i (inL_cons in_i inL_nil)) (fun a _ => ⟨(a.1, a.2.1), trivial, rfl⟩)
theorem in_col : In Try.prog 94 eCol (fun l => l.length ≤ 9223372036854775807) :=
  (in_slice (f := eCell) (0, 0) Try.underlying94 (by kernel_rfl) (by kernel_rfl) (by decide) (fun _ _ h => by cases h) in_cell).mono fun _ h => h.1
theorem in_cols : In Try.prog 22 eCols (fun l => l.length ≤ 9223372036854775807 ∧ ∀ c ∈ l, c.length ≤ 9223372036854775807) :=
  in_slice (f := eCol) [] Try.underlying22 (by kernel_rfl) (by kernel_rfl) (by decide) (fun _ _ h => by cases h) in_col
theorem in_gram : In Try.prog 24 eGram Gram.Ok :=
  in_struct Try.underlying24 (by kernel_rfl) (inL_cons in_i (inL_cons in_i (inL_cons in_cols inL_nil))) fun a h => ⟨⟨a.1, a.2.1, a.2.2.1⟩, ⟨h.2.2.1.1, fun i => (by
    by_cases hi : i < a.2.2.1.length
    · rw [List.getD_eq_getElem?_getD, List.getElem?_eq_getElem hi]
      exact h.2.2.1.2 _ (List.getElem_mem hi)
    · rw [List.getD_eq_getElem?_getD, List.getElem?_eq_none (by show a.2.2.1.length ≤ i; omega)]; exact Nat.zero_le _)⟩, rfl⟩
end Go.Proofs.Ytkliejppigfjiaa
