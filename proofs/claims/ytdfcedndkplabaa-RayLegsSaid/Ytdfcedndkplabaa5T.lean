/-
  Chapter 5: skies, launches and numbers that come in.
  Conditions: none.
-/
import Derived.Test.Ytdfcedndkplabaa5C
import Derived.Test.YtdfcedndkplabaaFin
namespace Go.Proofs.Ytdfcedndkplabaa
open Go.RowKit Fx
theorem in_i : In Try.prog 3 I (fun n => -9223372036854775808 ≤ n ∧ n ≤ 9223372036854775807) := in_int Try.underlying3 (by kernel_rfl)
theorem in_slab : In Try.prog 52 eSlab (fun _ => True) :=
  in_struct Try.underlying52 (by kernel_rfl) (inL_cons in_i (inL_cons in_i inL_nil)) fun a _ => ⟨⟨a.1, a.2.1⟩, trivial, rfl⟩
theorem in_slabs : In Try.prog 22 eSlabs (fun l => l.length ≤ 9223372036854775807) :=
  (in_slice (f := eSlab) (0, 0) Try.underlying22 (by kernel_rfl) (by kernel_rfl) (by decide) (fun _ _ h => by cases h) in_slab).mono fun _ h => h.1
theorem in_sky : In Try.prog 24 eSky (fun s => s.sl.length ≤ 9223372036854775807) :=
  in_struct Try.underlying24 (by kernel_rfl) (inL_cons in_i (inL_cons in_slabs inL_nil)) fun a h => ⟨⟨a.1, a.2.1⟩, h.2.1, rfl⟩
theorem in_frac : In Try.prog 26 eFrac (fun x => (-9223372036854775808 ≤ x.1 ∧ x.1 ≤ 9223372036854775807) ∧ (-9223372036854775808 ≤ x.2 ∧ x.2 ≤ 9223372036854775807)) :=
  in_struct Try.underlying26 (by kernel_rfl) (inL_cons in_i (inL_cons in_i inL_nil)) fun a h => ⟨(a.1, a.2.1), ⟨h.1, h.2.1⟩, rfl⟩
theorem in_range : In Try.prog 58 eFrac (fun x => (-9223372036854775808 ≤ x.1 ∧ x.1 ≤ 9223372036854775807) ∧ (-9223372036854775808 ≤ x.2 ∧ x.2 ≤ 9223372036854775807)) :=
  in_struct Try.underlying58 (by kernel_rfl) (inL_cons in_i (inL_cons in_i inL_nil)) fun a h => ⟨(a.1, a.2.1), ⟨h.1, h.2.1⟩, rfl⟩
theorem in_ints : In Try.prog 44 eInts (fun l => l.length ≤ 9223372036854775807) :=
  (in_slice (f := I) 0 Try.underlying44 (by kernel_rfl) (by kernel_rfl) (by decide) (fun _ _ h => by cases h) in_i).mono fun _ h => h.1
end Go.Proofs.Ytdfcedndkplabaa
