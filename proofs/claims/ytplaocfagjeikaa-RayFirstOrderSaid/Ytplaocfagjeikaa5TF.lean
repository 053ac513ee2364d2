/-
  Chapter 5: fields and shots that come in.
  Conditions: none.
-/
import Derived.Test.Ytplaocfagjeikaa5T
import Derived.Test.Ytplaocfagjeikaa5W
namespace Go.Proofs.Ytplaocfagjeikaa
open Go.RowKit Fx
structure Sht where
  f : Int
  n : Int
  d : Int
@[reducible] def eSht (x : Sht) : V := .agg [I x.f, I x.n, I x.d]
theorem in_fld : In Try.prog 48 eFld (fun _ => True) :=
  in_struct Try.underlying48 (by kernel_rfl) (inL_cons in_i (inL_cons in_range inL_nil)) fun a _ => ⟨⟨a.1, a.2.1.1, a.2.1.2⟩, trivial, rfl⟩
theorem in_shot : In Try.prog 50 eSht (fun x => (-9223372036854775808 ≤ x.n ∧ x.n ≤ 9223372036854775807) ∧ (-9223372036854775808 ≤ x.d ∧ x.d ≤ 9223372036854775807)) :=
  in_struct Try.underlying50 (by kernel_rfl) (inL_cons in_i (inL_cons in_frac inL_nil)) fun a h => ⟨⟨a.1, a.2.1.1, a.2.1.2⟩, h.2.1, rfl⟩
end Go.Proofs.Ytplaocfagjeikaa
