/-
  Chapter 5: links and shots that come in.
  Conditions: none.
-/
import Derived.Test.Ytplaocfagjeikaa5T
import Derived.Test.Ytplaocfagjeikaa6A
namespace Go.Proofs.Ytplaocfagjeikaa
open Go.RowKit Fx
structure Lnk where
  a : Sky
  b : Sky
@[reducible] def eLnk (x : Lnk) : V := eLink x.a x.b
structure Sht2 where
  f : Int
  n : Int
  d : Int
@[reducible] def eSht2 (x : Sht2) : V := .agg [I x.f, I x.n, I x.d]
theorem in_link : In Try.prog 129 eLnk (fun x => x.a.sl.length ≤ 9223372036854775807 ∧ x.b.sl.length ≤ 9223372036854775807) :=
  in_struct Try.underlying129 (by kernel_rfl) (inL_cons in_sky (inL_cons in_sky inL_nil)) fun a h => ⟨⟨a.1, a.2.1⟩, ⟨h.1, h.2.1⟩, rfl⟩
theorem in_shot2 : In Try.prog 50 eSht2 (fun x => (-9223372036854775808 ≤ x.n ∧ x.n ≤ 9223372036854775807) ∧ (-9223372036854775808 ≤ x.d ∧ x.d ≤ 9223372036854775807)) :=
  in_struct Try.underlying50 (by kernel_rfl) (inL_cons in_i (inL_cons in_frac inL_nil)) fun a h => ⟨⟨a.1, a.2.1.1, a.2.1.2⟩, h.2.1, rfl⟩
end Go.Proofs.Ytplaocfagjeikaa
