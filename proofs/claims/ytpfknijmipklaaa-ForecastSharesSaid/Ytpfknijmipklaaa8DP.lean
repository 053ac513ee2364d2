/-
  Chapter 7: for all records, queries and shares the law ForecastShares returns true.
  Conditions: none.
-/
import Derived.Test.YtpfknijmipklaaaRows
import Derived.WalkKit
import Derived.ProofKit
import Derived.OpenShut
import Derived.ShutString
import Derived.ChangeOld
import Derived.Below
import Derived.Test.Ytpfknijmipklaaa7Ti
import Derived.Test.Ytpfknijmipklaaa7Aw
import Derived.Test.Ytpfknijmipklaaa8D
import Derived.Test.YtpfknijmipklaaaFin2
namespace Go.Proofs.Ytpfknijmipklaaa
open Go.RowKit Go.ChangeShapes Go.WideShapes Fx
set_option linter.unusedVariables false
theorem in_two : In Try.prog 46 (fun p : Int × Int => .agg ((I p.1).cells ++ (I p.2).cells)) (fun p => (-9223372036854775808 ≤ p.1 ∧ p.1 ≤ 9223372036854775807) ∧ (-9223372036854775808 ≤ p.2 ∧ p.2 ≤ 9223372036854775807)) :=
  in_arr2 Try.underlying46 (by kernel_rfl) in_i
/-! ### The statement 4 -/
theorem ownforecastShares : ownKnob Try.prog.godebug = none := by kernel_rfl
theorem laidforecastShares : laidOutB Try.prog = true := by kernel_rfl
set_option maxRecDepth 100000 in
theorem liftedforecastShares (os : Os) (started : os.Started) (H : Type) (enc : TypeId × Value → H) :
    ReturnsInHanded {} Try.checked os 4 .any (Rows.forecastSharesSpec.pre6 enc Try.prog Try.f4 Rows.forecastSharesRow.domain false) (Rows.forecastSharesSpec.post enc Try.prog Try.f4 false true false false) := by
  refine returnsInHanded_of_change (C := Try.checked) ownforecastShares started (by kernel_rfl) Try.func4
    (ChangeSpec.witness6 (enc := enc) (C := Try.checked) false ⟨#[], #[.slice none 0 0, .agg #[.int .i64 0, .int .i64 0, .int .i64 0, .int .i64 0, .int .i64 0], .agg #[.int .i64 0, .int .i64 0]], []⟩ 8 (by kernel_rfl) (by kernel_rfl) (by kernel_rfl) (by kernel_rfl)) ?_
  intro W base args ds gs before hval0 hW hcnd _
  have hval : ∀ (j : Nat) t v, Try.f4.params[j]? = some t → args[j]? = some v → Value.okWide Try.prog W .any base t v := hval0
  have hW' := hW
  obtain ⟨p, q, hA0, hV, rfl, hfz, hnd⟩ := hW
  have hA : DataW.TrodAll enc Try.prog W 0 (fun _ => true) true Try.f4.params.toList args.toList ds p := hA0
  rw [Try.params4] at hA hval
  obtain ⟨v0, vs0, d0, ds0, p0, q0, hargs, rfl, rfl, h0, r0⟩ := trodAll_cons hA
  obtain ⟨v1, vs1, d1, ds1, p1, q1, rfl, rfl, rfl, h1, r1⟩ := trodAll_cons r0
  obtain ⟨v2, vs2, d2, ds2, p2, q2, rfl, rfl, rfl, h2, r2⟩ := trodAll_cons r1
  obtain ⟨rfl, rfl, rfl⟩ := trodAll_nil r2
  obtain rfl : args = #[v0, v1, v2] := by cases args; simp_all
  obtain ⟨rfl, rfl⟩ := trodVars_none hV
  have lt0 : ∀ x ∈ p0, x.block < W.heap.size := by obtain ⟨m, hm⟩ := h0; exact DataW.trod_lt m _ _ _ hm
  have lt1 : ∀ x ∈ p1, x.block < W.heap.size := by obtain ⟨m, hm⟩ := h1; exact DataW.trod_lt m _ _ _ hm
  have lt2 : ∀ x ∈ p2, x.block < W.heap.size := by obtain ⟨m, hm⟩ := h2; exact DataW.trod_lt m _ _ _ hm
  obtain ⟨a0, ok0, l0⟩ := come_slice in_rcs Try.underlying22 (fun _ => rfl) (hval 0 _ v0 rfl rfl) h0
  obtain ⟨a1, ok1, l1⟩ := come_agg in_qr Try.underlying26 (fun _ => ⟨_, rfl⟩) (hval 1 _ v1 rfl rfl) h1
  obtain ⟨a2, ok2, l2⟩ := come_arr in_two Try.underlying46 (fun _ => ⟨_, rfl⟩) (hval 2 _ v2 rfl rfl) h2
  clear hA0 hval0
  refine (FnOK.calls (sharesLaw_ok awake_fn (s := a2.1) (s' := a2.2) ok0) (.cons l0 (.cons l1 (.cons l2 (.nil _))))).mono fun e W' ⟨he, bel⟩ => ?_
  subst he
  exact ⟨_, rfl, _, _, _, [], _, [], hW', trodAll_mk1 (Go.RowKit.shut_bool Try.underlying4 _), (trodAll_cons_mk (Below.trod laidforecastShares (by kernel_rfl) (of_decide_eq_true (by kernel_rfl)) h0 bel lt0) (trodAll_cons_mk (Below.trod laidforecastShares (by kernel_rfl) (of_decide_eq_true (by kernel_rfl)) h1 bel lt1) (trodAll_cons_mk (Below.trod laidforecastShares (by kernel_rfl) (of_decide_eq_true (by kernel_rfl)) h2 bel lt2) trodAll_mk0))), rfl, bel.frame _, fun h => by cases h⟩
theorem overforecastShares : Rows.forecastSharesRow.holds Try.pinned (OpenSpec.ofChange Rows.forecastSharesSpec) :=
  OpenClaim.holds_of_wide 4 Try.f4 rfl rfl rfl rfl rfl rfl rfl ⟨rfl, rfl, rfl, rfl, rfl⟩ rfl rfl rfl rfl rfl (by kernel_rfl) Try.func4 (by kernel_rfl)
    (of_decide_eq_true (by kernel_rfl)) (by unfold Func.isWrapper; first | (rw [if_pos (by decide +kernel)]; kernel_rfl) | (rw [if_neg (by decide +kernel)]; exact ⟨rfl, rfl⟩))
    (fun os started H enc _ => liftedforecastShares os started H enc)
/-- The statement. -/
theorem provedForecastShares : Rows.ForecastSharesSaid := overforecastShares
#print axioms provedForecastShares
end Go.Proofs.Ytpfknijmipklaaa
