/-
  Chapter 7: for every table, share and plan the law ForecastSchedules returns true.
  Conditions: none.
-/
import Derived.Test.YtfmbgkbnmjbefaaRows
import Derived.WalkKit
import Derived.ProofKit
import Derived.OpenShut
import Derived.ShutString
import Derived.ChangeOld
import Derived.Below
import Derived.Test.Ytfmbgkbnmjbefaa7Ti
import Derived.Test.Ytfmbgkbnmjbefaa7Aw
import Derived.Test.Ytfmbgkbnmjbefaa7W
namespace Go.Proofs.Ytfmbgkbnmjbefaa
open Go.RowKit Go.ChangeShapes Go.WideShapes Fx
set_option linter.unusedVariables false
theorem in_pn : In Try.prog 94 ePn (fun x => x.1.length ≤ 9223372036854775807 ∧ x.2.length ≤ 9223372036854775807) :=
  in_struct Try.underlying94 (by kernel_rfl) (inL_cons in_ints (inL_cons in_ranges inL_nil)) fun a h => ⟨(a.1, a.2.1), ⟨h.1, h.2.1⟩, rfl⟩
/-! ### The statement 9 -/
theorem ownforecastSchedules : ownKnob Try.prog.godebug = none := by kernel_rfl
theorem laidforecastSchedules : laidOutB Try.prog = true := by kernel_rfl
set_option maxRecDepth 100000 in
theorem liftedforecastSchedules (os : Os) (started : os.Started) (H : Type) (enc : TypeId × Value → H) :
    ReturnsInHanded {} Try.checked os 9 .any (Rows.forecastSchedulesSpec.pre6 enc Try.prog Try.f9 Rows.forecastSchedulesRow.domain false) (Rows.forecastSchedulesSpec.post enc Try.prog Try.f9 false true false false) := by
  refine returnsInHanded_of_change (C := Try.checked) ownforecastSchedules started (by kernel_rfl) Try.func9
    (ChangeSpec.witness6 (enc := enc) (C := Try.checked) false ⟨#[], #[.agg #[.slice none 0 0, .slice none 0 0], .int .i64 0, .agg #[.slice none 0 0, .slice none 0 0]], []⟩ 8 (by kernel_rfl) (by kernel_rfl) (by kernel_rfl) (by kernel_rfl)) ?_
  intro W base args ds gs before hval0 hW hcnd _
  have hval : ∀ (j : Nat) t v, Try.f9.params[j]? = some t → args[j]? = some v → Value.okWide Try.prog W .any base t v := hval0
  have hW' := hW
  obtain ⟨p, q, hA0, hV, rfl, hfz, hnd⟩ := hW
  have hA : DataW.TrodAll enc Try.prog W 0 (fun _ => true) true Try.f9.params.toList args.toList ds p := hA0
  rw [Try.params9] at hA hval
  obtain ⟨v0, vs0, d0, ds0, p0, q0, hargs, rfl, rfl, h0, r0⟩ := trodAll_cons hA
  obtain ⟨v1, vs1, d1, ds1, p1, q1, rfl, rfl, rfl, h1, r1⟩ := trodAll_cons r0
  obtain ⟨v2, vs2, d2, ds2, p2, q2, rfl, rfl, rfl, h2, r2⟩ := trodAll_cons r1
  obtain ⟨rfl, rfl, rfl⟩ := trodAll_nil r2
  obtain rfl : args = #[v0, v1, v2] := by cases args; simp_all
  obtain ⟨rfl, rfl⟩ := trodVars_none hV
  have lt0 : ∀ x ∈ p0, x.block < W.heap.size := by obtain ⟨m, hm⟩ := h0; exact DataW.trod_lt m _ _ _ hm
  have lt1 : ∀ x ∈ p1, x.block < W.heap.size := by obtain ⟨m, hm⟩ := h1; exact DataW.trod_lt m _ _ _ hm
  have lt2 : ∀ x ∈ p2, x.block < W.heap.size := by obtain ⟨m, hm⟩ := h2; exact DataW.trod_lt m _ _ _ hm
  obtain ⟨a0, ok0, l0⟩ := come_agg in_tb Try.underlying25 (fun _ => ⟨_, rfl⟩) (hval 0 _ v0 rfl rfl) h0
  obtain ⟨a1, ok1, l1⟩ := come_int Try.underlying3 (by kernel_rfl) (hval 1 _ v1 rfl rfl) h1
  obtain ⟨a2, ok2, l2⟩ := come_agg in_pn Try.underlying94 (fun _ => ⟨_, rfl⟩) (hval 2 _ v2 rfl rfl) h2
  clear hA0 hval0
  refine (FnOK.calls (schedulesLaw_ok awake_fn ok0.2 ok2.1 ok2.2) (.cons l0 (.cons l1 (.cons l2 (.nil _))))).mono fun e W' ⟨he, bel⟩ => ?_
  subst he
  exact ⟨_, rfl, _, _, _, [], _, [], hW', trodAll_mk1 (Go.RowKit.shut_bool Try.underlying4 _), (trodAll_cons_mk (Below.trod laidforecastSchedules (by kernel_rfl) (of_decide_eq_true (by kernel_rfl)) h0 bel lt0) (trodAll_cons_mk (Below.trod laidforecastSchedules (by kernel_rfl) (of_decide_eq_true (by kernel_rfl)) h1 bel lt1) (trodAll_cons_mk (Below.trod laidforecastSchedules (by kernel_rfl) (of_decide_eq_true (by kernel_rfl)) h2 bel lt2) trodAll_mk0))), rfl, bel.frame _, fun h => by cases h⟩
theorem overforecastSchedules : Rows.forecastSchedulesRow.holds Try.pinned (OpenSpec.ofChange Rows.forecastSchedulesSpec) :=
  OpenClaim.holds_of_wide 9 Try.f9 rfl rfl rfl rfl rfl rfl rfl ⟨rfl, rfl, rfl, rfl, rfl⟩ rfl rfl rfl rfl rfl (by kernel_rfl) Try.func9 (by kernel_rfl)
    (of_decide_eq_true (by kernel_rfl)) (by unfold Func.isWrapper; first | (rw [if_pos (by decide +kernel)]; kernel_rfl) | (rw [if_neg (by decide +kernel)]; exact ⟨rfl, rfl⟩))
    (fun os started H enc _ => liftedforecastSchedules os started H enc)
/-- The statement. -/
theorem provedForecastSchedules : Rows.ForecastSchedulesSaid := overforecastSchedules
#print axioms provedForecastSchedules
end Go.Proofs.Ytfmbgkbnmjbefaa
