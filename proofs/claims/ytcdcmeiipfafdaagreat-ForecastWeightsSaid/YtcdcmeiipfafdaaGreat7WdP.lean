/-
  Chapter 7: for all tables, reports and numbers the law ForecastWeights returns true.
  Conditions: none.
-/
import Derived.Test.YtcdcmeiipfafdaaGreatRows
import Derived.WalkKit
import Derived.ProofKit
import Derived.OpenShut
import Derived.ShutString
import Derived.ChangeOld
import Derived.Below
import Derived.Test.YtcdcmeiipfafdaaGreat7Ti
import Derived.Test.YtcdcmeiipfafdaaGreat7Aw
import Derived.Test.YtcdcmeiipfafdaaGreat7Wd
namespace Go.Proofs.YtcdcmeiipfafdaaGreat
open Go.RowKit Go.ChangeShapes Go.WideShapes Fx
set_option linter.unusedVariables false
theorem in_rp : In Tryz.prog 55 eRp (fun _ => True) :=
  in_struct Tryz.underlying55 (by kernel_rfl) (inL_cons in_i (inL_cons in_i (inL_cons (in_bool Tryz.underlying4 (by kernel_rfl)) (inL_cons in_i inL_nil)))) fun a _ => ⟨⟨a.1, a.2.1, a.2.2.1, a.2.2.2.1⟩, trivial, rfl⟩
theorem in_rps : In Tryz.prog 26 eRps (fun l => l.length ≤ 9223372036854775807) :=
  (in_slice (f := eRp) rp0 Tryz.underlying26 (by kernel_rfl) (by kernel_rfl) (by decide) (fun _ _ h => by cases h) in_rp).mono fun _ h => h.1
/-! ### The statement 4 -/
theorem ownforecastWeights : ownKnob Tryz.prog.godebug = none := by kernel_rfl
theorem laidforecastWeights : laidOutB Tryz.prog = true := by kernel_rfl
set_option maxRecDepth 100000 in
theorem liftedforecastWeights (os : Os) (started : os.Started) (H : Type) (enc : TypeId × Value → H) :
    ReturnsInHanded {} Tryz.checked os 4 .any (Rows.forecastWeightsSpec.pre6 enc Tryz.prog Tryz.f4 Rows.forecastWeightsRow.domain false) (Rows.forecastWeightsSpec.post enc Tryz.prog Tryz.f4 false true false false) := by
  refine returnsInHanded_of_change (C := Tryz.checked) ownforecastWeights started (by kernel_rfl) Tryz.func4
    (ChangeSpec.witness6 (enc := enc) (C := Tryz.checked) false ⟨#[], #[.agg #[.slice none 0 0, .slice none 0 0], .slice none 0 0, .agg #[.int .i64 0, .int .i64 0]], []⟩ 8 (by kernel_rfl) (by kernel_rfl) (by kernel_rfl) (by kernel_rfl)) ?_
  intro W base args ds gs before hval0 hW hcnd _
  have hval : ∀ (j : Nat) t v, Tryz.f4.params[j]? = some t → args[j]? = some v → Value.okWide Tryz.prog W .any base t v := hval0
  have hW' := hW
  obtain ⟨p, q, hA0, hV, rfl, hfz, hnd⟩ := hW
  have hA : DataW.TrodAll enc Tryz.prog W 0 (fun _ => true) true Tryz.f4.params.toList args.toList ds p := hA0
  rw [Tryz.params4] at hA hval
  obtain ⟨v0, vs0, d0, ds0, p0, q0, hargs, rfl, rfl, h0, r0⟩ := trodAll_cons hA
  obtain ⟨v1, vs1, d1, ds1, p1, q1, rfl, rfl, rfl, h1, r1⟩ := trodAll_cons r0
  obtain ⟨v2, vs2, d2, ds2, p2, q2, rfl, rfl, rfl, h2, r2⟩ := trodAll_cons r1
  obtain ⟨rfl, rfl, rfl⟩ := trodAll_nil r2
  obtain rfl : args = #[v0, v1, v2] := by cases args; simp_all
  obtain ⟨rfl, rfl⟩ := trodVars_none hV
  have lt0 : ∀ x ∈ p0, x.block < W.heap.size := by obtain ⟨m, hm⟩ := h0; exact DataW.trod_lt m _ _ _ hm
  have lt1 : ∀ x ∈ p1, x.block < W.heap.size := by obtain ⟨m, hm⟩ := h1; exact DataW.trod_lt m _ _ _ hm
  have lt2 : ∀ x ∈ p2, x.block < W.heap.size := by obtain ⟨m, hm⟩ := h2; exact DataW.trod_lt m _ _ _ hm
  obtain ⟨a0, ok0, l0⟩ := come_agg in_tb Tryz.underlying25 (fun _ => ⟨_, rfl⟩) (hval 0 _ v0 rfl rfl) h0
  obtain ⟨a1, ok1, l1⟩ := come_slice in_rps Tryz.underlying26 (fun _ => rfl) (hval 1 _ v1 rfl rfl) h1
  obtain ⟨a2, ok2, l2⟩ := come_arr (in_arr2 Tryz.underlying53 (by kernel_rfl) in_i) Tryz.underlying53 (fun _ => ⟨_, rfl⟩) (hval 2 _ v2 rfl rfl) h2
  clear hA0 hval0
  refine (FnOK.calls (weights_ok awake_fn ok0.2 ok1 ok2.2) (.cons l0 (.cons l1 (.cons l2 (.nil _)))) (fun g cs h => by cases h)).mono fun e W' ⟨he, bel⟩ => ?_
  subst he
  exact ⟨_, rfl, _, _, _, [], _, [], hW', trodAll_mk1 (Go.RowKit.shut_bool Tryz.underlying4 _), (trodAll_cons_mk (Below.trod laidforecastWeights (by kernel_rfl) (of_decide_eq_true (by kernel_rfl)) h0 bel lt0) (trodAll_cons_mk (Below.trod laidforecastWeights (by kernel_rfl) (of_decide_eq_true (by kernel_rfl)) h1 bel lt1) (trodAll_cons_mk (Below.trod laidforecastWeights (by kernel_rfl) (of_decide_eq_true (by kernel_rfl)) h2 bel lt2) trodAll_mk0))), rfl, bel.frame _, fun h => by cases h⟩
theorem overforecastWeights : Rows.forecastWeightsRow.holds Tryz.pinned (OpenSpec.ofChange Rows.forecastWeightsSpec) :=
  OpenClaim.holds_of_wide 4 Tryz.f4 rfl rfl rfl rfl rfl rfl rfl ⟨rfl, rfl, rfl, rfl, rfl⟩ rfl rfl rfl rfl rfl (by kernel_rfl) Tryz.func4 (by kernel_rfl)
    (of_decide_eq_true (by kernel_rfl)) (by unfold Func.isWrapper; first | (rw [if_pos (by decide +kernel)]; kernel_rfl) | (rw [if_neg (by decide +kernel)]; exact ⟨rfl, rfl⟩))
    (fun os started H enc _ => liftedforecastWeights os started H enc)
/-- The statement. -/
theorem provedForecastWeights : Rows.ForecastWeightsSaid := overforecastWeights
#print axioms provedForecastWeights
end Go.Proofs.YtcdcmeiipfafdaaGreat
