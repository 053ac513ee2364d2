/-
  Chapter 3: for every ionogram, rules and offer, the law TraceNoCheaper returns true: the cheapest trace fits and has its cost, no trace that fits is cheaper, no accepted bound is greater, harder rules make nothing cheaper.
  Conditions: none.
-/
import Derived.Test.YtmiphilcplojnaaRows
import Derived.WalkKit
import Derived.ProofKit
import Derived.OpenShut
import Derived.ShutString
import Derived.ChangeOld
import Derived.Below
import Derived.Test.Ytmiphilcplojnaa3FT
import Derived.Test.Ytmiphilcplojnaa3Z
namespace Go.Proofs.Ytmiphilcplojnaa
open Go.RowKit Go.ChangeShapes Go.WideShapes Fx
set_option linter.unusedVariables false
theorem in_lists2 : In Try.prog 115 eLists (fun l => l.length ≤ 9223372036854775807 ∧ ∀ i, (l.getD i []).length ≤ 9223372036854775807) :=
  (in_slice (f := eInts) [] Try.underlying115 (by kernel_rfl) (by kernel_rfl) (by decide) (fun _ _ h => by cases h) in_ints).mono fun l h => ⟨h.1, fun i => by
    by_cases hi : i < l.length
    · rw [List.getD_eq_getElem?_getD, List.getElem?_eq_getElem hi]
      exact h.2 _ (List.getElem_mem hi)
    · rw [List.getD_eq_getElem?_getD, List.getElem?_eq_none (by omega)]; exact Nat.zero_le _⟩
theorem in_offer : In Try.prog 123 eOffer (fun x => x.pots.length ≤ 9223372036854775807 ∧ (∀ i, (x.pots.getD i []).length ≤ 9223372036854775807) ∧ x.path.rows.length ≤ 9223372036854775807 ∧ -9223372036854775808 ≤ x.path.fr ∧ x.path.fr ≤ 9223372036854775807) :=
  in_struct Try.underlying123 (by kernel_rfl) (inL_cons in_path (inL_cons in_lists2 inL_nil)) fun a h => ⟨⟨a.1, a.2.1⟩, ⟨h.2.1.1, h.2.1.2, h.1.1, h.1.2⟩, rfl⟩
/-! ### The statement 12 -/
theorem owntraceNoCheaper : ownKnob Try.prog.godebug = none := by kernel_rfl
theorem laidtraceNoCheaper : laidOutB Try.prog = true := by kernel_rfl
set_option maxRecDepth 100000 in
theorem liftedtraceNoCheaper (os : Os) (started : os.Started) (H : Type) (enc : TypeId × Value → H) :
    ReturnsInHanded {} Try.checked os 12 .any (Rows.traceNoCheaperSpec.pre6 enc Try.prog Try.f12 Rows.traceNoCheaperRow.domain false) (Rows.traceNoCheaperSpec.post enc Try.prog Try.f12 false true false false) := by
  refine returnsInHanded_of_change (C := Try.checked) owntraceNoCheaper started (by kernel_rfl) Try.func12
    (ChangeSpec.witness6 (enc := enc) (C := Try.checked) false ⟨#[], #[.agg #[.int .i64 0, .int .i64 0, .slice none 0 0], .agg #[.int .i64 0, .int .i64 0, .int .i64 0, .int .i64 0, .int .i64 0, .int .i64 0], .agg #[.int .i64 0, .slice none 0 0, .slice none 0 0]], []⟩ 8 (by kernel_rfl) (by kernel_rfl) (by kernel_rfl) (by kernel_rfl)) ?_
  intro W base args ds gs before hval0 hW hcnd _
  have hval : ∀ (j : Nat) t v, Try.f12.params[j]? = some t → args[j]? = some v → Value.okWide Try.prog W .any base t v := hval0
  have hW' := hW
  obtain ⟨p, q, hA0, hV, rfl, hfz, hnd⟩ := hW
  have hA : DataW.TrodAll enc Try.prog W 0 (fun _ => true) true Try.f12.params.toList args.toList ds p := hA0
  rw [Try.params12] at hA hval
  obtain ⟨v0, vs0, d0, ds0, p0, q0, hargs, rfl, rfl, h0, r0⟩ := trodAll_cons hA
  obtain ⟨v1, vs1, d1, ds1, p1, q1, rfl, rfl, rfl, h1, r1⟩ := trodAll_cons r0
  obtain ⟨v2, vs2, d2, ds2, p2, q2, rfl, rfl, rfl, h2, r2⟩ := trodAll_cons r1
  obtain ⟨rfl, rfl, rfl⟩ := trodAll_nil r2
  obtain rfl : args = #[v0, v1, v2] := by cases args; simp_all
  obtain ⟨rfl, rfl⟩ := trodVars_none hV
  have lt0 : ∀ x ∈ p0, x.block < W.heap.size := by obtain ⟨m, hm⟩ := h0; exact DataW.trod_lt m _ _ _ hm
  have lt1 : ∀ x ∈ p1, x.block < W.heap.size := by obtain ⟨m, hm⟩ := h1; exact DataW.trod_lt m _ _ _ hm
  have lt2 : ∀ x ∈ p2, x.block < W.heap.size := by obtain ⟨m, hm⟩ := h2; exact DataW.trod_lt m _ _ _ hm
  obtain ⟨a0, ok0, l0⟩ := come_agg in_gram Try.underlying24 (fun _ => ⟨_, rfl⟩) (hval 0 _ v0 rfl rfl) h0
  obtain ⟨a1, ok1, l1⟩ := come_agg in_rules Try.underlying69 (fun _ => ⟨_, rfl⟩) (hval 1 _ v1 rfl rfl) h1
  obtain ⟨a2, ok2, l2⟩ := come_agg in_offer Try.underlying123 (fun _ => ⟨_, rfl⟩) (hval 2 _ v2 rfl rfl) h2
  clear hA0 hval0
  refine (FnOK.calls (traceNoCheaper_ok ok0 ok2.1 ok2.2.1 ok2.2.2.1 ok2.2.2.2) (.cons l0 (.cons l1 (.cons l2 (.nil _))))).mono fun e W' ⟨he, bel⟩ => ?_
  subst he
  exact ⟨_, rfl, _, _, _, [], _, [], hW', trodAll_mk1 (Go.RowKit.shut_bool Try.underlying4 _), (trodAll_cons_mk (Below.trod laidtraceNoCheaper (by kernel_rfl) (of_decide_eq_true (by kernel_rfl)) h0 bel lt0) (trodAll_cons_mk (Below.trod laidtraceNoCheaper (by kernel_rfl) (of_decide_eq_true (by kernel_rfl)) h1 bel lt1) (trodAll_cons_mk (Below.trod laidtraceNoCheaper (by kernel_rfl) (of_decide_eq_true (by kernel_rfl)) h2 bel lt2) trodAll_mk0))), rfl, bel.frame _, fun h => by cases h⟩
theorem overtraceNoCheaper : Rows.traceNoCheaperRow.holds Try.pinned (OpenSpec.ofChange Rows.traceNoCheaperSpec) :=
  OpenClaim.holds_of_wide 12 Try.f12 rfl rfl rfl rfl rfl rfl rfl ⟨rfl, rfl, rfl, rfl, rfl⟩ rfl rfl rfl rfl rfl (by kernel_rfl) Try.func12 (by kernel_rfl)
    (of_decide_eq_true (by kernel_rfl)) (by unfold Func.isWrapper; first | (rw [if_pos (by decide +kernel)]; kernel_rfl) | (rw [if_neg (by decide +kernel)]; exact ⟨rfl, rfl⟩))
    (fun os started H enc _ => liftedtraceNoCheaper os started H enc)
/-- The statement. -/
theorem provedTraceNoCheaper : Rows.TraceNoCheaperSaid := overtraceNoCheaper
#print axioms provedTraceNoCheaper
end Go.Proofs.Ytmiphilcplojnaa
