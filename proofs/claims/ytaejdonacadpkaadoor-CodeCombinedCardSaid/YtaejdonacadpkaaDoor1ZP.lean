/-
  Chapter 1: for every two lines, the law CodeCombined returns true (the combined line, or the error, is what the document's own reading says; the copies are left as they were). The listed variable starts as the program's text lays it.
  Conditions: none.
-/
import Derived.Test.YtaejdonacadpkaaDoorRows
import Derived.Test.YtaejdonacadpkaaDoorTie
import Derived.Test.YtaejdonacadpkaaDoorCards
import Derived.WalkKit
import Derived.ProofKit
import Derived.OpenShut
import Derived.ShutString
import Derived.ChangeOld
import Derived.Below
import Derived.LaidMore
import Derived.Stop.Joined
import Derived.SevenTiedAt
import Derived.Test.YtaejdonacadpkaaDoor1T
import Derived.Test.YtaejdonacadpkaaDoor1Z
namespace Go.Proofs.YtaejdonacadpkaaDoor
open Go.RowKit Go.ChangeShapes Go.WideShapes Fx
set_option linter.unusedVariables false
theorem in_line : In Tryd.prog 29 eL (fun l => l.vs.length ≤ 9223372036854775807 ∧ l.ms.length ≤ 9223372036854775807) :=
  in_struct Tryd.underlying29 (by kernel_rfl) (inL_cons in_gs (inL_cons in_is inL_nil)) fun a h => ⟨⟨a.1, a.2.1⟩, ⟨h.1, h.2.1.1⟩, rfl⟩
/-! ### The statement 9 -/
theorem owncodeCombined : ownKnob Tryd.prog.godebug = none := by kernel_rfl
theorem laidcodeCombined : laidOutB Tryd.prog = true := by kernel_rfl
set_option maxRecDepth 100000 in
theorem liftedcodeCombined (os : Os) (started : os.Started) (H : Type) (enc : TypeId × Value → H) :
    ReturnsInHanded {} Tryd.checked os 9 .any (fun w args => (Rows.codeCombinedSpec.pre enc Tryd.prog Tryd.f9 [] false w args ∧ laidMetH Tryd.prog laidQ w) ∧ sizedMet enc Tryd.prog Tryd.f9 (OpenSpec.ofChange Rows.codeCombinedSpec) false w args) (Rows.codeCombinedSpec.post enc Tryd.prog Tryd.f9 false true false false) := by
  refine returnsInHanded_of_change_and (C := Tryd.checked) (X := fun w _ => laidMetH Tryd.prog laidQ w) (fun _ _ _ hh h => h.of_heap hh) owncodeCombined started (by kernel_rfl) Tryd.func9
    (ChangeSpec.witness_shaped (enc := enc) (C := Tryd.checked) (os := os) (X := fun w _ => laidMetH Tryd.prog laidQ w) false (World.doorLaid Tryd.prog 400 os) #[.agg #[.slice none 0 0, .slice none 0 0], .agg #[.slice none 0 0, .slice none 0 0]] 8 rfl (World.shaped_of_RefB (by kernel_rfl) (by kernel_rfl)) (by kernel_rfl) (by kernel_rfl) (by kernel_rfl) (door_met os _)) ?_
  intro W base args ds gs before hval0 hW _ _ hL _
  have hgl := gl_of_laid hL
  have hval : ∀ (j : Nat) t v, Tryd.f9.params[j]? = some t → args[j]? = some v → Value.okWide Tryd.prog W .any base t v := hval0
  have hW' := hW
  obtain ⟨p, q, hA0, hV, rfl, hfz, hnd⟩ := hW
  have hA : DataW.TrodAll enc Tryd.prog W 0 (fun _ => true) true Tryd.f9.params.toList args.toList ds p := hA0
  rw [Tryd.params9] at hA hval
  obtain ⟨v0, vs0, d0, ds0, p0, q0, hargs, rfl, rfl, h0, r0⟩ := trodAll_cons hA
  obtain ⟨v1, vs1, d1, ds1, p1, q1, rfl, rfl, rfl, h1, r1⟩ := trodAll_cons r0
  obtain ⟨rfl, rfl, rfl⟩ := trodAll_nil r1
  obtain rfl : args = #[v0, v1] := by cases args; simp_all
  obtain ⟨rfl, rfl⟩ := trodVars_none hV
  have lt0 : ∀ x ∈ p0, x.block < W.heap.size := by obtain ⟨m, hm⟩ := h0; exact DataW.trod_lt m _ _ _ hm
  have lt1 : ∀ x ∈ p1, x.block < W.heap.size := by obtain ⟨m, hm⟩ := h1; exact DataW.trod_lt m _ _ _ hm
  obtain ⟨a0, ok0, l0⟩ := come_agg in_line Tryd.underlying29 (fun _ => ⟨_, rfl⟩) (hval 0 _ v0 rfl rfl) h0
  obtain ⟨a1, ok1, l1⟩ := come_agg in_line Tryd.underlying29 (fun _ => ⟨_, rfl⟩) (hval 1 _ v1 rfl rfl) h1
  clear hA0 hval0
  refine (FnOK.calls (codeCombined_ok awake_fn ok0.1 ok0.2 ok1.1 ok1.2) (.cons l0 (.cons l1 (.nil _))) hgl).mono fun e W' ⟨he, bel⟩ => ?_
  subst he
  exact ⟨_, rfl, _, _, _, [], _, [], hW', trodAll_mk1 (Go.RowKit.shut_bool Tryd.underlying4 _), (trodAll_cons_mk (Below.trod laidcodeCombined (by kernel_rfl) (of_decide_eq_true (by kernel_rfl)) h0 bel lt0) (trodAll_cons_mk (Below.trod laidcodeCombined (by kernel_rfl) (of_decide_eq_true (by kernel_rfl)) h1 bel lt1) trodAll_mk0)), rfl, bel.frame _, fun h => by cases h⟩
theorem overcodeCombined : Rows.CodeCombinedSaid :=
  OpenClaim.holds_of_wide 9 Tryd.f9 rfl rfl rfl rfl rfl rfl rfl ⟨rfl, rfl, rfl, rfl, rfl⟩ rfl rfl rfl rfl rfl (by kernel_rfl) Tryd.func9 (by kernel_rfl)
    (of_decide_eq_true (by kernel_rfl)) (by unfold Func.isWrapper; first | (rw [if_pos (by decide +kernel)]; kernel_rfl) | (rw [if_neg (by decide +kernel)]; exact ⟨rfl, rfl⟩))
    (fun os started H enc _ => liftedcodeCombined os started H enc)
/-- The statement. -/
theorem provedCodeCombined : Rows.CodeCombinedCardSaid :=
  Claim7.holds_tied_plain_at .later [] [.widerDeep] true (true, "ee19cd7ee6b5fab0998a82897a644ad11553945fdebba13656d2570efa8c2749") false
    overcodeCombined (fun _ h => by cases h) (by kernel_rfl) (fun _ h => by cases h) codeCombined_row_tie rfl ⟨rfl, rfl⟩ (by kernel_rfl) rfl
    (fun f fn hf hfn => by
      obtain rfl : f = 9 := Option.some.inj ((show Tryd.prog.funcNamed Rows.codeCombinedRow.func = some 9 by kernel_rfl).symm.trans hf) |>.symm
      obtain rfl : fn = Tryd.f9 := (Option.some.inj (Tryd.func9.symm.trans hfn)).symm
      exact ⟨by kernel_rfl, fun j t ht => by
        rw [Tryd.params9] at ht
        have hm := List.mem_of_getElem? (show (Array.toList _)[j]? = some t by rw [Array.getElem?_toList]; exact ht)
        have hall := List.all_eq_true.1 (show ((Array.toList _).all fun u => !Tryd.prog.wantsStandIn u) = true by kernel_rfl) t hm
        exact (show Tryd.prog.wantsStandIn t = false by simpa using hall)⟩)
    (by kernel_rfl)
#print axioms provedCodeCombined
end Go.Proofs.YtaejdonacadpkaaDoor
