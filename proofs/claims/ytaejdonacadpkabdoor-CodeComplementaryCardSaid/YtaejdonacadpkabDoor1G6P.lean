/-
  Chapter 1: for every pair of codes, the law CodeComplementary returns true (if the pair is complementary, so are the exchanged, the reversed, the opposite, the doubled and the interleaved pair, and the sum of both correlations is 0 at every lag but 0, where it is twice the length; the copies are left as they were). The listed variable starts as the program's text lays it.
  Conditions: none.
-/
import Derived.Test.YtaejdonacadpkabDoorRows
import Derived.Test.YtaejdonacadpkabDoorTie
import Derived.Test.YtaejdonacadpkabDoorCards
import Derived.WalkKit
import Derived.ProofKit
import Derived.OpenShut
import Derived.ShutString
import Derived.ChangeOld
import Derived.Below
import Derived.LaidMore
import Derived.Stop.Joined
import Derived.SevenTiedAt
import Derived.Test.YtaejdonacadpkabDoor1T
import Derived.Test.YtaejdonacadpkabDoor1G6
namespace Go.Proofs.YtaejdonacadpkabDoor
open Go.RowKit Go.ChangeShapes Go.WideShapes Fx
set_option linter.unusedVariables false
theorem in_pair : In Tryd.prog 24 (fun p : List Int × List Int => ePr p.1 p.2) (fun p => p.1.length ≤ 9223372036854775807 ∧ p.2.length ≤ 9223372036854775807) :=
  in_struct Tryd.underlying24 (by kernel_rfl) (inL_cons in_is (inL_cons in_is inL_nil)) fun a h => ⟨(a.1, a.2.1), ⟨h.1.1, h.2.1.1⟩, rfl⟩
/-! ### The statement 4 -/
theorem owncodeComplementary : ownKnob Tryd.prog.godebug = none := by kernel_rfl
theorem laidcodeComplementary : laidOutB Tryd.prog = true := by kernel_rfl
set_option maxRecDepth 100000 in
theorem liftedcodeComplementary (os : Os) (started : os.Started) (H : Type) (enc : TypeId × Value → H) :
    ReturnsInHanded {} Tryd.checked os 4 .any (fun w args => (Rows.codeComplementarySpec.pre enc Tryd.prog Tryd.f4 [] false w args ∧ laidMetH Tryd.prog laidQ w) ∧ sizedMet enc Tryd.prog Tryd.f4 (OpenSpec.ofChange Rows.codeComplementarySpec) false w args) (Rows.codeComplementarySpec.post enc Tryd.prog Tryd.f4 false true false false) := by
  refine returnsInHanded_of_change_and (C := Tryd.checked) (X := fun w _ => laidMetH Tryd.prog laidQ w) (fun _ _ _ hh h => h.of_heap hh) owncodeComplementary started (by kernel_rfl) Tryd.func4
    (ChangeSpec.witness_shaped (enc := enc) (C := Tryd.checked) (os := os) (X := fun w _ => laidMetH Tryd.prog laidQ w) false (World.doorLaid Tryd.prog 400 os) #[.agg #[.slice none 0 0, .slice none 0 0]] 8 rfl (World.shaped_of_RefB (by kernel_rfl) (by kernel_rfl)) (by kernel_rfl) (by kernel_rfl) (by kernel_rfl) (door_met os _)) ?_
  intro W base args ds gs before hval0 hW _ _ hL _
  have hgl := gl_of_laid hL
  have hval : ∀ (j : Nat) t v, Tryd.f4.params[j]? = some t → args[j]? = some v → Value.okWide Tryd.prog W .any base t v := hval0
  have hW' := hW
  obtain ⟨p, q, hA0, hV, rfl, hfz, hnd⟩ := hW
  have hA : DataW.TrodAll enc Tryd.prog W 0 (fun _ => true) true Tryd.f4.params.toList args.toList ds p := hA0
  rw [Tryd.params4] at hA hval
  obtain ⟨v0, vs0, d0, ds0, p0, q0, hargs, rfl, rfl, h0, r0⟩ := trodAll_cons hA
  obtain ⟨rfl, rfl, rfl⟩ := trodAll_nil r0
  obtain rfl : args = #[v0] := by cases args; simp_all
  obtain ⟨rfl, rfl⟩ := trodVars_none hV
  have lt0 : ∀ x ∈ p0, x.block < W.heap.size := by obtain ⟨m, hm⟩ := h0; exact DataW.trod_lt m _ _ _ hm
  obtain ⟨a0, ok0, l0⟩ := come_agg in_pair Tryd.underlying24 (fun _ => ⟨_, rfl⟩) (hval 0 _ v0 rfl rfl) h0
  clear hA0 hval0
  refine (FnOK.calls (codeComplementary_ok awake_fn ok0.1 ok0.2) (.cons l0 (.nil _)) hgl).mono fun e W' ⟨he, bel⟩ => ?_
  subst he
  exact ⟨_, rfl, _, _, _, [], _, [], hW', trodAll_mk1 (Go.RowKit.shut_bool Tryd.underlying4 _), (trodAll_cons_mk (Below.trod laidcodeComplementary (by kernel_rfl) (of_decide_eq_true (by kernel_rfl)) h0 bel lt0) trodAll_mk0), rfl, bel.frame _, fun h => by cases h⟩
theorem overcodeComplementary : Rows.CodeComplementarySaid :=
  OpenClaim.holds_of_wide 4 Tryd.f4 rfl rfl rfl rfl rfl rfl rfl ⟨rfl, rfl, rfl, rfl, rfl⟩ rfl rfl rfl rfl rfl (by kernel_rfl) Tryd.func4 (by kernel_rfl)
    (of_decide_eq_true (by kernel_rfl)) (by unfold Func.isWrapper; first | (rw [if_pos (by decide +kernel)]; kernel_rfl) | (rw [if_neg (by decide +kernel)]; exact ⟨rfl, rfl⟩))
    (fun os started H enc _ => liftedcodeComplementary os started H enc)
/-- The statement. -/
theorem provedCodeComplementary : Rows.CodeComplementaryCardSaid :=
  Claim7.holds_tied_plain_at .later [] [.widerDeep] true (true, "53395bbf87fe8c8afec1629102594935a19a6d57d2f0ba9d647716e391b31ab4") false
    overcodeComplementary (fun _ h => by cases h) (by kernel_rfl) (fun _ h => by cases h) codeComplementary_row_tie rfl ⟨rfl, rfl⟩ (by kernel_rfl) rfl
    (fun f fn hf hfn => by
      obtain rfl : f = 4 := Option.some.inj ((show Tryd.prog.funcNamed Rows.codeComplementaryRow.func = some 4 by kernel_rfl).symm.trans hf) |>.symm
      obtain rfl : fn = Tryd.f4 := (Option.some.inj (Tryd.func4.symm.trans hfn)).symm
      exact ⟨by kernel_rfl, fun j t ht => by
        rw [Tryd.params4] at ht
        have hm := List.mem_of_getElem? (show (Array.toList _)[j]? = some t by rw [Array.getElem?_toList]; exact ht)
        have hall := List.all_eq_true.1 (show ((Array.toList _).all fun u => !Tryd.prog.wantsStandIn u) = true by kernel_rfl) t hm
        exact (show Tryd.prog.wantsStandIn t = false by simpa using hall)⟩)
    (by kernel_rfl)
#print axioms provedCodeComplementary
end Go.Proofs.YtaejdonacadpkabDoor
