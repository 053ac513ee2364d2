/-
  Chapter 1: for every line, lag and rule, the law CodeLevels returns true (the level and the answer at the lag, and all peaks, or the errors, are what the document's own reading says; the copies are left as they were). The listed variable starts as the program's text lays it.
  Conditions: none.
-/
import Derived.Test.YtaejdonacadpkabDoorRows
import Derived.Test.YtaejdonacadpkabDoorTie
import Derived.Test.YtaejdonacadpkabDoorCards
import Derived.WalkKit
import Derived.ProofKit
import Derived.OpenShut
import Derived.ShutString
import Derived.ChangeOld
import Derived.Below
import Derived.LaidMore
import Derived.Stop.Joined
import Derived.SevenTiedAt
import Derived.Test.YtaejdonacadpkabDoor1T
import Derived.Test.YtaejdonacadpkabDoor1L3
namespace Go.Proofs.YtaejdonacadpkabDoor
open Go.RowKit Go.ChangeShapes Go.WideShapes Fx
set_option linter.unusedVariables false
theorem in_line : In Tryd.prog 43 eL (fun l => l.vs.length ≤ 9223372036854775807 ∧ l.ms.length ≤ 9223372036854775807) :=
  in_struct Tryd.underlying43 (by kernel_rfl) (inL_cons in_gs (inL_cons in_is inL_nil)) fun a h => ⟨⟨a.1, a.2.1⟩, ⟨h.1, h.2.1.1⟩, rfl⟩
theorem in_rule : In Tryd.prog 45 eP (fun _ => True) :=
  in_struct Tryd.underlying45 (by kernel_rfl) (inL_cons in_i (inL_cons in_i inL_nil)) fun a _ => ⟨(a.1, a.2.1), trivial, rfl⟩
/-! ### The statement 5 -/
theorem owncodeLevels : ownKnob Tryd.prog.godebug = none := by kernel_rfl
theorem laidcodeLevels : laidOutB Tryd.prog = true := by kernel_rfl
set_option maxRecDepth 100000 in
theorem liftedcodeLevels (os : Os) (started : os.Started) (H : Type) (enc : TypeId × Value → H) :
    ReturnsInHanded {} Tryd.checked os 5 .any (fun w args => (Rows.codeLevelsSpec.pre enc Tryd.prog Tryd.f5 [] false w args ∧ laidMetH Tryd.prog laidQ w) ∧ sizedMet enc Tryd.prog Tryd.f5 (OpenSpec.ofChange Rows.codeLevelsSpec) false w args) (Rows.codeLevelsSpec.post enc Tryd.prog Tryd.f5 false true false false) := by
  refine returnsInHanded_of_change_and (C := Tryd.checked) (X := fun w _ => laidMetH Tryd.prog laidQ w) (fun _ _ _ hh h => h.of_heap hh) owncodeLevels started (by kernel_rfl) Tryd.func5
    (ChangeSpec.witness_shaped (enc := enc) (C := Tryd.checked) (os := os) (X := fun w _ => laidMetH Tryd.prog laidQ w) false (World.doorLaid Tryd.prog 400 os) #[.agg #[.slice none 0 0, .slice none 0 0], .int .i64 0, .agg #[.int .i64 0, .int .i64 0]] 8 rfl (World.shaped_of_RefB (by kernel_rfl) (by kernel_rfl)) (by kernel_rfl) (by kernel_rfl) (by kernel_rfl) (door_met os _)) ?_
  intro W base args ds gs before hval0 hW _ _ hL _
  have hgl := gl_of_laid hL
  have hval : ∀ (j : Nat) t v, Tryd.f5.params[j]? = some t → args[j]? = some v → Value.okWide Tryd.prog W .any base t v := hval0
  have hW' := hW
  obtain ⟨p, q, hA0, hV, rfl, hfz, hnd⟩ := hW
  have hA : DataW.TrodAll enc Tryd.prog W 0 (fun _ => true) true Tryd.f5.params.toList args.toList ds p := hA0
  rw [Tryd.params5] at hA hval
  obtain ⟨v0, vs0, d0, ds0, p0, q0, hargs, rfl, rfl, h0, r0⟩ := trodAll_cons hA
  obtain ⟨v1, vs1, d1, ds1, p1, q1, rfl, rfl, rfl, h1, r1⟩ := trodAll_cons r0
  obtain ⟨v2, vs2, d2, ds2, p2, q2, rfl, rfl, rfl, h2, r2⟩ := trodAll_cons r1
  obtain ⟨rfl, rfl, rfl⟩ := trodAll_nil r2
  obtain rfl : args = #[v0, v1, v2] := by cases args; simp_all
  obtain ⟨rfl, rfl⟩ := trodVars_none hV
  have lt0 : ∀ x ∈ p0, x.block < W.heap.size := by obtain ⟨m, hm⟩ := h0; exact DataW.trod_lt m _ _ _ hm
  have lt1 : ∀ x ∈ p1, x.block < W.heap.size := by obtain ⟨m, hm⟩ := h1; exact DataW.trod_lt m _ _ _ hm
  have lt2 : ∀ x ∈ p2, x.block < W.heap.size := by obtain ⟨m, hm⟩ := h2; exact DataW.trod_lt m _ _ _ hm
  obtain ⟨a0, ok0, l0⟩ := come_agg in_line Tryd.underlying43 (fun _ => ⟨_, rfl⟩) (hval 0 _ v0 rfl rfl) h0
  obtain ⟨a1, ok1, l1⟩ := come_int Tryd.underlying3 (by kernel_rfl) (hval 1 _ v1 rfl rfl) h1
  obtain ⟨a2, ok2, l2⟩ := come_agg in_rule Tryd.underlying45 (fun _ => ⟨_, rfl⟩) (hval 2 _ v2 rfl rfl) h2
  clear hA0 hval0
  refine (FnOK.calls (codeLevels_ok awake_fn ok0.1 ok0.2) (.cons l0 (.cons l1 (.cons l2 (.nil _)))) hgl).mono fun e W' ⟨he, bel⟩ => ?_
  subst he
  exact ⟨_, rfl, _, _, _, [], _, [], hW', trodAll_mk1 (Go.RowKit.shut_bool Tryd.underlying4 _), (trodAll_cons_mk (Below.trod laidcodeLevels (by kernel_rfl) (of_decide_eq_true (by kernel_rfl)) h0 bel lt0) (trodAll_cons_mk (Below.trod laidcodeLevels (by kernel_rfl) (of_decide_eq_true (by kernel_rfl)) h1 bel lt1) (trodAll_cons_mk (Below.trod laidcodeLevels (by kernel_rfl) (of_decide_eq_true (by kernel_rfl)) h2 bel lt2) trodAll_mk0))), rfl, bel.frame _, fun h => by cases h⟩
theorem overcodeLevels : Rows.CodeLevelsSaid :=
  OpenClaim.holds_of_wide 5 Tryd.f5 rfl rfl rfl rfl rfl rfl rfl ⟨rfl, rfl, rfl, rfl, rfl⟩ rfl rfl rfl rfl rfl (by kernel_rfl) Tryd.func5 (by kernel_rfl)
    (of_decide_eq_true (by kernel_rfl)) (by unfold Func.isWrapper; first | (rw [if_pos (by decide +kernel)]; kernel_rfl) | (rw [if_neg (by decide +kernel)]; exact ⟨rfl, rfl⟩))
    (fun os started H enc _ => liftedcodeLevels os started H enc)
/-- The statement. -/
theorem provedCodeLevels : Rows.CodeLevelsCardSaid :=
  Claim7.holds_tied_plain_at .later [] [.widerDeep] true (true, "53395bbf87fe8c8afec1629102594935a19a6d57d2f0ba9d647716e391b31ab4") false
    overcodeLevels (fun _ h => by cases h) (by kernel_rfl) (fun _ h => by cases h) codeLevels_row_tie rfl ⟨rfl, rfl⟩ (by kernel_rfl) rfl
    (fun f fn hf hfn => by
      obtain rfl : f = 5 := Option.some.inj ((show Tryd.prog.funcNamed Rows.codeLevelsRow.func = some 5 by kernel_rfl).symm.trans hf) |>.symm
      obtain rfl : fn = Tryd.f5 := (Option.some.inj (Tryd.func5.symm.trans hfn)).symm
      exact ⟨by kernel_rfl, fun j t ht => by
        rw [Tryd.params5] at ht
        have hm := List.mem_of_getElem? (show (Array.toList _)[j]? = some t by rw [Array.getElem?_toList]; exact ht)
        have hall := List.all_eq_true.1 (show ((Array.toList _).all fun u => !Tryd.prog.wantsStandIn u) = true by kernel_rfl) t hm
        exact (show Tryd.prog.wantsStandIn t = false by simpa using hall)⟩)
    (by kernel_rfl)
#print axioms provedCodeLevels
end Go.Proofs.YtaejdonacadpkabDoor
