/-
  Chapter 1: the document's line of a frame with a wave; the law of lines (by contract).
  Conditions: none.
-/
import Derived.Test.YtaejdonacadpkabDoor1S
namespace Go.Proofs.YtaejdonacadpkabDoor
open Go.RowKit Fx
theorem sm_lim {f : Frm} (v : f.Val) (i : Nat) : (-2000000 ≤ (f.sm.getD i (0, 0)).1 ∧ (f.sm.getD i (0, 0)).1 ≤ 2000000) ∧ (-2000000 ≤ (f.sm.getD i (0, 0)).2 ∧ (f.sm.getD i (0, 0)).2 ≤ 2000000) := sm_bd v i
theorem unit_mul {p s : Int × Int} (h : isU p = true) (hs : (-2000000 ≤ s.1 ∧ s.1 ≤ 2000000) ∧ (-2000000 ≤ s.2 ∧ s.2 ≤ 2000000)) :
    (-1 ≤ p.1 ∧ p.1 ≤ 1 ∧ -1 ≤ p.2 ∧ p.2 ≤ 1) ∧ (-2000000 ≤ p.1 * s.1 ∧ p.1 * s.1 ≤ 2000000) ∧ (-2000000 ≤ -p.2 * s.2 ∧ -p.2 * s.2 ≤ 2000000) ∧ (-2000000 ≤ p.1 * s.2 ∧ p.1 * s.2 ≤ 2000000) ∧ (-2000000 ≤ -p.2 * s.1 ∧ -p.2 * s.1 ≤ 2000000) := by
  rcases isU_cases h with rfl | rfl | rfl | rfl <;> simp <;> omega
theorem cS_lim {f : Frm} (v : f.Val) {w : List (Int × Int)} (hw : ∀ i, i < w.length → isU (w.getD i (0, 0)) = true) (hl : w.length ≤ 32) (k i : Nat) (hi : i ≤ w.length) : (-64000000 ≤ (cS f w k i).1 ∧ (cS f w k i).1 ≤ 64000000) ∧ (-64000000 ≤ (cS f w k i).2 ∧ (cS f w k i).2 ≤ 64000000) := by
  obtain ⟨h1, h2⟩ := zS_cb v hw hl k i hi
  have a := h1.r1
  have b := h1.i1
  have e1 : (cS f w k i).1 = wv (zS f w k i).1 := by rw [← h2]; rfl
  have e2 : (cS f w k i).2 = wv (zS f w k i).2 := by rw [← h2]; rfl
  rw [e1, e2]
  omega
@[reducible] def stR (f : Frm) (w : List (Int × Int)) (k : Nat) : List (Nat × SB) := [(4, .row 1 k (fun i => I (cM f i w.length)) 3), (3, .row 2 k (fun i => eP (cS f w i w.length)) 78), (2, .cells [.own 3 2 0 k, .own 4 1 0 k] 43), (1, .cells [.sc (.slice none 0 0), .sc (.slice none 0 0)] 43), (0, .cells [I f.g, I f.lim, ePs f.sm, eInts f.gp] 75)]
/-! ### The law -/
theorem cmpL_len (f : Frm) (w : List (Int × Int)) : (cmpL f w).vs.length = f.sm.length - w.length + 1 ∧ (cmpL f w).ms.length = f.sm.length - w.length + 1 := by simp [cmpL]
end Go.Proofs.YtaejdonacadpkabDoor
