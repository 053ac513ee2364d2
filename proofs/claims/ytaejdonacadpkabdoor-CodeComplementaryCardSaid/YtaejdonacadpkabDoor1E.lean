/-
  Chapter 1: usable samples (by contract).
  Conditions: none.
-/
import Derived.Test.YtaejdonacadpkabDoor1D
namespace Go.Proofs.YtaejdonacadpkabDoor
open Go.RowKit Fx
@[reducible] def eBn (n : Nat) (p : Nat → Bool) : V := .sl 1 n fun i => B (p i)
@[reducible] def eX (f : Frm) : V := .agg [I f.g, I f.lim, ePs f.sm, eInts f.gp, eBn f.sm.length (usB f)]
@[reducible] def zX : V := .agg [I 0, I 0, .sc (.slice none 0 0), .sc (.slice none 0 0), .sc (.slice none 0 0)]
theorem usB_size {f : Frm} {k : Nat} : usB f k = (!decide ((k : Int) ∈ f.gp) && (decide (max (f.sm.getD k (0, 0)).1 (-(f.sm.getD k (0, 0)).1) < f.lim) && decide (max (f.sm.getD k (0, 0)).2 (-(f.sm.getD k (0, 0)).2) < f.lim))) := by
  unfold usB smallB
  have e1 : decide (-f.lim < (f.sm.getD k (0, 0)).1 ∧ (f.sm.getD k (0, 0)).1 < f.lim) = decide (max (f.sm.getD k (0, 0)).1 (-(f.sm.getD k (0, 0)).1) < f.lim) := by congr 1; apply propext; omega
  have e2 : decide (-f.lim < (f.sm.getD k (0, 0)).2 ∧ (f.sm.getD k (0, 0)).2 < f.lim) = decide (max (f.sm.getD k (0, 0)).2 (-(f.sm.getD k (0, 0)).2) < f.lim) := by congr 1; apply propext; omega
  rw [e1, e2, Bool.and_comm]
end Go.Proofs.YtaejdonacadpkabDoor
