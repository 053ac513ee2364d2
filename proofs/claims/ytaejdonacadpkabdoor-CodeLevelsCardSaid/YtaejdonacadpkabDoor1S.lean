/-
  Chapter 1: the document's line of a frame with a wave; the law of lines (by contract).
  Conditions: none.
-/
import Derived.Test.YtaejdonacadpkabDoor1Q
namespace Go.Proofs.YtaejdonacadpkabDoor
open Go.RowKit Fx
def gmul (p q : Int × Int) : Int × Int := (p.1 * q.1 - p.2 * q.2, p.1 * q.2 + p.2 * q.1)
def lim62 (n : Int) : Prop := -4611686018427387904 < n ∧ n < 4611686018427387904
theorem isU_ne {p : Int × Int} : isU p = (!(decide (¬ (p.1 = 1 ∧ p.2 = 0)) && decide (¬ (p.1 = 0 ∧ p.2 = 1)) && decide (¬ (p.1 = -1 ∧ p.2 = 0)) && decide (¬ (p.1 = 0 ∧ p.2 = -1)))) := by
  obtain ⟨a, b⟩ := p
  unfold isU q4
  rw [Bool.eq_iff_iff]
  simp only [List.mem_cons, Prod.mk.injEq, List.not_mem_nil, or_false, decide_eq_true_eq, Bool.not_eq_true', Bool.and_eq_false_iff, decide_eq_false_iff_not, Decidable.not_not]
  omega
end Go.Proofs.YtaejdonacadpkabDoor
