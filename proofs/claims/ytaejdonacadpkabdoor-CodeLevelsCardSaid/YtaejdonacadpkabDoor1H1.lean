/-
  Chapter 1: the document's own harmonics and powers (by contract).
  Conditions: none.
-/
import Derived.Test.YtaejdonacadpkabDoor1C7
import Derived.Test.YtaejdonacadpkabDoor1S
namespace Go.Proofs.YtaejdonacadpkabDoor
open Go.RowKit Fx
theorem whole_false {f : Frm} {a k : Nat} (hk : k < 4) (h : ¬ (a + k < f.sm.length) ∨ usB f (a + k) = false) : wholeB f a = false := by
  unfold wholeB
  rcases h with h | h
  · rw [decide_eq_false (by omega)]; rfl
  · have : allB4 (fun q => usB f (a + q)) = false := by
      show (usB f (a + 0) && usB f (a + 1) && usB f (a + 2) && usB f (a + 3)) = false
      have : k = 0 ∨ k = 1 ∨ k = 2 ∨ k = 3 := by omega
      rcases this with rfl | rfl | rfl | rfl <;> rw [h] <;> simp
    rw [this, Bool.and_false]
theorem whole_true {f : Frm} {a : Nat} (h : ∀ i, i < 4 → a + i < f.sm.length ∧ usB f (a + i) = true) : wholeB f a = true := by
  have h3 := h 3 (by omega)
  show (decide (a + 4 ≤ f.sm.length) && (usB f (a + 0) && usB f (a + 1) && usB f (a + 2) && usB f (a + 3))) = true
  rw [decide_eq_true (by omega), (h 0 (by omega)).2, (h 1 (by omega)).2, (h 2 (by omega)).2, (h 3 (by omega)).2]
  rfl
theorem turn_ex : ∀ n : Nat, n < 4 → ∀ k : Nat, k < 4 → ((0 - (n : Int)) * (k : Int)) % 4 = ((ex n k : Nat) : Int) := by decide
theorem turn_ex_bd : ∀ n : Nat, n < 4 → ∀ k : Nat, k < 4 → -9 ≤ (0 - (n : Int)) * (k : Int) ∧ (0 - (n : Int)) * (k : Int) ≤ 0 := by decide
theorem ex_lt (n k : Nat) : ex n k < 4 := by unfold ex; omega
theorem hzK_bd {f : Frm} (v : f.Val) (a n : Nat) : ∀ k : Nat, k ≤ 4 → (-16000000 ≤ (hzK f a n k).1 ∧ (hzK f a n k).1 ≤ 16000000) ∧ (-16000000 ≤ (hzK f a n k).2 ∧ (hzK f a n k).2 ≤ 16000000) := fun k hk => by
  obtain ⟨c, e⟩ := hz_cv v a n k hk
  have h1 := c.r1
  have h2 := c.i1
  rw [← e]
  unfold cv
  dsimp only
  omega
theorem smt_bd {f : Frm} (v : f.Val) (i r : Nat) : (-2000000 ≤ (f.sm.getD i (0, 0)).1 * (t4 r).1 ∧ (f.sm.getD i (0, 0)).1 * (t4 r).1 ≤ 2000000) ∧ (-2000000 ≤ (f.sm.getD i (0, 0)).2 * (t4 r).2 ∧ (f.sm.getD i (0, 0)).2 * (t4 r).2 ≤ 2000000) ∧ (-2000000 ≤ (f.sm.getD i (0, 0)).1 * (t4 r).2 ∧ (f.sm.getD i (0, 0)).1 * (t4 r).2 ≤ 2000000) ∧ (-2000000 ≤ (f.sm.getD i (0, 0)).2 * (t4 r).1 ∧ (f.sm.getD i (0, 0)).2 * (t4 r).1 ≤ 2000000) := by
  have s := sm_bd v i
  have t := t4_bd r
  have a1 := mul_lim (M := 2000000) (c := 1) s.1 t.1
  have a2 := mul_lim (M := 2000000) (c := 1) s.2 t.2
  have a3 := mul_lim (M := 2000000) (c := 1) s.1 t.2
  have a4 := mul_lim (M := 2000000) (c := 1) s.2 t.1
  omega
end Go.Proofs.YtaejdonacadpkabDoor
