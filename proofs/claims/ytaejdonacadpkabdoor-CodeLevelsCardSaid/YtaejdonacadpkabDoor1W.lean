/-
  Chapter 1: rises; the document's chirp waves; the law of chirps (by contract).
  Conditions: none.
-/
import Derived.Test.YtaejdonacadpkabDoor1S
namespace Go.Proofs.YtaejdonacadpkabDoor
open Go.RowKit Fx
def chE2 (c : Chp) (b : Bool) : Int := firstErr [chE c, if b = true then 0 else 2]
theorem chE2_cases (c : Chp) (b : Bool) : chE2 c b = if chE c = 0 ∧ b = true then 0 else 2 := by
  unfold chE2
  rw [first_two]
  unfold chE
  by_cases h : chB c = true <;> cases b <;> simp [h]
/-! ### Rises -/
def risP (c : Chp) (i : Nat) : Bool := decide (1 ≤ i) && decide (chAt c ((i : Int) - 1) < chAt c i)
def risL (c : Chp) (n : Nat) : List Int := idxK (risP c) (max n 1)
theorem ris0 (c : Chp) : idxK (risP c) 1 = [] := rfl
/-! ### Waves -/
def suK (c : Chp) : Nat → Int
  | 0 => 0
  | t + 1 => suK c t + chAt c t
theorem suK_mod {c : Chp} (v : c.Val) : ∀ t : Nat, suK c t % 4 = phK c t
  | 0 => rfl
  | t + 1 => by
    have i := suK_mod v t
    have p := phK_bd v t
    have hs := v.s
    have b := chDiv_bd v (t := t) (by omega)
    unfold suK phK
    have h0 : 0 ≤ phK c t + chAt c t := by unfold chAt; omega
    rw [Int.tmod_eq_emod_of_nonneg h0]
    omega
theorem suK_bd {c : Chp} (v : c.Val) : ∀ t : Nat, t ≤ 32 → 0 ≤ suK c t ∧ suK c t ≤ t * 200000
  | 0, _ => by simp [suK]
  | t + 1, h => by
    have i := suK_bd v t (by omega)
    have hs := v.s
    have b2 := chDiv_bd v (t := t) (by omega)
    have b1 := chMul_bd v (t := t) (M := 32) (by omega)
    have cb : 0 ≤ chAt c t ∧ chAt c t ≤ 200000 := by unfold chAt; omega
    unfold suK
    omega
/-! ### The law -/
end Go.Proofs.YtaejdonacadpkabDoor
