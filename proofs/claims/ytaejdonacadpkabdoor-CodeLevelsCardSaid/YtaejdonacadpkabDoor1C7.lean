/-
  Chapter 1: a chirp is a staircase (plain); the law of it (by contract).
  Conditions: none.
-/
import Derived.Test.YtaejdonacadpkabDoor1W
namespace Go.Proofs.YtaejdonacadpkabDoor
open Go.RowKit Fx
/-! ### Stairs -/
def flr (c : Chp) (t : Int) : Int := (t * c.n).tdiv c.d
theorem flr_bd {c : Chp} (v : c.Val) {t : Int} (h : 0 ≤ t) : flr c t * c.d ≤ t * c.n ∧ t * c.n < flr c t * c.d + c.d := by
  have hn := v.n
  have hd := v.d
  have h0 : 0 ≤ t * c.n := Int.mul_nonneg h hn.1
  unfold flr
  rw [Int.tdiv_eq_ediv_of_nonneg h0]
  have a := Int.ediv_mul_le (t * c.n) (show c.d ≠ 0 by omega)
  have b := Int.lt_ediv_add_one_mul_self (t * c.n) (show 0 < c.d by omega)
  rw [Int.add_mul, Int.one_mul] at b
  exact ⟨a, b⟩
theorem flr_step {c : Chp} (v : c.Val) (hnd : c.n ≤ c.d) {t : Int} (h : 0 ≤ t) : flr c t ≤ flr c (t + 1) ∧ flr c (t + 1) ≤ flr c t + 1 := by
  have hn := v.n
  have hd := v.d
  have a := flr_bd v h
  have b := flr_bd v (show 0 ≤ t + 1 by omega)
  rw [Int.add_mul, Int.one_mul] at b
  constructor
  · refine Int.not_lt.1 fun k => ?_
    have : (flr c (t + 1) + 1) * c.d ≤ flr c t * c.d := Int.mul_le_mul_of_nonneg_right (by omega) (by omega)
    rw [Int.add_mul, Int.one_mul] at this
    omega
  · refine Int.not_lt.1 fun k => ?_
    have : (flr c t + 2) * c.d ≤ flr c (t + 1) * c.d := Int.mul_le_mul_of_nonneg_right (by omega) (by omega)
    rw [Int.add_mul] at this
    omega
theorem flr_0 {c : Chp} : flr c 0 = 0 := by unfold flr; rw [Int.zero_mul, Int.zero_tdiv]
theorem chAt_flr {c : Chp} {t : Int} : chAt c t = c.s + flr c t := rfl
/-- What the rises below a time are: as many as the chirp has risen by, and where each lies. -/
theorem ris_spec {c : Chp} (v : c.Val) (hnd : c.n ≤ c.d) : ∀ k : Nat, ((idxK (risP c) (k + 1)).length : Int) = flr c k ∧ ∀ m, m < (idxK (risP c) (k + 1)).length → ((m : Int) * c.d + c.d ≤ (idxK (risP c) (k + 1)).getD m 0 * c.n ∧ (idxK (risP c) (k + 1)).getD m 0 * c.n < (m : Int) * c.d + c.d + c.n) ∧ (1 ≤ (idxK (risP c) (k + 1)).getD m 0 ∧ (idxK (risP c) (k + 1)).getD m 0 ≤ k)
  | 0 => by
    rw [ris0]
    exact ⟨by rw [show ((0 : Nat) : Int) = 0 from rfl, flr_0]; rfl, fun m h => by simp at h⟩
  | k + 1 => by
    obtain ⟨i1, i2⟩ := ris_spec v hnd k
    have st := flr_step v hnd (t := (k : Int)) (by omega)
    have b1 := flr_bd v (t := (k : Int)) (by omega)
    have b2 := flr_bd v (t := (k : Int) + 1) (by omega)
    have ek : ((k + 1 : Nat) : Int) = (k : Int) + 1 := by omega
    cases e : risP c (k + 1) with
    | true =>
      have e3 : chAt c (((k + 1 : Nat) : Int) - 1) < chAt c ((k + 1 : Nat) : Int) := by unfold risP at e; simp only [Bool.and_eq_true, decide_eq_true_eq] at e; exact e.2
      rw [ek, show ((k : Int) + 1 - 1) = k by omega, chAt_flr, chAt_flr] at e3
      have f1 : flr c ((k : Int) + 1) = flr c k + 1 := by omega
      rw [f1] at b2
      rw [Int.add_mul (flr c k), Int.one_mul] at b2
      have b3 := b2.1
      rw [idxK_yes e, ek]
      generalize hL : idxK (risP c) (k + 1) = L at *
      refine ⟨by rw [List.length_append, f1]; simp; omega, fun m hm => ?_⟩
      rw [List.length_append] at hm
      by_cases hm2 : m < L.length
      · have := i2 m hm2
        have eg : (L ++ [((k + 1 : Nat) : Int)]).getD m 0 = L.getD m 0 := by rw [List.getD_eq_getElem?_getD, List.getD_eq_getElem?_getD, List.getElem?_append_left hm2]
        rw [← ek, eg]
        omega
      · obtain rfl : m = L.length := by simp at hm; omega
        have eg : (L ++ [((k + 1 : Nat) : Int)]).getD L.length 0 = (k : Int) + 1 := by rw [List.getD_eq_getElem?_getD, List.getElem?_append_right (Nat.le_refl _)]; simp
        rw [← ek, eg, i1]
        have b4 := b1.2
        rw [Int.add_mul (k : Int), Int.one_mul] at b3 ⊢
        refine ⟨⟨by omega, by omega⟩, by omega, by omega⟩
    | false =>
      have e3 : ¬ chAt c (((k + 1 : Nat) : Int) - 1) < chAt c ((k + 1 : Nat) : Int) := by unfold risP at e; simp only [Bool.and_eq_false_iff, decide_eq_false_iff_not] at e; omega
      rw [ek, show ((k : Int) + 1 - 1) = k by omega, chAt_flr, chAt_flr] at e3
      rw [idxK_no e, ek]
      refine ⟨by omega, fun m hm => ?_⟩
      have := i2 m hm
      omega
theorem gap_le {n d x x' y y' i j : Int} (_h1 : i * d + d ≤ x * n) (h2 : x * n < i * d + d + n) (h3 : i * d ≤ x' * n) (_h4 : x' * n < i * d + n) (g1 : j * d + d ≤ y * n) (_g2 : y * n < j * d + d + n) (_g3 : j * d ≤ y' * n) (g4 : y' * n < j * d + n) (hn : 0 ≤ n) : (x - x') - (y - y') ≤ 1 := by
  refine Int.not_lt.1 fun k => ?_
  have : ((y - y') + 2) * n ≤ (x - x') * n := Int.mul_le_mul_of_nonneg_right (by omega) hn
  rw [Int.add_mul, Int.sub_mul, Int.sub_mul] at this
  omega
theorem ris_gap {c : Chp} (v : c.Val) (hnd : c.n ≤ c.d) {k i j : Nat} (hi : 1 ≤ i ∧ i < (idxK (risP c) (k + 1)).length) (hj : 1 ≤ j ∧ j < (idxK (risP c) (k + 1)).length) :
    ((idxK (risP c) (k + 1)).getD i 0 - (idxK (risP c) (k + 1)).getD (i - 1) 0) - ((idxK (risP c) (k + 1)).getD j 0 - (idxK (risP c) (k + 1)).getD (j - 1) 0) ≤ 1 := by
  obtain ⟨_, sp⟩ := ris_spec v hnd k
  have a := (sp i hi.2).1
  have b := (sp (i - 1) (by omega)).1
  have e := (sp j hj.2).1
  have f := (sp (j - 1) (by omega)).1
  have m1 : ((i - 1 : Nat) : Int) * c.d + c.d = (i : Int) * c.d := by
    rw [show ((i : Nat) : Int) = ((i - 1 : Nat) : Int) + 1 by omega, Int.add_mul, Int.one_mul]
  have m2 : ((j - 1 : Nat) : Int) * c.d + c.d = (j : Int) * c.d := by
    rw [show ((j : Nat) : Int) = ((j - 1 : Nat) : Int) + 1 by omega, Int.add_mul, Int.one_mul]
  rw [m1] at b
  rw [m2] at f
  exact gap_le a.1 a.2 b.1 b.2 e.1 e.2 f.1 f.2 v.n.1
theorem idxK_pos (c : Chp) : ∀ k, (idxK (risP c) (k + 1)).length ≤ k
  | 0 => by rw [ris0]; simp
  | k + 1 => by
    have := idxK_pos c k
    cases e : risP c (k + 1) with
    | true => rw [idxK_yes e, List.length_append]; simp; omega
    | false => rw [idxK_no e]; omega
theorem idxK_bd (p : Nat → Bool) : ∀ k m, m < (idxK p k).length → 0 ≤ (idxK p k).getD m 0 ∧ (idxK p k).getD m 0 ≤ k
  | 0, m, h => by simp [idxK] at h
  | k + 1, m, h => by
    cases e : p k with
    | true =>
      rw [idxK_yes e] at h ⊢
      rw [List.length_append] at h
      by_cases hm : m < (idxK p k).length
      · have := idxK_bd p k m hm
        rw [List.getD_eq_getElem?_getD, List.getElem?_append_left hm, ← List.getD_eq_getElem?_getD]
        omega
      · obtain rfl : m = (idxK p k).length := by simp at h; omega
        rw [List.getD_eq_getElem?_getD, List.getElem?_append_right (Nat.le_refl _)]
        simp; omega
    | false =>
      rw [idxK_no e] at h ⊢
      have := idxK_bd p k m h
      omega
/-! ### Turns of a wave -/
theorem t4_mul : ∀ a : Nat, a < 4 → ∀ b : Nat, b < 4 → gmul (t4 a) (t4 b) = t4 ((a + b) % 4) := by decide
theorem t4_bd (a : Nat) : (-1 ≤ (t4 a).1 ∧ (t4 a).1 ≤ 1) ∧ (-1 ≤ (t4 a).2 ∧ (t4 a).2 ≤ 1) := by
  match a with
  | 0 => decide
  | 1 => decide
  | 2 => decide
  | a + 3 => exact (by decide : (-1 ≤ (t4 3).1 ∧ (t4 3).1 ≤ 1) ∧ (-1 ≤ (t4 3).2 ∧ (t4 3).2 ≤ 1))
theorem wv_step {c : Chp} (v : c.Val) (k : Nat) : wvP c (k + 1) = gmul (wvP c k) (t4 (chAt c k % 4).toNat) := by
  have p := phK_bd v k
  have hs := v.s
  have b := chDiv_bd v (t := k) (by omega)
  have h0 : 0 ≤ chAt c k := by unfold chAt; omega
  have h1 : 0 ≤ phK c k + chAt c k := by omega
  unfold wvP
  rw [t4_mul _ (by omega) _ (by omega)]
  congr 1
  rw [show phK c (k + 1) = (phK c k + chAt c k).tmod 4 from rfl, Int.tmod_eq_emod_of_nonneg h1]
  omega
theorem lim1 {a b : Int} (h1 : -1 ≤ a ∧ a ≤ 1) (h2 : -1 ≤ b ∧ b ≤ 1) : lim62 (a * b) := by
  have := mul_lim (M := 1) (c := 1) h1 h2
  unfold lim62; omega
end Go.Proofs.YtaejdonacadpkabDoor
