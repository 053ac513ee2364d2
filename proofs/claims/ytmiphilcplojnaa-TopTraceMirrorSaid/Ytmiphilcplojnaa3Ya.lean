/-
  Chapter 3, in plain words: mirrored ionograms.
  Conditions: none.
-/
import Derived.Test.Ytmiphilcplojnaa3Y
namespace Go.Proofs.Ytmiphilcplojnaa
open Go.RowKit Fx
/-! ### Sums -/
def sumK (f : Nat → Int) : Nat → Int
  | 0 => 0
  | k + 1 => sumK f k + f k
theorem sumK_congr {f h : Nat → Int} : ∀ n, (∀ i, i < n → f i = h i) → sumK f n = sumK h n
  | 0, _ => rfl
  | n + 1, e => by simp only [sumK]; rw [sumK_congr n (fun i hi => e i (by omega)), e n (by omega)]
theorem sumK_front (f : Nat → Int) : ∀ n, sumK f (n + 1) = f 0 + sumK (fun i => f (i + 1)) n
  | 0 => by simp [sumK]
  | n + 1 => by
    have ih := sumK_front f n
    have a : sumK f (n + 1 + 1) = sumK f (n + 1) + f (n + 1) := rfl
    have b : sumK (fun i => f (i + 1)) (n + 1) = sumK (fun i => f (i + 1)) n + f (n + 1) := rfl
    omega
theorem sumK_rev (f : Nat → Int) : ∀ n, sumK (fun i => f (n - 1 - i)) n = sumK f n
  | 0 => rfl
  | n + 1 => by
    rw [sumK_front, show n + 1 - 1 - 0 = n by omega]
    have e : sumK (fun i => f (n + 1 - 1 - (i + 1))) n = sumK (fun i => f (n - 1 - i)) n := sumK_congr n fun i hi => by rw [show n + 1 - 1 - (i + 1) = n - 1 - i by omega]
    rw [e, sumK_rev f n]
    show f n + sumK f n = sumK f n + f n
    omega
theorem sumK_add (f : Nat → Int) (m : Nat) : ∀ n, sumK f (m + n) = sumK f m + sumK (fun i => f (m + i)) n
  | 0 => by simp [sumK]
  | n + 1 => by
    have ih := sumK_add f m n
    have a : sumK f (m + (n + 1)) = sumK f (m + n) + f (m + n) := rfl
    have b : sumK (fun i => f (m + i)) (n + 1) = sumK (fun i => f (m + i)) n + f (m + n) := rfl
    omega
/-- What a trace's cells cost, and its steps. -/
def cellsC (g : Gram) (r : Rules) (p : Path) (k : Nat) : Int := price g r (p.fr + k).toNat (p.rows.getD k 0).toNat
def stepsC (r : Rules) (p : Path) (k : Nat) : Int := r.jump * dist (p.rows.getD (k + 1) 0) (p.rows.getD k 0)
theorem costK_sum (g : Gram) (r : Rules) (p : Path) : ∀ k, costK g r p (k + 1) = sumK (cellsC g r p) (k + 1) + sumK (stepsC r p) k
  | 0 => by
    show 0 + (price g r (p.fr + (0 : Nat)).toNat (p.rows.getD 0 0).toNat + if 0 < 0 then r.jump * dist (p.rows.getD 0 0) (p.rows.getD (0 - 1) 0) else 0) = 0 + price g r (p.fr + (0 : Nat)).toNat (p.rows.getD 0 0).toNat + 0
    rw [if_neg (by omega)]
    omega
  | k + 1 => by
    have ih := costK_sum g r p k
    have a : costK g r p (k + 1 + 1) = costK g r p (k + 1) + partC g r p (k + 1) := rfl
    have b : sumK (cellsC g r p) (k + 1 + 1) = sumK (cellsC g r p) (k + 1) + cellsC g r p (k + 1) := rfl
    have c : sumK (stepsC r p) (k + 1) = sumK (stepsC r p) k + stepsC r p k := rfl
    have d : partC g r p (k + 1) = cellsC g r p (k + 1) + stepsC r p k := by
      unfold partC cellsC stepsC
      rw [if_pos (by omega), Nat.add_sub_cancel]
    omega
/-! ### Reversed columns, reversed rows -/
def revL (l : List Int) : List Int := (List.range l.length).map fun i => l.getD (l.length - 1 - i) 0
theorem revL_len (l : List Int) : (revL l).length = l.length := by unfold revL; simp
theorem revL_at {l : List Int} {i : Nat} (h : i < l.length) : (revL l).getD i 0 = l.getD (l.length - 1 - i) 0 := by
  unfold revL
  rw [List.getD_eq_getElem?_getD, List.getElem?_map, List.getElem?_range h]; rfl
def flipL (n : Int) (l : List Int) : List Int := l.map fun x => n - 1 - x
theorem flipL_len (n : Int) (l : List Int) : (flipL n l).length = l.length := by unfold flipL; simp
theorem flipL_at {n : Int} {l : List Int} {i : Nat} (h : i < l.length) : (flipL n l).getD i 0 = n - 1 - l.getD i 0 := by
  unfold flipL
  rw [List.getD_eq_getElem?_getD, List.getElem?_map, List.getD_eq_getElem?_getD, List.getElem?_eq_getElem h]; rfl
/-- One ionogram, with its rules, is the other one with its columns reversed. -/
structure Mir (g g' : Gram) (r r' : Rules) : Prop where
  rows : rowsN g' = rowsN g
  cols : g'.cols.length = g.cols.length
  jump : r'.jump = r.jump
  limit : r'.limit = r.limit
  fr : r'.fr = (g.cols.length : Int) - 1 - r.to
  to : r'.to = (g.cols.length : Int) - 1 - r.fr
  price : ∀ c w, c < g.cols.length → price g' r' (g.cols.length - 1 - c) w = price g r c w
theorem mir_fit {g g' : Gram} {r r' : Rules} {p : Path} (rv : r.Val g) (h : Mir g g' r r') (pf : p.Fit g r) : Path.Fit g' r' ⟨r'.fr, revL p.rows⟩ ∧ costK g' r' ⟨r'.fr, revL p.rows⟩ p.rows.length = costK g r p p.rows.length := by
  have a1 := h.fr
  have a2 := h.to
  have a3 := h.rows
  have a4 := h.cols
  have a5 := h.limit
  have b1 := rv.fr
  have b2 := rv.le
  have b3 := rv.to
  have b4 := pf.fr
  have b5 := pf.n
  have b6 := pf.v.n0
  have en : (nC r : Int) = r.to - r.fr + 1 := by unfold nC; omega
  have en' : nC r' = nC r := by unfold nC; omega
  have rl := revL_len p.rows
  refine ⟨⟨⟨by show 0 ≤ r'.fr; omega, by show 0 < (revL p.rows).length; omega, by show r'.fr + (revL p.rows).length ≤ _; omega, fun i hi => ?_⟩, rfl, by show (revL p.rows).length = _; omega, fun i hi => ⟨?_, fun h0 => ?_⟩⟩, ?_⟩
  · have hi : i < p.rows.length := by rw [← rl]; exact hi
    show -1 ≤ (revL p.rows).getD i 0 ∧ (revL p.rows).getD i 0 ≤ _
    rw [revL_at hi, a3]
    exact pf.v.rows _ (by omega)
  · have hi : i < p.rows.length := by rw [← rl]; exact hi
    show 0 ≤ (revL p.rows).getD i 0
    rw [revL_at hi]
    exact (pf.good _ (by omega)).1
  · have hi : i < p.rows.length := by rw [← rl]; exact hi
    show dist ((revL p.rows).getD i 0) ((revL p.rows).getD (i - 1) 0) ≤ _
    rw [revL_at hi, revL_at (by omega), a5, dist_sym]
    have := (pf.good (p.rows.length - 1 - (i - 1)) (by omega)).2 (by omega)
    rwa [show p.rows.length - 1 - (i - 1) - 1 = p.rows.length - 1 - i by omega] at this
  · rw [show p.rows.length = (p.rows.length - 1) + 1 by omega, costK_sum, costK_sum]
    have e1 : sumK (cellsC g' r' ⟨r'.fr, revL p.rows⟩) (p.rows.length - 1 + 1) = sumK (cellsC g r p) (p.rows.length - 1 + 1) := by
      rw [← sumK_rev (cellsC g r p)]
      refine sumK_congr _ fun i hi => ?_
      unfold cellsC
      show Go.Proofs.Ytmiphilcplojnaa.price g' r' (r'.fr + (i : Int)).toNat ((revL p.rows).getD i 0).toNat = _
      rw [revL_at (by omega), ← h.price _ _ (by omega), show p.rows.length - 1 + 1 - 1 - i = p.rows.length - 1 - i by omega]
      congr 1
      omega
    have e2 : sumK (stepsC r' ⟨r'.fr, revL p.rows⟩) (p.rows.length - 1) = sumK (stepsC r p) (p.rows.length - 1) := by
      rw [← sumK_rev (stepsC r p)]
      refine sumK_congr _ fun i hi => ?_
      unfold stepsC
      show r'.jump * dist ((revL p.rows).getD (i + 1) 0) ((revL p.rows).getD i 0) = _
      rw [revL_at (by omega), revL_at (by omega), h.jump, dist_sym, show p.rows.length - 1 - 1 - i + 1 = p.rows.length - 1 - i by omega, show p.rows.length - 1 - (i + 1) = p.rows.length - 1 - 1 - i by omega]
    rw [e1, e2]
/-- With both gone over, the least costs agree. -/
theorem mir_least {g g' : Gram} {r r' : Rules} (hv : g.Val) (rv : r.Val g) (hv' : g'.Val) (rv' : r'.Val g') (h : Mir g g' r r') : leastC g' r' ≤ leastC g r := by
  have f := fit_of (path_val' hv rv) (best_fit hv rv)
  obtain ⟨f', c⟩ := mir_fit rv h f
  have n := no_cheaperK hv' rv' f'
  have e : (⟨r'.fr, revL (bestP g r).rows⟩ : Path).rows.length = (bestP g r).rows.length := revL_len _
  rw [e, c, best_costK hv rv] at n
  exact n
theorem mir_sym {g g' : Gram} {r r' : Rules} (h : Mir g g' r r') : Mir g' g r' r := by
  have a1 := h.fr
  have a2 := h.to
  have a4 := h.cols
  refine ⟨h.rows.symm, h.cols.symm, h.jump.symm, h.limit.symm, by omega, by omega, fun c w hc => ?_⟩
  have := h.price (g.cols.length - 1 - c) w (by omega)
  rw [show g.cols.length - 1 - (g.cols.length - 1 - c) = c by omega] at this
  rw [a4]; exact this.symm
/-- One ionogram is the other one with its rows reversed. -/
structure Low (g g' : Gram) (r : Rules) : Prop where
  rows : rowsN g' = rowsN g
  cols : g'.cols.length = g.cols.length
  price : ∀ c w, c < g.cols.length → w < rowsN g → price g' r c (rowsN g - 1 - w) = price g r c w
theorem low_fit {g g' : Gram} {r : Rules} {p : Path} (rv : r.Val g) (h : Low g g' r) (pf : p.Fit g r) : Path.Fit g' r ⟨r.fr, flipL (rowsN g) p.rows⟩ ∧ costK g' r ⟨r.fr, flipL (rowsN g) p.rows⟩ p.rows.length = costK g r p p.rows.length := by
  have a3 := h.rows
  have a4 := h.cols
  have b1 := rv.fr
  have b2 := rv.le
  have b3 := rv.to
  have b4 := pf.fr
  have b5 := pf.n
  have b6 := pf.v.n0
  have en : (nC r : Int) = r.to - r.fr + 1 := by unfold nC; omega
  have rl := flipL_len (rowsN g) p.rows
  refine ⟨⟨⟨by show 0 ≤ r.fr; omega, by show 0 < (flipL (rowsN g) p.rows).length; omega, by show r.fr + (flipL (rowsN g) p.rows).length ≤ _; omega, fun i hi => ?_⟩, rfl, by show (flipL (rowsN g) p.rows).length = _; omega, fun i hi => ⟨?_, fun h0 => ?_⟩⟩, ?_⟩
  · have hi : i < p.rows.length := by rw [← rl]; exact hi
    show -1 ≤ (flipL (rowsN g) p.rows).getD i 0 ∧ (flipL (rowsN g) p.rows).getD i 0 ≤ _
    rw [flipL_at hi, a3]
    have := pf.v.rows i hi
    have := (pf.good i hi).1
    omega
  · have hi : i < p.rows.length := by rw [← rl]; exact hi
    show 0 ≤ (flipL (rowsN g) p.rows).getD i 0
    rw [flipL_at hi]
    have := pf.v.rows i hi
    omega
  · have hi : i < p.rows.length := by rw [← rl]; exact hi
    show dist ((flipL (rowsN g) p.rows).getD i 0) ((flipL (rowsN g) p.rows).getD (i - 1) 0) ≤ _
    rw [flipL_at hi, flipL_at (by omega)]
    have := (pf.good i hi).2 h0
    unfold dist at *
    omega
  · rw [show p.rows.length = (p.rows.length - 1) + 1 by omega, costK_sum, costK_sum]
    have e1 : sumK (cellsC g' r ⟨r.fr, flipL (rowsN g) p.rows⟩) (p.rows.length - 1 + 1) = sumK (cellsC g r p) (p.rows.length - 1 + 1) := by
      refine sumK_congr _ fun i hi => ?_
      unfold cellsC
      have hr := pf.v.rows i (by omega)
      have hg := (pf.good i (by omega)).1
      show Go.Proofs.Ytmiphilcplojnaa.price g' r (r.fr + (i : Int)).toNat ((flipL (rowsN g) p.rows).getD i 0).toNat = _
      rw [flipL_at (by omega), b4, ← h.price (r.fr + (i : Int)).toNat (p.rows.getD i 0).toNat (by omega) (by omega)]
      congr 1
      omega
    have e2 : sumK (stepsC r ⟨r.fr, flipL (rowsN g) p.rows⟩) (p.rows.length - 1) = sumK (stepsC r p) (p.rows.length - 1) := by
      refine sumK_congr _ fun i hi => ?_
      unfold stepsC
      show r.jump * dist ((flipL (rowsN g) p.rows).getD (i + 1) 0) ((flipL (rowsN g) p.rows).getD i 0) = _
      rw [flipL_at (by omega), flipL_at (by omega)]
      congr 1
      unfold dist
      omega
    rw [e1, e2]
theorem low_least {g g' : Gram} {r : Rules} (hv : g.Val) (rv : r.Val g) (hv' : g'.Val) (rv' : r.Val g') (h : Low g g' r) : leastC g' r ≤ leastC g r := by
  have f := fit_of (path_val' hv rv) (best_fit hv rv)
  obtain ⟨f', c⟩ := low_fit rv h f
  have n := no_cheaperK hv' rv' f'
  have e : (⟨r.fr, flipL (rowsN g) (bestP g r).rows⟩ : Path).rows.length = (bestP g r).rows.length := flipL_len _ _
  rw [e, c, best_costK hv rv] at n
  exact n
theorem low_sym {g g' : Gram} {r : Rules} (h : Low g g' r) : Low g' g r := by
  have a3 := h.rows
  have a4 := h.cols
  refine ⟨a3.symm, a4.symm, fun c w hc hw => ?_⟩
  have := h.price c (rowsN g - 1 - w) (by omega) (by omega)
  rw [show rowsN g - 1 - (rowsN g - 1 - w) = w by omega] at this
  rw [a3]; exact this.symm
end Go.Proofs.Ytmiphilcplojnaa
