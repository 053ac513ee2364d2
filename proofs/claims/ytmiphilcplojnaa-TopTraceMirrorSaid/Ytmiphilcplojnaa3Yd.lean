/-
  Chapter 3, in plain words: the mirrored ionograms of TopTraceMirror are valid, and mirrored.
  Conditions: none.
-/
import Derived.Test.Ytmiphilcplojnaa3Yb
namespace Go.Proofs.Ytmiphilcplojnaa
open Go.RowKit Fx
def cell (g : Gram) (c w : Nat) : Int × Int := (g.cols.getD c []).getD w (0, 0)
theorem cells_ok {g : Gram} (h : gramE g = 0) {c w : Nat} (hc : c < g.cols.length) (hw : w < rowsN g) : cellErr (cell g c w) = 0 := by
  have hv := gram_val h
  have h1 : (findErr (fun c => columnErr c (g.cols.getD 0 []).length) g.cols 0).2 = 0 := by
    have := hv.f1; have := hv.s1; have := hv.c0; have := hv.c1
    unfold gramE checkGram at h
    rw [if_neg (by omega), if_neg (by omega), if_neg (by omega)] at h
    exact h
  have h2 := findErr_z _ [] g.cols 0 h1 c hc
  have hl := hv.rows c hc
  have h0 := hv.r0
  have h12 := hv.r1
  unfold columnErr at h2
  rw [if_neg (by unfold rowsN at hl; omega), if_neg (by omega)] at h2
  exact findErr_z _ (0, 0) _ 0 h2 w (by omega)
theorem gramE_zero {g : Gram} (f : 1 ≤ g.first ∧ g.first ≤ 3000) (s : 1 ≤ g.step ∧ g.step ≤ 3000) (c0 : 0 < g.cols.length) (c1 : g.cols.length ≤ 10) {n : Nat} (n0 : 0 < n) (n1 : n ≤ 12) (hr : ∀ c, c < g.cols.length → (g.cols.getD c []).length = n) (hc : ∀ c w, c < g.cols.length → w < n → cellErr (cell g c w) = 0) : gramE g = 0 := by
  unfold gramE checkGram
  rw [if_neg (by omega), if_neg (by omega), if_neg (by omega)]
  have h0 := hr 0 c0
  rw [findErr_none _ [] g.cols 0 fun i hi => ?_]
  have hi' := hr i hi
  unfold columnErr
  rw [if_neg (by omega), if_neg (by omega), findErr_none _ (0, 0) _ 0 fun w hw => hc i w hi (by omega)]
def leftG (g : Gram) : Gram := ⟨g.first, g.step, (List.range g.cols.length).map fun c => g.cols.getD (g.cols.length - 1 - c) []⟩
def lowG (g : Gram) : Gram := ⟨g.first, g.step, (List.range g.cols.length).map fun c => (List.range (rowsN g)).map fun k => cell g c (rowsN g - 1 - k)⟩
theorem leftG_len (g : Gram) : (leftG g).cols.length = g.cols.length := by unfold leftG; simp
theorem lowG_len (g : Gram) : (lowG g).cols.length = g.cols.length := by unfold lowG; simp
theorem leftG_col {g : Gram} {c : Nat} (h : c < g.cols.length) : (leftG g).cols.getD c [] = g.cols.getD (g.cols.length - 1 - c) [] := by
  unfold leftG
  rw [List.getD_eq_getElem?_getD, List.getElem?_map, List.getElem?_range h]; rfl
theorem lowG_col {g : Gram} {c : Nat} (h : c < g.cols.length) : (lowG g).cols.getD c [] = (List.range (rowsN g)).map fun k => cell g c (rowsN g - 1 - k) := by
  unfold lowG
  rw [List.getD_eq_getElem?_getD, List.getElem?_map, List.getElem?_range h]; rfl
theorem lowG_cell {g : Gram} {c w : Nat} (h : c < g.cols.length) (hw : w < rowsN g) : cell (lowG g) c w = cell g c (rowsN g - 1 - w) := by
  unfold cell
  rw [lowG_col h, List.getD_eq_getElem?_getD, List.getElem?_map, List.getElem?_range hw]; rfl
theorem leftG_rows {g : Gram} (hv : g.Val) : rowsN (leftG g) = rowsN g := by
  have h0 := hv.c0
  unfold rowsN
  rw [leftG_col h0]
  exact hv.rows _ (by omega)
theorem lowG_rows {g : Gram} (hv : g.Val) : rowsN (lowG g) = rowsN g := by
  show ((lowG g).cols.getD 0 []).length = _
  rw [lowG_col hv.c0]; simp
theorem leftG_ok {g : Gram} (h : gramE g = 0) : gramE (leftG g) = 0 := by
  have hv := gram_val h
  have hl := leftG_len g
  refine gramE_zero (n := rowsN g) hv.f1 hv.s1 (by have := hv.c0; omega) (by have := hv.c1; omega) hv.r0 hv.r1 (fun c hc => ?_) fun c w hc hw => ?_
  · rw [leftG_col (by omega)]; exact hv.rows _ (by omega)
  · unfold cell; rw [leftG_col (by omega)]; exact cells_ok h (by omega) hw
theorem lowG_ok {g : Gram} (h : gramE g = 0) : gramE (lowG g) = 0 := by
  have hv := gram_val h
  have hl := lowG_len g
  refine gramE_zero (n := rowsN g) hv.f1 hv.s1 (by have := hv.c0; omega) (by have := hv.c1; omega) hv.r0 hv.r1 (fun c hc => ?_) fun c w hc hw => ?_
  · rw [lowG_col (by omega)]; simp
  · rw [lowG_cell (by omega) hw]; exact cells_ok h (by omega) (by omega)
theorem leftG_mir {g : Gram} {r : Rules} (hv : g.Val) : Mir g (leftG g) r (subR r ((g.cols.length : Int) - 1 - r.to) ((g.cols.length : Int) - 1 - r.fr)) := by
  refine ⟨leftG_rows hv, leftG_len g, rfl, rfl, rfl, rfl, fun c w hc => ?_⟩
  rw [subR_price]
  unfold price
  rw [leftG_col (by omega), show g.cols.length - 1 - (g.cols.length - 1 - c) = c by omega]
theorem lowG_low {g : Gram} {r : Rules} (hv : g.Val) : Low g (lowG g) r := by
  refine ⟨lowG_rows hv, lowG_len g, fun c w hc hw => ?_⟩
  have := lowG_cell (g := g) (c := c) (w := rowsN g - 1 - w) hc (by omega)
  unfold cell at this
  unfold price
  rw [this, show rowsN g - 1 - (rowsN g - 1 - w) = w by omega]
end Go.Proofs.Ytmiphilcplojnaa
