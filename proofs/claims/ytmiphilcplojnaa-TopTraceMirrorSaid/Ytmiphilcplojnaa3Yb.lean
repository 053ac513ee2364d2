/-
  Chapter 3, in plain words: a trace in two parts that have one column in common.
  Conditions: none.
-/
import Derived.Test.Ytmiphilcplojnaa3Ya
namespace Go.Proofs.Ytmiphilcplojnaa
open Go.RowKit Fx
def subL (l : List Int) (o n : Nat) : List Int := (List.range n).map fun i => l.getD (o + i) 0
theorem subL_len (l : List Int) (o n : Nat) : (subL l o n).length = n := by unfold subL; simp
theorem subL_at {l : List Int} {o n i : Nat} (h : i < n) : (subL l o n).getD i 0 = l.getD (o + i) 0 := by
  unfold subL
  rw [List.getD_eq_getElem?_getD, List.getElem?_map, List.getElem?_range h]; rfl
/-- The rules for some of the columns. -/
def subR (r : Rules) (a b : Int) : Rules := ⟨r.tag, r.miss, r.jump, r.limit, a, b⟩
theorem subR_val {g : Gram} {r : Rules} (rv : r.Val g) {a b : Int} (h1 : r.fr ≤ a) (h2 : a ≤ b) (h3 : b ≤ r.to) : (subR r a b).Val g :=
  ⟨rv.tag, rv.miss, rv.jump, rv.limit, by have := rv.fr; show 0 ≤ a; omega, h2, by have := rv.to; show b < _; omega⟩
theorem subR_price (g : Gram) (r : Rules) (a b : Int) (c w : Nat) : price g (subR r a b) c w = price g r c w := rfl
theorem subR_nC (r : Rules) (a b : Int) : nC (subR r a b) = (b - a + 1).toNat := rfl
theorem part_fit {g : Gram} {r : Rules} {p : Path} {o n : Nat} (rv : r.Val g) (pf : p.Fit g r) (hn : 0 < n) (hle : o + n ≤ nC r) : Path.Fit g (subR r (r.fr + o) (r.fr + o + n - 1)) ⟨r.fr + o, subL p.rows o n⟩ := by
  have b1 := rv.fr
  have b2 := rv.le
  have b3 := rv.to
  have b4 := pf.fr
  have b5 := pf.n
  have en : (nC r : Int) = r.to - r.fr + 1 := by unfold nC; omega
  have rl := subL_len p.rows o n
  refine ⟨⟨by show 0 ≤ r.fr + (o : Int); omega, by show 0 < (subL p.rows o n).length; omega, by show r.fr + (o : Int) + (subL p.rows o n).length ≤ _; omega, fun i hi => ?_⟩, rfl, by show (subL p.rows o n).length = _; rw [subR_nC]; omega, fun i hi => ⟨?_, fun h0 => ?_⟩⟩
  · have hi : i < n := by rw [← rl]; exact hi
    show -1 ≤ (subL p.rows o n).getD i 0 ∧ (subL p.rows o n).getD i 0 ≤ _
    rw [subL_at hi]
    exact pf.v.rows _ (by omega)
  · have hi : i < n := by rw [← rl]; exact hi
    show 0 ≤ (subL p.rows o n).getD i 0
    rw [subL_at hi]
    exact (pf.good _ (by omega)).1
  · have hi : i < n := by rw [← rl]; exact hi
    show dist ((subL p.rows o n).getD i 0) ((subL p.rows o n).getD (i - 1) 0) ≤ r.limit
    rw [subL_at hi, subL_at (by omega)]
    have := (pf.good (o + i) (by omega)).2 (by omega)
    rwa [show o + i - 1 = o + (i - 1) by omega] at this
theorem part_cost {g : Gram} {r : Rules} {p : Path} {o n : Nat} {a b : Int} (pf : p.Fit g r) (ha : a = r.fr + o) : costK g (subR r a b) ⟨a, subL p.rows o (n + 1)⟩ (n + 1) = sumK (fun i => cellsC g r p (o + i)) (n + 1) + sumK (fun i => stepsC r p (o + i)) n := by
  have b4 := pf.fr
  subst ha
  rw [costK_sum]
  have e1 : sumK (cellsC g (subR r (r.fr + o) b) ⟨r.fr + o, subL p.rows o (n + 1)⟩) (n + 1) = sumK (fun i => cellsC g r p (o + i)) (n + 1) := by
    refine sumK_congr _ fun i hi => ?_
    unfold cellsC
    show price g (subR r (r.fr + o) b) (r.fr + (o : Int) + (i : Int)).toNat ((subL p.rows o (n + 1)).getD i 0).toNat = _
    rw [subL_at hi, subR_price, b4]
    congr 1
    omega
  have e2 : sumK (stepsC (subR r (r.fr + o) b) ⟨r.fr + o, subL p.rows o (n + 1)⟩) n = sumK (fun i => stepsC r p (o + i)) n := by
    refine sumK_congr _ fun i hi => ?_
    unfold stepsC
    show r.jump * dist ((subL p.rows o (n + 1)).getD (i + 1) 0) ((subL p.rows o (n + 1)).getD i 0) = _
    rw [subL_at (by omega), subL_at (by omega), Nat.add_assoc]
  rw [e1, e2]
/-- Both parts cost what the whole does, and the common cell. -/
theorem two_cost {g : Gram} {r : Rules} {p : Path} {m : Nat} {a : Int} (pf : p.Fit g r) (ha : a = r.fr + m) (hm : m < p.rows.length) :
    costK g (subR r r.fr a) ⟨r.fr, subL p.rows 0 (m + 1)⟩ (m + 1) + costK g (subR r a r.to) ⟨a, subL p.rows m (p.rows.length - m)⟩ (p.rows.length - m) - price g r a.toNat (p.rows.getD m 0).toNat = costK g r p p.rows.length := by
  have h1 := part_cost (g := g) (o := 0) (n := m) (a := r.fr) (b := a) pf (by omega)
  have h2 := part_cost (g := g) (o := m) (n := p.rows.length - m - 1) (a := a) (b := r.to) pf ha
  rw [show p.rows.length - m - 1 + 1 = p.rows.length - m by omega] at h2
  have h3 := costK_sum g r p (p.rows.length - 1)
  rw [show p.rows.length - 1 + 1 = p.rows.length by omega] at h3
  have c1 := sumK_add (cellsC g r p) (m + 1) (p.rows.length - m - 1)
  rw [show m + 1 + (p.rows.length - m - 1) = p.rows.length by omega] at c1
  have c2 := sumK_front (fun i => cellsC g r p (m + i)) (p.rows.length - m - 1)
  rw [show p.rows.length - m - 1 + 1 = p.rows.length - m by omega] at c2
  have c3 : sumK (fun i => cellsC g r p (m + (i + 1))) (p.rows.length - m - 1) = sumK (fun i => cellsC g r p (m + 1 + i)) (p.rows.length - m - 1) := sumK_congr _ fun i _ => by rw [show m + (i + 1) = m + 1 + i by omega]
  have s1 := sumK_add (stepsC r p) m (p.rows.length - m - 1)
  rw [show m + (p.rows.length - m - 1) = p.rows.length - 1 by omega] at s1
  have z1 : sumK (fun i => cellsC g r p (0 + i)) (m + 1) = sumK (cellsC g r p) (m + 1) := sumK_congr _ fun i _ => by rw [Nat.zero_add]
  have z2 : sumK (fun i => stepsC r p (0 + i)) m = sumK (stepsC r p) m := sumK_congr _ fun i _ => by rw [Nat.zero_add]
  have cc : cellsC g r p (m + 0) = price g r a.toNat (p.rows.getD m 0).toNat := by
    unfold cellsC
    rw [Nat.add_zero, pf.fr, ha]
  omega
/-! ### Two parts that meet are a trace -/
theorem list_ext {l k : List Int} (h : l.length = k.length) (e : ∀ i, i < l.length → l.getD i 0 = k.getD i 0) : l = k := by
  refine List.ext_getElem h fun i h1 h2 => ?_
  have := e i h1
  rw [List.getD_eq_getElem?_getD, List.getD_eq_getElem?_getD, List.getElem?_eq_getElem h1, List.getElem?_eq_getElem h2] at this
  exact this
def joinL (x y : List Int) (m n : Nat) : List Int := (List.range n).map fun i => if i ≤ m then x.getD i 0 else y.getD (i - m) 0
theorem joinL_len (x y : List Int) (m n : Nat) : (joinL x y m n).length = n := by unfold joinL; simp
theorem joinL_lo {x y : List Int} {m n i : Nat} (h : i < n) (hi : i ≤ m) : (joinL x y m n).getD i 0 = x.getD i 0 := by
  unfold joinL
  rw [List.getD_eq_getElem?_getD, List.getElem?_map, List.getElem?_range h]
  show (if i ≤ m then x.getD i 0 else y.getD (i - m) 0) = _
  rw [if_pos hi]
theorem joinL_hi {x y : List Int} {m n i : Nat} (h : i < n) (hi : m ≤ i) (e : x.getD m 0 = y.getD 0 0) : (joinL x y m n).getD i 0 = y.getD (i - m) 0 := by
  by_cases h2 : i = m
  · subst h2
    rw [joinL_lo h (Nat.le_refl _), e, Nat.sub_self]
  · unfold joinL
    rw [List.getD_eq_getElem?_getD, List.getElem?_map, List.getElem?_range h]
    show (if i ≤ m then x.getD i 0 else y.getD (i - m) 0) = _
    rw [if_neg (by omega)]
theorem join_fit {g : Gram} {r : Rules} {x y : Path} {m : Nat} {a : Int} (rv : r.Val g) (ha : a = r.fr + m) (hm : m < nC r) (fx : Path.Fit g (subR r r.fr a) x) (fy : Path.Fit g (subR r a r.to) y) (e : x.rows.getD m 0 = y.rows.getD 0 0) :
    Path.Fit g r ⟨r.fr, joinL x.rows y.rows m (nC r)⟩ := by
  have b1 := rv.fr
  have b2 := rv.le
  have b3 := rv.to
  have en : (nC r : Int) = r.to - r.fr + 1 := by unfold nC; omega
  have nx := fx.n
  have ny := fy.n
  rw [subR_nC] at nx ny
  have jl := joinL_len x.rows y.rows m (nC r)
  refine ⟨⟨b1, by show 0 < (joinL x.rows y.rows m (nC r)).length; omega, by show r.fr + (joinL x.rows y.rows m (nC r)).length ≤ _; omega, fun i hi => ?_⟩, rfl, jl, fun i hi => ⟨?_, fun h0 => ?_⟩⟩
  · have hi : i < nC r := by rw [← jl]; exact hi
    show -1 ≤ (joinL x.rows y.rows m (nC r)).getD i 0 ∧ (joinL x.rows y.rows m (nC r)).getD i 0 ≤ _
    by_cases h : i ≤ m
    · rw [joinL_lo hi h]; exact fx.v.rows i (by omega)
    · rw [joinL_hi hi (by omega) e]; exact fy.v.rows (i - m) (by omega)
  · have hi : i < nC r := by rw [← jl]; exact hi
    show 0 ≤ (joinL x.rows y.rows m (nC r)).getD i 0
    by_cases h : i ≤ m
    · rw [joinL_lo hi h]; exact (fx.good i (by omega)).1
    · rw [joinL_hi hi (by omega) e]; exact (fy.good (i - m) (by omega)).1
  · have hi : i < nC r := by rw [← jl]; exact hi
    show dist ((joinL x.rows y.rows m (nC r)).getD i 0) ((joinL x.rows y.rows m (nC r)).getD (i - 1) 0) ≤ r.limit
    by_cases h : i ≤ m
    · rw [joinL_lo hi h, joinL_lo (by omega) (by omega)]; exact (fx.good i (by omega)).2 h0
    · rw [joinL_hi hi (by omega) e, joinL_hi (by omega) (by omega) e]
      have := (fy.good (i - m) (by omega)).2 (by omega)
      rwa [show i - m - 1 = i - 1 - m by omega] at this
theorem join_cost {g : Gram} {r : Rules} {x y : Path} {m : Nat} {a : Int} (hv : g.Val) (rv : r.Val g) (ha : a = r.fr + m) (hm : m < nC r) (fx : Path.Fit g (subR r r.fr a) x) (fy : Path.Fit g (subR r a r.to) y) (e : x.rows.getD m 0 = y.rows.getD 0 0) :
    leastC g r ≤ costK g (subR r r.fr a) x x.rows.length + costK g (subR r a r.to) y y.rows.length - price g r a.toNat (y.rows.getD 0 0).toNat := by
  have b1 := rv.fr
  have b2 := rv.le
  have en : (nC r : Int) = r.to - r.fr + 1 := by unfold nC; omega
  have nx := fx.n
  have ny := fy.n
  rw [subR_nC] at nx ny
  have jf := join_fit rv ha hm fx fy e
  have jl := joinL_len x.rows y.rows m (nC r)
  have n := no_cheaperK hv rv jf
  have t := two_cost jf ha (m := m) (by show m < (joinL x.rows y.rows m (nC r)).length; omega)
  have ex : subL (joinL x.rows y.rows m (nC r)) 0 (m + 1) = x.rows := list_ext (by rw [subL_len]; omega) fun i hi => by
    rw [subL_len] at hi
    rw [subL_at hi, Nat.zero_add, joinL_lo (by omega) (by omega)]
  have ey : subL (joinL x.rows y.rows m (nC r)) m (nC r - m) = y.rows := list_ext (by rw [subL_len]; omega) fun i hi => by
    rw [subL_len] at hi
    rw [subL_at hi, joinL_hi (by omega) (by omega) e, show m + i - m = i by omega]
  have fx1 : x = ⟨r.fr, x.rows⟩ := by cases x with | mk a b => have := fx.fr; dsimp only at this; rw [this]; rfl
  have fy1 : y = ⟨a, y.rows⟩ := by cases y with | mk a b => have := fy.fr; dsimp only at this; rw [this]; rfl
  dsimp only at t n
  rw [jl] at t n
  rw [ex, ey, joinL_lo (by omega) (Nat.le_refl _), e] at t
  have lx : x.rows.length = m + 1 := by omega
  have ly : y.rows.length = nC r - m := by omega
  rw [lx, ly]
  rw [← fx1, ← fy1] at t
  omega
end Go.Proofs.Ytmiphilcplojnaa
