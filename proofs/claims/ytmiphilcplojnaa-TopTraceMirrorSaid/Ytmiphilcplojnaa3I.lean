/-
  Chapter 3: fits and costs, the least costs from each cell on (the program's, by contract).
  Conditions: none.
-/
import Derived.Test.Ytmiphilcplojnaa3H
namespace Go.Proofs.Ytmiphilcplojnaa
open Go.RowKit Fx
theorem findIx_iff {α : Type} (p : α → Bool) (d : α) : ∀ (l : List α) (s : Nat), 0 ≤ findIx p l s ↔ ∃ i, i < l.length ∧ p (l.getD i d) = true
  | [], s => by simp [findIx]
  | x :: l, s => by
    have ih := findIx_iff p d l (s + 1)
    simp only [findIx]
    by_cases hx : p x = true
    · rw [if_pos hx]
      exact ⟨fun _ => ⟨0, by simp, by simpa using hx⟩, fun _ => by omega⟩
    · rw [if_neg hx, ih]
      constructor
      · rintro ⟨i, h1, h2⟩
        exact ⟨i + 1, by simpa using h1, by simpa using h2⟩
      · rintro ⟨i, h1, h2⟩
        cases i with
        | zero => exact absurd (by simpa using h2) hx
        | succ i => exact ⟨i, by simpa using h1, by simpa using h2⟩
theorem mFits_ok {g : Gram} {r : Rules} {p : Path} (hv : g.Val) (rv : r.Val g) (pv : p.Val g) : FnOK Try.prog 97 [eSearch g r, ePath p] (B (fitsB r p)) [] := by
  have h1 := rv.fr
  have h2 := rv.le
  have h3 := rv.to
  have h4 := hv.c1
  have h5 := hv.r1
  have p3 := pv.n1
  have p1 := pv.fr
  have p2 := pv.n0
  have en : (nC r : Int) = r.to - r.fr + 1 := by unfold nC; omega
  have ix := findIx_iff (fun y => decide ((-1 : Int) = y)) 0 p.rows 0
  refine fn_i hmix hT Try.f97 (by kernel_rfl) rfl (by kernel_rfl) ?_
  with_reducible conv => whnf
  repeat' ((first | (with_reducible refine branch_t ?_) | (with_reducible refine branch_f ?_) | (with_reducible refine branch_nt ?_) | (with_reducible refine branch_nf ?_) | (with_reducible refine branch_dec (fun _ => ?_) (fun _ => ?_)) | (with_reducible refine branch_ndec (fun _ => ?_) (fun _ => ?_)) | (with_reducible refine branch_bool (fun _ => ?_) (fun _ => ?_)) | (with_reducible refine arith_64 (by omega) ?_) | (with_reducible refine ob_i (by omega) (fun _ => ?_)) | (with_reducible refine ob_i (by unfold room; omega) (fun _ => ?_)) | (with_reducible refine ob_i (by (try simp only [] at *); (try dsimp only [toN] at *); omega) (fun _ => ?_)) | (with_reducible refine arith_64 (by (try simp only [toN_eq, Int.toNat_natCast] at *); (try dsimp only [toN] at *); omega) ?_) | (with_reducible refine ob_k rfl ?_) | ((with_reducible refine ob_k ?_ ?_); focus kernel_rfl) | (refine yield_i hmix hT rfl hL efr eps eag ebd rfl (by kernel_rfl) ?_) | (apply call_u (columns_ok rv hv)) | (apply call_u (contains_ok (by omega))) | (apply call_l (first_ok (l := [_, _]) (Nat.le_of_ble_eq_true rfl)) (.cons (vm_lit _ rfl rfl (.cons (vm_int rfl) (.cons (vm_int rfl) .nil))) .nil)) | (apply call_l (first_ok (l := [_, _, _]) (Nat.le_of_ble_eq_true rfl)) (.cons (vm_lit _ rfl rfl (.cons (vm_int rfl) (.cons (vm_int rfl) (.cons (vm_int rfl) .nil)))) .nil)) | (apply call_l (first_ok (l := [_, _, _, _]) (Nat.le_of_ble_eq_true rfl)) (.cons (vm_lit _ rfl rfl (.cons (vm_int rfl) (.cons (vm_int rfl) (.cons (vm_int rfl) (.cons (vm_int rfl) .nil))))) .nil))) <;> (try (exfalso; omega; done)) <;> (with_reducible conv => whnf))
  · refine ret0 (vm_bool (fits_f fun a b _ => ?_).symm)
    omega
  · refine ret0 (vm_bool (fits_f fun a b _ => ?_).symm)
    omega
  · refine ret0 (vm_bool (fits_f fun _ _ c => ?_).symm)
    obtain ⟨i, i1, i2⟩ := ix.1 (by assumption)
    have := (c i i1).1
    have i2 := of_decide_eq_true i2
    omega
  · have hrow : ∀ i, i < p.rows.length → 0 ≤ p.rows.getD i 0 := fun i hi => by
      have := pv.rows i hi
      by_cases h : p.rows.getD i 0 < 0
      · exact absurd (ix.2 ⟨i, hi, by simp only [decide_eq_true_eq]; omega⟩) (by assumption)
      · omega
    refine loop_i hmix hT (fun k : Nat => ([(2, .ptr 0 0), (3, .ptr 1 0), (4, B false), (28, .sl 1 (p.rows.length - 1) fun j => I (p.rows.getD (1 + j) 0)), (29, I (p.rows.length - 1 : Nat)), (30, I k)], ⟨2, [(1, .cells [I p.fr, eInts p.rows] 27), (0, .cells [I g.first, I g.step, eCols g.cols, I r.tag, I r.miss, I r.jump, I r.limit, I r.fr, I r.to] 148)]⟩)) (fun k => k ≤ p.rows.length - 1 ∧ ∀ i, i ≤ k → goodRow r p i) (fun k => p.rows.length - k) 0 ⟨by omega, fun i hi => ⟨hrow i (by omega), fun h => by omega⟩⟩ ?_ ?_
    · refine ⟨[], rfl, ?_, ?_⟩ <;> repeat' (first | exact trivial | exact vm_p | exact vm_ptr rfl rfl rfl | exact vm_yld rfl rfl | exact vm_own rfl rfl rfl rfl | exact vm_own rfl rfl (by omega) (by omega) | exact vm_int (by omega) | exact vm_nil rfl | exact sbm_cells vmL_p | exact sbm_row rfl (fun _ _ => vm_p) | refine ⟨⟨_, rfl, ?_⟩, ?_⟩ | refine ⟨⟨_, _, _, rfl⟩, ?_⟩ | (refine sbm_loop ?_; rw [efr]) | refine sbm_cells ?_ | refine vmL.cons ?_ ?_ | exact vmL.nil | refine vm_own rfl rfl rfl ?_)
    rintro k ⟨hk1, hk2⟩
    have r1 := pv.rows k
    have r2 := pv.rows (1 + k)
    have r4 := hrow (1 + k)
    with_reducible conv => whnf
    repeat' ((first | (with_reducible refine branch_t ?_) | (with_reducible refine branch_f ?_) | (with_reducible refine branch_nt ?_) | (with_reducible refine branch_nf ?_) | (with_reducible refine branch_dec (fun _ => ?_) (fun _ => ?_)) | (with_reducible refine branch_ndec (fun _ => ?_) (fun _ => ?_)) | (with_reducible refine branch_bool (fun _ => ?_) (fun _ => ?_)) | (with_reducible refine arith_64 (by omega) ?_) | (with_reducible refine ob_i (by omega) (fun _ => ?_)) | (with_reducible refine ob_i (by unfold room; omega) (fun _ => ?_)) | (with_reducible refine ob_i (by (try simp only [] at *); (try dsimp only [toN] at *); omega) (fun _ => ?_)) | (with_reducible refine arith_64 (by (try simp only [toN_eq, Int.toNat_natCast] at *); (try dsimp only [toN] at *); omega) ?_) | (with_reducible refine ob_k rfl ?_) | ((with_reducible refine ob_k ?_ ?_); focus kernel_rfl) | (refine yield_i hmix hT rfl hL efr eps eag ebd rfl (by kernel_rfl) ?_) | (apply call_u (size_ok (by (try simp only [toN_eq, Int.toNat_natCast] at *); (try dsimp only [toN] at *); omega))) | (apply call_l (first_ok (l := [_, _]) (Nat.le_of_ble_eq_true rfl)) (.cons (vm_lit _ rfl rfl (.cons (vm_int rfl) (.cons (vm_int rfl) .nil))) .nil)) | (apply call_l (first_ok (l := [_, _, _]) (Nat.le_of_ble_eq_true rfl)) (.cons (vm_lit _ rfl rfl (.cons (vm_int rfl) (.cons (vm_int rfl) (.cons (vm_int rfl) .nil)))) .nil)) | (apply call_l (first_ok (l := [_, _, _, _]) (Nat.le_of_ble_eq_true rfl)) (.cons (vm_lit _ rfl rfl (.cons (vm_int rfl) (.cons (vm_int rfl) (.cons (vm_int rfl) (.cons (vm_int rfl) .nil))))) .nil))) <;> (try (exfalso; omega; done)) <;> (with_reducible conv => whnf))
    all_goals ((try simp only [] at *); (try dsimp only [toN] at *))
    · refine ret0 (vm_bool (fits_f fun _ _ c => ?_).symm)
      have := (c (1 + k) (by omega)).2 (by omega)
      rw [show 1 + k - 1 = k by omega] at this
      unfold dist at this; omega
    · refine ⟨k + 1, ⟨by omega, fun i hi => ?_⟩, by omega, ?_⟩
      · by_cases h : i = k + 1
        · subst h
          rw [Nat.add_comm k 1]
          refine ⟨r4 (by omega), fun _ => ?_⟩
          rw [show 1 + k - 1 = k by omega]
          unfold dist; omega
        · exact hk2 i (by omega)
      · refine ⟨[], rfl, ?_, ?_⟩ <;> repeat' (first | exact trivial | exact vm_p | exact vm_ptr rfl rfl rfl | exact vm_yld rfl rfl | exact vm_own rfl rfl rfl rfl | exact vm_own rfl rfl (by omega) (by omega) | exact vm_int (by omega) | exact vm_nil rfl | exact sbm_cells vmL_p | exact sbm_row rfl (fun _ _ => vm_p) | refine ⟨⟨_, rfl, ?_⟩, ?_⟩ | refine ⟨⟨_, _, _, rfl⟩, ?_⟩ | (refine sbm_loop ?_; rw [efr]) | refine sbm_cells ?_ | refine vmL.cons ?_ ?_ | exact vmL.nil | refine vm_own rfl rfl rfl ?_)
    · exact ret0 (vm_bool (fits_t (by omega) (by omega) fun i hi => hk2 i (by omega)).symm)
/-! ### Costs -/
def partC (g : Gram) (r : Rules) (p : Path) (k : Nat) : Int := price g r (p.fr + k).toNat (p.rows.getD k 0).toNat + if 0 < k then r.jump * dist (p.rows.getD k 0) (p.rows.getD (k - 1) 0) else 0
def costK (g : Gram) (r : Rules) (p : Path) : Nat → Int
  | 0 => 0
  | k + 1 => costK g r p k + partC g r p k
structure Path.Fit (g : Gram) (r : Rules) (p : Path) : Prop where
  v : p.Val g
  fr : p.fr = r.fr
  n : p.rows.length = nC r
  good : ∀ i, i < p.rows.length → goodRow r p i
theorem fit_of {g : Gram} {r : Rules} {p : Path} (pv : p.Val g) (h : fitsB r p = true) : p.Fit g r := by
  have h := fits_iff.1 h
  exact ⟨pv, h.1, h.2.1, h.2.2⟩
theorem partC_bd {g : Gram} {r : Rules} {p : Path} (hv : g.Val) (rv : r.Val g) (pf : p.Fit g r) {k : Nat} (hk : k < p.rows.length) : (0 ≤ price g r (p.fr + k).toNat (p.rows.getD k 0).toNat ∧ price g r (p.fr + k).toNat (p.rows.getD k 0).toNat ≤ 1000) ∧
    (0 < k → 0 ≤ r.jump * dist (p.rows.getD k 0) (p.rows.getD (k - 1) 0) ∧ r.jump * dist (p.rows.getD k 0) (p.rows.getD (k - 1) 0) ≤ 12000) := by
  have h1 := pf.v.rows k hk
  have h2 := (pf.good k hk).1
  have h3 := pf.v.n1
  have h4 := pf.v.fr
  refine ⟨price_le hv rv (by omega) (by omega), fun h0 => ?_⟩
  have h5 := (pf.good k hk).2 h0
  have h6 := rv.jump
  have h7 := rv.limit
  have h8 : 0 ≤ dist (p.rows.getD k 0) (p.rows.getD (k - 1) 0) := by unfold dist; omega
  have h9 : r.jump * dist (p.rows.getD k 0) (p.rows.getD (k - 1) 0) ≤ 1000 * 12 := Int.mul_le_mul h6.2 (by omega) h8 (by omega)
  exact ⟨Int.mul_nonneg h6.1 h8, by omega⟩
theorem costK_bd {g : Gram} {r : Rules} {p : Path} (hv : g.Val) (rv : r.Val g) (pf : p.Fit g r) : ∀ k, k ≤ p.rows.length → 0 ≤ costK g r p k ∧ costK g r p k ≤ 13000 * k
  | 0, _ => by simp [costK]
  | k + 1, hk => by
    have ih := costK_bd hv rv pf k (by omega)
    obtain ⟨h1, h2⟩ := partC_bd hv rv pf (k := k) (by omega)
    simp only [costK, partC]
    split
    · have := h2 (by assumption); omega
    · omega
theorem mPriceI {g : Gram} {r : Rules} {c w : Int} (hv : g.Val) (hc : 0 ≤ c ∧ c < g.cols.length) (hw : 0 ≤ w ∧ w < rowsN g) : FnOK Try.prog 93 [eSearch g r, I c, I w] (I (price g r c.toNat w.toNat)) [] := by
  have := mPrice_ok (r := r) (c := c.toNat) (w := w.toNat) hv (by omega) (by omega)
  rwa [Int.toNat_of_nonneg hc.1, Int.toNat_of_nonneg hw.1] at this
theorem rCellI {g : Gram} {r : Rules} {c w : Int} (hv : g.Val) (hc : 0 ≤ c ∧ c < g.cols.length) (hw : 0 ≤ w ∧ w < rowsN g) : FnOK Try.prog 52 [eGram g, eRules r, I c, I w] (I (price g r c.toNat w.toNat)) [] := by
  have := rCell_ok (r := r) (c := c.toNat) (w := w.toNat) hv (by omega) (by omega)
  rwa [Int.toNat_of_nonneg hc.1, Int.toNat_of_nonneg hw.1] at this
theorem mCost_ok {g : Gram} {r : Rules} {p : Path} (hv : g.Val) (rv : r.Val g) (pf : p.Fit g r) : FnOK Try.prog 98 [eSearch g r, ePath p] (I (costK g r p p.rows.length)) [] := by
  have h4 := hv.c1
  have h5 := hv.r1
  have p1 := pf.v.fr
  have p3 := pf.v.n1
  refine fn_i hmix hT Try.f98 (by kernel_rfl) rfl (by kernel_rfl) ?_
  with_reducible conv => whnf
  refine loop_i hmix hT (fun k : Nat => ([(2, .ptr 0 0), (3, .ptr 1 0), (4, I 0), (5, I (costK g r p k)), (9, eInts p.rows), (10, I p.rows.length), (11, I k)], ⟨2, [(1, .cells [I p.fr, eInts p.rows] 27), (0, .cells [I g.first, I g.step, eCols g.cols, I r.tag, I r.miss, I r.jump, I r.limit, I r.fr, I r.to] 148)]⟩)) (fun k => k ≤ p.rows.length) (fun k => p.rows.length - k) 0 (by omega) ?_ ?_
  · refine ⟨[], rfl, ?_, ?_⟩ <;> repeat' (first | exact trivial | exact vm_p | exact vm_ptr rfl rfl rfl | exact vm_yld rfl rfl | exact vm_own rfl rfl rfl rfl | exact vm_own rfl rfl (by omega) (by omega) | exact vm_int (by omega) | exact vm_nil rfl | exact sbm_cells vmL_p | exact sbm_row rfl (fun _ _ => vm_p) | refine ⟨⟨_, rfl, ?_⟩, ?_⟩ | refine ⟨⟨_, _, _, rfl⟩, ?_⟩ | (refine sbm_loop ?_; rw [efr]) | refine sbm_cells ?_ | refine vmL.cons ?_ ?_ | exact vmL.nil | refine vm_own rfl rfl rfl ?_)
  intro k hk
  have r1 := pf.v.rows k
  have r2 := fun h => (pf.good k h).1
  have r3 := fun h => pf.v.rows (k - 1) h
  have cb := costK_bd hv rv pf k hk
  have pb := fun h => partC_bd hv rv pf (k := k) h
  have r6 : 0 < k → p.rows.getD ((k : Int) - 1).toNat 0 = p.rows.getD (k - 1) 0 := fun h => by rw [show ((k : Int) - 1).toNat = k - 1 by omega]
  have pb2 : k < p.rows.length → 0 < k → 0 ≤ r.jump * max (p.rows.getD k 0 - p.rows.getD ((k : Int) - 1).toNat 0) (-(p.rows.getD k 0 - p.rows.getD ((k : Int) - 1).toNat 0)) ∧ r.jump * max (p.rows.getD k 0 - p.rows.getD ((k : Int) - 1).toNat 0) (-(p.rows.getD k 0 - p.rows.getD ((k : Int) - 1).toNat 0)) ≤ 12000 := fun h h' => by
    rw [r6 h']; exact (pb h).2 h'
  have e1 : 0 < k → costK g r p (k + 1) = costK g r p k + (price g r (p.fr + k).toNat (p.rows.getD k 0).toNat + r.jump * max (p.rows.getD k 0 - p.rows.getD ((k : Int) - 1).toNat 0) (-(p.rows.getD k 0 - p.rows.getD ((k : Int) - 1).toNat 0))) := fun h => by
    rw [r6 h]; simp only [costK, partC]; rw [if_pos h]; rfl
  have e2 : ¬ 0 < k → costK g r p (k + 1) = costK g r p k + price g r (p.fr + k).toNat (p.rows.getD k 0).toNat := fun h => by
    simp only [costK, partC]; rw [if_neg h]; omega
  with_reducible conv => whnf
  repeat' ((first | (with_reducible refine branch_t ?_) | (with_reducible refine branch_f ?_) | (with_reducible refine branch_nt ?_) | (with_reducible refine branch_nf ?_) | (with_reducible refine branch_dec (fun _ => ?_) (fun _ => ?_)) | (with_reducible refine branch_ndec (fun _ => ?_) (fun _ => ?_)) | (with_reducible refine branch_bool (fun _ => ?_) (fun _ => ?_)) | (with_reducible refine arith_64 (by omega) ?_) | (with_reducible refine ob_i (by omega) (fun _ => ?_)) | (with_reducible refine ob_i (by unfold room; omega) (fun _ => ?_)) | (with_reducible refine ob_i (by (try simp only [] at *); (try dsimp only [toN] at *); omega) (fun _ => ?_)) | (with_reducible refine arith_64 (by (try simp only [toN_eq] at *); (try dsimp only [toN] at *); omega) ?_) | (with_reducible refine ob_k rfl ?_) | ((with_reducible refine ob_k ?_ ?_); focus kernel_rfl) | (refine yield_i hmix hT rfl hL efr eps eag ebd rfl (by kernel_rfl) ?_) | (apply call_u (mPriceI hv (by (try simp only [toN_eq, Int.toNat_natCast] at *); (try dsimp only [toN] at *); omega) (by (try simp only [toN_eq, Int.toNat_natCast] at *); (try dsimp only [toN] at *); omega))) | (apply call_u (size_ok (by (try simp only [toN_eq] at *); (try dsimp only [toN] at *); omega))) | (apply call_l (first_ok (l := [_, _]) (Nat.le_of_ble_eq_true rfl)) (.cons (vm_lit _ rfl rfl (.cons (vm_int rfl) (.cons (vm_int rfl) .nil))) .nil)) | (apply call_l (first_ok (l := [_, _, _]) (Nat.le_of_ble_eq_true rfl)) (.cons (vm_lit _ rfl rfl (.cons (vm_int rfl) (.cons (vm_int rfl) (.cons (vm_int rfl) .nil)))) .nil)) | (apply call_l (first_ok (l := [_, _, _, _]) (Nat.le_of_ble_eq_true rfl)) (.cons (vm_lit _ rfl rfl (.cons (vm_int rfl) (.cons (vm_int rfl) (.cons (vm_int rfl) (.cons (vm_int rfl) .nil))))) .nil))) <;> (try (exfalso; omega; done)) <;> (with_reducible conv => whnf))
  all_goals ((try simp only [toN_eq] at *); (try dsimp only [toN] at *))
  · refine ⟨k + 1, by omega, by omega, ?_⟩
    have e1 := e1 (by omega)
    refine ⟨[], rfl, ?_, ?_⟩ <;> repeat' (first | exact trivial | exact vm_p | exact vm_ptr rfl rfl rfl | exact vm_yld rfl rfl | exact vm_own rfl rfl rfl rfl | exact vm_own rfl rfl (by omega) (by omega) | exact vm_int (by omega) | exact vm_nil rfl | exact sbm_cells vmL_p | exact sbm_row rfl (fun _ _ => vm_p) | refine ⟨⟨_, rfl, ?_⟩, ?_⟩ | refine ⟨⟨_, _, _, rfl⟩, ?_⟩ | (refine sbm_loop ?_; rw [efr]) | refine sbm_cells ?_ | refine vmL.cons ?_ ?_ | exact vmL.nil | refine vm_own rfl rfl rfl ?_)
  · refine ⟨k + 1, by omega, by omega, ?_⟩
    have e2 := e2 (by omega)
    refine ⟨[], rfl, ?_, ?_⟩ <;> repeat' (first | exact trivial | exact vm_p | exact vm_ptr rfl rfl rfl | exact vm_yld rfl rfl | exact vm_own rfl rfl rfl rfl | exact vm_own rfl rfl (by omega) (by omega) | exact vm_int (by omega) | exact vm_nil rfl | exact sbm_cells vmL_p | exact sbm_row rfl (fun _ _ => vm_p) | refine ⟨⟨_, rfl, ?_⟩, ?_⟩ | refine ⟨⟨_, _, _, rfl⟩, ?_⟩ | (refine sbm_loop ?_; rw [efr]) | refine sbm_cells ?_ | refine vmL.cons ?_ ?_ | exact vmL.nil | refine vm_own rfl rfl rfl ?_)
  · obtain rfl : k = p.rows.length := by omega
    exact ret0 vm_p
theorem rCostOf_ok {g : Gram} {r : Rules} {p : Path} (hv : g.Val) (rv : r.Val g) (pf : p.Fit g r) : FnOK Try.prog 55 [eGram g, eRules r, ePath p] (I (costK g r p p.rows.length)) [] := by
  have h4 := hv.c1
  have h5 := hv.r1
  have p1 := pf.v.fr
  have p3 := pf.v.n1
  refine fn_i hmix hT Try.f55 (by kernel_rfl) rfl (by kernel_rfl) ?_
  with_reducible conv => whnf
  refine loop_i hmix hT (fun k : Nat => ([(3, .ptr 0 0), (4, .ptr 1 0), (5, .ptr 2 0), (7, I (costK g r p k)), (8, I k)], ⟨3, [(2, .cells [I p.fr, eInts p.rows] 27), (1, .cells [I r.tag, I r.miss, I r.jump, I r.limit, I r.fr, I r.to] 69), (0, .cells [I g.first, I g.step, eCols g.cols] 24)]⟩)) (fun k => k ≤ p.rows.length) (fun k => p.rows.length - k) 0 (by omega) ?_ ?_
  · refine ⟨[], rfl, ?_, ?_⟩ <;> repeat' (first | exact trivial | exact vm_p | exact vm_ptr rfl rfl rfl | exact vm_yld rfl rfl | exact vm_own rfl rfl rfl rfl | exact vm_own rfl rfl (by omega) (by omega) | exact vm_int (by omega) | exact vm_nil rfl | exact sbm_cells vmL_p | exact sbm_row rfl (fun _ _ => vm_p) | refine ⟨⟨_, rfl, ?_⟩, ?_⟩ | refine ⟨⟨_, _, _, rfl⟩, ?_⟩ | (refine sbm_loop ?_; rw [efr]) | refine sbm_cells ?_ | refine vmL.cons ?_ ?_ | exact vmL.nil | refine vm_own rfl rfl rfl ?_)
  intro k hk
  have r1 := pf.v.rows k
  have r2 := fun h => (pf.good k h).1
  have r3 := fun h => pf.v.rows (k - 1) h
  have cb := costK_bd hv rv pf k hk
  have pb := fun h => partC_bd hv rv pf (k := k) h
  have r6 : 0 < k → p.rows.getD ((k : Int) - 1).toNat 0 = p.rows.getD (k - 1) 0 := fun h => by rw [show ((k : Int) - 1).toNat = k - 1 by omega]
  have pb2 : k < p.rows.length → 0 < k → 0 ≤ r.jump * max (p.rows.getD k 0 - p.rows.getD ((k : Int) - 1).toNat 0) (-(p.rows.getD k 0 - p.rows.getD ((k : Int) - 1).toNat 0)) ∧ r.jump * max (p.rows.getD k 0 - p.rows.getD ((k : Int) - 1).toNat 0) (-(p.rows.getD k 0 - p.rows.getD ((k : Int) - 1).toNat 0)) ≤ 12000 := fun h h' => by
    rw [r6 h']; exact (pb h).2 h'
  have e1 : 0 < k → costK g r p (k + 1) = costK g r p k + (price g r (p.fr + k).toNat (p.rows.getD k 0).toNat + r.jump * max (p.rows.getD k 0 - p.rows.getD ((k : Int) - 1).toNat 0) (-(p.rows.getD k 0 - p.rows.getD ((k : Int) - 1).toNat 0))) := fun h => by
    rw [r6 h]; simp only [costK, partC]; rw [if_pos h]; rfl
  have e2 : ¬ 0 < k → costK g r p (k + 1) = costK g r p k + price g r (p.fr + k).toNat (p.rows.getD k 0).toNat := fun h => by
    simp only [costK, partC]; rw [if_neg h]; omega
  with_reducible conv => whnf
  repeat' ((first | (with_reducible refine branch_t ?_) | (with_reducible refine branch_f ?_) | (with_reducible refine branch_nt ?_) | (with_reducible refine branch_nf ?_) | (with_reducible refine branch_dec (fun _ => ?_) (fun _ => ?_)) | (with_reducible refine branch_ndec (fun _ => ?_) (fun _ => ?_)) | (with_reducible refine branch_bool (fun _ => ?_) (fun _ => ?_)) | (with_reducible refine arith_64 (by omega) ?_) | (with_reducible refine ob_i (by omega) (fun _ => ?_)) | (with_reducible refine ob_i (by unfold room; omega) (fun _ => ?_)) | (with_reducible refine ob_i (by (try simp only [] at *); (try dsimp only [toN] at *); omega) (fun _ => ?_)) | (with_reducible refine arith_64 (by (try simp only [toN_eq] at *); (try dsimp only [toN] at *); omega) ?_) | (with_reducible refine ob_k rfl ?_) | ((with_reducible refine ob_k ?_ ?_); focus kernel_rfl) | (refine yield_i hmix hT rfl hL efr eps eag ebd rfl (by kernel_rfl) ?_) | (apply call_u (rCellI hv (by (try simp only [toN_eq, Int.toNat_natCast] at *); (try dsimp only [toN] at *); omega) (by (try simp only [toN_eq, Int.toNat_natCast] at *); (try dsimp only [toN] at *); omega))) | (apply call_u (bSize_ok (by (try simp only [toN_eq] at *); (try dsimp only [toN] at *); omega))) | (apply call_l (first_ok (l := [_, _]) (Nat.le_of_ble_eq_true rfl)) (.cons (vm_lit _ rfl rfl (.cons (vm_int rfl) (.cons (vm_int rfl) .nil))) .nil)) | (apply call_l (first_ok (l := [_, _, _]) (Nat.le_of_ble_eq_true rfl)) (.cons (vm_lit _ rfl rfl (.cons (vm_int rfl) (.cons (vm_int rfl) (.cons (vm_int rfl) .nil)))) .nil)) | (apply call_l (first_ok (l := [_, _, _, _]) (Nat.le_of_ble_eq_true rfl)) (.cons (vm_lit _ rfl rfl (.cons (vm_int rfl) (.cons (vm_int rfl) (.cons (vm_int rfl) (.cons (vm_int rfl) .nil))))) .nil))) <;> (try (exfalso; omega; done)) <;> (with_reducible conv => whnf))
  all_goals ((try simp only [toN_eq] at *); (try dsimp only [toN] at *))
  · refine ⟨k + 1, by omega, by omega, ?_⟩
    have e1 := e1 (by omega)
    refine ⟨[], rfl, ?_, ?_⟩ <;> repeat' (first | exact trivial | exact vm_p | exact vm_ptr rfl rfl rfl | exact vm_yld rfl rfl | exact vm_own rfl rfl rfl rfl | exact vm_own rfl rfl (by omega) (by omega) | exact vm_int (by omega) | exact vm_nil rfl | exact sbm_cells vmL_p | exact sbm_row rfl (fun _ _ => vm_p) | refine ⟨⟨_, rfl, ?_⟩, ?_⟩ | refine ⟨⟨_, _, _, rfl⟩, ?_⟩ | (refine sbm_loop ?_; rw [efr]) | refine sbm_cells ?_ | refine vmL.cons ?_ ?_ | exact vmL.nil | refine vm_own rfl rfl rfl ?_)
  · refine ⟨k + 1, by omega, by omega, ?_⟩
    have e2 := e2 (by omega)
    refine ⟨[], rfl, ?_, ?_⟩ <;> repeat' (first | exact trivial | exact vm_p | exact vm_ptr rfl rfl rfl | exact vm_yld rfl rfl | exact vm_own rfl rfl rfl rfl | exact vm_own rfl rfl (by omega) (by omega) | exact vm_int (by omega) | exact vm_nil rfl | exact sbm_cells vmL_p | exact sbm_row rfl (fun _ _ => vm_p) | refine ⟨⟨_, rfl, ?_⟩, ?_⟩ | refine ⟨⟨_, _, _, rfl⟩, ?_⟩ | (refine sbm_loop ?_; rw [efr]) | refine sbm_cells ?_ | refine vmL.cons ?_ ?_ | exact vmL.nil | refine vm_own rfl rfl rfl ?_)
  · obtain rfl : k = p.rows.length := by omega
    exact ret0 vm_p
/-- What CostOf answers. -/
noncomputable def costE (g : Gram) (r : Rules) (p : Path) : Int × Int := if bothE g r ≠ 0 then (0, bothE g r) else if pathE g p ≠ 0 then (0, pathE g p) else if fitsB r p = false then (0, 24) else (costK g r p p.rows.length, 0)
theorem pCostOf_ok {g : Gram} {r : Rules} {p : Path} (hg : g.Ok) (hp : p.rows.length ≤ 9223372036854775807) : FnOK Try.prog 49 [eGram g, eRules r, ePath p] (.tup [I (costE g r p).1, I (costE g r p).2]) [] := by
  by_cases h1 : bothE g r = 0
  case neg =>
    have e : costE g r p = (0, bothE g r) := by unfold costE; rw [if_pos h1]
    rw [e]
    refine fn_i hmix hT Try.f49 (by kernel_rfl) rfl (by kernel_rfl) ?_
    with_reducible conv => whnf
    repeat' ((first | (with_reducible refine branch_t ?_) | (with_reducible refine branch_f ?_) | (with_reducible refine branch_nt ?_) | (with_reducible refine branch_nf ?_) | (with_reducible refine branch_dec (fun _ => ?_) (fun _ => ?_)) | (with_reducible refine branch_ndec (fun _ => ?_) (fun _ => ?_)) | (with_reducible refine branch_bool (fun _ => ?_) (fun _ => ?_)) | (with_reducible refine arith_64 (by omega) ?_) | (with_reducible refine ob_i (by omega) (fun _ => ?_)) | (with_reducible refine ob_i (by unfold room; omega) (fun _ => ?_)) | (with_reducible refine ob_i (by (try simp only [toN_eq, Int.toNat_natCast] at *); (try dsimp only [toN] at *); omega) (fun _ => ?_)) | (with_reducible refine arith_64 (by (try simp only [toN_eq, Int.toNat_natCast] at *); (try dsimp only [toN] at *); omega) ?_) | (with_reducible refine ob_k rfl ?_) | ((with_reducible refine ob_k ?_ ?_); focus kernel_rfl) | (refine yield_i hmix hT rfl hL efr eps eag ebd rfl (by kernel_rfl) ?_) | (apply call_u (openRules_ok hg)) | (apply call_l (first_ok (l := [_, _]) (Nat.le_of_ble_eq_true rfl)) (.cons (vm_lit _ rfl rfl (.cons (vm_int rfl) (.cons (vm_int rfl) .nil))) .nil)) | (apply call_l (first_ok (l := [_, _, _]) (Nat.le_of_ble_eq_true rfl)) (.cons (vm_lit _ rfl rfl (.cons (vm_int rfl) (.cons (vm_int rfl) (.cons (vm_int rfl) .nil)))) .nil)) | (apply call_l (first_ok (l := [_, _, _, _]) (Nat.le_of_ble_eq_true rfl)) (.cons (vm_lit _ rfl rfl (.cons (vm_int rfl) (.cons (vm_int rfl) (.cons (vm_int rfl) (.cons (vm_int rfl) .nil))))) .nil))) <;> (try (exfalso; omega; done)) <;> (with_reducible conv => whnf))
    exact ret0 vm_p
  obtain ⟨hv, rv⟩ := both_val h1
  have O := openRules_ok (r := r) hg
  rw [h1] at O
  by_cases h2 : pathE g p = 0
  case neg =>
    have e : costE g r p = (0, pathE g p) := by unfold costE; rw [if_neg (by omega), if_pos h2]
    rw [e]
    refine fn_i hmix hT Try.f49 (by kernel_rfl) rfl (by kernel_rfl) ?_
    with_reducible conv => whnf
    repeat' ((first | (with_reducible refine branch_t ?_) | (with_reducible refine branch_f ?_) | (with_reducible refine branch_nt ?_) | (with_reducible refine branch_nf ?_) | (with_reducible refine branch_dec (fun _ => ?_) (fun _ => ?_)) | (with_reducible refine branch_ndec (fun _ => ?_) (fun _ => ?_)) | (with_reducible refine branch_bool (fun _ => ?_) (fun _ => ?_)) | (with_reducible refine arith_64 (by omega) ?_) | (with_reducible refine ob_i (by omega) (fun _ => ?_)) | (with_reducible refine ob_i (by unfold room; omega) (fun _ => ?_)) | (with_reducible refine ob_i (by (try simp only [] at *); (try dsimp only [toN] at *); omega) (fun _ => ?_)) | (with_reducible refine arith_64 (by (try simp only [] at *); (try dsimp only [toN] at *); omega) ?_) | (with_reducible refine ob_k rfl ?_) | ((with_reducible refine ob_k ?_ ?_); focus kernel_rfl) | (refine yield_i hmix hT rfl hL efr eps eag ebd rfl (by kernel_rfl) ?_) | (apply call_u O) | (apply call_u (gPathErr_ok hg hp hv)) | (apply call_l (first_ok (l := [_, _]) (Nat.le_of_ble_eq_true rfl)) (.cons (vm_lit _ rfl rfl (.cons (vm_int rfl) (.cons (vm_int rfl) .nil))) .nil)) | (apply call_l (first_ok (l := [_, _, _]) (Nat.le_of_ble_eq_true rfl)) (.cons (vm_lit _ rfl rfl (.cons (vm_int rfl) (.cons (vm_int rfl) (.cons (vm_int rfl) .nil)))) .nil)) | (apply call_l (first_ok (l := [_, _, _, _]) (Nat.le_of_ble_eq_true rfl)) (.cons (vm_lit _ rfl rfl (.cons (vm_int rfl) (.cons (vm_int rfl) (.cons (vm_int rfl) (.cons (vm_int rfl) .nil))))) .nil))) <;> (try (exfalso; omega; done)) <;> (with_reducible conv => whnf))
    exact ret0 vm_p
  have pv := path_val h2
  have G := gPathErr_ok hg hp hv
  rw [h2] at G
  have F := mFits_ok hv rv pv
  cases hf : fitsB r p with
  | false =>
    have e : costE g r p = (0, 24) := by unfold costE; rw [if_neg (by omega), if_neg (by omega), if_pos hf]
    rw [e]
    rw [hf] at F
    refine fn_i hmix hT Try.f49 (by kernel_rfl) rfl (by kernel_rfl) ?_
    with_reducible conv => whnf
    repeat' ((first | (with_reducible refine branch_t ?_) | (with_reducible refine branch_f ?_) | (with_reducible refine branch_nt ?_) | (with_reducible refine branch_nf ?_) | (with_reducible refine branch_dec (fun _ => ?_) (fun _ => ?_)) | (with_reducible refine branch_ndec (fun _ => ?_) (fun _ => ?_)) | (with_reducible refine branch_bool (fun _ => ?_) (fun _ => ?_)) | (with_reducible refine arith_64 (by omega) ?_) | (with_reducible refine ob_i (by omega) (fun _ => ?_)) | (with_reducible refine ob_i (by unfold room; omega) (fun _ => ?_)) | (with_reducible refine ob_i (by (try simp only [] at *); (try dsimp only [toN] at *); omega) (fun _ => ?_)) | (with_reducible refine arith_64 (by (try simp only [] at *); (try dsimp only [toN] at *); omega) ?_) | (with_reducible refine ob_k rfl ?_) | ((with_reducible refine ob_k ?_ ?_); focus kernel_rfl) | (refine yield_i hmix hT rfl hL efr eps eag ebd rfl (by kernel_rfl) ?_) | (apply call_u O) | (apply call_u G) | (apply call_u F) | (apply call_l (first_ok (l := [_, _]) (Nat.le_of_ble_eq_true rfl)) (.cons (vm_lit _ rfl rfl (.cons (vm_int rfl) (.cons (vm_int rfl) .nil))) .nil)) | (apply call_l (first_ok (l := [_, _, _]) (Nat.le_of_ble_eq_true rfl)) (.cons (vm_lit _ rfl rfl (.cons (vm_int rfl) (.cons (vm_int rfl) (.cons (vm_int rfl) .nil)))) .nil)) | (apply call_l (first_ok (l := [_, _, _, _]) (Nat.le_of_ble_eq_true rfl)) (.cons (vm_lit _ rfl rfl (.cons (vm_int rfl) (.cons (vm_int rfl) (.cons (vm_int rfl) (.cons (vm_int rfl) .nil))))) .nil))) <;> (try (exfalso; omega; done)) <;> (with_reducible conv => whnf))
    exact ret0 vm_p
  | true =>
    have e : costE g r p = (costK g r p p.rows.length, 0) := by unfold costE; rw [if_neg (by omega), if_neg (by omega), if_neg (by rw [hf]; simp)]
    rw [e]
    rw [hf] at F
    refine fn_i hmix hT Try.f49 (by kernel_rfl) rfl (by kernel_rfl) ?_
    with_reducible conv => whnf
    repeat' ((first | (with_reducible refine branch_t ?_) | (with_reducible refine branch_f ?_) | (with_reducible refine branch_nt ?_) | (with_reducible refine branch_nf ?_) | (with_reducible refine branch_dec (fun _ => ?_) (fun _ => ?_)) | (with_reducible refine branch_ndec (fun _ => ?_) (fun _ => ?_)) | (with_reducible refine branch_bool (fun _ => ?_) (fun _ => ?_)) | (with_reducible refine arith_64 (by omega) ?_) | (with_reducible refine ob_i (by omega) (fun _ => ?_)) | (with_reducible refine ob_i (by unfold room; omega) (fun _ => ?_)) | (with_reducible refine ob_i (by (try simp only [] at *); (try dsimp only [toN] at *); omega) (fun _ => ?_)) | (with_reducible refine arith_64 (by (try simp only [] at *); (try dsimp only [toN] at *); omega) ?_) | (with_reducible refine ob_k rfl ?_) | ((with_reducible refine ob_k ?_ ?_); focus kernel_rfl) | (refine yield_i hmix hT rfl hL efr eps eag ebd rfl (by kernel_rfl) ?_) | (apply call_u O) | (apply call_u G) | (apply call_u F) | (apply call_u (mCost_ok hv rv (fit_of pv hf))) | (apply call_l (first_ok (l := [_, _]) (Nat.le_of_ble_eq_true rfl)) (.cons (vm_lit _ rfl rfl (.cons (vm_int rfl) (.cons (vm_int rfl) .nil))) .nil)) | (apply call_l (first_ok (l := [_, _, _]) (Nat.le_of_ble_eq_true rfl)) (.cons (vm_lit _ rfl rfl (.cons (vm_int rfl) (.cons (vm_int rfl) (.cons (vm_int rfl) .nil)))) .nil)) | (apply call_l (first_ok (l := [_, _, _, _]) (Nat.le_of_ble_eq_true rfl)) (.cons (vm_lit _ rfl rfl (.cons (vm_int rfl) (.cons (vm_int rfl) (.cons (vm_int rfl) (.cons (vm_int rfl) .nil))))) .nil))) <;> (try (exfalso; omega; done)) <;> (with_reducible conv => whnf))
    exact ret0 vm_p
end Go.Proofs.Ytmiphilcplojnaa
