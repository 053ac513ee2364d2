/-
  Chapter 3: the cheapest trace (the document's, by contract).
  Conditions: none.
-/
import Derived.Test.Ytmiphilcplojnaa3K
namespace Go.Proofs.Ytmiphilcplojnaa
open Go.RowKit Fx
noncomputable def pick (f : Nat → Int) (P : Nat → Prop) (n : Nat) : Nat := (bl f P n).1.toNat
/-- The row of the i-th column of the cheapest trace. -/
noncomputable def ch (g : Gram) (r : Rules) : Nat → Nat
  | 0 => pick (fun w => avD g r (nC r - 1) w) (fun _ => True) (rowsN g)
  | i + 1 => pick (wayF g r (nC r - 1 - (i + 1)) (ch g r i)) (fun s => dist (ch g r i) s ≤ r.limit) (rowsN g)
noncomputable def cf (g : Gram) (r : Rules) : Nat → Nat → Int
  | 0, w => avD g r (nC r - 1) w
  | i + 1, w => wayF g r (nC r - 1 - (i + 1)) (ch g r i) w
def cp (g : Gram) (r : Rules) : Nat → Nat → Prop
  | 0, _ => True
  | i + 1, s => dist (ch g r i) s ≤ r.limit
theorem ch_eq (g : Gram) (r : Rules) (i : Nat) : ch g r i = pick (cf g r i) (cp g r i) (rowsN g) := by cases i <;> rfl
theorem ch_spec {g : Gram} {r : Rules} (hv : g.Val) (rv : r.Val g) : ∀ i, bl (cf g r i) (cp g r i) (rowsN g) = ((ch g r i : Int), cf g r i (ch g r i)) ∧ Fst (cf g r i) (cp g r i) (rowsN g) (ch g r i)
  | 0 => by
    rcases bl_spec (cf g r 0) (cp g r 0) (rowsN g) with ⟨h, _⟩ | ⟨b, h1, h2⟩
    · exact (h 0 hv.r0 trivial).elim
    · have e : ch g r 0 = b := by rw [ch_eq]; unfold pick; rw [h1]; rfl
      rw [e]; exact ⟨h1, h2⟩
  | i + 1 => by
    have ih := (ch_spec hv rv i).2.lt
    obtain ⟨b, h1, h2, h3⟩ := bl_best rv (d := nC r - 1 - (i + 1)) ih
    have e : ch g r (i + 1) = b := by rw [ch_eq]; show (bl (wayF g r (nC r - 1 - (i + 1)) (ch g r i)) (fun s => dist (ch g r i) s ≤ r.limit) (rowsN g)).1.toNat = b; rw [h1]; rfl
    rw [e]
    exact ⟨by show bl (wayF g r (nC r - 1 - (i + 1)) (ch g r i)) (fun s => dist (ch g r i) s ≤ r.limit) (rowsN g) = ((b : Int), wayF g r (nC r - 1 - (i + 1)) (ch g r i) b); rw [h1, h3], h2⟩
theorem ch_lt {g : Gram} {r : Rules} (hv : g.Val) (rv : r.Val g) (i : Nat) : ch g r i < rowsN g := (ch_spec hv rv i).2.lt
theorem ch_best {g : Gram} {r : Rules} (hv : g.Val) (rv : r.Val g) (i : Nat) : wayF g r (nC r - 1 - (i + 1)) (ch g r i) (ch g r (i + 1)) = bestOf g r (nC r - 1 - (i + 1)) (ch g r i) := by
  obtain ⟨b, h1, h2, h3⟩ := bl_best rv (d := nC r - 1 - (i + 1)) (ch_lt hv rv i)
  have := (ch_spec hv rv (i + 1)).2.uniq h2
  rw [this]; exact h3
noncomputable def chV (g : Gram) (r : Rules) (q : Nat) : V := I (ch g r q)
instance chV_pure (g : Gram) (r : Rules) (q : Nat) : IsPure (chV g r q) := inferInstanceAs (IsPure (I _))
noncomputable def bestP (g : Gram) (r : Rules) : Path := ⟨r.fr, (List.range (nC r)).map fun q => (ch g r q : Int)⟩
noncomputable def leastC (g : Gram) (r : Rules) : Int := avD g r (nC r - 1) (ch g r 0)
theorem bestP_at {g : Gram} {r : Rules} {i : Nat} (h : i < nC r) : (bestP g r).rows.getD i 0 = ch g r i := by
  unfold bestP
  rw [List.getD_eq_getElem?_getD, List.getElem?_map, List.getElem?_range h]; rfl
theorem bestP_len {g : Gram} {r : Rules} : (bestP g r).rows.length = nC r := by unfold bestP; simp
theorem cf_bd {g : Gram} {r : Rules} (hv : g.Val) (rv : r.Val g) {i w : Nat} (hi : i < nC r) (hw : w < rowsN g) : 0 ≤ cf g r i w ∧ cf g r i w ≤ 1000000 := by
  have h1 := rv.fr
  have h2 := rv.le
  have h3 := rv.to
  have h4 := hv.c1
  have en : (nC r : Int) = r.to - r.fr + 1 := by unfold nC; omega
  cases i with
  | zero => have := avD_bd hv rv (nC r - 1) w (by omega) hw; show 0 ≤ avD g r (nC r - 1) w ∧ avD g r (nC r - 1) w ≤ 1000000; omega
  | succ i => have := wayF_bd hv rv (d := nC r - 1 - (i + 1)) (by omega) (ch_lt hv rv i) hw; show 0 ≤ wayF g r (nC r - 1 - (i + 1)) (ch g r i) w ∧ wayF g r (nC r - 1 - (i + 1)) (ch g r i) w ≤ 1000000; omega
set_option maxHeartbeats 4000000 in
set_option maxRecDepth 100000 in
theorem rCheapest_ok {g : Gram} {r : Rules} (hv : g.Val) (rv : r.Val g) : FnOK Try.prog 54 [eGram g, eRules r] (.tup [ePath (bestP g r), I (leastC g r)]) [] := by
  have h1 := rv.fr
  have h2 := rv.le
  have h3 := rv.to
  have h4 := hv.c1
  have h5 := hv.r1
  have h6 := hv.r0
  have h7 := hv.c0
  have h8 := rv.limit
  have en : (nC r : Int) = r.to - r.fr + 1 := by unfold nC; omega
  refine fn_i hmix hT Try.f54 (by kernel_rfl) rfl (by kernel_rfl) ?_
  with_reducible conv => whnf
  repeat' ((first | (with_reducible refine branch_t ?_) | (with_reducible refine branch_f ?_) | (with_reducible refine branch_nt ?_) | (with_reducible refine branch_nf ?_) | (with_reducible refine branch_dec (fun _ => ?_) (fun _ => ?_)) | (with_reducible refine branch_ndec (fun _ => ?_) (fun _ => ?_)) | (with_reducible refine branch_bool (fun _ => ?_) (fun _ => ?_)) | (with_reducible refine arith_64 (by omega) ?_) | (with_reducible refine ob_i (by omega) (fun _ => ?_)) | (with_reducible refine ob_i (by unfold room; omega) (fun _ => ?_)) | (with_reducible refine ob_i (by (try simp only [toN_eq, Int.toNat_natCast] at *); (try dsimp only [toN] at *); omega) (fun _ => ?_)) | (with_reducible refine arith_64 (by (try simp only [toN_eq, Int.toNat_natCast] at *); (try dsimp only [toN] at *); omega) ?_) | (with_reducible refine ob_k rfl ?_) | ((with_reducible refine ob_k ?_ ?_); focus kernel_rfl) | (refine yield_i hmix hT rfl hL efr eps eag ebd rfl (by kernel_rfl) ?_) | (apply call_u (rPotentials_ok hv rv)) | (apply call_l (first_ok (l := [_, _]) (Nat.le_of_ble_eq_true rfl)) (.cons (vm_lit _ rfl rfl (.cons (vm_int rfl) (.cons (vm_int rfl) .nil))) .nil)) | (apply call_l (first_ok (l := [_, _, _]) (Nat.le_of_ble_eq_true rfl)) (.cons (vm_lit _ rfl rfl (.cons (vm_int rfl) (.cons (vm_int rfl) (.cons (vm_int rfl) .nil)))) .nil)) | (apply call_l (first_ok (l := [_, _, _, _]) (Nat.le_of_ble_eq_true rfl)) (.cons (vm_lit _ rfl rfl (.cons (vm_int rfl) (.cons (vm_int rfl) (.cons (vm_int rfl) (.cons (vm_int rfl) .nil))))) .nil))) <;> (try (exfalso; omega; done)) <;> (with_reducible conv => whnf))
  refine loop_i hmix hT (fun i : Nat => ([(2, .ptr 0 0), (3, .ptr 1 0), (4, .ptr 2 0), (6, eAv g r), (7, .ptr 3 0), (8, I (if i = 0 then 0 else leastC g r)), (9, I (r.fr + i))], ⟨5, [(4, .row 1 i (chV g r) 3), (3, .cells [I r.fr, .own 4 1 0 i] 27), (2, .cells [I 0, .sc (.slice none 0 0)] 27), (1, .cells [I r.tag, I r.miss, I r.jump, I r.limit, I r.fr, I r.to] 69), (0, .cells [I g.first, I g.step, eCols g.cols] 24)]⟩)) (fun i => i ≤ nC r) (fun i => nC r - i) 0 (by omega) ?_ ?_
  · exact ⟨[(4, none)], rfl, ⟨⟨_, rfl, vm_ptr rfl rfl rfl⟩, ⟨_, rfl, vm_ptr rfl rfl rfl⟩, ⟨_, rfl, vm_ptr rfl rfl rfl⟩, ⟨_, rfl, vm_p⟩, ⟨_, rfl, vm_ptr rfl rfl rfl⟩, ⟨_, rfl, vm_p⟩, ⟨_, rfl, vm_int (by omega)⟩, trivial⟩, ⟨⟨_, _, _, rfl⟩, ⟨_, rfl, sbm_cells (.cons vm_p (.cons (vm_nil rfl) .nil))⟩, ⟨_, rfl, sbm_cells vmL_p⟩, ⟨_, rfl, sbm_cells vmL_p⟩, ⟨_, rfl, sbm_cells vmL_p⟩, trivial⟩⟩
  intro i hi
  with_reducible conv => whnf
  repeat' ((first | (with_reducible refine branch_t ?_) | (with_reducible refine branch_f ?_) | (with_reducible refine branch_nt ?_) | (with_reducible refine branch_nf ?_) | (with_reducible refine branch_dec (fun _ => ?_) (fun _ => ?_)) | (with_reducible refine branch_ndec (fun _ => ?_) (fun _ => ?_)) | (with_reducible refine branch_bool (fun _ => ?_) (fun _ => ?_)) | (with_reducible refine arith_64 (by omega) ?_) | (with_reducible refine ob_i (by omega) (fun _ => ?_)) | (with_reducible refine ob_i (by unfold room; omega) (fun _ => ?_)) | (with_reducible refine ob_i (by (try simp only [toN_eq, Int.toNat_natCast] at *); (try dsimp only [toN] at *); omega) (fun _ => ?_)) | (with_reducible refine arith_64 (by (try simp only [toN_eq, Int.toNat_natCast] at *); (try dsimp only [toN] at *); omega) ?_) | (with_reducible refine ob_k rfl ?_) | ((with_reducible refine ob_k ?_ ?_); focus kernel_rfl) | (refine yield_i hmix hT rfl hL efr eps eag ebd rfl (by kernel_rfl) ?_)  | (apply call_l (first_ok (l := [_, _]) (Nat.le_of_ble_eq_true rfl)) (.cons (vm_lit _ rfl rfl (.cons (vm_int rfl) (.cons (vm_int rfl) .nil))) .nil)) | (apply call_l (first_ok (l := [_, _, _]) (Nat.le_of_ble_eq_true rfl)) (.cons (vm_lit _ rfl rfl (.cons (vm_int rfl) (.cons (vm_int rfl) (.cons (vm_int rfl) .nil)))) .nil)) | (apply call_l (first_ok (l := [_, _, _, _]) (Nat.le_of_ble_eq_true rfl)) (.cons (vm_lit _ rfl rfl (.cons (vm_int rfl) (.cons (vm_int rfl) (.cons (vm_int rfl) (.cons (vm_int rfl) .nil))))) .nil))) <;> (try (exfalso; omega; done)) <;> (with_reducible conv => whnf))
  · refine loop_i hmix hT (fun j : Nat => ([(2, .ptr 0 0), (3, .ptr 1 0), (4, .ptr 2 0), (6, eAv g r), (7, .ptr 3 0), (8, I (if i = 0 then 0 else leastC g r)), (9, I (r.fr + i)), (10, I (bl (cf g r i) (cp g r i) j).1), (11, I (bl (cf g r i) (cp g r i) j).2), (12, I j)], ⟨5, [(4, .row 1 i (chV g r) 3), (3, .cells [I r.fr, .own 4 1 0 i] 27), (2, .cells [I 0, .sc (.slice none 0 0)] 27), (1, .cells [I r.tag, I r.miss, I r.jump, I r.limit, I r.fr, I r.to] 69), (0, .cells [I g.first, I g.step, eCols g.cols] 24)]⟩)) (fun j => j ≤ rowsN g) (fun j => rowsN g - j) 0 (by omega) ?_ ?_
    · exact ⟨[], rfl, ⟨⟨_, rfl, vm_ptr rfl rfl rfl⟩, ⟨_, rfl, vm_ptr rfl rfl rfl⟩, ⟨_, rfl, vm_ptr rfl rfl rfl⟩, ⟨_, rfl, vm_p⟩, ⟨_, rfl, vm_ptr rfl rfl rfl⟩, ⟨_, rfl, vm_p⟩, ⟨_, rfl, vm_p⟩, ⟨_, rfl, vm_p⟩, ⟨_, rfl, vm_p⟩, ⟨_, rfl, vm_p⟩, trivial⟩, ⟨⟨_, rfl, sbm_row rfl fun _ _ => vm_p⟩, ⟨_, rfl, sbm_cells (.cons vm_p (.cons (vm_own rfl rfl rfl rfl) .nil))⟩, ⟨_, rfl, sbm_cells vmL_p⟩, ⟨_, rfl, sbm_cells vmL_p⟩, ⟨_, rfl, sbm_cells vmL_p⟩, trivial⟩⟩
    intro j hj
    have tq : avD g r (nC r - 1 - toN (r.fr + (i : Int) - r.fr)) (toN (j : Int)) = avD g r (nC r - 1 - i) j := by
      rw [toN_eq, toN_eq, show (r.fr + (i : Int) - r.fr).toNat = i by omega]; rfl
    have ad := fun h => avD_bd hv rv (nC r - 1 - i) j (by omega) h
    have pe : 0 < i → chV g r (0 + toN (r.fr + (i : Int) - r.fr - 1)) = I (ch g r (i - 1)) := fun h => by
      rw [toN_eq, show 0 + (r.fr + (i : Int) - r.fr - 1).toNat = i - 1 by omega]; rfl
    have pl := ch_lt hv rv (i - 1)
    have st : j < 12 → 0 ≤ r.jump * max ((j : Int) - ch g r (i - 1)) (-((j : Int) - ch g r (i - 1))) ∧ r.jump * max ((j : Int) - ch g r (i - 1)) (-((j : Int) - ch g r (i - 1))) ≤ 11000 := fun h => stepC_le rv (a := ch g r (i - 1)) (b := j) (by omega) h
    have f0 : i = 0 → cf g r i j = avD g r (nC r - 1 - i) j := fun e => by subst e; rfl
    have f1 : 0 < i → cf g r i j = r.jump * max ((j : Int) - ch g r (i - 1)) (-((j : Int) - ch g r (i - 1))) + avD g r (nC r - 1 - i) j := fun e => by
      cases i with
      | zero => omega
      | succ i => rfl
    have p0 : i = 0 → cp g r i j := fun e => by subst e; trivial
    have p1 : 0 < i → (cp g r i j ↔ max ((j : Int) - ch g r (i - 1)) (-((j : Int) - ch g r (i - 1))) ≤ r.limit) := fun e => by
      cases i with
      | zero => omega
      | succ i => show dist (ch g r i) j ≤ r.limit ↔ _; rw [dist_sym]; rfl
    have y1 : cp g r i j → ((bl (cf g r i) (cp g r i) j).1 < 0 ∨ cf g r i j < (bl (cf g r i) (cp g r i) j).2) → (bl (cf g r i) (cp g r i) (j + 1)).1 = j ∧ (bl (cf g r i) (cp g r i) (j + 1)).2 = cf g r i j := fun a b => by rw [bl_yes a b]; exact ⟨rfl, rfl⟩
    have n1 : ¬ (cp g r i j ∧ ((bl (cf g r i) (cp g r i) j).1 < 0 ∨ cf g r i j < (bl (cf g r i) (cp g r i) j).2)) → (bl (cf g r i) (cp g r i) (j + 1)).1 = (bl (cf g r i) (cp g r i) j).1 ∧ (bl (cf g r i) (cp g r i) (j + 1)).2 = (bl (cf g r i) (cp g r i) j).2 := fun a => by rw [bl_no a]; exact ⟨rfl, rfl⟩
    have bd := bl_lt (cf g r i) (cp g r i) j
    by_cases i0 : i = 0
    · have f0 := f0 i0
      have y1 := y1 (p0 i0)
      have n1 := fun (a : ¬ ((bl (cf g r i) (cp g r i) j).1 < 0 ∨ cf g r i j < (bl (cf g r i) (cp g r i) j).2)) => n1 (fun h => a h.2)
      with_reducible conv => whnf
      repeat' ((first | (with_reducible refine branch_t ?_) | (with_reducible refine branch_f ?_) | (with_reducible refine branch_nt ?_) | (with_reducible refine branch_nf ?_) | (with_reducible refine branch_dec (fun _ => ?_) (fun _ => ?_)) | (with_reducible refine branch_ndec (fun _ => ?_) (fun _ => ?_)) | (with_reducible refine branch_bool (fun _ => ?_) (fun _ => ?_)) | (with_reducible refine arith_64 (by omega) ?_) | (with_reducible refine ob_i (by omega) (fun _ => ?_)) | (with_reducible refine ob_i (by unfold room; omega) (fun _ => ?_)) | (with_reducible refine ob_i (by (try simp only [toN_eq] at *); (try dsimp only [toN] at *); omega) (fun _ => ?_)) | (with_reducible refine arith_64 (by (try simp only [toN_eq] at *); (try dsimp only [toN] at *); omega) ?_) | (with_reducible refine ob_k rfl ?_) | ((with_reducible refine ob_k ?_ ?_); focus kernel_rfl) | (refine yield_i hmix hT rfl hL efr eps eag ebd rfl (by kernel_rfl) ?_) | (apply call_u (rRows_ok h7)) | (apply call_l (first_ok (l := [_, _]) (Nat.le_of_ble_eq_true rfl)) (.cons (vm_lit _ rfl rfl (.cons (vm_int rfl) (.cons (vm_int rfl) .nil))) .nil)) | (apply call_l (first_ok (l := [_, _, _]) (Nat.le_of_ble_eq_true rfl)) (.cons (vm_lit _ rfl rfl (.cons (vm_int rfl) (.cons (vm_int rfl) (.cons (vm_int rfl) .nil)))) .nil)) | (apply call_l (first_ok (l := [_, _, _, _]) (Nat.le_of_ble_eq_true rfl)) (.cons (vm_lit _ rfl rfl (.cons (vm_int rfl) (.cons (vm_int rfl) (.cons (vm_int rfl) (.cons (vm_int rfl) .nil))))) .nil))) <;> (try (exfalso; omega; done)) <;> (with_reducible conv => whnf))
      any_goals (refine ⟨j + 1, by omega, by omega, ?_⟩; exact ⟨[], rfl, ⟨⟨_, rfl, vm_ptr rfl rfl rfl⟩, ⟨_, rfl, vm_ptr rfl rfl rfl⟩, ⟨_, rfl, vm_ptr rfl rfl rfl⟩, ⟨_, rfl, vm_p⟩, ⟨_, rfl, vm_ptr rfl rfl rfl⟩, ⟨_, rfl, vm_p⟩, ⟨_, rfl, vm_p⟩, ⟨_, rfl, vm_int (by omega)⟩, ⟨_, rfl, vm_int (by omega)⟩, ⟨_, rfl, vm_int (by omega)⟩, trivial⟩, ⟨⟨_, rfl, sbm_row rfl fun _ _ => vm_p⟩, ⟨_, rfl, sbm_cells (.cons vm_p (.cons (vm_own rfl rfl rfl rfl) .nil))⟩, ⟨_, rfl, sbm_cells vmL_p⟩, ⟨_, rfl, sbm_cells vmL_p⟩, ⟨_, rfl, sbm_cells vmL_p⟩, trivial⟩⟩)
      · obtain rfl : j = rowsN g := by omega
        have e1 := congrArg Prod.fst (ch_spec hv rv i).1
        have e2 := congrArg Prod.snd (ch_spec hv rv i).1
        refine ⟨i + 1, by omega, by omega, ?_⟩
        exact ⟨[(4, some 6)], rfl, ⟨⟨_, rfl, vm_ptr rfl rfl rfl⟩, ⟨_, rfl, vm_ptr rfl rfl rfl⟩, ⟨_, rfl, vm_ptr rfl rfl rfl⟩, ⟨_, rfl, vm_p⟩, ⟨_, rfl, vm_ptr rfl rfl rfl⟩, ⟨_, rfl, vm_int (by rw [if_neg (by omega)]; refine e2.trans ?_; subst i0; rfl)⟩, ⟨_, rfl, vm_int (by omega)⟩, trivial⟩, ⟨⟨_, rfl, sbm_row rfl fun q hq => vm_snoc (e' := chV g r) hq (fun _ _ => vm_p) (show vm _ _ (I (ch g r i)) from vm_int e1)⟩, ⟨_, rfl, sbm_cells (.cons vm_p (.cons (vm_own rfl rfl rfl rfl) .nil))⟩, ⟨_, rfl, sbm_cells vmL_p⟩, ⟨_, rfl, sbm_cells vmL_p⟩, ⟨_, rfl, sbm_cells vmL_p⟩, trivial⟩⟩
    · have i0 : 0 < i := by omega
      have f1 := f1 i0
      have p1 := p1 i0
      have pe := pe i0
      by_cases hp : cp g r i j
      · have p1 := p1.1 hp
        have y1 := y1 hp
        have n1 := fun (a : ¬ ((bl (cf g r i) (cp g r i) j).1 < 0 ∨ cf g r i j < (bl (cf g r i) (cp g r i) j).2)) => n1 (fun h => a h.2)
        with_reducible conv => whnf
        repeat' ((first | (with_reducible refine branch_t ?_) | (with_reducible refine branch_f ?_) | (with_reducible refine branch_nt ?_) | (with_reducible refine branch_nf ?_) | (with_reducible refine branch_dec (fun _ => ?_) (fun _ => ?_)) | (with_reducible refine branch_ndec (fun _ => ?_) (fun _ => ?_)) | (with_reducible refine branch_bool (fun _ => ?_) (fun _ => ?_)) | (with_reducible refine arith_64 (by omega) ?_) | (with_reducible refine ob_i (by omega) (fun _ => ?_)) | (with_reducible refine ob_i (by unfold room; omega) (fun _ => ?_)) | (with_reducible refine ob_i (by (try simp only [toN_eq] at *); (try dsimp only [toN] at *); omega) (fun _ => ?_)) | (with_reducible refine arith_64 (by (try simp only [toN_eq] at *); (try dsimp only [toN] at *); omega) ?_) | (with_reducible refine ob_k rfl ?_) | ((with_reducible refine ob_k ?_ ?_); focus kernel_rfl) | (refine yield_i hmix hT rfl hL efr eps eag ebd rfl (by kernel_rfl) ?_) | (apply call_u (rRows_ok h7)) | (apply call_u (bSize_ok (by omega))) | (with_reducible refine elemK_of pe ?_) | (apply call_l (first_ok (l := [_, _]) (Nat.le_of_ble_eq_true rfl)) (.cons (vm_lit _ rfl rfl (.cons (vm_int rfl) (.cons (vm_int rfl) .nil))) .nil)) | (apply call_l (first_ok (l := [_, _, _]) (Nat.le_of_ble_eq_true rfl)) (.cons (vm_lit _ rfl rfl (.cons (vm_int rfl) (.cons (vm_int rfl) (.cons (vm_int rfl) .nil)))) .nil)) | (apply call_l (first_ok (l := [_, _, _, _]) (Nat.le_of_ble_eq_true rfl)) (.cons (vm_lit _ rfl rfl (.cons (vm_int rfl) (.cons (vm_int rfl) (.cons (vm_int rfl) (.cons (vm_int rfl) .nil))))) .nil))) <;> (try (exfalso; omega; done)) <;> (with_reducible conv => whnf))
        any_goals (refine ⟨j + 1, by omega, by omega, ?_⟩; exact ⟨[], rfl, ⟨⟨_, rfl, vm_ptr rfl rfl rfl⟩, ⟨_, rfl, vm_ptr rfl rfl rfl⟩, ⟨_, rfl, vm_ptr rfl rfl rfl⟩, ⟨_, rfl, vm_p⟩, ⟨_, rfl, vm_ptr rfl rfl rfl⟩, ⟨_, rfl, vm_p⟩, ⟨_, rfl, vm_p⟩, ⟨_, rfl, vm_int (by omega)⟩, ⟨_, rfl, vm_int (by omega)⟩, ⟨_, rfl, vm_int (by omega)⟩, trivial⟩, ⟨⟨_, rfl, sbm_row rfl fun _ _ => vm_p⟩, ⟨_, rfl, sbm_cells (.cons vm_p (.cons (vm_own rfl rfl rfl rfl) .nil))⟩, ⟨_, rfl, sbm_cells vmL_p⟩, ⟨_, rfl, sbm_cells vmL_p⟩, ⟨_, rfl, sbm_cells vmL_p⟩, trivial⟩⟩)
        · obtain rfl : j = rowsN g := by omega
          have e1 := congrArg Prod.fst (ch_spec hv rv i).1
          have e2 := congrArg Prod.snd (ch_spec hv rv i).1
          refine ⟨i + 1, by omega, by omega, ?_⟩
          exact ⟨[(4, some 6)], rfl, ⟨⟨_, rfl, vm_ptr rfl rfl rfl⟩, ⟨_, rfl, vm_ptr rfl rfl rfl⟩, ⟨_, rfl, vm_ptr rfl rfl rfl⟩, ⟨_, rfl, vm_p⟩, ⟨_, rfl, vm_ptr rfl rfl rfl⟩, ⟨_, rfl, vm_int (by rw [if_neg (by omega), if_neg (by omega)])⟩, ⟨_, rfl, vm_int (by omega)⟩, trivial⟩, ⟨⟨_, rfl, sbm_row rfl fun q hq => vm_snoc (e' := chV g r) hq (fun _ _ => vm_p) (show vm _ _ (I (ch g r i)) from vm_int e1)⟩, ⟨_, rfl, sbm_cells (.cons vm_p (.cons (vm_own rfl rfl rfl rfl) .nil))⟩, ⟨_, rfl, sbm_cells vmL_p⟩, ⟨_, rfl, sbm_cells vmL_p⟩, ⟨_, rfl, sbm_cells vmL_p⟩, trivial⟩⟩
      · have p1 : ¬ _ := fun h => hp (p1.2 h)
        have n1 := n1 (fun h => hp h.1)
        with_reducible conv => whnf
        repeat' ((first | (with_reducible refine branch_t ?_) | (with_reducible refine branch_f ?_) | (with_reducible refine branch_nt ?_) | (with_reducible refine branch_nf ?_) | (with_reducible refine branch_dec (fun _ => ?_) (fun _ => ?_)) | (with_reducible refine branch_ndec (fun _ => ?_) (fun _ => ?_)) | (with_reducible refine branch_bool (fun _ => ?_) (fun _ => ?_)) | (with_reducible refine arith_64 (by omega) ?_) | (with_reducible refine ob_i (by omega) (fun _ => ?_)) | (with_reducible refine ob_i (by unfold room; omega) (fun _ => ?_)) | (with_reducible refine ob_i (by (try simp only [toN_eq] at *); (try dsimp only [toN] at *); omega) (fun _ => ?_)) | (with_reducible refine arith_64 (by (try simp only [toN_eq] at *); (try dsimp only [toN] at *); omega) ?_) | (with_reducible refine ob_k rfl ?_) | ((with_reducible refine ob_k ?_ ?_); focus kernel_rfl) | (refine yield_i hmix hT rfl hL efr eps eag ebd rfl (by kernel_rfl) ?_) | (apply call_u (rRows_ok h7)) | (apply call_u (bSize_ok (by omega))) | (with_reducible refine elemK_of pe ?_) | (apply call_l (first_ok (l := [_, _]) (Nat.le_of_ble_eq_true rfl)) (.cons (vm_lit _ rfl rfl (.cons (vm_int rfl) (.cons (vm_int rfl) .nil))) .nil)) | (apply call_l (first_ok (l := [_, _, _]) (Nat.le_of_ble_eq_true rfl)) (.cons (vm_lit _ rfl rfl (.cons (vm_int rfl) (.cons (vm_int rfl) (.cons (vm_int rfl) .nil)))) .nil)) | (apply call_l (first_ok (l := [_, _, _, _]) (Nat.le_of_ble_eq_true rfl)) (.cons (vm_lit _ rfl rfl (.cons (vm_int rfl) (.cons (vm_int rfl) (.cons (vm_int rfl) (.cons (vm_int rfl) .nil))))) .nil))) <;> (try (exfalso; omega; done)) <;> (with_reducible conv => whnf))
        any_goals (refine ⟨j + 1, by omega, by omega, ?_⟩; exact ⟨[], rfl, ⟨⟨_, rfl, vm_ptr rfl rfl rfl⟩, ⟨_, rfl, vm_ptr rfl rfl rfl⟩, ⟨_, rfl, vm_ptr rfl rfl rfl⟩, ⟨_, rfl, vm_p⟩, ⟨_, rfl, vm_ptr rfl rfl rfl⟩, ⟨_, rfl, vm_p⟩, ⟨_, rfl, vm_p⟩, ⟨_, rfl, vm_int (by omega)⟩, ⟨_, rfl, vm_int (by omega)⟩, ⟨_, rfl, vm_int (by omega)⟩, trivial⟩, ⟨⟨_, rfl, sbm_row rfl fun _ _ => vm_p⟩, ⟨_, rfl, sbm_cells (.cons vm_p (.cons (vm_own rfl rfl rfl rfl) .nil))⟩, ⟨_, rfl, sbm_cells vmL_p⟩, ⟨_, rfl, sbm_cells vmL_p⟩, ⟨_, rfl, sbm_cells vmL_p⟩, trivial⟩⟩)
        · obtain rfl : j = rowsN g := by omega
          have e1 := congrArg Prod.fst (ch_spec hv rv i).1
          have e2 := congrArg Prod.snd (ch_spec hv rv i).1
          refine ⟨i + 1, by omega, by omega, ?_⟩
          exact ⟨[(4, some 6)], rfl, ⟨⟨_, rfl, vm_ptr rfl rfl rfl⟩, ⟨_, rfl, vm_ptr rfl rfl rfl⟩, ⟨_, rfl, vm_ptr rfl rfl rfl⟩, ⟨_, rfl, vm_p⟩, ⟨_, rfl, vm_ptr rfl rfl rfl⟩, ⟨_, rfl, vm_int (by rw [if_neg (by omega), if_neg (by omega)])⟩, ⟨_, rfl, vm_int (by omega)⟩, trivial⟩, ⟨⟨_, rfl, sbm_row rfl fun q hq => vm_snoc (e' := chV g r) hq (fun _ _ => vm_p) (show vm _ _ (I (ch g r i)) from vm_int e1)⟩, ⟨_, rfl, sbm_cells (.cons vm_p (.cons (vm_own rfl rfl rfl rfl) .nil))⟩, ⟨_, rfl, sbm_cells vmL_p⟩, ⟨_, rfl, sbm_cells vmL_p⟩, ⟨_, rfl, sbm_cells vmL_p⟩, trivial⟩⟩
  · obtain rfl : i = nC r := by omega
    refine ret0 (vm_tup (.cons (vm_agg (.cons vm_p (.cons (vm_fr rfl rfl bestP_len.symm (Nat.le_refl _) fun q hq => ?_) .nil))) (.cons (vm_int (if_neg (by omega))) .nil)))
    rw [bestP_at (by rw [← bestP_len (g := g)]; exact hq)]
    exact vm_p
end Go.Proofs.Ytmiphilcplojnaa
