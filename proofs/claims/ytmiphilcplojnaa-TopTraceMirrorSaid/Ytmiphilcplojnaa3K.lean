/-
  Chapter 3: the least costs and the cheapest trace (the document's, by contract).
  Conditions: none.
-/
import Derived.Test.Ytmiphilcplojnaa3J
namespace Go.Proofs.Ytmiphilcplojnaa
open Go.RowKit Fx
/-! ### The first least -/
open Classical in
noncomputable def bl (f : Nat → Int) (P : Nat → Prop) : Nat → Int × Int
  | 0 => (-1, 0)
  | j + 1 => if P j ∧ ((bl f P j).1 < 0 ∨ f j < (bl f P j).2) then ((j : Int), f j) else bl f P j
theorem bl_yes {f : Nat → Int} {P : Nat → Prop} {j : Nat} (h : P j) (h2 : (bl f P j).1 < 0 ∨ f j < (bl f P j).2) : bl f P (j + 1) = ((j : Int), f j) := if_pos ⟨h, h2⟩
theorem bl_no {f : Nat → Int} {P : Nat → Prop} {j : Nat} (h : ¬ (P j ∧ ((bl f P j).1 < 0 ∨ f j < (bl f P j).2))) : bl f P (j + 1) = bl f P j := if_neg h
/-- b is the first of those below j with the least value. -/
structure Fst (f : Nat → Int) (P : Nat → Prop) (j b : Nat) : Prop where
  lt : b < j
  p : P b
  least : ∀ s, s < j → P s → f b ≤ f s
  first : ∀ s, s < b → P s → f b < f s
theorem Fst.uniq {f : Nat → Int} {P : Nat → Prop} {j b c : Nat} (h : Fst f P j b) (k : Fst f P j c) : b = c := by
  rcases Nat.lt_trichotomy b c with e | e | e
  · have := k.first b e h.p; have := h.least c k.lt k.p; omega
  · exact e
  · have := h.first c e k.p; have := k.least b h.lt h.p; omega
theorem bl_spec (f : Nat → Int) (P : Nat → Prop) : ∀ j, ((∀ s, s < j → ¬ P s) ∧ bl f P j = (-1, 0)) ∨ ∃ b : Nat, bl f P j = ((b : Int), f b) ∧ Fst f P j b
  | 0 => .inl ⟨fun s h => by omega, rfl⟩
  | j + 1 => by
    rcases bl_spec f P j with ⟨h1, h2⟩ | ⟨b, h1, h2⟩
    · by_cases hp : P j
      · refine .inr ⟨j, bl_yes hp (.inl (by rw [h2]; decide)), by omega, hp, fun s hs ps => ?_, fun s hs ps => (h1 s hs ps).elim⟩
        by_cases e : s = j
        · subst e; exact Int.le_refl _
        · exact (h1 s (by omega) ps).elim
      · refine .inl ⟨fun s hs ps => ?_, by rw [bl_no (fun h => hp h.1)]; exact h2⟩
        by_cases e : s = j
        · subst e; exact hp ps
        · exact h1 s (by omega) ps
    · by_cases hp : P j ∧ f j < f b
      · refine .inr ⟨j, bl_yes hp.1 (.inr (by rw [h1]; exact hp.2)), by omega, hp.1, fun s hs ps => ?_, fun s hs ps => ?_⟩
        · by_cases e : s = j
          · subst e; exact Int.le_refl _
          · have := h2.least s (by omega) ps; have := hp.2; omega
        · have := h2.least s hs ps; have := hp.2; omega
      · refine .inr ⟨b, ?_, by have := h2.lt; omega, h2.p, fun s hs ps => ?_, h2.first⟩
        · rw [bl_no ?_]
          · exact h1
          · rw [h1]
            rintro ⟨a1, a2 | a2⟩
            · change (b : Int) < 0 at a2; omega
            · exact hp ⟨a1, a2⟩
        · by_cases e : s = j
          · subst e
            by_cases e2 : f s < f b
            · exact (hp ⟨ps, e2⟩).elim
            · omega
          · exact h2.least s (by omega) ps
open Classical in
noncomputable def bv (f : Nat → Int) (P : Nat → Prop) : Nat → Int
  | 0 => -1
  | j + 1 => if P j ∧ (bv f P j < 0 ∨ f j < bv f P j) then f j else bv f P j
theorem bv_yes {f : Nat → Int} {P : Nat → Prop} {j : Nat} (h : P j) (h2 : bv f P j < 0 ∨ f j < bv f P j) : bv f P (j + 1) = f j := if_pos ⟨h, h2⟩
theorem bv_no {f : Nat → Int} {P : Nat → Prop} {j : Nat} (h : ¬ (P j ∧ (bv f P j < 0 ∨ f j < bv f P j))) : bv f P (j + 1) = bv f P j := if_neg h
theorem bl_lt (f : Nat → Int) (P : Nat → Prop) (j : Nat) : (bl f P j).1 < j := by
  rcases bl_spec f P j with ⟨_, h⟩ | ⟨b, h1, h2⟩
  · rw [h]; show (-1 : Int) < _; omega
  · rw [h1]; have := h2.lt; show (b : Int) < _; omega
theorem bv_bl {f : Nat → Int} {P : Nat → Prop} {n : Nat} (hf : ∀ s, s < n → 0 ≤ f s) : ∀ j, j ≤ n → bv f P j = if (bl f P j).1 < 0 then -1 else (bl f P j).2
  | 0, _ => rfl
  | j + 1, hj => by
    have ih := bv_bl hf j (by omega) (P := P)
    have hc : (bv f P j < 0 ∨ f j < bv f P j) ↔ ((bl f P j).1 < 0 ∨ f j < (bl f P j).2) := by
      rcases bl_spec f P j with ⟨h1, h2⟩ | ⟨b, h1, h2⟩
      · rw [h2, if_pos (by decide)] at ih; rw [h2, ih]; constructor <;> exact fun _ => .inl (by decide)
      · have b1 := h2.lt
        have b2 := hf b (by omega)
        rw [h1, if_neg (show ¬ (b : Int) < 0 by omega)] at ih; rw [h1, ih]
        show (f b < 0 ∨ f j < f b) ↔ ((b : Int) < 0 ∨ f j < f b)
        omega
    by_cases h : P j ∧ (bv f P j < 0 ∨ f j < bv f P j)
    · rw [bv_yes h.1 h.2, bl_yes h.1 (hc.1 h.2)]
      exact (if_neg (show ¬ (j : Int) < 0 by omega)).symm
    · rw [bv_no h, bl_no (fun k => h ⟨k.1, hc.2 k.2⟩)]; exact ih
theorem dist_sym (a b : Int) : dist a b = dist b a := by unfold dist; omega
/-- Those permitted. -/
theorem perm_iff {g : Gram} {r : Rules} (rv : r.Val g) {w s : Nat} (hw : w < rowsN g) (hs : s < rowsN g) : dist w s ≤ r.limit ↔ loW r w ≤ s ∧ s ≤ hiW g r w := by
  rw [dist_sym, ← inW_iff rv hw hs]; exact Iff.rfl
/-- The least value of those permitted. -/
theorem bl_best {g : Gram} {r : Rules} (rv : r.Val g) {d w : Nat} (hw : w < rowsN g) : ∃ b : Nat, bl (wayF g r d w) (fun s => dist w s ≤ r.limit) (rowsN g) = ((b : Int), bestOf g r d w) ∧ Fst (wayF g r d w) (fun s => dist w s ≤ r.limit) (rowsN g) b ∧ wayF g r d w b = bestOf g r d w := by
  have h8 := rv.limit
  have lw := loW_le (r := r) hw
  obtain ⟨⟨s, s1, s2, s3⟩, s4⟩ := minW_spec (fun s => stepC r w s + avD g r d s) (loW r w) (hiW g r w - loW r w)
  rcases bl_spec (wayF g r d w) (fun s => dist w s ≤ r.limit) (rowsN g) with ⟨h1, _⟩ | ⟨b, h1, h2⟩
  · exact (h1 s (by omega) ((perm_iff rv hw (by omega)).2 ⟨s1, by omega⟩)).elim
  · have b1 := (perm_iff rv hw h2.lt).1 h2.p
    have b2 := h2.least s (by omega) ((perm_iff rv hw (by omega)).2 ⟨s1, by omega⟩)
    have b3 := s4 b b1.1 (by omega)
    have e : wayF g r d w b = bestOf g r d w := by
      unfold bestOf
      unfold wayF at *
      omega
    exact ⟨b, by rw [h1, e], h2, e⟩
theorem wayF_bd {g : Gram} {r : Rules} (hv : g.Val) (rv : r.Val g) {d w s : Nat} (hd : d ≤ r.to.toNat) (hw : w < rowsN g) (hs : s < rowsN g) : 0 ≤ wayF g r d w s ∧ wayF g r d w s ≤ 12000 * (d + 2 : Nat) := by
  have := hv.r1
  have h1 := stepC_le rv (a := w) (b := s) (by omega) (by omega)
  have h2 := avD_bd hv rv d s hd hs
  unfold wayF
  omega
set_option maxHeartbeats 4000000 in
set_option maxRecDepth 100000 in
theorem rPotentials_ok {g : Gram} {r : Rules} (hv : g.Val) (rv : r.Val g) : FnOK Try.prog 99 [eGram g, eRules r] (eAv g r) [] := by
  have h1 := rv.fr
  have h2 := rv.le
  have h3 := rv.to
  have h4 := hv.c1
  have h5 := hv.r1
  have h6 := hv.r0
  have h7 := hv.c0
  have h8 := rv.limit
  have en : (nC r : Int) = r.to - r.fr + 1 := by unfold nC; omega
  refine fn_i hmix hT Try.f99 (by kernel_rfl) rfl (by kernel_rfl) ?_
  with_reducible conv => whnf
  repeat' ((first | (with_reducible refine branch_t ?_) | (with_reducible refine branch_f ?_) | (with_reducible refine branch_nt ?_) | (with_reducible refine branch_nf ?_) | (with_reducible refine branch_dec (fun _ => ?_) (fun _ => ?_)) | (with_reducible refine branch_ndec (fun _ => ?_) (fun _ => ?_)) | (with_reducible refine branch_bool (fun _ => ?_) (fun _ => ?_)) | (with_reducible refine arith_64 (by omega) ?_) | (with_reducible refine ob_i (by omega) (fun _ => ?_)) | (with_reducible refine ob_i (by unfold room; omega) (fun _ => ?_)) | (with_reducible refine ob_i (by (try simp only [toN_eq, Int.toNat_natCast] at *); (try dsimp only [toN] at *); omega) (fun _ => ?_)) | (with_reducible refine arith_64 (by (try simp only [toN_eq, Int.toNat_natCast] at *); (try dsimp only [toN] at *); omega) ?_) | (with_reducible refine ob_k rfl ?_) | ((with_reducible refine ob_k ?_ ?_); focus kernel_rfl) | (refine yield_i hmix hT rfl hL efr eps eag ebd rfl (by kernel_rfl) ?_)  | (apply call_l (first_ok (l := [_, _]) (Nat.le_of_ble_eq_true rfl)) (.cons (vm_lit _ rfl rfl (.cons (vm_int rfl) (.cons (vm_int rfl) .nil))) .nil)) | (apply call_l (first_ok (l := [_, _, _]) (Nat.le_of_ble_eq_true rfl)) (.cons (vm_lit _ rfl rfl (.cons (vm_int rfl) (.cons (vm_int rfl) (.cons (vm_int rfl) .nil)))) .nil)) | (apply call_l (first_ok (l := [_, _, _, _]) (Nat.le_of_ble_eq_true rfl)) (.cons (vm_lit _ rfl rfl (.cons (vm_int rfl) (.cons (vm_int rfl) (.cons (vm_int rfl) (.cons (vm_int rfl) .nil))))) .nil))) <;> (try (exfalso; omega; done)) <;> (with_reducible conv => whnf))
  refine loop_i hmix hT (fun d : Nat => ([(2, .ptr 0 0), (3, .ptr 1 0), (5, .own 2 1 0 (nC r)), (6, I (r.to - d))], ⟨3, [(2, .row 1 (nC r) (oRow g r d) 25), (1, .cells [I r.tag, I r.miss, I r.jump, I r.limit, I r.fr, I r.to] 69), (0, .cells [I g.first, I g.step, eCols g.cols] 24)]⟩)) (fun d => d ≤ nC r) (fun d => nC r - d) 0 (by omega) ?_ ?_
  · refine ⟨[], rfl, ⟨⟨_, rfl, vm_ptr rfl rfl rfl⟩, ⟨_, rfl, vm_ptr rfl rfl rfl⟩, ⟨_, rfl, vm_own rfl rfl rfl (by rw [toN_eq]; omega)⟩, ⟨_, rfl, vm_int (by omega)⟩, trivial⟩, ⟨⟨_, rfl, sbm_row (by rw [toN_eq]; omega) fun j hj => ?_⟩, ⟨_, rfl, sbm_cells vmL_p⟩, ⟨_, rfl, sbm_cells vmL_p⟩, trivial⟩⟩
    rw [oRow_none (by omega)]
    exact vm_p
  intro d hd
  with_reducible conv => whnf
  repeat' ((first | (with_reducible refine branch_t ?_) | (with_reducible refine branch_f ?_) | (with_reducible refine branch_nt ?_) | (with_reducible refine branch_nf ?_) | (with_reducible refine branch_dec (fun _ => ?_) (fun _ => ?_)) | (with_reducible refine branch_ndec (fun _ => ?_) (fun _ => ?_)) | (with_reducible refine branch_bool (fun _ => ?_) (fun _ => ?_)) | (with_reducible refine arith_64 (by omega) ?_) | (with_reducible refine ob_i (by omega) (fun _ => ?_)) | (with_reducible refine ob_i (by unfold room; omega) (fun _ => ?_)) | (with_reducible refine ob_i (by (try simp only [toN_eq, Int.toNat_natCast] at *); (try dsimp only [toN] at *); omega) (fun _ => ?_)) | (with_reducible refine arith_64 (by (try simp only [toN_eq, Int.toNat_natCast] at *); (try dsimp only [toN] at *); omega) ?_) | (with_reducible refine ob_k rfl ?_) | ((with_reducible refine ob_k ?_ ?_); focus kernel_rfl) | (refine yield_i hmix hT rfl hL efr eps eag ebd rfl (by kernel_rfl) ?_)  | (apply call_l (first_ok (l := [_, _]) (Nat.le_of_ble_eq_true rfl)) (.cons (vm_lit _ rfl rfl (.cons (vm_int rfl) (.cons (vm_int rfl) .nil))) .nil)) | (apply call_l (first_ok (l := [_, _, _]) (Nat.le_of_ble_eq_true rfl)) (.cons (vm_lit _ rfl rfl (.cons (vm_int rfl) (.cons (vm_int rfl) (.cons (vm_int rfl) .nil)))) .nil)) | (apply call_l (first_ok (l := [_, _, _, _]) (Nat.le_of_ble_eq_true rfl)) (.cons (vm_lit _ rfl rfl (.cons (vm_int rfl) (.cons (vm_int rfl) (.cons (vm_int rfl) (.cons (vm_int rfl) .nil))))) .nil))) <;> (try (exfalso; omega; done)) <;> (with_reducible conv => whnf))
  · -- a column
    refine loop_i hmix hT (fun k : Nat => ([(2, .ptr 0 0), (3, .ptr 1 0), (5, .own 2 1 0 (nC r)), (6, I (r.to - d)), (7, I ((nC r : Int) - 1 - d)), (8, I k)], ⟨4, [(3, .row 1 k (fun w => I (avD g r d w)) 3), (2, .row 1 (nC r) (iRow g r d (.own 3 1 0 k)) 25), (1, .cells [I r.tag, I r.miss, I r.jump, I r.limit, I r.fr, I r.to] 69), (0, .cells [I g.first, I g.step, eCols g.cols] 24)]⟩)) (fun k => k ≤ rowsN g) (fun k => rowsN g - k) 0 (by omega) ?_ ?_
    · exact ⟨[(3, none)], rfl, ⟨⟨_, rfl, vm_ptr rfl rfl rfl⟩, ⟨_, rfl, vm_ptr rfl rfl rfl⟩, ⟨_, rfl, vm_own rfl rfl rfl rfl⟩, ⟨_, rfl, vm_p⟩, ⟨_, rfl, vm_int (by omega)⟩, ⟨_, rfl, vm_p⟩, trivial⟩, ⟨⟨_, _, _, rfl⟩, ⟨_, rfl, sbm_row rfl fun j hj => vm_iRow0⟩, ⟨_, rfl, sbm_cells vmL_p⟩, ⟨_, rfl, sbm_cells vmL_p⟩, trivial⟩⟩
    intro k hk
    have cur : iRow g r d (.own 3 1 0 k) (0 + toN ((nC r : Int) - 1 - d)) = .own 3 1 0 k := iRow_at (by rw [toN_eq]; omega)
    have col : (r.to - d).toNat = r.to.toNat - d := by omega
    have PR : k < rowsN g → FnOK Try.prog 52 [eGram g, eRules r, I (r.to - d), I k] (I (price g r (r.to.toNat - d) k)) [] := fun h => by
      have := rCellI (r := r) (c := r.to - d) (w := k) hv (by omega) (by omega)
      rw [col] at this; exact this
    have pr := fun h => price_le hv rv (c := r.to.toNat - d) (w := k) (by omega) h
    with_reducible conv => whnf
    cases d with
    | zero =>
      repeat' ((first | (with_reducible refine branch_t ?_) | (with_reducible refine branch_f ?_) | (with_reducible refine branch_nt ?_) | (with_reducible refine branch_nf ?_) | (with_reducible refine branch_dec (fun _ => ?_) (fun _ => ?_)) | (with_reducible refine branch_ndec (fun _ => ?_) (fun _ => ?_)) | (with_reducible refine branch_bool (fun _ => ?_) (fun _ => ?_)) | (with_reducible refine arith_64 (by omega) ?_) | (with_reducible refine ob_i (by omega) (fun _ => ?_)) | (with_reducible refine ob_i (by unfold room; omega) (fun _ => ?_)) | (with_reducible refine ob_i (by (try simp only [toN_eq] at *); (try dsimp only [toN] at *); omega) (fun _ => ?_)) | (with_reducible refine arith_64 (by (try simp only [toN_eq] at *); (try dsimp only [toN] at *); omega) ?_) | (with_reducible refine ob_k rfl ?_) | ((with_reducible refine ob_k ?_ ?_); focus kernel_rfl) | (refine yield_i hmix hT rfl hL efr eps eag ebd rfl (by kernel_rfl) ?_) | (apply call_u (rRows_ok h7)) | (apply call_u (PR (by omega))) | (with_reducible refine elemK_of cur ?_) | (apply call_l (first_ok (l := [_, _]) (Nat.le_of_ble_eq_true rfl)) (.cons (vm_lit _ rfl rfl (.cons (vm_int rfl) (.cons (vm_int rfl) .nil))) .nil)) | (apply call_l (first_ok (l := [_, _, _]) (Nat.le_of_ble_eq_true rfl)) (.cons (vm_lit _ rfl rfl (.cons (vm_int rfl) (.cons (vm_int rfl) (.cons (vm_int rfl) .nil)))) .nil)) | (apply call_l (first_ok (l := [_, _, _, _]) (Nat.le_of_ble_eq_true rfl)) (.cons (vm_lit _ rfl rfl (.cons (vm_int rfl) (.cons (vm_int rfl) (.cons (vm_int rfl) (.cons (vm_int rfl) .nil))))) .nil))) <;> (try (exfalso; omega; done)) <;> (with_reducible conv => whnf))
      · refine ⟨k + 1, by omega, by omega, ?_⟩
        refine ⟨[(3, some 5)], rfl, ⟨⟨_, rfl, vm_ptr rfl rfl rfl⟩, ⟨_, rfl, vm_ptr rfl rfl rfl⟩, ⟨_, rfl, vm_own rfl rfl rfl rfl⟩, ⟨_, rfl, vm_p⟩, ⟨_, rfl, vm_p⟩, ⟨_, rfl, vm_int (by omega)⟩, trivial⟩, ⟨⟨_, rfl, sbm_row rfl fun j hj => ?_⟩, ⟨_, rfl, sbm_row rfl fun j hj => ?_⟩, ⟨_, rfl, sbm_cells vmL_p⟩, ⟨_, rfl, sbm_cells vmL_p⟩, trivial⟩⟩
        · exact vm_snoc (e' := fun w => I (avD g r 0 w)) hj (fun _ _ => vm_p) (vm_int (by simp [avD]))
        · exact vm_setI (by rw [toN_eq]; omega) rfl rfl
      · obtain rfl : k = rowsN g := by omega
        refine ⟨0 + 1, by omega, by omega, ?_⟩
        exact ⟨[], rfl, ⟨⟨_, rfl, vm_ptr rfl rfl rfl⟩, ⟨_, rfl, vm_ptr rfl rfl rfl⟩, ⟨_, rfl, vm_own rfl rfl rfl rfl⟩, ⟨_, rfl, vm_int (by omega)⟩, trivial⟩, ⟨⟨_, rfl, sbm_row rfl fun j hj => vm_doneI rfl rfl⟩, ⟨_, rfl, sbm_cells vmL_p⟩, ⟨_, rfl, sbm_cells vmL_p⟩, trivial⟩⟩
    | succ d =>
      have WB := fun s (h : s < rowsN g) h' => wayF_bd hv rv (d := d) (w := k) (s := s) (by omega) h' h
      repeat' ((first | (with_reducible refine branch_t ?_) | (with_reducible refine branch_f ?_) | (with_reducible refine branch_nt ?_) | (with_reducible refine branch_nf ?_) | (with_reducible refine branch_dec (fun _ => ?_) (fun _ => ?_)) | (with_reducible refine branch_ndec (fun _ => ?_) (fun _ => ?_)) | (with_reducible refine branch_bool (fun _ => ?_) (fun _ => ?_)) | (with_reducible refine arith_64 (by omega) ?_) | (with_reducible refine ob_i (by omega) (fun _ => ?_)) | (with_reducible refine ob_i (by unfold room; omega) (fun _ => ?_)) | (with_reducible refine ob_i (by (try simp only [toN_eq] at *); (try dsimp only [toN] at *); omega) (fun _ => ?_)) | (with_reducible refine arith_64 (by (try simp only [toN_eq] at *); (try dsimp only [toN] at *); omega) ?_) | (with_reducible refine ob_k rfl ?_) | ((with_reducible refine ob_k ?_ ?_); focus kernel_rfl) | (refine yield_i hmix hT rfl hL efr eps eag ebd rfl (by kernel_rfl) ?_) | (apply call_u (rRows_ok h7)) | (apply call_u (PR (by omega))) | (with_reducible refine elemK_of cur ?_) | (apply call_l (first_ok (l := [_, _]) (Nat.le_of_ble_eq_true rfl)) (.cons (vm_lit _ rfl rfl (.cons (vm_int rfl) (.cons (vm_int rfl) .nil))) .nil)) | (apply call_l (first_ok (l := [_, _, _]) (Nat.le_of_ble_eq_true rfl)) (.cons (vm_lit _ rfl rfl (.cons (vm_int rfl) (.cons (vm_int rfl) (.cons (vm_int rfl) .nil)))) .nil)) | (apply call_l (first_ok (l := [_, _, _, _]) (Nat.le_of_ble_eq_true rfl)) (.cons (vm_lit _ rfl rfl (.cons (vm_int rfl) (.cons (vm_int rfl) (.cons (vm_int rfl) (.cons (vm_int rfl) .nil))))) .nil))) <;> (try (exfalso; omega; done)) <;> (with_reducible conv => whnf))
      · refine loop_i hmix hT (fun j : Nat => ([(2, .ptr 0 0), (3, .ptr 1 0), (5, .own 2 1 0 (nC r)), (6, I (r.to - (d + 1 : Nat))), (7, I ((nC r : Int) - 1 - (d + 1 : Nat))), (8, I k), (9, I (price g r (r.to.toNat - (d + 1)) k)), (10, I (bv (wayF g r d k) (fun s => dist k s ≤ r.limit) j)), (11, I j)], ⟨4, [(3, .row 1 k (fun w => I (avD g r (d + 1) w)) 3), (2, .row 1 (nC r) (iRow g r (d + 1) (.own 3 1 0 k)) 25), (1, .cells [I r.tag, I r.miss, I r.jump, I r.limit, I r.fr, I r.to] 69), (0, .cells [I g.first, I g.step, eCols g.cols] 24)]⟩)) (fun j => j ≤ rowsN g) (fun j => rowsN g - j) 0 (by omega) ?_ ?_
        · exact ⟨[], rfl, ⟨⟨_, rfl, vm_ptr rfl rfl rfl⟩, ⟨_, rfl, vm_ptr rfl rfl rfl⟩, ⟨_, rfl, vm_own rfl rfl rfl rfl⟩, ⟨_, rfl, vm_p⟩, ⟨_, rfl, vm_p⟩, ⟨_, rfl, vm_p⟩, ⟨_, rfl, vm_p⟩, ⟨_, rfl, vm_p⟩, ⟨_, rfl, vm_p⟩, trivial⟩, ⟨⟨_, rfl, sbm_row rfl fun j hj => vm_p⟩, ⟨_, rfl, sbm_row rfl fun j hj => (by
            by_cases hj2 : j + (d + 1) + 1 = nC r
            · rw [iRow_at hj2]; exact vm_own rfl rfl rfl rfl
            · rw [iRow_ne hj2]; exact vm_oRow g r (d + 1) j)⟩, ⟨_, rfl, sbm_cells vmL_p⟩, ⟨_, rfl, sbm_cells vmL_p⟩, trivial⟩⟩
        intro j hj
        have nxt : iRow g r (d + 1) (.own 3 1 0 k) (0 + toN ((nC r : Int) - 1 - (d + 1 : Nat) + 1)) = avRow g r d := by
          rw [toN_eq, iRow_ne (by omega), oRow_some (by omega)]
          congr 1
          omega
        have sym : max ((k : Int) - j) (-((k : Int) - j)) = max ((j : Int) - k) (-((j : Int) - k)) := by omega
        have st := fun h h' => stepC_le rv (a := k) (b := j) h h'
        have st2 : k < 12 → j < 12 → 0 ≤ r.jump * max ((k : Int) - j) (-((k : Int) - j)) ∧ r.jump * max ((k : Int) - j) (-((k : Int) - j)) ≤ 11000 := by rw [sym]; exact st
        have way : wayF g r d k j = r.jump * max ((k : Int) - j) (-((k : Int) - j)) + avD g r d j := by rw [sym]; rfl
        have ad := fun h => avD_bd hv rv d j (by omega) h
        have edist : dist k j = max ((k : Int) - j) (-((k : Int) - j)) := rfl
        have yes := bv_yes (f := wayF g r d k) (P := fun s => dist k s ≤ r.limit) (j := j)
        have no := bv_no (f := wayF g r d k) (P := fun s => dist k s ≤ r.limit) (j := j)
        obtain ⟨b, be1, be2, be3⟩ := bl_best rv (d := d) (w := k) (by omega)
        have bend : j = rowsN g → bv (wayF g r d k) (fun s => dist k s ≤ r.limit) j = bestOf g r d k := fun e => by
          rw [bv_bl (n := rowsN g) (fun s hs => (WB s hs (by omega)).1) j hj, e, be1]
          exact if_neg (show ¬ (b : Int) < 0 by omega)
        have bd := best_bd hv rv (d := d) (w := k) (by omega) (by omega)
        have tj : avD g r d (toN (j : Int)) = avD g r d j := by rw [toN_eq]; rfl
        with_reducible conv => whnf
        repeat' ((first | (with_reducible refine branch_t ?_) | (with_reducible refine branch_f ?_) | (with_reducible refine branch_nt ?_) | (with_reducible refine branch_nf ?_) | (with_reducible refine branch_dec (fun _ => ?_) (fun _ => ?_)) | (with_reducible refine branch_ndec (fun _ => ?_) (fun _ => ?_)) | (with_reducible refine branch_bool (fun _ => ?_) (fun _ => ?_)) | (with_reducible refine arith_64 (by omega) ?_) | (with_reducible refine ob_i (by omega) (fun _ => ?_)) | (with_reducible refine ob_i (by unfold room; omega) (fun _ => ?_)) | (with_reducible refine ob_i (by (try simp only [toN_eq] at *); (try dsimp only [toN] at *); omega) (fun _ => ?_)) | (with_reducible refine arith_64 (by (try simp only [toN_eq] at *); (try dsimp only [toN] at *); omega) ?_) | (with_reducible refine ob_k rfl ?_) | ((with_reducible refine ob_k ?_ ?_); focus kernel_rfl) | (refine yield_i hmix hT rfl hL efr eps eag ebd rfl (by kernel_rfl) ?_) | (apply call_u (rRows_ok h7)) | (apply call_u (bSize_ok (by omega))) | (with_reducible refine elemK_of nxt ?_) | (with_reducible refine elemK_of cur ?_) | (apply call_l (first_ok (l := [_, _]) (Nat.le_of_ble_eq_true rfl)) (.cons (vm_lit _ rfl rfl (.cons (vm_int rfl) (.cons (vm_int rfl) .nil))) .nil)) | (apply call_l (first_ok (l := [_, _, _]) (Nat.le_of_ble_eq_true rfl)) (.cons (vm_lit _ rfl rfl (.cons (vm_int rfl) (.cons (vm_int rfl) (.cons (vm_int rfl) .nil)))) .nil)) | (apply call_l (first_ok (l := [_, _, _, _]) (Nat.le_of_ble_eq_true rfl)) (.cons (vm_lit _ rfl rfl (.cons (vm_int rfl) (.cons (vm_int rfl) (.cons (vm_int rfl) (.cons (vm_int rfl) .nil))))) .nil))) <;> (try (exfalso; omega; done)) <;> (with_reducible conv => whnf))
        any_goals (refine ⟨j + 1, by omega, by omega, ?_⟩; exact ⟨[], rfl, ⟨⟨_, rfl, vm_ptr rfl rfl rfl⟩, ⟨_, rfl, vm_ptr rfl rfl rfl⟩, ⟨_, rfl, vm_own rfl rfl rfl rfl⟩, ⟨_, rfl, vm_p⟩, ⟨_, rfl, vm_p⟩, ⟨_, rfl, vm_p⟩, ⟨_, rfl, vm_p⟩, ⟨_, rfl, vm_int (by omega)⟩, ⟨_, rfl, vm_int (by omega)⟩, trivial⟩, ⟨⟨_, rfl, sbm_row rfl fun j hj => vm_p⟩, ⟨_, rfl, sbm_row rfl fun j hj => (by
              by_cases hj2 : j + (d + 1) + 1 = nC r
              · rw [iRow_at hj2]; exact vm_own rfl rfl rfl rfl
              · rw [iRow_ne hj2]; exact vm_oRow g r (d + 1) j)⟩, ⟨_, rfl, sbm_cells vmL_p⟩, ⟨_, rfl, sbm_cells vmL_p⟩, trivial⟩⟩)
        refine ⟨k + 1, by omega, by omega, ?_⟩
        refine ⟨[(3, some 5)], rfl, ⟨⟨_, rfl, vm_ptr rfl rfl rfl⟩, ⟨_, rfl, vm_ptr rfl rfl rfl⟩, ⟨_, rfl, vm_own rfl rfl rfl rfl⟩, ⟨_, rfl, vm_p⟩, ⟨_, rfl, vm_p⟩, ⟨_, rfl, vm_int (by omega)⟩, trivial⟩, ⟨⟨_, rfl, sbm_row rfl fun q hq => ?_⟩, ⟨_, rfl, sbm_row rfl fun q hq => ?_⟩, ⟨_, rfl, sbm_cells vmL_p⟩, ⟨_, rfl, sbm_cells vmL_p⟩, trivial⟩⟩
        · exact vm_snoc (e' := fun w => I (avD g r (d + 1) w)) hq (fun _ _ => vm_p) (vm_int (by rw [avD_succ, bend (by omega)]))
        · exact vm_setI (by rw [toN_eq]; omega) rfl rfl
      · obtain rfl : k = rowsN g := by omega
        refine ⟨d + 1 + 1, by omega, by omega, ?_⟩
        exact ⟨[], rfl, ⟨⟨_, rfl, vm_ptr rfl rfl rfl⟩, ⟨_, rfl, vm_ptr rfl rfl rfl⟩, ⟨_, rfl, vm_own rfl rfl rfl rfl⟩, ⟨_, rfl, vm_int (by omega)⟩, trivial⟩, ⟨⟨_, rfl, sbm_row rfl fun j hj => vm_doneI rfl rfl⟩, ⟨_, rfl, sbm_cells vmL_p⟩, ⟨_, rfl, sbm_cells vmL_p⟩, trivial⟩⟩
  · obtain rfl : d = nC r := by omega
    refine ret0 (vm_fr rfl rfl rfl (Nat.le_refl _) fun j hj => ?_)
    rw [oRow_some (by omega)]
    exact vm_p
end Go.Proofs.Ytmiphilcplojnaa
