/-
  Chapter 7: the laws ForecastCounts and ForecastOnce (by contract).
  Conditions: none.
-/
import Derived.Test.Ytfmbgkbnmjbefaa7D
namespace Go.Proofs.Ytfmbgkbnmjbefaa
open Go.RowKit Fx
theorem val_recs {l : List Rc} (h : recsE l = 0) : recsC l = (0, 0) := by
  obtain ⟨h1, h2⟩ := recs_val h
  unfold recsC
  rw [if_neg (by omega), findErr_none recE rc0 l 0 h2]
set_option maxHeartbeats 4000000 in
set_option maxRecDepth 100000 in
theorem counts_ok (AW : FnOK Try.prog 23 [] (B true) []) {l : List Rc} {q : Qr} (hl : l.length ≤ 9223372036854775807) : FnOK Try.prog 4 [eRcs l, eQr q] (B true) [] := by
  by_cases hf : l.length ≤ 40 ∨ (400 < l.length ∧ l.length ≤ 402)
  case neg =>
    refine fn_i hmix hT Try.f4 (by kernel_rfl) rfl (by kernel_rfl) ?_
    with_reducible conv => whnf
    repeat' ((first | (with_reducible refine branch_t ?_) | (with_reducible refine branch_f ?_) | (with_reducible refine branch_nt ?_) | (with_reducible refine branch_nf ?_) | (with_reducible refine branch_dec (fun _ => ?_) (fun _ => ?_)) | (with_reducible refine branch_ndec (fun _ => ?_) (fun _ => ?_)) | (with_reducible refine branch_bool (fun _ => ?_) (fun _ => ?_)) | (with_reducible refine arith_64 (by omega) ?_) | (with_reducible refine ob_i (by omega) (fun _ => ?_)) | (with_reducible refine ob_i (by unfold room; omega) (fun _ => ?_)) | (with_reducible refine ob_i (by (try simp only [toN_eq, Int.toNat_natCast] at *); (try dsimp only [toN] at *); omega) (fun _ => ?_)) | (with_reducible refine arith_64 (by (try simp only [toN_eq, Int.toNat_natCast] at *); (try dsimp only [toN] at *); omega) ?_) | (with_reducible refine ob_k rfl ?_) | ((with_reducible refine ob_k ?_ ?_); focus kernel_rfl) | (refine yield_i hmix hT rfl hL efr eps eag ebd rfl (by kernel_rfl) ?_) | (apply call_u AW) | (apply call_u few_ok) | (apply call_l (first_ok (l := [_, _]) (Nat.le_of_ble_eq_true rfl)) (.cons (vm_lit _ rfl rfl (.cons (vm_int rfl) (.cons (vm_int rfl) .nil))) .nil)) | (apply call_l (first_ok (l := [_, _, _]) (Nat.le_of_ble_eq_true rfl)) (.cons (vm_lit _ rfl rfl (.cons (vm_int rfl) (.cons (vm_int rfl) (.cons (vm_int rfl) .nil)))) .nil)) | (apply call_l (first_ok (l := [_, _, _, _]) (Nat.le_of_ble_eq_true rfl)) (.cons (vm_lit _ rfl rfl (.cons (vm_int rfl) (.cons (vm_int rfl) (.cons (vm_int rfl) (.cons (vm_int rfl) .nil))))) .nil))) <;> (try (exfalso; omega; done)) <;> (with_reducible conv => whnf))
    exact ret0 vm_p
  have CC := checkRecords_ok hl
  have RC := rCheckRecords_ok hl
  by_cases h0 : recsE l = 0
  case neg =>
    have e0 : (recsC l).2 = recsE l := rfl
    have e1 : cntE l q = recsE l := if_pos h0
    have e2 : chanceE l q = recsE l := by unfold chanceE; rw [if_pos (by rw [e1]; exact h0), e1]
    have A := countOf_bad (q := q) hl (by rw [e1]; exact h0)
    have C := chanceOf_bad (q := q) hl (by rw [e2]; exact h0)
    rw [e0] at CC RC
    rw [e1] at A
    rw [e2] at C
    refine fn_i hmix hT Try.f4 (by kernel_rfl) rfl (by kernel_rfl) ?_
    with_reducible conv => whnf
    repeat' ((first | (with_reducible refine branch_t ?_) | (with_reducible refine branch_f ?_) | (with_reducible refine branch_nt ?_) | (with_reducible refine branch_nf ?_) | (with_reducible refine branch_dec (fun _ => ?_) (fun _ => ?_)) | (with_reducible refine branch_ndec (fun _ => ?_) (fun _ => ?_)) | (with_reducible refine branch_bool (fun _ => ?_) (fun _ => ?_)) | (with_reducible refine arith_64 (by omega) ?_) | (with_reducible refine ob_i (by omega) (fun _ => ?_)) | (with_reducible refine ob_i (by unfold room; omega) (fun _ => ?_)) | (with_reducible refine ob_i (by (try simp only [] at *); (try dsimp only [toN] at *); omega) (fun _ => ?_)) | (with_reducible refine arith_64 (by (try simp only [] at *); (try dsimp only [toN] at *); omega) ?_) | (with_reducible refine ob_k rfl ?_) | ((with_reducible refine ob_k ?_ ?_); focus kernel_rfl) | (refine yield_i hmix hT rfl hL efr eps eag ebd rfl (by kernel_rfl) ?_) | (apply call_u AW) | (apply call_u few_ok) | (apply call_u (copyRecords_ok (l := l) (by omega))) | (apply call_u CC) | (apply call_u RC) | (apply call_u A) | (apply call_u C) | (refine gen_eq2 rfl rfl rfl rfl (by kernel_rfl) (by kernel_rfl) (fun _ => ?_) (fun _ => ?_)) | (refine gen_ne2 rfl rfl rfl rfl (by kernel_rfl) (by kernel_rfl) (fun _ => ?_) (fun _ => ?_)) | (apply call_l (first_ok (l := [_, _]) (Nat.le_of_ble_eq_true rfl)) (.cons (vm_lit _ rfl rfl (.cons (vm_int rfl) (.cons (vm_int rfl) .nil))) .nil)) | (apply call_l (first_ok (l := [_, _, _]) (Nat.le_of_ble_eq_true rfl)) (.cons (vm_lit _ rfl rfl (.cons (vm_int rfl) (.cons (vm_int rfl) (.cons (vm_int rfl) .nil)))) .nil)) | (apply call_l (first_ok (l := [_, _, _, _]) (Nat.le_of_ble_eq_true rfl)) (.cons (vm_lit _ rfl rfl (.cons (vm_int rfl) (.cons (vm_int rfl) (.cons (vm_int rfl) (.cons (vm_int rfl) .nil))))) .nil))) <;> (try (exfalso; omega; done)) <;> (with_reducible conv => whnf))
    all_goals exact ret0 (vm_bool (by simp))
  rw [val_recs h0] at CC RC
  by_cases hq : queryE q = 0
  case neg =>
    have e1 : cntE l q = queryE q := if_neg (fun k => k h0)
    have e2 : chanceE l q = queryE q := by unfold chanceE; rw [if_pos (by rw [e1]; exact hq), e1]
    have A := countOf_bad (q := q) hl (by rw [e1]; exact hq)
    have C := chanceOf_bad (q := q) hl (by rw [e2]; exact hq)
    rw [e1] at A
    rw [e2] at C
    refine fn_i hmix hT Try.f4 (by kernel_rfl) rfl (by kernel_rfl) ?_
    with_reducible conv => whnf
    repeat' ((first | (with_reducible refine branch_t ?_) | (with_reducible refine branch_f ?_) | (with_reducible refine branch_nt ?_) | (with_reducible refine branch_nf ?_) | (with_reducible refine branch_dec (fun _ => ?_) (fun _ => ?_)) | (with_reducible refine branch_ndec (fun _ => ?_) (fun _ => ?_)) | (with_reducible refine branch_bool (fun _ => ?_) (fun _ => ?_)) | (with_reducible refine arith_64 (by omega) ?_) | (with_reducible refine ob_i (by omega) (fun _ => ?_)) | (with_reducible refine ob_i (by unfold room; omega) (fun _ => ?_)) | (with_reducible refine ob_i (by (try simp only [] at *); (try dsimp only [toN] at *); omega) (fun _ => ?_)) | (with_reducible refine arith_64 (by (try simp only [] at *); (try dsimp only [toN] at *); omega) ?_) | (with_reducible refine ob_k rfl ?_) | ((with_reducible refine ob_k ?_ ?_); focus kernel_rfl) | (refine yield_i hmix hT rfl hL efr eps eag ebd rfl (by kernel_rfl) ?_) | (apply call_u AW) | (apply call_u few_ok) | (apply call_u (copyRecords_ok (l := l) (by omega))) | (apply call_u CC) | (apply call_u RC) | (apply call_u A) | (apply call_u C) | (apply call_u rQueryErr_ok) | (refine gen_eq2 rfl rfl rfl rfl (by kernel_rfl) (by kernel_rfl) (fun _ => ?_) (fun _ => ?_)) | (refine gen_ne2 rfl rfl rfl rfl (by kernel_rfl) (by kernel_rfl) (fun _ => ?_) (fun _ => ?_)) | (apply call_l (first_ok (l := [_, _]) (Nat.le_of_ble_eq_true rfl)) (.cons (vm_lit _ rfl rfl (.cons (vm_int rfl) (.cons (vm_int rfl) .nil))) .nil)) | (apply call_l (first_ok (l := [_, _, _]) (Nat.le_of_ble_eq_true rfl)) (.cons (vm_lit _ rfl rfl (.cons (vm_int rfl) (.cons (vm_int rfl) (.cons (vm_int rfl) .nil)))) .nil)) | (apply call_l (first_ok (l := [_, _, _, _]) (Nat.le_of_ble_eq_true rfl)) (.cons (vm_lit _ rfl rfl (.cons (vm_int rfl) (.cons (vm_int rfl) (.cons (vm_int rfl) (.cons (vm_int rfl) .nil))))) .nil))) <;> (try (exfalso; omega; done)) <;> (with_reducible conv => whnf))
    all_goals exact ret0 (vm_bool (by simp))
  have e1 : cntE l q = 0 := by unfold cntE; rw [if_neg (by omega)]; exact hq
  have A := countOf_good e1
  have Q := rQueryErr_ok (q := q)
  rw [hq] at Q
  obtain ⟨v1, v2⟩ := recs_val h0
  have W := rCount_ok (q := q) v1
  have nl := num_le (sel q l) q.f
  have sl := selK_len q l l.length
  have sl : (sel q l).length ≤ 400 := by unfold sel; omega
  by_cases ht : (sel q l).length = 0
  · have e2 : chanceE l q = 12 := by unfold chanceE; rw [if_neg (by omega), if_pos ht]
    have C := chanceOf_bad (q := q) hl (by omega)
    rw [e2] at C
    refine fn_i hmix hT Try.f4 (by kernel_rfl) rfl (by kernel_rfl) ?_
    with_reducible conv => whnf
    repeat' ((first | (with_reducible refine branch_t ?_) | (with_reducible refine branch_f ?_) | (with_reducible refine branch_nt ?_) | (with_reducible refine branch_nf ?_) | (with_reducible refine branch_dec (fun _ => ?_) (fun _ => ?_)) | (with_reducible refine branch_ndec (fun _ => ?_) (fun _ => ?_)) | (with_reducible refine branch_bool (fun _ => ?_) (fun _ => ?_)) | (with_reducible refine arith_64 (by omega) ?_) | (with_reducible refine ob_i (by omega) (fun _ => ?_)) | (with_reducible refine ob_i (by unfold room; omega) (fun _ => ?_)) | (with_reducible refine ob_i (by (try simp only [] at *); (try dsimp only [toN] at *); omega) (fun _ => ?_)) | (with_reducible refine arith_64 (by (try simp only [] at *); (try dsimp only [toN] at *); omega) ?_) | (with_reducible refine ob_k rfl ?_) | ((with_reducible refine ob_k ?_ ?_); focus kernel_rfl) | (refine yield_i hmix hT rfl hL efr eps eag ebd rfl (by kernel_rfl) ?_) | (apply call_u AW) | (apply call_u few_ok) | (apply call_u (copyRecords_ok (l := l) (by omega))) | (apply call_u CC) | (apply call_u RC) | (apply call_u A) | (apply call_u C) | (apply call_u Q) | (apply call_u W) | (refine gen_eq2 rfl rfl rfl rfl (by kernel_rfl) (by kernel_rfl) (fun _ => ?_) (fun _ => ?_)) | (refine gen_ne2 rfl rfl rfl rfl (by kernel_rfl) (by kernel_rfl) (fun _ => ?_) (fun _ => ?_)) | (apply call_l (first_ok (l := [_, _]) (Nat.le_of_ble_eq_true rfl)) (.cons (vm_lit _ rfl rfl (.cons (vm_int rfl) (.cons (vm_int rfl) .nil))) .nil)) | (apply call_l (first_ok (l := [_, _, _]) (Nat.le_of_ble_eq_true rfl)) (.cons (vm_lit _ rfl rfl (.cons (vm_int rfl) (.cons (vm_int rfl) (.cons (vm_int rfl) .nil)))) .nil)) | (apply call_l (first_ok (l := [_, _, _, _]) (Nat.le_of_ble_eq_true rfl)) (.cons (vm_lit _ rfl rfl (.cons (vm_int rfl) (.cons (vm_int rfl) (.cons (vm_int rfl) (.cons (vm_int rfl) .nil))))) .nil))) <;> (try (exfalso; omega; done)) <;> (with_reducible conv => whnf))
    all_goals exact ret0 (vm_bool (by simp))
  · have e2 : chanceE l q = 0 := by unfold chanceE; rw [if_neg (by omega), if_neg ht]
    have C := chanceOf_good e2
    have L := bLowest_ok (a := num (sel q l) q.f) (b := (sel q l).length) (by omega) (by omega)
    refine fn_i hmix hT Try.f4 (by kernel_rfl) rfl (by kernel_rfl) ?_
    with_reducible conv => whnf
    repeat' ((first | (with_reducible refine branch_t ?_) | (with_reducible refine branch_f ?_) | (with_reducible refine branch_nt ?_) | (with_reducible refine branch_nf ?_) | (with_reducible refine branch_dec (fun _ => ?_) (fun _ => ?_)) | (with_reducible refine branch_ndec (fun _ => ?_) (fun _ => ?_)) | (with_reducible refine branch_bool (fun _ => ?_) (fun _ => ?_)) | (with_reducible refine arith_64 (by omega) ?_) | (with_reducible refine ob_i (by omega) (fun _ => ?_)) | (with_reducible refine ob_i (by unfold room; omega) (fun _ => ?_)) | (with_reducible refine ob_i (by (try simp only [] at *); (try dsimp only [toN] at *); omega) (fun _ => ?_)) | (with_reducible refine arith_64 (by (try simp only [] at *); (try dsimp only [toN] at *); omega) ?_) | (with_reducible refine ob_k rfl ?_) | ((with_reducible refine ob_k ?_ ?_); focus kernel_rfl) | (refine yield_i hmix hT rfl hL efr eps eag ebd rfl (by kernel_rfl) ?_) | (apply call_u AW) | (apply call_u few_ok) | (apply call_u (copyRecords_ok (l := l) (by omega))) | (apply call_u CC) | (apply call_u RC) | (apply call_u A) | (apply call_u C) | (apply call_u Q) | (apply call_u W) | (apply call_u L) | (refine gen_eq2 rfl rfl rfl rfl (by kernel_rfl) (by kernel_rfl) (fun _ => ?_) (fun _ => ?_)) | (refine gen_ne2 rfl rfl rfl rfl (by kernel_rfl) (by kernel_rfl) (fun _ => ?_) (fun _ => ?_)) | (apply call_l (first_ok (l := [_, _]) (Nat.le_of_ble_eq_true rfl)) (.cons (vm_lit _ rfl rfl (.cons (vm_int rfl) (.cons (vm_int rfl) .nil))) .nil)) | (apply call_l (first_ok (l := [_, _, _]) (Nat.le_of_ble_eq_true rfl)) (.cons (vm_lit _ rfl rfl (.cons (vm_int rfl) (.cons (vm_int rfl) (.cons (vm_int rfl) .nil)))) .nil)) | (apply call_l (first_ok (l := [_, _, _, _]) (Nat.le_of_ble_eq_true rfl)) (.cons (vm_lit _ rfl rfl (.cons (vm_int rfl) (.cons (vm_int rfl) (.cons (vm_int rfl) (.cons (vm_int rfl) .nil))))) .nil))) <;> (try (exfalso; omega; done)) <;> (with_reducible conv => whnf))
    all_goals exact ret0 (vm_bool (by simp))
/-! ### Counted once -/
def tot (q : Qr) (l : List Rc) : Nat := l.countP (cntB q)
def usd (q : Qr) (l : List Rc) : Nat := l.countP fun r => cntB q r && inB q.f (r.lo, r.hi)
theorem selK_cnt (q : Qr) (l : List Rc) : ∀ k, k ≤ l.length → (selK q l k).length = tot q (l.take k) ∧ num (selK q l k) q.f = usd q (l.take k)
  | 0, _ => by simp [selK, tot, usd, num, numK]
  | k + 1, h => by
    obtain ⟨i1, i2⟩ := selK_cnt q l k (by omega)
    have e : l.take (k + 1) = l.take k ++ [l.getD k rc0] := by
      rw [List.take_add_one, List.getD_eq_getElem?_getD, List.getElem?_eq_getElem (by omega : k < l.length)]; rfl
    unfold tot usd at *
    rw [e, List.countP_append, List.countP_append, ← i1, ← i2]
    by_cases hc : cntB q (l.getD k rc0) = true
    · rw [selK_yes hc, num_snoc]
      simp only [List.length_append, List.length_singleton, List.countP_singleton, hc, if_true, Bool.true_and, true_and]
      split <;> simp
    · rw [selK_no hc]
      simp only [List.countP_singleton, hc, Bool.false_eq_true, if_false]
      simp
theorem sel_cnt (q : Qr) (l : List Rc) : (sel q l).length = tot q l ∧ num (sel q l) q.f = usd q l := by
  have := selK_cnt q l l.length (Nat.le_refl _)
  rwa [List.take_length] at this
theorem cnt_parts (q : Qr) (l : List Rc) (k : Nat) : tot q (l.take k) + tot q (l.drop k) = tot q l ∧ usd q (l.take k) + usd q (l.drop k) = usd q l := by
  unfold tot usd
  constructor
  · rw [← List.countP_append, List.take_append_drop]
  · rw [← List.countP_append, List.take_append_drop]
theorem cnt_rev (q : Qr) (l : List Rc) : tot q l.reverse = tot q l ∧ usd q l.reverse = usd q l := by
  unfold tot usd
  exact ⟨List.countP_reverse, List.countP_reverse⟩
theorem cnt_le (q : Qr) (l : List Rc) : usd q l ≤ tot q l ∧ tot q l ≤ l.length := by
  unfold tot usd
  refine ⟨List.countP_mono_left fun r _ h => ?_, List.countP_le_length⟩
  simp only [Bool.and_eq_true] at h
  exact h.1
theorem cnt_cut {m h lo hi f c : Int} (h1 : lo ≤ c) (h2 : c < hi) : ∀ l : List Rc, tot ⟨m, h, lo, c, f⟩ l + tot ⟨m, h, c + 1, hi, f⟩ l = tot ⟨m, h, lo, hi, f⟩ l ∧ usd ⟨m, h, lo, c, f⟩ l + usd ⟨m, h, c + 1, hi, f⟩ l = usd ⟨m, h, lo, hi, f⟩ l
  | [] => by simp [tot, usd]
  | r :: l => by
    obtain ⟨i1, i2⟩ := cnt_cut (m := m) (h := h) (f := f) h1 h2 l
    unfold tot usd at *
    simp only [List.countP_cons]
    have key : ∀ b : Bool, (if (cntB ⟨m, h, lo, c, f⟩ r && b) = true then 1 else 0) + (if (cntB ⟨m, h, c + 1, hi, f⟩ r && b) = true then 1 else 0) = (if (cntB ⟨m, h, lo, hi, f⟩ r && b) = true then 1 else 0) := fun b => by
      cases b
      · simp
      · simp only [Bool.and_true]
        unfold cntB
        simp only [decide_eq_true_eq]
        grind
    have k1 := key true
    have k2 := key (inB f (r.lo, r.hi))
    simp only [Bool.and_true] at k1
    dsimp only at *
    omega
theorem recsE_sub {l m : List Rc} (h : recsE l = 0) (hs : ∀ r ∈ m, r ∈ l) (hl : m.length ≤ 400) : recsE m = 0 := by
  obtain ⟨v1, v2⟩ := recs_val h
  unfold recsE recsC
  rw [if_neg (by omega), findErr_none recE rc0 m 0]
  intro i hi
  have hm : m.getD i rc0 ∈ m := by
    rw [List.getD_eq_getElem?_getD, List.getElem?_eq_getElem hi]
    exact List.getElem_mem hi
  obtain ⟨j, hj, e⟩ := List.getElem_of_mem (hs _ hm)
  have := v2 j hj
  rwa [List.getD_eq_getElem?_getD, List.getElem?_eq_getElem hj, Option.getD_some, e] at this
theorem mod_ok {n b : Int} (_hn : -9223372036854775808 ≤ n ∧ n ≤ 9223372036854775807) (hb : 0 < b ∧ b ≤ 9223372036854775807) : FnOK Try.prog 34 [I n, I b] (I (n % b)) [] := by
  have a1 := Int.mul_tdiv_add_tmod n b
  have a2 := tmod_bd n (b := b) (by omega)
  have a3 := Int.mul_ediv_add_emod n b
  have a4 := Int.emod_lt_of_pos n hb.1
  have a5 := Int.emod_nonneg n (show b ≠ 0 by omega)
  have a6 : (n.tmod b < 0 → n % b = n.tmod b + b) ∧ (0 ≤ n.tmod b → n % b = n.tmod b) := by
    rw [Int.tmod_eq_emod]
    by_cases hc : 0 ≤ n ∨ b ∣ n
    · rw [if_pos hc]; omega
    · rw [if_neg hc]; omega
  refine fn_i hmix hT Try.f34 (by kernel_rfl) rfl (by kernel_rfl) ?_
  with_reducible conv => whnf
  repeat' ((first | (with_reducible refine branch_t ?_) | (with_reducible refine branch_f ?_) | (with_reducible refine branch_nt ?_) | (with_reducible refine branch_nf ?_) | (with_reducible refine branch_dec (fun _ => ?_) (fun _ => ?_)) | (with_reducible refine branch_ndec (fun _ => ?_) (fun _ => ?_)) | (with_reducible refine branch_bool (fun _ => ?_) (fun _ => ?_)) | (with_reducible refine arith_64 (by omega) ?_) | (with_reducible refine ob_i (by omega) (fun _ => ?_)) | (with_reducible refine ob_i (by unfold room; omega) (fun _ => ?_)) | (with_reducible refine ob_i (by (try simp only [toN_eq, Int.toNat_natCast] at *); (try dsimp only [toN] at *); omega) (fun _ => ?_)) | (with_reducible refine arith_64 (by (try simp only [toN_eq, Int.toNat_natCast] at *); (try dsimp only [toN] at *); omega) ?_) | (with_reducible refine ob_k rfl ?_) | ((with_reducible refine ob_k ?_ ?_); focus kernel_rfl) | (refine yield_i hmix hT rfl hL efr eps eag ebd rfl (by kernel_rfl) ?_)  | (apply call_l (first_ok (l := [_, _]) (Nat.le_of_ble_eq_true rfl)) (.cons (vm_lit _ rfl rfl (.cons (vm_int rfl) (.cons (vm_int rfl) .nil))) .nil)) | (apply call_l (first_ok (l := [_, _, _]) (Nat.le_of_ble_eq_true rfl)) (.cons (vm_lit _ rfl rfl (.cons (vm_int rfl) (.cons (vm_int rfl) (.cons (vm_int rfl) .nil)))) .nil)) | (apply call_l (first_ok (l := [_, _, _, _]) (Nat.le_of_ble_eq_true rfl)) (.cons (vm_lit _ rfl rfl (.cons (vm_int rfl) (.cons (vm_int rfl) (.cons (vm_int rfl) (.cons (vm_int rfl) .nil))))) .nil))) <;> (try (exfalso; omega; done)) <;> (with_reducible conv => whnf))
  · exact ret0 (vm_int (a6.1 (by omega)).symm)
  · exact ret0 (vm_int (a6.2 (by omega)).symm)
theorem vm_take {S : Vw} {l : List Rc} {k : Nat} {n : Nat} (hk : k ≤ l.length) (hn : n = k) {o : Nat} (ho : o = 0) : vm S (.sl 6 n fun j => eRc (l.getD (o + j) rc0)) (eRcs (l.take k)) := by
  subst hn ho
  refine vm_sl (by simp; omega) fun i hi => ?_
  rw [List.length_take] at hi
  have e : (l.take n).getD i rc0 = l.getD (0 + i) rc0 := by
    rw [List.getD_eq_getElem?_getD, List.getElem?_take_of_lt (by omega), List.getD_eq_getElem?_getD, Nat.zero_add]
  rw [e]
  exact vm_p
theorem vm_drop {S : Vw} {l : List Rc} {k n o : Nat} (hk : k ≤ l.length) (hn : n = l.length - k) (ho : o = k) : vm S (.sl 6 n fun j => eRc (l.getD (o + j) rc0)) (eRcs (l.drop k)) := by
  subst hn ho
  refine vm_sl (by simp) fun i hi => ?_
  have e : (l.drop o).getD i rc0 = l.getD (o + i) rc0 := by
    rw [List.getD_eq_getElem?_getD, List.getElem?_drop, List.getD_eq_getElem?_getD]
  rw [e]
  exact vm_p
theorem cntOf_ok {l : List Rc} {q : Qr} (h1 : recsE l = 0) (h2 : queryE q = 0) : FnOK Try.prog 27 [eRcs l, eQr q] (.tup [.agg [I (usd q l), I (tot q l)], I 0]) [] := by
  have := countOf_good (l := l) (q := q) (by unfold cntE; rw [if_neg (by omega)]; exact h2)
  rwa [(sel_cnt q l).1, (sel_cnt q l).2] at this
theorem rev_at {l : List Rc} {j : Nat} (h : j < l.length) : l.reverse.getD j rc0 = l.getD (l.length - 1 - j) rc0 := by
  rw [List.getD_eq_getElem?_getD, List.getElem?_reverse h, List.getD_eq_getElem?_getD]
set_option maxHeartbeats 8000000 in
set_option maxRecDepth 100000 in
theorem once_ok (AW : FnOK Try.prog 23 [] (B true) []) {l : List Rc} {m h lo hi f at_ : Int} (hl : l.length ≤ 9223372036854775807) (ha : -9223372036854775808 ≤ at_ ∧ at_ ≤ 9223372036854775807) : FnOK Try.prog 5 [eRcs l, eQr ⟨m, h, lo, hi, f⟩, I at_] (B true) [] := by
  have RE := rRecordsErr_ok hl
  have QE := rQueryErr_ok (q := ⟨m, h, lo, hi, f⟩)
  by_cases hf : 40 < l.length
  · refine fn_i hmix hT Try.f5 (by kernel_rfl) rfl (by kernel_rfl) ?_
    with_reducible conv => whnf
    repeat' ((first | (with_reducible refine branch_t ?_) | (with_reducible refine branch_f ?_) | (with_reducible refine branch_nt ?_) | (with_reducible refine branch_nf ?_) | (with_reducible refine branch_dec (fun _ => ?_) (fun _ => ?_)) | (with_reducible refine branch_ndec (fun _ => ?_) (fun _ => ?_)) | (with_reducible refine branch_bool (fun _ => ?_) (fun _ => ?_)) | (with_reducible refine arith_64 (by omega) ?_) | (with_reducible refine ob_i (by omega) (fun _ => ?_)) | (with_reducible refine ob_i (by unfold room; omega) (fun _ => ?_)) | (with_reducible refine ob_i (by (try simp only [toN_eq, Int.toNat_natCast] at *); (try dsimp only [toN] at *); omega) (fun _ => ?_)) | (with_reducible refine arith_64 (by (try simp only [toN_eq, Int.toNat_natCast] at *); (try dsimp only [toN] at *); omega) ?_) | (with_reducible refine ob_k rfl ?_) | ((with_reducible refine ob_k ?_ ?_); focus kernel_rfl) | (refine yield_i hmix hT rfl hL efr eps eag ebd rfl (by kernel_rfl) ?_) | (apply call_u AW) | (apply call_l (first_ok (l := [_, _]) (Nat.le_of_ble_eq_true rfl)) (.cons (vm_lit _ rfl rfl (.cons (vm_int rfl) (.cons (vm_int rfl) .nil))) .nil)) | (apply call_l (first_ok (l := [_, _, _]) (Nat.le_of_ble_eq_true rfl)) (.cons (vm_lit _ rfl rfl (.cons (vm_int rfl) (.cons (vm_int rfl) (.cons (vm_int rfl) .nil)))) .nil)) | (apply call_l (first_ok (l := [_, _, _, _]) (Nat.le_of_ble_eq_true rfl)) (.cons (vm_lit _ rfl rfl (.cons (vm_int rfl) (.cons (vm_int rfl) (.cons (vm_int rfl) (.cons (vm_int rfl) .nil))))) .nil))) <;> (try (exfalso; omega; done)) <;> (with_reducible conv => whnf))
    exact ret0 vm_p
  by_cases h0 : recsE l = 0
  case neg =>
    refine fn_i hmix hT Try.f5 (by kernel_rfl) rfl (by kernel_rfl) ?_
    with_reducible conv => whnf
    repeat' ((first | (with_reducible refine branch_t ?_) | (with_reducible refine branch_f ?_) | (with_reducible refine branch_nt ?_) | (with_reducible refine branch_nf ?_) | (with_reducible refine branch_dec (fun _ => ?_) (fun _ => ?_)) | (with_reducible refine branch_ndec (fun _ => ?_) (fun _ => ?_)) | (with_reducible refine branch_bool (fun _ => ?_) (fun _ => ?_)) | (with_reducible refine arith_64 (by omega) ?_) | (with_reducible refine ob_i (by omega) (fun _ => ?_)) | (with_reducible refine ob_i (by unfold room; omega) (fun _ => ?_)) | (with_reducible refine ob_i (by (try simp only [toN_eq, Int.toNat_natCast] at *); (try dsimp only [toN] at *); omega) (fun _ => ?_)) | (with_reducible refine arith_64 (by (try simp only [toN_eq, Int.toNat_natCast] at *); (try dsimp only [toN] at *); omega) ?_) | (with_reducible refine ob_k rfl ?_) | ((with_reducible refine ob_k ?_ ?_); focus kernel_rfl) | (refine yield_i hmix hT rfl hL efr eps eag ebd rfl (by kernel_rfl) ?_) | (apply call_u AW) | (apply call_u RE) | (apply call_l (first_ok (l := [_, _]) (Nat.le_of_ble_eq_true rfl)) (.cons (vm_lit _ rfl rfl (.cons (vm_int rfl) (.cons (vm_int rfl) .nil))) .nil)) | (apply call_l (first_ok (l := [_, _, _]) (Nat.le_of_ble_eq_true rfl)) (.cons (vm_lit _ rfl rfl (.cons (vm_int rfl) (.cons (vm_int rfl) (.cons (vm_int rfl) .nil)))) .nil)) | (apply call_l (first_ok (l := [_, _, _, _]) (Nat.le_of_ble_eq_true rfl)) (.cons (vm_lit _ rfl rfl (.cons (vm_int rfl) (.cons (vm_int rfl) (.cons (vm_int rfl) (.cons (vm_int rfl) .nil))))) .nil))) <;> (try (exfalso; omega; done)) <;> (with_reducible conv => whnf))
    exact ret0 vm_p
  by_cases hq : queryE ⟨m, h, lo, hi, f⟩ = 0
  case neg =>
    refine fn_i hmix hT Try.f5 (by kernel_rfl) rfl (by kernel_rfl) ?_
    with_reducible conv => whnf
    repeat' ((first | (with_reducible refine branch_t ?_) | (with_reducible refine branch_f ?_) | (with_reducible refine branch_nt ?_) | (with_reducible refine branch_nf ?_) | (with_reducible refine branch_dec (fun _ => ?_) (fun _ => ?_)) | (with_reducible refine branch_ndec (fun _ => ?_) (fun _ => ?_)) | (with_reducible refine branch_bool (fun _ => ?_) (fun _ => ?_)) | (with_reducible refine arith_64 (by omega) ?_) | (with_reducible refine ob_i (by omega) (fun _ => ?_)) | (with_reducible refine ob_i (by unfold room; omega) (fun _ => ?_)) | (with_reducible refine ob_i (by (try simp only [toN_eq, Int.toNat_natCast] at *); (try dsimp only [toN] at *); omega) (fun _ => ?_)) | (with_reducible refine arith_64 (by (try simp only [toN_eq, Int.toNat_natCast] at *); (try dsimp only [toN] at *); omega) ?_) | (with_reducible refine ob_k rfl ?_) | ((with_reducible refine ob_k ?_ ?_); focus kernel_rfl) | (refine yield_i hmix hT rfl hL efr eps eag ebd rfl (by kernel_rfl) ?_) | (apply call_u AW) | (apply call_u RE) | (apply call_u QE) | (apply call_l (first_ok (l := [_, _]) (Nat.le_of_ble_eq_true rfl)) (.cons (vm_lit _ rfl rfl (.cons (vm_int rfl) (.cons (vm_int rfl) .nil))) .nil)) | (apply call_l (first_ok (l := [_, _, _]) (Nat.le_of_ble_eq_true rfl)) (.cons (vm_lit _ rfl rfl (.cons (vm_int rfl) (.cons (vm_int rfl) (.cons (vm_int rfl) .nil)))) .nil)) | (apply call_l (first_ok (l := [_, _, _, _]) (Nat.le_of_ble_eq_true rfl)) (.cons (vm_lit _ rfl rfl (.cons (vm_int rfl) (.cons (vm_int rfl) (.cons (vm_int rfl) (.cons (vm_int rfl) .nil))))) .nil))) <;> (try (exfalso; omega; done)) <;> (with_reducible conv => whnf))
    exact ret0 vm_p
  rw [h0] at RE
  rw [hq] at QE
  have MD := mod_ok (n := at_) (b := (l.length : Int) + 1) ha (by omega)
  have m1 := Int.emod_lt_of_pos at_ (show 0 < (l.length : Int) + 1 by omega)
  have m2 := Int.emod_nonneg at_ (show (l.length : Int) + 1 ≠ 0 by omega)
  generalize at_ % ((l.length : Int) + 1) = kk at MD m1 m2
  obtain ⟨k, rfl⟩ : ∃ k : Nat, kk = k := ⟨kk.toNat, by omega⟩
  refine fn_i hmix hT Try.f5 (by kernel_rfl) rfl (by kernel_rfl) ?_
  with_reducible conv => whnf
  repeat' ((first | (with_reducible refine branch_t ?_) | (with_reducible refine branch_f ?_) | (with_reducible refine branch_nt ?_) | (with_reducible refine branch_nf ?_) | (with_reducible refine branch_dec (fun _ => ?_) (fun _ => ?_)) | (with_reducible refine branch_ndec (fun _ => ?_) (fun _ => ?_)) | (with_reducible refine branch_bool (fun _ => ?_) (fun _ => ?_)) | (with_reducible refine arith_64 (by omega) ?_) | (with_reducible refine ob_i (by omega) (fun _ => ?_)) | (with_reducible refine ob_i (by unfold room; omega) (fun _ => ?_)) | (with_reducible refine ob_i (by (try simp only [toN_eq, Int.toNat_natCast] at *); (try dsimp only [toN] at *); omega) (fun _ => ?_)) | (with_reducible refine arith_64 (by (try simp only [toN_eq, Int.toNat_natCast] at *); (try dsimp only [toN] at *); omega) ?_) | (with_reducible refine ob_k rfl ?_) | ((with_reducible refine ob_k ?_ ?_); focus kernel_rfl) | (refine yield_i hmix hT rfl hL efr eps eag ebd rfl (by kernel_rfl) ?_) | (apply call_u AW) | (apply call_u RE) | (apply call_u QE) | (apply call_u MD) | (apply call_l (first_ok (l := [_, _]) (Nat.le_of_ble_eq_true rfl)) (.cons (vm_lit _ rfl rfl (.cons (vm_int rfl) (.cons (vm_int rfl) .nil))) .nil)) | (apply call_l (first_ok (l := [_, _, _]) (Nat.le_of_ble_eq_true rfl)) (.cons (vm_lit _ rfl rfl (.cons (vm_int rfl) (.cons (vm_int rfl) (.cons (vm_int rfl) .nil)))) .nil)) | (apply call_l (first_ok (l := [_, _, _, _]) (Nat.le_of_ble_eq_true rfl)) (.cons (vm_lit _ rfl rfl (.cons (vm_int rfl) (.cons (vm_int rfl) (.cons (vm_int rfl) (.cons (vm_int rfl) .nil))))) .nil))) <;> (try (exfalso; omega; done)) <;> (with_reducible conv => whnf))
  have R1 : recsE (l.take k) = 0 := recsE_sub h0 (fun r hr => List.mem_of_mem_take hr) (by rw [List.length_take]; omega)
  have R2 : recsE (l.drop k) = 0 := recsE_sub h0 (fun r hr => List.mem_of_mem_drop hr) (by rw [List.length_drop]; omega)
  have R3 : recsE l.reverse = 0 := recsE_sub h0 (fun r hr => List.mem_reverse.1 hr) (by rw [List.length_reverse]; omega)
  have C0 := cntOf_ok h0 hq
  have C1 := cntOf_ok R1 hq
  have C2 := cntOf_ok R2 hq
  have C3 := cntOf_ok R3 hq
  have P0 := cnt_parts ⟨m, h, lo, hi, f⟩ l k
  have P1 := cnt_rev ⟨m, h, lo, hi, f⟩ l
  have P2 := cnt_le ⟨m, h, lo, hi, f⟩ l
  have P3 := cnt_le ⟨m, h, lo, hi, f⟩ (l.take k)
  have P4 := cnt_le ⟨m, h, lo, hi, f⟩ (l.drop k)
  rw [P1.1, P1.2] at C3
  have l1 : (l.take k).length = k := by rw [List.length_take]; omega
  have l2 : (l.drop k).length = l.length - k := List.length_drop
  clear RE QE MD P1
  refine loop_i hmix hT (fun j : Nat => ([(0, eRcs l), (2, I at_), (4, .ptr 0 0), (7, I k), (8, .own 1 6 0 j), (9, I ((l.length : Int) - 1 - j))], ⟨2, [(1, .row 6 j (fun i => eRc (l.reverse.getD i rc0)) 70), (0, .cells [I m, I h, I lo, I hi, I f] 53)]⟩)) (fun j => j ≤ l.length) (fun j => l.length - j) 0 (by omega) ?_ ?_
  · refine ⟨[(1, none)], rfl, ?_, ?_⟩ <;> repeat' (first | exact trivial | exact vm_p | exact vm_ptr rfl rfl rfl | exact vm_yld rfl rfl | exact vm_own rfl rfl rfl rfl | exact vm_own rfl rfl (by omega) (by omega) | exact vm_int (by omega) | exact vm_nil rfl | exact sbm_cells vmL_p | exact sbm_row rfl (fun _ _ => vm_p) | refine ⟨⟨_, rfl, ?_⟩, ?_⟩ | refine ⟨⟨_, _, _, rfl⟩, ?_⟩ | (refine sbm_loop ?_; rw [efr]) | refine sbm_cells ?_ | refine vmL.cons ?_ ?_ | exact vmL.nil | refine vm_own rfl rfl rfl ?_)
  intro j hj
  by_cases hj2 : j < l.length
  · with_reducible conv => whnf
    repeat' ((first | (with_reducible refine branch_t ?_) | (with_reducible refine branch_f ?_) | (with_reducible refine branch_nt ?_) | (with_reducible refine branch_nf ?_) | (with_reducible refine branch_dec (fun _ => ?_) (fun _ => ?_)) | (with_reducible refine branch_ndec (fun _ => ?_) (fun _ => ?_)) | (with_reducible refine branch_bool (fun _ => ?_) (fun _ => ?_)) | (with_reducible refine arith_64 (by omega) ?_) | (with_reducible refine ob_i (by omega) (fun _ => ?_)) | (with_reducible refine ob_i (by unfold room; omega) (fun _ => ?_)) | (with_reducible refine ob_i (by (try simp only [] at *); (try dsimp only [toN] at *); omega) (fun _ => ?_)) | (with_reducible refine arith_64 (by (try simp only [] at *); (try dsimp only [toN] at *); omega) ?_) | (with_reducible refine ob_k rfl ?_) | ((with_reducible refine ob_k ?_ ?_); focus kernel_rfl) | (refine yield_i hmix hT rfl hL efr eps eag ebd rfl (by kernel_rfl) ?_)  | (apply call_l (first_ok (l := [_, _]) (Nat.le_of_ble_eq_true rfl)) (.cons (vm_lit _ rfl rfl (.cons (vm_int rfl) (.cons (vm_int rfl) .nil))) .nil)) | (apply call_l (first_ok (l := [_, _, _]) (Nat.le_of_ble_eq_true rfl)) (.cons (vm_lit _ rfl rfl (.cons (vm_int rfl) (.cons (vm_int rfl) (.cons (vm_int rfl) .nil)))) .nil)) | (apply call_l (first_ok (l := [_, _, _, _]) (Nat.le_of_ble_eq_true rfl)) (.cons (vm_lit _ rfl rfl (.cons (vm_int rfl) (.cons (vm_int rfl) (.cons (vm_int rfl) (.cons (vm_int rfl) .nil))))) .nil))) <;> (try (exfalso; omega; done)) <;> (with_reducible conv => whnf))
    refine ⟨j + 1, by omega, by omega, ?_⟩
    refine ⟨[(1, some 3)], rfl, ?_, ?_⟩ <;> repeat' (first | exact trivial | exact vm_p | exact vm_ptr rfl rfl rfl | exact vm_yld rfl rfl | exact vm_own rfl rfl rfl rfl | exact vm_own rfl rfl (by omega) (by omega) | exact vm_int (by omega) | exact vm_nil rfl | exact sbm_cells vmL_p | exact sbm_row rfl (fun _ _ => vm_p) | refine ⟨⟨_, rfl, ?_⟩, ?_⟩ | refine ⟨⟨_, _, _, rfl⟩, ?_⟩ | (refine sbm_loop ?_; rw [efr]) | refine sbm_cells ?_ | refine vmL.cons ?_ ?_ | exact vmL.nil | refine vm_own rfl rfl rfl ?_)
    refine sbm_row rfl fun i hi => vm_snoc (e' := fun i => eRc (l.reverse.getD i rc0)) hi (fun _ _ => vm_p) ?_
    rw [rev_at hj2, show toN ((l.length : Int) - 1 - j) = l.length - 1 - j by rw [toN_eq]; omega]
    exact vm_p
  obtain rfl : j = l.length := by omega
  have tk : toN (k : Int) = k := toN_nat k
  have tl : toN (l.length : Int) = l.length := toN_nat _
  have qv : (0 ≤ lo ∧ lo ≤ 9) ∧ (0 ≤ hi ∧ hi ≤ 9) ∧ lo ≤ hi := by unfold queryE at hq; grind
  by_cases hlh : lo = hi
  · dsimp only [List.append]
    with_reducible conv => whnf
    repeat' ((first | (with_reducible refine branch_t ?_) | (with_reducible refine branch_f ?_) | (with_reducible refine branch_nt ?_) | (with_reducible refine branch_nf ?_) | (with_reducible refine branch_dec (fun _ => ?_) (fun _ => ?_)) | (with_reducible refine branch_ndec (fun _ => ?_) (fun _ => ?_)) | (with_reducible refine branch_bool (fun _ => ?_) (fun _ => ?_)) | (with_reducible refine arith_64 (by omega) ?_) | (with_reducible refine ob_i (by omega) (fun _ => ?_)) | (with_reducible refine ob_i (by unfold room; omega) (fun _ => ?_)) | (with_reducible refine ob_i (by (try simp only [] at *); (try dsimp only [toN] at *); omega) (fun _ => ?_)) | (with_reducible refine arith_64 (by (try simp only [] at *); (try dsimp only [toN] at *); omega) ?_) | (with_reducible refine ob_k rfl ?_) | ((with_reducible refine ob_k ?_ ?_); focus kernel_rfl) | (refine yield_i hmix hT rfl hL efr eps eag ebd rfl (by kernel_rfl) ?_) | (apply call_u (copyRecords_ok (l := l) (by omega))) | (apply call_i (copyRecords_ok (l := l.take k) (by omega)) (.cons (vm_take (by omega) (by rw [tk]; rfl) rfl) .nil) (pureS_no _) (rv_pure IsPure.h)) | (apply call_i (copyRecords_ok (l := l.drop k) (by omega)) (.cons (vm_drop (by omega) (by rw [tk, tl]) tk) .nil) (pureS_no _) (rv_pure IsPure.h)) | (apply call_u C0) | (apply call_u C1) | (apply call_u C2) | (apply call_l C3 (.cons (vm_fr rfl rfl (by simp) (Nat.le_refl _) fun i hi => vm_p) (.cons vm_p .nil))) | (apply call_u bWithin_ok) | (refine gen_eq2 rfl rfl rfl rfl (by kernel_rfl) (by kernel_rfl) (fun _ => ?_) (fun _ => ?_)) | (refine gen_ne2 rfl rfl rfl rfl (by kernel_rfl) (by kernel_rfl) (fun _ => ?_) (fun _ => ?_)) | (apply call_l (first_ok (l := [_, _]) (Nat.le_of_ble_eq_true rfl)) (.cons (vm_lit _ rfl rfl (.cons (vm_int rfl) (.cons (vm_int rfl) .nil))) .nil)) | (apply call_l (first_ok (l := [_, _, _]) (Nat.le_of_ble_eq_true rfl)) (.cons (vm_lit _ rfl rfl (.cons (vm_int rfl) (.cons (vm_int rfl) (.cons (vm_int rfl) .nil)))) .nil)) | (apply call_l (first_ok (l := [_, _, _, _]) (Nat.le_of_ble_eq_true rfl)) (.cons (vm_lit _ rfl rfl (.cons (vm_int rfl) (.cons (vm_int rfl) (.cons (vm_int rfl) (.cons (vm_int rfl) .nil))))) .nil))) <;> (try (exfalso; omega; done)) <;> (with_reducible conv => whnf))
    all_goals exact ret0 vm_p
  have MD := mod_ok (n := at_) (b := hi - lo) ha (by omega)
  have m3 := Int.emod_lt_of_pos at_ (show 0 < hi - lo by omega)
  have m4 := Int.emod_nonneg at_ (show hi - lo ≠ 0 by omega)
  generalize at_ % (hi - lo) = d at MD m3 m4
  have Q1 : queryE ⟨m, h, lo, lo + d, f⟩ = 0 := by unfold queryE at hq ⊢; grind
  have Q2 : queryE ⟨m, h, lo + d + 1, hi, f⟩ = 0 := by unfold queryE at hq ⊢; grind
  have C4 := cntOf_ok h0 Q1
  have C5 := cntOf_ok h0 Q2
  have P5 := cnt_cut (m := m) (h := h) (f := f) (show lo ≤ lo + d by omega) (show lo + d < hi by omega) l
  have P6 := cnt_le ⟨m, h, lo, lo + d, f⟩ l
  have P7 := cnt_le ⟨m, h, lo + d + 1, hi, f⟩ l
  dsimp only [List.append]
  with_reducible conv => whnf
  repeat' ((first | (with_reducible refine branch_t ?_) | (with_reducible refine branch_f ?_) | (with_reducible refine branch_nt ?_) | (with_reducible refine branch_nf ?_) | (with_reducible refine branch_dec (fun _ => ?_) (fun _ => ?_)) | (with_reducible refine branch_ndec (fun _ => ?_) (fun _ => ?_)) | (with_reducible refine branch_bool (fun _ => ?_) (fun _ => ?_)) | (with_reducible refine arith_64 (by omega) ?_) | (with_reducible refine ob_i (by omega) (fun _ => ?_)) | (with_reducible refine ob_i (by unfold room; omega) (fun _ => ?_)) | (with_reducible refine ob_i (by (try simp only [] at *); (try dsimp only [toN] at *); omega) (fun _ => ?_)) | (with_reducible refine arith_64 (by (try simp only [] at *); (try dsimp only [toN] at *); omega) ?_) | (with_reducible refine ob_k rfl ?_) | ((with_reducible refine ob_k ?_ ?_); focus kernel_rfl) | (refine yield_i hmix hT rfl hL efr eps eag ebd rfl (by kernel_rfl) ?_) | (apply call_u (copyRecords_ok (l := l) (by omega))) | (apply call_i (copyRecords_ok (l := l.take k) (by omega)) (.cons (vm_take (by omega) (by rw [tk]; rfl) rfl) .nil) (pureS_no _) (rv_pure IsPure.h)) | (apply call_i (copyRecords_ok (l := l.drop k) (by omega)) (.cons (vm_drop (by omega) (by rw [tk, tl]) tk) .nil) (pureS_no _) (rv_pure IsPure.h)) | (apply call_u C0) | (apply call_u C1) | (apply call_u C2) | (apply call_u C4) | (apply call_u C5) | (apply call_l C3 (.cons (vm_fr rfl rfl (by simp) (Nat.le_refl _) fun i hi => vm_p) (.cons vm_p .nil))) | (apply call_u bWithin_ok) | (apply call_u MD) | (refine gen_eq2 rfl rfl rfl rfl (by kernel_rfl) (by kernel_rfl) (fun _ => ?_) (fun _ => ?_)) | (refine gen_ne2 rfl rfl rfl rfl (by kernel_rfl) (by kernel_rfl) (fun _ => ?_) (fun _ => ?_)) | (apply call_l (first_ok (l := [_, _]) (Nat.le_of_ble_eq_true rfl)) (.cons (vm_lit _ rfl rfl (.cons (vm_int rfl) (.cons (vm_int rfl) .nil))) .nil)) | (apply call_l (first_ok (l := [_, _, _]) (Nat.le_of_ble_eq_true rfl)) (.cons (vm_lit _ rfl rfl (.cons (vm_int rfl) (.cons (vm_int rfl) (.cons (vm_int rfl) .nil)))) .nil)) | (apply call_l (first_ok (l := [_, _, _, _]) (Nat.le_of_ble_eq_true rfl)) (.cons (vm_lit _ rfl rfl (.cons (vm_int rfl) (.cons (vm_int rfl) (.cons (vm_int rfl) (.cons (vm_int rfl) .nil))))) .nil))) <;> (try (exfalso; omega; done)) <;> (with_reducible conv => whnf))
  all_goals exact ret0 vm_p
end Go.Proofs.Ytfmbgkbnmjbefaa
