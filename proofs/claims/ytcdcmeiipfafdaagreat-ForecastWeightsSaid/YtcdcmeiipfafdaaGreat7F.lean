/-
  Chapter 7: the laws ForecastCounts and ForecastOnce (by contract).
  Conditions: none.
-/
import Derived.Test.YtcdcmeiipfafdaaGreat7D
namespace Go.Proofs.YtcdcmeiipfafdaaGreat
open Go.RowKit Fx
theorem val_recs {l : List Rc} (h : recsE l = 0) : recsC l = (0, 0) := by
  obtain ⟨h1, h2⟩ := recs_val h
  unfold recsC
  rw [if_neg (by omega), findErr_none recE rc0 l 0 h2]
/-! ### Counted once -/
def tot (q : Qr) (l : List Rc) : Nat := l.countP (cntB q)
def usd (q : Qr) (l : List Rc) : Nat := l.countP fun r => cntB q r && inB q.f (r.lo, r.hi)
theorem selK_cnt (q : Qr) (l : List Rc) : ∀ k, k ≤ l.length → (selK q l k).length = tot q (l.take k) ∧ num (selK q l k) q.f = usd q (l.take k)
  | 0, _ => by simp [selK, tot, usd, num, numK]
  | k + 1, h => by
    obtain ⟨i1, i2⟩ := selK_cnt q l k (by omega)
    have e : l.take (k + 1) = l.take k ++ [l.getD k rc0] := by
      rw [List.take_add_one, List.getD_eq_getElem?_getD, List.getElem?_eq_getElem (by omega : k < l.length)]; rfl
    unfold tot usd at *
    rw [e, List.countP_append, List.countP_append, ← i1, ← i2]
    by_cases hc : cntB q (l.getD k rc0) = true
    · rw [selK_yes hc, num_snoc]
      simp only [List.length_append, List.length_singleton, List.countP_singleton, hc, if_true, Bool.true_and, true_and]
      split <;> simp
    · rw [selK_no hc]
      simp only [List.countP_singleton, hc, Bool.false_eq_true, if_false]
      simp
theorem sel_cnt (q : Qr) (l : List Rc) : (sel q l).length = tot q l ∧ num (sel q l) q.f = usd q l := by
  have := selK_cnt q l l.length (Nat.le_refl _)
  rwa [List.take_length] at this
theorem cnt_parts (q : Qr) (l : List Rc) (k : Nat) : tot q (l.take k) + tot q (l.drop k) = tot q l ∧ usd q (l.take k) + usd q (l.drop k) = usd q l := by
  unfold tot usd
  constructor
  · rw [← List.countP_append, List.take_append_drop]
  · rw [← List.countP_append, List.take_append_drop]
theorem cnt_rev (q : Qr) (l : List Rc) : tot q l.reverse = tot q l ∧ usd q l.reverse = usd q l := by
  unfold tot usd
  exact ⟨List.countP_reverse, List.countP_reverse⟩
theorem cnt_le (q : Qr) (l : List Rc) : usd q l ≤ tot q l ∧ tot q l ≤ l.length := by
  unfold tot usd
  refine ⟨List.countP_mono_left fun r _ h => ?_, List.countP_le_length⟩
  simp only [Bool.and_eq_true] at h
  exact h.1
theorem cnt_cut {m h lo hi f c : Int} (h1 : lo ≤ c) (h2 : c < hi) : ∀ l : List Rc, tot ⟨m, h, lo, c, f⟩ l + tot ⟨m, h, c + 1, hi, f⟩ l = tot ⟨m, h, lo, hi, f⟩ l ∧ usd ⟨m, h, lo, c, f⟩ l + usd ⟨m, h, c + 1, hi, f⟩ l = usd ⟨m, h, lo, hi, f⟩ l
  | [] => by simp [tot, usd]
  | r :: l => by
    obtain ⟨i1, i2⟩ := cnt_cut (m := m) (h := h) (f := f) h1 h2 l
    unfold tot usd at *
    simp only [List.countP_cons]
    have key : ∀ b : Bool, (if (cntB ⟨m, h, lo, c, f⟩ r && b) = true then 1 else 0) + (if (cntB ⟨m, h, c + 1, hi, f⟩ r && b) = true then 1 else 0) = (if (cntB ⟨m, h, lo, hi, f⟩ r && b) = true then 1 else 0) := fun b => by
      cases b
      · simp
      · simp only [Bool.and_true]
        unfold cntB
        simp only [decide_eq_true_eq]
        grind
    have k1 := key true
    have k2 := key (inB f (r.lo, r.hi))
    simp only [Bool.and_true] at k1
    dsimp only at *
    omega
theorem recsE_sub {l m : List Rc} (h : recsE l = 0) (hs : ∀ r ∈ m, r ∈ l) (hl : m.length ≤ 400) : recsE m = 0 := by
  obtain ⟨v1, v2⟩ := recs_val h
  unfold recsE recsC
  rw [if_neg (by omega), findErr_none recE rc0 m 0]
  intro i hi
  have hm : m.getD i rc0 ∈ m := by
    rw [List.getD_eq_getElem?_getD, List.getElem?_eq_getElem hi]
    exact List.getElem_mem hi
  obtain ⟨j, hj, e⟩ := List.getElem_of_mem (hs _ hm)
  have := v2 j hj
  rwa [List.getD_eq_getElem?_getD, List.getElem?_eq_getElem hj, Option.getD_some, e] at this
theorem mod_ok {n b : Int} (hn : -9223372036854775808 ≤ n ∧ n ≤ 9223372036854775807) (hb : 0 < b ∧ b ≤ 9223372036854775807) : FnOK Tryz.prog 21 [I n, I b] (I (n % b)) [] := by
  have a1 := Int.mul_tdiv_add_tmod n b
  have a2 := tmod_bd n (b := b) (by omega)
  have a3 := Int.mul_ediv_add_emod n b
  have a4 := Int.emod_lt_of_pos n hb.1
  have a5 := Int.emod_nonneg n (show b ≠ 0 by omega)
  have a6 : (n.tmod b < 0 → n % b = n.tmod b + b) ∧ (0 ≤ n.tmod b → n % b = n.tmod b) := by
    rw [Int.tmod_eq_emod]
    by_cases hc : 0 ≤ n ∨ b ∣ n
    · rw [if_pos hc]; omega
    · rw [if_neg hc]; omega
  refine fn_i hmix hT Tryz.f21 (by kernel_rfl) rfl (by kernel_rfl) ?_
  with_reducible conv => whnf
  repeat' ((first | (with_reducible refine branch_t ?_) | (with_reducible refine branch_f ?_) | (with_reducible refine branch_nt ?_) | (with_reducible refine branch_nf ?_) | (with_reducible refine branch_dec (fun _ => ?_) (fun _ => ?_)) | (with_reducible refine branch_ndec (fun _ => ?_) (fun _ => ?_)) | (with_reducible refine branch_bool (fun _ => ?_) (fun _ => ?_)) | (with_reducible refine arith_64 (by omega) ?_) | (with_reducible refine ob_i (by omega) (fun _ => ?_)) | (with_reducible refine ob_i (by unfold room; omega) (fun _ => ?_)) | (with_reducible refine ob_i (by (try simp only [toN_eq, Int.toNat_natCast] at *); (try dsimp only [toN] at *); omega) (fun _ => ?_)) | (with_reducible refine arith_64 (by (try simp only [toN_eq, Int.toNat_natCast] at *); (try dsimp only [toN] at *); omega) ?_) | (with_reducible refine ob_k rfl ?_) | ((with_reducible refine ob_k ?_ ?_); focus kernel_rfl) | (refine yield_i hmix hT rfl hL efr eps eag ebd rfl (by kernel_rfl) ?_)  | (apply call_l (first_ok (l := [_, _]) (Nat.le_of_ble_eq_true rfl)) (.cons (vm_lit _ rfl rfl (.cons (vm_int rfl) (.cons (vm_int rfl) .nil))) .nil)) | (apply call_l (first_ok (l := [_, _, _]) (Nat.le_of_ble_eq_true rfl)) (.cons (vm_lit _ rfl rfl (.cons (vm_int rfl) (.cons (vm_int rfl) (.cons (vm_int rfl) .nil)))) .nil)) | (apply call_l (first_ok (l := [_, _, _, _]) (Nat.le_of_ble_eq_true rfl)) (.cons (vm_lit _ rfl rfl (.cons (vm_int rfl) (.cons (vm_int rfl) (.cons (vm_int rfl) (.cons (vm_int rfl) .nil))))) .nil))) <;> (try (exfalso; omega; done)) <;> (with_reducible conv => whnf))
  · exact ret0 (vm_int (a6.1 (by omega)).symm)
  · exact ret0 (vm_int (a6.2 (by omega)).symm)
theorem vm_take {S : Vw} {l : List Rc} {k : Nat} {n : Nat} (hk : k ≤ l.length) (hn : n = k) {o : Nat} (ho : o = 0) : vm S (.sl 6 n fun j => eRc (l.getD (o + j) rc0)) (eRcs (l.take k)) := by
  subst hn ho
  refine vm_sl (by simp; omega) fun i hi => ?_
  rw [List.length_take] at hi
  have e : (l.take n).getD i rc0 = l.getD (0 + i) rc0 := by
    rw [List.getD_eq_getElem?_getD, List.getElem?_take_of_lt (by omega), List.getD_eq_getElem?_getD, Nat.zero_add]
  rw [e]
  exact vm_p
theorem vm_drop {S : Vw} {l : List Rc} {k n o : Nat} (hk : k ≤ l.length) (hn : n = l.length - k) (ho : o = k) : vm S (.sl 6 n fun j => eRc (l.getD (o + j) rc0)) (eRcs (l.drop k)) := by
  subst hn ho
  refine vm_sl (by simp) fun i hi => ?_
  have e : (l.drop o).getD i rc0 = l.getD (o + i) rc0 := by
    rw [List.getD_eq_getElem?_getD, List.getElem?_drop, List.getD_eq_getElem?_getD]
  rw [e]
  exact vm_p
theorem cntOf_ok {l : List Rc} {q : Qr} (h1 : recsE l = 0) (h2 : queryE q = 0) : FnOK Tryz.prog 55 [eRcs l, eQr q] (.tup [.agg [I (usd q l), I (tot q l)], I 0]) [] := by
  have := countOf_good (l := l) (q := q) (by unfold cntE; rw [if_neg (by omega)]; exact h2)
  rwa [(sel_cnt q l).1, (sel_cnt q l).2] at this
theorem rev_at {l : List Rc} {j : Nat} (h : j < l.length) : l.reverse.getD j rc0 = l.getD (l.length - 1 - j) rc0 := by
  rw [List.getD_eq_getElem?_getD, List.getElem?_reverse h, List.getD_eq_getElem?_getD]
end Go.Proofs.YtcdcmeiipfafdaaGreat
