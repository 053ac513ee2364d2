/-
  Chapter 7: the document's windows (by contract).
  Conditions: none.
-/
import Derived.Test.Ytpfknijmipklaaa7Pc
namespace Go.Proofs.Ytpfknijmipklaaa
open Go.RowKit Fx
/-! ### By how much the number of ranges changes -/
def addN (c : Nat → Int) (i : Nat) (d : Int) (j : Nat) : Int := if j = i then c j + d else c j
def chgF (l : List Rc) (q : Qr) : Nat → Nat → Int
  | 0 => fun _ => 0
  | k + 1 => if cntB q (l.getD k rc0) = true then addN (addN (chgF l q k) (l.getD k rc0).lo.toNat 1) ((l.getD k rc0).hi + 1).toNat (-1) else chgF l q k
def preK (c : Nat → Int) : Nat → Int
  | 0 => 0
  | f + 1 => preK c f + c f
theorem preK_add (c : Nat → Int) (i : Nat) (d : Int) : ∀ F, preK (addN c i d) F = preK c F + if i < F then d else 0
  | 0 => by simp [preK]
  | F + 1 => by
    rw [preK, preK, preK_add c i d F]
    unfold addN
    by_cases h : F = i
    · subst h
      rw [if_pos rfl, if_neg (by omega), if_pos (by omega)]; omega
    · rw [if_neg h]
      by_cases h2 : i < F
      · rw [if_pos h2, if_pos (by omega)]; omega
      · rw [if_neg h2, if_neg (by omega)]; omega
theorem preK_zero : ∀ F, preK (fun _ => 0) F = 0
  | 0 => rfl
  | F + 1 => by rw [preK, preK_zero F]; rfl
theorem pre_num {l : List Rc} {q : Qr} (h : recsE l = 0) {f : Nat} : ∀ k, k ≤ l.length → preK (chgF l q k) (f + 1) = num (selK q l k) f
  | 0, _ => preK_zero _
  | k + 1, hk => by
    have ih := pre_num h (q := q) (f := f) k (by omega)
    rw [chgF]
    by_cases c : cntB q (l.getD k rc0) = true
    · rw [if_pos c, preK_add, preK_add, ih, selK_yes c, num_snoc]
      obtain ⟨v1, v2⟩ := recs_val h
      have v := v2 k (by omega)
      have b : 0 ≤ (l.getD k rc0).lo ∧ (l.getD k rc0).lo ≤ (l.getD k rc0).hi := by
        unfold recE rangeE at v; grind
      unfold inB
      by_cases c2 : (l.getD k rc0).lo ≤ (f : Int)
      · by_cases c3 : (f : Int) ≤ (l.getD k rc0).hi
        · rw [if_pos (by omega), if_neg (by omega), if_pos (decide_eq_true ⟨c2, c3⟩)]; omega
        · rw [if_pos (by omega), if_pos (by omega), if_neg fun h => c3 (of_decide_eq_true h).2]; omega
      · rw [if_neg (by omega), if_neg (by omega), if_neg fun h => c2 (of_decide_eq_true h).1]; omega
    · rw [if_neg c, ih, selK_no c]
theorem rec_bd {l : List Rc} (h : recsE l = 0) {k : Nat} (hk : k < l.length) : 0 ≤ (l.getD k rc0).lo ∧ (l.getD k rc0).lo ≤ (l.getD k rc0).hi ∧ (l.getD k rc0).hi ≤ 3000 := by
  obtain ⟨v1, v2⟩ := recs_val h
  have v := v2 k hk
  unfold recE rangeE at v; grind
theorem chgF_bd (l : List Rc) (q : Qr) (j : Nat) : ∀ k : Nat, -(2 * k : Int) ≤ chgF l q k j ∧ chgF l q k j ≤ 2 * k
  | 0 => ⟨by simp [chgF], by simp [chgF]⟩
  | k + 1 => by
    have := chgF_bd l q j k
    rw [chgF]
    split
    · unfold addN
      split <;> split <;> omega
    · omega
theorem runK_len (p : Nat → Bool) : ∀ k, (runK p k).length ≤ k
  | 0 => Nat.le_refl _
  | k + 1 => by
    have := runK_len p k
    rw [runK]; unfold runS
    split
    · split
      · rw [List.length_set]; omega
      · rw [List.length_append]; simp only [List.length_cons, List.length_nil]; omega
    · omega
theorem sbm_add {S : Vw} {c : Nat → Int} {a b n : Nat} {t : TypeId} (hab : b ≠ a) :
    sbm S (.row 1 n (setF (setF (fun i => I (c i)) a (I (c a + 1))) b (I (c b - 1))) t) (.row 1 n (fun i => I (addN (addN c a 1) b (-1) i)) t) := by
  refine sbm_row rfl fun i hi => ?_
  unfold addN
  by_cases h1 : i = b
  · subst h1
    rw [setF_at, if_pos rfl, if_neg hab]; exact vm_int (by omega)
  · rw [setF_ne h1, if_neg h1]
    by_cases h2 : i = a
    · subst h2
      rw [setF_at, if_pos rfl]; exact vm_p
    · rw [setF_ne h2, if_neg h2]; exact vm_p
set_option maxHeartbeats 4000000 in
set_option maxRecDepth 100000 in
theorem rWindows_ok {l : List Rc} {q : Qr} {s : Int} (hr : recsE l = 0) (hs : 1 ≤ s ∧ s ≤ 1000) : FnOK Try.prog 16 [eRcs l, eQr q, I s] (ePs (runK (enf (sel q l) s) 3001)) [] := by
  obtain ⟨v1, v2⟩ := recs_val hr
  have sl := selK_len q l l.length
  have sl : (sel q l).length ≤ 400 := by unfold sel; omega
  refine fn_i hmix hT Try.f16 (by kernel_rfl) rfl (by kernel_rfl) ?_
  with_reducible conv => whnf
  repeat' ((first | (with_reducible refine branch_t ?_) | (with_reducible refine branch_f ?_) | (with_reducible refine branch_nt ?_) | (with_reducible refine branch_nf ?_) | (with_reducible refine branch_dec (fun _ => ?_) (fun _ => ?_)) | (with_reducible refine branch_ndec (fun _ => ?_) (fun _ => ?_)) | (with_reducible refine branch_bool (fun _ => ?_) (fun _ => ?_)) | (with_reducible refine arith_64 (by omega) ?_) | (with_reducible refine ob_i (by omega) (fun _ => ?_)) | (with_reducible refine ob_i (by unfold room; omega) (fun _ => ?_)) | (with_reducible refine ob_i (by (try simp only [toN_eq, Int.toNat_natCast] at *); (try dsimp only [toN] at *); omega) (fun _ => ?_)) | (with_reducible refine arith_64 (by (try simp only [toN_eq, Int.toNat_natCast] at *); (try dsimp only [toN] at *); omega) ?_) | (with_reducible refine ob_k rfl ?_) | ((with_reducible refine ob_k ?_ ?_); focus kernel_rfl) | (refine yield_i hmix hT rfl hL efr eps eag ebd rfl (by kernel_rfl) ?_)  | (apply call_l (first_ok (l := [_, _]) (Nat.le_of_ble_eq_true rfl)) (.cons (vm_lit _ rfl rfl (.cons (vm_int rfl) (.cons (vm_int rfl) .nil))) .nil)) | (apply call_l (first_ok (l := [_, _, _]) (Nat.le_of_ble_eq_true rfl)) (.cons (vm_lit _ rfl rfl (.cons (vm_int rfl) (.cons (vm_int rfl) (.cons (vm_int rfl) .nil)))) .nil)) | (apply call_l (first_ok (l := [_, _, _, _]) (Nat.le_of_ble_eq_true rfl)) (.cons (vm_lit _ rfl rfl (.cons (vm_int rfl) (.cons (vm_int rfl) (.cons (vm_int rfl) (.cons (vm_int rfl) .nil))))) .nil))) <;> (try (exfalso; omega; done)) <;> (with_reducible conv => whnf))
  refine loop_i hmix hT (fun k : Nat => ([(0, eRcs l), (2, I s), (4, .ptr 0 0), (7, .own 1 1 0 3002), (8, I (selK q l k).length), (9, I k)], ⟨2, [(1, .row 1 3002 (fun i => I (chgF l q k i)) 3), (0, .cells [I q.m, I q.h, I q.lo, I q.hi, I q.f] 26)]⟩)) (fun k => k ≤ l.length) (fun k => l.length - k) 0 (by omega) ?_ ?_
  · refine ⟨[(1, some 1)], rfl, ?_, ?_⟩ <;> repeat' (first | exact trivial | exact vm_p | exact vm_ptr rfl rfl rfl | exact vm_yld rfl rfl | exact vm_own rfl rfl rfl rfl | exact vm_own rfl rfl (by omega) (by omega) | exact vm_int (by omega) | exact vm_nil rfl | exact sbm_cells vmL_p | exact sbm_row rfl (fun _ _ => vm_p) | refine ⟨⟨_, rfl, ?_⟩, ?_⟩ | refine ⟨⟨_, _, _, rfl⟩, ?_⟩ | (refine sbm_loop ?_; rw [efr]) | refine sbm_cells ?_ | refine vmL.cons ?_ ?_ | exact vmL.nil | refine vm_own rfl rfl rfl ?_)
  intro k hk
  have sk := selK_len q l k
  by_cases h : k < l.length
  · have tq : l.getD (toN (k : Int)) rc0 = l.getD k rc0 := by rw [toN_nat]
    have b := rec_bd hr h
    rw [← tq] at b
    have C1 := rCounts_ok (r := l.getD (toN (k : Int)) rc0) (q := q)
    have u0 : 0 + toN (l.getD (toN (k : Int)) rc0).lo = (l.getD (toN (k : Int)) rc0).lo.toNat := by rw [toN_eq, Nat.zero_add]
    have u1 : 0 + toN ((l.getD (toN (k : Int)) rc0).hi + 1) = ((l.getD (toN (k : Int)) rc0).hi + 1).toNat := by rw [toN_eq, Nat.zero_add]
    have d0 := chgF_bd l q (0 + toN (l.getD (toN (k : Int)) rc0).lo) k
    have d1 := chgF_bd l q (0 + toN ((l.getD (toN (k : Int)) rc0).hi + 1)) k
    cases c1 : cntB q (l.getD (toN (k : Int)) rc0) with
    | false =>
      rw [c1] at C1
      have c1' : ¬ cntB q (l.getD k rc0) = true := by rw [← tq, c1]; decide
      have nx : chgF l q (k + 1) = chgF l q k := by rw [chgF, if_neg c1']
      with_reducible conv => whnf
      repeat' ((first | (with_reducible refine branch_t ?_) | (with_reducible refine branch_f ?_) | (with_reducible refine branch_nt ?_) | (with_reducible refine branch_nf ?_) | (with_reducible refine branch_dec (fun _ => ?_) (fun _ => ?_)) | (with_reducible refine branch_ndec (fun _ => ?_) (fun _ => ?_)) | (with_reducible refine branch_bool (fun _ => ?_) (fun _ => ?_)) | (with_reducible refine arith_64 (by omega) ?_) | (with_reducible refine ob_i (by omega) (fun _ => ?_)) | (with_reducible refine ob_i (by unfold room; omega) (fun _ => ?_)) | (with_reducible refine ob_i (by (try simp only [toN_eq] at *); (try dsimp only [toN] at *); omega) (fun _ => ?_)) | (with_reducible refine arith_64 (by (try simp only [toN_eq] at *); (try dsimp only [toN] at *); omega) ?_) | (with_reducible refine ob_k rfl ?_) | ((with_reducible refine ob_k ?_ ?_); focus kernel_rfl) | (refine yield_i hmix hT rfl hL efr eps eag ebd rfl (by kernel_rfl) ?_) | (apply call_u C1) | (apply call_l (first_ok (l := [_, _]) (Nat.le_of_ble_eq_true rfl)) (.cons (vm_lit _ rfl rfl (.cons (vm_int rfl) (.cons (vm_int rfl) .nil))) .nil)) | (apply call_l (first_ok (l := [_, _, _]) (Nat.le_of_ble_eq_true rfl)) (.cons (vm_lit _ rfl rfl (.cons (vm_int rfl) (.cons (vm_int rfl) (.cons (vm_int rfl) .nil)))) .nil)) | (apply call_l (first_ok (l := [_, _, _, _]) (Nat.le_of_ble_eq_true rfl)) (.cons (vm_lit _ rfl rfl (.cons (vm_int rfl) (.cons (vm_int rfl) (.cons (vm_int rfl) (.cons (vm_int rfl) .nil))))) .nil))) <;> (try (exfalso; omega; done)) <;> (with_reducible conv => whnf))
      refine ⟨k + 1, by omega, by omega, ?_⟩
      rw [nx, selK_no c1']
      refine ⟨[(1, some 1)], rfl, ?_, ?_⟩ <;> repeat' (first | exact trivial | exact vm_p | exact vm_ptr rfl rfl rfl | exact vm_yld rfl rfl | exact vm_own rfl rfl rfl rfl | exact vm_own rfl rfl (by omega) (by omega) | exact vm_int (by omega) | exact vm_nil rfl | exact sbm_cells vmL_p | exact sbm_row rfl (fun _ _ => vm_p) | refine ⟨⟨_, rfl, ?_⟩, ?_⟩ | refine ⟨⟨_, _, _, rfl⟩, ?_⟩ | (refine sbm_loop ?_; rw [efr]) | refine sbm_cells ?_ | refine vmL.cons ?_ ?_ | exact vmL.nil | refine vm_own rfl rfl rfl ?_)
    | true =>
      rw [c1] at C1
      have c1' : cntB q (l.getD k rc0) = true := by rw [← tq, c1]
      have nx : chgF l q (k + 1) = addN (addN (chgF l q k) (0 + toN (l.getD (toN (k : Int)) rc0).lo) 1) (0 + toN ((l.getD (toN (k : Int)) rc0).hi + 1)) (-1) := by rw [chgF, if_pos c1', u0, u1, tq]
      with_reducible conv => whnf
      repeat' ((first | (with_reducible refine branch_t ?_) | (with_reducible refine branch_f ?_) | (with_reducible refine branch_nt ?_) | (with_reducible refine branch_nf ?_) | (with_reducible refine branch_dec (fun _ => ?_) (fun _ => ?_)) | (with_reducible refine branch_ndec (fun _ => ?_) (fun _ => ?_)) | (with_reducible refine branch_bool (fun _ => ?_) (fun _ => ?_)) | (with_reducible refine arith_64 (by omega) ?_) | (with_reducible refine ob_i (by omega) (fun _ => ?_)) | (with_reducible refine ob_i (by unfold room; omega) (fun _ => ?_)) | (with_reducible refine ob_i (by (try simp only [toN_eq] at *); (try dsimp only [toN] at *); omega) (fun _ => ?_)) | (with_reducible refine arith_64 (by (try simp only [toN_eq] at *); (try dsimp only [toN] at *); omega) ?_) | (with_reducible refine ob_k rfl ?_) | ((with_reducible refine ob_k ?_ ?_); focus kernel_rfl) | (refine yield_i hmix hT rfl hL efr eps eag ebd rfl (by kernel_rfl) ?_) | (apply call_u C1) | (refine elemK_of (setF_ne (by rw [u0, u1]; omega)) ?_) | (apply call_l (first_ok (l := [_, _]) (Nat.le_of_ble_eq_true rfl)) (.cons (vm_lit _ rfl rfl (.cons (vm_int rfl) (.cons (vm_int rfl) .nil))) .nil)) | (apply call_l (first_ok (l := [_, _, _]) (Nat.le_of_ble_eq_true rfl)) (.cons (vm_lit _ rfl rfl (.cons (vm_int rfl) (.cons (vm_int rfl) (.cons (vm_int rfl) .nil)))) .nil)) | (apply call_l (first_ok (l := [_, _, _, _]) (Nat.le_of_ble_eq_true rfl)) (.cons (vm_lit _ rfl rfl (.cons (vm_int rfl) (.cons (vm_int rfl) (.cons (vm_int rfl) (.cons (vm_int rfl) .nil))))) .nil))) <;> (try (exfalso; omega; done)) <;> (with_reducible conv => whnf))
      refine ⟨k + 1, by omega, by omega, ?_⟩
      rw [nx, selK_yes c1']
      refine ⟨[(1, some 1)], rfl, ?_, ?_⟩ <;> repeat' (first | exact trivial | exact vm_p | exact vm_ptr rfl rfl rfl | exact vm_yld rfl rfl | exact vm_own rfl rfl rfl rfl | exact vm_own rfl rfl (by omega) (by omega) | exact vm_int (by omega) | exact vm_nil rfl | exact sbm_cells vmL_p | exact sbm_row rfl (fun _ _ => vm_p) | refine ⟨⟨_, rfl, ?_⟩, ?_⟩ | refine ⟨⟨_, _, _, rfl⟩, ?_⟩ | (refine sbm_loop ?_; rw [efr]) | refine sbm_cells ?_ | refine vmL.cons ?_ ?_ | exact vmL.nil | refine vm_own rfl rfl rfl ?_)
      · exact vm_int (by rw [List.length_append]; simp)
      · exact sbm_add (by rw [u0, u1]; omega)
  · obtain rfl : k = l.length := by omega
    have pn := fun f : Nat => pre_num hr (q := q) (f := f) l.length (Nat.le_refl _)
    with_reducible conv => whnf
    repeat' ((first | (with_reducible refine branch_t ?_) | (with_reducible refine branch_f ?_) | (with_reducible refine branch_nt ?_) | (with_reducible refine branch_nf ?_) | (with_reducible refine branch_dec (fun _ => ?_) (fun _ => ?_)) | (with_reducible refine branch_ndec (fun _ => ?_) (fun _ => ?_)) | (with_reducible refine branch_bool (fun _ => ?_) (fun _ => ?_)) | (with_reducible refine arith_64 (by omega) ?_) | (with_reducible refine ob_i (by omega) (fun _ => ?_)) | (with_reducible refine ob_i (by unfold room; omega) (fun _ => ?_)) | (with_reducible refine ob_i (by (try simp only [toN_eq, Int.toNat_natCast] at *); (try dsimp only [toN] at *); omega) (fun _ => ?_)) | (with_reducible refine arith_64 (by (try simp only [toN_eq, Int.toNat_natCast] at *); (try dsimp only [toN] at *); omega) ?_) | (with_reducible refine ob_k rfl ?_) | ((with_reducible refine ob_k ?_ ?_); focus kernel_rfl) | (refine yield_i hmix hT rfl hL efr eps eag ebd rfl (by kernel_rfl) ?_)  | (apply call_l (first_ok (l := [_, _]) (Nat.le_of_ble_eq_true rfl)) (.cons (vm_lit _ rfl rfl (.cons (vm_int rfl) (.cons (vm_int rfl) .nil))) .nil)) | (apply call_l (first_ok (l := [_, _, _]) (Nat.le_of_ble_eq_true rfl)) (.cons (vm_lit _ rfl rfl (.cons (vm_int rfl) (.cons (vm_int rfl) (.cons (vm_int rfl) .nil)))) .nil)) | (apply call_l (first_ok (l := [_, _, _, _]) (Nat.le_of_ble_eq_true rfl)) (.cons (vm_lit _ rfl rfl (.cons (vm_int rfl) (.cons (vm_int rfl) (.cons (vm_int rfl) (.cons (vm_int rfl) .nil))))) .nil))) <;> (try (exfalso; omega; done)) <;> (with_reducible conv => whnf))
    refine loop_i hmix hT (fun f : Nat => ([(2, I s), (7, .own 1 1 0 3002), (8, I (sel q l).length), (10, .own 2 2 0 (runK (enf (sel q l) s) f).length), (11, I (preK (chgF l q l.length) f)), (12, I f)], ⟨3, [(2, .row 2 (runK (enf (sel q l) s) f).length (fun i => eP ((runK (enf (sel q l) s) f).getD i (0, 0))) 24), (1, .row 1 3002 (fun i => I (chgF l q l.length i)) 3)]⟩)) (fun f => f ≤ 3001) (fun f => 3001 - f) 0 (by omega) ?_ ?_
    · refine ⟨[(1, some 1), (2, none)], rfl, ?_, ?_⟩ <;> repeat' (first | exact trivial | exact vm_p | exact vm_ptr rfl rfl rfl | exact vm_yld rfl rfl | exact vm_own rfl rfl rfl rfl | exact vm_own rfl rfl (by omega) (by omega) | exact vm_int (by omega) | exact vm_nil rfl | exact sbm_cells vmL_p | exact sbm_row rfl (fun _ _ => vm_p) | refine ⟨⟨_, rfl, ?_⟩, ?_⟩ | refine ⟨⟨_, _, _, rfl⟩, ?_⟩ | (refine sbm_loop ?_; rw [efr]) | refine sbm_cells ?_ | refine vmL.cons ?_ ?_ | exact vmL.nil | refine vm_own rfl rfl rfl ?_)
    intro f hf
    have fb := chgF_bd l q (0 + toN (f : Int)) l.length
    have nxp : preK (chgF l q l.length) (f + 1) = preK (chgF l q l.length) f + chgF l q l.length (0 + toN (f : Int)) := by rw [preK, toN_nat, Nat.zero_add]
    have pn := pn f
    have nl := num_le (sel q l) f
    change preK (chgF l q l.length) (f + 1) = num (sel q l) f at pn
    rw [nxp] at pn
    by_cases h2 : f ≤ 3000
    · have E := enough_ok (n := preK (chgF l q l.length) f + chgF l q l.length (0 + toN (f : Int))) (t := ((sel q l).length : Int)) (s := s) (by omega) (by omega) hs
      have ef : enf (sel q l) s f = enB (preK (chgF l q l.length) f + chgF l q l.length (0 + toN (f : Int))) ((sel q l).length : Int) s := by unfold enf; rw [pn]
      cases e : enB (preK (chgF l q l.length) f + chgF l q l.length (0 + toN (f : Int))) ((sel q l).length : Int) s with
      | false =>
        rw [e] at E ef
        have hw : runK (enf (sel q l) s) (f + 1) = runK (enf (sel q l) s) f := by
          rw [runK, runS, if_neg (by rw [ef]; decide)]
        with_reducible conv => whnf
        repeat' ((first | (with_reducible refine branch_t ?_) | (with_reducible refine branch_f ?_) | (with_reducible refine branch_nt ?_) | (with_reducible refine branch_nf ?_) | (with_reducible refine branch_dec (fun _ => ?_) (fun _ => ?_)) | (with_reducible refine branch_ndec (fun _ => ?_) (fun _ => ?_)) | (with_reducible refine branch_bool (fun _ => ?_) (fun _ => ?_)) | (with_reducible refine arith_64 (by omega) ?_) | (with_reducible refine ob_i (by omega) (fun _ => ?_)) | (with_reducible refine ob_i (by unfold room; omega) (fun _ => ?_)) | (with_reducible refine ob_i (by (try simp only [toN_eq, Int.toNat_natCast] at *); (try dsimp only [toN] at *); omega) (fun _ => ?_)) | (with_reducible refine arith_64 (by (try simp only [toN_eq, Int.toNat_natCast] at *); (try dsimp only [toN] at *); omega) ?_) | (with_reducible refine ob_k rfl ?_) | ((with_reducible refine ob_k ?_ ?_); focus kernel_rfl) | (refine yield_i hmix hT rfl hL efr eps eag ebd rfl (by kernel_rfl) ?_) | (apply call_u E) | (apply call_l (first_ok (l := [_, _]) (Nat.le_of_ble_eq_true rfl)) (.cons (vm_lit _ rfl rfl (.cons (vm_int rfl) (.cons (vm_int rfl) .nil))) .nil)) | (apply call_l (first_ok (l := [_, _, _]) (Nat.le_of_ble_eq_true rfl)) (.cons (vm_lit _ rfl rfl (.cons (vm_int rfl) (.cons (vm_int rfl) (.cons (vm_int rfl) .nil)))) .nil)) | (apply call_l (first_ok (l := [_, _, _, _]) (Nat.le_of_ble_eq_true rfl)) (.cons (vm_lit _ rfl rfl (.cons (vm_int rfl) (.cons (vm_int rfl) (.cons (vm_int rfl) (.cons (vm_int rfl) .nil))))) .nil))) <;> (try (exfalso; omega; done)) <;> (with_reducible conv => whnf))
        refine ⟨f + 1, by omega, by omega, ?_⟩
        rw [hw, nxp]
        refine ⟨[(1, some 1), (2, some 2)], rfl, ?_, ?_⟩ <;> repeat' (first | exact trivial | exact vm_p | exact vm_ptr rfl rfl rfl | exact vm_yld rfl rfl | exact vm_own rfl rfl rfl rfl | exact vm_own rfl rfl (by omega) (by omega) | exact vm_int (by omega) | exact vm_nil rfl | exact sbm_cells vmL_p | exact sbm_row rfl (fun _ _ => vm_p) | refine ⟨⟨_, rfl, ?_⟩, ?_⟩ | refine ⟨⟨_, _, _, rfl⟩, ?_⟩ | (refine sbm_loop ?_; rw [efr]) | refine sbm_cells ?_ | refine vmL.cons ?_ ?_ | exact vmL.nil | refine vm_own rfl rfl rfl ?_)
      | true =>
        rw [e] at E ef
        have nx : runK (enf (sel q l) s) (f + 1) = if 0 < (runK (enf (sel q l) s) f).length ∧ ((runK (enf (sel q l) s) f).getD ((runK (enf (sel q l) s) f).length - 1) (0, 0)).2 = (f : Int) - 1 then (runK (enf (sel q l) s) f).set ((runK (enf (sel q l) s) f).length - 1) (((runK (enf (sel q l) s) f).getD ((runK (enf (sel q l) s) f).length - 1) (0, 0)).1, (f : Int)) else runK (enf (sel q l) s) f ++ [((f : Int), (f : Int))] := by
          rw [runK, runS, if_pos ef]
        have wl := runK_len (enf (sel q l) s) f
        generalize runK (enf (sel q l) s) f = W at *
        have uw : 0 < W.length → 0 + toN ((W.length : Int) - 1) = W.length - 1 := fun h => by rw [toN_eq]; omega
        by_cases c1 : 0 < W.length
        · by_cases c2 : (W.getD (0 + toN ((W.length : Int) - 1)) (0, 0)).2 = (f : Int) - 1
          · rw [if_pos ⟨c1, by rw [← uw c1, c2]⟩] at nx
            with_reducible conv => whnf
            repeat' ((first | (with_reducible refine branch_t ?_) | (with_reducible refine branch_f ?_) | (with_reducible refine branch_nt ?_) | (with_reducible refine branch_nf ?_) | (with_reducible refine branch_dec (fun _ => ?_) (fun _ => ?_)) | (with_reducible refine branch_ndec (fun _ => ?_) (fun _ => ?_)) | (with_reducible refine branch_bool (fun _ => ?_) (fun _ => ?_)) | (with_reducible refine arith_64 (by omega) ?_) | (with_reducible refine ob_i (by omega) (fun _ => ?_)) | (with_reducible refine ob_i (by unfold room; omega) (fun _ => ?_)) | (with_reducible refine ob_i (by (try simp only [toN_eq] at *); (try dsimp only [toN] at *); omega) (fun _ => ?_)) | (with_reducible refine arith_64 (by (try simp only [toN_eq] at *); (try dsimp only [toN] at *); omega) ?_) | (with_reducible refine ob_k rfl ?_) | ((with_reducible refine ob_k ?_ ?_); focus kernel_rfl) | (refine yield_i hmix hT rfl hL efr eps eag ebd rfl (by kernel_rfl) ?_) | (apply call_u E) | (apply call_l (first_ok (l := [_, _]) (Nat.le_of_ble_eq_true rfl)) (.cons (vm_lit _ rfl rfl (.cons (vm_int rfl) (.cons (vm_int rfl) .nil))) .nil)) | (apply call_l (first_ok (l := [_, _, _]) (Nat.le_of_ble_eq_true rfl)) (.cons (vm_lit _ rfl rfl (.cons (vm_int rfl) (.cons (vm_int rfl) (.cons (vm_int rfl) .nil)))) .nil)) | (apply call_l (first_ok (l := [_, _, _, _]) (Nat.le_of_ble_eq_true rfl)) (.cons (vm_lit _ rfl rfl (.cons (vm_int rfl) (.cons (vm_int rfl) (.cons (vm_int rfl) (.cons (vm_int rfl) .nil))))) .nil))) <;> (try (exfalso; omega; done)) <;> (with_reducible conv => whnf))
            refine ⟨f + 1, by omega, by omega, ?_⟩
            rw [nx, nxp, ← uw c1]
            refine ⟨[(1, some 1), (2, some 2)], rfl, ?_, ?_⟩ <;> repeat' (first | exact trivial | exact vm_p | exact vm_ptr rfl rfl rfl | exact vm_yld rfl rfl | exact vm_own rfl rfl rfl rfl | exact vm_own rfl rfl (by omega) (by omega) | exact vm_int (by omega) | exact vm_nil rfl | exact sbm_cells vmL_p | exact sbm_row rfl (fun _ _ => vm_p) | refine ⟨⟨_, rfl, ?_⟩, ?_⟩ | refine ⟨⟨_, _, _, rfl⟩, ?_⟩ | (refine sbm_loop ?_; rw [efr]) | refine sbm_cells ?_ | refine vmL.cons ?_ ?_ | exact vmL.nil | refine vm_own rfl rfl rfl ?_)
            all_goals first | exact sbm_set (by rw [uw c1]; omega) (vm_agg (.cons vm_p (.cons vm_p .nil))) | (simp; done)
          · rw [if_neg (fun h => c2 (by rw [uw c1, h.2]))] at nx
            with_reducible conv => whnf
            repeat' ((first | (with_reducible refine branch_t ?_) | (with_reducible refine branch_f ?_) | (with_reducible refine branch_nt ?_) | (with_reducible refine branch_nf ?_) | (with_reducible refine branch_dec (fun _ => ?_) (fun _ => ?_)) | (with_reducible refine branch_ndec (fun _ => ?_) (fun _ => ?_)) | (with_reducible refine branch_bool (fun _ => ?_) (fun _ => ?_)) | (with_reducible refine arith_64 (by omega) ?_) | (with_reducible refine ob_i (by omega) (fun _ => ?_)) | (with_reducible refine ob_i (by unfold room; omega) (fun _ => ?_)) | (with_reducible refine ob_i (by (try simp only [toN_eq] at *); (try dsimp only [toN] at *); omega) (fun _ => ?_)) | (with_reducible refine arith_64 (by (try simp only [toN_eq] at *); (try dsimp only [toN] at *); omega) ?_) | (with_reducible refine ob_k rfl ?_) | ((with_reducible refine ob_k ?_ ?_); focus kernel_rfl) | (refine yield_i hmix hT rfl hL efr eps eag ebd rfl (by kernel_rfl) ?_) | (apply call_u E) | (apply call_l (first_ok (l := [_, _]) (Nat.le_of_ble_eq_true rfl)) (.cons (vm_lit _ rfl rfl (.cons (vm_int rfl) (.cons (vm_int rfl) .nil))) .nil)) | (apply call_l (first_ok (l := [_, _, _]) (Nat.le_of_ble_eq_true rfl)) (.cons (vm_lit _ rfl rfl (.cons (vm_int rfl) (.cons (vm_int rfl) (.cons (vm_int rfl) .nil)))) .nil)) | (apply call_l (first_ok (l := [_, _, _, _]) (Nat.le_of_ble_eq_true rfl)) (.cons (vm_lit _ rfl rfl (.cons (vm_int rfl) (.cons (vm_int rfl) (.cons (vm_int rfl) (.cons (vm_int rfl) .nil))))) .nil))) <;> (try (exfalso; omega; done)) <;> (with_reducible conv => whnf))
            refine ⟨f + 1, by omega, by omega, ?_⟩
            rw [nx, nxp]
            refine ⟨[(1, some 1), (2, some 4)], rfl, ?_, ?_⟩ <;> repeat' (first | exact trivial | exact vm_p | exact vm_ptr rfl rfl rfl | exact vm_yld rfl rfl | exact vm_own rfl rfl rfl rfl | exact vm_own rfl rfl (by omega) (by omega) | exact vm_int (by omega) | exact vm_nil rfl | exact sbm_cells vmL_p | exact sbm_row rfl (fun _ _ => vm_p) | refine ⟨⟨_, rfl, ?_⟩, ?_⟩ | refine ⟨⟨_, _, _, rfl⟩, ?_⟩ | (refine sbm_loop ?_; rw [efr]) | refine sbm_cells ?_ | refine vmL.cons ?_ ?_ | exact vmL.nil | refine vm_own rfl rfl rfl ?_)
            all_goals first | exact sbm_snoc (vm_agg (.cons vm_p (.cons vm_p .nil))) | (simp; done)
        · rw [if_neg (fun h => c1 h.1)] at nx
          with_reducible conv => whnf
          repeat' ((first | (with_reducible refine branch_t ?_) | (with_reducible refine branch_f ?_) | (with_reducible refine branch_nt ?_) | (with_reducible refine branch_nf ?_) | (with_reducible refine branch_dec (fun _ => ?_) (fun _ => ?_)) | (with_reducible refine branch_ndec (fun _ => ?_) (fun _ => ?_)) | (with_reducible refine branch_bool (fun _ => ?_) (fun _ => ?_)) | (with_reducible refine arith_64 (by omega) ?_) | (with_reducible refine ob_i (by omega) (fun _ => ?_)) | (with_reducible refine ob_i (by unfold room; omega) (fun _ => ?_)) | (with_reducible refine ob_i (by (try simp only [toN_eq] at *); (try dsimp only [toN] at *); omega) (fun _ => ?_)) | (with_reducible refine arith_64 (by (try simp only [toN_eq] at *); (try dsimp only [toN] at *); omega) ?_) | (with_reducible refine ob_k rfl ?_) | ((with_reducible refine ob_k ?_ ?_); focus kernel_rfl) | (refine yield_i hmix hT rfl hL efr eps eag ebd rfl (by kernel_rfl) ?_) | (apply call_u E) | (apply call_l (first_ok (l := [_, _]) (Nat.le_of_ble_eq_true rfl)) (.cons (vm_lit _ rfl rfl (.cons (vm_int rfl) (.cons (vm_int rfl) .nil))) .nil)) | (apply call_l (first_ok (l := [_, _, _]) (Nat.le_of_ble_eq_true rfl)) (.cons (vm_lit _ rfl rfl (.cons (vm_int rfl) (.cons (vm_int rfl) (.cons (vm_int rfl) .nil)))) .nil)) | (apply call_l (first_ok (l := [_, _, _, _]) (Nat.le_of_ble_eq_true rfl)) (.cons (vm_lit _ rfl rfl (.cons (vm_int rfl) (.cons (vm_int rfl) (.cons (vm_int rfl) (.cons (vm_int rfl) .nil))))) .nil))) <;> (try (exfalso; omega; done)) <;> (with_reducible conv => whnf))
          refine ⟨f + 1, by omega, by omega, ?_⟩
          rw [nx, nxp]
          refine ⟨[(1, some 1), (2, some 4)], rfl, ?_, ?_⟩ <;> repeat' (first | exact trivial | exact vm_p | exact vm_ptr rfl rfl rfl | exact vm_yld rfl rfl | exact vm_own rfl rfl rfl rfl | exact vm_own rfl rfl (by omega) (by omega) | exact vm_int (by omega) | exact vm_nil rfl | exact sbm_cells vmL_p | exact sbm_row rfl (fun _ _ => vm_p) | refine ⟨⟨_, rfl, ?_⟩, ?_⟩ | refine ⟨⟨_, _, _, rfl⟩, ?_⟩ | (refine sbm_loop ?_; rw [efr]) | refine sbm_cells ?_ | refine vmL.cons ?_ ?_ | exact vmL.nil | refine vm_own rfl rfl rfl ?_)
          all_goals first | exact sbm_snoc (vm_agg (.cons vm_p (.cons vm_p .nil))) | (simp; done)
    · obtain rfl : f = 3001 := by omega
      with_reducible conv => whnf
      repeat' ((first | (with_reducible refine branch_t ?_) | (with_reducible refine branch_f ?_) | (with_reducible refine branch_nt ?_) | (with_reducible refine branch_nf ?_) | (with_reducible refine branch_dec (fun _ => ?_) (fun _ => ?_)) | (with_reducible refine branch_ndec (fun _ => ?_) (fun _ => ?_)) | (with_reducible refine branch_bool (fun _ => ?_) (fun _ => ?_)) | (with_reducible refine arith_64 (by omega) ?_) | (with_reducible refine ob_i (by omega) (fun _ => ?_)) | (with_reducible refine ob_i (by unfold room; omega) (fun _ => ?_)) | (with_reducible refine ob_i (by (try simp only [toN_eq, Int.toNat_natCast] at *); (try dsimp only [toN] at *); omega) (fun _ => ?_)) | (with_reducible refine arith_64 (by (try simp only [toN_eq, Int.toNat_natCast] at *); (try dsimp only [toN] at *); omega) ?_) | (with_reducible refine ob_k rfl ?_) | ((with_reducible refine ob_k ?_ ?_); focus kernel_rfl) | (refine yield_i hmix hT rfl hL efr eps eag ebd rfl (by kernel_rfl) ?_)  | (apply call_l (first_ok (l := [_, _]) (Nat.le_of_ble_eq_true rfl)) (.cons (vm_lit _ rfl rfl (.cons (vm_int rfl) (.cons (vm_int rfl) .nil))) .nil)) | (apply call_l (first_ok (l := [_, _, _]) (Nat.le_of_ble_eq_true rfl)) (.cons (vm_lit _ rfl rfl (.cons (vm_int rfl) (.cons (vm_int rfl) (.cons (vm_int rfl) .nil)))) .nil)) | (apply call_l (first_ok (l := [_, _, _, _]) (Nat.le_of_ble_eq_true rfl)) (.cons (vm_lit _ rfl rfl (.cons (vm_int rfl) (.cons (vm_int rfl) (.cons (vm_int rfl) (.cons (vm_int rfl) .nil))))) .nil))) <;> (try (exfalso; omega; done)) <;> (with_reducible conv => whnf))
      exact ret0 (vm_fr rfl rfl rfl (Nat.le_refl _) fun i hi => vm_p)
end Go.Proofs.Ytpfknijmipklaaa
