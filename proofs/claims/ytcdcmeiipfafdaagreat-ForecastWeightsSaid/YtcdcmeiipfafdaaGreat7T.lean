/-
  Chapter 7: the best schedule (by contract).
  Conditions: none.
-/
import Derived.Test.YtcdcmeiipfafdaaGreat7S
namespace Go.Proofs.YtcdcmeiipfafdaaGreat
open Go.RowKit Fx
def aKT (t : Tb) (s : Int) (d c : Nat) : Int := aK (usB t s) t.fr.length d c
def aL (t : Tb) (s : Int) (d : Nat) : List Int := (List.range t.fr.length).map (aKT t s d)
theorem aL_len {t : Tb} {s : Int} {d : Nat} : (aL t s d).length = t.fr.length := by unfold aL; simp
theorem aL_at {t : Tb} {s : Int} {d c : Nat} (h : c < t.fr.length) : (aL t s d).getD c 0 = aKT t s d c := by
  unfold aL
  rw [List.getD_eq_getElem?_getD, List.getElem?_map, List.getElem?_range h]; rfl
theorem mnK_congr {f g : Nat → Int} : ∀ k, (∀ i, i < k → f i = g i) → mnK f k = mnK g k
  | 0, _ => rfl
  | k + 1, h => by
    rw [mnK, mnK, mnK_congr k fun i hi => h i (by omega), h k (by omega), h 0 (by omega)]
theorem aL_min {t : Tb} {s : Int} {d : Nat} : mnK (fun i => (aL t s d).getD i 0) (aL t s d).length = mnK (aKT t s d) t.fr.length := by
  rw [aL_len]
  exact mnK_congr _ fun i hi => aL_at hi
def eE (t : Tb) (s : Int) (d i : Nat) : V := if 23 < i + d then eInts (aL t s (23 - i)) else .sc (.slice none 0 0)
instance {t : Tb} {s : Int} {d i : Nat} : IsPure (eE t s d i) := ⟨by
  unfold eE
  split
  · exact IsPure.h
  · exact IsPure.h⟩
theorem eE_yes {t : Tb} {s : Int} {d i : Nat} (h : 23 < i + d) : eE t s d i = eInts (aL t s (23 - i)) := if_pos h
/-- The inner row, of which the first k columns are done. -/
def rowA (t : Tb) (s : Int) (d k i : Nat) : Int := if i < k then aKT t s d i else 1000
theorem pure_row {q : Prop} {n : Nat} {t : TypeId} {a : Int} : ∀ b ∈ [SB.row 1 n (fun _ => I a) t], PureS q b := fun b hb => by
  obtain rfl : b = _ := List.mem_singleton.1 hb
  exact fun i _ => .inr plain_sc
theorem vm_setV {S : Vw} {e e' : Nat → V} {k i : Nat} {x x' : V} (h1 : vm S x x') (h2 : i ≠ k → vm S (e i) (e' i)) : vm S (setF e k x i) (setF e' k x' i) := by
  by_cases c : i = k
  · subst c; rw [setF_at, setF_at]; exact h1
  · rw [setF_ne c, setF_ne c]; exact h2 c
theorem rowA_next {t : Tb} {s : Int} {d k : Nat} {i : Nat} (h : i ≠ k) : rowA t s d (k + 1) i = rowA t s d k i := by
  unfold rowA
  by_cases c : i < k
  · rw [if_pos c, if_pos (by omega)]
  · rw [if_neg c, if_neg (by omega)]
theorem rowA_at {t : Tb} {s : Int} {d k : Nat} : rowA t s d (k + 1) k = aKT t s d k := if_pos (by omega)
theorem rowA_no {t : Tb} {s : Int} {d k i : Nat} (h : aKT t s d k = 1000) : rowA t s d (k + 1) i = rowA t s d k i := by
  by_cases c : i = k
  · subst c; rw [rowA_at, h]; exact (if_neg (by omega)).symm
  · exact rowA_next c
theorem aKT_zero {t : Tb} {s : Int} {k : Nat} : aKT t s 0 k = if usB t s 23 k = true then 0 else 1000 := rfl
theorem aKT_succ {t : Tb} {s : Int} {d k : Nat} : aKT t s (d + 1) k = if usB t s (22 - d) k = true then min (min (aKT t s d k) (mnK (aKT t s d) t.fr.length + 1)) 1000 else 1000 := rfl
theorem eE_next {t : Tb} {s : Int} {d i : Nat} (h : i ≠ 23 - d) : eE t s (d + 1) i = eE t s d i := by
  unfold eE
  by_cases c : 23 < i + d
  · rw [if_pos c, if_pos (by omega)]
  · rw [if_neg c, if_neg (by omega)]
theorem eE_at {t : Tb} {s : Int} {d : Nat} (h : d < 24) : eE t s (d + 1) (23 - d) = eInts (aL t s d) := by
  rw [eE_yes (by omega), show 23 - (23 - d) = d by omega]
theorem rowA_all {t : Tb} {s : Int} {d i : Nat} (h : i < t.fr.length) : rowA t s d t.fr.length i = (aL t s d).getD i 0 := by
  rw [aL_at h]; exact if_pos h
theorem fstIx_congr {p q : Nat → Bool} : ∀ k, (∀ i, i < k → p i = q i) → fstIx p k = fstIx q k
  | 0, _ => rfl
  | k + 1, h => by
    rw [fstIx, fstIx, fstIx_congr k fun i hi => h i (by omega), h k (by omega)]
open Classical in
set_option maxHeartbeats 8000000 in
set_option maxRecDepth 100000 in
theorem schedule_ok {t : Tb} {s : Int} (v : TbV t) (z2 : 1 ≤ s ∧ s ≤ 1000) : FnOK Tryz.prog 63 [ePl t s] (if okT t s then .tup [eInts (schT t s), B true] else .tup [eInts [], B false]) [] := by
  have fr := v.fr.n1
  have n0 := v.fr.n0
  have RP := repeat_ok (a := 1000) (c := t.fr.length) (by omega) (by omega)
  refine fn_i hmix hT Tryz.f63 (by kernel_rfl) rfl (by kernel_rfl) ?_
  with_reducible conv => whnf
  repeat' ((first | (with_reducible refine branch_t ?_) | (with_reducible refine branch_f ?_) | (with_reducible refine branch_nt ?_) | (with_reducible refine branch_nf ?_) | (with_reducible refine branch_dec (fun _ => ?_) (fun _ => ?_)) | (with_reducible refine branch_ndec (fun _ => ?_) (fun _ => ?_)) | (with_reducible refine branch_bool (fun _ => ?_) (fun _ => ?_)) | (with_reducible refine arith_64 (by omega) ?_) | (with_reducible refine ob_i (by omega) (fun _ => ?_)) | (with_reducible refine ob_i (by unfold room; omega) (fun _ => ?_)) | (with_reducible refine ob_i (by (try simp only [toN_eq, Int.toNat_natCast] at *); (try dsimp only [toN] at *); omega) (fun _ => ?_)) | (with_reducible refine arith_64 (by (try simp only [toN_eq, Int.toNat_natCast] at *); (try dsimp only [toN] at *); omega) ?_) | (with_reducible refine ob_k rfl ?_) | ((with_reducible refine ob_k ?_ ?_); focus kernel_rfl) | (refine yield_i hmix hT rfl hL efr eps eag ebd rfl (by kernel_rfl) ?_)  | (apply call_l (first_ok (l := [_, _]) (Nat.le_of_ble_eq_true rfl)) (.cons (vm_lit _ rfl rfl (.cons (vm_int rfl) (.cons (vm_int rfl) .nil))) .nil)) | (apply call_l (first_ok (l := [_, _, _]) (Nat.le_of_ble_eq_true rfl)) (.cons (vm_lit _ rfl rfl (.cons (vm_int rfl) (.cons (vm_int rfl) (.cons (vm_int rfl) .nil)))) .nil)) | (apply call_l (first_ok (l := [_, _, _, _]) (Nat.le_of_ble_eq_true rfl)) (.cons (vm_lit _ rfl rfl (.cons (vm_int rfl) (.cons (vm_int rfl) (.cons (vm_int rfl) (.cons (vm_int rfl) .nil))))) .nil))) <;> (try (exfalso; omega; done)) <;> (with_reducible conv => whnf))
  refine loop_i hmix hT (fun d : Nat => ([(1, .ptr 0 0), (2, .sc (.slice none 0 0)), (3, B false), (4, .ptr 2 0), (5, .ptr 3 0)], ⟨4, [(3, .cells [I (23 - (d : Int))] 3), (2, .cells [.own 1 1 0 24] 134), (1, .row 1 24 (fun i => eE t s d i) 22), (0, .cells [eInts t.fr, eHs t.hs, I s] 111)]⟩)) (fun d => d ≤ 24) (fun d => 24 - d) 0 (by omega) ?_ ?_
  · refine ⟨[], rfl, ?_, ?_⟩ <;> repeat' (first | exact trivial | exact vm_p | exact vm_ptr rfl rfl rfl | exact vm_yld rfl rfl | exact vm_own rfl rfl rfl rfl | exact vm_own rfl rfl (by omega) (by omega) | exact vm_int (by omega) | exact vm_nil rfl | exact sbm_cells vmL_p | exact sbm_row rfl (fun _ _ => vm_p) | refine ⟨⟨_, rfl, ?_⟩, ?_⟩ | refine ⟨⟨_, _, _, rfl⟩, ?_⟩ | (refine sbm_loop ?_; rw [efr]) | refine sbm_cells ?_ | refine vmL.cons ?_ ?_ | exact vmL.nil | refine vm_own rfl rfl rfl ?_)
    refine sbm_row rfl fun i hi => ?_
    rw [show eE t s 0 i = .sc (.slice none 0 0) from if_neg (by omega)]
    exact vm_sc rfl
  intro d hd
  by_cases d2 : d < 24
  · have CO := columns_ok (t := t) (s := s) (h := 23 - d)
    rw [show ((23 - d : Nat) : Int) = 23 - (d : Int) by omega] at CO
    with_reducible conv => whnf
    repeat' ((first | (with_reducible refine branch_t ?_) | (with_reducible refine branch_f ?_) | (with_reducible refine branch_nt ?_) | (with_reducible refine branch_nf ?_) | (with_reducible refine branch_dec (fun _ => ?_) (fun _ => ?_)) | (with_reducible refine branch_ndec (fun _ => ?_) (fun _ => ?_)) | (with_reducible refine branch_bool (fun _ => ?_) (fun _ => ?_)) | (with_reducible refine arith_64 (by omega) ?_) | (with_reducible refine ob_i (by omega) (fun _ => ?_)) | (with_reducible refine ob_i (by unfold room; omega) (fun _ => ?_)) | (with_reducible refine ob_i (by (try simp only [toN_eq, Int.toNat_natCast] at *); (try dsimp only [toN] at *); omega) (fun _ => ?_)) | (with_reducible refine arith_64 (by (try simp only [toN_eq, Int.toNat_natCast] at *); (try dsimp only [toN] at *); omega) ?_) | (with_reducible refine ob_k rfl ?_) | ((with_reducible refine ob_k ?_ ?_); focus kernel_rfl) | (refine yield_i hmix hT rfl hL efr eps eag ebd rfl (by kernel_rfl) ?_)  | (apply call_l (first_ok (l := [_, _]) (Nat.le_of_ble_eq_true rfl)) (.cons (vm_lit _ rfl rfl (.cons (vm_int rfl) (.cons (vm_int rfl) .nil))) .nil)) | (apply call_l (first_ok (l := [_, _, _]) (Nat.le_of_ble_eq_true rfl)) (.cons (vm_lit _ rfl rfl (.cons (vm_int rfl) (.cons (vm_int rfl) (.cons (vm_int rfl) .nil)))) .nil)) | (apply call_l (first_ok (l := [_, _, _, _]) (Nat.le_of_ble_eq_true rfl)) (.cons (vm_lit _ rfl rfl (.cons (vm_int rfl) (.cons (vm_int rfl) (.cons (vm_int rfl) (.cons (vm_int rfl) .nil))))) .nil))) <;> (try (exfalso; omega; done)) <;> (with_reducible conv => whnf))
    refine call_p RP (.cons (vm_lend rfl rfl (Nat.le_refl _) (fun i hi => ?_)) (.cons (vm_int rfl) .nil)) pure_row rv_own ?_
    · obtain rfl : i = 0 := by omega
      exact vm_int rfl
    with_reducible conv => whnf
    repeat' ((first | (with_reducible refine branch_t ?_) | (with_reducible refine branch_f ?_) | (with_reducible refine branch_nt ?_) | (with_reducible refine branch_nf ?_) | (with_reducible refine branch_dec (fun _ => ?_) (fun _ => ?_)) | (with_reducible refine branch_ndec (fun _ => ?_) (fun _ => ?_)) | (with_reducible refine branch_bool (fun _ => ?_) (fun _ => ?_)) | (with_reducible refine arith_64 (by omega) ?_) | (with_reducible refine ob_i (by omega) (fun _ => ?_)) | (with_reducible refine ob_i (by unfold room; omega) (fun _ => ?_)) | (with_reducible refine ob_i (by (try simp only [toN_eq, Int.toNat_natCast] at *); (try dsimp only [toN] at *); omega) (fun _ => ?_)) | (with_reducible refine arith_64 (by (try simp only [toN_eq, Int.toNat_natCast] at *); (try dsimp only [toN] at *); omega) ?_) | (with_reducible refine ob_k rfl ?_) | ((with_reducible refine ob_k ?_ ?_); focus kernel_rfl) | (refine yield_i hmix hT rfl hL efr eps eag ebd rfl (by kernel_rfl) ?_) | (apply call_u CO) | (apply call_l (first_ok (l := [_, _]) (Nat.le_of_ble_eq_true rfl)) (.cons (vm_lit _ rfl rfl (.cons (vm_int rfl) (.cons (vm_int rfl) .nil))) .nil)) | (apply call_l (first_ok (l := [_, _, _]) (Nat.le_of_ble_eq_true rfl)) (.cons (vm_lit _ rfl rfl (.cons (vm_int rfl) (.cons (vm_int rfl) (.cons (vm_int rfl) .nil)))) .nil)) | (apply call_l (first_ok (l := [_, _, _, _]) (Nat.le_of_ble_eq_true rfl)) (.cons (vm_lit _ rfl rfl (.cons (vm_int rfl) (.cons (vm_int rfl) (.cons (vm_int rfl) (.cons (vm_int rfl) .nil))))) .nil))) <;> (try (exfalso; omega; done)) <;> (with_reducible conv => whnf))
    clear CO RP
    refine range_i hmix hT rfl Tryz.f107 (by kernel_rfl) rfl (by kernel_rfl) 0 [1, 2, 3, 4, 5] (by kernel_rfl) ?_
    intro L efr eps eag ebd etok hL
    with_reducible conv => whnf
    repeat' ((first | (with_reducible refine branch_t ?_) | (with_reducible refine branch_f ?_) | (with_reducible refine branch_nt ?_) | (with_reducible refine branch_nf ?_) | (with_reducible refine branch_dec (fun _ => ?_) (fun _ => ?_)) | (with_reducible refine branch_ndec (fun _ => ?_) (fun _ => ?_)) | (with_reducible refine branch_bool (fun _ => ?_) (fun _ => ?_)) | (with_reducible refine arith_64 (by omega) ?_) | (with_reducible refine ob_i (by omega) (fun _ => ?_)) | (with_reducible refine ob_i (by unfold room; omega) (fun _ => ?_)) | (with_reducible refine ob_i (by (try simp only [toN_eq, Int.toNat_natCast] at *); (try dsimp only [toN] at *); omega) (fun _ => ?_)) | (with_reducible refine arith_64 (by (try simp only [toN_eq, Int.toNat_natCast] at *); (try dsimp only [toN] at *); omega) ?_) | (with_reducible refine ob_k rfl ?_) | ((with_reducible refine ob_k ?_ ?_); focus kernel_rfl) | (refine yield_i hmix hT rfl hL efr eps eag ebd rfl (by kernel_rfl) ?_)  | (apply call_l (first_ok (l := [_, _]) (Nat.le_of_ble_eq_true rfl)) (.cons (vm_lit _ rfl rfl (.cons (vm_int rfl) (.cons (vm_int rfl) .nil))) .nil)) | (apply call_l (first_ok (l := [_, _, _]) (Nat.le_of_ble_eq_true rfl)) (.cons (vm_lit _ rfl rfl (.cons (vm_int rfl) (.cons (vm_int rfl) (.cons (vm_int rfl) .nil)))) .nil)) | (apply call_l (first_ok (l := [_, _, _, _]) (Nat.le_of_ble_eq_true rfl)) (.cons (vm_lit _ rfl rfl (.cons (vm_int rfl) (.cons (vm_int rfl) (.cons (vm_int rfl) (.cons (vm_int rfl) .nil))))) .nil))) <;> (try (exfalso; omega; done)) <;> (with_reducible conv => whnf))
    refine loop_i hmix hT (fun k : Nat => ([(0, .yld 6), (1, .pv [eInts t.fr, eHs t.hs, I s] 0), (2, .pv [I (23 - d : Nat)] 0), (9, I t.fr.length), (10, I k)], ⟨7, [(6, .loop L .ready), (5, .row 1 t.fr.length (fun i => I (rowA t s d k i)) 3), (3, .cells [I (23 - (d : Int))] 3), (2, .cells [.own 1 1 0 24] 134), (1, .row 1 24 (setF (fun i => eE t s d i) (0 + toN (23 - (d : Int))) (.own 5 1 0 t.fr.length)) 22), (0, .cells [eInts t.fr, eHs t.hs, I s] 111)]⟩)) (fun k => k ≤ t.fr.length) (fun k => t.fr.length - k) 0 (by omega) ?_ ?_
    · refine ⟨[], rfl, ?_, ?_⟩ <;> repeat' (first | exact trivial | exact vm_p | exact vm_ptr rfl rfl rfl | exact vm_yld rfl rfl | exact vm_own rfl rfl rfl rfl | exact vm_own rfl rfl (by omega) (by omega) | exact vm_int (by omega) | exact vm_nil rfl | exact sbm_cells vmL_p | exact sbm_row rfl (fun _ _ => vm_p) | refine ⟨⟨_, rfl, ?_⟩, ?_⟩ | refine ⟨⟨_, _, _, rfl⟩, ?_⟩ | (refine sbm_loop ?_; rw [efr]) | refine sbm_cells ?_ | refine vmL.cons ?_ ?_ | exact vmL.nil | refine vm_own rfl rfl rfl ?_)
      all_goals first | exact sbm_row rfl fun i hi => vm_int (if_neg (by omega)).symm | exact sbm_row rfl fun i hi => vm_setV (vm_own rfl rfl rfl rfl) (fun _ => vm_p)
    intro k hk
    have td : 0 + toN (23 - (d : Int)) = 23 - d := by rw [toN_eq]; omega
    have cur : (setF (fun i => eE t s d i) (0 + toN (23 - (d : Int))) (.own 5 1 0 t.fr.length)) (0 + toN (23 - (d : Int))) = .own 5 1 0 t.fr.length := setF_at
    have tk : 0 + toN (k : Int) = k := by rw [toN_nat, Nat.zero_add]
    by_cases k2 : k < t.fr.length
    · have U := usable_ok v z2 (h := 23 - d) (by omega) k2
      cases eu : usB t s (23 - d) k with
      | false =>
        rw [eu] at U
        have az : aKT t s d k = 1000 := by
          cases d with
          | zero => rw [aKT_zero, eu]; rfl
          | succ d => rw [aKT_succ, show 22 - d = 23 - (d + 1) by omega, eu]; rfl
        with_reducible conv => whnf
        repeat' ((first | (with_reducible refine branch_t ?_) | (with_reducible refine branch_f ?_) | (with_reducible refine branch_nt ?_) | (with_reducible refine branch_nf ?_) | (with_reducible refine branch_dec (fun _ => ?_) (fun _ => ?_)) | (with_reducible refine branch_ndec (fun _ => ?_) (fun _ => ?_)) | (with_reducible refine branch_bool (fun _ => ?_) (fun _ => ?_)) | (with_reducible refine arith_64 (by omega) ?_) | (with_reducible refine ob_i (by omega) (fun _ => ?_)) | (with_reducible refine ob_i (by unfold room; omega) (fun _ => ?_)) | (with_reducible refine ob_i (by (try simp only [toN_eq, Int.toNat_natCast] at *); (try dsimp only [toN] at *); omega) (fun _ => ?_)) | (with_reducible refine arith_64 (by (try simp only [toN_eq, Int.toNat_natCast] at *); (try dsimp only [toN] at *); omega) ?_) | (with_reducible refine ob_k rfl ?_) | ((with_reducible refine ob_k ?_ ?_); focus kernel_rfl) | (refine yield_i hmix hT rfl hL efr eps eag ebd rfl (by kernel_rfl) ?_) | (apply call_u U) | (apply call_l (first_ok (l := [_, _]) (Nat.le_of_ble_eq_true rfl)) (.cons (vm_lit _ rfl rfl (.cons (vm_int rfl) (.cons (vm_int rfl) .nil))) .nil)) | (apply call_l (first_ok (l := [_, _, _]) (Nat.le_of_ble_eq_true rfl)) (.cons (vm_lit _ rfl rfl (.cons (vm_int rfl) (.cons (vm_int rfl) (.cons (vm_int rfl) .nil)))) .nil)) | (apply call_l (first_ok (l := [_, _, _, _]) (Nat.le_of_ble_eq_true rfl)) (.cons (vm_lit _ rfl rfl (.cons (vm_int rfl) (.cons (vm_int rfl) (.cons (vm_int rfl) (.cons (vm_int rfl) .nil))))) .nil))) <;> (try (exfalso; omega; done)) <;> (with_reducible conv => whnf))
        refine ⟨k + 1, by omega, by omega, ?_⟩
        refine ⟨[], rfl, ?_, ?_⟩ <;> repeat' (first | exact trivial | exact vm_p | exact vm_ptr rfl rfl rfl | exact vm_yld rfl rfl | exact vm_own rfl rfl rfl rfl | exact vm_own rfl rfl (by omega) (by omega) | exact vm_int (by omega) | exact vm_nil rfl | exact sbm_cells vmL_p | exact sbm_row rfl (fun _ _ => vm_p) | refine ⟨⟨_, rfl, ?_⟩, ?_⟩ | refine ⟨⟨_, _, _, rfl⟩, ?_⟩ | (refine sbm_loop ?_; rw [efr]) | refine sbm_cells ?_ | refine vmL.cons ?_ ?_ | exact vmL.nil | refine vm_own rfl rfl rfl ?_)
        all_goals first | exact sbm_row rfl fun i hi => vm_int (rowA_no az).symm | exact sbm_row rfl fun i hi => vm_setV (vm_own rfl rfl rfl rfl) (fun _ => vm_p)
      | true =>
        rw [eu] at U
        by_cases d0 : d = 0
        · subst d0
          have az : aKT t s 0 k = 0 := by rw [aKT_zero, show usB t s 23 k = true from eu]; rfl
          with_reducible conv => whnf
          repeat' ((first | (with_reducible refine branch_t ?_) | (with_reducible refine branch_f ?_) | (with_reducible refine branch_nt ?_) | (with_reducible refine branch_nf ?_) | (with_reducible refine branch_dec (fun _ => ?_) (fun _ => ?_)) | (with_reducible refine branch_ndec (fun _ => ?_) (fun _ => ?_)) | (with_reducible refine branch_bool (fun _ => ?_) (fun _ => ?_)) | (with_reducible refine arith_64 (by omega) ?_) | (with_reducible refine ob_i (by omega) (fun _ => ?_)) | (with_reducible refine ob_i (by unfold room; omega) (fun _ => ?_)) | (with_reducible refine ob_i (by (try simp only [toN_eq, Int.toNat_natCast] at *); (try dsimp only [toN] at *); omega) (fun _ => ?_)) | (with_reducible refine arith_64 (by (try simp only [toN_eq, Int.toNat_natCast] at *); (try dsimp only [toN] at *); omega) ?_) | (with_reducible refine ob_k rfl ?_) | ((with_reducible refine ob_k ?_ ?_); focus kernel_rfl) | (refine yield_i hmix hT rfl hL efr eps eag ebd rfl (by kernel_rfl) ?_) | (apply call_u U) | (with_reducible refine elemK_of cur ?_) | (apply call_l (first_ok (l := [_, _]) (Nat.le_of_ble_eq_true rfl)) (.cons (vm_lit _ rfl rfl (.cons (vm_int rfl) (.cons (vm_int rfl) .nil))) .nil)) | (apply call_l (first_ok (l := [_, _, _]) (Nat.le_of_ble_eq_true rfl)) (.cons (vm_lit _ rfl rfl (.cons (vm_int rfl) (.cons (vm_int rfl) (.cons (vm_int rfl) .nil)))) .nil)) | (apply call_l (first_ok (l := [_, _, _, _]) (Nat.le_of_ble_eq_true rfl)) (.cons (vm_lit _ rfl rfl (.cons (vm_int rfl) (.cons (vm_int rfl) (.cons (vm_int rfl) (.cons (vm_int rfl) .nil))))) .nil))) <;> (try (exfalso; omega; done)) <;> (with_reducible conv => whnf))
          refine ⟨k + 1, by omega, by omega, ?_⟩
          refine ⟨[], rfl, ?_, ?_⟩ <;> repeat' (first | exact trivial | exact vm_p | exact vm_ptr rfl rfl rfl | exact vm_yld rfl rfl | exact vm_own rfl rfl rfl rfl | exact vm_own rfl rfl (by omega) (by omega) | exact vm_int (by omega) | exact vm_nil rfl | exact sbm_cells vmL_p | exact sbm_row rfl (fun _ _ => vm_p) | refine ⟨⟨_, rfl, ?_⟩, ?_⟩ | refine ⟨⟨_, _, _, rfl⟩, ?_⟩ | (refine sbm_loop ?_; rw [efr]) | refine sbm_cells ?_ | refine vmL.cons ?_ ?_ | exact vmL.nil | refine vm_own rfl rfl rfl ?_)
          all_goals first | exact sbm_row rfl fun i hi => vm_setI (fun e => by rw [e, tk, rowA_at, az]) (fun e => by rw [tk] at e; exact (rowA_next e).symm) | exact sbm_row rfl fun i hi => vm_setV (vm_own rfl rfl rfl rfl) (fun _ => vm_p)
        · obtain ⟨d', rfl⟩ : ∃ d', d = d' + 1 := ⟨d - 1, by omega⟩
          have az : aKT t s (d' + 1) k = min (min (aKT t s d' k) (mnK (aKT t s d') t.fr.length + 1)) 1000 := by rw [aKT_succ, show 22 - d' = 23 - (d' + 1) by omega, eu]; rfl
          have nxt : (setF (fun i => eE t s (d' + 1) i) (0 + toN (23 - ((d' + 1 : Nat) : Int))) (.own 5 1 0 t.fr.length)) (0 + toN (23 - ((d' + 1 : Nat) : Int) + 1)) = eInts (aL t s d') := by
            have e1 : 0 + toN (23 - ((d' + 1 : Nat) : Int) + 1) = 23 - d' := by rw [toN_eq]; omega
            rw [e1, setF_ne (by omega)]
            exact eE_at (by omega)
          have MN := min_ok (l := aL t s d') (by rw [aL_len]; omega) (by rw [aL_len]; omega)
          rw [aL_min] at MN
          have al := aL_len (t := t) (s := s) (d := d')
          obtain ⟨b, b1, b2⟩ := mnK_ex (f := aKT t s d') t.fr.length n0
          have bb := aK_bd (us := usB t s) (n := t.fr.length) d' b n0
          change 0 ≤ aKT t s d' b ∧ aKT t s d' b ≤ 1000 at bb
          have ek : (aL t s d').getD (toN (k : Int)) 0 = aKT t s d' k := by rw [toN_nat]; exact aL_at k2
          with_reducible conv => whnf
          repeat' ((first | (with_reducible refine branch_t ?_) | (with_reducible refine branch_f ?_) | (with_reducible refine branch_nt ?_) | (with_reducible refine branch_nf ?_) | (with_reducible refine branch_dec (fun _ => ?_) (fun _ => ?_)) | (with_reducible refine branch_ndec (fun _ => ?_) (fun _ => ?_)) | (with_reducible refine branch_bool (fun _ => ?_) (fun _ => ?_)) | (with_reducible refine arith_64 (by omega) ?_) | (with_reducible refine ob_i (by omega) (fun _ => ?_)) | (with_reducible refine ob_i (by unfold room; omega) (fun _ => ?_)) | (with_reducible refine ob_i (by (try simp only [toN_eq, Int.toNat_natCast] at *); (try dsimp only [toN] at *); omega) (fun _ => ?_)) | (with_reducible refine arith_64 (by (try simp only [toN_eq, Int.toNat_natCast] at *); (try dsimp only [toN] at *); omega) ?_) | (with_reducible refine ob_k rfl ?_) | ((with_reducible refine ob_k ?_ ?_); focus kernel_rfl) | (refine yield_i hmix hT rfl hL efr eps eag ebd rfl (by kernel_rfl) ?_) | (apply call_u U) | (apply call_u MN) | (with_reducible refine elemK_of cur ?_) | (with_reducible refine elemK_of nxt ?_) | (refine gen_min3 rfl rfl rfl rfl ?_) | (apply call_l (first_ok (l := [_, _]) (Nat.le_of_ble_eq_true rfl)) (.cons (vm_lit _ rfl rfl (.cons (vm_int rfl) (.cons (vm_int rfl) .nil))) .nil)) | (apply call_l (first_ok (l := [_, _, _]) (Nat.le_of_ble_eq_true rfl)) (.cons (vm_lit _ rfl rfl (.cons (vm_int rfl) (.cons (vm_int rfl) (.cons (vm_int rfl) .nil)))) .nil)) | (apply call_l (first_ok (l := [_, _, _, _]) (Nat.le_of_ble_eq_true rfl)) (.cons (vm_lit _ rfl rfl (.cons (vm_int rfl) (.cons (vm_int rfl) (.cons (vm_int rfl) (.cons (vm_int rfl) .nil))))) .nil))) <;> (try (exfalso; omega; done)) <;> (with_reducible conv => whnf))
          refine ⟨k + 1, by omega, by omega, ?_⟩
          refine ⟨[], rfl, ?_, ?_⟩ <;> repeat' (first | exact trivial | exact vm_p | exact vm_ptr rfl rfl rfl | exact vm_yld rfl rfl | exact vm_own rfl rfl rfl rfl | exact vm_own rfl rfl (by omega) (by omega) | exact vm_int (by omega) | exact vm_nil rfl | exact sbm_cells vmL_p | exact sbm_row rfl (fun _ _ => vm_p) | refine ⟨⟨_, rfl, ?_⟩, ?_⟩ | refine ⟨⟨_, _, _, rfl⟩, ?_⟩ | (refine sbm_loop ?_; rw [efr]) | refine sbm_cells ?_ | refine vmL.cons ?_ ?_ | exact vmL.nil | refine vm_own rfl rfl rfl ?_)
          all_goals first | exact sbm_row rfl fun i hi => vm_setI (fun e => by rw [e, tk, rowA_at, az, ek]) (fun e => by rw [tk] at e; exact (rowA_next e).symm) | exact sbm_row rfl fun i hi => vm_setV (vm_own rfl rfl rfl rfl) (fun _ => vm_p)
    · obtain rfl : k = t.fr.length := by omega
      with_reducible conv => whnf
      repeat' ((first | (with_reducible refine branch_t ?_) | (with_reducible refine branch_f ?_) | (with_reducible refine branch_nt ?_) | (with_reducible refine branch_nf ?_) | (with_reducible refine branch_dec (fun _ => ?_) (fun _ => ?_)) | (with_reducible refine branch_ndec (fun _ => ?_) (fun _ => ?_)) | (with_reducible refine branch_bool (fun _ => ?_) (fun _ => ?_)) | (with_reducible refine arith_64 (by omega) ?_) | (with_reducible refine ob_i (by omega) (fun _ => ?_)) | (with_reducible refine ob_i (by unfold room; omega) (fun _ => ?_)) | (with_reducible refine ob_i (by (try simp only [toN_eq, Int.toNat_natCast] at *); (try dsimp only [toN] at *); omega) (fun _ => ?_)) | (with_reducible refine arith_64 (by (try simp only [toN_eq, Int.toNat_natCast] at *); (try dsimp only [toN] at *); omega) ?_) | (with_reducible refine ob_k rfl ?_) | ((with_reducible refine ob_k ?_ ?_); focus kernel_rfl) | (refine yield_i hmix hT rfl hL efr eps eag ebd rfl (by kernel_rfl) ?_)  | (apply call_l (first_ok (l := [_, _]) (Nat.le_of_ble_eq_true rfl)) (.cons (vm_lit _ rfl rfl (.cons (vm_int rfl) (.cons (vm_int rfl) .nil))) .nil)) | (apply call_l (first_ok (l := [_, _, _]) (Nat.le_of_ble_eq_true rfl)) (.cons (vm_lit _ rfl rfl (.cons (vm_int rfl) (.cons (vm_int rfl) (.cons (vm_int rfl) .nil)))) .nil)) | (apply call_l (first_ok (l := [_, _, _, _]) (Nat.le_of_ble_eq_true rfl)) (.cons (vm_lit _ rfl rfl (.cons (vm_int rfl) (.cons (vm_int rfl) (.cons (vm_int rfl) (.cons (vm_int rfl) .nil))))) .nil))) <;> (try (exfalso; omega; done)) <;> (with_reducible conv => whnf))
      refine ⟨d + 1, by omega, by omega, ?_⟩
      refine ⟨[(3, some 7)], rfl, ?_, ?_⟩ <;> repeat' (first | exact trivial | exact vm_p | exact vm_ptr rfl rfl rfl | exact vm_yld rfl rfl | exact vm_own rfl rfl rfl rfl | exact vm_own rfl rfl (by omega) (by omega) | exact vm_int (by omega) | exact vm_nil rfl | exact sbm_cells vmL_p | exact sbm_row rfl (fun _ _ => vm_p) | refine ⟨⟨_, rfl, ?_⟩, ?_⟩ | refine ⟨⟨_, _, _, rfl⟩, ?_⟩ | (refine sbm_loop ?_; rw [efr]) | refine sbm_cells ?_ | refine vmL.cons ?_ ?_ | exact vmL.nil | refine vm_own rfl rfl rfl ?_)
      refine sbm_row rfl fun i hi => ?_
      by_cases e : i = 23 - d
      · subst e
        rw [td, setF_at, eE_at d2]
        exact vm_fr rfl rfl aL_len.symm (Nat.le_refl _) fun i hi => vm_int (rowA_all (by rw [aL_len] at hi; exact hi))
      · rw [td, setF_ne e, eE_next e]
        exact vm_p
  · obtain rfl : d = 24 := by omega
    clear RP
    have cur : (fun i => eE t s 24 i) (0 + toN 0) = eInts (aL t s 23) := eE_yes (by decide)
    have MN := min_ok (l := aL t s 23) (by rw [aL_len]; omega) (by rw [aL_len]; omega)
    rw [aL_min] at MN
    change FnOK Tryz.prog 86 [eInts (aL t s 23)] (I (m0 (usB t s) t.fr.length)) [] at MN
    by_cases hk : okT t s
    case neg =>
      rw [if_neg hk]
      rw [m0_none n0 hk] at MN
      with_reducible conv => whnf
      repeat' ((first | (with_reducible refine branch_t ?_) | (with_reducible refine branch_f ?_) | (with_reducible refine branch_nt ?_) | (with_reducible refine branch_nf ?_) | (with_reducible refine branch_dec (fun _ => ?_) (fun _ => ?_)) | (with_reducible refine branch_ndec (fun _ => ?_) (fun _ => ?_)) | (with_reducible refine branch_bool (fun _ => ?_) (fun _ => ?_)) | (with_reducible refine arith_64 (by omega) ?_) | (with_reducible refine ob_i (by omega) (fun _ => ?_)) | (with_reducible refine ob_i (by unfold room; omega) (fun _ => ?_)) | (with_reducible refine ob_i (by (try simp only [toN_eq, Int.toNat_natCast] at *); (try dsimp only [toN] at *); omega) (fun _ => ?_)) | (with_reducible refine arith_64 (by (try simp only [toN_eq, Int.toNat_natCast] at *); (try dsimp only [toN] at *); omega) ?_) | (with_reducible refine ob_k rfl ?_) | ((with_reducible refine ob_k ?_ ?_); focus kernel_rfl) | (refine yield_i hmix hT rfl hL efr eps eag ebd rfl (by kernel_rfl) ?_) | (apply call_u MN) | (with_reducible refine elemK_of cur ?_) | (apply call_l (first_ok (l := [_, _]) (Nat.le_of_ble_eq_true rfl)) (.cons (vm_lit _ rfl rfl (.cons (vm_int rfl) (.cons (vm_int rfl) .nil))) .nil)) | (apply call_l (first_ok (l := [_, _, _]) (Nat.le_of_ble_eq_true rfl)) (.cons (vm_lit _ rfl rfl (.cons (vm_int rfl) (.cons (vm_int rfl) (.cons (vm_int rfl) .nil)))) .nil)) | (apply call_l (first_ok (l := [_, _, _, _]) (Nat.le_of_ble_eq_true rfl)) (.cons (vm_lit _ rfl rfl (.cons (vm_int rfl) (.cons (vm_int rfl) (.cons (vm_int rfl) (.cons (vm_int rfl) .nil))))) .nil))) <;> (try (exfalso; omega; done)) <;> (with_reducible conv => whnf))
      exact ret0 (vm_tup (.cons (vm_nilsl rfl) (.cons vm_p .nil)))
    rw [if_pos hk]
    have mb := (sch_ok hk 0 (by omega)).left
    change 0 ≤ m0 (usB t s) t.fr.length ∧ m0 (usB t s) t.fr.length ≤ 23 at mb
    with_reducible conv => whnf
    repeat' ((first | (with_reducible refine branch_t ?_) | (with_reducible refine branch_f ?_) | (with_reducible refine branch_nt ?_) | (with_reducible refine branch_nf ?_) | (with_reducible refine branch_dec (fun _ => ?_) (fun _ => ?_)) | (with_reducible refine branch_ndec (fun _ => ?_) (fun _ => ?_)) | (with_reducible refine branch_bool (fun _ => ?_) (fun _ => ?_)) | (with_reducible refine arith_64 (by omega) ?_) | (with_reducible refine ob_i (by omega) (fun _ => ?_)) | (with_reducible refine ob_i (by unfold room; omega) (fun _ => ?_)) | (with_reducible refine ob_i (by (try simp only [toN_eq, Int.toNat_natCast] at *); (try dsimp only [toN] at *); omega) (fun _ => ?_)) | (with_reducible refine arith_64 (by (try simp only [toN_eq, Int.toNat_natCast] at *); (try dsimp only [toN] at *); omega) ?_) | (with_reducible refine ob_k rfl ?_) | ((with_reducible refine ob_k ?_ ?_); focus kernel_rfl) | (refine yield_i hmix hT rfl hL efr eps eag ebd rfl (by kernel_rfl) ?_) | (apply call_u MN) | (with_reducible refine elemK_of cur ?_) | (apply call_l (first_ok (l := [_, _]) (Nat.le_of_ble_eq_true rfl)) (.cons (vm_lit _ rfl rfl (.cons (vm_int rfl) (.cons (vm_int rfl) .nil))) .nil)) | (apply call_l (first_ok (l := [_, _, _]) (Nat.le_of_ble_eq_true rfl)) (.cons (vm_lit _ rfl rfl (.cons (vm_int rfl) (.cons (vm_int rfl) (.cons (vm_int rfl) .nil)))) .nil)) | (apply call_l (first_ok (l := [_, _, _, _]) (Nat.le_of_ble_eq_true rfl)) (.cons (vm_lit _ rfl rfl (.cons (vm_int rfl) (.cons (vm_int rfl) (.cons (vm_int rfl) (.cons (vm_int rfl) .nil))))) .nil))) <;> (try (exfalso; omega; done)) <;> (with_reducible conv => whnf))
    clear cur MN
    refine loop_i hmix hT (fun h : Nat => ([(8, .own 1 1 0 h), (9, .ptr 0 0), (69, .sl 1 24 (fun i => eInts (aL t s (23 - i)))), (70, I 24), (71, I h)], ⟨2, [(1, .row 1 h (fun i => I ((sch (usB t s) t.fr.length h).1.getD i 0)) 3), (0, .cells [I (sch (usB t s) t.fr.length h).2] 3)]⟩)) (fun h => h ≤ 24) (fun h => 24 - h) 0 (by omega) ?_ ?_
    · refine ⟨[(1, none), (0, some 4)], rfl, ?_, ?_⟩ <;> repeat' (first | exact trivial | exact vm_p | exact vm_ptr rfl rfl rfl | exact vm_yld rfl rfl | exact vm_own rfl rfl rfl rfl | exact vm_own rfl rfl (by omega) (by omega) | exact vm_int (by omega) | exact vm_nil rfl | exact sbm_cells vmL_p | exact sbm_row rfl (fun _ _ => vm_p) | refine ⟨⟨_, rfl, ?_⟩, ?_⟩ | refine ⟨⟨_, _, _, rfl⟩, ?_⟩ | (refine sbm_loop ?_; rw [efr]) | refine sbm_cells ?_ | refine vmL.cons ?_ ?_ | exact vmL.nil | refine vm_own rfl rfl rfl ?_)
      exact vm_fr rfl rfl rfl (Nat.le_refl _) fun i hi => by rw [eE_yes (by omega)]; exact vm_p
    intro h hh
    have SI := sch_ok hk h hh
    have lf := SI.left
    by_cases h2 : h < 24
    · obtain ⟨pj, p1, p2, p3, p4⟩ := pick_ok hk h2 SI
      have al := aL_len (t := t) (s := s) (d := 23 - toN (h : Int))
      have IX := indexFunc_ok (l := aL t s (23 - toN (h : Int))) (a := (sch (usB t s) t.fr.length h).2) (by omega)
      have nx : sch (usB t s) t.fr.length (h + 1) = ((sch (usB t s) t.fr.length h).1 ++ [(pj : Int)], (sch (usB t s) t.fr.length h).2 - used (sch (usB t s) t.fr.length h).1 pj) := by
        rw [sch, p4]; rfl
      have ua : ∀ c, used (sch (usB t s) t.fr.length h).1 c = if h = 0 then 0 else chg ((sch (usB t s) t.fr.length h).1.getD (h - 1) 0) c := fun c => used_at SI
      have av : ∀ c, c < t.fr.length → (aL t s (23 - toN (h : Int))).getD c 0 = aft (usB t s) t.fr.length h c := fun c hc => by
        rw [aL_at hc, toN_nat]; rfl
      by_cases h0 : h = 0
      · have pe : fstIx (fun i => decide ((aL t s (23 - toN (h : Int))).getD i 0 ≤ (sch (usB t s) t.fr.length h).2)) (aL t s (23 - toN (h : Int))).length = pj := by
          rw [← p4, al]
          refine fstIx_congr _ fun i hi => ?_
          unfold pickB
          rw [av i hi, ua, if_pos h0, Int.add_zero]
        rw [pe] at IX
        rw [ua, if_pos h0] at nx
        with_reducible conv => whnf
        repeat' ((first | (with_reducible refine branch_t ?_) | (with_reducible refine branch_f ?_) | (with_reducible refine branch_nt ?_) | (with_reducible refine branch_nf ?_) | (with_reducible refine branch_dec (fun _ => ?_) (fun _ => ?_)) | (with_reducible refine branch_ndec (fun _ => ?_) (fun _ => ?_)) | (with_reducible refine branch_bool (fun _ => ?_) (fun _ => ?_)) | (with_reducible refine arith_64 (by omega) ?_) | (with_reducible refine ob_i (by omega) (fun _ => ?_)) | (with_reducible refine ob_i (by unfold room; omega) (fun _ => ?_)) | (with_reducible refine ob_i (by (try simp only [toN_eq, Int.toNat_natCast] at *); (try dsimp only [toN] at *); omega) (fun _ => ?_)) | (with_reducible refine arith_64 (by (try simp only [toN_eq, Int.toNat_natCast] at *); (try dsimp only [toN] at *); omega) ?_) | (with_reducible refine ob_k rfl ?_) | ((with_reducible refine ob_k ?_ ?_); focus kernel_rfl) | (refine yield_i hmix hT rfl hL efr eps eag ebd rfl (by kernel_rfl) ?_) | (apply call_l IX (.cons vm_p (.cons (vm_fn (.cons (vm_frzp trivial rfl kept_no rfl rfl vmL_p) .nil)) .nil))) | (apply call_l (first_ok (l := [_, _]) (Nat.le_of_ble_eq_true rfl)) (.cons (vm_lit _ rfl rfl (.cons (vm_int rfl) (.cons (vm_int rfl) .nil))) .nil)) | (apply call_l (first_ok (l := [_, _, _]) (Nat.le_of_ble_eq_true rfl)) (.cons (vm_lit _ rfl rfl (.cons (vm_int rfl) (.cons (vm_int rfl) (.cons (vm_int rfl) .nil)))) .nil)) | (apply call_l (first_ok (l := [_, _, _, _]) (Nat.le_of_ble_eq_true rfl)) (.cons (vm_lit _ rfl rfl (.cons (vm_int rfl) (.cons (vm_int rfl) (.cons (vm_int rfl) (.cons (vm_int rfl) .nil))))) .nil))) <;> (try (exfalso; omega; done)) <;> (with_reducible conv => whnf))
        refine ⟨h + 1, by omega, by omega, ?_⟩
        rw [nx]
        refine ⟨[(1, some 3)], rfl, ?_, ?_⟩ <;> repeat' (first | exact trivial | exact vm_p | exact vm_ptr rfl rfl rfl | exact vm_yld rfl rfl | exact vm_own rfl rfl rfl rfl | exact vm_own rfl rfl (by omega) (by omega) | exact vm_int (by omega) | exact vm_nil rfl | exact sbm_cells vmL_p | exact sbm_row rfl (fun _ _ => vm_p) | refine ⟨⟨_, rfl, ?_⟩, ?_⟩ | refine ⟨⟨_, _, _, rfl⟩, ?_⟩ | (refine sbm_loop ?_; rw [efr]) | refine sbm_cells ?_ | refine vmL.cons ?_ ?_ | exact vmL.nil | refine vm_own rfl rfl rfl ?_)
        refine sbm_row rfl fun j hj => vm_snoc (e' := fun j => I (((sch (usB t s) t.fr.length h).1 ++ [(pj : Int)]).getD j 0)) hj (fun k hk' => ?_) ?_
        · exact vm_int (getD_snoc_lt (by rw [SI.len]; exact hk')).symm
        · exact vm_int (getD_snoc_at SI.len).symm
      · have tl : (sch (usB t s) t.fr.length h).1.getD (0 + toN ((h : Int) - 1)) 0 = (sch (usB t s) t.fr.length h).1.getD (h - 1) 0 := by rw [show 0 + toN ((h : Int) - 1) = h - 1 by rw [toN_eq]; omega]
        have ua2 : ∀ c, used (sch (usB t s) t.fr.length h).1 c = chg ((sch (usB t s) t.fr.length h).1.getD (0 + toN ((h : Int) - 1)) 0) c := fun c => by rw [ua, if_neg h0, tl]
        rw [ua2] at nx
        with_reducible conv => whnf
        repeat' ((first | (with_reducible refine branch_t ?_) | (with_reducible refine branch_f ?_) | (with_reducible refine branch_nt ?_) | (with_reducible refine branch_nf ?_) | (with_reducible refine branch_dec (fun _ => ?_) (fun _ => ?_)) | (with_reducible refine branch_ndec (fun _ => ?_) (fun _ => ?_)) | (with_reducible refine branch_bool (fun _ => ?_) (fun _ => ?_)) | (with_reducible refine arith_64 (by omega) ?_) | (with_reducible refine ob_i (by omega) (fun _ => ?_)) | (with_reducible refine ob_i (by unfold room; omega) (fun _ => ?_)) | (with_reducible refine ob_i (by (try simp only [toN_eq, Int.toNat_natCast] at *); (try dsimp only [toN] at *); omega) (fun _ => ?_)) | (with_reducible refine arith_64 (by (try simp only [toN_eq, Int.toNat_natCast] at *); (try dsimp only [toN] at *); omega) ?_) | (with_reducible refine ob_k rfl ?_) | ((with_reducible refine ob_k ?_ ?_); focus kernel_rfl) | (refine yield_i hmix hT rfl hL efr eps eag ebd rfl (by kernel_rfl) ?_) | (apply call_l IX (.cons vm_p (.cons (vm_fn (.cons (vm_frzp trivial rfl kept_no rfl rfl vmL_p) .nil)) .nil))) | (apply call_l (first_ok (l := [_, _]) (Nat.le_of_ble_eq_true rfl)) (.cons (vm_lit _ rfl rfl (.cons (vm_int rfl) (.cons (vm_int rfl) .nil))) .nil)) | (apply call_l (first_ok (l := [_, _, _]) (Nat.le_of_ble_eq_true rfl)) (.cons (vm_lit _ rfl rfl (.cons (vm_int rfl) (.cons (vm_int rfl) (.cons (vm_int rfl) .nil)))) .nil)) | (apply call_l (first_ok (l := [_, _, _, _]) (Nat.le_of_ble_eq_true rfl)) (.cons (vm_lit _ rfl rfl (.cons (vm_int rfl) (.cons (vm_int rfl) (.cons (vm_int rfl) (.cons (vm_int rfl) .nil))))) .nil))) <;> (try (exfalso; omega; done)) <;> (with_reducible conv => whnf))
        generalize (sch (usB t s) t.fr.length h).1.getD (0 + toN ((h : Int) - 1)) 0 = last at nx ua2
        refine loop_i hmix hT (fun k : Nat => ([(8, .own 1 1 0 h), (9, .ptr 0 0), (12, I (fstIx (pickB (usB t s) t.fr.length h (sch (usB t s) t.fr.length h).1 (sch (usB t s) t.fr.length h).2) k)), (13, I last), (69, .sl 1 24 (fun i => eInts (aL t s (23 - i)))), (70, I 24), (71, I h), (87, eInts (aL t s (23 - toN (h : Int)))), (88, I (aL t s (23 - toN (h : Int))).length), (89, I k)], ⟨2, [(1, .row 1 h (fun i => I ((sch (usB t s) t.fr.length h).1.getD i 0)) 3), (0, .cells [I (sch (usB t s) t.fr.length h).2] 3)]⟩)) (fun k => k ≤ t.fr.length) (fun k => t.fr.length - k) 0 (by omega) ?_ ?_
        · refine ⟨[], rfl, ?_, ?_⟩ <;> repeat' (first | exact trivial | exact vm_p | exact vm_ptr rfl rfl rfl | exact vm_yld rfl rfl | exact vm_own rfl rfl rfl rfl | exact vm_own rfl rfl (by omega) (by omega) | exact vm_int (by omega) | exact vm_nil rfl | exact sbm_cells vmL_p | exact sbm_row rfl (fun _ _ => vm_p) | refine ⟨⟨_, rfl, ?_⟩, ?_⟩ | refine ⟨⟨_, _, _, rfl⟩, ?_⟩ | (refine sbm_loop ?_; rw [efr]) | refine sbm_cells ?_ | refine vmL.cons ?_ ?_ | exact vmL.nil | refine vm_own rfl rfl rfl ?_)
        intro k hk2
        have fb : -1 ≤ fstIx (pickB (usB t s) t.fr.length h (sch (usB t s) t.fr.length h).1 (sch (usB t s) t.fr.length h).2) k := by
          rcases fstIx_spec (p := pickB (usB t s) t.fr.length h (sch (usB t s) t.fr.length h).1 (sch (usB t s) t.fr.length h).2) k with ⟨q, _⟩ | ⟨j, _, _, _, q⟩ <;> omega
        have cgb : ∀ a b : Int, 0 ≤ chg a b ∧ chg a b ≤ 1 := fun a b => by unfold chg; split <;> omega
        by_cases k2 : k < t.fr.length
        · have fx : fstIx (pickB (usB t s) t.fr.length h (sch (usB t s) t.fr.length h).1 (sch (usB t s) t.fr.length h).2) (k + 1) = if 0 ≤ fstIx (pickB (usB t s) t.fr.length h (sch (usB t s) t.fr.length h).1 (sch (usB t s) t.fr.length h).2) k then fstIx (pickB (usB t s) t.fr.length h (sch (usB t s) t.fr.length h).1 (sch (usB t s) t.fr.length h).2) k else if pickB (usB t s) t.fr.length h (sch (usB t s) t.fr.length h).1 (sch (usB t s) t.fr.length h).2 k = true then (k : Int) else -1 := rfl
          have ak : (aL t s (23 - toN (h : Int))).getD (toN (k : Int)) 0 = aft (usB t s) t.fr.length h k := by rw [toN_nat k]; exact av k k2
          have pk : pickB (usB t s) t.fr.length h (sch (usB t s) t.fr.length h).1 (sch (usB t s) t.fr.length h).2 k = decide ((aL t s (23 - toN (h : Int))).getD (toN (k : Int)) 0 + chg last k ≤ (sch (usB t s) t.fr.length h).2) := by
            unfold pickB; rw [ua2, ak]
          rw [pk] at fx
          have cg := cgb last k
          have fb2 := fb
          by_cases q : (aL t s (23 - toN (h : Int))).getD (toN (k : Int)) 0 ≤ (sch (usB t s) t.fr.length h).2 - chg last k
          · rw [decide_eq_true (by omega)] at fx
            by_cases q2 : fstIx (pickB (usB t s) t.fr.length h (sch (usB t s) t.fr.length h).1 (sch (usB t s) t.fr.length h).2) k < 0
            · rw [if_neg (by omega), if_pos rfl] at fx
              with_reducible conv => whnf
              repeat' ((first | (with_reducible refine branch_t ?_) | (with_reducible refine branch_f ?_) | (with_reducible refine branch_nt ?_) | (with_reducible refine branch_nf ?_) | (with_reducible refine branch_dec (fun _ => ?_) (fun _ => ?_)) | (with_reducible refine branch_ndec (fun _ => ?_) (fun _ => ?_)) | (with_reducible refine branch_bool (fun _ => ?_) (fun _ => ?_)) | (with_reducible refine arith_64 (by omega) ?_) | (with_reducible refine ob_i (by omega) (fun _ => ?_)) | (with_reducible refine ob_i (by unfold room; omega) (fun _ => ?_)) | (with_reducible refine ob_i (by (try simp only [toN_eq, Int.toNat_natCast] at *); (try dsimp only [toN] at *); omega) (fun _ => ?_)) | (with_reducible refine arith_64 (by (try simp only [toN_eq, Int.toNat_natCast] at *); (try dsimp only [toN] at *); omega) ?_) | (with_reducible refine ob_k rfl ?_) | ((with_reducible refine ob_k ?_ ?_); focus kernel_rfl) | (refine yield_i hmix hT rfl hL efr eps eag ebd rfl (by kernel_rfl) ?_) | (apply call_u changed_ok) | (apply call_l (first_ok (l := [_, _]) (Nat.le_of_ble_eq_true rfl)) (.cons (vm_lit _ rfl rfl (.cons (vm_int rfl) (.cons (vm_int rfl) .nil))) .nil)) | (apply call_l (first_ok (l := [_, _, _]) (Nat.le_of_ble_eq_true rfl)) (.cons (vm_lit _ rfl rfl (.cons (vm_int rfl) (.cons (vm_int rfl) (.cons (vm_int rfl) .nil)))) .nil)) | (apply call_l (first_ok (l := [_, _, _, _]) (Nat.le_of_ble_eq_true rfl)) (.cons (vm_lit _ rfl rfl (.cons (vm_int rfl) (.cons (vm_int rfl) (.cons (vm_int rfl) (.cons (vm_int rfl) .nil))))) .nil))) <;> (try (exfalso; omega; done)) <;> (with_reducible conv => whnf))
              refine ⟨k + 1, by omega, by omega, ?_⟩
              rw [fx]
              refine ⟨[], rfl, ?_, ?_⟩ <;> repeat' (first | exact trivial | exact vm_p | exact vm_ptr rfl rfl rfl | exact vm_yld rfl rfl | exact vm_own rfl rfl rfl rfl | exact vm_own rfl rfl (by omega) (by omega) | exact vm_int (by omega) | exact vm_nil rfl | exact sbm_cells vmL_p | exact sbm_row rfl (fun _ _ => vm_p) | refine ⟨⟨_, rfl, ?_⟩, ?_⟩ | refine ⟨⟨_, _, _, rfl⟩, ?_⟩ | (refine sbm_loop ?_; rw [efr]) | refine sbm_cells ?_ | refine vmL.cons ?_ ?_ | exact vmL.nil | refine vm_own rfl rfl rfl ?_)
            · rw [if_pos (by omega)] at fx
              with_reducible conv => whnf
              repeat' ((first | (with_reducible refine branch_t ?_) | (with_reducible refine branch_f ?_) | (with_reducible refine branch_nt ?_) | (with_reducible refine branch_nf ?_) | (with_reducible refine branch_dec (fun _ => ?_) (fun _ => ?_)) | (with_reducible refine branch_ndec (fun _ => ?_) (fun _ => ?_)) | (with_reducible refine branch_bool (fun _ => ?_) (fun _ => ?_)) | (with_reducible refine arith_64 (by omega) ?_) | (with_reducible refine ob_i (by omega) (fun _ => ?_)) | (with_reducible refine ob_i (by unfold room; omega) (fun _ => ?_)) | (with_reducible refine ob_i (by (try simp only [toN_eq, Int.toNat_natCast] at *); (try dsimp only [toN] at *); omega) (fun _ => ?_)) | (with_reducible refine arith_64 (by (try simp only [toN_eq, Int.toNat_natCast] at *); (try dsimp only [toN] at *); omega) ?_) | (with_reducible refine ob_k rfl ?_) | ((with_reducible refine ob_k ?_ ?_); focus kernel_rfl) | (refine yield_i hmix hT rfl hL efr eps eag ebd rfl (by kernel_rfl) ?_) | (apply call_u changed_ok) | (apply call_l (first_ok (l := [_, _]) (Nat.le_of_ble_eq_true rfl)) (.cons (vm_lit _ rfl rfl (.cons (vm_int rfl) (.cons (vm_int rfl) .nil))) .nil)) | (apply call_l (first_ok (l := [_, _, _]) (Nat.le_of_ble_eq_true rfl)) (.cons (vm_lit _ rfl rfl (.cons (vm_int rfl) (.cons (vm_int rfl) (.cons (vm_int rfl) .nil)))) .nil)) | (apply call_l (first_ok (l := [_, _, _, _]) (Nat.le_of_ble_eq_true rfl)) (.cons (vm_lit _ rfl rfl (.cons (vm_int rfl) (.cons (vm_int rfl) (.cons (vm_int rfl) (.cons (vm_int rfl) .nil))))) .nil))) <;> (try (exfalso; omega; done)) <;> (with_reducible conv => whnf))
              refine ⟨k + 1, by omega, by omega, ?_⟩
              rw [fx]
              refine ⟨[], rfl, ?_, ?_⟩ <;> repeat' (first | exact trivial | exact vm_p | exact vm_ptr rfl rfl rfl | exact vm_yld rfl rfl | exact vm_own rfl rfl rfl rfl | exact vm_own rfl rfl (by omega) (by omega) | exact vm_int (by omega) | exact vm_nil rfl | exact sbm_cells vmL_p | exact sbm_row rfl (fun _ _ => vm_p) | refine ⟨⟨_, rfl, ?_⟩, ?_⟩ | refine ⟨⟨_, _, _, rfl⟩, ?_⟩ | (refine sbm_loop ?_; rw [efr]) | refine sbm_cells ?_ | refine vmL.cons ?_ ?_ | exact vmL.nil | refine vm_own rfl rfl rfl ?_)
          · rw [decide_eq_false (by omega)] at fx
            have fx2 : fstIx (pickB (usB t s) t.fr.length h (sch (usB t s) t.fr.length h).1 (sch (usB t s) t.fr.length h).2) (k + 1) = fstIx (pickB (usB t s) t.fr.length h (sch (usB t s) t.fr.length h).1 (sch (usB t s) t.fr.length h).2) k := by
              rw [fx]; split
              · rfl
              · rw [if_neg (by decide)]; omega
            with_reducible conv => whnf
            repeat' ((first | (with_reducible refine branch_t ?_) | (with_reducible refine branch_f ?_) | (with_reducible refine branch_nt ?_) | (with_reducible refine branch_nf ?_) | (with_reducible refine branch_dec (fun _ => ?_) (fun _ => ?_)) | (with_reducible refine branch_ndec (fun _ => ?_) (fun _ => ?_)) | (with_reducible refine branch_bool (fun _ => ?_) (fun _ => ?_)) | (with_reducible refine arith_64 (by omega) ?_) | (with_reducible refine ob_i (by omega) (fun _ => ?_)) | (with_reducible refine ob_i (by unfold room; omega) (fun _ => ?_)) | (with_reducible refine ob_i (by (try simp only [toN_eq, Int.toNat_natCast] at *); (try dsimp only [toN] at *); omega) (fun _ => ?_)) | (with_reducible refine arith_64 (by (try simp only [toN_eq, Int.toNat_natCast] at *); (try dsimp only [toN] at *); omega) ?_) | (with_reducible refine ob_k rfl ?_) | ((with_reducible refine ob_k ?_ ?_); focus kernel_rfl) | (refine yield_i hmix hT rfl hL efr eps eag ebd rfl (by kernel_rfl) ?_) | (apply call_u changed_ok) | (apply call_l (first_ok (l := [_, _]) (Nat.le_of_ble_eq_true rfl)) (.cons (vm_lit _ rfl rfl (.cons (vm_int rfl) (.cons (vm_int rfl) .nil))) .nil)) | (apply call_l (first_ok (l := [_, _, _]) (Nat.le_of_ble_eq_true rfl)) (.cons (vm_lit _ rfl rfl (.cons (vm_int rfl) (.cons (vm_int rfl) (.cons (vm_int rfl) .nil)))) .nil)) | (apply call_l (first_ok (l := [_, _, _, _]) (Nat.le_of_ble_eq_true rfl)) (.cons (vm_lit _ rfl rfl (.cons (vm_int rfl) (.cons (vm_int rfl) (.cons (vm_int rfl) (.cons (vm_int rfl) .nil))))) .nil))) <;> (try (exfalso; omega; done)) <;> (with_reducible conv => whnf))
            all_goals
              refine ⟨k + 1, by omega, by omega, ?_⟩
              rw [fx2]
              refine ⟨[], rfl, ?_, ?_⟩ <;> repeat' (first | exact trivial | exact vm_p | exact vm_ptr rfl rfl rfl | exact vm_yld rfl rfl | exact vm_own rfl rfl rfl rfl | exact vm_own rfl rfl (by omega) (by omega) | exact vm_int (by omega) | exact vm_nil rfl | exact sbm_cells vmL_p | exact sbm_row rfl (fun _ _ => vm_p) | refine ⟨⟨_, rfl, ?_⟩, ?_⟩ | refine ⟨⟨_, _, _, rfl⟩, ?_⟩ | (refine sbm_loop ?_; rw [efr]) | refine sbm_cells ?_ | refine vmL.cons ?_ ?_ | exact vmL.nil | refine vm_own rfl rfl rfl ?_)
        · obtain rfl : k = t.fr.length := by omega
          have cg := cgb last pj
          have pe : fstIx (pickB (usB t s) t.fr.length h (sch (usB t s) t.fr.length h).1 (sch (usB t s) t.fr.length h).2) t.fr.length = pj := p4
          rw [pe]
          with_reducible conv => whnf
          repeat' ((first | (with_reducible refine branch_t ?_) | (with_reducible refine branch_f ?_) | (with_reducible refine branch_nt ?_) | (with_reducible refine branch_nf ?_) | (with_reducible refine branch_dec (fun _ => ?_) (fun _ => ?_)) | (with_reducible refine branch_ndec (fun _ => ?_) (fun _ => ?_)) | (with_reducible refine branch_bool (fun _ => ?_) (fun _ => ?_)) | (with_reducible refine arith_64 (by omega) ?_) | (with_reducible refine ob_i (by omega) (fun _ => ?_)) | (with_reducible refine ob_i (by unfold room; omega) (fun _ => ?_)) | (with_reducible refine ob_i (by (try simp only [toN_eq, Int.toNat_natCast] at *); (try dsimp only [toN] at *); omega) (fun _ => ?_)) | (with_reducible refine arith_64 (by (try simp only [toN_eq, Int.toNat_natCast] at *); (try dsimp only [toN] at *); omega) ?_) | (with_reducible refine ob_k rfl ?_) | ((with_reducible refine ob_k ?_ ?_); focus kernel_rfl) | (refine yield_i hmix hT rfl hL efr eps eag ebd rfl (by kernel_rfl) ?_) | (apply call_u changed_ok) | (apply call_l (first_ok (l := [_, _]) (Nat.le_of_ble_eq_true rfl)) (.cons (vm_lit _ rfl rfl (.cons (vm_int rfl) (.cons (vm_int rfl) .nil))) .nil)) | (apply call_l (first_ok (l := [_, _, _]) (Nat.le_of_ble_eq_true rfl)) (.cons (vm_lit _ rfl rfl (.cons (vm_int rfl) (.cons (vm_int rfl) (.cons (vm_int rfl) .nil)))) .nil)) | (apply call_l (first_ok (l := [_, _, _, _]) (Nat.le_of_ble_eq_true rfl)) (.cons (vm_lit _ rfl rfl (.cons (vm_int rfl) (.cons (vm_int rfl) (.cons (vm_int rfl) (.cons (vm_int rfl) .nil))))) .nil))) <;> (try (exfalso; omega; done)) <;> (with_reducible conv => whnf))
          refine ⟨h + 1, by omega, by omega, ?_⟩
          rw [nx]
          refine ⟨[(1, some 3)], rfl, ?_, ?_⟩ <;> repeat' (first | exact trivial | exact vm_p | exact vm_ptr rfl rfl rfl | exact vm_yld rfl rfl | exact vm_own rfl rfl rfl rfl | exact vm_own rfl rfl (by omega) (by omega) | exact vm_int (by omega) | exact vm_nil rfl | exact sbm_cells vmL_p | exact sbm_row rfl (fun _ _ => vm_p) | refine ⟨⟨_, rfl, ?_⟩, ?_⟩ | refine ⟨⟨_, _, _, rfl⟩, ?_⟩ | (refine sbm_loop ?_; rw [efr]) | refine sbm_cells ?_ | refine vmL.cons ?_ ?_ | exact vmL.nil | refine vm_own rfl rfl rfl ?_)
          refine sbm_row rfl fun j hj => vm_snoc (e' := fun j => I (((sch (usB t s) t.fr.length h).1 ++ [(pj : Int)]).getD j 0)) hj (fun k hk' => ?_) ?_
          · exact vm_int (getD_snoc_lt (by rw [SI.len]; exact hk')).symm
          · exact vm_int (getD_snoc_at SI.len).symm
    · obtain rfl : h = 24 := by omega
      with_reducible conv => whnf
      repeat' ((first | (with_reducible refine branch_t ?_) | (with_reducible refine branch_f ?_) | (with_reducible refine branch_nt ?_) | (with_reducible refine branch_nf ?_) | (with_reducible refine branch_dec (fun _ => ?_) (fun _ => ?_)) | (with_reducible refine branch_ndec (fun _ => ?_) (fun _ => ?_)) | (with_reducible refine branch_bool (fun _ => ?_) (fun _ => ?_)) | (with_reducible refine arith_64 (by omega) ?_) | (with_reducible refine ob_i (by omega) (fun _ => ?_)) | (with_reducible refine ob_i (by unfold room; omega) (fun _ => ?_)) | (with_reducible refine ob_i (by (try simp only [toN_eq, Int.toNat_natCast] at *); (try dsimp only [toN] at *); omega) (fun _ => ?_)) | (with_reducible refine arith_64 (by (try simp only [toN_eq, Int.toNat_natCast] at *); (try dsimp only [toN] at *); omega) ?_) | (with_reducible refine ob_k rfl ?_) | ((with_reducible refine ob_k ?_ ?_); focus kernel_rfl) | (refine yield_i hmix hT rfl hL efr eps eag ebd rfl (by kernel_rfl) ?_)  | (apply call_l (first_ok (l := [_, _]) (Nat.le_of_ble_eq_true rfl)) (.cons (vm_lit _ rfl rfl (.cons (vm_int rfl) (.cons (vm_int rfl) .nil))) .nil)) | (apply call_l (first_ok (l := [_, _, _]) (Nat.le_of_ble_eq_true rfl)) (.cons (vm_lit _ rfl rfl (.cons (vm_int rfl) (.cons (vm_int rfl) (.cons (vm_int rfl) .nil)))) .nil)) | (apply call_l (first_ok (l := [_, _, _, _]) (Nat.le_of_ble_eq_true rfl)) (.cons (vm_lit _ rfl rfl (.cons (vm_int rfl) (.cons (vm_int rfl) (.cons (vm_int rfl) (.cons (vm_int rfl) .nil))))) .nil))) <;> (try (exfalso; omega; done)) <;> (with_reducible conv => whnf))
      exact ret0 (vm_tup (.cons (vm_fr rfl rfl SI.len.symm (Nat.le_refl _) fun i hi => vm_p) (.cons vm_p .nil)))
end Go.Proofs.YtcdcmeiipfafdaaGreat
