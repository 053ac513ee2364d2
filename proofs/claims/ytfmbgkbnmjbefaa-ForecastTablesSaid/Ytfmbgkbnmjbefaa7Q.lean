/-
  Chapter 7: ranges that are apart (by contract).
  Conditions: none.
-/
import Derived.Test.Ytfmbgkbnmjbefaa7P
namespace Go.Proofs.Ytfmbgkbnmjbefaa
open Go.RowKit Fx
def prv (L : List (Int × Int)) (k : Nat) : Int := if 0 < k then (L.getD (k - 1) (0, 0)).2 else 0
def a12 (L : List (Int × Int)) (k : Nat) : Int := if ¬ ((0 ≤ (L.getD k (0, 0)).1 ∧ (L.getD k (0, 0)).1 ≤ 23) ∧ 0 ≤ (L.getD k (0, 0)).2 ∧ (L.getD k (0, 0)).2 ≤ 23) then 2 else if ¬ ((L.getD k (0, 0)).1 < (L.getD k (0, 0)).2 ∧ prv L k ≤ (L.getD k (0, 0)).1) then 9 else 0
def aE (t : Tb) (s : Int) (L : List (Int × Int)) (k : Nat) : Int := if a12 L k ≠ 0 then a12 L k else if stT t s (L.getD k (0, 0)).1.toNat (L.getD k (0, 0)).2.toNat = true then 13 else 0
def apI (t : Tb) (s : Int) (L : List (Int × Int)) : Int := fstIx (fun k => decide (aE t s L k ≠ 0)) L.length
def apV (t : Tb) (s : Int) (L : List (Int × Int)) : Int × Int := if 24 ≤ L.length then (0, 8) else if apI t s L < 0 then ((L.length : Int), 0) else (apI t s L, aE t s L (apI t s L).toNat)
theorem apV_hit {t : Tb} {s : Int} {L : List (Int × Int)} {k : Nat} (hl : L.length < 24) (h0 : ∀ i, i < k → aE t s L i = 0) (h1 : aE t s L k ≠ 0) (hk : k < L.length) : apV t s L = ((k : Int), aE t s L k) := by
  have : apI t s L = (k : Int) := fstIx_hit hk (by rw [decide_eq_true_eq]; exact h1) fun i hi => by rw [h0 i hi]; rfl
  unfold apV
  rw [if_neg (by omega), this, if_neg (by omega), Int.toNat_natCast]
theorem apV_none {t : Tb} {s : Int} {L : List (Int × Int)} (hl : L.length < 24) (h0 : ∀ i, i < L.length → aE t s L i = 0) : apV t s L = ((L.length : Int), 0) := by
  have : apI t s L = -1 := fstIx_none fun i hi => by rw [h0 i hi]; rfl
  unfold apV
  rw [if_neg (by omega), this, if_pos (by omega)]
theorem checkApart_bad {t : Tb} {s : Int} {L : List (Int × Int)} (few : FewT t) (hz : plE t s ≠ 0) : FnOK Try.prog 50 [eTb t, I s, ePs L] (.tup [I 0, I (plE t s)]) [] := by
  have OS := openShare_ok (s := s) few
  have fe : ∀ x, firstErr [plE t s, x] = plE t s := fun x => by rw [first_two, if_pos hz]
  have fe0 := fe (if decide ((L.length : Int) < 24) = true then 0 else 8)
  refine fn_i hmix hT Try.f50 (by kernel_rfl) rfl (by kernel_rfl) ?_
  with_reducible conv => whnf
  repeat' ((first | (with_reducible refine branch_t ?_) | (with_reducible refine branch_f ?_) | (with_reducible refine branch_nt ?_) | (with_reducible refine branch_nf ?_) | (with_reducible refine branch_dec (fun _ => ?_) (fun _ => ?_)) | (with_reducible refine branch_ndec (fun _ => ?_) (fun _ => ?_)) | (with_reducible refine branch_bool (fun _ => ?_) (fun _ => ?_)) | (with_reducible refine arith_64 (by omega) ?_) | (with_reducible refine ob_i (by omega) (fun _ => ?_)) | (with_reducible refine ob_i (by unfold room; omega) (fun _ => ?_)) | (with_reducible refine ob_i (by (try simp only [toN_eq, Int.toNat_natCast] at *); (try dsimp only [toN] at *); omega) (fun _ => ?_)) | (with_reducible refine arith_64 (by (try simp only [toN_eq, Int.toNat_natCast] at *); (try dsimp only [toN] at *); omega) ?_) | (with_reducible refine ob_k rfl ?_) | ((with_reducible refine ob_k ?_ ?_); focus kernel_rfl) | (refine yield_i hmix hT rfl hL efr eps eag ebd rfl (by kernel_rfl) ?_) | (apply call_u OS) | (apply call_u unless_ok) | (apply call_l (first_ok (l := [_, _]) (Nat.le_of_ble_eq_true rfl)) (.cons (vm_lit _ rfl rfl (.cons (vm_int rfl) (.cons (vm_int rfl) .nil))) .nil)) | (apply call_l (first_ok (l := [_, _, _]) (Nat.le_of_ble_eq_true rfl)) (.cons (vm_lit _ rfl rfl (.cons (vm_int rfl) (.cons (vm_int rfl) (.cons (vm_int rfl) .nil)))) .nil)) | (apply call_l (first_ok (l := [_, _, _, _]) (Nat.le_of_ble_eq_true rfl)) (.cons (vm_lit _ rfl rfl (.cons (vm_int rfl) (.cons (vm_int rfl) (.cons (vm_int rfl) (.cons (vm_int rfl) .nil))))) .nil))) <;> (try (exfalso; omega; done)) <;> (with_reducible conv => whnf))
  exact ret0 (vm_tup (.cons vm_p (.cons (vm_int (fe _)) .nil)))
set_option maxHeartbeats 8000000 in
set_option maxRecDepth 100000 in
theorem checkApart_ok {t : Tb} {s : Int} {L : List (Int × Int)} (few : FewT t) (hl : L.length ≤ 9223372036854775807) (hz : plE t s = 0) : FnOK Try.prog 50 [eTb t, I s, ePs L] (.tup [I (apV t s L).1, I (apV t s L).2]) [] := by
  obtain ⟨z1, z2⟩ := pl_zero hz
  have v := tb_val z1
  have fr := v.fr.n1
  have OS := openShare_ok (s := s) few
  rw [hz] at OS
  by_cases c1 : L.length < 24
  case neg =>
    have fe : firstErr [0, if decide ((L.length : Int) < 24) = true then 0 else 8] = 8 := by rw [first_two]; grind
    rw [show apV t s L = (0, 8) from if_pos (by omega)]
    refine fn_i hmix hT Try.f50 (by kernel_rfl) rfl (by kernel_rfl) ?_
    with_reducible conv => whnf
    repeat' ((first | (with_reducible refine branch_t ?_) | (with_reducible refine branch_f ?_) | (with_reducible refine branch_nt ?_) | (with_reducible refine branch_nf ?_) | (with_reducible refine branch_dec (fun _ => ?_) (fun _ => ?_)) | (with_reducible refine branch_ndec (fun _ => ?_) (fun _ => ?_)) | (with_reducible refine branch_bool (fun _ => ?_) (fun _ => ?_)) | (with_reducible refine arith_64 (by omega) ?_) | (with_reducible refine ob_i (by omega) (fun _ => ?_)) | (with_reducible refine ob_i (by unfold room; omega) (fun _ => ?_)) | (with_reducible refine ob_i (by (try simp only [toN_eq, Int.toNat_natCast] at *); (try dsimp only [toN] at *); omega) (fun _ => ?_)) | (with_reducible refine arith_64 (by (try simp only [toN_eq, Int.toNat_natCast] at *); (try dsimp only [toN] at *); omega) ?_) | (with_reducible refine ob_k rfl ?_) | ((with_reducible refine ob_k ?_ ?_); focus kernel_rfl) | (refine yield_i hmix hT rfl hL efr eps eag ebd rfl (by kernel_rfl) ?_) | (apply call_u OS) | (apply call_u unless_ok) | (apply call_l (first_ok (l := [_, _]) (Nat.le_of_ble_eq_true rfl)) (.cons (vm_lit _ rfl rfl (.cons (vm_int rfl) (.cons (vm_int rfl) .nil))) .nil)) | (apply call_l (first_ok (l := [_, _, _]) (Nat.le_of_ble_eq_true rfl)) (.cons (vm_lit _ rfl rfl (.cons (vm_int rfl) (.cons (vm_int rfl) (.cons (vm_int rfl) .nil)))) .nil)) | (apply call_l (first_ok (l := [_, _, _, _]) (Nat.le_of_ble_eq_true rfl)) (.cons (vm_lit _ rfl rfl (.cons (vm_int rfl) (.cons (vm_int rfl) (.cons (vm_int rfl) (.cons (vm_int rfl) .nil))))) .nil))) <;> (try (exfalso; omega; done)) <;> (with_reducible conv => whnf))
    exact ret0 (vm_tup (.cons vm_p (.cons (vm_int fe) .nil)))
  have fe : firstErr [0, if decide ((L.length : Int) < 24) = true then 0 else 8] = 0 := by rw [first_two]; grind
  refine fn_i hmix hT Try.f50 (by kernel_rfl) rfl (by kernel_rfl) ?_
  with_reducible conv => whnf
  repeat' ((first | (with_reducible refine branch_t ?_) | (with_reducible refine branch_f ?_) | (with_reducible refine branch_nt ?_) | (with_reducible refine branch_nf ?_) | (with_reducible refine branch_dec (fun _ => ?_) (fun _ => ?_)) | (with_reducible refine branch_ndec (fun _ => ?_) (fun _ => ?_)) | (with_reducible refine branch_bool (fun _ => ?_) (fun _ => ?_)) | (with_reducible refine arith_64 (by omega) ?_) | (with_reducible refine ob_i (by omega) (fun _ => ?_)) | (with_reducible refine ob_i (by unfold room; omega) (fun _ => ?_)) | (with_reducible refine ob_i (by (try simp only [toN_eq, Int.toNat_natCast] at *); (try dsimp only [toN] at *); omega) (fun _ => ?_)) | (with_reducible refine arith_64 (by (try simp only [toN_eq, Int.toNat_natCast] at *); (try dsimp only [toN] at *); omega) ?_) | (with_reducible refine ob_k rfl ?_) | ((with_reducible refine ob_k ?_ ?_); focus kernel_rfl) | (refine yield_i hmix hT rfl hL efr eps eag ebd rfl (by kernel_rfl) ?_) | (apply call_u OS) | (apply call_u unless_ok) | (apply call_l (first_ok (l := [_, _]) (Nat.le_of_ble_eq_true rfl)) (.cons (vm_lit _ rfl rfl (.cons (vm_int rfl) (.cons (vm_int rfl) .nil))) .nil)) | (apply call_l (first_ok (l := [_, _, _]) (Nat.le_of_ble_eq_true rfl)) (.cons (vm_lit _ rfl rfl (.cons (vm_int rfl) (.cons (vm_int rfl) (.cons (vm_int rfl) .nil)))) .nil)) | (apply call_l (first_ok (l := [_, _, _, _]) (Nat.le_of_ble_eq_true rfl)) (.cons (vm_lit _ rfl rfl (.cons (vm_int rfl) (.cons (vm_int rfl) (.cons (vm_int rfl) (.cons (vm_int rfl) .nil))))) .nil))) <;> (try (exfalso; omega; done)) <;> (with_reducible conv => whnf))
  clear fe OS
  refine loop_i hmix hT (fun k : Nat => ([(2, ePs L), (8, .ptr 1 0), (10, I (prv L k)), (30, ePs L), (31, I L.length), (32, I k)], ⟨2, [(1, .cells [eInts t.fr, eHs t.hs, I s] 142), (0, .cells [eInts t.fr, eHs t.hs] 25)]⟩)) (fun k => k ≤ L.length ∧ ∀ i, i < k → aE t s L i = 0) (fun k => L.length - k) 0 ⟨by omega, by omega⟩ ?_ ?_
  · refine ⟨[], rfl, ?_, ?_⟩ <;> repeat' (first | exact trivial | exact vm_p | exact vm_ptr rfl rfl rfl | exact vm_yld rfl rfl | exact vm_own rfl rfl rfl rfl | exact vm_own rfl rfl (by omega) (by omega) | exact vm_int (by omega) | exact vm_nil rfl | exact sbm_cells vmL_p | exact sbm_row rfl (fun _ _ => vm_p) | refine ⟨⟨_, rfl, ?_⟩, ?_⟩ | refine ⟨⟨_, _, _, rfl⟩, ?_⟩ | (refine sbm_loop ?_; rw [efr]) | refine sbm_cells ?_ | refine vmL.cons ?_ ?_ | exact vmL.nil | refine vm_own rfl rfl rfl ?_)
  rintro k ⟨hk, hk3⟩
  by_cases k2 : k < L.length
  · have tq : L.getD (toN (k : Int)) (0, 0) = L.getD k (0, 0) := by rw [toN_nat]
    have pn : prv L (k + 1) = (L.getD (toN (k : Int)) (0, 0)).2 := by unfold prv; rw [if_pos (by omega), Nat.add_sub_cancel, tq]
    have ea : aE t s L k = if a12 L k ≠ 0 then a12 L k else if stT t s (L.getD k (0, 0)).1.toNat (L.getD k (0, 0)).2.toNat = true then 13 else 0 := rfl
    have e2 : a12 L k = if ¬ ((0 ≤ (L.getD k (0, 0)).1 ∧ (L.getD k (0, 0)).1 ≤ 23) ∧ 0 ≤ (L.getD k (0, 0)).2 ∧ (L.getD k (0, 0)).2 ≤ 23) then 2 else if ¬ ((L.getD k (0, 0)).1 < (L.getD k (0, 0)).2 ∧ prv L k ≤ (L.getD k (0, 0)).1) then 9 else 0 := rfl
    have hit : aE t s L k ≠ 0 → apV t s L = ((k : Int), aE t s L k) := fun h => apV_hit c1 hk3 h k2
    rw [← tq] at e2
    generalize prv L k = pv at e2
    by_cases b : a12 L k = 0
    case neg =>
      rw [ea, if_pos b] at hit
      rw [hit b]
      by_cases b1 : 0 ≤ (L.getD (toN (k : Int)) (0, 0)).1 ∧ (L.getD (toN (k : Int)) (0, 0)).1 ≤ 23
      all_goals
        by_cases b2 : (L.getD (toN (k : Int)) (0, 0)).1 < (L.getD (toN (k : Int)) (0, 0)).2
        all_goals
          have f1 : firstErr [if decide (0 ≤ (L.getD (toN (k : Int)) (0, 0)).2 ∧ (L.getD (toN (k : Int)) (0, 0)).2 ≤ 23) = true then 0 else 2, if decide (pv ≤ (L.getD (toN (k : Int)) (0, 0)).1) = true then 0 else 9] = a12 L k ∨ ¬ (0 ≤ (L.getD (toN (k : Int)) (0, 0)).1 ∧ (L.getD (toN (k : Int)) (0, 0)).1 ≤ 23) ∨ ¬ (L.getD (toN (k : Int)) (0, 0)).1 < (L.getD (toN (k : Int)) (0, 0)).2 := by
            rw [first_two]; grind
          have f2 : firstErr [if false = true then 0 else 2, if decide (pv ≤ (L.getD (toN (k : Int)) (0, 0)).1) = true then 0 else 9] = a12 L k ∨ (0 ≤ (L.getD (toN (k : Int)) (0, 0)).1 ∧ (L.getD (toN (k : Int)) (0, 0)).1 ≤ 23) := by
            rw [first_two]; grind
          have f3 : firstErr [if decide (0 ≤ (L.getD (toN (k : Int)) (0, 0)).2 ∧ (L.getD (toN (k : Int)) (0, 0)).2 ≤ 23) = true then 0 else 2, if false = true then 0 else 9] = a12 L k ∨ ¬ (0 ≤ (L.getD (toN (k : Int)) (0, 0)).1 ∧ (L.getD (toN (k : Int)) (0, 0)).1 ≤ 23) ∨ (L.getD (toN (k : Int)) (0, 0)).1 < (L.getD (toN (k : Int)) (0, 0)).2 := by
            rw [first_two]; grind
          have f4 : firstErr [if false = true then 0 else 2, if false = true then 0 else 9] = a12 L k ∨ (0 ≤ (L.getD (toN (k : Int)) (0, 0)).1 ∧ (L.getD (toN (k : Int)) (0, 0)).1 ≤ 23) := by
            rw [first_two]; grind
          with_reducible conv => whnf
          repeat' ((first | (with_reducible refine branch_t ?_) | (with_reducible refine branch_f ?_) | (with_reducible refine branch_nt ?_) | (with_reducible refine branch_nf ?_) | (with_reducible refine branch_dec (fun _ => ?_) (fun _ => ?_)) | (with_reducible refine branch_ndec (fun _ => ?_) (fun _ => ?_)) | (with_reducible refine branch_bool (fun _ => ?_) (fun _ => ?_)) | (with_reducible refine arith_64 (by omega) ?_) | (with_reducible refine ob_i (by omega) (fun _ => ?_)) | (with_reducible refine ob_i (by unfold room; omega) (fun _ => ?_)) | (with_reducible refine ob_i (by (try simp only [] at *); (try dsimp only [toN] at *); omega) (fun _ => ?_)) | (with_reducible refine arith_64 (by (try simp only [] at *); (try dsimp only [toN] at *); omega) ?_) | (with_reducible refine ob_k rfl ?_) | ((with_reducible refine ob_k ?_ ?_); focus kernel_rfl) | (refine yield_i hmix hT rfl hL efr eps eag ebd rfl (by kernel_rfl) ?_) | (apply call_u isHour_ok) | (apply call_u unless_ok) | (apply call_l (first_ok (l := [_, _]) (Nat.le_of_ble_eq_true rfl)) (.cons (vm_lit _ rfl rfl (.cons (vm_int rfl) (.cons (vm_int rfl) .nil))) .nil)) | (apply call_l (first_ok (l := [_, _, _]) (Nat.le_of_ble_eq_true rfl)) (.cons (vm_lit _ rfl rfl (.cons (vm_int rfl) (.cons (vm_int rfl) (.cons (vm_int rfl) .nil)))) .nil)) | (apply call_l (first_ok (l := [_, _, _, _]) (Nat.le_of_ble_eq_true rfl)) (.cons (vm_lit _ rfl rfl (.cons (vm_int rfl) (.cons (vm_int rfl) (.cons (vm_int rfl) (.cons (vm_int rfl) .nil))))) .nil))) <;> (try (exfalso; omega; done)) <;> (with_reducible conv => whnf))
          exact ret0 (vm_tup (.cons vm_p (.cons (vm_int (by omega)) .nil)))
    have b1 : ((0 ≤ (L.getD (toN (k : Int)) (0, 0)).1 ∧ (L.getD (toN (k : Int)) (0, 0)).1 ≤ 23) ∧ 0 ≤ (L.getD (toN (k : Int)) (0, 0)).2 ∧ (L.getD (toN (k : Int)) (0, 0)).2 ≤ 23) ∧ (L.getD (toN (k : Int)) (0, 0)).1 < (L.getD (toN (k : Int)) (0, 0)).2 ∧ pv ≤ (L.getD (toN (k : Int)) (0, 0)).1 := by grind
    have f1 : firstErr [if decide (0 ≤ (L.getD (toN (k : Int)) (0, 0)).2 ∧ (L.getD (toN (k : Int)) (0, 0)).2 ≤ 23) = true then 0 else 2, if decide (pv ≤ (L.getD (toN (k : Int)) (0, 0)).1) = true then 0 else 9] = 0 := by
      rw [first_two]; grind
    rw [b, if_neg (by decide), ← tq] at ea
    have ST := stays_ok v z2 (lo := (L.getD (toN (k : Int)) (0, 0)).1.toNat) (hi := (L.getD (toN (k : Int)) (0, 0)).2.toNat) (by omega) (by omega)
    rw [show ((L.getD (toN (k : Int)) (0, 0)).1.toNat : Int) = (L.getD (toN (k : Int)) (0, 0)).1 by omega, show ((L.getD (toN (k : Int)) (0, 0)).2.toNat : Int) = (L.getD (toN (k : Int)) (0, 0)).2 by omega] at ST
    cases es : stT t s (L.getD (toN (k : Int)) (0, 0)).1.toNat (L.getD (toN (k : Int)) (0, 0)).2.toNat with
    | true =>
      rw [es] at ST
      rw [if_pos es] at ea
      rw [hit (by rw [ea]; decide), ea]
      with_reducible conv => whnf
      repeat' ((first | (with_reducible refine branch_t ?_) | (with_reducible refine branch_f ?_) | (with_reducible refine branch_nt ?_) | (with_reducible refine branch_nf ?_) | (with_reducible refine branch_dec (fun _ => ?_) (fun _ => ?_)) | (with_reducible refine branch_ndec (fun _ => ?_) (fun _ => ?_)) | (with_reducible refine branch_bool (fun _ => ?_) (fun _ => ?_)) | (with_reducible refine arith_64 (by omega) ?_) | (with_reducible refine ob_i (by omega) (fun _ => ?_)) | (with_reducible refine ob_i (by unfold room; omega) (fun _ => ?_)) | (with_reducible refine ob_i (by (try simp only [] at *); (try dsimp only [toN] at *); omega) (fun _ => ?_)) | (with_reducible refine arith_64 (by (try simp only [] at *); (try dsimp only [toN] at *); omega) ?_) | (with_reducible refine ob_k rfl ?_) | ((with_reducible refine ob_k ?_ ?_); focus kernel_rfl) | (refine yield_i hmix hT rfl hL efr eps eag ebd rfl (by kernel_rfl) ?_) | (apply call_u isHour_ok) | (apply call_u unless_ok) | (apply call_u ST) | (apply call_l (first_ok (l := [_, _]) (Nat.le_of_ble_eq_true rfl)) (.cons (vm_lit _ rfl rfl (.cons (vm_int rfl) (.cons (vm_int rfl) .nil))) .nil)) | (apply call_l (first_ok (l := [_, _, _]) (Nat.le_of_ble_eq_true rfl)) (.cons (vm_lit _ rfl rfl (.cons (vm_int rfl) (.cons (vm_int rfl) (.cons (vm_int rfl) .nil)))) .nil)) | (apply call_l (first_ok (l := [_, _, _, _]) (Nat.le_of_ble_eq_true rfl)) (.cons (vm_lit _ rfl rfl (.cons (vm_int rfl) (.cons (vm_int rfl) (.cons (vm_int rfl) (.cons (vm_int rfl) .nil))))) .nil))) <;> (try (exfalso; omega; done)) <;> (with_reducible conv => whnf))
      exact ret0 vm_p
    | false =>
      rw [es] at ST
      rw [if_neg (by rw [es]; decide)] at ea
      with_reducible conv => whnf
      repeat' ((first | (with_reducible refine branch_t ?_) | (with_reducible refine branch_f ?_) | (with_reducible refine branch_nt ?_) | (with_reducible refine branch_nf ?_) | (with_reducible refine branch_dec (fun _ => ?_) (fun _ => ?_)) | (with_reducible refine branch_ndec (fun _ => ?_) (fun _ => ?_)) | (with_reducible refine branch_bool (fun _ => ?_) (fun _ => ?_)) | (with_reducible refine arith_64 (by omega) ?_) | (with_reducible refine ob_i (by omega) (fun _ => ?_)) | (with_reducible refine ob_i (by unfold room; omega) (fun _ => ?_)) | (with_reducible refine ob_i (by (try simp only [] at *); (try dsimp only [toN] at *); omega) (fun _ => ?_)) | (with_reducible refine arith_64 (by (try simp only [] at *); (try dsimp only [toN] at *); omega) ?_) | (with_reducible refine ob_k rfl ?_) | ((with_reducible refine ob_k ?_ ?_); focus kernel_rfl) | (refine yield_i hmix hT rfl hL efr eps eag ebd rfl (by kernel_rfl) ?_) | (apply call_u isHour_ok) | (apply call_u unless_ok) | (apply call_u ST) | (apply call_l (first_ok (l := [_, _]) (Nat.le_of_ble_eq_true rfl)) (.cons (vm_lit _ rfl rfl (.cons (vm_int rfl) (.cons (vm_int rfl) .nil))) .nil)) | (apply call_l (first_ok (l := [_, _, _]) (Nat.le_of_ble_eq_true rfl)) (.cons (vm_lit _ rfl rfl (.cons (vm_int rfl) (.cons (vm_int rfl) (.cons (vm_int rfl) .nil)))) .nil)) | (apply call_l (first_ok (l := [_, _, _, _]) (Nat.le_of_ble_eq_true rfl)) (.cons (vm_lit _ rfl rfl (.cons (vm_int rfl) (.cons (vm_int rfl) (.cons (vm_int rfl) (.cons (vm_int rfl) .nil))))) .nil))) <;> (try (exfalso; omega; done)) <;> (with_reducible conv => whnf))
      refine ⟨k + 1, ⟨by omega, fun i hi => ?_⟩, by omega, ?_⟩
      · by_cases e' : i = k
        · subst e'; exact ea
        · exact hk3 i (by omega)
      · rw [pn]
        refine ⟨[], rfl, ?_, ?_⟩ <;> repeat' (first | exact trivial | exact vm_p | exact vm_ptr rfl rfl rfl | exact vm_yld rfl rfl | exact vm_own rfl rfl rfl rfl | exact vm_own rfl rfl (by omega) (by omega) | exact vm_int (by omega) | exact vm_nil rfl | exact sbm_cells vmL_p | exact sbm_row rfl (fun _ _ => vm_p) | refine ⟨⟨_, rfl, ?_⟩, ?_⟩ | refine ⟨⟨_, _, _, rfl⟩, ?_⟩ | (refine sbm_loop ?_; rw [efr]) | refine sbm_cells ?_ | refine vmL.cons ?_ ?_ | exact vmL.nil | refine vm_own rfl rfl rfl ?_)
  · rw [apV_none c1 fun i hi => hk3 i (by omega)]
    generalize prv L k = pv
    with_reducible conv => whnf
    repeat' ((first | (with_reducible refine branch_t ?_) | (with_reducible refine branch_f ?_) | (with_reducible refine branch_nt ?_) | (with_reducible refine branch_nf ?_) | (with_reducible refine branch_dec (fun _ => ?_) (fun _ => ?_)) | (with_reducible refine branch_ndec (fun _ => ?_) (fun _ => ?_)) | (with_reducible refine branch_bool (fun _ => ?_) (fun _ => ?_)) | (with_reducible refine arith_64 (by omega) ?_) | (with_reducible refine ob_i (by omega) (fun _ => ?_)) | (with_reducible refine ob_i (by unfold room; omega) (fun _ => ?_)) | (with_reducible refine ob_i (by (try simp only [toN_eq, Int.toNat_natCast] at *); (try dsimp only [toN] at *); omega) (fun _ => ?_)) | (with_reducible refine arith_64 (by (try simp only [toN_eq, Int.toNat_natCast] at *); (try dsimp only [toN] at *); omega) ?_) | (with_reducible refine ob_k rfl ?_) | ((with_reducible refine ob_k ?_ ?_); focus kernel_rfl) | (refine yield_i hmix hT rfl hL efr eps eag ebd rfl (by kernel_rfl) ?_)  | (apply call_l (first_ok (l := [_, _]) (Nat.le_of_ble_eq_true rfl)) (.cons (vm_lit _ rfl rfl (.cons (vm_int rfl) (.cons (vm_int rfl) .nil))) .nil)) | (apply call_l (first_ok (l := [_, _, _]) (Nat.le_of_ble_eq_true rfl)) (.cons (vm_lit _ rfl rfl (.cons (vm_int rfl) (.cons (vm_int rfl) (.cons (vm_int rfl) .nil)))) .nil)) | (apply call_l (first_ok (l := [_, _, _, _]) (Nat.le_of_ble_eq_true rfl)) (.cons (vm_lit _ rfl rfl (.cons (vm_int rfl) (.cons (vm_int rfl) (.cons (vm_int rfl) (.cons (vm_int rfl) .nil))))) .nil))) <;> (try (exfalso; omega; done)) <;> (with_reducible conv => whnf))
    exact ret0 vm_p
end Go.Proofs.Ytfmbgkbnmjbefaa
