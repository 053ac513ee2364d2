/-
  Chapter 5: the law RaySkies (by contract).
  Conditions: none.
-/
import Derived.Test.Ytplaocfagjeikaa5E
import Derived.Test.Ytplaocfagjeikaa5Awake
namespace Go.Proofs.Ytplaocfagjeikaa
open Go.RowKit Fx
theorem awake_fn : FnOK Try.prog 14 [] (B true) [] := FnOK.of_calls (enters_of (fn := Try.f14) (by kernel_rfl) (by kernel_rfl) rfl) awake_ok
set_option maxHeartbeats 4000000 in
set_option maxRecDepth 100000 in
theorem raySkies_ok {s : Sky} {f : Int} {l : Int × Int} (hs : s.sl.length ≤ 9223372036854775807) (h1 : -9223372036854775808 ≤ l.1 ∧ l.1 ≤ 9223372036854775807) (h2 : -9223372036854775808 ≤ l.2 ∧ l.2 ≤ 9223372036854775807) : FnOK Try.prog 7 [eSky s, I f, eFrac l] (B true) [] := by
  by_cases hf : s.sl.length ≤ 14
  case neg =>
    refine fn_i hmix hT Try.f7 (by kernel_rfl) rfl (by kernel_rfl) ?_
    with_reducible conv => whnf
    repeat' ((first | (with_reducible refine branch_t ?_) | (with_reducible refine branch_f ?_) | (with_reducible refine branch_nt ?_) | (with_reducible refine branch_nf ?_) | (with_reducible refine branch_dec (fun _ => ?_) (fun _ => ?_)) | (with_reducible refine branch_ndec (fun _ => ?_) (fun _ => ?_)) | (with_reducible refine branch_bool (fun _ => ?_) (fun _ => ?_)) | (with_reducible refine arith_64 (by omega) ?_) | (with_reducible refine ob_i (by omega) (fun _ => ?_)) | (with_reducible refine ob_i (by unfold room; omega) (fun _ => ?_)) | (with_reducible refine ob_i (by (try simp only [toN_eq, Int.toNat_natCast] at *); (try dsimp only [toN] at *); omega) (fun _ => ?_)) | (with_reducible refine arith_64 (by (try simp only [toN_eq, Int.toNat_natCast] at *); (try dsimp only [toN] at *); omega) ?_) | (with_reducible refine ob_k rfl ?_) | ((with_reducible refine ob_k ?_ ?_); focus kernel_rfl) | (refine yield_i hmix hT rfl hL efr eps eag ebd rfl (by kernel_rfl) ?_) | (apply call_u awake_fn) | (apply call_u few_ok) | (apply call_l (first_ok (l := [_, _]) (Nat.le_of_ble_eq_true rfl)) (.cons (vm_lit _ rfl rfl (.cons (vm_int rfl) (.cons (vm_int rfl) .nil))) .nil)) | (apply call_l (first_ok (l := [_, _, _]) (Nat.le_of_ble_eq_true rfl)) (.cons (vm_lit _ rfl rfl (.cons (vm_int rfl) (.cons (vm_int rfl) (.cons (vm_int rfl) .nil)))) .nil)) | (apply call_l (first_ok (l := [_, _, _, _]) (Nat.le_of_ble_eq_true rfl)) (.cons (vm_lit _ rfl rfl (.cons (vm_int rfl) (.cons (vm_int rfl) (.cons (vm_int rfl) (.cons (vm_int rfl) .nil))))) .nil))) <;> (try (exfalso; omega; done)) <;> (with_reducible conv => whnf))
    exact ret0 vm_p
  have ln : ([] : List (Int × Int)).length = 0 := rfl
  have CC := criticalOf_ok hs
  have K := checkSky_ok hs
  have RK := refCheckSky_ok hs
  by_cases h0 : skyE s = 0
  case neg =>
    have e1 : (skyC s).2 = skyE s := rfl
    have ei : ixE s f = skyE s := by unfold ixE; rw [if_pos h0]
    have es : secErr s l.1 l.2 = skyE s := by unfold secErr; rw [if_pos h0]
    have IB := indexesOf_bad (f := f) hs (by rw [ei]; exact h0)
    have SB := secantOf_bad hs h1 h2 (by rw [es]; exact h0)
    rw [show critP s = (0, skyE s) from if_pos h0] at CC
    rw [ei] at IB
    rw [es] at SB
    rw [e1] at K RK
    refine fn_i hmix hT Try.f7 (by kernel_rfl) rfl (by kernel_rfl) ?_
    with_reducible conv => whnf
    repeat' ((first | (with_reducible refine branch_t ?_) | (with_reducible refine branch_f ?_) | (with_reducible refine branch_nt ?_) | (with_reducible refine branch_nf ?_) | (with_reducible refine branch_dec (fun _ => ?_) (fun _ => ?_)) | (with_reducible refine branch_ndec (fun _ => ?_) (fun _ => ?_)) | (with_reducible refine branch_bool (fun _ => ?_) (fun _ => ?_)) | (with_reducible refine arith_64 (by omega) ?_) | (with_reducible refine ob_i (by omega) (fun _ => ?_)) | (with_reducible refine ob_i (by unfold room; omega) (fun _ => ?_)) | (with_reducible refine ob_i (by (try simp only [] at *); (try dsimp only [toN] at *); omega) (fun _ => ?_)) | (with_reducible refine arith_64 (by (try simp only [] at *); (try dsimp only [toN] at *); omega) ?_) | (with_reducible refine ob_k rfl ?_) | ((with_reducible refine ob_k ?_ ?_); focus kernel_rfl) | (refine yield_i hmix hT rfl hL efr eps eag ebd rfl (by kernel_rfl) ?_) | (apply call_u awake_fn) | (apply call_u few_ok) | (apply call_u (copySky_ok (s := s) (by omega))) | (apply call_u K) | (apply call_u RK) | (apply call_u CC) | (apply call_u IB) | (apply call_u SB) | (apply call_l (first_ok (l := [_, _]) (Nat.le_of_ble_eq_true rfl)) (.cons (vm_lit _ rfl rfl (.cons (vm_int rfl) (.cons (vm_int rfl) .nil))) .nil)) | (apply call_l (first_ok (l := [_, _, _]) (Nat.le_of_ble_eq_true rfl)) (.cons (vm_lit _ rfl rfl (.cons (vm_int rfl) (.cons (vm_int rfl) (.cons (vm_int rfl) .nil)))) .nil)) | (apply call_l (first_ok (l := [_, _, _, _]) (Nat.le_of_ble_eq_true rfl)) (.cons (vm_lit _ rfl rfl (.cons (vm_int rfl) (.cons (vm_int rfl) (.cons (vm_int rfl) (.cons (vm_int rfl) .nil))))) .nil))) <;> (try (exfalso; omega; done)) <;> (with_reducible conv => whnf))
    exact ret0 vm_p
  have v := sky_val h0
  have LL := ixL_len s f
  rw [show critP s = (rt (sqM s), 0) from if_neg (by omega)] at CC
  rw [val_sky v] at K RK
  by_cases hq : freqE f = 0
  · have fv := freq_val hq
    have IG := indexesOf_good (s := s) (f := f) (by unfold ixE; rw [if_neg (by omega)]; exact hq)
    have FE := refFreqErr_ok (f := f)
    rw [hq] at FE
    by_cases hl : launchE l.1 l.2 = 0
    · have lv := launch_val hl
      have es : secErr s l.1 l.2 = 0 := by unfold secErr; rw [if_neg (by omega)]; exact hl
      have SG := secantOf_good es
      have LE := refLaunchErr_ok h1 h2
      rw [hl] at LE
      refine fn_i hmix hT Try.f7 (by kernel_rfl) rfl (by kernel_rfl) ?_
      with_reducible conv => whnf
      repeat' ((first | (with_reducible refine branch_t ?_) | (with_reducible refine branch_f ?_) | (with_reducible refine branch_nt ?_) | (with_reducible refine branch_nf ?_) | (with_reducible refine branch_dec (fun _ => ?_) (fun _ => ?_)) | (with_reducible refine branch_ndec (fun _ => ?_) (fun _ => ?_)) | (with_reducible refine branch_bool (fun _ => ?_) (fun _ => ?_)) | (with_reducible refine arith_64 (by omega) ?_) | (with_reducible refine ob_i (by omega) (fun _ => ?_)) | (with_reducible refine ob_i (by unfold room; omega) (fun _ => ?_)) | (with_reducible refine ob_i (by (try simp only [] at *); (try dsimp only [toN] at *); omega) (fun _ => ?_)) | (with_reducible refine arith_64 (by (try simp only [] at *); (try dsimp only [toN] at *); omega) ?_) | (with_reducible refine ob_k rfl ?_) | ((with_reducible refine ob_k ?_ ?_); focus kernel_rfl) | (refine yield_i hmix hT rfl hL efr eps eag ebd rfl (by kernel_rfl) ?_) | (apply call_u awake_fn) | (apply call_u few_ok) | (apply call_u (copySky_ok (s := s) (by omega))) | (apply call_u K) | (apply call_u RK) | (apply call_u CC) | (apply call_u IG) | (apply call_u SG) | (apply call_u (critical_ok v)) | (apply call_u FE) | (apply call_u LE) | (apply call_u (refIndexes_ok v fv)) | (apply call_u (fracs_ok (l := ixL s f) (by omega))) | (apply call_u (refSecant_ok v lv)) | (apply call_l (first_ok (l := [_, _]) (Nat.le_of_ble_eq_true rfl)) (.cons (vm_lit _ rfl rfl (.cons (vm_int rfl) (.cons (vm_int rfl) .nil))) .nil)) | (apply call_l (first_ok (l := [_, _, _]) (Nat.le_of_ble_eq_true rfl)) (.cons (vm_lit _ rfl rfl (.cons (vm_int rfl) (.cons (vm_int rfl) (.cons (vm_int rfl) .nil)))) .nil)) | (apply call_l (first_ok (l := [_, _, _, _]) (Nat.le_of_ble_eq_true rfl)) (.cons (vm_lit _ rfl rfl (.cons (vm_int rfl) (.cons (vm_int rfl) (.cons (vm_int rfl) (.cons (vm_int rfl) .nil))))) .nil))) <;> (try (exfalso; omega; done)) <;> (with_reducible conv => whnf))
      all_goals exact ret0 (vm_bool (by simp))
    · have es : secErr s l.1 l.2 = launchE l.1 l.2 := by unfold secErr; rw [if_neg (by omega)]
      have SB := secantOf_bad hs h1 h2 (by rw [es]; exact hl)
      rw [es] at SB
      refine fn_i hmix hT Try.f7 (by kernel_rfl) rfl (by kernel_rfl) ?_
      with_reducible conv => whnf
      repeat' ((first | (with_reducible refine branch_t ?_) | (with_reducible refine branch_f ?_) | (with_reducible refine branch_nt ?_) | (with_reducible refine branch_nf ?_) | (with_reducible refine branch_dec (fun _ => ?_) (fun _ => ?_)) | (with_reducible refine branch_ndec (fun _ => ?_) (fun _ => ?_)) | (with_reducible refine branch_bool (fun _ => ?_) (fun _ => ?_)) | (with_reducible refine arith_64 (by omega) ?_) | (with_reducible refine ob_i (by omega) (fun _ => ?_)) | (with_reducible refine ob_i (by unfold room; omega) (fun _ => ?_)) | (with_reducible refine ob_i (by (try simp only [] at *); (try dsimp only [toN] at *); omega) (fun _ => ?_)) | (with_reducible refine arith_64 (by (try simp only [] at *); (try dsimp only [toN] at *); omega) ?_) | (with_reducible refine ob_k rfl ?_) | ((with_reducible refine ob_k ?_ ?_); focus kernel_rfl) | (refine yield_i hmix hT rfl hL efr eps eag ebd rfl (by kernel_rfl) ?_) | (apply call_u awake_fn) | (apply call_u few_ok) | (apply call_u (copySky_ok (s := s) (by omega))) | (apply call_u K) | (apply call_u RK) | (apply call_u CC) | (apply call_u IG) | (apply call_u SB) | (apply call_u (critical_ok v)) | (apply call_u FE) | (apply call_u (refLaunchErr_ok h1 h2)) | (apply call_u (refIndexes_ok v fv)) | (apply call_u (fracs_ok (l := ixL s f) (by omega))) | (apply call_l (first_ok (l := [_, _]) (Nat.le_of_ble_eq_true rfl)) (.cons (vm_lit _ rfl rfl (.cons (vm_int rfl) (.cons (vm_int rfl) .nil))) .nil)) | (apply call_l (first_ok (l := [_, _, _]) (Nat.le_of_ble_eq_true rfl)) (.cons (vm_lit _ rfl rfl (.cons (vm_int rfl) (.cons (vm_int rfl) (.cons (vm_int rfl) .nil)))) .nil)) | (apply call_l (first_ok (l := [_, _, _, _]) (Nat.le_of_ble_eq_true rfl)) (.cons (vm_lit _ rfl rfl (.cons (vm_int rfl) (.cons (vm_int rfl) (.cons (vm_int rfl) (.cons (vm_int rfl) .nil))))) .nil))) <;> (try (exfalso; omega; done)) <;> (with_reducible conv => whnf))
      all_goals exact ret0 (vm_bool (by simp))
  · have ei : ixE s f = freqE f := by unfold ixE; rw [if_neg (by omega)]
    have IB := indexesOf_bad (f := f) hs (by rw [ei]; exact hq)
    rw [ei] at IB
    by_cases hl : launchE l.1 l.2 = 0
    · have lv := launch_val hl
      have es : secErr s l.1 l.2 = 0 := by unfold secErr; rw [if_neg (by omega)]; exact hl
      have SG := secantOf_good es
      have LE := refLaunchErr_ok h1 h2
      rw [hl] at LE
      refine fn_i hmix hT Try.f7 (by kernel_rfl) rfl (by kernel_rfl) ?_
      with_reducible conv => whnf
      repeat' ((first | (with_reducible refine branch_t ?_) | (with_reducible refine branch_f ?_) | (with_reducible refine branch_nt ?_) | (with_reducible refine branch_nf ?_) | (with_reducible refine branch_dec (fun _ => ?_) (fun _ => ?_)) | (with_reducible refine branch_ndec (fun _ => ?_) (fun _ => ?_)) | (with_reducible refine branch_bool (fun _ => ?_) (fun _ => ?_)) | (with_reducible refine arith_64 (by omega) ?_) | (with_reducible refine ob_i (by omega) (fun _ => ?_)) | (with_reducible refine ob_i (by unfold room; omega) (fun _ => ?_)) | (with_reducible refine ob_i (by (try simp only [] at *); (try dsimp only [toN] at *); omega) (fun _ => ?_)) | (with_reducible refine arith_64 (by (try simp only [] at *); (try dsimp only [toN] at *); omega) ?_) | (with_reducible refine ob_k rfl ?_) | ((with_reducible refine ob_k ?_ ?_); focus kernel_rfl) | (refine yield_i hmix hT rfl hL efr eps eag ebd rfl (by kernel_rfl) ?_) | (apply call_u awake_fn) | (apply call_u few_ok) | (apply call_u (copySky_ok (s := s) (by omega))) | (apply call_u K) | (apply call_u RK) | (apply call_u CC) | (apply call_u IB) | (apply call_u SG) | (apply call_u (critical_ok v)) | (apply call_u refFreqErr_ok) | (apply call_u LE) | (apply call_u (refSecant_ok v lv)) | (apply call_l (first_ok (l := [_, _]) (Nat.le_of_ble_eq_true rfl)) (.cons (vm_lit _ rfl rfl (.cons (vm_int rfl) (.cons (vm_int rfl) .nil))) .nil)) | (apply call_l (first_ok (l := [_, _, _]) (Nat.le_of_ble_eq_true rfl)) (.cons (vm_lit _ rfl rfl (.cons (vm_int rfl) (.cons (vm_int rfl) (.cons (vm_int rfl) .nil)))) .nil)) | (apply call_l (first_ok (l := [_, _, _, _]) (Nat.le_of_ble_eq_true rfl)) (.cons (vm_lit _ rfl rfl (.cons (vm_int rfl) (.cons (vm_int rfl) (.cons (vm_int rfl) (.cons (vm_int rfl) .nil))))) .nil))) <;> (try (exfalso; omega; done)) <;> (with_reducible conv => whnf))
      all_goals exact ret0 (vm_bool (by simp))
    · have es : secErr s l.1 l.2 = launchE l.1 l.2 := by unfold secErr; rw [if_neg (by omega)]
      have SB := secantOf_bad hs h1 h2 (by rw [es]; exact hl)
      rw [es] at SB
      refine fn_i hmix hT Try.f7 (by kernel_rfl) rfl (by kernel_rfl) ?_
      with_reducible conv => whnf
      repeat' ((first | (with_reducible refine branch_t ?_) | (with_reducible refine branch_f ?_) | (with_reducible refine branch_nt ?_) | (with_reducible refine branch_nf ?_) | (with_reducible refine branch_dec (fun _ => ?_) (fun _ => ?_)) | (with_reducible refine branch_ndec (fun _ => ?_) (fun _ => ?_)) | (with_reducible refine branch_bool (fun _ => ?_) (fun _ => ?_)) | (with_reducible refine arith_64 (by omega) ?_) | (with_reducible refine ob_i (by omega) (fun _ => ?_)) | (with_reducible refine ob_i (by unfold room; omega) (fun _ => ?_)) | (with_reducible refine ob_i (by (try simp only [] at *); (try dsimp only [toN] at *); omega) (fun _ => ?_)) | (with_reducible refine arith_64 (by (try simp only [] at *); (try dsimp only [toN] at *); omega) ?_) | (with_reducible refine ob_k rfl ?_) | ((with_reducible refine ob_k ?_ ?_); focus kernel_rfl) | (refine yield_i hmix hT rfl hL efr eps eag ebd rfl (by kernel_rfl) ?_) | (apply call_u awake_fn) | (apply call_u few_ok) | (apply call_u (copySky_ok (s := s) (by omega))) | (apply call_u K) | (apply call_u RK) | (apply call_u CC) | (apply call_u IB) | (apply call_u SB) | (apply call_u (critical_ok v)) | (apply call_u refFreqErr_ok) | (apply call_u (refLaunchErr_ok h1 h2)) | (apply call_l (first_ok (l := [_, _]) (Nat.le_of_ble_eq_true rfl)) (.cons (vm_lit _ rfl rfl (.cons (vm_int rfl) (.cons (vm_int rfl) .nil))) .nil)) | (apply call_l (first_ok (l := [_, _, _]) (Nat.le_of_ble_eq_true rfl)) (.cons (vm_lit _ rfl rfl (.cons (vm_int rfl) (.cons (vm_int rfl) (.cons (vm_int rfl) .nil)))) .nil)) | (apply call_l (first_ok (l := [_, _, _, _]) (Nat.le_of_ble_eq_true rfl)) (.cons (vm_lit _ rfl rfl (.cons (vm_int rfl) (.cons (vm_int rfl) (.cons (vm_int rfl) (.cons (vm_int rfl) .nil))))) .nil))) <;> (try (exfalso; omega; done)) <;> (with_reducible conv => whnf))
      all_goals exact ret0 (vm_bool (by simp))
end Go.Proofs.Ytplaocfagjeikaa
