/-
  Chapter 5: distances of links, the law RayLinks (by contract).
  Conditions: none.
-/
import Derived.Test.Ytplaocfagjeikaa6A
namespace Go.Proofs.Ytplaocfagjeikaa
open Go.RowKit Fx
/-! ### Plain -/
def distE (a b : Sky) (f n d : Int) : Int := if linkE a b ≠ 0 then linkE a b else shotE f n d
def distV (a b : Sky) (F n d : Int) : (Int × Int) × Int := if apexL F n d a.sl = a.sl.length then ((0, 0), 21) else if apexL F n d b.sl < apexL F n d a.sl then ((0, 0), 22) else (((upTo a F n d (apexL F n d a.sl + 1)).1 + (upTo b F n d (apexL F n d a.sl + 1)).1, (upTo a F n d (apexL F n d a.sl + 1)).2 + (upTo b F n d (apexL F n d a.sl + 1)).2), 0)
theorem take_at {l : List (Int × Int)} {k i : Nat} (h : i < k) : (l.take k).getD i (0, 0) = l.getD i (0, 0) := by
  rw [List.getD_eq_getElem?_getD, List.getD_eq_getElem?_getD, List.getElem?_take, if_pos h]
theorem apex_take {F n d : Int} : ∀ (l : List (Int × Int)) (k : Nat), apexL F n d (l.take k) = min k (apexL F n d l)
  | [], k => by simp [apexL]
  | x :: l, 0 => by simp [apexL]
  | x :: l, k + 1 => by
    have ih := apex_take (F := F) (n := n) (d := d) l k
    rw [List.take_succ_cons, apexL, apexL]
    split
    · omega
    · omega
theorem up_take {s : Sky} {F n d : Int} {k : Nat} : ∀ m, m ≤ k + 1 → upTo ⟨s.h, s.sl.take k⟩ F n d m = upTo s F n d m
  | 0, _ => rfl
  | m + 1, hm => by
    have ih := up_take (s := s) (F := F) (n := n) (d := d) (k := k) m (by omega)
    have e : legAt ⟨s.h, s.sl.take k⟩ F n d m = legAt s F n d m := by
      cases m with
      | zero => rfl
      | succ i => simp only [legAt]; rw [take_at (by omega)]
    rw [upTo, upTo, ih, e]
theorem fine_take {s : Sky} {k : Nat} (v : s.Val) : Sky.Fine ⟨s.h, s.sl.take k⟩ := by
  have n1 := v.n1
  have le : (s.sl.take k).length ≤ s.sl.length ∧ (s.sl.take k).length ≤ k := by simp; omega
  refine ⟨v.h1, v.h2, by show (s.sl.take k).length ≤ 12; omega, fun i hi => ?_, fun i hi => ?_⟩
  · have hi : i < (s.sl.take k).length := hi
    show 1 ≤ ((s.sl.take k).getD i (0, 0)).1 ∧ ((s.sl.take k).getD i (0, 0)).1 ≤ 500
    rw [take_at (by omega)]; exact v.t i (by omega)
  · have hi : i < (s.sl.take k).length := hi
    show 0 ≤ ((s.sl.take k).getD i (0, 0)).2 ∧ ((s.sl.take k).getD i (0, 0)).2 ≤ 9000000
    rw [take_at (by omega)]; exact v.q i (by omega)
theorem vm_take {S : Vw} {l : List (Int × Int)} {k i z : Nat} (hz : z = 0) (hi : i < (l.take k).length) : vm S (eSlab (l.getD (z + i) (0, 0))) (eSlab ((l.take k).getD i (0, 0))) := by
  subst hz
  have : i < k := by simp at hi; omega
  rw [take_at this, Nat.zero_add]
  exact vm_p
/-! ### Contracts -/
theorem distanceOf_bad {a b : Sky} {f n d : Int} (ha : a.sl.length ≤ 9223372036854775807) (hb : b.sl.length ≤ 9223372036854775807) (h1 : -9223372036854775808 ≤ n ∧ n ≤ 9223372036854775807) (h2 : -9223372036854775808 ≤ d ∧ d ≤ 9223372036854775807) (h : distE a b f n d ≠ 0) : FnOK Try.prog 77 [eLink a b, .agg [I f, I n, I d]] (.tup [eSlab (0, 0), I (distE a b f n d)]) [] := by
  have F := first_ok (l := [linkE a b, freqE f, launchE n d]) (by simp)
  rw [show firstErr [linkE a b, freqE f, launchE n d] = distE a b f n d from first_three] at F
  have LE : FnOK Try.prog 94 [.agg [I n, I d]] (I (launchE n d)) [] := launchErr_ok (l := (n, d)) h1 h2
  refine fn_i hmix hT Try.f77 (by kernel_rfl) rfl (by kernel_rfl) ?_
  with_reducible conv => whnf
  repeat' ((first | (with_reducible refine branch_t ?_) | (with_reducible refine branch_f ?_) | (with_reducible refine branch_nt ?_) | (with_reducible refine branch_nf ?_) | (with_reducible refine branch_dec (fun _ => ?_) (fun _ => ?_)) | (with_reducible refine branch_ndec (fun _ => ?_) (fun _ => ?_)) | (with_reducible refine branch_bool (fun _ => ?_) (fun _ => ?_)) | (with_reducible refine arith_64 (by omega) ?_) | (with_reducible refine ob_i (by omega) (fun _ => ?_)) | (with_reducible refine ob_i (by unfold room; omega) (fun _ => ?_)) | (with_reducible refine ob_i (by (try simp only [] at *); (try dsimp only [toN] at *); omega) (fun _ => ?_)) | (with_reducible refine arith_64 (by (try simp only [toN_eq, Int.toNat_natCast] at *); (try dsimp only [toN] at *); omega) ?_) | (with_reducible refine ob_k rfl ?_) | ((with_reducible refine ob_k ?_ ?_); focus kernel_rfl) | (refine yield_i hmix hT rfl hL efr eps eag ebd rfl (by kernel_rfl) ?_) | (apply call_u (linkErr_ok ha hb)) | (apply call_u freqErr_ok) | (apply call_u LE) | (apply call_l F (.cons (vm_lit _ rfl rfl (.cons (vm_int rfl) (.cons (vm_int rfl) (.cons (vm_int rfl) .nil)))) .nil)) | (apply call_l (first_ok (l := [_, _]) (Nat.le_of_ble_eq_true rfl)) (.cons (vm_lit _ rfl rfl (.cons (vm_int rfl) (.cons (vm_int rfl) .nil))) .nil)) | (apply call_l (first_ok (l := [_, _, _]) (Nat.le_of_ble_eq_true rfl)) (.cons (vm_lit _ rfl rfl (.cons (vm_int rfl) (.cons (vm_int rfl) (.cons (vm_int rfl) .nil)))) .nil)) | (apply call_l (first_ok (l := [_, _, _, _]) (Nat.le_of_ble_eq_true rfl)) (.cons (vm_lit _ rfl rfl (.cons (vm_int rfl) (.cons (vm_int rfl) (.cons (vm_int rfl) (.cons (vm_int rfl) .nil))))) .nil))) <;> (try (exfalso; omega; done)) <;> (with_reducible conv => whnf))
  exact ret0 vm_p
set_option maxHeartbeats 4000000 in
theorem distanceOf_good {a b : Sky} {f n d : Int} (v : LinkV a b) (fv : 1 ≤ f ∧ f ≤ 3000) (lv : LaunchV n d) : FnOK Try.prog 77 [eLink a b, .agg [I f, I n, I d]] (.tup [eSlab (distV a b (f * f) n d).1, I (distV a b (f * f) n d).2]) [] := by
  have na := v.va.n1; have nb := v.vb.n1
  have sb := sq_bd fv
  have sv := shotV fv lv
  have l0 := lv.n0; have l1 := lv.nd; have l2 := lv.d1
  have F := first_ok (l := [linkE a b, freqE f, launchE n d]) (by simp)
  rw [show firstErr [linkE a b, freqE f, launchE n d] = 0 by rw [first_three, show linkE a b = 0 by unfold linkE; rw [val_link v], show freqE f = 0 by unfold freqE; rw [if_neg (by omega)], val_launch lv]; rfl] at F
  have LE : FnOK Try.prog 94 [.agg [I n, I d]] (I (launchE n d)) [] := launchErr_ok (l := (n, d)) (by dsimp only; omega) (by dsimp only; omega)
  have KE := linkErr_ok (a := a) (b := b) (by omega) (by omega)
  have E1 := escapes_ok v.va.fine sv
  have AP := apex_ok v.va.fine sv
  have U1 := upwards_ok v.va.fine sv
  have al := apexL_le (F := f * f) (n := n) (d := d) a.sl
  have bl := apexL_le (F := f * f) (n := n) (d := d) b.sl
  have b1 := upTo_bd v.va.fine sv _ (Nat.le_refl _)
  have hl := v.l
  by_cases c1 : apexL (f * f) n d a.sl = a.sl.length
  · rw [show distV a b (f * f) n d = ((0, 0), 21) from if_pos c1]
    rw [decide_eq_true c1] at E1
    refine fn_i hmix hT Try.f77 (by kernel_rfl) rfl (by kernel_rfl) ?_
    with_reducible conv => whnf
    repeat' ((first | (with_reducible refine branch_t ?_) | (with_reducible refine branch_f ?_) | (with_reducible refine branch_nt ?_) | (with_reducible refine branch_nf ?_) | (with_reducible refine branch_dec (fun _ => ?_) (fun _ => ?_)) | (with_reducible refine branch_ndec (fun _ => ?_) (fun _ => ?_)) | (with_reducible refine branch_bool (fun _ => ?_) (fun _ => ?_)) | (with_reducible refine arith_64 (by omega) ?_) | (with_reducible refine ob_i (by omega) (fun _ => ?_)) | (with_reducible refine ob_i (by unfold room; omega) (fun _ => ?_)) | (with_reducible refine ob_i (by (try simp only [] at *); (try dsimp only [toN] at *); omega) (fun _ => ?_)) | (with_reducible refine arith_64 (by (try simp only [toN_eq, Int.toNat_natCast] at *); (try dsimp only [toN] at *); omega) ?_) | (with_reducible refine ob_k rfl ?_) | ((with_reducible refine ob_k ?_ ?_); focus kernel_rfl) | (refine yield_i hmix hT rfl hL efr eps eag ebd rfl (by kernel_rfl) ?_) | (apply call_u KE) | (apply call_u freqErr_ok) | (apply call_u LE) | (apply call_l F (.cons (vm_lit _ rfl rfl (.cons (vm_int rfl) (.cons (vm_int rfl) (.cons (vm_int rfl) .nil)))) .nil)) | (apply call_u E1) | (apply call_l (first_ok (l := [_, _]) (Nat.le_of_ble_eq_true rfl)) (.cons (vm_lit _ rfl rfl (.cons (vm_int rfl) (.cons (vm_int rfl) .nil))) .nil)) | (apply call_l (first_ok (l := [_, _, _]) (Nat.le_of_ble_eq_true rfl)) (.cons (vm_lit _ rfl rfl (.cons (vm_int rfl) (.cons (vm_int rfl) (.cons (vm_int rfl) .nil)))) .nil)) | (apply call_l (first_ok (l := [_, _, _, _]) (Nat.le_of_ble_eq_true rfl)) (.cons (vm_lit _ rfl rfl (.cons (vm_int rfl) (.cons (vm_int rfl) (.cons (vm_int rfl) (.cons (vm_int rfl) .nil))))) .nil))) <;> (try (exfalso; omega; done)) <;> (with_reducible conv => whnf))
    exact ret0 vm_p
  rw [decide_eq_false c1] at E1
  have e0 : distV a b (f * f) n d = if apexL (f * f) n d b.sl < apexL (f * f) n d a.sl then ((0, 0), 22) else (((upTo a (f * f) n d (apexL (f * f) n d a.sl + 1)).1 + (upTo b (f * f) n d (apexL (f * f) n d a.sl + 1)).1, (upTo a (f * f) n d (apexL (f * f) n d a.sl + 1)).2 + (upTo b (f * f) n d (apexL (f * f) n d a.sl + 1)).2), 0) := if_neg c1
  rw [e0]
  have at1 := apex_take (F := f * f) (n := n) (d := d) b.sl (apexL (f * f) n d a.sl)
  have tl : (b.sl.take (apexL (f * f) n d a.sl)).length = apexL (f * f) n d a.sl := by simp; omega
  have ft := fine_take (k := apexL (f * f) n d a.sl) v.vb
  have E2 := escapes_ok (s := ⟨b.h, b.sl.take (apexL (f * f) n d a.sl)⟩) ft sv
  have U2 := upwards_ok (s := ⟨b.h, b.sl.take (apexL (f * f) n d a.sl)⟩) ft sv
  have H1 : toN (apexL (f * f) n d a.sl : Int) - toN 0 = (b.sl.take (apexL (f * f) n d a.sl)).length := by rw [tl, toN_nat]; rfl
  by_cases c2 : apexL (f * f) n d b.sl < apexL (f * f) n d a.sl
  · rw [if_pos c2]
    rw [decide_eq_false (show ¬ apexL (f * f) n d (b.sl.take (apexL (f * f) n d a.sl)) = (b.sl.take (apexL (f * f) n d a.sl)).length by omega)] at E2
    refine fn_i hmix hT Try.f77 (by kernel_rfl) rfl (by kernel_rfl) ?_
    with_reducible conv => whnf
    repeat' ((first | (with_reducible refine branch_t ?_) | (with_reducible refine branch_f ?_) | (with_reducible refine branch_nt ?_) | (with_reducible refine branch_nf ?_) | (with_reducible refine branch_dec (fun _ => ?_) (fun _ => ?_)) | (with_reducible refine branch_ndec (fun _ => ?_) (fun _ => ?_)) | (with_reducible refine branch_bool (fun _ => ?_) (fun _ => ?_)) | (with_reducible refine arith_64 (by omega) ?_) | (with_reducible refine ob_i (by omega) (fun _ => ?_)) | (with_reducible refine ob_i (by unfold room; omega) (fun _ => ?_)) | (with_reducible refine ob_i (by (try simp only [] at *); (try dsimp only [toN] at *); omega) (fun _ => ?_)) | (with_reducible refine arith_64 (by (try simp only [] at *); (try dsimp only [toN] at *); omega) ?_) | (with_reducible refine ob_k rfl ?_) | ((with_reducible refine ob_k ?_ ?_); focus kernel_rfl) | (refine yield_i hmix hT rfl hL efr eps eag ebd rfl (by kernel_rfl) ?_) | (apply call_u KE) | (apply call_u freqErr_ok) | (apply call_u LE) | (apply call_l F (.cons (vm_lit _ rfl rfl (.cons (vm_int rfl) (.cons (vm_int rfl) (.cons (vm_int rfl) .nil)))) .nil)) | (apply call_u E1) | (apply call_u AP) | (apply call_l E2 (.cons (vm_agg (.cons vm_p (.cons (vm_sl H1 fun i hi => vm_take rfl hi) (.cons vm_p (.cons vm_p (.cons vm_p .nil)))))) .nil)) | (apply call_l (first_ok (l := [_, _]) (Nat.le_of_ble_eq_true rfl)) (.cons (vm_lit _ rfl rfl (.cons (vm_int rfl) (.cons (vm_int rfl) .nil))) .nil)) | (apply call_l (first_ok (l := [_, _, _]) (Nat.le_of_ble_eq_true rfl)) (.cons (vm_lit _ rfl rfl (.cons (vm_int rfl) (.cons (vm_int rfl) (.cons (vm_int rfl) .nil)))) .nil)) | (apply call_l (first_ok (l := [_, _, _, _]) (Nat.le_of_ble_eq_true rfl)) (.cons (vm_lit _ rfl rfl (.cons (vm_int rfl) (.cons (vm_int rfl) (.cons (vm_int rfl) (.cons (vm_int rfl) .nil))))) .nil))) <;> (try (exfalso; omega; done)) <;> (with_reducible conv => whnf))
    exact ret0 vm_p
  · rw [if_neg c2]
    rw [decide_eq_true (show apexL (f * f) n d (b.sl.take (apexL (f * f) n d a.sl)) = (b.sl.take (apexL (f * f) n d a.sl)).length by omega)] at E2
    have e3 : apexL (f * f) n d (b.sl.take (apexL (f * f) n d a.sl)) = apexL (f * f) n d a.sl := by omega
    have b2 := upTo_bd ft sv (apexL (f * f) n d a.sl + 1) (by show _ ≤ apexL (f * f) n d (b.sl.take (apexL (f * f) n d a.sl)) + 1; omega)
    dsimp only at U2
    rw [e3, up_take _ (Nat.le_refl _)] at U2
    rw [up_take _ (Nat.le_refl _)] at b2
    refine fn_i hmix hT Try.f77 (by kernel_rfl) rfl (by kernel_rfl) ?_
    with_reducible conv => whnf
    repeat' ((first | (with_reducible refine branch_t ?_) | (with_reducible refine branch_f ?_) | (with_reducible refine branch_nt ?_) | (with_reducible refine branch_nf ?_) | (with_reducible refine branch_dec (fun _ => ?_) (fun _ => ?_)) | (with_reducible refine branch_ndec (fun _ => ?_) (fun _ => ?_)) | (with_reducible refine branch_bool (fun _ => ?_) (fun _ => ?_)) | (with_reducible refine arith_64 (by omega) ?_) | (with_reducible refine ob_i (by omega) (fun _ => ?_)) | (with_reducible refine ob_i (by unfold room; omega) (fun _ => ?_)) | (with_reducible refine ob_i (by (try simp only [] at *); (try dsimp only [toN] at *); omega) (fun _ => ?_)) | (with_reducible refine arith_64 (by (try simp only [toN_eq, Int.toNat_natCast] at *); (try dsimp only [toN] at *); omega) ?_) | (with_reducible refine ob_k rfl ?_) | ((with_reducible refine ob_k ?_ ?_); focus kernel_rfl) | (refine yield_i hmix hT rfl hL efr eps eag ebd rfl (by kernel_rfl) ?_) | (apply call_u KE) | (apply call_u freqErr_ok) | (apply call_u LE) | (apply call_l F (.cons (vm_lit _ rfl rfl (.cons (vm_int rfl) (.cons (vm_int rfl) (.cons (vm_int rfl) .nil)))) .nil)) | (apply call_u E1) | (apply call_u AP) | (apply call_l E2 (.cons (vm_agg (.cons vm_p (.cons (vm_sl H1 fun i hi => vm_take rfl hi) (.cons vm_p (.cons vm_p (.cons vm_p .nil)))))) .nil)) | (apply call_u U1) | (apply call_l U2 (.cons (vm_agg (.cons vm_p (.cons (vm_sl H1 fun i hi => vm_take rfl hi) (.cons vm_p (.cons vm_p (.cons vm_p .nil)))))) .nil)) | (apply call_l (first_ok (l := [_, _]) (Nat.le_of_ble_eq_true rfl)) (.cons (vm_lit _ rfl rfl (.cons (vm_int rfl) (.cons (vm_int rfl) .nil))) .nil)) | (apply call_l (first_ok (l := [_, _, _]) (Nat.le_of_ble_eq_true rfl)) (.cons (vm_lit _ rfl rfl (.cons (vm_int rfl) (.cons (vm_int rfl) (.cons (vm_int rfl) .nil)))) .nil)) | (apply call_l (first_ok (l := [_, _, _, _]) (Nat.le_of_ble_eq_true rfl)) (.cons (vm_lit _ rfl rfl (.cons (vm_int rfl) (.cons (vm_int rfl) (.cons (vm_int rfl) (.cons (vm_int rfl) .nil))))) .nil))) <;> (try (exfalso; omega; done)) <;> (with_reducible conv => whnf))
    exact ret0 vm_p
set_option maxHeartbeats 4000000 in
theorem refDistance_ok {a b : Sky} {f n d : Int} (v : LinkV a b) (fv : 1 ≤ f ∧ f ≤ 3000) (lv : LaunchV n d) : FnOK Try.prog 80 [eLink a b, I f, .agg [I n, I d]] (.tup [eSlab (distV a b (f * f) n d).1, I (distV a b (f * f) n d).2]) [] := by
  have na := v.va.n1; have nb := v.vb.n1
  have sv := shotV fv lv
  have A1 := refApex_ok v.va fv lv
  have A2 := refApex_ok v.vb fv lv
  have al := apexL_le (F := f * f) (n := n) (d := d) a.sl
  have bl := apexL_le (F := f * f) (n := n) (d := d) b.sl
  have hl := v.l
  by_cases c1 : apexL (f * f) n d a.sl = a.sl.length
  · rw [show distV a b (f * f) n d = ((0, 0), 21) from if_pos c1]
    refine fn_i hmix hT Try.f80 (by kernel_rfl) rfl (by kernel_rfl) ?_
    with_reducible conv => whnf
    repeat' ((first | (with_reducible refine branch_t ?_) | (with_reducible refine branch_f ?_) | (with_reducible refine branch_nt ?_) | (with_reducible refine branch_nf ?_) | (with_reducible refine branch_dec (fun _ => ?_) (fun _ => ?_)) | (with_reducible refine branch_ndec (fun _ => ?_) (fun _ => ?_)) | (with_reducible refine branch_bool (fun _ => ?_) (fun _ => ?_)) | (with_reducible refine arith_64 (by omega) ?_) | (with_reducible refine ob_i (by omega) (fun _ => ?_)) | (with_reducible refine ob_i (by unfold room; omega) (fun _ => ?_)) | (with_reducible refine ob_i (by (try simp only [toN_eq, Int.toNat_natCast] at *); (try dsimp only [toN] at *); omega) (fun _ => ?_)) | (with_reducible refine arith_64 (by (try simp only [toN_eq, Int.toNat_natCast] at *); (try dsimp only [toN] at *); omega) ?_) | (with_reducible refine ob_k rfl ?_) | ((with_reducible refine ob_k ?_ ?_); focus kernel_rfl) | (refine yield_i hmix hT rfl hL efr eps eag ebd rfl (by kernel_rfl) ?_) | (apply call_u A1) | (apply call_l (first_ok (l := [_, _]) (Nat.le_of_ble_eq_true rfl)) (.cons (vm_lit _ rfl rfl (.cons (vm_int rfl) (.cons (vm_int rfl) .nil))) .nil)) | (apply call_l (first_ok (l := [_, _, _]) (Nat.le_of_ble_eq_true rfl)) (.cons (vm_lit _ rfl rfl (.cons (vm_int rfl) (.cons (vm_int rfl) (.cons (vm_int rfl) .nil)))) .nil)) | (apply call_l (first_ok (l := [_, _, _, _]) (Nat.le_of_ble_eq_true rfl)) (.cons (vm_lit _ rfl rfl (.cons (vm_int rfl) (.cons (vm_int rfl) (.cons (vm_int rfl) (.cons (vm_int rfl) .nil))))) .nil))) <;> (try (exfalso; omega; done)) <;> (with_reducible conv => whnf))
    exact ret0 vm_p
  have e0 : distV a b (f * f) n d = if apexL (f * f) n d b.sl < apexL (f * f) n d a.sl then ((0, 0), 22) else (((upTo a (f * f) n d (apexL (f * f) n d a.sl + 1)).1 + (upTo b (f * f) n d (apexL (f * f) n d a.sl + 1)).1, (upTo a (f * f) n d (apexL (f * f) n d a.sl + 1)).2 + (upTo b (f * f) n d (apexL (f * f) n d a.sl + 1)).2), 0) := if_neg c1
  rw [e0]
  by_cases c2 : apexL (f * f) n d b.sl < apexL (f * f) n d a.sl
  · rw [if_pos c2]
    refine fn_i hmix hT Try.f80 (by kernel_rfl) rfl (by kernel_rfl) ?_
    with_reducible conv => whnf
    repeat' ((first | (with_reducible refine branch_t ?_) | (with_reducible refine branch_f ?_) | (with_reducible refine branch_nt ?_) | (with_reducible refine branch_nf ?_) | (with_reducible refine branch_dec (fun _ => ?_) (fun _ => ?_)) | (with_reducible refine branch_ndec (fun _ => ?_) (fun _ => ?_)) | (with_reducible refine branch_bool (fun _ => ?_) (fun _ => ?_)) | (with_reducible refine arith_64 (by omega) ?_) | (with_reducible refine ob_i (by omega) (fun _ => ?_)) | (with_reducible refine ob_i (by unfold room; omega) (fun _ => ?_)) | (with_reducible refine ob_i (by (try simp only [toN_eq, Int.toNat_natCast] at *); (try dsimp only [toN] at *); omega) (fun _ => ?_)) | (with_reducible refine arith_64 (by (try simp only [toN_eq, Int.toNat_natCast] at *); (try dsimp only [toN] at *); omega) ?_) | (with_reducible refine ob_k rfl ?_) | ((with_reducible refine ob_k ?_ ?_); focus kernel_rfl) | (refine yield_i hmix hT rfl hL efr eps eag ebd rfl (by kernel_rfl) ?_) | (apply call_u A1) | (apply call_u A2) | (apply call_l (first_ok (l := [_, _]) (Nat.le_of_ble_eq_true rfl)) (.cons (vm_lit _ rfl rfl (.cons (vm_int rfl) (.cons (vm_int rfl) .nil))) .nil)) | (apply call_l (first_ok (l := [_, _, _]) (Nat.le_of_ble_eq_true rfl)) (.cons (vm_lit _ rfl rfl (.cons (vm_int rfl) (.cons (vm_int rfl) (.cons (vm_int rfl) .nil)))) .nil)) | (apply call_l (first_ok (l := [_, _, _, _]) (Nat.le_of_ble_eq_true rfl)) (.cons (vm_lit _ rfl rfl (.cons (vm_int rfl) (.cons (vm_int rfl) (.cons (vm_int rfl) (.cons (vm_int rfl) .nil))))) .nil))) <;> (try (exfalso; omega; done)) <;> (with_reducible conv => whnf))
    exact ret0 vm_p
  rw [if_neg c2]
  have b1 := upTo_bd v.va.fine sv _ (Nat.le_refl _)
  have b2 := upTo_bd v.vb.fine sv (apexL (f * f) n d a.sl + 1) (by omega)
  have L1 := refLegs_ok v.va fv lv
  have L2 := refLegs_ok v.vb fv lv
  have ll := legL_len b (f * f) n d
  have S1 := refSum_ok (g := fun i => (legL a (f * f) n d).getD i (0, 0)) (m := (legL a (f * f) n d).length) (by rw [legL_len]; omega) (by rw [legL_len]; exact legL_bd v.va.fine sv)
  rw [show upK (fun i => (legL a (f * f) n d).getD i (0, 0)) (legL a (f * f) n d).length = upTo a (f * f) n d (apexL (f * f) n d a.sl + 1) by rw [legL_len]; exact upK_eq _ fun i hi => legL_at hi] at S1
  have S2 := refSum_ok (g := fun i => (legL b (f * f) n d).getD i (0, 0)) (m := apexL (f * f) n d a.sl + 1) (by omega) (fun i hi => legL_bd v.vb.fine sv i (by omega))
  rw [show upK (fun i => (legL b (f * f) n d).getD i (0, 0)) (apexL (f * f) n d a.sl + 1) = upTo b (f * f) n d (apexL (f * f) n d a.sl + 1) from upK_eq _ fun i hi => legL_at (by omega)] at S2
  have H1 : toN ((apexL (f * f) n d a.sl : Int) + 1) - toN 0 = apexL (f * f) n d a.sl + 1 := by
    rw [toN_eq, toN_eq]; omega
  refine fn_i hmix hT Try.f80 (by kernel_rfl) rfl (by kernel_rfl) ?_
  with_reducible conv => whnf
  repeat' ((first | (with_reducible refine branch_t ?_) | (with_reducible refine branch_f ?_) | (with_reducible refine branch_nt ?_) | (with_reducible refine branch_nf ?_) | (with_reducible refine branch_dec (fun _ => ?_) (fun _ => ?_)) | (with_reducible refine branch_ndec (fun _ => ?_) (fun _ => ?_)) | (with_reducible refine branch_bool (fun _ => ?_) (fun _ => ?_)) | (with_reducible refine arith_64 (by omega) ?_) | (with_reducible refine ob_i (by omega) (fun _ => ?_)) | (with_reducible refine ob_i (by unfold room; omega) (fun _ => ?_)) | (with_reducible refine ob_i (by (try simp only [toN_eq] at *); (try dsimp only [toN] at *); omega) (fun _ => ?_)) | (with_reducible refine arith_64 (by (try simp only [toN_eq] at *); (try dsimp only [toN] at *); omega) ?_) | (with_reducible refine ob_k rfl ?_) | ((with_reducible refine ob_k ?_ ?_); focus kernel_rfl) | (refine yield_i hmix hT rfl hL efr eps eag ebd rfl (by kernel_rfl) ?_) | (apply call_u A1) | (apply call_u A2) | (apply call_u L1) | (apply call_u L2) | (apply call_u S1) | (apply call_l S2 (.cons (vm_sl H1 fun i hi => by rw [show toN 0 + i = i from Nat.zero_add i]; exact vm_p) .nil)) | (apply call_l (first_ok (l := [_, _]) (Nat.le_of_ble_eq_true rfl)) (.cons (vm_lit _ rfl rfl (.cons (vm_int rfl) (.cons (vm_int rfl) .nil))) .nil)) | (apply call_l (first_ok (l := [_, _, _]) (Nat.le_of_ble_eq_true rfl)) (.cons (vm_lit _ rfl rfl (.cons (vm_int rfl) (.cons (vm_int rfl) (.cons (vm_int rfl) .nil)))) .nil)) | (apply call_l (first_ok (l := [_, _, _, _]) (Nat.le_of_ble_eq_true rfl)) (.cons (vm_lit _ rfl rfl (.cons (vm_int rfl) (.cons (vm_int rfl) (.cons (vm_int rfl) (.cons (vm_int rfl) .nil))))) .nil))) <;> (try (exfalso; omega; done)) <;> (with_reducible conv => whnf))
  exact ret0 vm_p
theorem sameSky_nil : FnOK Try.prog 79 [.agg [I 0, eSlabs []], .agg [I 0, .sc (.slice none 0 0)]] (B true) [] := by
  have ln : ([] : List (Int × Int)).length = 0 := rfl
  refine fn_i hmix hT Try.f79 (by kernel_rfl) rfl (by kernel_rfl) ?_
  with_reducible conv => whnf
  repeat' ((first | (with_reducible refine branch_t ?_) | (with_reducible refine branch_f ?_) | (with_reducible refine branch_nt ?_) | (with_reducible refine branch_nf ?_) | (with_reducible refine branch_dec (fun _ => ?_) (fun _ => ?_)) | (with_reducible refine branch_ndec (fun _ => ?_) (fun _ => ?_)) | (with_reducible refine branch_bool (fun _ => ?_) (fun _ => ?_)) | (with_reducible refine arith_64 (by omega) ?_) | (with_reducible refine ob_i (by omega) (fun _ => ?_)) | (with_reducible refine ob_i (by unfold room; omega) (fun _ => ?_)) | (with_reducible refine ob_i (by (try simp only [toN_eq, Int.toNat_natCast] at *); (try dsimp only [toN] at *); omega) (fun _ => ?_)) | (with_reducible refine arith_64 (by (try simp only [toN_eq, Int.toNat_natCast] at *); (try dsimp only [toN] at *); omega) ?_) | (with_reducible refine ob_k rfl ?_) | ((with_reducible refine ob_k ?_ ?_); focus kernel_rfl) | (refine yield_i hmix hT rfl hL efr eps eag ebd rfl (by kernel_rfl) ?_)  | (apply call_l (first_ok (l := [_, _]) (Nat.le_of_ble_eq_true rfl)) (.cons (vm_lit _ rfl rfl (.cons (vm_int rfl) (.cons (vm_int rfl) .nil))) .nil)) | (apply call_l (first_ok (l := [_, _, _]) (Nat.le_of_ble_eq_true rfl)) (.cons (vm_lit _ rfl rfl (.cons (vm_int rfl) (.cons (vm_int rfl) (.cons (vm_int rfl) .nil)))) .nil)) | (apply call_l (first_ok (l := [_, _, _, _]) (Nat.le_of_ble_eq_true rfl)) (.cons (vm_lit _ rfl rfl (.cons (vm_int rfl) (.cons (vm_int rfl) (.cons (vm_int rfl) (.cons (vm_int rfl) .nil))))) .nil))) <;> (try (exfalso; omega; done)) <;> (with_reducible conv => whnf))
  refine loop_i hmix hT (fun _ : Nat => ([(2, .ptr 0 0), (3, .ptr 1 0), (5, I 0)], ⟨2, [(1, .cells [I 0, .sc (.slice none 0 0)] 24), (0, .cells [I 0, eSlabs []] 24)]⟩)) (fun _ => True) (fun _ => 0) 0 trivial ?_ ?_
  · refine ⟨[], rfl, ?_, ?_⟩ <;> repeat' (first | exact trivial | exact vm_p | exact vm_ptr rfl rfl rfl | exact vm_yld rfl rfl | exact vm_own rfl rfl rfl rfl | exact vm_own rfl rfl (by omega) (by omega) | exact vm_int (by omega) | exact vm_nil rfl | exact sbm_cells vmL_p | exact sbm_row rfl (fun _ _ => vm_p) | refine ⟨⟨_, rfl, ?_⟩, ?_⟩ | refine ⟨⟨_, _, _, rfl⟩, ?_⟩ | (refine sbm_loop ?_; rw [efr]) | refine sbm_cells ?_ | refine vmL.cons ?_ ?_ | exact vmL.nil | refine vm_own rfl rfl rfl ?_)
  rintro k -
  with_reducible conv => whnf
  repeat' ((first | (with_reducible refine branch_t ?_) | (with_reducible refine branch_f ?_) | (with_reducible refine branch_nt ?_) | (with_reducible refine branch_nf ?_) | (with_reducible refine branch_dec (fun _ => ?_) (fun _ => ?_)) | (with_reducible refine branch_ndec (fun _ => ?_) (fun _ => ?_)) | (with_reducible refine branch_bool (fun _ => ?_) (fun _ => ?_)) | (with_reducible refine arith_64 (by omega) ?_) | (with_reducible refine ob_i (by omega) (fun _ => ?_)) | (with_reducible refine ob_i (by unfold room; omega) (fun _ => ?_)) | (with_reducible refine ob_i (by (try simp only [toN_eq, Int.toNat_natCast] at *); (try dsimp only [toN] at *); omega) (fun _ => ?_)) | (with_reducible refine arith_64 (by (try simp only [toN_eq, Int.toNat_natCast] at *); (try dsimp only [toN] at *); omega) ?_) | (with_reducible refine ob_k rfl ?_) | ((with_reducible refine ob_k ?_ ?_); focus kernel_rfl) | (refine yield_i hmix hT rfl hL efr eps eag ebd rfl (by kernel_rfl) ?_)  | (apply call_l (first_ok (l := [_, _]) (Nat.le_of_ble_eq_true rfl)) (.cons (vm_lit _ rfl rfl (.cons (vm_int rfl) (.cons (vm_int rfl) .nil))) .nil)) | (apply call_l (first_ok (l := [_, _, _]) (Nat.le_of_ble_eq_true rfl)) (.cons (vm_lit _ rfl rfl (.cons (vm_int rfl) (.cons (vm_int rfl) (.cons (vm_int rfl) .nil)))) .nil)) | (apply call_l (first_ok (l := [_, _, _, _]) (Nat.le_of_ble_eq_true rfl)) (.cons (vm_lit _ rfl rfl (.cons (vm_int rfl) (.cons (vm_int rfl) (.cons (vm_int rfl) (.cons (vm_int rfl) .nil))))) .nil))) <;> (try (exfalso; omega; done)) <;> (with_reducible conv => whnf))
  exact ret0 vm_p
set_option maxRecDepth 100000 in
theorem sameSky_ok {s : Sky} (hs : s.sl.length ≤ 100000) : FnOK Try.prog 79 [eSky s, eSky s] (B true) [] := by
  refine fn_i hmix hT Try.f79 (by kernel_rfl) rfl (by kernel_rfl) ?_
  with_reducible conv => whnf
  repeat' ((first | (with_reducible refine branch_t ?_) | (with_reducible refine branch_f ?_) | (with_reducible refine branch_nt ?_) | (with_reducible refine branch_nf ?_) | (with_reducible refine branch_dec (fun _ => ?_) (fun _ => ?_)) | (with_reducible refine branch_ndec (fun _ => ?_) (fun _ => ?_)) | (with_reducible refine branch_bool (fun _ => ?_) (fun _ => ?_)) | (with_reducible refine arith_64 (by omega) ?_) | (with_reducible refine ob_i (by omega) (fun _ => ?_)) | (with_reducible refine ob_i (by unfold room; omega) (fun _ => ?_)) | (with_reducible refine ob_i (by (try simp only [toN_eq, Int.toNat_natCast] at *); (try dsimp only [toN] at *); omega) (fun _ => ?_)) | (with_reducible refine arith_64 (by (try simp only [toN_eq, Int.toNat_natCast] at *); (try dsimp only [toN] at *); omega) ?_) | (with_reducible refine ob_k rfl ?_) | ((with_reducible refine ob_k ?_ ?_); focus kernel_rfl) | (refine yield_i hmix hT rfl hL efr eps eag ebd rfl (by kernel_rfl) ?_)  | (apply call_l (first_ok (l := [_, _]) (Nat.le_of_ble_eq_true rfl)) (.cons (vm_lit _ rfl rfl (.cons (vm_int rfl) (.cons (vm_int rfl) .nil))) .nil)) | (apply call_l (first_ok (l := [_, _, _]) (Nat.le_of_ble_eq_true rfl)) (.cons (vm_lit _ rfl rfl (.cons (vm_int rfl) (.cons (vm_int rfl) (.cons (vm_int rfl) .nil)))) .nil)) | (apply call_l (first_ok (l := [_, _, _, _]) (Nat.le_of_ble_eq_true rfl)) (.cons (vm_lit _ rfl rfl (.cons (vm_int rfl) (.cons (vm_int rfl) (.cons (vm_int rfl) (.cons (vm_int rfl) .nil))))) .nil))) <;> (try (exfalso; omega; done)) <;> (with_reducible conv => whnf))
  refine loop_i hmix hT (fun k : Nat => ([(2, .ptr 0 0), (3, .ptr 1 0), (5, I k)], ⟨2, [(1, .cells [I s.h, eSlabs s.sl] 24), (0, .cells [I s.h, eSlabs s.sl] 24)]⟩)) (fun k => k ≤ s.sl.length) (fun k => s.sl.length - k) 0 (by omega) ?_ ?_
  · refine ⟨[], rfl, ?_, ?_⟩ <;> repeat' (first | exact trivial | exact vm_p | exact vm_ptr rfl rfl rfl | exact vm_yld rfl rfl | exact vm_own rfl rfl rfl rfl | exact vm_own rfl rfl (by omega) (by omega) | exact vm_int (by omega) | exact vm_nil rfl | exact sbm_cells vmL_p | exact sbm_row rfl (fun _ _ => vm_p) | refine ⟨⟨_, rfl, ?_⟩, ?_⟩ | refine ⟨⟨_, _, _, rfl⟩, ?_⟩ | (refine sbm_loop ?_; rw [efr]) | refine sbm_cells ?_ | refine vmL.cons ?_ ?_ | exact vmL.nil | refine vm_own rfl rfl rfl ?_)
  intro k hk
  by_cases h : k < s.sl.length
  · with_reducible conv => whnf
    repeat' ((first | (with_reducible refine branch_t ?_) | (with_reducible refine branch_f ?_) | (with_reducible refine branch_nt ?_) | (with_reducible refine branch_nf ?_) | (with_reducible refine branch_dec (fun _ => ?_) (fun _ => ?_)) | (with_reducible refine branch_ndec (fun _ => ?_) (fun _ => ?_)) | (with_reducible refine branch_bool (fun _ => ?_) (fun _ => ?_)) | (with_reducible refine arith_64 (by omega) ?_) | (with_reducible refine ob_i (by omega) (fun _ => ?_)) | (with_reducible refine ob_i (by unfold room; omega) (fun _ => ?_)) | (with_reducible refine ob_i (by (try simp only [] at *); (try dsimp only [toN] at *); omega) (fun _ => ?_)) | (with_reducible refine arith_64 (by (try simp only [] at *); (try dsimp only [toN] at *); omega) ?_) | (with_reducible refine ob_k rfl ?_) | ((with_reducible refine ob_k ?_ ?_); focus kernel_rfl) | (refine yield_i hmix hT rfl hL efr eps eag ebd rfl (by kernel_rfl) ?_) | (refine gen_eq2 rfl rfl rfl rfl (by kernel_rfl) (by kernel_rfl) (fun _ => ?_) (fun _ => ?_)) | (refine gen_ne2 rfl rfl rfl rfl (by kernel_rfl) (by kernel_rfl) (fun _ => ?_) (fun _ => ?_)) | (refine gen_eq3 rfl rfl rfl rfl (by kernel_rfl) (by kernel_rfl) (fun _ => ?_) (fun _ => ?_)) | (refine gen_ne3 rfl rfl rfl rfl (by kernel_rfl) (by kernel_rfl) (fun _ => ?_) (fun _ => ?_)) | (refine gen_eqBii rfl rfl rfl rfl (by kernel_rfl) (by kernel_rfl) (fun _ => ?_) (fun _ => ?_)) | (refine gen_neBii rfl rfl rfl rfl (by kernel_rfl) (by kernel_rfl) (fun _ => ?_) (fun _ => ?_)) | (refine gen_eq4 rfl rfl rfl rfl (by kernel_rfl) (by kernel_rfl) (fun _ => ?_) (fun _ => ?_)) | (refine gen_ne4 rfl rfl rfl rfl (by kernel_rfl) (by kernel_rfl) (fun _ => ?_) (fun _ => ?_)) | (apply call_l (first_ok (l := [_, _]) (Nat.le_of_ble_eq_true rfl)) (.cons (vm_lit _ rfl rfl (.cons (vm_int rfl) (.cons (vm_int rfl) .nil))) .nil)) | (apply call_l (first_ok (l := [_, _, _]) (Nat.le_of_ble_eq_true rfl)) (.cons (vm_lit _ rfl rfl (.cons (vm_int rfl) (.cons (vm_int rfl) (.cons (vm_int rfl) .nil)))) .nil)) | (apply call_l (first_ok (l := [_, _, _, _]) (Nat.le_of_ble_eq_true rfl)) (.cons (vm_lit _ rfl rfl (.cons (vm_int rfl) (.cons (vm_int rfl) (.cons (vm_int rfl) (.cons (vm_int rfl) .nil))))) .nil))) <;> (try (exfalso; omega; done)) <;> (with_reducible conv => whnf))
    refine ⟨k + 1, by omega, by omega, ?_⟩
    refine ⟨[], rfl, ?_, ?_⟩ <;> repeat' (first | exact trivial | exact vm_p | exact vm_ptr rfl rfl rfl | exact vm_yld rfl rfl | exact vm_own rfl rfl rfl rfl | exact vm_own rfl rfl (by omega) (by omega) | exact vm_int (by omega) | exact vm_nil rfl | exact sbm_cells vmL_p | exact sbm_row rfl (fun _ _ => vm_p) | refine ⟨⟨_, rfl, ?_⟩, ?_⟩ | refine ⟨⟨_, _, _, rfl⟩, ?_⟩ | (refine sbm_loop ?_; rw [efr]) | refine sbm_cells ?_ | refine vmL.cons ?_ ?_ | exact vmL.nil | refine vm_own rfl rfl rfl ?_)
  · with_reducible conv => whnf
    repeat' ((first | (with_reducible refine branch_t ?_) | (with_reducible refine branch_f ?_) | (with_reducible refine branch_nt ?_) | (with_reducible refine branch_nf ?_) | (with_reducible refine branch_dec (fun _ => ?_) (fun _ => ?_)) | (with_reducible refine branch_ndec (fun _ => ?_) (fun _ => ?_)) | (with_reducible refine branch_bool (fun _ => ?_) (fun _ => ?_)) | (with_reducible refine arith_64 (by omega) ?_) | (with_reducible refine ob_i (by omega) (fun _ => ?_)) | (with_reducible refine ob_i (by unfold room; omega) (fun _ => ?_)) | (with_reducible refine ob_i (by (try simp only [toN_eq, Int.toNat_natCast] at *); (try dsimp only [toN] at *); omega) (fun _ => ?_)) | (with_reducible refine arith_64 (by (try simp only [toN_eq, Int.toNat_natCast] at *); (try dsimp only [toN] at *); omega) ?_) | (with_reducible refine ob_k rfl ?_) | ((with_reducible refine ob_k ?_ ?_); focus kernel_rfl) | (refine yield_i hmix hT rfl hL efr eps eag ebd rfl (by kernel_rfl) ?_)  | (apply call_l (first_ok (l := [_, _]) (Nat.le_of_ble_eq_true rfl)) (.cons (vm_lit _ rfl rfl (.cons (vm_int rfl) (.cons (vm_int rfl) .nil))) .nil)) | (apply call_l (first_ok (l := [_, _, _]) (Nat.le_of_ble_eq_true rfl)) (.cons (vm_lit _ rfl rfl (.cons (vm_int rfl) (.cons (vm_int rfl) (.cons (vm_int rfl) .nil)))) .nil)) | (apply call_l (first_ok (l := [_, _, _, _]) (Nat.le_of_ble_eq_true rfl)) (.cons (vm_lit _ rfl rfl (.cons (vm_int rfl) (.cons (vm_int rfl) (.cons (vm_int rfl) (.cons (vm_int rfl) .nil))))) .nil))) <;> (try (exfalso; omega; done)) <;> (with_reducible conv => whnf))
    exact ret0 vm_p
end Go.Proofs.Ytplaocfagjeikaa
