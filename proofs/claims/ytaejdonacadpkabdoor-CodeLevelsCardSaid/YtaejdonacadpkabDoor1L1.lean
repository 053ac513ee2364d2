/-
  Chapter 1: levels, answers and peaks, with their errors (by contract).
  Conditions: none.
-/
import Derived.Test.YtaejdonacadpkabDoor1K2
import Derived.Test.YtaejdonacadpkabDoor1Q
namespace Go.Proofs.YtaejdonacadpkabDoor
open Go.RowKit Fx
/-! ### Squares, as the document has them -/
def rL (lo hi : Int) : Int := if lo ≤ 0 ∧ 0 ≤ hi then 0 else min (lo * lo) (hi * hi)
theorem neg_sq (x : Int) : -x * -x = x * x := by rw [Int.neg_mul, Int.mul_neg, Int.neg_neg]
theorem sq_abs {a b : Int} (h1 : -b ≤ a) (h2 : a ≤ b) : a * a ≤ b * b := by
  rcases Int.le_total 0 a with h | h
  · exact sq_mono h h2
  · rw [← neg_sq a]; exact sq_mono (by omega) (by omega)
theorem sq_two {x d : Int} (hd : 0 ≤ d) : rL (x - d) (x + d) = sqL x d ∧ max ((x - d) * (x - d)) ((x + d) * (x + d)) = sqH x d := by
  rcases Int.le_total 0 x with h | h
  · have m : mx x = x := by unfold mx; omega
    unfold rL sqL sqH
    rw [m]
    have a := sq_abs (a := x - d) (b := x + d) (by omega) (by omega)
    refine ⟨?_, by omega⟩
    by_cases c : x ≤ d
    · rw [if_pos (by omega), show max 0 (x - d) = 0 by omega]; rfl
    · rw [if_neg (by omega), show max 0 (x - d) = x - d by omega]; omega
  · have m : mx x = -x := by unfold mx; omega
    unfold rL sqL sqH
    rw [m]
    have a := sq_abs (a := x + d) (b := d - x) (by omega) (by omega)
    have e1 : (x - d) * (x - d) = (d - x) * (d - x) := by rw [← neg_sq (x - d), show -(x - d) = d - x by omega]
    have e2 : (-x + d) = d - x := by omega
    rw [e1, e2]
    refine ⟨?_, by omega⟩
    by_cases c : -x ≤ d
    · rw [if_pos (by omega), show max 0 (-x - d) = 0 by omega]; rfl
    · have e3 : (x + d) * (x + d) = (-x - d) * (-x - d) := by rw [← neg_sq (x + d), show -(x + d) = -x - d by omega]
      rw [if_neg (by omega), show max 0 (-x - d) = -x - d by omega, ← e3]; omega
theorem rSquares_ok {lo hi : Int} (h1 : -1200000000 ≤ lo ∧ lo ≤ 1200000000) (h2 : -1200000000 ≤ hi ∧ hi ≤ 1200000000) : FnOK Tryd.prog 63 [I lo, I hi] (.agg [I (rL lo hi), I (max (lo * lo) (hi * hi))]) [] := by
  have a := sq_bd h1
  have b := sq_bd h2
  unfold rL
  by_cases c : lo ≤ 0 ∧ 0 ≤ hi
  · rw [if_pos c]
    obtain ⟨c1, c2⟩ := c
    refine fn_i hmix hT Tryd.f63 (by kernel_rfl) rfl (by kernel_rfl) ?_
    with_reducible conv => whnf
    repeat' ((first | (with_reducible refine branch_t ?_) | (with_reducible refine branch_f ?_) | (with_reducible refine branch_nt ?_) | (with_reducible refine branch_nf ?_) | (with_reducible refine branch_dec (fun _ => ?_) (fun _ => ?_)) | (with_reducible refine branch_ndec (fun _ => ?_) (fun _ => ?_)) | (with_reducible refine branch_bool (fun _ => ?_) (fun _ => ?_)) | (with_reducible refine arith_64 (by omega) ?_) | (with_reducible refine ob_i (by omega) (fun _ => ?_)) | (with_reducible refine ob_i (by unfold room; omega) (fun _ => ?_)) | (with_reducible refine ob_i (by (try simp only [toN_eq, Int.toNat_natCast] at *); (try dsimp only [toN] at *); omega) (fun _ => ?_)) | (with_reducible refine arith_64 (by (try simp only [toN_eq, Int.toNat_natCast] at *); (try dsimp only [toN] at *); omega) ?_) | (with_reducible refine ob_k rfl ?_) | ((with_reducible refine ob_k ?_ ?_); focus kernel_rfl) | (refine yield_i hmix hT rfl hL efr eps eag ebd rfl (by kernel_rfl) ?_)  | (apply call_l (first_ok (l := [_, _]) (Nat.le_of_ble_eq_true rfl)) (.cons (vm_lit _ rfl rfl (.cons (vm_int rfl) (.cons (vm_int rfl) .nil))) .nil)) | (apply call_l (first_ok (l := [_, _, _]) (Nat.le_of_ble_eq_true rfl)) (.cons (vm_lit _ rfl rfl (.cons (vm_int rfl) (.cons (vm_int rfl) (.cons (vm_int rfl) .nil)))) .nil)) | (apply call_l (first_ok (l := [_, _, _, _]) (Nat.le_of_ble_eq_true rfl)) (.cons (vm_lit _ rfl rfl (.cons (vm_int rfl) (.cons (vm_int rfl) (.cons (vm_int rfl) (.cons (vm_int rfl) .nil))))) .nil))) <;> (try (exfalso; omega; done)) <;> (with_reducible conv => whnf))
    all_goals exact ret0 vm_p
  · rw [if_neg c]
    by_cases c1 : lo ≤ 0
    · have c2 : ¬ 0 ≤ hi := fun h => c ⟨c1, h⟩
      refine fn_i hmix hT Tryd.f63 (by kernel_rfl) rfl (by kernel_rfl) ?_
      with_reducible conv => whnf
      repeat' ((first | (with_reducible refine branch_t ?_) | (with_reducible refine branch_f ?_) | (with_reducible refine branch_nt ?_) | (with_reducible refine branch_nf ?_) | (with_reducible refine branch_dec (fun _ => ?_) (fun _ => ?_)) | (with_reducible refine branch_ndec (fun _ => ?_) (fun _ => ?_)) | (with_reducible refine branch_bool (fun _ => ?_) (fun _ => ?_)) | (with_reducible refine arith_64 (by omega) ?_) | (with_reducible refine ob_i (by omega) (fun _ => ?_)) | (with_reducible refine ob_i (by unfold room; omega) (fun _ => ?_)) | (with_reducible refine ob_i (by (try simp only [toN_eq, Int.toNat_natCast] at *); (try dsimp only [toN] at *); omega) (fun _ => ?_)) | (with_reducible refine arith_64 (by (try simp only [toN_eq, Int.toNat_natCast] at *); (try dsimp only [toN] at *); omega) ?_) | (with_reducible refine ob_k rfl ?_) | ((with_reducible refine ob_k ?_ ?_); focus kernel_rfl) | (refine yield_i hmix hT rfl hL efr eps eag ebd rfl (by kernel_rfl) ?_)  | (apply call_l (first_ok (l := [_, _]) (Nat.le_of_ble_eq_true rfl)) (.cons (vm_lit _ rfl rfl (.cons (vm_int rfl) (.cons (vm_int rfl) .nil))) .nil)) | (apply call_l (first_ok (l := [_, _, _]) (Nat.le_of_ble_eq_true rfl)) (.cons (vm_lit _ rfl rfl (.cons (vm_int rfl) (.cons (vm_int rfl) (.cons (vm_int rfl) .nil)))) .nil)) | (apply call_l (first_ok (l := [_, _, _, _]) (Nat.le_of_ble_eq_true rfl)) (.cons (vm_lit _ rfl rfl (.cons (vm_int rfl) (.cons (vm_int rfl) (.cons (vm_int rfl) (.cons (vm_int rfl) .nil))))) .nil))) <;> (try (exfalso; omega; done)) <;> (with_reducible conv => whnf))
      all_goals exact ret0 vm_p
    · refine fn_i hmix hT Tryd.f63 (by kernel_rfl) rfl (by kernel_rfl) ?_
      with_reducible conv => whnf
      repeat' ((first | (with_reducible refine branch_t ?_) | (with_reducible refine branch_f ?_) | (with_reducible refine branch_nt ?_) | (with_reducible refine branch_nf ?_) | (with_reducible refine branch_dec (fun _ => ?_) (fun _ => ?_)) | (with_reducible refine branch_ndec (fun _ => ?_) (fun _ => ?_)) | (with_reducible refine branch_bool (fun _ => ?_) (fun _ => ?_)) | (with_reducible refine arith_64 (by omega) ?_) | (with_reducible refine ob_i (by omega) (fun _ => ?_)) | (with_reducible refine ob_i (by unfold room; omega) (fun _ => ?_)) | (with_reducible refine ob_i (by (try simp only [toN_eq, Int.toNat_natCast] at *); (try dsimp only [toN] at *); omega) (fun _ => ?_)) | (with_reducible refine arith_64 (by (try simp only [toN_eq, Int.toNat_natCast] at *); (try dsimp only [toN] at *); omega) ?_) | (with_reducible refine ob_k rfl ?_) | ((with_reducible refine ob_k ?_ ?_); focus kernel_rfl) | (refine yield_i hmix hT rfl hL efr eps eag ebd rfl (by kernel_rfl) ?_)  | (apply call_l (first_ok (l := [_, _]) (Nat.le_of_ble_eq_true rfl)) (.cons (vm_lit _ rfl rfl (.cons (vm_int rfl) (.cons (vm_int rfl) .nil))) .nil)) | (apply call_l (first_ok (l := [_, _, _]) (Nat.le_of_ble_eq_true rfl)) (.cons (vm_lit _ rfl rfl (.cons (vm_int rfl) (.cons (vm_int rfl) (.cons (vm_int rfl) .nil)))) .nil)) | (apply call_l (first_ok (l := [_, _, _, _]) (Nat.le_of_ble_eq_true rfl)) (.cons (vm_lit _ rfl rfl (.cons (vm_int rfl) (.cons (vm_int rfl) (.cons (vm_int rfl) (.cons (vm_int rfl) .nil))))) .nil))) <;> (try (exfalso; omega; done)) <;> (with_reducible conv => whnf))
      all_goals exact ret0 vm_p
theorem rLevel_ok {l : Ln} (v : l.Val) {k : Nat} (hk : k < l.vs.length) {b : Int} (hb : 0 ≤ b ∧ b ≤ 2000000) : FnOK Tryd.prog 31 [eL l, I k, I b] (eP (lvL l k b, lvH l k b)) [] := by
  have t1 : toN (k : Int) = k := toN_nat k
  have lm := v.m
  have c := cb_bd v hk
  have s := lvS_bd v hk hb
  have b1 := sqL_bd c.1.1 s
  have b2 := sqL_bd c.1.2 s
  have e1 := sq_two (x := (l.vs.getD k (0, 0)).1) s.1
  have e2 := sq_two (x := (l.vs.getD k (0, 0)).2) s.1
  have S1 := rSquares_ok (lo := (l.vs.getD k (0, 0)).1 - lvS l k b) (hi := (l.vs.getD k (0, 0)).1 + lvS l k b) (by omega) (by omega)
  have S2 := rSquares_ok (lo := (l.vs.getD k (0, 0)).2 - lvS l k b) (hi := (l.vs.getD k (0, 0)).2 + lvS l k b) (by omega) (by omega)
  rw [e1.1, e1.2] at S1
  rw [e2.1, e2.2] at S2
  unfold lvL lvH
  generalize sqL (l.vs.getD k (0, 0)).1 (lvS l k b) = x1 at *
  generalize sqL (l.vs.getD k (0, 0)).2 (lvS l k b) = x2 at *
  generalize sqH (l.vs.getD k (0, 0)).1 (lvS l k b) = x3 at *
  generalize sqH (l.vs.getD k (0, 0)).2 (lvS l k b) = x4 at *
  unfold lvS at *
  rw [← t1] at S1 S2 s c
  clear e1 e2
  rw [show (toN (k : Int) : Int) = (k : Int) by rw [t1]] at S1 S2
  refine fn_i hmix hT Tryd.f31 (by kernel_rfl) rfl (by kernel_rfl) ?_
  with_reducible conv => whnf
  repeat' ((first | (with_reducible refine branch_t ?_) | (with_reducible refine branch_f ?_) | (with_reducible refine branch_nt ?_) | (with_reducible refine branch_nf ?_) | (with_reducible refine branch_dec (fun _ => ?_) (fun _ => ?_)) | (with_reducible refine branch_ndec (fun _ => ?_) (fun _ => ?_)) | (with_reducible refine branch_bool (fun _ => ?_) (fun _ => ?_)) | (with_reducible refine arith_64 (by omega) ?_) | (with_reducible refine ob_i (by omega) (fun _ => ?_)) | (with_reducible refine ob_i (by unfold room; omega) (fun _ => ?_)) | (with_reducible refine ob_i (by (try simp only [] at *); (try dsimp only [toN] at *); omega) (fun _ => ?_)) | (with_reducible refine arith_64 (by (try simp only [] at *); (try dsimp only [toN] at *); omega) ?_) | (with_reducible refine ob_k rfl ?_) | ((with_reducible refine ob_k ?_ ?_); focus kernel_rfl) | (refine yield_i hmix hT rfl hL efr eps eag ebd rfl (by kernel_rfl) ?_) | (apply call_u S1) | (apply call_u S2) | (apply call_l (first_ok (l := [_, _]) (Nat.le_of_ble_eq_true rfl)) (.cons (vm_lit _ rfl rfl (.cons (vm_int rfl) (.cons (vm_int rfl) .nil))) .nil)) | (apply call_l (first_ok (l := [_, _, _]) (Nat.le_of_ble_eq_true rfl)) (.cons (vm_lit _ rfl rfl (.cons (vm_int rfl) (.cons (vm_int rfl) (.cons (vm_int rfl) .nil)))) .nil)) | (apply call_l (first_ok (l := [_, _, _, _]) (Nat.le_of_ble_eq_true rfl)) (.cons (vm_lit _ rfl rfl (.cons (vm_int rfl) (.cons (vm_int rfl) (.cons (vm_int rfl) (.cons (vm_int rfl) .nil))))) .nil))) <;> (try (exfalso; omega; done)) <;> (with_reducible conv => whnf))
  exact ret0 vm_p
theorem rAnswer_ok {l : Ln} {k : Nat} {lo hi : Int} {r : Int × Int} (ht : 0 ≤ r.2 ∧ r.2 ≤ 1000000000) (L : FnOK Tryd.prog 31 [eL l, I k, I r.1] (eP (lo, hi)) []) : FnOK Tryd.prog 32 [eL l, I k, eP r] (I (ansV lo hi r.2)) [] := by
  have q := sq_bd (x := r.2) (M := 1000000000) (by omega)
  refine fn_i hmix hT Tryd.f32 (by kernel_rfl) rfl (by kernel_rfl) ?_
  with_reducible conv => whnf
  repeat' ((first | (with_reducible refine branch_t ?_) | (with_reducible refine branch_f ?_) | (with_reducible refine branch_nt ?_) | (with_reducible refine branch_nf ?_) | (with_reducible refine branch_dec (fun _ => ?_) (fun _ => ?_)) | (with_reducible refine branch_ndec (fun _ => ?_) (fun _ => ?_)) | (with_reducible refine branch_bool (fun _ => ?_) (fun _ => ?_)) | (with_reducible refine arith_64 (by omega) ?_) | (with_reducible refine ob_i (by omega) (fun _ => ?_)) | (with_reducible refine ob_i (by unfold room; omega) (fun _ => ?_)) | (with_reducible refine ob_i (by (try simp only [] at *); (try dsimp only [toN] at *); omega) (fun _ => ?_)) | (with_reducible refine arith_64 (by (try simp only [] at *); (try dsimp only [toN] at *); omega) ?_) | (with_reducible refine ob_k rfl ?_) | ((with_reducible refine ob_k ?_ ?_); focus kernel_rfl) | (refine yield_i hmix hT rfl hL efr eps eag ebd rfl (by kernel_rfl) ?_) | (apply call_u L) | (apply call_l (first_ok (l := [_, _]) (Nat.le_of_ble_eq_true rfl)) (.cons (vm_lit _ rfl rfl (.cons (vm_int rfl) (.cons (vm_int rfl) .nil))) .nil)) | (apply call_l (first_ok (l := [_, _, _]) (Nat.le_of_ble_eq_true rfl)) (.cons (vm_lit _ rfl rfl (.cons (vm_int rfl) (.cons (vm_int rfl) (.cons (vm_int rfl) .nil)))) .nil)) | (apply call_l (first_ok (l := [_, _, _, _]) (Nat.le_of_ble_eq_true rfl)) (.cons (vm_lit _ rfl rfl (.cons (vm_int rfl) (.cons (vm_int rfl) (.cons (vm_int rfl) (.cons (vm_int rfl) .nil))))) .nil))) <;> (try (exfalso; omega; done)) <;> (with_reducible conv => whnf))
  all_goals exact ret0 (vm_int (by unfold ansV; grind))
/-! ### Errors -/
def lagE (l : Ln) (k : Int) : Int := if lnE l ≠ 0 then lnE l else if decide (0 ≤ k ∧ k ≤ (l.vs.length : Int) - 1) = true then 0 else 6
def buE (b : Int) : Int := if decide (0 ≤ b ∧ b ≤ 2000000) = true then 0 else 2
theorem lagErr_all {l : Ln} (h1 : l.vs.length ≤ 70) (h2 : l.ms.length ≤ 70) {k : Int} : FnOK Tryd.prog 53 [eL l, I k] (I (lagE l k)) [] := by
  have E := lineErr_ok (l := l) (by omega) (by omega)
  have W := within_ok (n := k) (lo := 0) (hi := (l.vs.length : Int) - 1)
  have F := first_ok (l := [lnE l, if decide (0 ≤ k ∧ k ≤ (l.vs.length : Int) - 1) = true then 0 else 6]) (by simp)
  rw [first_two] at F
  unfold lagE
  generalize (if lnE l ≠ 0 then lnE l else if decide (0 ≤ k ∧ k ≤ (l.vs.length : Int) - 1) = true then 0 else 6) = z at *
  generalize lnE l = y at *
  refine fn_i hmix hT Tryd.f53 (by kernel_rfl) rfl (by kernel_rfl) ?_
  with_reducible conv => whnf
  repeat' ((first | (with_reducible refine branch_t ?_) | (with_reducible refine branch_f ?_) | (with_reducible refine branch_nt ?_) | (with_reducible refine branch_nf ?_) | (with_reducible refine branch_dec (fun _ => ?_) (fun _ => ?_)) | (with_reducible refine branch_ndec (fun _ => ?_) (fun _ => ?_)) | (with_reducible refine branch_bool (fun _ => ?_) (fun _ => ?_)) | (with_reducible refine arith_64 (by omega) ?_) | (with_reducible refine ob_i (by omega) (fun _ => ?_)) | (with_reducible refine ob_i (by unfold room; omega) (fun _ => ?_)) | (with_reducible refine ob_i (by (try simp only [] at *); (try dsimp only [toN] at *); omega) (fun _ => ?_)) | (with_reducible refine arith_64 (by (try simp only [toN_eq, Int.toNat_natCast] at *); (try dsimp only [toN] at *); omega) ?_) | (with_reducible refine ob_k rfl ?_) | ((with_reducible refine ob_k ?_ ?_); focus kernel_rfl) | (refine yield_i hmix hT rfl hL efr eps eag ebd rfl (by kernel_rfl) ?_) | (apply call_u E) | (apply call_u W) | (apply call_u unless_ok) | (apply call_l F (.cons (vm_lit _ rfl rfl (.cons (vm_int rfl) (.cons (vm_int rfl) .nil))) .nil)) | (apply call_l (first_ok (l := [_, _]) (Nat.le_of_ble_eq_true rfl)) (.cons (vm_lit _ rfl rfl (.cons (vm_int rfl) (.cons (vm_int rfl) .nil))) .nil)) | (apply call_l (first_ok (l := [_, _, _]) (Nat.le_of_ble_eq_true rfl)) (.cons (vm_lit _ rfl rfl (.cons (vm_int rfl) (.cons (vm_int rfl) (.cons (vm_int rfl) .nil)))) .nil)) | (apply call_l (first_ok (l := [_, _, _, _]) (Nat.le_of_ble_eq_true rfl)) (.cons (vm_lit _ rfl rfl (.cons (vm_int rfl) (.cons (vm_int rfl) (.cons (vm_int rfl) (.cons (vm_int rfl) .nil))))) .nil))) <;> (try (exfalso; omega; done)) <;> (with_reducible conv => whnf))
  exact ret0 vm_p
theorem ruleErr_ok {r : Int × Int} : FnOK Tryd.prog 57 [eP r] (I (ruE r)) [] := by
  have W := within_ok (n := r.2) (lo := 0) (hi := 1000000000)
  have B2 := budgetErr_ok (b := r.1)
  have F := first_ok (l := [if decide (0 ≤ r.1 ∧ r.1 ≤ 2000000) = true then 0 else 2, if decide (0 ≤ r.2 ∧ r.2 ≤ 1000000000) = true then 0 else 2]) (by simp)
  rw [show firstErr [if decide (0 ≤ r.1 ∧ r.1 ≤ 2000000) = true then 0 else 2, if decide (0 ≤ r.2 ∧ r.2 ≤ 1000000000) = true then 0 else 2] = ruE r by rw [first_two]; unfold ruE; simp only [decide_eq_true_eq]; grind] at F
  generalize ruE r = z at *
  refine fn_i hmix hT Tryd.f57 (by kernel_rfl) rfl (by kernel_rfl) ?_
  with_reducible conv => whnf
  repeat' ((first | (with_reducible refine branch_t ?_) | (with_reducible refine branch_f ?_) | (with_reducible refine branch_nt ?_) | (with_reducible refine branch_nf ?_) | (with_reducible refine branch_dec (fun _ => ?_) (fun _ => ?_)) | (with_reducible refine branch_ndec (fun _ => ?_) (fun _ => ?_)) | (with_reducible refine branch_bool (fun _ => ?_) (fun _ => ?_)) | (with_reducible refine arith_64 (by omega) ?_) | (with_reducible refine ob_i (by omega) (fun _ => ?_)) | (with_reducible refine ob_i (by unfold room; omega) (fun _ => ?_)) | (with_reducible refine ob_i (by (try simp only [] at *); (try dsimp only [toN] at *); omega) (fun _ => ?_)) | (with_reducible refine arith_64 (by (try simp only [toN_eq, Int.toNat_natCast] at *); (try dsimp only [toN] at *); omega) ?_) | (with_reducible refine ob_k rfl ?_) | ((with_reducible refine ob_k ?_ ?_); focus kernel_rfl) | (refine yield_i hmix hT rfl hL efr eps eag ebd rfl (by kernel_rfl) ?_) | (apply call_u B2) | (apply call_u W) | (apply call_u unless_ok) | (apply call_l F (.cons (vm_lit _ rfl rfl (.cons (vm_int rfl) (.cons (vm_int rfl) .nil))) .nil)) | (apply call_l (first_ok (l := [_, _]) (Nat.le_of_ble_eq_true rfl)) (.cons (vm_lit _ rfl rfl (.cons (vm_int rfl) (.cons (vm_int rfl) .nil))) .nil)) | (apply call_l (first_ok (l := [_, _, _]) (Nat.le_of_ble_eq_true rfl)) (.cons (vm_lit _ rfl rfl (.cons (vm_int rfl) (.cons (vm_int rfl) (.cons (vm_int rfl) .nil)))) .nil)) | (apply call_l (first_ok (l := [_, _, _, _]) (Nat.le_of_ble_eq_true rfl)) (.cons (vm_lit _ rfl rfl (.cons (vm_int rfl) (.cons (vm_int rfl) (.cons (vm_int rfl) (.cons (vm_int rfl) .nil))))) .nil))) <;> (try (exfalso; omega; done)) <;> (with_reducible conv => whnf))
  exact ret0 vm_p
theorem levelAt_bad {l : Ln} (h1 : l.vs.length ≤ 70) (h2 : l.ms.length ≤ 70) {k b e : Int} (he : firstErr [lagE l k, buE b] = e) (h0 : e ≠ 0) : FnOK Tryd.prog 21 [eL l, I k, I b] (.tup [eP (0, 0), I e]) [] := by
  have L := lagErr_all h1 h2 (k := k)
  have B2 := budgetErr_ok (b := b)
  change FnOK _ _ _ (I (buE b)) [] at B2
  have F := first_ok (l := [lagE l k, buE b]) (by simp)
  rw [he] at F
  generalize lagE l k = x at *
  generalize buE b = y at *
  refine fn_i hmix hT Tryd.f21 (by kernel_rfl) rfl (by kernel_rfl) ?_
  with_reducible conv => whnf
  repeat' ((first | (with_reducible refine branch_t ?_) | (with_reducible refine branch_f ?_) | (with_reducible refine branch_nt ?_) | (with_reducible refine branch_nf ?_) | (with_reducible refine branch_dec (fun _ => ?_) (fun _ => ?_)) | (with_reducible refine branch_ndec (fun _ => ?_) (fun _ => ?_)) | (with_reducible refine branch_bool (fun _ => ?_) (fun _ => ?_)) | (with_reducible refine arith_64 (by omega) ?_) | (with_reducible refine ob_i (by omega) (fun _ => ?_)) | (with_reducible refine ob_i (by unfold room; omega) (fun _ => ?_)) | (with_reducible refine ob_i (by (try simp only [toN_eq, Int.toNat_natCast] at *); (try dsimp only [toN] at *); omega) (fun _ => ?_)) | (with_reducible refine arith_64 (by (try simp only [toN_eq, Int.toNat_natCast] at *); (try dsimp only [toN] at *); omega) ?_) | (with_reducible refine ob_k rfl ?_) | ((with_reducible refine ob_k ?_ ?_); focus kernel_rfl) | (refine yield_i hmix hT rfl hL efr eps eag ebd rfl (by kernel_rfl) ?_) | (apply call_u L) | (apply call_u B2) | (apply call_l F (.cons (vm_lit _ rfl rfl (.cons (vm_int rfl) (.cons (vm_int rfl) .nil))) .nil)) | (apply call_l (first_ok (l := [_, _]) (Nat.le_of_ble_eq_true rfl)) (.cons (vm_lit _ rfl rfl (.cons (vm_int rfl) (.cons (vm_int rfl) .nil))) .nil)) | (apply call_l (first_ok (l := [_, _, _]) (Nat.le_of_ble_eq_true rfl)) (.cons (vm_lit _ rfl rfl (.cons (vm_int rfl) (.cons (vm_int rfl) (.cons (vm_int rfl) .nil)))) .nil)) | (apply call_l (first_ok (l := [_, _, _, _]) (Nat.le_of_ble_eq_true rfl)) (.cons (vm_lit _ rfl rfl (.cons (vm_int rfl) (.cons (vm_int rfl) (.cons (vm_int rfl) (.cons (vm_int rfl) .nil))))) .nil))) <;> (try (exfalso; omega; done)) <;> (with_reducible conv => whnf))
  exact ret0 vm_p
theorem answerAt_bad {l : Ln} (h1 : l.vs.length ≤ 70) (h2 : l.ms.length ≤ 70) {k e : Int} {r : Int × Int} (he : firstErr [lagE l k, ruE r] = e) (h0 : e ≠ 0) : FnOK Tryd.prog 23 [eL l, I k, eP r] (.tup [I 0, I e]) [] := by
  have L := lagErr_all h1 h2 (k := k)
  have B2 := ruleErr_ok (r := r)
  have F := first_ok (l := [lagE l k, ruE r]) (by simp)
  rw [he] at F
  generalize lagE l k = x at *
  generalize ruE r = y at *
  refine fn_i hmix hT Tryd.f23 (by kernel_rfl) rfl (by kernel_rfl) ?_
  with_reducible conv => whnf
  repeat' ((first | (with_reducible refine branch_t ?_) | (with_reducible refine branch_f ?_) | (with_reducible refine branch_nt ?_) | (with_reducible refine branch_nf ?_) | (with_reducible refine branch_dec (fun _ => ?_) (fun _ => ?_)) | (with_reducible refine branch_ndec (fun _ => ?_) (fun _ => ?_)) | (with_reducible refine branch_bool (fun _ => ?_) (fun _ => ?_)) | (with_reducible refine arith_64 (by omega) ?_) | (with_reducible refine ob_i (by omega) (fun _ => ?_)) | (with_reducible refine ob_i (by unfold room; omega) (fun _ => ?_)) | (with_reducible refine ob_i (by (try simp only [] at *); (try dsimp only [toN] at *); omega) (fun _ => ?_)) | (with_reducible refine arith_64 (by (try simp only [toN_eq, Int.toNat_natCast] at *); (try dsimp only [toN] at *); omega) ?_) | (with_reducible refine ob_k rfl ?_) | ((with_reducible refine ob_k ?_ ?_); focus kernel_rfl) | (refine yield_i hmix hT rfl hL efr eps eag ebd rfl (by kernel_rfl) ?_) | (apply call_u L) | (apply call_u B2) | (apply call_l F (.cons (vm_lit _ rfl rfl (.cons (vm_int rfl) (.cons (vm_int rfl) .nil))) .nil)) | (apply call_l (first_ok (l := [_, _]) (Nat.le_of_ble_eq_true rfl)) (.cons (vm_lit _ rfl rfl (.cons (vm_int rfl) (.cons (vm_int rfl) .nil))) .nil)) | (apply call_l (first_ok (l := [_, _, _]) (Nat.le_of_ble_eq_true rfl)) (.cons (vm_lit _ rfl rfl (.cons (vm_int rfl) (.cons (vm_int rfl) (.cons (vm_int rfl) .nil)))) .nil)) | (apply call_l (first_ok (l := [_, _, _, _]) (Nat.le_of_ble_eq_true rfl)) (.cons (vm_lit _ rfl rfl (.cons (vm_int rfl) (.cons (vm_int rfl) (.cons (vm_int rfl) (.cons (vm_int rfl) .nil))))) .nil))) <;> (try (exfalso; omega; done)) <;> (with_reducible conv => whnf))
  exact ret0 vm_p
theorem peaks_bad {l : Ln} (h1 : l.vs.length ≤ 70) (h2 : l.ms.length ≤ 70) {e : Int} {r : Int × Int} {os : List Int} (ho : os.length = 0) (he : firstErr [lnE l, ruE r] = e) (h0 : e ≠ 0) : FnOK Tryd.prog 24 [eL l, eP r] (.tup [eInts os, I e]) [] := by
  have L := lineErr_ok (l := l) (by omega) (by omega)
  have B2 := ruleErr_ok (r := r)
  have F := first_ok (l := [lnE l, ruE r]) (by simp)
  rw [he] at F
  generalize lnE l = x at *
  generalize ruE r = y at *
  refine fn_i hmix hT Tryd.f24 (by kernel_rfl) rfl (by kernel_rfl) ?_
  with_reducible conv => whnf
  repeat' ((first | (with_reducible refine branch_t ?_) | (with_reducible refine branch_f ?_) | (with_reducible refine branch_nt ?_) | (with_reducible refine branch_nf ?_) | (with_reducible refine branch_dec (fun _ => ?_) (fun _ => ?_)) | (with_reducible refine branch_ndec (fun _ => ?_) (fun _ => ?_)) | (with_reducible refine branch_bool (fun _ => ?_) (fun _ => ?_)) | (with_reducible refine arith_64 (by omega) ?_) | (with_reducible refine ob_i (by omega) (fun _ => ?_)) | (with_reducible refine ob_i (by unfold room; omega) (fun _ => ?_)) | (with_reducible refine ob_i (by (try simp only [] at *); (try dsimp only [toN] at *); omega) (fun _ => ?_)) | (with_reducible refine arith_64 (by (try simp only [toN_eq, Int.toNat_natCast] at *); (try dsimp only [toN] at *); omega) ?_) | (with_reducible refine ob_k rfl ?_) | ((with_reducible refine ob_k ?_ ?_); focus kernel_rfl) | (refine yield_i hmix hT rfl hL efr eps eag ebd rfl (by kernel_rfl) ?_) | (apply call_u L) | (apply call_u B2) | (apply call_l F (.cons (vm_lit _ rfl rfl (.cons (vm_int rfl) (.cons (vm_int rfl) .nil))) .nil)) | (apply call_l (first_ok (l := [_, _]) (Nat.le_of_ble_eq_true rfl)) (.cons (vm_lit _ rfl rfl (.cons (vm_int rfl) (.cons (vm_int rfl) .nil))) .nil)) | (apply call_l (first_ok (l := [_, _, _]) (Nat.le_of_ble_eq_true rfl)) (.cons (vm_lit _ rfl rfl (.cons (vm_int rfl) (.cons (vm_int rfl) (.cons (vm_int rfl) .nil)))) .nil)) | (apply call_l (first_ok (l := [_, _, _, _]) (Nat.le_of_ble_eq_true rfl)) (.cons (vm_lit _ rfl rfl (.cons (vm_int rfl) (.cons (vm_int rfl) (.cons (vm_int rfl) (.cons (vm_int rfl) .nil))))) .nil))) <;> (try (exfalso; omega; done)) <;> (with_reducible conv => whnf))
  exact ret0 (vm_tup (.cons (vm_nilsl ho) (.cons vm_p .nil)))
/-! ### Peaks -/
/-- One of the neighbours has a greater least level. -/
def lowP (A : Nat → Int × Int) (n k : Nat) : Bool := (decide (0 < k) && decide ((A k).1 < (A (k - 1)).1)) || (decide (k + 1 < n) && decide ((A k).1 < (A (k + 1)).1))
def pkP (A : Nat → Int × Int) (n : Nat) (t : Int) (k : Nat) : Bool := !lowP A n k && decide (ansV (A k).1 (A k).2 t = 2)
theorem peaks1_ok {y : Int × Int} {a b : Int} : FnOK Tryd.prog 61 [eP y, .pv [I a, I b] 0] (B (decide (a < y.1))) [] := by
  refine fn_i hmix hT Tryd.f61 (by kernel_rfl) rfl (by kernel_rfl) ?_
  with_reducible conv => whnf
  repeat' ((first | (with_reducible refine branch_t ?_) | (with_reducible refine branch_f ?_) | (with_reducible refine branch_nt ?_) | (with_reducible refine branch_nf ?_) | (with_reducible refine branch_dec (fun _ => ?_) (fun _ => ?_)) | (with_reducible refine branch_ndec (fun _ => ?_) (fun _ => ?_)) | (with_reducible refine branch_bool (fun _ => ?_) (fun _ => ?_)) | (with_reducible refine arith_64 (by omega) ?_) | (with_reducible refine ob_i (by omega) (fun _ => ?_)) | (with_reducible refine ob_i (by unfold room; omega) (fun _ => ?_)) | (with_reducible refine ob_i (by (try simp only [toN_eq, Int.toNat_natCast] at *); (try dsimp only [toN] at *); omega) (fun _ => ?_)) | (with_reducible refine arith_64 (by (try simp only [toN_eq, Int.toNat_natCast] at *); (try dsimp only [toN] at *); omega) ?_) | (with_reducible refine ob_k rfl ?_) | ((with_reducible refine ob_k ?_ ?_); focus kernel_rfl) | (refine yield_i hmix hT rfl hL efr eps eag ebd rfl (by kernel_rfl) ?_)  | (apply call_l (first_ok (l := [_, _]) (Nat.le_of_ble_eq_true rfl)) (.cons (vm_lit _ rfl rfl (.cons (vm_int rfl) (.cons (vm_int rfl) .nil))) .nil)) | (apply call_l (first_ok (l := [_, _, _]) (Nat.le_of_ble_eq_true rfl)) (.cons (vm_lit _ rfl rfl (.cons (vm_int rfl) (.cons (vm_int rfl) (.cons (vm_int rfl) .nil)))) .nil)) | (apply call_l (first_ok (l := [_, _, _, _]) (Nat.le_of_ble_eq_true rfl)) (.cons (vm_lit _ rfl rfl (.cons (vm_int rfl) (.cons (vm_int rfl) (.cons (vm_int rfl) (.cons (vm_int rfl) .nil))))) .nil))) <;> (try (exfalso; omega; done)) <;> (with_reducible conv => whnf))
  exact ret0 (vm_bool rfl)
theorem indexR_ok {l : List (Int × Int)} {fid : Nat} {caps : List V} {p : Int × Int → Bool} (hl : l.length ≤ 9223372036854775807) [IsPureL caps] (hf : ∀ x, FnOK Tryd.prog fid (eP x :: caps) (B (p x)) []) : FnOK Tryd.prog 81 [ePs l, .fn fid caps] (I (findIx p l 0)) [] := by
  refine fn_i hmix hT Tryd.f81 (by kernel_rfl) rfl (by kernel_rfl) ?_
  with_reducible conv => whnf
  refine loop_i hmix hT (fun k : Nat => ([(0, ePs l), (1, .fn fid caps), (7, I l.length), (8, I k)], ⟨0, []⟩)) (fun k => k ≤ l.length ∧ ∀ i, i < k → p (l.getD i (0, 0)) = false) (fun k => l.length - k) 0 ⟨by omega, by omega⟩ ?_ ?_
  · refine ⟨[], rfl, ?_, ?_⟩ <;> repeat' (first | exact trivial | exact vm_p | exact vm_ptr rfl rfl rfl | exact vm_yld rfl rfl | exact vm_own rfl rfl rfl rfl | exact vm_own rfl rfl (by omega) (by omega) | exact vm_int (by omega) | exact vm_nil rfl | exact sbm_cells vmL_p | exact sbm_row rfl (fun _ _ => vm_p) | refine ⟨⟨_, rfl, ?_⟩, ?_⟩ | refine ⟨⟨_, _, _, rfl⟩, ?_⟩ | (refine sbm_loop ?_; rw [efr]) | refine sbm_cells ?_ | refine vmL.cons ?_ ?_ | exact vmL.nil | refine vm_own rfl rfl rfl ?_)
  rintro k ⟨hk1, hk2⟩
  with_reducible conv => whnf
  repeat' ((first | (with_reducible refine branch_t ?_) | (with_reducible refine branch_f ?_) | (with_reducible refine branch_nt ?_) | (with_reducible refine branch_nf ?_) | (with_reducible refine branch_dec (fun _ => ?_) (fun _ => ?_)) | (with_reducible refine branch_ndec (fun _ => ?_) (fun _ => ?_)) | (with_reducible refine branch_bool (fun _ => ?_) (fun _ => ?_)) | (with_reducible refine arith_64 (by omega) ?_) | (with_reducible refine ob_i (by omega) (fun _ => ?_)) | (with_reducible refine ob_i (by unfold room; omega) (fun _ => ?_)) | ((with_reducible refine ob_k ?_ ?_); focus kernel_rfl) | (apply call_u (hf _))) <;> (try (exfalso; omega; done)) <;> (with_reducible conv => whnf))
  all_goals dsimp only [toN] at *
  · exact ret0 (vm_int (by rw [findIx_hit p (0, 0) l k 0 hk2 (by omega) (by assumption)]; simp))
  · refine ⟨k + 1, ⟨by omega, fun i hi => ?_⟩, by omega, ?_⟩
    · by_cases h : i = k
      · subst h; assumption
      · exact hk2 i (by omega)
    · refine ⟨[], rfl, ?_, ?_⟩ <;> repeat' (first | exact trivial | exact vm_p | exact vm_ptr rfl rfl rfl | exact vm_yld rfl rfl | exact vm_own rfl rfl rfl rfl | exact vm_own rfl rfl (by omega) (by omega) | exact vm_int (by omega) | exact vm_nil rfl | exact sbm_cells vmL_p | exact sbm_row rfl (fun _ _ => vm_p) | refine ⟨⟨_, rfl, ?_⟩, ?_⟩ | refine ⟨⟨_, _, _, rfl⟩, ?_⟩ | (refine sbm_loop ?_; rw [efr]) | refine sbm_cells ?_ | refine vmL.cons ?_ ?_ | exact vmL.nil | refine vm_own rfl rfl rfl ?_)
  · exact ret0 (vm_int (by rw [findIx_none p (0, 0) l 0 fun i hi => hk2 i (by omega)]))
theorem containsR_ok {l : List (Int × Int)} {fid : Nat} {caps : List V} {p : Int × Int → Bool} (hl : l.length ≤ 9223372036854775807) [IsPureL caps] (hf : ∀ x, FnOK Tryd.prog fid (eP x :: caps) (B (p x)) []) : FnOK Tryd.prog 60 [ePs l, .fn fid caps] (B (decide (0 ≤ findIx p l 0))) [] := by
  refine fn_i hmix hT Tryd.f60 (by kernel_rfl) rfl (by kernel_rfl) ?_
  with_reducible conv => whnf
  repeat' ((first | (with_reducible refine branch_t ?_) | (with_reducible refine branch_f ?_) | (with_reducible refine branch_nt ?_) | (with_reducible refine branch_nf ?_) | (with_reducible refine branch_dec (fun _ => ?_) (fun _ => ?_)) | (with_reducible refine branch_ndec (fun _ => ?_) (fun _ => ?_)) | (with_reducible refine branch_bool (fun _ => ?_) (fun _ => ?_)) | (with_reducible refine arith_64 (by omega) ?_) | (with_reducible refine ob_i (by omega) (fun _ => ?_)) | (with_reducible refine ob_i (by unfold room; omega) (fun _ => ?_)) | (with_reducible refine ob_i (by (try simp only [toN_eq, Int.toNat_natCast] at *); (try dsimp only [toN] at *); omega) (fun _ => ?_)) | (with_reducible refine arith_64 (by (try simp only [toN_eq, Int.toNat_natCast] at *); (try dsimp only [toN] at *); omega) ?_) | (with_reducible refine ob_k rfl ?_) | ((with_reducible refine ob_k ?_ ?_); focus kernel_rfl) | (refine yield_i hmix hT rfl hL efr eps eag ebd rfl (by kernel_rfl) ?_) | (apply call_u (indexR_ok hl hf)) | (apply call_l (first_ok (l := [_, _]) (Nat.le_of_ble_eq_true rfl)) (.cons (vm_lit _ rfl rfl (.cons (vm_int rfl) (.cons (vm_int rfl) .nil))) .nil)) | (apply call_l (first_ok (l := [_, _, _]) (Nat.le_of_ble_eq_true rfl)) (.cons (vm_lit _ rfl rfl (.cons (vm_int rfl) (.cons (vm_int rfl) (.cons (vm_int rfl) .nil)))) .nil)) | (apply call_l (first_ok (l := [_, _, _, _]) (Nat.le_of_ble_eq_true rfl)) (.cons (vm_lit _ rfl rfl (.cons (vm_int rfl) (.cons (vm_int rfl) (.cons (vm_int rfl) (.cons (vm_int rfl) .nil))))) .nil))) <;> (try (exfalso; omega; done)) <;> (with_reducible conv => whnf))
  exact ret0 (vm_bool rfl)
theorem findIx_any {α : Type} {p : α → Bool} {l : List α} {d : α} : decide (0 ≤ findIx p l 0) = true ↔ ∃ i, i < l.length ∧ p (l.getD i d) = true := by
  constructor
  · intro h
    apply Classical.byContradiction
    intro c
    have : ∀ i, i < l.length → p (l.getD i d) = false := fun i hi => by
      cases e : p (l.getD i d) with
      | false => rfl
      | true => exact absurd ⟨i, hi, e⟩ c
    rw [findIx_none p d l 0 this] at h
    simp at h
  · rintro ⟨i, hi, e⟩
    apply Classical.byContradiction
    intro c
    have hn : ¬ ∃ j, j < l.length ∧ p (l.getD j d) = true ∧ ∀ m, m < j → p (l.getD m d) = false := by
      rintro ⟨j, j1, j2, j3⟩
      rw [findIx_hit p d l j 0 j3 j1 j2] at c
      simp at c
    refine hn ?_
    clear hn c
    induction i using Nat.strongRecOn with
    | _ i ih =>
      by_cases q : ∃ m, m < i ∧ p (l.getD m d) = true
      · obtain ⟨m, m1, m2⟩ := q
        exact ih m m1 (by omega) m2
      · exact ⟨i, hi, e, fun m hm => by
          cases e2 : p (l.getD m d) with
          | false => rfl
          | true => exact absurd ⟨m, hm, e2⟩ q⟩
/-- The part of a list around a place. -/
theorem wnd_low {A : Nat → Int × Int} {n k o m : Nat} (hk : k < n) (ho : o = k - 1) (hm : m = min n (k + 2) - o) {W : List (Int × Int)} (w1 : W.length = m) (w2 : ∀ i, i < m → W.getD i (0, 0) = A (o + i)) : decide (0 ≤ findIx (fun y => decide ((A k).1 < y.1)) W 0) = lowP A n k := by
  have key : decide (0 ≤ findIx (fun y => decide ((A k).1 < y.1)) W 0) = true ↔ lowP A n k = true := by
    rw [findIx_any (d := (0, 0))]
    unfold lowP
    simp only [Bool.or_eq_true, Bool.and_eq_true, decide_eq_true_eq]
    constructor
    · rintro ⟨i, hi, e⟩
      rw [w2 i (by omega)] at e
      have : o + i = k ∨ (0 < k ∧ o + i = k - 1) ∨ (k + 1 < n ∧ o + i = k + 1) := by omega
      rcases this with q | ⟨q1, q⟩ | ⟨q1, q⟩
      · rw [q] at e; omega
      · rw [q] at e; exact .inl ⟨q1, e⟩
      · rw [q] at e; exact .inr ⟨q1, e⟩
    · rintro (⟨q1, e⟩ | ⟨q1, e⟩)
      · exact ⟨k - 1 - o, by omega, by rw [w2 _ (by omega), show o + (k - 1 - o) = k - 1 by omega]; exact e⟩
      · exact ⟨k + 1 - o, by omega, by rw [w2 _ (by omega), show o + (k + 1 - o) = k + 1 by omega]; exact e⟩
  cases e : lowP A n k with
  | true => exact key.2 e
  | false =>
    cases e2 : decide (0 ≤ findIx (fun y => decide ((A k).1 < y.1)) W 0) with
    | false => rfl
    | true => have := key.1 e2; rw [e] at this; cases this
end Go.Proofs.YtaejdonacadpkabDoor
