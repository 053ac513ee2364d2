/-
  Chapter 5: numbers of any size: subtracted, added with signs, multiplied, compared (by contract).
  Conditions: none.
-/
import Derived.Test.Ytdfcedndkplabaa5Wb
namespace Go.Proofs.Ytdfcedndkplabaa
open Go.RowKit Fx Wd
theorem dg_len_le {a b : Nat} (h : b ≤ a) : (dg b).length ≤ (dg a).length := by
  apply Classical.byContradiction
  intro k
  have := dg_len_lt (a := a) (b := b) (by omega)
  omega
theorem subDigits_ok {a b : List Int} (ha : Dg a) (hb : Dg b) (la : a.length ≤ 900) (lb : b.length ≤ a.length) (hv : wv b ≤ wv a) {n : Nat} (hn : (wv a - wv b).toNat = n) : FnOK Try.prog 95 [eInts a, eInts b] (eD n) [] := by
  have V := subS_val ha hb lb hv
  have T := trimmed_ok (l := (subS a b a.length).1) (n := n) (subS_inv ha hb _).1.2 (by have := (subS_inv ha hb a.length).1.1; omega) (by rw [V]; exact hn)
  refine fn_i hmix hT Try.f95 (by kernel_rfl) rfl (by kernel_rfl) ?_
  with_reducible conv => whnf
  repeat' ((first | (with_reducible refine branch_t ?_) | (with_reducible refine branch_f ?_) | (with_reducible refine branch_nt ?_) | (with_reducible refine branch_nf ?_) | (with_reducible refine branch_dec (fun _ => ?_) (fun _ => ?_)) | (with_reducible refine branch_ndec (fun _ => ?_) (fun _ => ?_)) | (with_reducible refine branch_bool (fun _ => ?_) (fun _ => ?_)) | (with_reducible refine arith_64 (by omega) ?_) | (with_reducible refine ob_i (by omega) (fun _ => ?_)) | (with_reducible refine ob_i (by unfold room; omega) (fun _ => ?_)) | (with_reducible refine ob_i (by (try simp only [toN_eq, Int.toNat_natCast] at *); (try dsimp only [toN] at *); omega) (fun _ => ?_)) | (with_reducible refine arith_64 (by (try simp only [toN_eq, Int.toNat_natCast] at *); (try dsimp only [toN] at *); omega) ?_) | (with_reducible refine ob_k rfl ?_) | ((with_reducible refine ob_k ?_ ?_); focus kernel_rfl) | (refine yield_i hmix hT rfl hL efr eps eag ebd rfl (by kernel_rfl) ?_)  | (apply call_l (first_ok (l := [_, _]) (Nat.le_of_ble_eq_true rfl)) (.cons (vm_lit _ rfl rfl (.cons (vm_int rfl) (.cons (vm_int rfl) .nil))) .nil)) | (apply call_l (first_ok (l := [_, _, _]) (Nat.le_of_ble_eq_true rfl)) (.cons (vm_lit _ rfl rfl (.cons (vm_int rfl) (.cons (vm_int rfl) (.cons (vm_int rfl) .nil)))) .nil)) | (apply call_l (first_ok (l := [_, _, _, _]) (Nat.le_of_ble_eq_true rfl)) (.cons (vm_lit _ rfl rfl (.cons (vm_int rfl) (.cons (vm_int rfl) (.cons (vm_int rfl) (.cons (vm_int rfl) .nil))))) .nil))) <;> (try (exfalso; omega; done)) <;> (with_reducible conv => whnf))
  refine loop_i hmix hT (fun i : Nat => ([(0, eInts a), (1, eInts b), (5, .own 0 1 0 (subS a b i).1.length), (6, I (subS a b i).2), (7, I i)], ⟨1, [(0, .row 1 (subS a b i).1.length (fun k => I ((subS a b i).1.getD k 0)) 3)]⟩)) (fun i => i ≤ a.length) (fun i => a.length - i) (0 : Nat) (by omega) ?_ ?_
  · refine ⟨[(0, none)], rfl, ?_, ?_⟩ <;> repeat' (first | exact trivial | exact vm_p | exact vm_ptr rfl rfl rfl | exact vm_yld rfl rfl | exact vm_own rfl rfl rfl rfl | exact vm_own rfl rfl (by omega) (by omega) | exact vm_int (by omega) | exact vm_nil rfl | exact sbm_cells vmL_p | exact sbm_row rfl (fun _ _ => vm_p) | refine ⟨⟨_, rfl, ?_⟩, ?_⟩ | refine ⟨⟨_, _, _, rfl⟩, ?_⟩ | (refine sbm_loop ?_; rw [efr]) | refine sbm_cells ?_ | refine vmL.cons ?_ ?_ | exact vmL.nil | refine vm_own rfl rfl rfl ?_)
  intro i hi
  have inv := subS_inv ha hb i
  have ti : toN (i : Int) = i := toN_nat i
  by_cases c : i < a.length
  · have x := ha.at i
    have y := hb.at i
    have DB := digit_ok (l := b) (i := (i : Int)) (by omega) (by omega)
    obtain ⟨⟨n1, n2⟩, n3, n4⟩ := inv
    clear T V n4
    by_cases q : a.getD i 0 - b.getD i 0 - (subS a b i).2 < 0
    · have e1 : (subS a b (i + 1)).1 = (subS a b i).1 ++ [a.getD (toN (i : Int)) 0 - b.getD (toN (i : Int)) 0 - (subS a b i).2 + 1000000000] := by
        rw [ti]
        show _ ++ [if _ then _ else _] = _
        rw [if_pos q]
      have e2 : (subS a b (i + 1)).2 = 1 := if_pos q
      rw [← ti] at x y q
      rw [ti] at q
      rw [← ti] at q
      have q' : a.getD (toN (i : Int)) 0 - b.getD (toN (i : Int)) 0 - (subS a b i).2 < 0 := by rw [ti]; rw [ti] at q; exact q
      with_reducible conv => whnf
      repeat' ((first | (with_reducible refine branch_t ?_) | (with_reducible refine branch_f ?_) | (with_reducible refine branch_nt ?_) | (with_reducible refine branch_nf ?_) | (with_reducible refine branch_dec (fun _ => ?_) (fun _ => ?_)) | (with_reducible refine branch_ndec (fun _ => ?_) (fun _ => ?_)) | (with_reducible refine branch_bool (fun _ => ?_) (fun _ => ?_)) | (with_reducible refine arith_64 (by omega) ?_) | (with_reducible refine ob_i (by omega) (fun _ => ?_)) | (with_reducible refine ob_i (by unfold room; omega) (fun _ => ?_)) | (with_reducible refine ob_i (by (try simp only [] at *); (try dsimp only [toN] at *); omega) (fun _ => ?_)) | (with_reducible refine arith_64 (by (try simp only [] at *); (try dsimp only [toN] at *); omega) ?_) | (with_reducible refine ob_k rfl ?_) | ((with_reducible refine ob_k ?_ ?_); focus kernel_rfl) | (refine yield_i hmix hT rfl hL efr eps eag ebd rfl (by kernel_rfl) ?_) | (apply call_u DB) | (apply call_l (first_ok (l := [_, _]) (Nat.le_of_ble_eq_true rfl)) (.cons (vm_lit _ rfl rfl (.cons (vm_int rfl) (.cons (vm_int rfl) .nil))) .nil)) | (apply call_l (first_ok (l := [_, _, _]) (Nat.le_of_ble_eq_true rfl)) (.cons (vm_lit _ rfl rfl (.cons (vm_int rfl) (.cons (vm_int rfl) (.cons (vm_int rfl) .nil)))) .nil)) | (apply call_l (first_ok (l := [_, _, _, _]) (Nat.le_of_ble_eq_true rfl)) (.cons (vm_lit _ rfl rfl (.cons (vm_int rfl) (.cons (vm_int rfl) (.cons (vm_int rfl) (.cons (vm_int rfl) .nil))))) .nil))) <;> (try (exfalso; omega; done)) <;> (with_reducible conv => whnf))
      refine ⟨i + 1, by omega, by omega, ?_⟩
      rw [e1, e2]
      refine ⟨[(0, some 2)], rfl, ⟨⟨_, rfl, vm_p⟩, ⟨_, rfl, vm_p⟩, ⟨_, rfl, vm_own rfl rfl rfl (by simp)⟩, ⟨_, rfl, vm_p⟩, ⟨_, rfl, vm_int (by omega)⟩, trivial⟩, ⟨⟨_, rfl, row_app (by simp)⟩, trivial⟩⟩
    · have e1 : (subS a b (i + 1)).1 = (subS a b i).1 ++ [a.getD (toN (i : Int)) 0 - b.getD (toN (i : Int)) 0 - (subS a b i).2] := by
        rw [ti]
        show _ ++ [if _ then _ else _] = _
        rw [if_neg q]
      have e2 : (subS a b (i + 1)).2 = 0 := if_neg q
      have q' : ¬ a.getD (toN (i : Int)) 0 - b.getD (toN (i : Int)) 0 - (subS a b i).2 < 0 := by rw [ti]; exact q
      clear q
      rw [← ti] at x y
      with_reducible conv => whnf
      repeat' ((first | (with_reducible refine branch_t ?_) | (with_reducible refine branch_f ?_) | (with_reducible refine branch_nt ?_) | (with_reducible refine branch_nf ?_) | (with_reducible refine branch_dec (fun _ => ?_) (fun _ => ?_)) | (with_reducible refine branch_ndec (fun _ => ?_) (fun _ => ?_)) | (with_reducible refine branch_bool (fun _ => ?_) (fun _ => ?_)) | (with_reducible refine arith_64 (by omega) ?_) | (with_reducible refine ob_i (by omega) (fun _ => ?_)) | (with_reducible refine ob_i (by unfold room; omega) (fun _ => ?_)) | (with_reducible refine ob_i (by (try simp only [] at *); (try dsimp only [toN] at *); omega) (fun _ => ?_)) | (with_reducible refine arith_64 (by (try simp only [] at *); (try dsimp only [toN] at *); omega) ?_) | (with_reducible refine ob_k rfl ?_) | ((with_reducible refine ob_k ?_ ?_); focus kernel_rfl) | (refine yield_i hmix hT rfl hL efr eps eag ebd rfl (by kernel_rfl) ?_) | (apply call_u DB) | (apply call_l (first_ok (l := [_, _]) (Nat.le_of_ble_eq_true rfl)) (.cons (vm_lit _ rfl rfl (.cons (vm_int rfl) (.cons (vm_int rfl) .nil))) .nil)) | (apply call_l (first_ok (l := [_, _, _]) (Nat.le_of_ble_eq_true rfl)) (.cons (vm_lit _ rfl rfl (.cons (vm_int rfl) (.cons (vm_int rfl) (.cons (vm_int rfl) .nil)))) .nil)) | (apply call_l (first_ok (l := [_, _, _, _]) (Nat.le_of_ble_eq_true rfl)) (.cons (vm_lit _ rfl rfl (.cons (vm_int rfl) (.cons (vm_int rfl) (.cons (vm_int rfl) (.cons (vm_int rfl) .nil))))) .nil))) <;> (try (exfalso; omega; done)) <;> (with_reducible conv => whnf))
      refine ⟨i + 1, by omega, by omega, ?_⟩
      rw [e1, e2]
      refine ⟨[(0, some 2)], rfl, ⟨⟨_, rfl, vm_p⟩, ⟨_, rfl, vm_p⟩, ⟨_, rfl, vm_own rfl rfl rfl (by simp)⟩, ⟨_, rfl, vm_p⟩, ⟨_, rfl, vm_int (by omega)⟩, trivial⟩, ⟨⟨_, rfl, row_app (by simp)⟩, trivial⟩⟩
  · obtain rfl : i = a.length := by omega
    with_reducible conv => whnf
    repeat' ((first | (with_reducible refine branch_t ?_) | (with_reducible refine branch_f ?_) | (with_reducible refine branch_nt ?_) | (with_reducible refine branch_nf ?_) | (with_reducible refine branch_dec (fun _ => ?_) (fun _ => ?_)) | (with_reducible refine branch_ndec (fun _ => ?_) (fun _ => ?_)) | (with_reducible refine branch_bool (fun _ => ?_) (fun _ => ?_)) | (with_reducible refine arith_64 (by omega) ?_) | (with_reducible refine ob_i (by omega) (fun _ => ?_)) | (with_reducible refine ob_i (by unfold room; omega) (fun _ => ?_)) | (with_reducible refine ob_i (by (try simp only [] at *); (try dsimp only [toN] at *); omega) (fun _ => ?_)) | (with_reducible refine arith_64 (by (try simp only [] at *); (try dsimp only [toN] at *); omega) ?_) | (with_reducible refine ob_k rfl ?_) | ((with_reducible refine ob_k ?_ ?_); focus kernel_rfl) | (refine yield_i hmix hT rfl hL efr eps eag ebd rfl (by kernel_rfl) ?_) | (refine call_z 0 T rfl rfl (.cons (vm_fr rfl rfl rfl (Nat.le_refl _) fun _ _ => vm_p) .nil) (pureS_no _) (rv_pure IsPure.h) ?_) | (apply call_l (first_ok (l := [_, _]) (Nat.le_of_ble_eq_true rfl)) (.cons (vm_lit _ rfl rfl (.cons (vm_int rfl) (.cons (vm_int rfl) .nil))) .nil)) | (apply call_l (first_ok (l := [_, _, _]) (Nat.le_of_ble_eq_true rfl)) (.cons (vm_lit _ rfl rfl (.cons (vm_int rfl) (.cons (vm_int rfl) (.cons (vm_int rfl) .nil)))) .nil)) | (apply call_l (first_ok (l := [_, _, _, _]) (Nat.le_of_ble_eq_true rfl)) (.cons (vm_lit _ rfl rfl (.cons (vm_int rfl) (.cons (vm_int rfl) (.cons (vm_int rfl) (.cons (vm_int rfl) .nil))))) .nil))) <;> (try (exfalso; omega; done)) <;> (with_reducible conv => whnf))
    exact ret0 vm_p
theorem wideNeg_ok {x : Int} : FnOK Try.prog 77 [eW x] (eW (-x)) [] := by
  have e1 : (-x).sign = 0 - x.sign := by rw [Int.sign_neg]; omega
  have e2 : (-x).natAbs = x.natAbs := Int.natAbs_neg x
  have b : -1 ≤ x.sign ∧ x.sign ≤ 1 := by
    rcases Int.lt_trichotomy x 0 with h | h | h
    · rw [Int.sign_eq_neg_one_of_neg h]; omega
    · subst h; decide
    · rw [Int.sign_eq_one_of_pos h]; omega
  show FnOK Try.prog 77 [.agg [I x.sign, eInts (dg x.natAbs)]] (.agg [I (-x).sign, eInts (dg (-x).natAbs)]) []
  rw [e1, e2]
  generalize x.sign = s at *
  generalize dg x.natAbs = l at *
  refine fn_i hmix hT Try.f77 (by kernel_rfl) rfl (by kernel_rfl) ?_
  with_reducible conv => whnf
  repeat' ((first | (with_reducible refine branch_t ?_) | (with_reducible refine branch_f ?_) | (with_reducible refine branch_nt ?_) | (with_reducible refine branch_nf ?_) | (with_reducible refine branch_dec (fun _ => ?_) (fun _ => ?_)) | (with_reducible refine branch_ndec (fun _ => ?_) (fun _ => ?_)) | (with_reducible refine branch_bool (fun _ => ?_) (fun _ => ?_)) | (with_reducible refine arith_64 (by omega) ?_) | (with_reducible refine ob_i (by omega) (fun _ => ?_)) | (with_reducible refine ob_i (by unfold room; omega) (fun _ => ?_)) | (with_reducible refine ob_i (by (try simp only [toN_eq, Int.toNat_natCast] at *); (try dsimp only [toN] at *); omega) (fun _ => ?_)) | (with_reducible refine arith_64 (by (try simp only [toN_eq, Int.toNat_natCast] at *); (try dsimp only [toN] at *); omega) ?_) | (with_reducible refine ob_k rfl ?_) | ((with_reducible refine ob_k ?_ ?_); focus kernel_rfl) | (refine yield_i hmix hT rfl hL efr eps eag ebd rfl (by kernel_rfl) ?_)  | (apply call_l (first_ok (l := [_, _]) (Nat.le_of_ble_eq_true rfl)) (.cons (vm_lit _ rfl rfl (.cons (vm_int rfl) (.cons (vm_int rfl) .nil))) .nil)) | (apply call_l (first_ok (l := [_, _, _]) (Nat.le_of_ble_eq_true rfl)) (.cons (vm_lit _ rfl rfl (.cons (vm_int rfl) (.cons (vm_int rfl) (.cons (vm_int rfl) .nil)))) .nil)) | (apply call_l (first_ok (l := [_, _, _, _]) (Nat.le_of_ble_eq_true rfl)) (.cons (vm_lit _ rfl rfl (.cons (vm_int rfl) (.cons (vm_int rfl) (.cons (vm_int rfl) (.cons (vm_int rfl) .nil))))) .nil))) <;> (try (exfalso; omega; done)) <;> (with_reducible conv => whnf))
  exact ret0 vm_p
theorem sign_cases (x : Int) : (0 < x ∧ x.sign = 1) ∨ (x = 0 ∧ x.sign = 0) ∨ (x < 0 ∧ x.sign = -1) := by
  rcases Int.lt_trichotomy x 0 with h | h | h
  · exact .inr (.inr ⟨h, Int.sign_eq_neg_one_of_neg h⟩)
  · subst h; exact .inr (.inl ⟨rfl, rfl⟩)
  · exact .inl ⟨h, Int.sign_eq_one_of_pos h⟩
theorem wideSign_ok {x : Int} : FnOK Try.prog 76 [eW x] (I x.sign) [] := by
  show FnOK Try.prog 76 [.agg [I x.sign, eInts (dg x.natAbs)]] (I x.sign) []
  generalize x.sign = s at *
  generalize dg x.natAbs = l at *
  refine fn_i hmix hT Try.f76 (by kernel_rfl) rfl (by kernel_rfl) ?_
  with_reducible conv => whnf
  repeat' ((first | (with_reducible refine branch_t ?_) | (with_reducible refine branch_f ?_) | (with_reducible refine branch_nt ?_) | (with_reducible refine branch_nf ?_) | (with_reducible refine branch_dec (fun _ => ?_) (fun _ => ?_)) | (with_reducible refine branch_ndec (fun _ => ?_) (fun _ => ?_)) | (with_reducible refine branch_bool (fun _ => ?_) (fun _ => ?_)) | (with_reducible refine arith_64 (by omega) ?_) | (with_reducible refine ob_i (by omega) (fun _ => ?_)) | (with_reducible refine ob_i (by unfold room; omega) (fun _ => ?_)) | (with_reducible refine ob_i (by (try simp only [toN_eq, Int.toNat_natCast] at *); (try dsimp only [toN] at *); omega) (fun _ => ?_)) | (with_reducible refine arith_64 (by (try simp only [toN_eq, Int.toNat_natCast] at *); (try dsimp only [toN] at *); omega) ?_) | (with_reducible refine ob_k rfl ?_) | ((with_reducible refine ob_k ?_ ?_); focus kernel_rfl) | (refine yield_i hmix hT rfl hL efr eps eag ebd rfl (by kernel_rfl) ?_)  | (apply call_l (first_ok (l := [_, _]) (Nat.le_of_ble_eq_true rfl)) (.cons (vm_lit _ rfl rfl (.cons (vm_int rfl) (.cons (vm_int rfl) .nil))) .nil)) | (apply call_l (first_ok (l := [_, _, _]) (Nat.le_of_ble_eq_true rfl)) (.cons (vm_lit _ rfl rfl (.cons (vm_int rfl) (.cons (vm_int rfl) (.cons (vm_int rfl) .nil)))) .nil)) | (apply call_l (first_ok (l := [_, _, _, _]) (Nat.le_of_ble_eq_true rfl)) (.cons (vm_lit _ rfl rfl (.cons (vm_int rfl) (.cons (vm_int rfl) (.cons (vm_int rfl) (.cons (vm_int rfl) .nil))))) .nil))) <;> (try (exfalso; omega; done)) <;> (with_reducible conv => whnf))
  exact ret0 vm_p
set_option maxHeartbeats 4000000 in
theorem wideAdd_ok {x y : Int} (lx : (dg x.natAbs).length ≤ 800) (ly : (dg y.natAbs).length ≤ 800) : FnOK Try.prog 82 [eW x, eW y] (eW (x + y)) [] := by
  by_cases x0 : x = 0
  · subst x0
    rw [Int.zero_add]
    show FnOK Try.prog 82 [.agg [I 0, eInts (dg 0)], .agg [I y.sign, eInts (dg y.natAbs)]] (.agg [I y.sign, eInts (dg y.natAbs)]) []
    generalize y.sign = s at *
    generalize dg y.natAbs = l at *
    generalize dg 0 = k at *
    refine fn_i hmix hT Try.f82 (by kernel_rfl) rfl (by kernel_rfl) ?_
    with_reducible conv => whnf
    repeat' ((first | (with_reducible refine branch_t ?_) | (with_reducible refine branch_f ?_) | (with_reducible refine branch_nt ?_) | (with_reducible refine branch_nf ?_) | (with_reducible refine branch_dec (fun _ => ?_) (fun _ => ?_)) | (with_reducible refine branch_ndec (fun _ => ?_) (fun _ => ?_)) | (with_reducible refine branch_bool (fun _ => ?_) (fun _ => ?_)) | (with_reducible refine arith_64 (by omega) ?_) | (with_reducible refine ob_i (by omega) (fun _ => ?_)) | (with_reducible refine ob_i (by unfold room; omega) (fun _ => ?_)) | (with_reducible refine ob_i (by (try simp only [] at *); (try dsimp only [toN] at *); omega) (fun _ => ?_)) | (with_reducible refine arith_64 (by (try simp only [] at *); (try dsimp only [toN] at *); omega) ?_) | (with_reducible refine ob_k rfl ?_) | ((with_reducible refine ob_k ?_ ?_); focus kernel_rfl) | (refine yield_i hmix hT rfl hL efr eps eag ebd rfl (by kernel_rfl) ?_)  | (apply call_l (first_ok (l := [_, _]) (Nat.le_of_ble_eq_true rfl)) (.cons (vm_lit _ rfl rfl (.cons (vm_int rfl) (.cons (vm_int rfl) .nil))) .nil)) | (apply call_l (first_ok (l := [_, _, _]) (Nat.le_of_ble_eq_true rfl)) (.cons (vm_lit _ rfl rfl (.cons (vm_int rfl) (.cons (vm_int rfl) (.cons (vm_int rfl) .nil)))) .nil)) | (apply call_l (first_ok (l := [_, _, _, _]) (Nat.le_of_ble_eq_true rfl)) (.cons (vm_lit _ rfl rfl (.cons (vm_int rfl) (.cons (vm_int rfl) (.cons (vm_int rfl) (.cons (vm_int rfl) .nil))))) .nil))) <;> (try (exfalso; omega; done)) <;> (with_reducible conv => whnf))
    exact ret0 vm_p
  by_cases y0 : y = 0
  · subst y0
    rw [Int.add_zero]
    have := sign_cases x
    show FnOK Try.prog 82 [.agg [I x.sign, eInts (dg x.natAbs)], .agg [I 0, eInts (dg 0)]] (.agg [I x.sign, eInts (dg x.natAbs)]) []
    generalize x.sign = s at *
    generalize dg x.natAbs = l at *
    generalize dg 0 = k at *
    refine fn_i hmix hT Try.f82 (by kernel_rfl) rfl (by kernel_rfl) ?_
    with_reducible conv => whnf
    repeat' ((first | (with_reducible refine branch_t ?_) | (with_reducible refine branch_f ?_) | (with_reducible refine branch_nt ?_) | (with_reducible refine branch_nf ?_) | (with_reducible refine branch_dec (fun _ => ?_) (fun _ => ?_)) | (with_reducible refine branch_ndec (fun _ => ?_) (fun _ => ?_)) | (with_reducible refine branch_bool (fun _ => ?_) (fun _ => ?_)) | (with_reducible refine arith_64 (by omega) ?_) | (with_reducible refine ob_i (by omega) (fun _ => ?_)) | (with_reducible refine ob_i (by unfold room; omega) (fun _ => ?_)) | (with_reducible refine ob_i (by (try simp only [] at *); (try dsimp only [toN] at *); omega) (fun _ => ?_)) | (with_reducible refine arith_64 (by (try simp only [] at *); (try dsimp only [toN] at *); omega) ?_) | (with_reducible refine ob_k rfl ?_) | ((with_reducible refine ob_k ?_ ?_); focus kernel_rfl) | (refine yield_i hmix hT rfl hL efr eps eag ebd rfl (by kernel_rfl) ?_)  | (apply call_l (first_ok (l := [_, _]) (Nat.le_of_ble_eq_true rfl)) (.cons (vm_lit _ rfl rfl (.cons (vm_int rfl) (.cons (vm_int rfl) .nil))) .nil)) | (apply call_l (first_ok (l := [_, _, _]) (Nat.le_of_ble_eq_true rfl)) (.cons (vm_lit _ rfl rfl (.cons (vm_int rfl) (.cons (vm_int rfl) (.cons (vm_int rfl) .nil)))) .nil)) | (apply call_l (first_ok (l := [_, _, _, _]) (Nat.le_of_ble_eq_true rfl)) (.cons (vm_lit _ rfl rfl (.cons (vm_int rfl) (.cons (vm_int rfl) (.cons (vm_int rfl) (.cons (vm_int rfl) .nil))))) .nil))) <;> (try (exfalso; omega; done)) <;> (with_reducible conv => whnf))
    exact ret0 vm_p
  have sx := sign_cases x
  have sy := sign_cases y
  have dx := dg_in x.natAbs
  have dy := dg_in y.natAbs
  have vx := dg_val x.natAbs
  have vy := dg_val y.natAbs
  by_cases same : x.sign = y.sign
  · have AL := addL_val dx dy
    have AN : addN (dg x.natAbs) (dg y.natAbs) ≤ 801 := by unfold addN; split <;> omega
    have A := addDigits_ok dx dy (by omega) (by omega)
    have W := wideOf_ok (s := x.sign) (z := x + y) AL.2.1 (by omega) (by rw [AL.1, vx, vy]; rcases sx with sx | sx | sx <;> rw [sx.2] <;> omega) (by omega)
    show FnOK Try.prog 82 [.agg [I x.sign, eInts (dg x.natAbs)], .agg [I y.sign, eInts (dg y.natAbs)]] (.agg [I (x + y).sign, eInts (dg (x + y).natAbs)]) []
    replace W : FnOK Try.prog 75 [_, _] (.agg [I (x + y).sign, eInts (dg (x + y).natAbs)]) [] := W
    generalize (x + y).sign = r1 at *
    generalize dg (x + y).natAbs = r2 at *
    generalize addL (dg x.natAbs) (dg y.natAbs) = k at *
    generalize dg x.natAbs = lx at *
    generalize dg y.natAbs = ly at *
    generalize x.sign = p at *
    generalize y.sign = q at *
    refine fn_i hmix hT Try.f82 (by kernel_rfl) rfl (by kernel_rfl) ?_
    with_reducible conv => whnf
    repeat' ((first | (with_reducible refine branch_t ?_) | (with_reducible refine branch_f ?_) | (with_reducible refine branch_nt ?_) | (with_reducible refine branch_nf ?_) | (with_reducible refine branch_dec (fun _ => ?_) (fun _ => ?_)) | (with_reducible refine branch_ndec (fun _ => ?_) (fun _ => ?_)) | (with_reducible refine branch_bool (fun _ => ?_) (fun _ => ?_)) | (with_reducible refine arith_64 (by omega) ?_) | (with_reducible refine ob_i (by omega) (fun _ => ?_)) | (with_reducible refine ob_i (by unfold room; omega) (fun _ => ?_)) | (with_reducible refine ob_i (by (try simp only [] at *); (try dsimp only [toN] at *); omega) (fun _ => ?_)) | (with_reducible refine arith_64 (by (try simp only [toN_eq, Int.toNat_natCast] at *); (try dsimp only [toN] at *); omega) ?_) | (with_reducible refine ob_k rfl ?_) | ((with_reducible refine ob_k ?_ ?_); focus kernel_rfl) | (refine yield_i hmix hT rfl hL efr eps eag ebd rfl (by kernel_rfl) ?_) | (apply call_u A) | (apply call_u W) | (apply call_l (first_ok (l := [_, _]) (Nat.le_of_ble_eq_true rfl)) (.cons (vm_lit _ rfl rfl (.cons (vm_int rfl) (.cons (vm_int rfl) .nil))) .nil)) | (apply call_l (first_ok (l := [_, _, _]) (Nat.le_of_ble_eq_true rfl)) (.cons (vm_lit _ rfl rfl (.cons (vm_int rfl) (.cons (vm_int rfl) (.cons (vm_int rfl) .nil)))) .nil)) | (apply call_l (first_ok (l := [_, _, _, _]) (Nat.le_of_ble_eq_true rfl)) (.cons (vm_lit _ rfl rfl (.cons (vm_int rfl) (.cons (vm_int rfl) (.cons (vm_int rfl) (.cons (vm_int rfl) .nil))))) .nil))) <;> (try (exfalso; omega; done)) <;> (with_reducible conv => whnf))
    exact ret0 vm_p
  have C := cmpDigits_ok (a := x.natAbs) (b := y.natAbs) (by omega) (by omega)
  by_cases c0 : x.natAbs = y.natAbs
  · have z0 : x + y = 0 := by omega
    rw [show sgn (x.natAbs : Int) y.natAbs = 0 by unfold sgn; rw [if_neg (by omega), if_neg (by omega)]] at C
    rw [z0]
    show FnOK Try.prog 82 [.agg [I x.sign, eInts (dg x.natAbs)], .agg [I y.sign, eInts (dg y.natAbs)]] (.agg [I 0, eInts (dg 0)]) []
    have C : FnOK Try.prog 94 [eInts (dg x.natAbs), eInts (dg y.natAbs)] (I 0) [] := C
    have z : (dg 0).length = 0 := by rw [dg_zero]; rfl
    generalize dg x.natAbs = lx at *
    generalize dg y.natAbs = ly at *
    generalize dg 0 = l0 at *
    generalize x.sign = p at *
    generalize y.sign = q at *
    refine fn_i hmix hT Try.f82 (by kernel_rfl) rfl (by kernel_rfl) ?_
    with_reducible conv => whnf
    repeat' ((first | (with_reducible refine branch_t ?_) | (with_reducible refine branch_f ?_) | (with_reducible refine branch_nt ?_) | (with_reducible refine branch_nf ?_) | (with_reducible refine branch_dec (fun _ => ?_) (fun _ => ?_)) | (with_reducible refine branch_ndec (fun _ => ?_) (fun _ => ?_)) | (with_reducible refine branch_bool (fun _ => ?_) (fun _ => ?_)) | (with_reducible refine arith_64 (by omega) ?_) | (with_reducible refine ob_i (by omega) (fun _ => ?_)) | (with_reducible refine ob_i (by unfold room; omega) (fun _ => ?_)) | (with_reducible refine ob_i (by (try simp only [] at *); (try dsimp only [toN] at *); omega) (fun _ => ?_)) | (with_reducible refine arith_64 (by (try simp only [] at *); (try dsimp only [toN] at *); omega) ?_) | (with_reducible refine ob_k rfl ?_) | ((with_reducible refine ob_k ?_ ?_); focus kernel_rfl) | (refine yield_i hmix hT rfl hL efr eps eag ebd rfl (by kernel_rfl) ?_) | (apply call_u C) | (apply call_l (first_ok (l := [_, _]) (Nat.le_of_ble_eq_true rfl)) (.cons (vm_lit _ rfl rfl (.cons (vm_int rfl) (.cons (vm_int rfl) .nil))) .nil)) | (apply call_l (first_ok (l := [_, _, _]) (Nat.le_of_ble_eq_true rfl)) (.cons (vm_lit _ rfl rfl (.cons (vm_int rfl) (.cons (vm_int rfl) (.cons (vm_int rfl) .nil)))) .nil)) | (apply call_l (first_ok (l := [_, _, _, _]) (Nat.le_of_ble_eq_true rfl)) (.cons (vm_lit _ rfl rfl (.cons (vm_int rfl) (.cons (vm_int rfl) (.cons (vm_int rfl) (.cons (vm_int rfl) .nil))))) .nil))) <;> (try (exfalso; omega; done)) <;> (with_reducible conv => whnf))
    exact ret0 (vm_agg (.cons vm_p (.cons (vm_nilsl z) .nil)))
  by_cases c1 : y.natAbs < x.natAbs
  · rw [show sgn (x.natAbs : Int) y.natAbs = 1 by unfold sgn; rw [if_neg (by omega), if_pos (by omega)]] at C
    have S := subDigits_ok dx dy (by omega) (dg_len_le (Nat.le_of_lt c1)) (by rw [vx, vy]; omega) (n := x.natAbs - y.natAbs) (by rw [vx, vy]; omega)
    have W := wideOf_ok (s := x.sign) (l := dg (x.natAbs - y.natAbs)) (z := x + y) (dg_in _) (by have := dg_len_le (a := x.natAbs) (b := x.natAbs - y.natAbs) (by omega); omega) (by rw [dg_val]; rcases sx with sx | sx | sx <;> rw [sx.2] <;> omega) (by omega)
    show FnOK Try.prog 82 [.agg [I x.sign, eInts (dg x.natAbs)], .agg [I y.sign, eInts (dg y.natAbs)]] (.agg [I (x + y).sign, eInts (dg (x + y).natAbs)]) []
    replace W : FnOK Try.prog 75 [_, _] (.agg [I (x + y).sign, eInts (dg (x + y).natAbs)]) [] := W
    generalize (x + y).sign = r1 at *
    generalize dg (x + y).natAbs = r2 at *
    have C : FnOK Try.prog 94 [eInts (dg x.natAbs), eInts (dg y.natAbs)] (I 1) [] := C
    have S : FnOK Try.prog 95 [eInts (dg x.natAbs), eInts (dg y.natAbs)] (eInts (dg (x.natAbs - y.natAbs))) [] := S
    generalize dg (x.natAbs - y.natAbs) = k at *
    generalize dg x.natAbs = lx at *
    generalize dg y.natAbs = ly at *
    generalize x.sign = p at *
    generalize y.sign = q at *
    refine fn_i hmix hT Try.f82 (by kernel_rfl) rfl (by kernel_rfl) ?_
    with_reducible conv => whnf
    repeat' ((first | (with_reducible refine branch_t ?_) | (with_reducible refine branch_f ?_) | (with_reducible refine branch_nt ?_) | (with_reducible refine branch_nf ?_) | (with_reducible refine branch_dec (fun _ => ?_) (fun _ => ?_)) | (with_reducible refine branch_ndec (fun _ => ?_) (fun _ => ?_)) | (with_reducible refine branch_bool (fun _ => ?_) (fun _ => ?_)) | (with_reducible refine arith_64 (by omega) ?_) | (with_reducible refine ob_i (by omega) (fun _ => ?_)) | (with_reducible refine ob_i (by unfold room; omega) (fun _ => ?_)) | (with_reducible refine ob_i (by (try simp only [] at *); (try dsimp only [toN] at *); omega) (fun _ => ?_)) | (with_reducible refine arith_64 (by (try simp only [toN_eq, Int.toNat_natCast] at *); (try dsimp only [toN] at *); omega) ?_) | (with_reducible refine ob_k rfl ?_) | ((with_reducible refine ob_k ?_ ?_); focus kernel_rfl) | (refine yield_i hmix hT rfl hL efr eps eag ebd rfl (by kernel_rfl) ?_) | (apply call_u C) | (apply call_u S) | (apply call_u W) | (apply call_l (first_ok (l := [_, _]) (Nat.le_of_ble_eq_true rfl)) (.cons (vm_lit _ rfl rfl (.cons (vm_int rfl) (.cons (vm_int rfl) .nil))) .nil)) | (apply call_l (first_ok (l := [_, _, _]) (Nat.le_of_ble_eq_true rfl)) (.cons (vm_lit _ rfl rfl (.cons (vm_int rfl) (.cons (vm_int rfl) (.cons (vm_int rfl) .nil)))) .nil)) | (apply call_l (first_ok (l := [_, _, _, _]) (Nat.le_of_ble_eq_true rfl)) (.cons (vm_lit _ rfl rfl (.cons (vm_int rfl) (.cons (vm_int rfl) (.cons (vm_int rfl) (.cons (vm_int rfl) .nil))))) .nil))) <;> (try (exfalso; omega; done)) <;> (with_reducible conv => whnf))
    exact ret0 vm_p
  · rw [show sgn (x.natAbs : Int) y.natAbs = -1 by unfold sgn; rw [if_pos (by omega)]] at C
    have S := subDigits_ok dy dx (by omega) (dg_len_le (a := y.natAbs) (b := x.natAbs) (by omega)) (by rw [vx, vy]; omega) (n := y.natAbs - x.natAbs) (by rw [vx, vy]; omega)
    have W := wideOf_ok (s := y.sign) (l := dg (y.natAbs - x.natAbs)) (z := x + y) (dg_in _) (by have := dg_len_le (a := y.natAbs) (b := y.natAbs - x.natAbs) (by omega); omega) (by rw [dg_val]; rcases sy with sy | sy | sy <;> rw [sy.2] <;> omega) (by omega)
    show FnOK Try.prog 82 [.agg [I x.sign, eInts (dg x.natAbs)], .agg [I y.sign, eInts (dg y.natAbs)]] (.agg [I (x + y).sign, eInts (dg (x + y).natAbs)]) []
    replace W : FnOK Try.prog 75 [_, _] (.agg [I (x + y).sign, eInts (dg (x + y).natAbs)]) [] := W
    generalize (x + y).sign = r1 at *
    generalize dg (x + y).natAbs = r2 at *
    have C : FnOK Try.prog 94 [eInts (dg x.natAbs), eInts (dg y.natAbs)] (I (-1)) [] := C
    have S : FnOK Try.prog 95 [eInts (dg y.natAbs), eInts (dg x.natAbs)] (eInts (dg (y.natAbs - x.natAbs))) [] := S
    generalize dg (y.natAbs - x.natAbs) = k at *
    generalize dg x.natAbs = lx at *
    generalize dg y.natAbs = ly at *
    generalize x.sign = p at *
    generalize y.sign = q at *
    refine fn_i hmix hT Try.f82 (by kernel_rfl) rfl (by kernel_rfl) ?_
    with_reducible conv => whnf
    repeat' ((first | (with_reducible refine branch_t ?_) | (with_reducible refine branch_f ?_) | (with_reducible refine branch_nt ?_) | (with_reducible refine branch_nf ?_) | (with_reducible refine branch_dec (fun _ => ?_) (fun _ => ?_)) | (with_reducible refine branch_ndec (fun _ => ?_) (fun _ => ?_)) | (with_reducible refine branch_bool (fun _ => ?_) (fun _ => ?_)) | (with_reducible refine arith_64 (by omega) ?_) | (with_reducible refine ob_i (by omega) (fun _ => ?_)) | (with_reducible refine ob_i (by unfold room; omega) (fun _ => ?_)) | (with_reducible refine ob_i (by (try simp only [] at *); (try dsimp only [toN] at *); omega) (fun _ => ?_)) | (with_reducible refine arith_64 (by (try simp only [toN_eq, Int.toNat_natCast] at *); (try dsimp only [toN] at *); omega) ?_) | (with_reducible refine ob_k rfl ?_) | ((with_reducible refine ob_k ?_ ?_); focus kernel_rfl) | (refine yield_i hmix hT rfl hL efr eps eag ebd rfl (by kernel_rfl) ?_) | (apply call_u C) | (apply call_u S) | (apply call_u W) | (apply call_l (first_ok (l := [_, _]) (Nat.le_of_ble_eq_true rfl)) (.cons (vm_lit _ rfl rfl (.cons (vm_int rfl) (.cons (vm_int rfl) .nil))) .nil)) | (apply call_l (first_ok (l := [_, _, _]) (Nat.le_of_ble_eq_true rfl)) (.cons (vm_lit _ rfl rfl (.cons (vm_int rfl) (.cons (vm_int rfl) (.cons (vm_int rfl) .nil)))) .nil)) | (apply call_l (first_ok (l := [_, _, _, _]) (Nat.le_of_ble_eq_true rfl)) (.cons (vm_lit _ rfl rfl (.cons (vm_int rfl) (.cons (vm_int rfl) (.cons (vm_int rfl) (.cons (vm_int rfl) .nil))))) .nil))) <;> (try (exfalso; omega; done)) <;> (with_reducible conv => whnf))
    exact ret0 vm_p
theorem wideSub_ok {x y : Int} (lx : (dg x.natAbs).length ≤ 800) (ly : (dg y.natAbs).length ≤ 800) : FnOK Try.prog 74 [eW x, eW y] (eW (x - y)) [] := by
  have N := wideNeg_ok (x := y)
  have A := wideAdd_ok (x := x) (y := -y) lx (by rw [Int.natAbs_neg]; exact ly)
  rw [show x + -y = x - y by omega] at A
  refine fn_i hmix hT Try.f74 (by kernel_rfl) rfl (by kernel_rfl) ?_
  with_reducible conv => whnf
  repeat' ((first | (with_reducible refine branch_t ?_) | (with_reducible refine branch_f ?_) | (with_reducible refine branch_nt ?_) | (with_reducible refine branch_nf ?_) | (with_reducible refine branch_dec (fun _ => ?_) (fun _ => ?_)) | (with_reducible refine branch_ndec (fun _ => ?_) (fun _ => ?_)) | (with_reducible refine branch_bool (fun _ => ?_) (fun _ => ?_)) | (with_reducible refine arith_64 (by omega) ?_) | (with_reducible refine ob_i (by omega) (fun _ => ?_)) | (with_reducible refine ob_i (by unfold room; omega) (fun _ => ?_)) | (with_reducible refine ob_i (by (try simp only [] at *); (try dsimp only [toN] at *); omega) (fun _ => ?_)) | (with_reducible refine arith_64 (by (try simp only [toN_eq, Int.toNat_natCast] at *); (try dsimp only [toN] at *); omega) ?_) | (with_reducible refine ob_k rfl ?_) | ((with_reducible refine ob_k ?_ ?_); focus kernel_rfl) | (refine yield_i hmix hT rfl hL efr eps eag ebd rfl (by kernel_rfl) ?_) | (apply call_u N) | (apply call_u A) | (apply call_l (first_ok (l := [_, _]) (Nat.le_of_ble_eq_true rfl)) (.cons (vm_lit _ rfl rfl (.cons (vm_int rfl) (.cons (vm_int rfl) .nil))) .nil)) | (apply call_l (first_ok (l := [_, _, _]) (Nat.le_of_ble_eq_true rfl)) (.cons (vm_lit _ rfl rfl (.cons (vm_int rfl) (.cons (vm_int rfl) (.cons (vm_int rfl) .nil)))) .nil)) | (apply call_l (first_ok (l := [_, _, _, _]) (Nat.le_of_ble_eq_true rfl)) (.cons (vm_lit _ rfl rfl (.cons (vm_int rfl) (.cons (vm_int rfl) (.cons (vm_int rfl) (.cons (vm_int rfl) .nil))))) .nil))) <;> (try (exfalso; omega; done)) <;> (with_reducible conv => whnf))
  exact ret0 vm_p
theorem wideCmp_ok {x y : Int} (lx : (dg x.natAbs).length ≤ 800) (ly : (dg y.natAbs).length ≤ 800) : FnOK Try.prog 43 [eW x, eW y] (I (x - y).sign) [] := by
  have S := wideSub_ok lx ly
  refine fn_i hmix hT Try.f43 (by kernel_rfl) rfl (by kernel_rfl) ?_
  with_reducible conv => whnf
  repeat' ((first | (with_reducible refine branch_t ?_) | (with_reducible refine branch_f ?_) | (with_reducible refine branch_nt ?_) | (with_reducible refine branch_nf ?_) | (with_reducible refine branch_dec (fun _ => ?_) (fun _ => ?_)) | (with_reducible refine branch_ndec (fun _ => ?_) (fun _ => ?_)) | (with_reducible refine branch_bool (fun _ => ?_) (fun _ => ?_)) | (with_reducible refine arith_64 (by omega) ?_) | (with_reducible refine ob_i (by omega) (fun _ => ?_)) | (with_reducible refine ob_i (by unfold room; omega) (fun _ => ?_)) | (with_reducible refine ob_i (by (try simp only [toN_eq, Int.toNat_natCast] at *); (try dsimp only [toN] at *); omega) (fun _ => ?_)) | (with_reducible refine arith_64 (by (try simp only [toN_eq, Int.toNat_natCast] at *); (try dsimp only [toN] at *); omega) ?_) | (with_reducible refine ob_k rfl ?_) | ((with_reducible refine ob_k ?_ ?_); focus kernel_rfl) | (refine yield_i hmix hT rfl hL efr eps eag ebd rfl (by kernel_rfl) ?_) | (apply call_u S) | (apply call_l (first_ok (l := [_, _]) (Nat.le_of_ble_eq_true rfl)) (.cons (vm_lit _ rfl rfl (.cons (vm_int rfl) (.cons (vm_int rfl) .nil))) .nil)) | (apply call_l (first_ok (l := [_, _, _]) (Nat.le_of_ble_eq_true rfl)) (.cons (vm_lit _ rfl rfl (.cons (vm_int rfl) (.cons (vm_int rfl) (.cons (vm_int rfl) .nil)))) .nil)) | (apply call_l (first_ok (l := [_, _, _, _]) (Nat.le_of_ble_eq_true rfl)) (.cons (vm_lit _ rfl rfl (.cons (vm_int rfl) (.cons (vm_int rfl) (.cons (vm_int rfl) (.cons (vm_int rfl) .nil))))) .nil))) <;> (try (exfalso; omega; done)) <;> (with_reducible conv => whnf))
  exact ret0 vm_p
/-! ### Products -/
theorem row_set {S : Vw} {O : List Int} {p q : Nat} {x y : Int} {n : Nat} {ty : TypeId} (hp : p = q) (hq : q < O.length) (hx : x = y) : sbm S (.row 1 n (setF (fun j => I (O.getD j 0)) p (I x)) ty) (.row 1 n (fun j => I ((O.set q y).getD j 0)) ty) := by
  subst hp hx
  refine sbm_row rfl fun j _ => ?_
  by_cases c : j = p
  · subst c
    rw [setF_at, getD_set_at hq]
    exact vm_p
  · rw [setF_ne c, getD_set_no c]
    exact vm_p
theorem sign_mul_abs (x : Int) : x.sign * x.natAbs = x := Int.sign_mul_natAbs x
set_option maxHeartbeats 4000000 in
set_option maxRecDepth 100000 in
theorem wideMul_ok {x y : Int} (lx : (dg x.natAbs).length ≤ 400) (ly : (dg y.natAbs).length ≤ 400) : FnOK Try.prog 44 [eW x, eW y] (eW (x * y)) [] := by
  have sx := sign_cases x
  have sy := sign_cases y
  have da := dg_in x.natAbs
  have db := dg_in y.natAbs
  have va := dg_val x.natAbs
  have vb := dg_val y.natAbs
  have ss : x.sign * y.sign = 1 ∨ x.sign * y.sign = -1 ∨ (x.sign * y.sign = 0 ∧ (x.natAbs : Int) * y.natAbs = 0) := by
    rcases sx with ⟨h1, h2⟩ | ⟨h1, h2⟩ | ⟨h1, h2⟩ <;> rcases sy with ⟨k1, k2⟩ | ⟨k1, k2⟩ | ⟨k1, k2⟩ <;> rw [h2, k2] <;> simp [h1, k1]
  have zz : x * y = x.sign * y.sign * ((x.natAbs : Int) * y.natAbs) := by
    conv => lhs; rw [← sign_mul_abs x, ← sign_mul_abs y]
    rw [Int.mul_assoc, Int.mul_assoc, Int.mul_left_comm (x.natAbs : Int)]
  rw [← va, ← vb] at ss zz
  have W : ∀ O, MulI (dg x.natAbs) (dg y.natAbs) O (dg x.natAbs).length 0 0 → FnOK Try.prog 75 [I (x.sign * y.sign), eInts O] (eW (x * y)) [] := fun O h => wideOf_ok (s := x.sign * y.sign) (l := O) (z := x * y) h.d (by have := h.n; omega) (by rw [h.val]; exact zz) (by rw [h.val]; exact ss)
  clear sx sy va vb zz
  show FnOK Try.prog 44 [.agg [I x.sign, eInts (dg x.natAbs)], .agg [I y.sign, eInts (dg y.natAbs)]] (.agg [I (x * y).sign, eInts (dg (x * y).natAbs)]) []
  replace W : ∀ O, MulI (dg x.natAbs) (dg y.natAbs) O (dg x.natAbs).length 0 0 → FnOK Try.prog 75 [I (x.sign * y.sign), eInts O] (.agg [I (x * y).sign, eInts (dg (x * y).natAbs)]) [] := W
  generalize (x * y).sign = r1 at *
  generalize dg (x * y).natAbs = r2 at *
  generalize dg x.natAbs = a at *
  generalize dg y.natAbs = b at *
  generalize x.sign = p at *
  generalize y.sign = q at *
  refine fn_i hmix hT Try.f44 (by kernel_rfl) rfl (by kernel_rfl) ?_
  with_reducible conv => whnf
  repeat' ((first | (with_reducible refine branch_t ?_) | (with_reducible refine branch_f ?_) | (with_reducible refine branch_nt ?_) | (with_reducible refine branch_nf ?_) | (with_reducible refine branch_dec (fun _ => ?_) (fun _ => ?_)) | (with_reducible refine branch_ndec (fun _ => ?_) (fun _ => ?_)) | (with_reducible refine branch_bool (fun _ => ?_) (fun _ => ?_)) | (with_reducible refine arith_64 (by omega) ?_) | (with_reducible refine ob_i (by omega) (fun _ => ?_)) | (with_reducible refine ob_i (by unfold room; omega) (fun _ => ?_)) | (with_reducible refine ob_i (by (try simp only [toN_eq, Int.toNat_natCast] at *); (try dsimp only [toN] at *); omega) (fun _ => ?_)) | (with_reducible refine arith_64 (by (try simp only [toN_eq, Int.toNat_natCast] at *); (try dsimp only [toN] at *); omega) ?_) | (with_reducible refine ob_k rfl ?_) | ((with_reducible refine ob_k ?_ ?_); focus kernel_rfl) | (refine yield_i hmix hT rfl hL efr eps eag ebd rfl (by kernel_rfl) ?_)  | (apply call_l (first_ok (l := [_, _]) (Nat.le_of_ble_eq_true rfl)) (.cons (vm_lit _ rfl rfl (.cons (vm_int rfl) (.cons (vm_int rfl) .nil))) .nil)) | (apply call_l (first_ok (l := [_, _, _]) (Nat.le_of_ble_eq_true rfl)) (.cons (vm_lit _ rfl rfl (.cons (vm_int rfl) (.cons (vm_int rfl) (.cons (vm_int rfl) .nil)))) .nil)) | (apply call_l (first_ok (l := [_, _, _, _]) (Nat.le_of_ble_eq_true rfl)) (.cons (vm_lit _ rfl rfl (.cons (vm_int rfl) (.cons (vm_int rfl) (.cons (vm_int rfl) (.cons (vm_int rfl) .nil))))) .nil))) <;> (try (exfalso; omega; done)) <;> (with_reducible conv => whnf))
  refine loop_i hmix hT (fun (z : Nat × List Int) => match z with | (i, O) => ([(2, .ptr 0 0), (3, .ptr 1 0), (4, .ptr 2 0), (5, .own 3 1 0 (a.length + b.length + 1)), (6, I i)], ⟨4, [(3, .row 1 (a.length + b.length + 1) (fun j => I (O.getD j 0)) 3), (2, .cells [I 0, .sc (.slice none 0 0)] 46), (1, .cells [I q, eInts b] 46), (0, .cells [I p, eInts a] 46)]⟩)) (fun z => z.1 ≤ a.length ∧ MulI a b z.2 z.1 0 0) (fun z => a.length - z.1) ((0 : Nat), List.replicate (a.length + b.length + 1) 0) ⟨by dsimp only; omega, MulI.start (by simp) fun j => by dsimp only; rw [List.getD_eq_getElem?_getD, List.getElem?_replicate]; split <;> rfl⟩ ?_ ?_
  · refine ⟨[], rfl, ⟨⟨_, rfl, vm_ptr rfl rfl rfl⟩, ⟨_, rfl, vm_ptr rfl rfl rfl⟩, ⟨_, rfl, vm_ptr rfl rfl rfl⟩, ⟨_, rfl, vm_own rfl rfl rfl (by rw [toN_eq]; omega)⟩, ⟨_, rfl, vm_int rfl⟩, trivial⟩, ⟨⟨_, rfl, sbm_row (by rw [toN_eq]; omega) fun j hj => ?_⟩, ⟨_, rfl, sbm_cells vmL_p⟩, ⟨_, rfl, sbm_cells vmL_p⟩, ⟨_, rfl, sbm_cells vmL_p⟩, trivial⟩⟩
    rw [show (List.replicate (a.length + b.length + 1) (0 : Int)).getD j 0 = 0 by rw [List.getD_eq_getElem?_getD, List.getElem?_replicate]; split <;> rfl]
    exact vm_p
  rintro ⟨i, O⟩ ⟨hi, hI⟩
  dsimp only at hi hI
  have hn := hI.n
  by_cases c : i < a.length
  · have ti : toN (i : Int) = i := toN_nat i
    clear W ss
    with_reducible conv => whnf
    repeat' ((first | (with_reducible refine branch_t ?_) | (with_reducible refine branch_f ?_) | (with_reducible refine branch_nt ?_) | (with_reducible refine branch_nf ?_) | (with_reducible refine branch_dec (fun _ => ?_) (fun _ => ?_)) | (with_reducible refine branch_ndec (fun _ => ?_) (fun _ => ?_)) | (with_reducible refine branch_bool (fun _ => ?_) (fun _ => ?_)) | (with_reducible refine arith_64 (by omega) ?_) | (with_reducible refine ob_i (by omega) (fun _ => ?_)) | (with_reducible refine ob_i (by unfold room; omega) (fun _ => ?_)) | (with_reducible refine ob_i (by (try simp only [] at *); (try dsimp only [toN] at *); omega) (fun _ => ?_)) | (with_reducible refine arith_64 (by (try simp only [] at *); (try dsimp only [toN] at *); omega) ?_) | (with_reducible refine ob_k rfl ?_) | ((with_reducible refine ob_k ?_ ?_); focus kernel_rfl) | (refine yield_i hmix hT rfl hL efr eps eag ebd rfl (by kernel_rfl) ?_)  | (apply call_l (first_ok (l := [_, _]) (Nat.le_of_ble_eq_true rfl)) (.cons (vm_lit _ rfl rfl (.cons (vm_int rfl) (.cons (vm_int rfl) .nil))) .nil)) | (apply call_l (first_ok (l := [_, _, _]) (Nat.le_of_ble_eq_true rfl)) (.cons (vm_lit _ rfl rfl (.cons (vm_int rfl) (.cons (vm_int rfl) (.cons (vm_int rfl) .nil)))) .nil)) | (apply call_l (first_ok (l := [_, _, _, _]) (Nat.le_of_ble_eq_true rfl)) (.cons (vm_lit _ rfl rfl (.cons (vm_int rfl) (.cons (vm_int rfl) (.cons (vm_int rfl) (.cons (vm_int rfl) .nil))))) .nil))) <;> (try (exfalso; omega; done)) <;> (with_reducible conv => whnf))
    refine loop_i hmix hT (fun (z : Nat × List Int × Int) => match z with | (k, O, c) => ([(2, .ptr 0 0), (3, .ptr 1 0), (4, .ptr 2 0), (5, .own 3 1 0 (a.length + b.length + 1)), (6, I i), (7, I c), (8, I k)], ⟨4, [(3, .row 1 (a.length + b.length + 1) (fun j => I (O.getD j 0)) 3), (2, .cells [I 0, .sc (.slice none 0 0)] 46), (1, .cells [I q, eInts b] 46), (0, .cells [I p, eInts a] 46)]⟩)) (fun z => z.1 ≤ b.length ∧ MulI a b z.2.1 i z.1 z.2.2) (fun z => b.length - z.1) ((0 : Nat), O, (0 : Int)) ⟨by dsimp only; omega, by dsimp only; exact ⟨hI.n, hI.d, hI.z, hI.q, by have := hI.v; simpa [wv] using this⟩⟩ ?_ ?_
    · refine ⟨[], rfl, ?_, ?_⟩ <;> repeat' (first | exact trivial | exact vm_p | exact vm_ptr rfl rfl rfl | exact vm_yld rfl rfl | exact vm_own rfl rfl rfl rfl | exact vm_own rfl rfl (by omega) (by omega) | exact vm_int (by omega) | exact vm_nil rfl | exact sbm_cells vmL_p | exact sbm_row rfl (fun _ _ => vm_p) | refine ⟨⟨_, rfl, ?_⟩, ?_⟩ | refine ⟨⟨_, _, _, rfl⟩, ?_⟩ | (refine sbm_loop ?_; rw [efr]) | refine sbm_cells ?_ | refine vmL.cons ?_ ?_ | exact vmL.nil | refine vm_own rfl rfl rfl ?_)
    clear hI hn
    rintro ⟨k, O, e⟩ ⟨hk, hI⟩
    dsimp only at hk hI
    have hn := hI.n
    have hq := hI.q
    by_cases c2 : k < b.length
    · have tk : toN (k : Int) = k := toN_nat k
      have tik : 0 + toN ((i : Int) + (k : Int)) = i + k := by rw [toN_eq]; omega
      have x1 := da.at i
      have x2 := db.at k
      have x3 := hI.d.at (i + k)
      have x4 := Wd.prod_bd x1 x2
      have st := hI.step da db c c2 rfl
      have tm : (O.getD (i + k) 0 + a.getD i 0 * b.getD k 0 + e).tmod 1000000000 = (O.getD (i + k) 0 + a.getD i 0 * b.getD k 0 + e) % 1000000000 := Int.tmod_eq_emod_of_nonneg (by omega)
      have td : (O.getD (i + k) 0 + a.getD i 0 * b.getD k 0 + e).tdiv 1000000000 = (O.getD (i + k) 0 + a.getD i 0 * b.getD k 0 + e) / 1000000000 := Int.tdiv_eq_ediv_of_nonneg (by omega)
      have tq : 0 ≤ (O.getD (i + k) 0 + a.getD i 0 * b.getD k 0 + e).tdiv 1000000000 ∧ (O.getD (i + k) 0 + a.getD i 0 * b.getD k 0 + e).tdiv 1000000000 ≤ 1000000000 := by rw [td]; omega
      rw [← tm, ← td] at st
      clear tm td
      have ea : a.getD i 0 = a.getD (toN (i : Int)) 0 := by rw [ti]
      have eb : b.getD k 0 = b.getD (toN (k : Int)) 0 := by rw [tk]
      rw [ea] at x1 x4 st tq
      rw [eb] at x2 x4 st tq
      have eo : O.getD (i + k) 0 = O.getD (0 + toN ((i : Int) + (k : Int))) 0 := by rw [tik]
      rw [eo] at x3 st tq
      clear ea eb eo
      with_reducible conv => whnf
      repeat' ((first | (with_reducible refine branch_t ?_) | (with_reducible refine branch_f ?_) | (with_reducible refine branch_nt ?_) | (with_reducible refine branch_nf ?_) | (with_reducible refine branch_dec (fun _ => ?_) (fun _ => ?_)) | (with_reducible refine branch_ndec (fun _ => ?_) (fun _ => ?_)) | (with_reducible refine branch_bool (fun _ => ?_) (fun _ => ?_)) | (with_reducible refine arith_64 (by omega) ?_) | (with_reducible refine ob_i (by omega) (fun _ => ?_)) | (with_reducible refine ob_i (by unfold room; omega) (fun _ => ?_)) | (with_reducible refine ob_i (by (try simp only [toN_eq] at *); (try dsimp only [toN] at *); omega) (fun _ => ?_)) | (with_reducible refine arith_64 (by (try simp only [toN_eq] at *); (try dsimp only [toN] at *); omega) ?_) | (with_reducible refine ob_k rfl ?_) | ((with_reducible refine ob_k ?_ ?_); focus kernel_rfl) | (refine yield_i hmix hT rfl hL efr eps eag ebd rfl (by kernel_rfl) ?_)  | (apply call_l (first_ok (l := [_, _]) (Nat.le_of_ble_eq_true rfl)) (.cons (vm_lit _ rfl rfl (.cons (vm_int rfl) (.cons (vm_int rfl) .nil))) .nil)) | (apply call_l (first_ok (l := [_, _, _]) (Nat.le_of_ble_eq_true rfl)) (.cons (vm_lit _ rfl rfl (.cons (vm_int rfl) (.cons (vm_int rfl) (.cons (vm_int rfl) .nil)))) .nil)) | (apply call_l (first_ok (l := [_, _, _, _]) (Nat.le_of_ble_eq_true rfl)) (.cons (vm_lit _ rfl rfl (.cons (vm_int rfl) (.cons (vm_int rfl) (.cons (vm_int rfl) (.cons (vm_int rfl) .nil))))) .nil))) <;> (try (exfalso; omega; done)) <;> (with_reducible conv => whnf))
      refine ⟨(k + 1, _, _), ⟨by dsimp only; omega, st⟩, by dsimp only; omega, ?_⟩
      refine ⟨[], rfl, ⟨⟨_, rfl, vm_ptr rfl rfl rfl⟩, ⟨_, rfl, vm_ptr rfl rfl rfl⟩, ⟨_, rfl, vm_ptr rfl rfl rfl⟩, ⟨_, rfl, vm_own rfl rfl rfl rfl⟩, ⟨_, rfl, vm_p⟩, ⟨_, rfl, vm_p⟩, ⟨_, rfl, vm_int (by omega)⟩, trivial⟩, ⟨⟨_, rfl, row_set tik (by omega) rfl⟩, ⟨_, rfl, sbm_cells vmL_p⟩, ⟨_, rfl, sbm_cells vmL_p⟩, ⟨_, rfl, sbm_cells vmL_p⟩, trivial⟩⟩
    · have ek : k = b.length := by omega
      subst ek
      have tik : 0 + toN ((i : Int) + (b.length : Int)) = i + b.length := by rw [toN_eq]; omega
      have st := hI.row c
      have z := hI.z (i + b.length) (Nat.le_refl _)
      rw [← tik] at z
      rw [show O.getD (i + b.length) 0 = O.getD (0 + toN ((i : Int) + (b.length : Int))) 0 by rw [tik]] at st
      with_reducible conv => whnf
      repeat' ((first | (with_reducible refine branch_t ?_) | (with_reducible refine branch_f ?_) | (with_reducible refine branch_nt ?_) | (with_reducible refine branch_nf ?_) | (with_reducible refine branch_dec (fun _ => ?_) (fun _ => ?_)) | (with_reducible refine branch_ndec (fun _ => ?_) (fun _ => ?_)) | (with_reducible refine branch_bool (fun _ => ?_) (fun _ => ?_)) | (with_reducible refine arith_64 (by omega) ?_) | (with_reducible refine ob_i (by omega) (fun _ => ?_)) | (with_reducible refine ob_i (by unfold room; omega) (fun _ => ?_)) | (with_reducible refine ob_i (by (try simp only [toN_eq] at *); (try dsimp only [toN] at *); omega) (fun _ => ?_)) | (with_reducible refine arith_64 (by (try simp only [toN_eq] at *); (try dsimp only [toN] at *); omega) ?_) | (with_reducible refine ob_k rfl ?_) | ((with_reducible refine ob_k ?_ ?_); focus kernel_rfl) | (refine yield_i hmix hT rfl hL efr eps eag ebd rfl (by kernel_rfl) ?_)  | (apply call_l (first_ok (l := [_, _]) (Nat.le_of_ble_eq_true rfl)) (.cons (vm_lit _ rfl rfl (.cons (vm_int rfl) (.cons (vm_int rfl) .nil))) .nil)) | (apply call_l (first_ok (l := [_, _, _]) (Nat.le_of_ble_eq_true rfl)) (.cons (vm_lit _ rfl rfl (.cons (vm_int rfl) (.cons (vm_int rfl) (.cons (vm_int rfl) .nil)))) .nil)) | (apply call_l (first_ok (l := [_, _, _, _]) (Nat.le_of_ble_eq_true rfl)) (.cons (vm_lit _ rfl rfl (.cons (vm_int rfl) (.cons (vm_int rfl) (.cons (vm_int rfl) (.cons (vm_int rfl) .nil))))) .nil))) <;> (try (exfalso; omega; done)) <;> (with_reducible conv => whnf))
      refine ⟨(i + 1, _), ⟨by dsimp only; omega, st⟩, by dsimp only; omega, ?_⟩
      refine ⟨[], rfl, ⟨⟨_, rfl, vm_ptr rfl rfl rfl⟩, ⟨_, rfl, vm_ptr rfl rfl rfl⟩, ⟨_, rfl, vm_ptr rfl rfl rfl⟩, ⟨_, rfl, vm_own rfl rfl rfl rfl⟩, ⟨_, rfl, vm_int (by omega)⟩, trivial⟩, ⟨⟨_, rfl, row_set tik (by omega) rfl⟩, ⟨_, rfl, sbm_cells vmL_p⟩, ⟨_, rfl, sbm_cells vmL_p⟩, ⟨_, rfl, sbm_cells vmL_p⟩, trivial⟩⟩
  · obtain rfl : i = a.length := by omega
    have W := W O hI
    have b1 : -1 ≤ p * q ∧ p * q ≤ 1 := by omega
    with_reducible conv => whnf
    repeat' ((first | (with_reducible refine branch_t ?_) | (with_reducible refine branch_f ?_) | (with_reducible refine branch_nt ?_) | (with_reducible refine branch_nf ?_) | (with_reducible refine branch_dec (fun _ => ?_) (fun _ => ?_)) | (with_reducible refine branch_ndec (fun _ => ?_) (fun _ => ?_)) | (with_reducible refine branch_bool (fun _ => ?_) (fun _ => ?_)) | (with_reducible refine arith_64 (by omega) ?_) | (with_reducible refine ob_i (by omega) (fun _ => ?_)) | (with_reducible refine ob_i (by unfold room; omega) (fun _ => ?_)) | (with_reducible refine ob_i (by (try simp only [toN_eq, Int.toNat_natCast] at *); (try dsimp only [toN] at *); omega) (fun _ => ?_)) | (with_reducible refine arith_64 (by (try simp only [toN_eq, Int.toNat_natCast] at *); (try dsimp only [toN] at *); omega) ?_) | (with_reducible refine ob_k rfl ?_) | ((with_reducible refine ob_k ?_ ?_); focus kernel_rfl) | (refine yield_i hmix hT rfl hL efr eps eag ebd rfl (by kernel_rfl) ?_) | (refine call_z 3 W rfl rfl (.cons vm_p (.cons (vm_fr rfl rfl hn.symm (Nat.le_refl _) fun _ _ => vm_p) .nil)) (pureS_no _) (rv_pure IsPure.h) ?_) | (apply call_l (first_ok (l := [_, _]) (Nat.le_of_ble_eq_true rfl)) (.cons (vm_lit _ rfl rfl (.cons (vm_int rfl) (.cons (vm_int rfl) .nil))) .nil)) | (apply call_l (first_ok (l := [_, _, _]) (Nat.le_of_ble_eq_true rfl)) (.cons (vm_lit _ rfl rfl (.cons (vm_int rfl) (.cons (vm_int rfl) (.cons (vm_int rfl) .nil)))) .nil)) | (apply call_l (first_ok (l := [_, _, _, _]) (Nat.le_of_ble_eq_true rfl)) (.cons (vm_lit _ rfl rfl (.cons (vm_int rfl) (.cons (vm_int rfl) (.cons (vm_int rfl) (.cons (vm_int rfl) .nil))))) .nil))) <;> (try (exfalso; omega; done)) <;> (with_reducible conv => whnf))
    exact ret0 vm_p
end Go.Proofs.Ytdfcedndkplabaa
