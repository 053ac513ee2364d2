/-
  Chapter 5: the law RayLegs (by contract).
  Conditions: none.
-/
import Derived.Test.Ytdfcedndkplabaa5Wh
namespace Go.Proofs.Ytdfcedndkplabaa
open Go.RowKit Fx Wd
set_option maxHeartbeats 16000000 in
set_option maxRecDepth 100000 in
theorem rayLegs_ok {s : Sky} {f : Int} {l : Int × Int} (hs : s.sl.length ≤ 9223372036854775807) (h1 : -9223372036854775808 ≤ l.1 ∧ l.1 ≤ 9223372036854775807) (h2 : -9223372036854775808 ≤ l.2 ∧ l.2 ≤ 9223372036854775807) : FnOK Try.prog 4 [eSky s, I f, eFrac l] (B true) [] := by
  by_cases hf : s.sl.length ≤ 14
  case neg =>
    refine fn_i hmix hT Try.f4 (by kernel_rfl) rfl (by kernel_rfl) ?_
    with_reducible conv => whnf
    repeat' ((first | (with_reducible refine branch_t ?_) | (with_reducible refine branch_f ?_) | (with_reducible refine branch_nt ?_) | (with_reducible refine branch_nf ?_) | (with_reducible refine branch_dec (fun _ => ?_) (fun _ => ?_)) | (with_reducible refine branch_ndec (fun _ => ?_) (fun _ => ?_)) | (with_reducible refine branch_bool (fun _ => ?_) (fun _ => ?_)) | (with_reducible refine arith_64 (by omega) ?_) | (with_reducible refine ob_i (by omega) (fun _ => ?_)) | (with_reducible refine ob_i (by unfold room; omega) (fun _ => ?_)) | (with_reducible refine ob_i (by (try simp only [toN_eq, Int.toNat_natCast] at *); (try dsimp only [toN] at *); omega) (fun _ => ?_)) | (with_reducible refine arith_64 (by (try simp only [toN_eq, Int.toNat_natCast] at *); (try dsimp only [toN] at *); omega) ?_) | (with_reducible refine ob_k rfl ?_) | ((with_reducible refine ob_k ?_ ?_); focus kernel_rfl) | (refine yield_i hmix hT rfl hL efr eps eag ebd rfl (by kernel_rfl) ?_) | (apply call_u awake_fn) | (apply call_u few_ok) | (apply call_l (first_ok (l := [_, _]) (Nat.le_of_ble_eq_true rfl)) (.cons (vm_lit _ rfl rfl (.cons (vm_int rfl) (.cons (vm_int rfl) .nil))) .nil)) | (apply call_l (first_ok (l := [_, _, _]) (Nat.le_of_ble_eq_true rfl)) (.cons (vm_lit _ rfl rfl (.cons (vm_int rfl) (.cons (vm_int rfl) (.cons (vm_int rfl) .nil)))) .nil)) | (apply call_l (first_ok (l := [_, _, _, _]) (Nat.le_of_ble_eq_true rfl)) (.cons (vm_lit _ rfl rfl (.cons (vm_int rfl) (.cons (vm_int rfl) (.cons (vm_int rfl) (.cons (vm_int rfl) .nil))))) .nil))) <;> (try (exfalso; omega; done)) <;> (with_reducible conv => whnf))
    exact ret0 vm_p
  have RE := refRayErr_ok (f := f) hs h1 h2
  by_cases h : rayE s f l.1 l.2 = 0
  case neg =>
    refine fn_i hmix hT Try.f4 (by kernel_rfl) rfl (by kernel_rfl) ?_
    with_reducible conv => whnf
    repeat' ((first | (with_reducible refine branch_t ?_) | (with_reducible refine branch_f ?_) | (with_reducible refine branch_nt ?_) | (with_reducible refine branch_nf ?_) | (with_reducible refine branch_dec (fun _ => ?_) (fun _ => ?_)) | (with_reducible refine branch_ndec (fun _ => ?_) (fun _ => ?_)) | (with_reducible refine branch_bool (fun _ => ?_) (fun _ => ?_)) | (with_reducible refine arith_64 (by omega) ?_) | (with_reducible refine ob_i (by omega) (fun _ => ?_)) | (with_reducible refine ob_i (by unfold room; omega) (fun _ => ?_)) | (with_reducible refine ob_i (by (try simp only [toN_eq, Int.toNat_natCast] at *); (try dsimp only [toN] at *); omega) (fun _ => ?_)) | (with_reducible refine arith_64 (by (try simp only [toN_eq, Int.toNat_natCast] at *); (try dsimp only [toN] at *); omega) ?_) | (with_reducible refine ob_k rfl ?_) | ((with_reducible refine ob_k ?_ ?_); focus kernel_rfl) | (refine yield_i hmix hT rfl hL efr eps eag ebd rfl (by kernel_rfl) ?_) | (apply call_u awake_fn) | (apply call_u few_ok) | (apply call_u RE) | (apply call_l (first_ok (l := [_, _]) (Nat.le_of_ble_eq_true rfl)) (.cons (vm_lit _ rfl rfl (.cons (vm_int rfl) (.cons (vm_int rfl) .nil))) .nil)) | (apply call_l (first_ok (l := [_, _, _]) (Nat.le_of_ble_eq_true rfl)) (.cons (vm_lit _ rfl rfl (.cons (vm_int rfl) (.cons (vm_int rfl) (.cons (vm_int rfl) .nil)))) .nil)) | (apply call_l (first_ok (l := [_, _, _, _]) (Nat.le_of_ble_eq_true rfl)) (.cons (vm_lit _ rfl rfl (.cons (vm_int rfl) (.cons (vm_int rfl) (.cons (vm_int rfl) (.cons (vm_int rfl) .nil))))) .nil))) <;> (try (exfalso; omega; done)) <;> (with_reducible conv => whnf))
    all_goals exact ret0 vm_p
  rw [h] at RE
  obtain ⟨v, fv, lv⟩ := rayE_zero h
  have sv := shotV fv lv
  have al := apexL_le (F := f * f) (n := l.1) (d := l.2) s.sl
  have sl := sinL_len s (f * f) l.1 l.2
  have ll := legL_len s (f * f) l.1 l.2
  have n1 := v.n1
  have A := sinesOf_good h
  have C := legsOf_good h
  have CS := copySky_ok (s := s) (by omega)
  have WH := whole_ok (n := 1)
  have R1 := ratioInt_ok (n := 1) (by omega)
  have LG := fun i hi => leg_at (i := i) v fv lv hi
  have LB := fun i hi => legAt_bd (k := i) v.fine sv hi
  have UB := fun i hi => upTo_bd v.fine sv i hi
  refine fn_i hmix hT Try.f4 (by kernel_rfl) rfl (by kernel_rfl) ?_
  with_reducible conv => whnf
  repeat' ((first | (with_reducible refine branch_t ?_) | (with_reducible refine branch_f ?_) | (with_reducible refine branch_nt ?_) | (with_reducible refine branch_nf ?_) | (with_reducible refine branch_dec (fun _ => ?_) (fun _ => ?_)) | (with_reducible refine branch_ndec (fun _ => ?_) (fun _ => ?_)) | (with_reducible refine branch_bool (fun _ => ?_) (fun _ => ?_)) | (with_reducible refine arith_64 (by omega) ?_) | (with_reducible refine ob_i (by omega) (fun _ => ?_)) | (with_reducible refine ob_i (by unfold room; omega) (fun _ => ?_)) | (with_reducible refine ob_i (by (try simp only [toN_eq, Int.toNat_natCast] at *); (try dsimp only [toN] at *); omega) (fun _ => ?_)) | (with_reducible refine arith_64 (by (try simp only [toN_eq, Int.toNat_natCast] at *); (try dsimp only [toN] at *); omega) ?_) | (with_reducible refine ob_k rfl ?_) | ((with_reducible refine ob_k ?_ ?_); focus kernel_rfl) | (refine yield_i hmix hT rfl hL efr eps eag ebd rfl (by kernel_rfl) ?_) | (apply call_u awake_fn) | (apply call_u few_ok) | (apply call_u CS) | (apply call_u C) | (apply call_u A) | (apply call_u RE) | (apply call_l (first_ok (l := [_, _]) (Nat.le_of_ble_eq_true rfl)) (.cons (vm_lit _ rfl rfl (.cons (vm_int rfl) (.cons (vm_int rfl) .nil))) .nil)) | (apply call_l (first_ok (l := [_, _, _]) (Nat.le_of_ble_eq_true rfl)) (.cons (vm_lit _ rfl rfl (.cons (vm_int rfl) (.cons (vm_int rfl) (.cons (vm_int rfl) .nil)))) .nil)) | (apply call_l (first_ok (l := [_, _, _, _]) (Nat.le_of_ble_eq_true rfl)) (.cons (vm_lit _ rfl rfl (.cons (vm_int rfl) (.cons (vm_int rfl) (.cons (vm_int rfl) (.cons (vm_int rfl) .nil))))) .nil))) <;> (try (exfalso; omega; done)) <;> (with_reducible conv => whnf))
  clear A C RE
  refine loop_i hmix hT (fun i : Nat => ([(1, I f), (3, .ptr 0 0), (5, .ptr 1 0), (7, eSlabs (legL s (f * f) l.1 l.2)), (9, eSlabs (sinL s (f * f) l.1 l.2)), (11, .ptr 2 0), (12, B (frB s (i - 1))), (13, I i)], ⟨3, [(2, .cells [I (upTo s (f * f) l.1 l.2 i).1, I (upTo s (f * f) l.1 l.2 i).2] 58), (1, .cells [I l.1, I l.2] 26), (0, .cells [I s.h, eSlabs s.sl] 24)]⟩)) (fun i => i ≤ (legL s (f * f) l.1 l.2).length) (fun i => (legL s (f * f) l.1 l.2).length - i) (0 : Nat) (by omega) ?_ ?_
  · refine ⟨[], rfl, ?_, ?_⟩ <;> repeat' (first | exact trivial | exact vm_p | exact vm_ptr rfl rfl rfl | exact vm_yld rfl rfl | exact vm_own rfl rfl rfl rfl | exact vm_own rfl rfl (by omega) (by omega) | exact vm_int (by omega) | exact vm_nil rfl | exact sbm_cells vmL_p | exact sbm_row rfl (fun _ _ => vm_p) | refine ⟨⟨_, rfl, ?_⟩, ?_⟩ | refine ⟨⟨_, _, _, rfl⟩, ?_⟩ | (refine sbm_loop ?_; rw [efr]) | refine sbm_cells ?_ | refine vmL.cons ?_ ?_ | exact vmL.nil | refine vm_own rfl rfl rfl ?_)
  intro i hi
  by_cases c : i < (legL s (f * f) l.1 l.2).length
  · have ti : toN (i : Int) = i := toN_nat i
    obtain ⟨g1, g2, a, one, ff, dv, sq, c1, c2, r1, r2, r3, r4, r5, r6, r7, r8, r9⟩ := LG i (by omega)
    have lb := LB i (by omega)
    have ub := UB i (by omega)
    have eL : legAt s (f * f) l.1 l.2 i = (legL s (f * f) l.1 l.2).getD (toN (i : Int)) (0, 0) := by rw [ti, legL_at (by omega)]
    have e1 : upTo s (f * f) l.1 l.2 (i + 1) = ((upTo s (f * f) l.1 l.2 i).1 + ((legL s (f * f) l.1 l.2).getD (toN (i : Int)) (0, 0)).1, (upTo s (f * f) l.1 l.2 i).2 + ((legL s (f * f) l.1 l.2).getD (toN (i : Int)) (0, 0)).2) := by rw [← eL]; rfl
    have z0 : l.1 = 0 → ((legL s (f * f) l.1 l.2).getD (toN (i : Int)) (0, 0)).2 = 0 := fun hz => by
      rw [← eL, hz]
      cases i with
      | zero => exact leg_zero
      | succ i => exact leg_zero
    rw [eL] at lb r6 r8
    clear LG LB UB eL
    have p1 := Go.Proofs.Ytdfcedndkplabaa.prod_bd (a := ((legL s (f * f) l.1 l.2).getD (toN (i : Int)) (0, 0)).1) (b := ((legL s (f * f) l.1 l.2).getD (toN (i : Int)) (0, 0)).1) (A := 1500000001) (B := 1500000001) (by omega) (by omega)
    have p2 := Go.Proofs.Ytdfcedndkplabaa.prod_bd (a := ((legL s (f * f) l.1 l.2).getD (toN (i : Int)) (0, 0)).2) (b := ((legL s (f * f) l.1 l.2).getD (toN (i : Int)) (0, 0)).2) (A := 1500000001) (B := 1500000001) (by omega) (by omega)
    have I1 := ratioInt_ok (n := ((legL s (f * f) l.1 l.2).getD (toN (i : Int)) (0, 0)).1 * ((legL s (f * f) l.1 l.2).getD (toN (i : Int)) (0, 0)).1) (by omega)
    have I2 := ratioInt_ok (n := ((legL s (f * f) l.1 l.2).getD (toN (i : Int)) (0, 0)).2 * ((legL s (f * f) l.1 l.2).getD (toN (i : Int)) (0, 0)).2) (by omega)
    cases i with
    | zero =>
      have It := ratioInt_ok (n := 100 * s.h) (by have := v.h1; have := v.h2; omega)
      have hh : 1 ≤ s.h ∧ s.h ≤ 500 := ⟨v.h1, v.h2⟩
      have g1 : FnOK Try.prog 12 [eFrac l] (B true) [] := g1
      have g2 : FnOK Try.prog 13 [eFrac l, eFrac (1, 1)] (I (-1)) [] := g2
      have r1 : FnOK Try.prog 17 [eFrac l] (eR a) [] := r1
      have r3 : FnOK Try.prog 16 [eR (100 * s.h, 1), eR (100 * s.h, 1)] (eR ff) [] := r3
      with_reducible conv => whnf
      repeat' ((first | (with_reducible refine branch_t ?_) | (with_reducible refine branch_f ?_) | (with_reducible refine branch_nt ?_) | (with_reducible refine branch_nf ?_) | (with_reducible refine branch_dec (fun _ => ?_) (fun _ => ?_)) | (with_reducible refine branch_ndec (fun _ => ?_) (fun _ => ?_)) | (with_reducible refine branch_bool (fun _ => ?_) (fun _ => ?_)) | (with_reducible refine arith_64 (by omega) ?_) | (with_reducible refine ob_i (by omega) (fun _ => ?_)) | (with_reducible refine ob_i (by unfold room; omega) (fun _ => ?_)) | (with_reducible refine ob_i (by (try simp only [toN_eq, Int.toNat_natCast] at *); (try dsimp only [toN] at *); omega) (fun _ => ?_)) | (with_reducible refine arith_64 (by (try simp only [toN_eq, Int.toNat_natCast] at *); (try dsimp only [toN] at *); omega) ?_) | (with_reducible refine ob_k rfl ?_) | ((with_reducible refine ob_k ?_ ?_); focus kernel_rfl) | (refine yield_i hmix hT rfl hL efr eps eag ebd rfl (by kernel_rfl) ?_) | (apply call_u g1) | (apply call_u WH) | (apply call_u g2) | (apply call_u bWithin_ok) | (apply call_u R1) | (apply call_u r1) | (apply call_u r2) | (apply call_u It) | (apply call_u r3) | (apply call_u r4) | (apply call_u r5) | (apply call_u I1) | (apply call_u r6) | (apply call_u I2) | (apply call_u r8) | (apply call_l (first_ok (l := [_, _]) (Nat.le_of_ble_eq_true rfl)) (.cons (vm_lit _ rfl rfl (.cons (vm_int rfl) (.cons (vm_int rfl) .nil))) .nil)) | (apply call_l (first_ok (l := [_, _, _]) (Nat.le_of_ble_eq_true rfl)) (.cons (vm_lit _ rfl rfl (.cons (vm_int rfl) (.cons (vm_int rfl) (.cons (vm_int rfl) .nil)))) .nil)) | (apply call_l (first_ok (l := [_, _, _, _]) (Nat.le_of_ble_eq_true rfl)) (.cons (vm_lit _ rfl rfl (.cons (vm_int rfl) (.cons (vm_int rfl) (.cons (vm_int rfl) (.cons (vm_int rfl) .nil))))) .nil))) <;> (try (exfalso; omega; done)) <;> (with_reducible conv => whnf))
      all_goals refine ⟨0 + 1, by omega, by omega, ?_⟩
      all_goals rw [e1]
      all_goals refine ⟨[], rfl, ?_, ?_⟩ <;> repeat' (first | exact trivial | exact vm_p | exact vm_ptr rfl rfl rfl | exact vm_yld rfl rfl | exact vm_own rfl rfl rfl rfl | exact vm_own rfl rfl (by omega) (by omega) | exact vm_int (by omega) | exact vm_nil rfl | exact sbm_cells vmL_p | exact sbm_row rfl (fun _ _ => vm_p) | refine ⟨⟨_, rfl, ?_⟩, ?_⟩ | refine ⟨⟨_, _, _, rfl⟩, ?_⟩ | (refine sbm_loop ?_; rw [efr]) | refine sbm_cells ?_ | refine vmL.cons ?_ ?_ | exact vmL.nil | refine vm_own rfl rfl rfl ?_)
    | succ k =>
      have tk : toN (((k + 1 : Nat) : Int) - 1) = k := by rw [toN_eq]; omega
      have vt := v.t k (by omega)
      have es : (sinL s (f * f) l.1 l.2).getD k (0, 0) = (sinL s (f * f) l.1 l.2).getD (toN (((k + 1 : Nat) : Int) - 1)) (0, 0) := by rw [tk]
      have et : s.sl.getD k (0, 0) = s.sl.getD (toN (((k + 1 : Nat) : Int) - 1)) (0, 0) := by rw [tk]
      have g1 : FnOK Try.prog 12 [eFrac ((sinL s (f * f) l.1 l.2).getD k (0, 0))] (B true) [] := g1
      have g2 : FnOK Try.prog 13 [eFrac ((sinL s (f * f) l.1 l.2).getD k (0, 0)), eFrac (1, 1)] (I (-1)) [] := g2
      have r1 : FnOK Try.prog 17 [eFrac ((sinL s (f * f) l.1 l.2).getD k (0, 0))] (eR a) [] := r1
      have r3 : FnOK Try.prog 16 [eR (100 * (s.sl.getD k (0, 0)).1, 1), eR (100 * (s.sl.getD k (0, 0)).1, 1)] (eR ff) [] := r3
      rw [es] at g1 g2 r1
      rw [et] at r3 vt
      have It := ratioInt_ok (n := 100 * (s.sl.getD (toN (((k + 1 : Nat) : Int) - 1)) (0, 0)).1) (by omega)
      have fb : frB s (k + 1) = (frB s k && decide ((s.sl.getD (toN (((k + 1 : Nat) : Int) - 1)) (0, 0)).2 = 0)) := by rw [← et]; rfl
      clear es et
      by_cases fk : frB s k = true
      · have f0 : frB s (k + 1 - 1) = true := fk
        rw [fk, Bool.true_and] at fb
        rw [f0]
        with_reducible conv => whnf
        repeat' ((first | (with_reducible refine branch_t ?_) | (with_reducible refine branch_f ?_) | (with_reducible refine branch_nt ?_) | (with_reducible refine branch_nf ?_) | (with_reducible refine branch_dec (fun _ => ?_) (fun _ => ?_)) | (with_reducible refine branch_ndec (fun _ => ?_) (fun _ => ?_)) | (with_reducible refine branch_bool (fun _ => ?_) (fun _ => ?_)) | (with_reducible refine arith_64 (by omega) ?_) | (with_reducible refine ob_i (by omega) (fun _ => ?_)) | (with_reducible refine ob_i (by unfold room; omega) (fun _ => ?_)) | (with_reducible refine ob_i (by (try simp only [toN_eq, Int.toNat_natCast] at *); (try dsimp only [toN] at *); omega) (fun _ => ?_)) | (with_reducible refine arith_64 (by (try simp only [toN_eq, Int.toNat_natCast] at *); (try dsimp only [toN] at *); omega) ?_) | (with_reducible refine ob_k rfl ?_) | ((with_reducible refine ob_k ?_ ?_); focus kernel_rfl) | (refine yield_i hmix hT rfl hL efr eps eag ebd rfl (by kernel_rfl) ?_) | (apply call_u g1) | (apply call_u WH) | (apply call_u g2) | (apply call_u bWithin_ok) | (apply call_u R1) | (apply call_u r1) | (apply call_u r2) | (apply call_u It) | (apply call_u r3) | (apply call_u r4) | (apply call_u r5) | (apply call_u I1) | (apply call_u r6) | (apply call_u I2) | (apply call_u r8) | (apply call_l (first_ok (l := [_, _]) (Nat.le_of_ble_eq_true rfl)) (.cons (vm_lit _ rfl rfl (.cons (vm_int rfl) (.cons (vm_int rfl) .nil))) .nil)) | (apply call_l (first_ok (l := [_, _, _]) (Nat.le_of_ble_eq_true rfl)) (.cons (vm_lit _ rfl rfl (.cons (vm_int rfl) (.cons (vm_int rfl) (.cons (vm_int rfl) .nil)))) .nil)) | (apply call_l (first_ok (l := [_, _, _, _]) (Nat.le_of_ble_eq_true rfl)) (.cons (vm_lit _ rfl rfl (.cons (vm_int rfl) (.cons (vm_int rfl) (.cons (vm_int rfl) (.cons (vm_int rfl) .nil))))) .nil))) <;> (try (exfalso; omega; done)) <;> (with_reducible conv => whnf))
        all_goals refine ⟨k + 1 + 1, by omega, by omega, ?_⟩
        all_goals rw [e1, show k + 1 + 1 - 1 = k + 1 by omega, fb]
        all_goals refine ⟨[], rfl, ?_, ?_⟩ <;> repeat' (first | exact trivial | exact vm_p | exact vm_ptr rfl rfl rfl | exact vm_yld rfl rfl | exact vm_own rfl rfl rfl rfl | exact vm_own rfl rfl (by omega) (by omega) | exact vm_int (by omega) | exact vm_nil rfl | exact sbm_cells vmL_p | exact sbm_row rfl (fun _ _ => vm_p) | refine ⟨⟨_, rfl, ?_⟩, ?_⟩ | refine ⟨⟨_, _, _, rfl⟩, ?_⟩ | (refine sbm_loop ?_; rw [efr]) | refine sbm_cells ?_ | refine vmL.cons ?_ ?_ | exact vmL.nil | refine vm_own rfl rfl rfl ?_)
      · have fk : frB s k = false := by simpa using fk
        have f0 : frB s (k + 1 - 1) = false := fk
        rw [fk, Bool.false_and] at fb
        rw [f0]
        with_reducible conv => whnf
        repeat' ((first | (with_reducible refine branch_t ?_) | (with_reducible refine branch_f ?_) | (with_reducible refine branch_nt ?_) | (with_reducible refine branch_nf ?_) | (with_reducible refine branch_dec (fun _ => ?_) (fun _ => ?_)) | (with_reducible refine branch_ndec (fun _ => ?_) (fun _ => ?_)) | (with_reducible refine branch_bool (fun _ => ?_) (fun _ => ?_)) | (with_reducible refine arith_64 (by omega) ?_) | (with_reducible refine ob_i (by omega) (fun _ => ?_)) | (with_reducible refine ob_i (by unfold room; omega) (fun _ => ?_)) | (with_reducible refine ob_i (by (try simp only [toN_eq, Int.toNat_natCast] at *); (try dsimp only [toN] at *); omega) (fun _ => ?_)) | (with_reducible refine arith_64 (by (try simp only [toN_eq, Int.toNat_natCast] at *); (try dsimp only [toN] at *); omega) ?_) | (with_reducible refine ob_k rfl ?_) | ((with_reducible refine ob_k ?_ ?_); focus kernel_rfl) | (refine yield_i hmix hT rfl hL efr eps eag ebd rfl (by kernel_rfl) ?_) | (apply call_u g1) | (apply call_u WH) | (apply call_u g2) | (apply call_u bWithin_ok) | (apply call_u R1) | (apply call_u r1) | (apply call_u r2) | (apply call_u It) | (apply call_u r3) | (apply call_u r4) | (apply call_u r5) | (apply call_u I1) | (apply call_u r6) | (apply call_u I2) | (apply call_u r8) | (apply call_l (first_ok (l := [_, _]) (Nat.le_of_ble_eq_true rfl)) (.cons (vm_lit _ rfl rfl (.cons (vm_int rfl) (.cons (vm_int rfl) .nil))) .nil)) | (apply call_l (first_ok (l := [_, _, _]) (Nat.le_of_ble_eq_true rfl)) (.cons (vm_lit _ rfl rfl (.cons (vm_int rfl) (.cons (vm_int rfl) (.cons (vm_int rfl) .nil)))) .nil)) | (apply call_l (first_ok (l := [_, _, _, _]) (Nat.le_of_ble_eq_true rfl)) (.cons (vm_lit _ rfl rfl (.cons (vm_int rfl) (.cons (vm_int rfl) (.cons (vm_int rfl) (.cons (vm_int rfl) .nil))))) .nil))) <;> (try (exfalso; omega; done)) <;> (with_reducible conv => whnf))
        all_goals refine ⟨k + 1 + 1, by omega, by omega, ?_⟩
        all_goals rw [e1, show k + 1 + 1 - 1 = k + 1 by omega, fb]
        all_goals refine ⟨[], rfl, ?_, ?_⟩ <;> repeat' (first | exact trivial | exact vm_p | exact vm_ptr rfl rfl rfl | exact vm_yld rfl rfl | exact vm_own rfl rfl rfl rfl | exact vm_own rfl rfl (by omega) (by omega) | exact vm_int (by omega) | exact vm_nil rfl | exact sbm_cells vmL_p | exact sbm_row rfl (fun _ _ => vm_p) | refine ⟨⟨_, rfl, ?_⟩, ?_⟩ | refine ⟨⟨_, _, _, rfl⟩, ?_⟩ | (refine sbm_loop ?_; rw [efr]) | refine sbm_cells ?_ | refine vmL.cons ?_ ?_ | exact vmL.nil | refine vm_own rfl rfl rfl ?_)
  · have ei : i = apexL (f * f) l.1 l.2 s.sl + 1 := by omega
    subst ei
    rw [show apexL (f * f) l.1 l.2 s.sl + 1 - 1 = apexL (f * f) l.1 l.2 s.sl by omega]
    have G := groundOf_good h
    have M := mirrorHeight_good h
    have ub := UB (apexL (f * f) l.1 l.2 s.sl + 1) (by omega)
    clear LG LB UB WH R1
    by_cases ha : apexL (f * f) l.1 l.2 s.sl = s.sl.length
    · rw [if_pos ha] at G
      with_reducible conv => whnf
      repeat' ((first | (with_reducible refine branch_t ?_) | (with_reducible refine branch_f ?_) | (with_reducible refine branch_nt ?_) | (with_reducible refine branch_nf ?_) | (with_reducible refine branch_dec (fun _ => ?_) (fun _ => ?_)) | (with_reducible refine branch_ndec (fun _ => ?_) (fun _ => ?_)) | (with_reducible refine branch_bool (fun _ => ?_) (fun _ => ?_)) | (with_reducible refine arith_64 (by omega) ?_) | (with_reducible refine ob_i (by omega) (fun _ => ?_)) | (with_reducible refine ob_i (by unfold room; omega) (fun _ => ?_)) | (with_reducible refine ob_i (by (try simp only [toN_eq, Int.toNat_natCast] at *); (try dsimp only [toN] at *); omega) (fun _ => ?_)) | (with_reducible refine arith_64 (by (try simp only [toN_eq, Int.toNat_natCast] at *); (try dsimp only [toN] at *); omega) ?_) | (with_reducible refine ob_k rfl ?_) | ((with_reducible refine ob_k ?_ ?_); focus kernel_rfl) | (refine yield_i hmix hT rfl hL efr eps eag ebd rfl (by kernel_rfl) ?_) | (apply call_u CS) | (apply call_u G) | (apply call_l (first_ok (l := [_, _]) (Nat.le_of_ble_eq_true rfl)) (.cons (vm_lit _ rfl rfl (.cons (vm_int rfl) (.cons (vm_int rfl) .nil))) .nil)) | (apply call_l (first_ok (l := [_, _, _]) (Nat.le_of_ble_eq_true rfl)) (.cons (vm_lit _ rfl rfl (.cons (vm_int rfl) (.cons (vm_int rfl) (.cons (vm_int rfl) .nil)))) .nil)) | (apply call_l (first_ok (l := [_, _, _, _]) (Nat.le_of_ble_eq_true rfl)) (.cons (vm_lit _ rfl rfl (.cons (vm_int rfl) (.cons (vm_int rfl) (.cons (vm_int rfl) (.cons (vm_int rfl) .nil))))) .nil))) <;> (try (exfalso; omega; done)) <;> (with_reducible conv => whnf))
      all_goals first | exact ret0 vm_p | exact ret0 (vm_bool (decide_eq_true (by omega)))
    · rw [if_neg ha] at G
      have gd : (groundE s (f * f) l.1 l.2).1 = 2 * (upTo s (f * f) l.1 l.2 (apexL (f * f) l.1 l.2 s.sl + 1)).1 ∧ (groundE s (f * f) l.1 l.2).2 = 2 * (upTo s (f * f) l.1 l.2 (apexL (f * f) l.1 l.2 s.sl + 1)).2 := ⟨rfl, rfl⟩
      have AP := apexOf_some h ha
      have bk := bord_bd v.fine (apexL (f * f) l.1 l.2 s.sl) al
      have sF := sq_bd fv
      have me : mirE s (f * f) l.1 l.2 = if l.1 = 0 then 11 else if 2000000 < (groundE s (f * f) l.1 l.2).2 then 8 else 0 := by
        unfold mirE
        rw [if_neg ha]
      by_cases l0 : l.1 = 0
      · rw [if_pos l0] at me
        rw [me] at M
        with_reducible conv => whnf
        repeat' ((first | (with_reducible refine branch_t ?_) | (with_reducible refine branch_f ?_) | (with_reducible refine branch_nt ?_) | (with_reducible refine branch_nf ?_) | (with_reducible refine branch_dec (fun _ => ?_) (fun _ => ?_)) | (with_reducible refine branch_ndec (fun _ => ?_) (fun _ => ?_)) | (with_reducible refine branch_bool (fun _ => ?_) (fun _ => ?_)) | (with_reducible refine arith_64 (by omega) ?_) | (with_reducible refine ob_i (by omega) (fun _ => ?_)) | (with_reducible refine ob_i (by unfold room; omega) (fun _ => ?_)) | (with_reducible refine ob_i (by (try simp only [toN_eq, Int.toNat_natCast] at *); (try dsimp only [toN] at *); omega) (fun _ => ?_)) | (with_reducible refine arith_64 (by (try simp only [toN_eq, Int.toNat_natCast] at *); (try dsimp only [toN] at *); omega) ?_) | (with_reducible refine ob_k rfl ?_) | ((with_reducible refine ob_k ?_ ?_); focus kernel_rfl) | (refine yield_i hmix hT rfl hL efr eps eag ebd rfl (by kernel_rfl) ?_) | (apply call_u CS) | (apply call_u G) | (apply call_u M) | (apply call_u AP) | (apply call_l (first_ok (l := [_, _]) (Nat.le_of_ble_eq_true rfl)) (.cons (vm_lit _ rfl rfl (.cons (vm_int rfl) (.cons (vm_int rfl) .nil))) .nil)) | (apply call_l (first_ok (l := [_, _, _]) (Nat.le_of_ble_eq_true rfl)) (.cons (vm_lit _ rfl rfl (.cons (vm_int rfl) (.cons (vm_int rfl) (.cons (vm_int rfl) .nil)))) .nil)) | (apply call_l (first_ok (l := [_, _, _, _]) (Nat.le_of_ble_eq_true rfl)) (.cons (vm_lit _ rfl rfl (.cons (vm_int rfl) (.cons (vm_int rfl) (.cons (vm_int rfl) (.cons (vm_int rfl) .nil))))) .nil))) <;> (try (exfalso; omega; done)) <;> (with_reducible conv => whnf))
        all_goals first | exact ret0 vm_p | exact ret0 (vm_bool (decide_eq_true (by omega)))
      by_cases far : 2000000 < (groundE s (f * f) l.1 l.2).2
      · rw [if_neg l0, if_pos far] at me
        rw [me] at M
        with_reducible conv => whnf
        repeat' ((first | (with_reducible refine branch_t ?_) | (with_reducible refine branch_f ?_) | (with_reducible refine branch_nt ?_) | (with_reducible refine branch_nf ?_) | (with_reducible refine branch_dec (fun _ => ?_) (fun _ => ?_)) | (with_reducible refine branch_ndec (fun _ => ?_) (fun _ => ?_)) | (with_reducible refine branch_bool (fun _ => ?_) (fun _ => ?_)) | (with_reducible refine arith_64 (by omega) ?_) | (with_reducible refine ob_i (by omega) (fun _ => ?_)) | (with_reducible refine ob_i (by unfold room; omega) (fun _ => ?_)) | (with_reducible refine ob_i (by (try simp only [toN_eq, Int.toNat_natCast] at *); (try dsimp only [toN] at *); omega) (fun _ => ?_)) | (with_reducible refine arith_64 (by (try simp only [toN_eq, Int.toNat_natCast] at *); (try dsimp only [toN] at *); omega) ?_) | (with_reducible refine ob_k rfl ?_) | ((with_reducible refine ob_k ?_ ?_); focus kernel_rfl) | (refine yield_i hmix hT rfl hL efr eps eag ebd rfl (by kernel_rfl) ?_) | (apply call_u CS) | (apply call_u G) | (apply call_u M) | (apply call_u AP) | (apply call_l (first_ok (l := [_, _]) (Nat.le_of_ble_eq_true rfl)) (.cons (vm_lit _ rfl rfl (.cons (vm_int rfl) (.cons (vm_int rfl) .nil))) .nil)) | (apply call_l (first_ok (l := [_, _, _]) (Nat.le_of_ble_eq_true rfl)) (.cons (vm_lit _ rfl rfl (.cons (vm_int rfl) (.cons (vm_int rfl) (.cons (vm_int rfl) .nil)))) .nil)) | (apply call_l (first_ok (l := [_, _, _, _]) (Nat.le_of_ble_eq_true rfl)) (.cons (vm_lit _ rfl rfl (.cons (vm_int rfl) (.cons (vm_int rfl) (.cons (vm_int rfl) (.cons (vm_int rfl) .nil))))) .nil))) <;> (try (exfalso; omega; done)) <;> (with_reducible conv => whnf))
        all_goals first | exact ret0 vm_p | exact ret0 (vm_bool (decide_eq_true (by omega)))
      · rw [if_neg l0, if_neg far] at me
        have ln0 := lv.n0
        obtain ⟨m1, m2, m3⟩ := mirror_in v.fine sv (by omega) (show 0 < l.1 by omega) lv.nd me
        rw [me] at M
        by_cases fr : frB s (apexL (f * f) l.1 l.2 s.sl) = true
        · have m3 := m3 fr
          rw [fr]
          with_reducible conv => whnf
          repeat' ((first | (with_reducible refine branch_t ?_) | (with_reducible refine branch_f ?_) | (with_reducible refine branch_nt ?_) | (with_reducible refine branch_nf ?_) | (with_reducible refine branch_dec (fun _ => ?_) (fun _ => ?_)) | (with_reducible refine branch_ndec (fun _ => ?_) (fun _ => ?_)) | (with_reducible refine branch_bool (fun _ => ?_) (fun _ => ?_)) | (with_reducible refine arith_64 (by omega) ?_) | (with_reducible refine ob_i (by omega) (fun _ => ?_)) | (with_reducible refine ob_i (by unfold room; omega) (fun _ => ?_)) | (with_reducible refine ob_i (by (try simp only [toN_eq, Int.toNat_natCast] at *); (try dsimp only [toN] at *); omega) (fun _ => ?_)) | (with_reducible refine arith_64 (by (try simp only [toN_eq, Int.toNat_natCast] at *); (try dsimp only [toN] at *); omega) ?_) | (with_reducible refine ob_k rfl ?_) | ((with_reducible refine ob_k ?_ ?_); focus kernel_rfl) | (refine yield_i hmix hT rfl hL efr eps eag ebd rfl (by kernel_rfl) ?_) | (apply call_u CS) | (apply call_u G) | (apply call_u M) | (apply call_u AP) | (apply call_l (first_ok (l := [_, _]) (Nat.le_of_ble_eq_true rfl)) (.cons (vm_lit _ rfl rfl (.cons (vm_int rfl) (.cons (vm_int rfl) .nil))) .nil)) | (apply call_l (first_ok (l := [_, _, _]) (Nat.le_of_ble_eq_true rfl)) (.cons (vm_lit _ rfl rfl (.cons (vm_int rfl) (.cons (vm_int rfl) (.cons (vm_int rfl) .nil)))) .nil)) | (apply call_l (first_ok (l := [_, _, _, _]) (Nat.le_of_ble_eq_true rfl)) (.cons (vm_lit _ rfl rfl (.cons (vm_int rfl) (.cons (vm_int rfl) (.cons (vm_int rfl) (.cons (vm_int rfl) .nil))))) .nil))) <;> (try (exfalso; omega; done)) <;> (with_reducible conv => whnf))
          all_goals first | exact ret0 vm_p | exact ret0 (vm_bool (decide_eq_true (by omega)))
        · have fr : frB s (apexL (f * f) l.1 l.2 s.sl) = false := by simpa using fr
          rw [fr]
          with_reducible conv => whnf
          repeat' ((first | (with_reducible refine branch_t ?_) | (with_reducible refine branch_f ?_) | (with_reducible refine branch_nt ?_) | (with_reducible refine branch_nf ?_) | (with_reducible refine branch_dec (fun _ => ?_) (fun _ => ?_)) | (with_reducible refine branch_ndec (fun _ => ?_) (fun _ => ?_)) | (with_reducible refine branch_bool (fun _ => ?_) (fun _ => ?_)) | (with_reducible refine arith_64 (by omega) ?_) | (with_reducible refine ob_i (by omega) (fun _ => ?_)) | (with_reducible refine ob_i (by unfold room; omega) (fun _ => ?_)) | (with_reducible refine ob_i (by (try simp only [toN_eq, Int.toNat_natCast] at *); (try dsimp only [toN] at *); omega) (fun _ => ?_)) | (with_reducible refine arith_64 (by (try simp only [toN_eq, Int.toNat_natCast] at *); (try dsimp only [toN] at *); omega) ?_) | (with_reducible refine ob_k rfl ?_) | ((with_reducible refine ob_k ?_ ?_); focus kernel_rfl) | (refine yield_i hmix hT rfl hL efr eps eag ebd rfl (by kernel_rfl) ?_) | (apply call_u CS) | (apply call_u G) | (apply call_u M) | (apply call_u AP) | (apply call_l (first_ok (l := [_, _]) (Nat.le_of_ble_eq_true rfl)) (.cons (vm_lit _ rfl rfl (.cons (vm_int rfl) (.cons (vm_int rfl) .nil))) .nil)) | (apply call_l (first_ok (l := [_, _, _]) (Nat.le_of_ble_eq_true rfl)) (.cons (vm_lit _ rfl rfl (.cons (vm_int rfl) (.cons (vm_int rfl) (.cons (vm_int rfl) .nil)))) .nil)) | (apply call_l (first_ok (l := [_, _, _, _]) (Nat.le_of_ble_eq_true rfl)) (.cons (vm_lit _ rfl rfl (.cons (vm_int rfl) (.cons (vm_int rfl) (.cons (vm_int rfl) (.cons (vm_int rfl) .nil))))) .nil))) <;> (try (exfalso; omega; done)) <;> (with_reducible conv => whnf))
          all_goals first | exact ret0 vm_p | exact ret0 (vm_bool (decide_eq_true (by omega)))
end Go.Proofs.Ytdfcedndkplabaa
