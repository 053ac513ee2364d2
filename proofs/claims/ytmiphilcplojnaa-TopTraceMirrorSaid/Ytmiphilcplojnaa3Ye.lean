/-
  Chapter 3: the law TopTraceMirror (by contract).
  Conditions: none.
-/
import Derived.Test.Ytmiphilcplojnaa3Yc
import Derived.Test.Ytmiphilcplojnaa3Yd
import Derived.Test.YtmiphilcplojnaaFx
namespace Go.Proofs.Ytmiphilcplojnaa
open Go.RowKit Fx
theorem lists_leng {g : Gram} (hv : g.Val) (i : Nat) : (g.cols.getD i []).length ≤ 9223372036854775807 := by
  have h1 := hv.r1
  by_cases hi : i < g.cols.length
  · rw [hv.rows i hi]; omega
  · rw [List.getD_eq_getElem?_getD, List.getElem?_eq_none (by omega)]; simp
theorem fits_of {g : Gram} {r : Rules} {p : Path} (pf : p.Fit g r) : fitsB r p = true := fits_iff.2 ⟨pf.fr, pf.n, pf.good⟩
theorem cost_fit {g : Gram} {r : Rules} {p : Path} (hb : bothE g r = 0) (pf : p.Fit g r) : costE g r p = (costK g r p p.rows.length, 0) := by
  unfold costE
  rw [if_neg (by omega), if_neg (by rw [pathE_val pf.v]; omega), if_neg (by rw [fits_of pf]; simp)]
theorem copySub_ok {l : List Int} {o N o' n : Nat} (ho : o = o') (hN : N = n) (hn : n ≤ 100000) : FnOK Try.prog 51 [.sl 1 N (fun j => I (l.getD (o + j) 0))] (eInts (subL l o' n)) [] := by
  subst ho hN
  refine fn_i hmix hT Try.f51 (by kernel_rfl) rfl (by kernel_rfl) ?_
  with_reducible conv => whnf
  repeat' ((first | (with_reducible refine branch_t ?_) | (with_reducible refine branch_f ?_) | (with_reducible refine branch_nt ?_) | (with_reducible refine branch_nf ?_) | (with_reducible refine branch_dec (fun _ => ?_) (fun _ => ?_)) | (with_reducible refine branch_ndec (fun _ => ?_) (fun _ => ?_)) | (with_reducible refine branch_bool (fun _ => ?_) (fun _ => ?_)) | (with_reducible refine arith_64 (by omega) ?_) | (with_reducible refine ob_i (by omega) (fun _ => ?_)) | (with_reducible refine ob_i (by unfold room; omega) (fun _ => ?_)) | (with_reducible refine ob_i (by (try simp only [] at *); (try dsimp only [toN] at *); omega) (fun _ => ?_)) | (with_reducible refine arith_64 (by (try simp only [] at *); (try dsimp only [toN] at *); omega) ?_) | (with_reducible refine ob_k rfl ?_) | ((with_reducible refine ob_k ?_ ?_); focus kernel_rfl) | (refine yield_i hmix hT rfl hL efr eps eag ebd rfl (by kernel_rfl) ?_)  | (apply call_l (first_ok (l := [_, _]) (Nat.le_of_ble_eq_true rfl)) (.cons (vm_lit _ rfl rfl (.cons (vm_int rfl) (.cons (vm_int rfl) .nil))) .nil)) | (apply call_l (first_ok (l := [_, _, _]) (Nat.le_of_ble_eq_true rfl)) (.cons (vm_lit _ rfl rfl (.cons (vm_int rfl) (.cons (vm_int rfl) (.cons (vm_int rfl) .nil)))) .nil)) | (apply call_l (first_ok (l := [_, _, _, _]) (Nat.le_of_ble_eq_true rfl)) (.cons (vm_lit _ rfl rfl (.cons (vm_int rfl) (.cons (vm_int rfl) (.cons (vm_int rfl) (.cons (vm_int rfl) .nil))))) .nil))) <;> (try (exfalso; omega; done)) <;> (with_reducible conv => whnf))
  refine ret0 (vm_fr rfl rfl (by simp [subL_len]) (Nat.le_refl _) fun i hi => ?_)
  rw [subL_len] at hi
  rw [appF_ge (by omega), Nat.sub_zero, subL_at hi]
  exact vm_p
theorem lists_h {g : Gram} (hv : g.Val) (i : Nat) : (g.cols.getD i []).length ≤ 100 := by
  have h1 := hv.r1
  by_cases hi : i < g.cols.length
  · rw [hv.rows i hi]; omega
  · rw [List.getD_eq_getElem?_getD, List.getElem?_eq_none (by omega)]; simp
set_option maxHeartbeats 4000000 in
set_option maxRecDepth 100000 in
theorem topMirror_ok {g : Gram} {r : Rules} {n : Int} (hg : g.Ok) : FnOK Try.prog 8 [eGram g, eRules r, I n] (B true) [] := by
  have F := few_ok hg
  have GE := rGramErr_ok hg
  by_cases h1 : fewB g = true
  case neg =>
    rw [Bool.not_eq_true] at h1
    rw [h1] at F
    refine fn_i hmix hT Try.f8 (by kernel_rfl) rfl (by kernel_rfl) ?_
    with_reducible conv => whnf
    repeat' ((first | (with_reducible refine branch_t ?_) | (with_reducible refine branch_f ?_) | (with_reducible refine branch_nt ?_) | (with_reducible refine branch_nf ?_) | (with_reducible refine branch_dec (fun _ => ?_) (fun _ => ?_)) | (with_reducible refine branch_ndec (fun _ => ?_) (fun _ => ?_)) | (with_reducible refine branch_bool (fun _ => ?_) (fun _ => ?_)) | (with_reducible refine arith_64 (by omega) ?_) | (with_reducible refine ob_i (by omega) (fun _ => ?_)) | (with_reducible refine ob_i (by unfold room; omega) (fun _ => ?_)) | (with_reducible refine ob_i (by (try simp only [toN_eq, Int.toNat_natCast] at *); (try dsimp only [toN] at *); omega) (fun _ => ?_)) | (with_reducible refine arith_64 (by (try simp only [toN_eq, Int.toNat_natCast] at *); (try dsimp only [toN] at *); omega) ?_) | (with_reducible refine ob_k rfl ?_) | ((with_reducible refine ob_k ?_ ?_); focus kernel_rfl) | (refine yield_i hmix hT rfl hL efr eps eag ebd rfl (by kernel_rfl) ?_) | (apply call_u shown_fn) | (apply call_u F) | (apply call_l (first_ok (l := [_, _]) (Nat.le_of_ble_eq_true rfl)) (.cons (vm_lit _ rfl rfl (.cons (vm_int rfl) (.cons (vm_int rfl) .nil))) .nil)) | (apply call_l (first_ok (l := [_, _, _]) (Nat.le_of_ble_eq_true rfl)) (.cons (vm_lit _ rfl rfl (.cons (vm_int rfl) (.cons (vm_int rfl) (.cons (vm_int rfl) .nil)))) .nil)) | (apply call_l (first_ok (l := [_, _, _, _]) (Nat.le_of_ble_eq_true rfl)) (.cons (vm_lit _ rfl rfl (.cons (vm_int rfl) (.cons (vm_int rfl) (.cons (vm_int rfl) (.cons (vm_int rfl) .nil))))) .nil))) <;> (try (exfalso; omega; done)) <;> (with_reducible conv => whnf))
    exact ret0 vm_p
  rw [h1] at F
  by_cases hz : gramE g = 0
  case neg =>
    refine fn_i hmix hT Try.f8 (by kernel_rfl) rfl (by kernel_rfl) ?_
    with_reducible conv => whnf
    repeat' ((first | (with_reducible refine branch_t ?_) | (with_reducible refine branch_f ?_) | (with_reducible refine branch_nt ?_) | (with_reducible refine branch_nf ?_) | (with_reducible refine branch_dec (fun _ => ?_) (fun _ => ?_)) | (with_reducible refine branch_ndec (fun _ => ?_) (fun _ => ?_)) | (with_reducible refine branch_bool (fun _ => ?_) (fun _ => ?_)) | (with_reducible refine arith_64 (by omega) ?_) | (with_reducible refine ob_i (by omega) (fun _ => ?_)) | (with_reducible refine ob_i (by unfold room; omega) (fun _ => ?_)) | (with_reducible refine ob_i (by (try simp only [toN_eq, Int.toNat_natCast] at *); (try dsimp only [toN] at *); omega) (fun _ => ?_)) | (with_reducible refine arith_64 (by (try simp only [toN_eq, Int.toNat_natCast] at *); (try dsimp only [toN] at *); omega) ?_) | (with_reducible refine ob_k rfl ?_) | ((with_reducible refine ob_k ?_ ?_); focus kernel_rfl) | (refine yield_i hmix hT rfl hL efr eps eag ebd rfl (by kernel_rfl) ?_) | (apply call_u shown_fn) | (apply call_u F) | (apply call_u GE) | (apply call_l (first_ok (l := [_, _]) (Nat.le_of_ble_eq_true rfl)) (.cons (vm_lit _ rfl rfl (.cons (vm_int rfl) (.cons (vm_int rfl) .nil))) .nil)) | (apply call_l (first_ok (l := [_, _, _]) (Nat.le_of_ble_eq_true rfl)) (.cons (vm_lit _ rfl rfl (.cons (vm_int rfl) (.cons (vm_int rfl) (.cons (vm_int rfl) .nil)))) .nil)) | (apply call_l (first_ok (l := [_, _, _, _]) (Nat.le_of_ble_eq_true rfl)) (.cons (vm_lit _ rfl rfl (.cons (vm_int rfl) (.cons (vm_int rfl) (.cons (vm_int rfl) (.cons (vm_int rfl) .nil))))) .nil))) <;> (try (exfalso; omega; done)) <;> (with_reducible conv => whnf))
    exact ret0 vm_p
  rw [hz] at GE
  have hv := gram_val hz
  have RE := rRulesErr_ok (r := r) hg
  by_cases hr : rulesE g r = 0
  case neg =>
    refine fn_i hmix hT Try.f8 (by kernel_rfl) rfl (by kernel_rfl) ?_
    with_reducible conv => whnf
    repeat' ((first | (with_reducible refine branch_t ?_) | (with_reducible refine branch_f ?_) | (with_reducible refine branch_nt ?_) | (with_reducible refine branch_nf ?_) | (with_reducible refine branch_dec (fun _ => ?_) (fun _ => ?_)) | (with_reducible refine branch_ndec (fun _ => ?_) (fun _ => ?_)) | (with_reducible refine branch_bool (fun _ => ?_) (fun _ => ?_)) | (with_reducible refine arith_64 (by omega) ?_) | (with_reducible refine ob_i (by omega) (fun _ => ?_)) | (with_reducible refine ob_i (by unfold room; omega) (fun _ => ?_)) | (with_reducible refine ob_i (by (try simp only [toN_eq, Int.toNat_natCast] at *); (try dsimp only [toN] at *); omega) (fun _ => ?_)) | (with_reducible refine arith_64 (by (try simp only [toN_eq, Int.toNat_natCast] at *); (try dsimp only [toN] at *); omega) ?_) | (with_reducible refine ob_k rfl ?_) | ((with_reducible refine ob_k ?_ ?_); focus kernel_rfl) | (refine yield_i hmix hT rfl hL efr eps eag ebd rfl (by kernel_rfl) ?_) | (apply call_u shown_fn) | (apply call_u F) | (apply call_u GE) | (apply call_u RE) | (apply call_l (first_ok (l := [_, _]) (Nat.le_of_ble_eq_true rfl)) (.cons (vm_lit _ rfl rfl (.cons (vm_int rfl) (.cons (vm_int rfl) .nil))) .nil)) | (apply call_l (first_ok (l := [_, _, _]) (Nat.le_of_ble_eq_true rfl)) (.cons (vm_lit _ rfl rfl (.cons (vm_int rfl) (.cons (vm_int rfl) (.cons (vm_int rfl) .nil)))) .nil)) | (apply call_l (first_ok (l := [_, _, _, _]) (Nat.le_of_ble_eq_true rfl)) (.cons (vm_lit _ rfl rfl (.cons (vm_int rfl) (.cons (vm_int rfl) (.cons (vm_int rfl) (.cons (vm_int rfl) .nil))))) .nil))) <;> (try (exfalso; omega; done)) <;> (with_reducible conv => whnf))
    exact ret0 vm_p
  rw [hr] at RE
  have rv := rules_val hr
  have h1 := rv.fr
  have h2 := rv.le
  have h3 := rv.to
  have h4 := hv.c1
  have h5 := hv.r1
  have h6 := hv.r0
  have h7 := hv.c0
  refine fn_i hmix hT Try.f8 (by kernel_rfl) rfl (by kernel_rfl) ?_
  with_reducible conv => whnf
  repeat' ((first | (with_reducible refine branch_t ?_) | (with_reducible refine branch_f ?_) | (with_reducible refine branch_nt ?_) | (with_reducible refine branch_nf ?_) | (with_reducible refine branch_dec (fun _ => ?_) (fun _ => ?_)) | (with_reducible refine branch_ndec (fun _ => ?_) (fun _ => ?_)) | (with_reducible refine branch_bool (fun _ => ?_) (fun _ => ?_)) | (with_reducible refine arith_64 (by omega) ?_) | (with_reducible refine ob_i (by omega) (fun _ => ?_)) | (with_reducible refine ob_i (by unfold room; omega) (fun _ => ?_)) | (with_reducible refine ob_i (by (try simp only [] at *); (try dsimp only [toN] at *); omega) (fun _ => ?_)) | (with_reducible refine arith_64 (by (try simp only [toN_eq, Int.toNat_natCast] at *); (try dsimp only [toN] at *); omega) ?_) | (with_reducible refine ob_k rfl ?_) | ((with_reducible refine ob_k ?_ ?_); focus kernel_rfl) | (refine yield_i hmix hT rfl hL efr eps eag ebd rfl (by kernel_rfl) ?_) | (apply call_u shown_fn) | (apply call_u F) | (apply call_u GE) | (apply call_u RE) | (apply call_u (rRows_ok h7)) | (apply call_l (first_ok (l := [_, _]) (Nat.le_of_ble_eq_true rfl)) (.cons (vm_lit _ rfl rfl (.cons (vm_int rfl) (.cons (vm_int rfl) .nil))) .nil)) | (apply call_l (first_ok (l := [_, _, _]) (Nat.le_of_ble_eq_true rfl)) (.cons (vm_lit _ rfl rfl (.cons (vm_int rfl) (.cons (vm_int rfl) (.cons (vm_int rfl) .nil)))) .nil)) | (apply call_l (first_ok (l := [_, _, _, _]) (Nat.le_of_ble_eq_true rfl)) (.cons (vm_lit _ rfl rfl (.cons (vm_int rfl) (.cons (vm_int rfl) (.cons (vm_int rfl) (.cons (vm_int rfl) .nil))))) .nil))) <;> (try (exfalso; omega; done)) <;> (with_reducible conv => whnf))
  refine loop_x hmix hT (fun c : Nat => ([(2, I n), (3, .ptr 0 0), (4, .ptr 1 0), (7, I ((g.cols.length : Int) - 1)), (8, I (rowsN g)), (9, .ptr 2 0), (10, .ptr 3 0), (11, I c)], ⟨6, [(5, .row 1 c (fun i => eCol ((lowG g).cols.getD i [])) 82), (4, .row 1 c (fun i => eCol ((leftG g).cols.getD i [])) 82), (3, .cells [I g.first, I g.step, .own 5 1 0 c] 24), (2, .cells [I g.first, I g.step, .own 4 1 0 c] 24), (1, .cells [I r.tag, I r.miss, I r.jump, I r.limit, I r.fr, I r.to] 69), (0, .cells [I g.first, I g.step, eCols g.cols] 24)]⟩)) (fun c => c ≤ g.cols.length) (fun c => g.cols.length - c) 0 (by omega) ?_ ?_
  · exact ⟨[(4, none), (5, none)], rfl, ⟨⟨_, rfl, vm_p⟩, ⟨_, rfl, vm_ptr rfl rfl rfl⟩, ⟨_, rfl, vm_ptr rfl rfl rfl⟩, ⟨_, rfl, vm_p⟩, ⟨_, rfl, vm_p⟩, ⟨_, rfl, vm_ptr rfl rfl rfl⟩, ⟨_, rfl, vm_ptr rfl rfl rfl⟩, ⟨_, rfl, vm_p⟩, trivial⟩, ⟨⟨_, _, _, rfl⟩, ⟨_, _, _, rfl⟩, ⟨_, rfl, sbm_cells (.cons vm_p (.cons vm_p (.cons (vm_nil rfl) .nil)))⟩, ⟨_, rfl, sbm_cells (.cons vm_p (.cons vm_p (.cons (vm_nil rfl) .nil)))⟩, ⟨_, rfl, sbm_cells vmL_p⟩, ⟨_, rfl, sbm_cells vmL_p⟩, trivial⟩⟩
  intro c hc
  by_cases hcn : c < g.cols.length
  · have tc : g.cols.getD (toN ((g.cols.length : Int) - 1 - c)) [] = g.cols.getD (g.cols.length - 1 - c) [] := by rw [toN_eq, show ((g.cols.length : Int) - 1 - c).toNat = g.cols.length - 1 - c by omega]
    have tl : (g.cols.getD (toN ((g.cols.length : Int) - 1 - c)) []).length = rowsN g := by rw [tc]; exact hv.rows _ (by omega)
    have tl2 : (g.cols.getD ((g.cols.length : Int) - 1 - c).toNat []).length = rowsN g := by rw [← toN_eq]; exact tl
    with_reducible conv => whnf
    repeat' ((first | (with_reducible refine branch_t ?_) | (with_reducible refine branch_f ?_) | (with_reducible refine branch_nt ?_) | (with_reducible refine branch_nf ?_) | (with_reducible refine branch_dec (fun _ => ?_) (fun _ => ?_)) | (with_reducible refine branch_ndec (fun _ => ?_) (fun _ => ?_)) | (with_reducible refine branch_bool (fun _ => ?_) (fun _ => ?_)) | (with_reducible refine arith_64 (by omega) ?_) | (with_reducible refine ob_i (by omega) (fun _ => ?_)) | (with_reducible refine ob_i (by unfold room; omega) (fun _ => ?_)) | (with_reducible refine ob_i (by (try simp only [toN_eq] at *); (try dsimp only [toN] at *); omega) (fun _ => ?_)) | (with_reducible refine arith_64 (by (try simp only [toN_eq] at *); (try dsimp only [toN] at *); omega) ?_) | (with_reducible refine ob_k rfl ?_) | ((with_reducible refine ob_k ?_ ?_); focus kernel_rfl) | (refine yield_i hmix hT rfl hL efr eps eag ebd rfl (by kernel_rfl) ?_)  | (apply call_l (first_ok (l := [_, _]) (Nat.le_of_ble_eq_true rfl)) (.cons (vm_lit _ rfl rfl (.cons (vm_int rfl) (.cons (vm_int rfl) .nil))) .nil)) | (apply call_l (first_ok (l := [_, _, _]) (Nat.le_of_ble_eq_true rfl)) (.cons (vm_lit _ rfl rfl (.cons (vm_int rfl) (.cons (vm_int rfl) (.cons (vm_int rfl) .nil)))) .nil)) | (apply call_l (first_ok (l := [_, _, _, _]) (Nat.le_of_ble_eq_true rfl)) (.cons (vm_lit _ rfl rfl (.cons (vm_int rfl) (.cons (vm_int rfl) (.cons (vm_int rfl) (.cons (vm_int rfl) .nil))))) .nil))) <;> (try (exfalso; omega; done)) <;> (with_reducible conv => whnf))
    refine loop_i hmix hT (fun k : Nat => ([(2, I n), (3, .ptr 0 0), (4, .ptr 1 0), (7, I ((g.cols.length : Int) - 1)), (8, I (rowsN g)), (9, .ptr 2 0), (10, .ptr 3 0), (11, I c), (12, .own 6 2 0 k), (13, I ((rowsN g : Int) - 1 - k))], ⟨7, [(6, .row 2 k (fun i => eCell (cell g c (rowsN g - 1 - i))) 84), (5, .row 1 c (fun i => eCol ((lowG g).cols.getD i [])) 82), (4, .row 1 (c + 1) (fun i => eCol ((leftG g).cols.getD i [])) 82), (3, .cells [I g.first, I g.step, .own 5 1 0 c] 24), (2, .cells [I g.first, I g.step, .own 4 1 0 (c + 1)] 24), (1, .cells [I r.tag, I r.miss, I r.jump, I r.limit, I r.fr, I r.to] 69), (0, .cells [I g.first, I g.step, eCols g.cols] 24)]⟩)) (fun k => k ≤ rowsN g) (fun k => rowsN g - k) 0 (by omega) ?_ ?_
    · refine ⟨[(4, some 9), (6, none)], rfl, ⟨⟨_, rfl, vm_p⟩, ⟨_, rfl, vm_ptr rfl rfl rfl⟩, ⟨_, rfl, vm_ptr rfl rfl rfl⟩, ⟨_, rfl, vm_p⟩, ⟨_, rfl, vm_p⟩, ⟨_, rfl, vm_ptr rfl rfl rfl⟩, ⟨_, rfl, vm_ptr rfl rfl rfl⟩, ⟨_, rfl, vm_p⟩, ⟨_, rfl, vm_nil rfl⟩, ⟨_, rfl, vm_int (by omega)⟩, trivial⟩, ⟨⟨_, _, _, rfl⟩, ⟨_, rfl, sbm_row rfl fun _ _ => vm_p⟩, ⟨_, rfl, sbm_row rfl fun i hi => ?_⟩, ⟨_, rfl, sbm_cells (.cons vm_p (.cons vm_p (.cons (vm_own rfl rfl rfl rfl) .nil)))⟩, ⟨_, rfl, sbm_cells (.cons vm_p (.cons vm_p (.cons (vm_own rfl rfl rfl rfl) .nil)))⟩, ⟨_, rfl, sbm_cells vmL_p⟩, ⟨_, rfl, sbm_cells vmL_p⟩, trivial⟩⟩
      refine vm_snoc (e' := fun i => eCol ((leftG g).cols.getD i [])) hi (fun _ _ => vm_p) ?_
      rw [leftG_col hcn, ← tc]
      refine vm_fr rfl rfl (Nat.zero_add _) (Nat.le_refl _) fun j hj => ?_
      rw [appF_ge (by omega), Nat.sub_zero]
      exact vm_p
    intro k hk
    have tlc : (g.cols.getD (toN (c : Int)) []).length = rowsN g := by rw [toN_eq]; exact hv.rows c hcn
    have te : k < rowsN g → (g.cols.getD (toN (c : Int)) []).getD (toN ((rowsN g : Int) - 1 - k)) (0, 0) = cell g c (rowsN g - 1 - k) := fun h => by
      rw [toN_eq, toN_eq, show ((rowsN g : Int) - 1 - k).toNat = rowsN g - 1 - k by omega]; rfl
    with_reducible conv => whnf
    repeat' ((first | (with_reducible refine branch_t ?_) | (with_reducible refine branch_f ?_) | (with_reducible refine branch_nt ?_) | (with_reducible refine branch_nf ?_) | (with_reducible refine branch_dec (fun _ => ?_) (fun _ => ?_)) | (with_reducible refine branch_ndec (fun _ => ?_) (fun _ => ?_)) | (with_reducible refine branch_bool (fun _ => ?_) (fun _ => ?_)) | (with_reducible refine arith_64 (by omega) ?_) | (with_reducible refine ob_i (by omega) (fun _ => ?_)) | (with_reducible refine ob_i (by unfold room; omega) (fun _ => ?_)) | (with_reducible refine ob_i (by (try simp only [toN_eq] at *); (try dsimp only [toN] at *); omega) (fun _ => ?_)) | (with_reducible refine arith_64 (by (try simp only [toN_eq] at *); (try dsimp only [toN] at *); omega) ?_) | (with_reducible refine ob_k rfl ?_) | ((with_reducible refine ob_k ?_ ?_); focus kernel_rfl) | (refine yield_i hmix hT rfl hL efr eps eag ebd rfl (by kernel_rfl) ?_)  | (apply call_l (first_ok (l := [_, _]) (Nat.le_of_ble_eq_true rfl)) (.cons (vm_lit _ rfl rfl (.cons (vm_int rfl) (.cons (vm_int rfl) .nil))) .nil)) | (apply call_l (first_ok (l := [_, _, _]) (Nat.le_of_ble_eq_true rfl)) (.cons (vm_lit _ rfl rfl (.cons (vm_int rfl) (.cons (vm_int rfl) (.cons (vm_int rfl) .nil)))) .nil)) | (apply call_l (first_ok (l := [_, _, _, _]) (Nat.le_of_ble_eq_true rfl)) (.cons (vm_lit _ rfl rfl (.cons (vm_int rfl) (.cons (vm_int rfl) (.cons (vm_int rfl) (.cons (vm_int rfl) .nil))))) .nil))) <;> (try (exfalso; omega; done)) <;> (with_reducible conv => whnf))
    · have te := te (by omega)
      refine ⟨k + 1, by omega, by omega, ?_⟩
      refine ⟨[(6, some 8)], rfl, ⟨⟨_, rfl, vm_p⟩, ⟨_, rfl, vm_ptr rfl rfl rfl⟩, ⟨_, rfl, vm_ptr rfl rfl rfl⟩, ⟨_, rfl, vm_p⟩, ⟨_, rfl, vm_p⟩, ⟨_, rfl, vm_ptr rfl rfl rfl⟩, ⟨_, rfl, vm_ptr rfl rfl rfl⟩, ⟨_, rfl, vm_p⟩, ⟨_, rfl, vm_own rfl rfl rfl rfl⟩, ⟨_, rfl, vm_int (by omega)⟩, trivial⟩, ⟨⟨_, rfl, sbm_row rfl fun i hi => ?_⟩, ⟨_, rfl, sbm_row rfl fun _ _ => vm_p⟩, ⟨_, rfl, sbm_row rfl fun _ _ => vm_p⟩, ⟨_, rfl, sbm_cells (.cons vm_p (.cons vm_p (.cons (vm_own rfl rfl rfl rfl) .nil)))⟩, ⟨_, rfl, sbm_cells (.cons vm_p (.cons vm_p (.cons (vm_own rfl rfl rfl rfl) .nil)))⟩, ⟨_, rfl, sbm_cells vmL_p⟩, ⟨_, rfl, sbm_cells vmL_p⟩, trivial⟩⟩
      refine vm_snoc (e' := fun i => eCell (cell g c (rowsN g - 1 - i))) hi (fun _ _ => vm_p) ?_
      show vm _ (eCell ((g.cols.getD (toN (c : Int)) []).getD (toN ((rowsN g : Int) - 1 - k)) (0, 0))) (eCell (cell g c (rowsN g - 1 - k)))
      rw [te]
      exact vm_p
    · obtain rfl : k = rowsN g := by omega
      refine ⟨c + 1, by omega, by omega, ?_⟩
      refine ⟨[(5, some 8)], rfl, ⟨⟨_, rfl, vm_p⟩, ⟨_, rfl, vm_ptr rfl rfl rfl⟩, ⟨_, rfl, vm_ptr rfl rfl rfl⟩, ⟨_, rfl, vm_p⟩, ⟨_, rfl, vm_p⟩, ⟨_, rfl, vm_ptr rfl rfl rfl⟩, ⟨_, rfl, vm_ptr rfl rfl rfl⟩, ⟨_, rfl, vm_p⟩, trivial⟩, ⟨⟨_, rfl, sbm_row rfl fun i hi => ?_⟩, ⟨_, rfl, sbm_row rfl fun _ _ => vm_p⟩, ⟨_, rfl, sbm_cells (.cons vm_p (.cons vm_p (.cons (vm_own rfl rfl rfl rfl) .nil)))⟩, ⟨_, rfl, sbm_cells (.cons vm_p (.cons vm_p (.cons (vm_own rfl rfl rfl rfl) .nil)))⟩, ⟨_, rfl, sbm_cells vmL_p⟩, ⟨_, rfl, sbm_cells vmL_p⟩, trivial⟩⟩
      refine vm_snoc (e' := fun i => eCol ((lowG g).cols.getD i [])) hi (fun _ _ => vm_p) ?_
      rw [lowG_col hcn]
      refine vm_fr rfl rfl (by simp) (Nat.le_refl _) fun j hj => ?_
      rw [List.getD_eq_getElem?_getD, List.getElem?_map, List.getElem?_range (by simpa using hj)]
      exact vm_p
  · obtain rfl : c = g.cols.length := by omega
    with_reducible conv => whnf
    repeat' ((first | (with_reducible refine branch_t ?_) | (with_reducible refine branch_f ?_) | (with_reducible refine branch_nt ?_) | (with_reducible refine branch_nf ?_) | (with_reducible refine branch_dec (fun _ => ?_) (fun _ => ?_)) | (with_reducible refine branch_ndec (fun _ => ?_) (fun _ => ?_)) | (with_reducible refine branch_bool (fun _ => ?_) (fun _ => ?_)) | (with_reducible refine arith_64 (by omega) ?_) | (with_reducible refine ob_i (by omega) (fun _ => ?_)) | (with_reducible refine ob_i (by unfold room; omega) (fun _ => ?_)) | (with_reducible refine ob_i (by (try simp only [toN_eq, Int.toNat_natCast] at *); (try dsimp only [toN] at *); omega) (fun _ => ?_)) | (with_reducible refine arith_64 (by (try simp only [toN_eq, Int.toNat_natCast] at *); (try dsimp only [toN] at *); omega) ?_) | (with_reducible refine ob_k rfl ?_) | ((with_reducible refine ob_k ?_ ?_); focus kernel_rfl) | (refine yield_i hmix hT rfl hL efr eps eag ebd rfl (by kernel_rfl) ?_)  | (apply call_l (first_ok (l := [_, _]) (Nat.le_of_ble_eq_true rfl)) (.cons (vm_lit _ rfl rfl (.cons (vm_int rfl) (.cons (vm_int rfl) .nil))) .nil)) | (apply call_l (first_ok (l := [_, _, _]) (Nat.le_of_ble_eq_true rfl)) (.cons (vm_lit _ rfl rfl (.cons (vm_int rfl) (.cons (vm_int rfl) (.cons (vm_int rfl) .nil)))) .nil)) | (apply call_l (first_ok (l := [_, _, _, _]) (Nat.le_of_ble_eq_true rfl)) (.cons (vm_lit _ rfl rfl (.cons (vm_int rfl) (.cons (vm_int rfl) (.cons (vm_int rfl) (.cons (vm_int rfl) .nil))))) .nil))) <;> (try (exfalso; omega; done)) <;> (with_reducible conv => whnf))
    refine ⟨([(2, I n), (3, .ptr 0 0), (4, .ptr 1 0), (7, I ((g.cols.length : Int) - 1)), (8, I (rowsN g)), (9, .ptr 2 0), (10, .ptr 3 0)], ⟨4, [(3, .cells [I g.first, I g.step, eCols (lowG g).cols] 24), (2, .cells [I g.first, I g.step, eCols (leftG g).cols] 24), (1, .cells [I r.tag, I r.miss, I r.jump, I r.limit, I r.fr, I r.to] 69), (0, .cells [I g.first, I g.step, eCols g.cols] 24)]⟩), ⟨[], rfl, ⟨⟨_, rfl, vm_p⟩, ⟨_, rfl, vm_ptr rfl rfl rfl⟩, ⟨_, rfl, vm_ptr rfl rfl rfl⟩, ⟨_, rfl, vm_p⟩, ⟨_, rfl, vm_p⟩, ⟨_, rfl, vm_ptr rfl rfl rfl⟩, ⟨_, rfl, vm_ptr rfl rfl rfl⟩, trivial⟩, ⟨⟨_, rfl, sbm_cells (.cons vm_p (.cons vm_p (.cons (vm_fr rfl rfl (lowG_len g).symm (Nat.le_refl _) fun _ _ => vm_p) .nil)))⟩, ⟨_, rfl, sbm_cells (.cons vm_p (.cons vm_p (.cons (vm_fr rfl rfl (leftG_len g).symm (Nat.le_refl _) fun _ _ => vm_p) .nil)))⟩, ⟨_, rfl, sbm_cells vmL_p⟩, ⟨_, rfl, sbm_cells vmL_p⟩, trivial⟩⟩, ?_⟩
    have hb : bothE g r = 0 := by unfold bothE; rw [if_neg (by omega)]; exact hr
    have M := leftG_mir (r := r) hv
    have ML := lowG_low (r := r) hv
    have f2 := few_facts (g := g) ‹fewB g = true›
    have CH := pCheapest_ok (r := r) hg
    rw [show cheapP g r = bestP g r from if_pos hb, show cheapC g r = leastC g r from if_pos hb, hb] at CH
    have ll := leftG_len g
    have lo := lowG_len g
    have hzl := leftG_ok hz
    have hvl := gram_val hzl
    have hzo := lowG_ok hz
    have hvo := gram_val hzo
    have rt : (subR r ((g.cols.length : Int) - 1 - r.to) ((g.cols.length : Int) - 1 - r.fr)).Val (leftG g) := ⟨rv.tag, rv.miss, rv.jump, rv.limit, by show 0 ≤ (g.cols.length : Int) - 1 - r.to; omega, by show (g.cols.length : Int) - 1 - r.to ≤ (g.cols.length : Int) - 1 - r.fr; omega, by show (g.cols.length : Int) - 1 - r.fr < _; omega⟩
    have ro : r.Val (lowG g) := ⟨rv.tag, rv.miss, rv.jump, rv.limit, rv.fr, rv.le, by omega⟩
    have okl : (leftG g).Ok := ⟨by omega, lists_leng hvl⟩
    have oko : (lowG g).Ok := ⟨by omega, lists_leng hvo⟩
    have bl0 : bothE (leftG g) (subR r ((g.cols.length : Int) - 1 - r.to) ((g.cols.length : Int) - 1 - r.fr)) = 0 := by unfold bothE; rw [if_neg (by omega)]; exact rulesE_val rt
    have bo0 : bothE (lowG g) r = 0 := by unfold bothE; rw [if_neg (by omega)]; exact rulesE_val ro
    have el : leastC (leftG g) (subR r ((g.cols.length : Int) - 1 - r.to) ((g.cols.length : Int) - 1 - r.fr)) = leastC g r := Int.le_antisymm (mir_least hv rv hvl rt M) (mir_least hvl rt hv rv (mir_sym M))
    have eo : leastC (lowG g) r = leastC g r := Int.le_antisymm (low_least hv rv hvo ro ML) (low_least hvo ro hv rv (low_sym ML))
    have l100 := fun i => (lists_leng hv i)
    have f3 : (leftG g).cols.length ≤ 100 ∧ ∀ i, ((leftG g).cols.getD i []).length ≤ 100 := ⟨by omega, lists_h hvl⟩
    have f4 : (lowG g).cols.length ≤ 100 ∧ ∀ i, ((lowG g).cols.getD i []).length ≤ 100 := ⟨by omega, lists_h hvo⟩
    have CL := pCheapest_ok (r := (subR r ((g.cols.length : Int) - 1 - r.to) ((g.cols.length : Int) - 1 - r.fr))) okl
    rw [show cheapC (leftG g) (subR r ((g.cols.length : Int) - 1 - r.to) ((g.cols.length : Int) - 1 - r.fr)) = leastC g r from (if_pos bl0).trans el, bl0] at CL
    have CO := pCheapest_ok (r := r) oko
    rw [show cheapC (lowG g) r = leastC g r from (if_pos bo0).trans eo, bo0] at CO
    have nl := bestP_len (g := g) (r := r)
    have en : (nC r : Int) = r.to - r.fr + 1 := by unfold nC; omega
    have bval := path_val' hv rv
    have be := best_fit hv rv
    have PE := rPathErr_ok hg (p := bestP g r) (by omega) hv (by have : (bestP g r).fr = r.fr := rfl; omega)
    rw [pathE_val bval] at PE
    have RF := rFits_ok hv rv bval
    rw [be] at RF
    repeat' ((first | (with_reducible refine branch_t ?_) | (with_reducible refine branch_f ?_) | (with_reducible refine branch_nt ?_) | (with_reducible refine branch_nf ?_) | (with_reducible refine branch_dec (fun _ => ?_) (fun _ => ?_)) | (with_reducible refine branch_ndec (fun _ => ?_) (fun _ => ?_)) | (with_reducible refine branch_bool (fun _ => ?_) (fun _ => ?_)) | (with_reducible refine arith_64 (by omega) ?_) | (with_reducible refine ob_i (by omega) (fun _ => ?_)) | (with_reducible refine ob_i (by unfold room; omega) (fun _ => ?_)) | (with_reducible refine ob_i (by (try simp only [] at *); (try dsimp only [toN] at *); omega) (fun _ => ?_)) | (with_reducible refine arith_64 (by (try simp only [toN_eq, Int.toNat_natCast] at *); (try dsimp only [toN] at *); omega) ?_) | (with_reducible refine ob_k rfl ?_) | ((with_reducible refine ob_k ?_ ?_); focus kernel_rfl) | (refine yield_i hmix hT rfl hL efr eps eag ebd rfl (by kernel_rfl) ?_) | (apply call_u (copy_ok f2.1 f2.2)) | (apply call_u (copy_ok f3.1 f3.2)) | (apply call_u (copy_ok f4.1 f4.2)) | (apply call_u CH) | (apply call_u CL) | (apply call_u CO) | (apply call_u PE) | (apply call_u RF) | (apply call_l (first_ok (l := [_, _]) (Nat.le_of_ble_eq_true rfl)) (.cons (vm_lit _ rfl rfl (.cons (vm_int rfl) (.cons (vm_int rfl) .nil))) .nil)) | (apply call_l (first_ok (l := [_, _, _]) (Nat.le_of_ble_eq_true rfl)) (.cons (vm_lit _ rfl rfl (.cons (vm_int rfl) (.cons (vm_int rfl) (.cons (vm_int rfl) .nil)))) .nil)) | (apply call_l (first_ok (l := [_, _, _, _]) (Nat.le_of_ble_eq_true rfl)) (.cons (vm_lit _ rfl rfl (.cons (vm_int rfl) (.cons (vm_int rfl) (.cons (vm_int rfl) (.cons (vm_int rfl) .nil))))) .nil))) <;> (try (exfalso; omega; done)) <;> (with_reducible conv => whnf))
    refine loop_x hmix hT (fun k : Nat => ([(2, I n), (3, .ptr 0 0), (4, .ptr 1 0), (8, I (rowsN g)), (9, .ptr 2 0), (10, .ptr 3 0), (14, .ptr 4 0), (15, .ptr 5 0), (16, I (leastC g r)), (24, .ptr 6 0), (25, .ptr 7 0), (26, I k)], ⟨10, [(9, .row 1 k (fun i => I ((flipL (rowsN g) (bestP g r).rows).getD i 0)) 3), (8, .row 1 k (fun i => I ((revL (bestP g r).rows).getD i 0)) 3), (7, .cells [I r.fr, .own 9 1 0 k] 27), (6, .cells [I ((g.cols.length : Int) - 1 - r.to), .own 8 1 0 k] 27), (5, .cells [I (bestP g r).fr, eInts (bestP g r).rows] 27), (4, .cells [I r.tag, I r.miss, I r.jump, I r.limit, I ((g.cols.length : Int) - 1 - r.to), I ((g.cols.length : Int) - 1 - r.fr)] 69), (3, .cells [I g.first, I g.step, eCols (lowG g).cols] 24), (2, .cells [I g.first, I g.step, eCols (leftG g).cols] 24), (1, .cells [I r.tag, I r.miss, I r.jump, I r.limit, I r.fr, I r.to] 69), (0, .cells [I g.first, I g.step, eCols g.cols] 24)]⟩)) (fun k => k ≤ nC r) (fun k => nC r - k) 0 (by omega) ?_ ?_
    · refine ⟨[(6, some 8), (7, some 9), (8, none), (9, none)], rfl, ?_, ?_⟩ <;> repeat' (first | exact trivial | exact vm_p | exact vm_ptr rfl rfl rfl | exact vm_yld rfl rfl | exact vm_own rfl rfl rfl rfl | exact vm_own rfl rfl (by omega) (by omega) | exact vm_int (by omega) | exact vm_nil rfl | exact sbm_cells vmL_p | exact sbm_row rfl (fun _ _ => vm_p) | refine ⟨⟨_, rfl, ?_⟩, ?_⟩ | refine ⟨⟨_, _, _, rfl⟩, ?_⟩ | (refine sbm_loop ?_; rw [efr]) | refine sbm_cells ?_ | refine vmL.cons ?_ ?_ | exact vmL.nil | refine vm_own rfl rfl rfl ?_)
    intro k hk
    have vr := bval.rows
    have e1 : toN (((bestP g r).rows.length : Int) - 1 - k) = nC r - 1 - k := by rw [toN_eq]; omega
    by_cases hkn : k < nC r
    · have vk := bval.rows (toN (k : Int)) (by rw [toN_eq]; omega)
      with_reducible conv => whnf
      repeat' ((first | (with_reducible refine branch_t ?_) | (with_reducible refine branch_f ?_) | (with_reducible refine branch_nt ?_) | (with_reducible refine branch_nf ?_) | (with_reducible refine branch_dec (fun _ => ?_) (fun _ => ?_)) | (with_reducible refine branch_ndec (fun _ => ?_) (fun _ => ?_)) | (with_reducible refine branch_bool (fun _ => ?_) (fun _ => ?_)) | (with_reducible refine arith_64 (by omega) ?_) | (with_reducible refine ob_i (by omega) (fun _ => ?_)) | (with_reducible refine ob_i (by unfold room; omega) (fun _ => ?_)) | (with_reducible refine ob_i (by (try simp only [toN_eq] at *); (try dsimp only [toN] at *); omega) (fun _ => ?_)) | (with_reducible refine arith_64 (by (try simp only [toN_eq] at *); (try dsimp only [toN] at *); omega) ?_) | (with_reducible refine ob_k rfl ?_) | ((with_reducible refine ob_k ?_ ?_); focus kernel_rfl) | (refine yield_i hmix hT rfl hL efr eps eag ebd rfl (by kernel_rfl) ?_)  | (apply call_l (first_ok (l := [_, _]) (Nat.le_of_ble_eq_true rfl)) (.cons (vm_lit _ rfl rfl (.cons (vm_int rfl) (.cons (vm_int rfl) .nil))) .nil)) | (apply call_l (first_ok (l := [_, _, _]) (Nat.le_of_ble_eq_true rfl)) (.cons (vm_lit _ rfl rfl (.cons (vm_int rfl) (.cons (vm_int rfl) (.cons (vm_int rfl) .nil)))) .nil)) | (apply call_l (first_ok (l := [_, _, _, _]) (Nat.le_of_ble_eq_true rfl)) (.cons (vm_lit _ rfl rfl (.cons (vm_int rfl) (.cons (vm_int rfl) (.cons (vm_int rfl) (.cons (vm_int rfl) .nil))))) .nil))) <;> (try (exfalso; omega; done)) <;> (with_reducible conv => whnf))
      refine ⟨k + 1, by omega, by omega, ?_⟩
      refine ⟨[(8, some 11), (9, some 13)], rfl, ?_, ?_⟩ <;> repeat' (first | exact trivial | exact vm_p | exact vm_ptr rfl rfl rfl | exact vm_yld rfl rfl | exact vm_own rfl rfl rfl rfl | exact vm_own rfl rfl (by omega) (by omega) | exact vm_int (by omega) | exact vm_nil rfl | exact sbm_cells vmL_p | exact sbm_row rfl (fun _ _ => vm_p) | refine ⟨⟨_, rfl, ?_⟩, ?_⟩ | refine ⟨⟨_, _, _, rfl⟩, ?_⟩ | (refine sbm_loop ?_; rw [efr]) | refine sbm_cells ?_ | refine vmL.cons ?_ ?_ | exact vmL.nil | refine vm_own rfl rfl rfl ?_)
      · refine sbm_row rfl fun i hi => vm_snoc (e' := fun i => I ((flipL (rowsN g) (bestP g r).rows).getD i 0)) hi (fun _ _ => vm_p) (vm_int ?_)
        rw [flipL_at (by omega), toN_eq]; rfl
      · refine sbm_row rfl fun i hi => vm_snoc (e' := fun i => I ((revL (bestP g r).rows).getD i 0)) hi (fun _ _ => vm_p) (vm_int ?_)
        rw [revL_at (by omega), e1, nl]
    obtain rfl : k = nC r := by omega
    with_reducible conv => whnf
    repeat' ((first | (with_reducible refine branch_t ?_) | (with_reducible refine branch_f ?_) | (with_reducible refine branch_nt ?_) | (with_reducible refine branch_nf ?_) | (with_reducible refine branch_dec (fun _ => ?_) (fun _ => ?_)) | (with_reducible refine branch_ndec (fun _ => ?_) (fun _ => ?_)) | (with_reducible refine branch_bool (fun _ => ?_) (fun _ => ?_)) | (with_reducible refine arith_64 (by omega) ?_) | (with_reducible refine ob_i (by omega) (fun _ => ?_)) | (with_reducible refine ob_i (by unfold room; omega) (fun _ => ?_)) | (with_reducible refine ob_i (by (try simp only [toN_eq] at *); (try dsimp only [toN] at *); omega) (fun _ => ?_)) | (with_reducible refine arith_64 (by (try simp only [toN_eq] at *); (try dsimp only [toN] at *); omega) ?_) | (with_reducible refine ob_k rfl ?_) | ((with_reducible refine ob_k ?_ ?_); focus kernel_rfl) | (refine yield_i hmix hT rfl hL efr eps eag ebd rfl (by kernel_rfl) ?_)  | (apply call_l (first_ok (l := [_, _]) (Nat.le_of_ble_eq_true rfl)) (.cons (vm_lit _ rfl rfl (.cons (vm_int rfl) (.cons (vm_int rfl) .nil))) .nil)) | (apply call_l (first_ok (l := [_, _, _]) (Nat.le_of_ble_eq_true rfl)) (.cons (vm_lit _ rfl rfl (.cons (vm_int rfl) (.cons (vm_int rfl) (.cons (vm_int rfl) .nil)))) .nil)) | (apply call_l (first_ok (l := [_, _, _, _]) (Nat.le_of_ble_eq_true rfl)) (.cons (vm_lit _ rfl rfl (.cons (vm_int rfl) (.cons (vm_int rfl) (.cons (vm_int rfl) (.cons (vm_int rfl) .nil))))) .nil))) <;> (try (exfalso; omega; done)) <;> (with_reducible conv => whnf))
    refine ⟨([(2, I n), (3, .ptr 0 0), (4, .ptr 1 0), (8, I (rowsN g)), (9, .ptr 2 0), (10, .ptr 3 0), (14, .ptr 4 0), (15, .ptr 5 0), (16, I (leastC g r)), (24, .ptr 6 0), (25, .ptr 7 0)], ⟨8, [(7, .cells [I r.fr, eInts (flipL (rowsN g) (bestP g r).rows)] 27), (6, .cells [I ((g.cols.length : Int) - 1 - r.to), eInts (revL (bestP g r).rows)] 27), (5, .cells [I (bestP g r).fr, eInts (bestP g r).rows] 27), (4, .cells [I r.tag, I r.miss, I r.jump, I r.limit, I ((g.cols.length : Int) - 1 - r.to), I ((g.cols.length : Int) - 1 - r.fr)] 69), (3, .cells [I g.first, I g.step, eCols (lowG g).cols] 24), (2, .cells [I g.first, I g.step, eCols (leftG g).cols] 24), (1, .cells [I r.tag, I r.miss, I r.jump, I r.limit, I r.fr, I r.to] 69), (0, .cells [I g.first, I g.step, eCols g.cols] 24)]⟩), ?_, ?_⟩
    · refine ⟨[], rfl, ?_, ?_⟩ <;> repeat' (first | exact trivial | exact vm_p | exact vm_ptr rfl rfl rfl | exact vm_yld rfl rfl | exact vm_own rfl rfl rfl rfl | exact vm_own rfl rfl (by omega) (by omega) | exact vm_int (by omega) | exact vm_nil rfl | exact sbm_cells vmL_p | exact sbm_row rfl (fun _ _ => vm_p) | refine ⟨⟨_, rfl, ?_⟩, ?_⟩ | refine ⟨⟨_, _, _, rfl⟩, ?_⟩ | (refine sbm_loop ?_; rw [efr]) | refine sbm_cells ?_ | refine vmL.cons ?_ ?_ | exact vmL.nil | refine vm_own rfl rfl rfl ?_)
      · exact vm_fr rfl rfl (by rw [flipL_len]; omega) (Nat.le_refl _) fun _ _ => vm_p
      · exact vm_fr rfl rfl (by rw [revL_len]; omega) (Nat.le_refl _) fun _ _ => vm_p
    have pf := fit_of bval be
    obtain ⟨fL, cL⟩ := mir_fit rv M pf
    have fL : Path.Fit (leftG g) (subR r ((g.cols.length : Int) - 1 - r.to) ((g.cols.length : Int) - 1 - r.fr)) ⟨(g.cols.length : Int) - 1 - r.to, revL (bestP g r).rows⟩ := fL
    have cL : costK (leftG g) (subR r ((g.cols.length : Int) - 1 - r.to) ((g.cols.length : Int) - 1 - r.fr)) ⟨(g.cols.length : Int) - 1 - r.to, revL (bestP g r).rows⟩ (bestP g r).rows.length = costK g r (bestP g r) (bestP g r).rows.length := cL
    obtain ⟨fD, cD⟩ := low_fit rv ML pf
    have lR := revL_len (bestP g r).rows
    have lF := flipL_len (rowsN g) (bestP g r).rows
    have bc := best_costK hv rv
    have C1 := pCostOf_ok okl (r := subR r ((g.cols.length : Int) - 1 - r.to) ((g.cols.length : Int) - 1 - r.fr)) (p := ⟨(g.cols.length : Int) - 1 - r.to, revL (bestP g r).rows⟩) (by dsimp only; omega)
    rw [cost_fit bl0 fL] at C1
    have C1 : FnOK Try.prog 49 [eGram (leftG g), eRules (subR r ((g.cols.length : Int) - 1 - r.to) ((g.cols.length : Int) - 1 - r.fr)), ePath ⟨(g.cols.length : Int) - 1 - r.to, revL (bestP g r).rows⟩] (.tup [I (leastC g r), I 0]) [] := by
      have h := C1
      dsimp only at h
      rw [lR, cL, bc] at h
      exact h
    have C2 := pCostOf_ok oko (r := r) (p := ⟨r.fr, flipL (rowsN g) (bestP g r).rows⟩) (by dsimp only; omega)
    rw [cost_fit bo0 fD] at C2
    have C2 : FnOK Try.prog 49 [eGram (lowG g), eRules r, ePath ⟨r.fr, flipL (rowsN g) (bestP g r).rows⟩] (.tup [I (leastC g r), I 0]) [] := by
      have h := C2
      dsimp only at h
      rw [lF, cD, bc] at h
      exact h
    obtain ⟨m0, m1⟩ := modE_bd (a := n) (n := r.to - r.fr + 1) (by omega)
    have MD := mod_ok (a := n) (n := r.to - r.fr + 1) (by omega)
    obtain ⟨m, hm⟩ : ∃ m : Nat, modE n (r.to - r.fr + 1) = m := ⟨(modE n (r.to - r.fr + 1)).toNat, by omega⟩
    rw [hm] at MD m0 m1
    have r1 := subR_val rv (a := r.fr) (b := r.fr + m) (by omega) (by omega) (by omega)
    have r2 := subR_val rv (a := r.fr + m) (b := r.to) (by omega) (by omega) (by omega)
    have b1 : bothE g (subR r r.fr (r.fr + m)) = 0 := by unfold bothE; rw [if_neg (by omega)]; exact rulesE_val r1
    have b2 : bothE g (subR r (r.fr + m) r.to) = 0 := by unfold bothE; rw [if_neg (by omega)]; exact rulesE_val r2
    have X1 := pCheapest_ok (r := subR r r.fr (r.fr + m)) hg
    rw [show cheapP g (subR r r.fr (r.fr + m)) = bestP g (subR r r.fr (r.fr + m)) from if_pos b1, show cheapC g (subR r r.fr (r.fr + m)) = leastC g (subR r r.fr (r.fr + m)) from if_pos b1, b1] at X1
    have X2 := pCheapest_ok (r := subR r (r.fr + m) r.to) hg
    rw [show cheapP g (subR r (r.fr + m) r.to) = bestP g (subR r (r.fr + m) r.to) from if_pos b2, show cheapC g (subR r (r.fr + m) r.to) = leastC g (subR r (r.fr + m) r.to) from if_pos b2, b2] at X2
    have en1 : nC (subR r r.fr (r.fr + m)) = m + 1 := by rw [subR_nC]; omega
    have en2 : nC (subR r (r.fr + m) r.to) = nC r - m := by rw [subR_nC]; omega
    have n1 : (bestP g (subR r r.fr (r.fr + m))).rows.length = m + 1 := by rw [bestP_len, en1]
    have n2 : (bestP g (subR r (r.fr + m) r.to)).rows.length = nC r - m := by rw [bestP_len, en2]
    have g1 : Path.Fit g (subR r r.fr (r.fr + m)) ⟨r.fr, subL (bestP g r).rows 0 (m + 1)⟩ := by
      have h := part_fit rv pf (o := 0) (n := m + 1) (by omega) (by omega)
      rwa [show r.fr + ((0 : Nat) : Int) = r.fr by omega, show r.fr + ((m + 1 : Nat) : Int) - 1 = r.fr + m by omega] at h
    have g2 : Path.Fit g (subR r (r.fr + m) r.to) ⟨r.fr + m, subL (bestP g r).rows m ((bestP g r).rows.length - m)⟩ := by
      have h := part_fit rv pf (o := m) (n := (bestP g r).rows.length - m) (by omega) (by omega)
      rwa [show r.fr + (m : Int) + (((bestP g r).rows.length - m : Nat) : Int) - 1 = r.to by omega] at h
    have D1 := pCostOf_ok (r := subR r r.fr (r.fr + m)) hg (p := ⟨r.fr, subL (bestP g r).rows 0 (m + 1)⟩) (by dsimp only; rw [subL_len]; omega)
    have D2 := pCostOf_ok (r := subR r (r.fr + m) r.to) hg (p := ⟨r.fr + m, subL (bestP g r).rows m ((bestP g r).rows.length - m)⟩) (by dsimp only; rw [subL_len]; omega)
    rw [cost_fit b1 g1] at D1
    rw [cost_fit b2 g2] at D2
    have tc := two_cost pf (a := r.fr + m) (m := m) rfl (by omega)
    have u1 := no_cheaperK hv r1 g1
    have u2 := no_cheaperK hv r2 g2
    have w1 := costK_bd hv r1 g1 _ (Nat.le_refl _)
    have w2 := costK_bd hv r2 g2 _ (Nat.le_refl _)
    dsimp only at D1 D2 u1 u2 w1 w2
    rw [subL_len] at D1 D2 u1 u2 w1 w2
    rw [bc] at tc
    have fx := fit_of (path_val' hv r1) (best_fit hv r1)
    have fy := fit_of (path_val' hv r2) (best_fit hv r2)
    have jc := fun e => join_cost hv rv rfl (by omega) fx fy (m := m) e
    have v1 := costK_bd hv r1 fx _ (Nat.le_refl _)
    have v2 := costK_bd hv r2 fy _ (Nat.le_refl _)
    rw [best_costK hv r1, best_costK hv r2] at jc
    rw [best_costK hv r1] at v1
    rw [best_costK hv r2] at v2
    have S1 := copySub_ok (l := (bestP g r).rows) (o := toN 0) (N := toN (r.fr + m - r.fr + 1) - toN 0) (o' := 0) (n := m + 1) rfl (by rw [toN_eq, toN_eq]; omega) (by omega)
    have S2 := copySub_ok (l := (bestP g r).rows) (o := toN (r.fr + m - r.fr)) (N := (bestP g r).rows.length - toN (r.fr + m - r.fr)) (o' := m) (n := (bestP g r).rows.length - m) (by rw [toN_eq]; omega) (by rw [toN_eq]; omega) (by omega)
    have pv := bval.rows m (by omega)
    have pg := (pf.good m (by omega)).1
    have yv := (path_val' hv r2).rows 0 (by omega)
    have yg := (fy.good 0 (by omega)).1
    have P1 := price_le hv rv (c := (r.fr + m).toNat) (w := ((bestP g r).rows.getD m 0).toNat) (by omega) (by omega)
    have P2 := price_le hv rv (c := (r.fr + m).toNat) (w := ((bestP g (subR r (r.fr + m) r.to)).rows.getD 0 0).toNat) (by omega) (by omega)
    have E1 : FnOK Try.prog 52 [eGram g, eRules r, I (r.fr + m), I ((bestP g r).rows.getD (toN (r.fr + m - r.fr)) 0)] (I (price g r (r.fr + m).toNat ((bestP g r).rows.getD m 0).toNat)) [] := by
      rw [show toN (r.fr + m - r.fr) = m by rw [toN_eq]; omega]
      exact rCellI hv (by omega) (by omega)
    have E2 : FnOK Try.prog 52 [eGram g, eRules r, I (r.fr + m), I ((bestP g (subR r (r.fr + m) r.to)).rows.getD (toN 0) 0)] (I (price g r (r.fr + m).toNat ((bestP g (subR r (r.fr + m) r.to)).rows.getD 0 0).toNat)) [] := by
      rw [show toN (0 : Int) = 0 from rfl]
      exact rCellI hv (by omega) (by omega)
    have ex : toN (((bestP g (subR r r.fr (r.fr + m))).rows.length : Int) - 1) = m := by rw [toN_eq]; omega
    clear l100 CH CL CO PE RF fL cL fD cD g1 g2 fx fy M ML
    repeat' ((first | (with_reducible refine branch_t ?_) | (with_reducible refine branch_f ?_) | (with_reducible refine branch_nt ?_) | (with_reducible refine branch_nf ?_) | (with_reducible refine branch_dec (fun _ => ?_) (fun _ => ?_)) | (with_reducible refine branch_ndec (fun _ => ?_) (fun _ => ?_)) | (with_reducible refine branch_bool (fun _ => ?_) (fun _ => ?_)) | (with_reducible refine arith_64 (by omega) ?_) | (with_reducible refine ob_i (by omega) (fun _ => ?_)) | (with_reducible refine ob_i (by unfold room; omega) (fun _ => ?_)) | (with_reducible refine ob_i (by (try simp only [toN_eq] at *); (try dsimp only [toN] at *); omega) (fun _ => ?_)) | (with_reducible refine arith_64 (by (try simp only [toN_eq] at *); (try dsimp only [toN] at *); omega) ?_) | (with_reducible refine ob_k rfl ?_) | ((with_reducible refine ob_k ?_ ?_); focus kernel_rfl) | (refine yield_i hmix hT rfl hL efr eps eag ebd rfl (by kernel_rfl) ?_) | (apply call_u (copy_ok f2.1 f2.2)) | (apply call_u C1) | (apply call_u C2) | (apply call_u MD) | (apply call_u X1) | (apply call_u X2) | (apply call_u S1) | (apply call_u S2) | (apply call_u D1) | (apply call_u D2) | (apply call_u E1) | (apply call_u E2) | (apply call_l (first_ok (l := [_, _]) (Nat.le_of_ble_eq_true rfl)) (.cons (vm_lit _ rfl rfl (.cons (vm_int rfl) (.cons (vm_int rfl) .nil))) .nil)) | (apply call_l (first_ok (l := [_, _, _]) (Nat.le_of_ble_eq_true rfl)) (.cons (vm_lit _ rfl rfl (.cons (vm_int rfl) (.cons (vm_int rfl) (.cons (vm_int rfl) .nil)))) .nil)) | (apply call_l (first_ok (l := [_, _, _, _]) (Nat.le_of_ble_eq_true rfl)) (.cons (vm_lit _ rfl rfl (.cons (vm_int rfl) (.cons (vm_int rfl) (.cons (vm_int rfl) (.cons (vm_int rfl) .nil))))) .nil))) <;> (try (exfalso; omega; done)) <;> (with_reducible conv => whnf))
    · exact ret0 vm_p
    · refine ret0 (vm_bool (decide_eq_true (jc ?_)))
      have h := ‹¬ (bestP g (subR r r.fr (r.fr + m))).rows.getD (toN (((bestP g (subR r r.fr (r.fr + m))).rows.length : Int) - 1)) 0 ≠ (bestP g (subR r (r.fr + m) r.to)).rows.getD (toN 0) 0›
      rw [ex] at h
      exact Decidable.not_not.1 h
end Go.Proofs.Ytmiphilcplojnaa
