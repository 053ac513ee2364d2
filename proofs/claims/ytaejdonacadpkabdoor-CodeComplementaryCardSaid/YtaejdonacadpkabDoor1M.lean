/-
  Chapter 1: a frame that is compressed (by contract).
  Conditions: none.
-/
import Derived.Test.YtaejdonacadpkabDoor1L
import Derived.Test.YtaejdonacadpkabDoorFz
namespace Go.Proofs.YtaejdonacadpkabDoor
open Go.RowKit Fx
theorem range_map_at {α : Type} {g : Nat → α} {n k : Nat} {d : α} (h : k < n) : ((List.range n).map g).getD k d = g k := by
  simp [List.getD_eq_getElem?_getD, h]
@[reducible] def stC (f : Frm) (w : List (Int × Int)) (k : Nat) : SW := ⟨6, [(5, .row 1 k (fun i => I (cM f i w.length)) 3), (4, .row 2 k (fun i => eP (cS f w i w.length)) 78), (3, .cells [.own 4 2 0 k, .own 5 1 0 k] 43), (2, .cells [I f.g, I f.lim, ePs f.sm, eInts f.gp, eBn f.sm.length (usB f)] 113), (1, .cells [.sc (.slice none 0 0), .sc (.slice none 0 0)] 43), (0, .cells [I f.g, I f.lim, ePs f.sm, eInts f.gp] 75)]⟩
set_option maxHeartbeats 4000000 in
set_option maxRecDepth 100000 in
theorem compressed_good {f : Frm} {w : List (Int × Int)} (hg : f.gp.length ≤ 9223372036854775807) (h : cmpE f w = 0) : FnOK Tryd.prog 36 [eF f, ePs w] (.tup [eL (cmpL f w), I 0]) [] := by
  have hf : frE f = 0 := by
    unfold cmpE at h
    split at h
    · exact h
    · rename_i c; exact Decidable.not_not.1 c
  have hw : waveE w = 0 := by
    unfold cmpE at h
    rw [if_neg (fun c => c hf)] at h
    split at h
    · exact h
    · rename_i c; exact Decidable.not_not.1 c
  have hm : w.length ≤ f.sm.length := by
    unfold cmpE at h
    rw [if_neg (fun c => c hf), if_neg (fun c => c hw)] at h
    split at h
    · assumption
    · cases h
  obtain ⟨w0, w1, wu⟩ := wave_val hw
  have v := frm_val hf
  have n1 := v.n1
  have W := waveErr_ok (w := w) (by omega)
  have O := open_good hg hf
  have C := conjugates_ok (w := w) (by omega)
  have F := first_ok (l := [0, waveE w, if decide ((w.length : Int) ≤ f.sm.length) = true then 0 else 10]) (by simp)
  have e : firstErr [0, waveE w, if decide ((w.length : Int) ≤ f.sm.length) = true then 0 else 10] = 0 := by
    rw [first_three, hw]; simp; omega
  rw [e] at F
  refine fn_i hmix hT Tryd.f36 (by kernel_rfl) rfl (by kernel_rfl) ?_
  with_reducible conv => whnf
  repeat' ((first | (with_reducible refine branch_t ?_) | (with_reducible refine branch_f ?_) | (with_reducible refine branch_nt ?_) | (with_reducible refine branch_nf ?_) | (with_reducible refine branch_dec (fun _ => ?_) (fun _ => ?_)) | (with_reducible refine branch_ndec (fun _ => ?_) (fun _ => ?_)) | (with_reducible refine branch_bool (fun _ => ?_) (fun _ => ?_)) | (with_reducible refine arith_64 (by omega) ?_) | (with_reducible refine ob_i (by omega) (fun _ => ?_)) | (with_reducible refine ob_i (by unfold room; omega) (fun _ => ?_)) | (with_reducible refine ob_i (by (try simp only [] at *); (try dsimp only [toN] at *); omega) (fun _ => ?_)) | (with_reducible refine arith_64 (by (try simp only [toN_eq, Int.toNat_natCast] at *); (try dsimp only [toN] at *); omega) ?_) | (with_reducible refine ob_k rfl ?_) | ((with_reducible refine ob_k ?_ ?_); focus kernel_rfl) | (refine yield_i hmix hT rfl hL efr eps eag ebd rfl (by kernel_rfl) ?_) | (apply call_u O) | (apply call_u W) | (apply call_u C) | (apply call_u unless_ok) | (apply call_l F (.cons (vm_lit _ rfl rfl (.cons (vm_int rfl) (.cons (vm_int rfl) (.cons (vm_int rfl) .nil)))) .nil)) | (apply call_l (first_ok (l := [_, _]) (Nat.le_of_ble_eq_true rfl)) (.cons (vm_lit _ rfl rfl (.cons (vm_int rfl) (.cons (vm_int rfl) .nil))) .nil)) | (apply call_l (first_ok (l := [_, _, _]) (Nat.le_of_ble_eq_true rfl)) (.cons (vm_lit _ rfl rfl (.cons (vm_int rfl) (.cons (vm_int rfl) (.cons (vm_int rfl) .nil)))) .nil)) | (apply call_l (first_ok (l := [_, _, _, _]) (Nat.le_of_ble_eq_true rfl)) (.cons (vm_lit _ rfl rfl (.cons (vm_int rfl) (.cons (vm_int rfl) (.cons (vm_int rfl) (.cons (vm_int rfl) .nil))))) .nil))) <;> (try (exfalso; omega; done)) <;> (with_reducible conv => whnf))
  refine loop_i hmix hT (fun k : Nat => ([(2, .ptr 0 0), (4, .ptr 1 0), (6, .ptr 2 0), (8, eCjs w), (9, .ptr 3 0), (44, I (f.sm.length - w.length + 1 : Nat)), (45, I k)], stC f w k)) (fun k => k ≤ f.sm.length - w.length + 1) (fun k => f.sm.length - w.length + 1 - k) 0 (by omega) ?_ ?_
  · refine ⟨[(3, some 4), (4, none), (5, none)], rfl, ?_, ?_⟩ <;> repeat' (first | exact trivial | exact vm_p | exact vm_ptr rfl rfl rfl | exact vm_yld rfl rfl | exact vm_own rfl rfl rfl rfl | exact vm_own rfl rfl (by omega) (by omega) | exact vm_int (by omega) | exact vm_nil rfl | exact sbm_cells vmL_p | exact sbm_row rfl (fun _ _ => vm_p) | refine ⟨⟨_, rfl, ?_⟩, ?_⟩ | refine ⟨⟨_, _, _, rfl⟩, ?_⟩ | (refine sbm_loop ?_; rw [efr]) | refine sbm_cells ?_ | refine vmL.cons ?_ ?_ | exact vmL.nil | refine vm_own rfl rfl rfl ?_)
  intro k hk
  by_cases c : k < f.sm.length - w.length + 1
  · with_reducible conv => whnf
    repeat' ((first | (with_reducible refine branch_t ?_) | (with_reducible refine branch_f ?_) | (with_reducible refine branch_nt ?_) | (with_reducible refine branch_nf ?_) | (with_reducible refine branch_dec (fun _ => ?_) (fun _ => ?_)) | (with_reducible refine branch_ndec (fun _ => ?_) (fun _ => ?_)) | (with_reducible refine branch_bool (fun _ => ?_) (fun _ => ?_)) | (with_reducible refine arith_64 (by omega) ?_) | (with_reducible refine ob_i (by omega) (fun _ => ?_)) | (with_reducible refine ob_i (by unfold room; omega) (fun _ => ?_)) | (with_reducible refine ob_i (by (try simp only [toN_eq, Int.toNat_natCast] at *); (try dsimp only [toN] at *); omega) (fun _ => ?_)) | (with_reducible refine arith_64 (by (try simp only [toN_eq, Int.toNat_natCast] at *); (try dsimp only [toN] at *); omega) ?_) | (with_reducible refine ob_k rfl ?_) | ((with_reducible refine ob_k ?_ ?_); focus kernel_rfl) | (refine yield_i hmix hT rfl hL efr eps eag ebd rfl (by kernel_rfl) ?_)  | (apply call_l (first_ok (l := [_, _]) (Nat.le_of_ble_eq_true rfl)) (.cons (vm_lit _ rfl rfl (.cons (vm_int rfl) (.cons (vm_int rfl) .nil))) .nil)) | (apply call_l (first_ok (l := [_, _, _]) (Nat.le_of_ble_eq_true rfl)) (.cons (vm_lit _ rfl rfl (.cons (vm_int rfl) (.cons (vm_int rfl) (.cons (vm_int rfl) .nil)))) .nil)) | (apply call_l (first_ok (l := [_, _, _, _]) (Nat.le_of_ble_eq_true rfl)) (.cons (vm_lit _ rfl rfl (.cons (vm_int rfl) (.cons (vm_int rfl) (.cons (vm_int rfl) (.cons (vm_int rfl) .nil))))) .nil))) <;> (try (exfalso; omega; done)) <;> (with_reducible conv => whnf))
    refine loop_i hmix hT (fun i : Nat => ([(2, .ptr 0 0), (4, .ptr 1 0), (6, .ptr 2 0), (8, eCjs w), (9, .ptr 3 0), (10, I k), (11, cxV (zS f w k i)), (12, I (cM f k i)), (44, I (f.sm.length - w.length + 1 : Nat)), (45, I k), (48, eCjs w), (49, I w.length), (50, I i)], stC f w k)) (fun i => i ≤ w.length) (fun i => w.length - i) 0 (by omega) ?_ ?_
    · refine ⟨[], rfl, ?_, ?_⟩ <;> repeat' (first | exact trivial | exact vm_p | exact vm_ptr rfl rfl rfl | exact vm_yld rfl rfl | exact vm_own rfl rfl rfl rfl | exact vm_own rfl rfl (by omega) (by omega) | exact vm_int (by omega) | exact vm_nil rfl | exact sbm_cells vmL_p | exact sbm_row rfl (fun _ _ => vm_p) | refine ⟨⟨_, rfl, ?_⟩, ?_⟩ | refine ⟨⟨_, _, _, rfl⟩, ?_⟩ | (refine sbm_loop ?_; rw [efr]) | refine sbm_cells ?_ | refine vmL.cons ?_ ?_ | exact vmL.nil | refine vm_own rfl rfl rfl ?_)
    intro i hi
    have mb := cM_bd f k i
    obtain ⟨zb, zv⟩ := zS_cb v wu w1 k i hi
    by_cases c2 : i < w.length
    · have t1 : toN ((k : Int) + (i : Int)) = k + i := by rw [toN_eq]; omega
      have t2 : toN (i : Int) = i := toN_nat i
      have u := wu i c2
      have uc := isU_cases u
      obtain ⟨sb, sv⟩ := smp_cb v (k + i)
      cases ub : usB f (toN ((k : Int) + (i : Int))) with
      | true =>
        have ub' : usB f (k + i) = true := by rw [← t1]; exact ub
        have ez : zS f w k (i + 1) = cadd (zS f w k i) (cmul (cj (w.getD i (0, 0))) (cfl (f.sm.getD (k + i) (0, 0)))) := if_pos ub'
        have em : cM f k (i + 1) = cM f k i := if_pos ub'
        have u1 : isU (w.getD (toN (i : Int)) (0, 0)) = true := by rw [t2]; exact u
        have uc := isU_cases u1
        have h1 : (w.getD (toN (i : Int)) (0, 0)).1 = -1 ∨ (w.getD (toN (i : Int)) (0, 0)).1 = 0 ∨ (w.getD (toN (i : Int)) (0, 0)).1 = 1 := by rcases uc with e | e | e | e <;> rw [e] <;> decide
        have h2 : (w.getD (toN (i : Int)) (0, 0)).2 = -1 ∨ (w.getD (toN (i : Int)) (0, 0)).2 = 0 ∨ (w.getD (toN (i : Int)) (0, 0)).2 = 1 := by rcases uc with e | e | e | e <;> rw [e] <;> decide
        have cu := (cj_cu u1).1
        rw [← t1] at sb
        have pb := (cmulC_cb sb cu (by decide)).1
        with_reducible conv => whnf
        repeat' ((first | (with_reducible refine branch_t ?_) | (with_reducible refine branch_f ?_) | (with_reducible refine branch_nt ?_) | (with_reducible refine branch_nf ?_) | (with_reducible refine branch_dec (fun _ => ?_) (fun _ => ?_)) | (with_reducible refine branch_ndec (fun _ => ?_) (fun _ => ?_)) | (with_reducible refine branch_bool (fun _ => ?_) (fun _ => ?_)) | (with_reducible refine arith_64 (by omega) ?_) | (with_reducible refine ob_i (by omega) (fun _ => ?_)) | (with_reducible refine ob_i (by unfold room; omega) (fun _ => ?_)) | (with_reducible refine ob_i (by (try simp only [toN_eq] at *); (try dsimp only [toN] at *); omega) (fun _ => ?_)) | (with_reducible refine arith_64 (by (try simp only [toN_eq] at *); (try dsimp only [toN] at *); omega) ?_) | (with_reducible refine ob_k rfl ?_) | ((with_reducible refine ob_k ?_ ?_); focus kernel_rfl) | (refine yield_i hmix hT rfl hL efr eps eag ebd rfl (by kernel_rfl) ?_) | (apply call_u sample_ok) | (refine gen_conv_cc rfl rfl (wave_re h1).1 (wave_im h2).1 Tryd.underlying120 Tryd.underlying119 ?_) | (refine gen_mulL rfl rfl rfl cu sb (by decide) ?_) | (refine gen_addR rfl rfl rfl zb pb (by unfold top; omega) ?_) | (apply call_l (first_ok (l := [_, _]) (Nat.le_of_ble_eq_true rfl)) (.cons (vm_lit _ rfl rfl (.cons (vm_int rfl) (.cons (vm_int rfl) .nil))) .nil)) | (apply call_l (first_ok (l := [_, _, _]) (Nat.le_of_ble_eq_true rfl)) (.cons (vm_lit _ rfl rfl (.cons (vm_int rfl) (.cons (vm_int rfl) (.cons (vm_int rfl) .nil)))) .nil)) | (apply call_l (first_ok (l := [_, _, _, _]) (Nat.le_of_ble_eq_true rfl)) (.cons (vm_lit _ rfl rfl (.cons (vm_int rfl) (.cons (vm_int rfl) (.cons (vm_int rfl) (.cons (vm_int rfl) .nil))))) .nil))) <;> (try (exfalso; omega; done)) <;> (with_reducible conv => whnf))
        all_goals first | (rename_i hh; rw [ub] at hh; cases hh; done) | skip
        refine ⟨i + 1, by omega, by omega, ?_⟩
        rw [ez, em]
        refine ⟨[], rfl, ?_, ?_⟩ <;> repeat' (first | exact trivial | exact vm_p | exact vm_ptr rfl rfl rfl | exact vm_yld rfl rfl | exact vm_own rfl rfl rfl rfl | exact vm_own rfl rfl (by omega) (by omega) | exact vm_int (by omega) | exact vm_nil rfl | exact sbm_cells vmL_p | exact sbm_row rfl (fun _ _ => vm_p) | refine ⟨⟨_, rfl, ?_⟩, ?_⟩ | refine ⟨⟨_, _, _, rfl⟩, ?_⟩ | (refine sbm_loop ?_; rw [efr]) | refine sbm_cells ?_ | refine vmL.cons ?_ ?_ | exact vmL.nil | refine vm_own rfl rfl rfl ?_)
      | false =>
        have ub' : ¬ usB f (k + i) = true := by rw [← t1, ub]; simp
        have ez : zS f w k (i + 1) = zS f w k i := if_neg ub'
        have em : cM f k (i + 1) = cM f k i + 1 := if_neg ub'
        with_reducible conv => whnf
        repeat' ((first | (with_reducible refine branch_t ?_) | (with_reducible refine branch_f ?_) | (with_reducible refine branch_nt ?_) | (with_reducible refine branch_nf ?_) | (with_reducible refine branch_dec (fun _ => ?_) (fun _ => ?_)) | (with_reducible refine branch_ndec (fun _ => ?_) (fun _ => ?_)) | (with_reducible refine branch_bool (fun _ => ?_) (fun _ => ?_)) | (with_reducible refine arith_64 (by omega) ?_) | (with_reducible refine ob_i (by omega) (fun _ => ?_)) | (with_reducible refine ob_i (by unfold room; omega) (fun _ => ?_)) | (with_reducible refine ob_i (by (try simp only [toN_eq] at *); (try dsimp only [toN] at *); omega) (fun _ => ?_)) | (with_reducible refine arith_64 (by (try simp only [toN_eq] at *); (try dsimp only [toN] at *); omega) ?_) | (with_reducible refine ob_k rfl ?_) | ((with_reducible refine ob_k ?_ ?_); focus kernel_rfl) | (refine yield_i hmix hT rfl hL efr eps eag ebd rfl (by kernel_rfl) ?_)  | (apply call_l (first_ok (l := [_, _]) (Nat.le_of_ble_eq_true rfl)) (.cons (vm_lit _ rfl rfl (.cons (vm_int rfl) (.cons (vm_int rfl) .nil))) .nil)) | (apply call_l (first_ok (l := [_, _, _]) (Nat.le_of_ble_eq_true rfl)) (.cons (vm_lit _ rfl rfl (.cons (vm_int rfl) (.cons (vm_int rfl) (.cons (vm_int rfl) .nil)))) .nil)) | (apply call_l (first_ok (l := [_, _, _, _]) (Nat.le_of_ble_eq_true rfl)) (.cons (vm_lit _ rfl rfl (.cons (vm_int rfl) (.cons (vm_int rfl) (.cons (vm_int rfl) (.cons (vm_int rfl) .nil))))) .nil))) <;> (try (exfalso; omega; done)) <;> (with_reducible conv => whnf))
        all_goals first | (rename_i hh; rw [ub] at hh; cases hh; done) | skip
        refine ⟨i + 1, by omega, by omega, ?_⟩
        rw [ez, em]
        refine ⟨[], rfl, ?_, ?_⟩ <;> repeat' (first | exact trivial | exact vm_p | exact vm_ptr rfl rfl rfl | exact vm_yld rfl rfl | exact vm_own rfl rfl rfl rfl | exact vm_own rfl rfl (by omega) (by omega) | exact vm_int (by omega) | exact vm_nil rfl | exact sbm_cells vmL_p | exact sbm_row rfl (fun _ _ => vm_p) | refine ⟨⟨_, rfl, ?_⟩, ?_⟩ | refine ⟨⟨_, _, _, rfl⟩, ?_⟩ | (refine sbm_loop ?_; rw [efr]) | refine sbm_cells ?_ | refine vmL.cons ?_ ?_ | exact vmL.nil | refine vm_own rfl rfl rfl ?_)
    · obtain rfl : i = w.length := by omega
      have WH := whole_ok zb (by unfold top; omega)
      rw [zv] at WH
      with_reducible conv => whnf
      repeat' ((first | (with_reducible refine branch_t ?_) | (with_reducible refine branch_f ?_) | (with_reducible refine branch_nt ?_) | (with_reducible refine branch_nf ?_) | (with_reducible refine branch_dec (fun _ => ?_) (fun _ => ?_)) | (with_reducible refine branch_ndec (fun _ => ?_) (fun _ => ?_)) | (with_reducible refine branch_bool (fun _ => ?_) (fun _ => ?_)) | (with_reducible refine arith_64 (by omega) ?_) | (with_reducible refine ob_i (by omega) (fun _ => ?_)) | (with_reducible refine ob_i (by unfold room; omega) (fun _ => ?_)) | (with_reducible refine ob_i (by (try simp only [] at *); (try dsimp only [toN] at *); omega) (fun _ => ?_)) | (with_reducible refine arith_64 (by (try simp only [] at *); (try dsimp only [toN] at *); omega) ?_) | (with_reducible refine ob_k rfl ?_) | ((with_reducible refine ob_k ?_ ?_); focus kernel_rfl) | (refine yield_i hmix hT rfl hL efr eps eag ebd rfl (by kernel_rfl) ?_) | (apply call_u WH) | (apply call_l (first_ok (l := [_, _]) (Nat.le_of_ble_eq_true rfl)) (.cons (vm_lit _ rfl rfl (.cons (vm_int rfl) (.cons (vm_int rfl) .nil))) .nil)) | (apply call_l (first_ok (l := [_, _, _]) (Nat.le_of_ble_eq_true rfl)) (.cons (vm_lit _ rfl rfl (.cons (vm_int rfl) (.cons (vm_int rfl) (.cons (vm_int rfl) .nil)))) .nil)) | (apply call_l (first_ok (l := [_, _, _, _]) (Nat.le_of_ble_eq_true rfl)) (.cons (vm_lit _ rfl rfl (.cons (vm_int rfl) (.cons (vm_int rfl) (.cons (vm_int rfl) (.cons (vm_int rfl) .nil))))) .nil))) <;> (try (exfalso; omega; done)) <;> (with_reducible conv => whnf))
      refine ⟨k + 1, by omega, by omega, ?_⟩
      refine ⟨[(4, some 7), (5, some 8)], rfl, ?_, ?_⟩ <;> repeat' (first | exact trivial | exact vm_p | exact vm_ptr rfl rfl rfl | exact vm_yld rfl rfl | exact vm_own rfl rfl rfl rfl | exact vm_own rfl rfl (by omega) (by omega) | exact vm_int (by omega) | exact vm_nil rfl | exact sbm_cells vmL_p | exact sbm_row rfl (fun _ _ => vm_p) | refine ⟨⟨_, rfl, ?_⟩, ?_⟩ | refine ⟨⟨_, _, _, rfl⟩, ?_⟩ | (refine sbm_loop ?_; rw [efr]) | refine sbm_cells ?_ | refine vmL.cons ?_ ?_ | exact vmL.nil | refine vm_own rfl rfl rfl ?_)
      · exact sbm_row rfl fun i hi => vm_snoc (e' := fun i => I (cM f i w.length)) hi (fun _ _ => vm_p) vm_p
      · exact sbm_row rfl fun i hi => vm_snoc (e' := fun i => eP (cS f w i w.length)) hi (fun _ _ => vm_p) vm_p
  · obtain rfl : k = f.sm.length - w.length + 1 := by omega
    with_reducible conv => whnf
    repeat' ((first | (with_reducible refine branch_t ?_) | (with_reducible refine branch_f ?_) | (with_reducible refine branch_nt ?_) | (with_reducible refine branch_nf ?_) | (with_reducible refine branch_dec (fun _ => ?_) (fun _ => ?_)) | (with_reducible refine branch_ndec (fun _ => ?_) (fun _ => ?_)) | (with_reducible refine branch_bool (fun _ => ?_) (fun _ => ?_)) | (with_reducible refine arith_64 (by omega) ?_) | (with_reducible refine ob_i (by omega) (fun _ => ?_)) | (with_reducible refine ob_i (by unfold room; omega) (fun _ => ?_)) | (with_reducible refine ob_i (by (try simp only [toN_eq, Int.toNat_natCast] at *); (try dsimp only [toN] at *); omega) (fun _ => ?_)) | (with_reducible refine arith_64 (by (try simp only [toN_eq, Int.toNat_natCast] at *); (try dsimp only [toN] at *); omega) ?_) | (with_reducible refine ob_k rfl ?_) | ((with_reducible refine ob_k ?_ ?_); focus kernel_rfl) | (refine yield_i hmix hT rfl hL efr eps eag ebd rfl (by kernel_rfl) ?_)  | (apply call_l (first_ok (l := [_, _]) (Nat.le_of_ble_eq_true rfl)) (.cons (vm_lit _ rfl rfl (.cons (vm_int rfl) (.cons (vm_int rfl) .nil))) .nil)) | (apply call_l (first_ok (l := [_, _, _]) (Nat.le_of_ble_eq_true rfl)) (.cons (vm_lit _ rfl rfl (.cons (vm_int rfl) (.cons (vm_int rfl) (.cons (vm_int rfl) .nil)))) .nil)) | (apply call_l (first_ok (l := [_, _, _, _]) (Nat.le_of_ble_eq_true rfl)) (.cons (vm_lit _ rfl rfl (.cons (vm_int rfl) (.cons (vm_int rfl) (.cons (vm_int rfl) (.cons (vm_int rfl) .nil))))) .nil))) <;> (try (exfalso; omega; done)) <;> (with_reducible conv => whnf))
    refine ret0 (vm_tup (.cons (vm_agg (.cons (vm_fr rfl rfl (by simp [cmpL]) (Nat.le_refl _) fun i hi => ?_) (.cons (vm_fr rfl rfl (by simp [cmpL]) (Nat.le_refl _) fun i hi => ?_) .nil))) (.cons vm_p .nil)))
    · have hi' : i < f.sm.length - w.length + 1 := by simpa [cmpL] using hi
      rw [show (cmpL f w).vs.getD i (0, 0) = cS f w i w.length from range_map_at hi']
      exact vm_p
    · have hi' : i < f.sm.length - w.length + 1 := by simpa [cmpL] using hi
      rw [show (cmpL f w).ms.getD i 0 = cM f i w.length from range_map_at hi']
      exact vm_p
end Go.Proofs.YtaejdonacadpkabDoor
