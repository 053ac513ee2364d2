/-
  Chapter 3: edits: what is valid (the program's, by contract).
  Conditions: none.
-/
import Derived.Test.Ytkliejppigfjiaa3Nb
namespace Go.Proofs.Ytkliejppigfjiaa
open Go.RowKit Fx
theorem isColumn_ok {n : Int} : FnOK Try.prog 93 [I n] (B (decide (0 ≤ n ∧ n ≤ 9))) [] := by
  refine fn_i hmix hT Try.f93 (by kernel_rfl) rfl (by kernel_rfl) ?_
  with_reducible conv => whnf
  repeat' ((first | (with_reducible refine branch_t ?_) | (with_reducible refine branch_f ?_) | (with_reducible refine branch_nt ?_) | (with_reducible refine branch_nf ?_) | (with_reducible refine branch_dec (fun _ => ?_) (fun _ => ?_)) | (with_reducible refine branch_ndec (fun _ => ?_) (fun _ => ?_)) | (with_reducible refine branch_bool (fun _ => ?_) (fun _ => ?_)) | (with_reducible refine arith_64 (by omega) ?_) | (with_reducible refine ob_i (by omega) (fun _ => ?_)) | (with_reducible refine ob_i (by unfold room; omega) (fun _ => ?_)) | ((with_reducible refine ob_k ?_ ?_); focus kernel_rfl) | (apply call_u within_ok)) <;> (try (exfalso; omega; done)) <;> (with_reducible conv => whnf))
  exact ret0 vm_p
theorem isRow_ok {n : Int} : FnOK Try.prog 94 [I n] (B (decide (0 ≤ n ∧ n ≤ 11))) [] := by
  refine fn_i hmix hT Try.f94 (by kernel_rfl) rfl (by kernel_rfl) ?_
  with_reducible conv => whnf
  repeat' ((first | (with_reducible refine branch_t ?_) | (with_reducible refine branch_f ?_) | (with_reducible refine branch_nt ?_) | (with_reducible refine branch_nf ?_) | (with_reducible refine branch_dec (fun _ => ?_) (fun _ => ?_)) | (with_reducible refine branch_ndec (fun _ => ?_) (fun _ => ?_)) | (with_reducible refine branch_bool (fun _ => ?_) (fun _ => ?_)) | (with_reducible refine arith_64 (by omega) ?_) | (with_reducible refine ob_i (by omega) (fun _ => ?_)) | (with_reducible refine ob_i (by unfold room; omega) (fun _ => ?_)) | ((with_reducible refine ob_k ?_ ?_); focus kernel_rfl) | (apply call_u within_ok)) <;> (try (exfalso; omega; done)) <;> (with_reducible conv => whnf))
  exact ret0 vm_p
theorem known_ok {f : Int → Bool} {n : Int} : FnOK Try.prog 57 [I n, .pv [.mpv f] 0] (B (f n)) [] := by
  refine fn_i hmix hT Try.f57 (by kernel_rfl) rfl (by kernel_rfl) ?_
  with_reducible conv => whnf
  repeat' ((first | (with_reducible refine ob_bys (by kernel_rfl) ?_) | (with_reducible refine ob_map (by kernel_rfl) ?_) | (with_reducible refine ob_ifc (by kernel_rfl) ?_) | (with_reducible refine branch_t ?_) | (with_reducible refine branch_f ?_) | (with_reducible refine branch_nt ?_) | (with_reducible refine branch_nf ?_) | (with_reducible refine branch_dec (fun _ => ?_) (fun _ => ?_)) | (with_reducible refine branch_ndec (fun _ => ?_) (fun _ => ?_)) | (with_reducible refine branch_bool (fun _ => ?_) (fun _ => ?_)) | (with_reducible refine arith_64 (by omega) ?_) | (with_reducible refine ob_i (by omega) (fun _ => ?_)) | (with_reducible refine ob_i (by unfold room; omega) (fun _ => ?_)) | (with_reducible refine ob_i (by (try simp only [toN_eq, Int.toNat_natCast] at *); (try dsimp only [toN] at *); omega) (fun _ => ?_)) | (with_reducible refine arith_64 (by (try simp only [toN_eq, Int.toNat_natCast] at *); (try dsimp only [toN] at *); omega) ?_) | (with_reducible refine ob_k rfl ?_) | ((with_reducible refine ob_k ?_ ?_); focus kernel_rfl) | (refine yield_i hmix hT rfl hL efr eps eag ebd rfl (by kernel_rfl) ?_)  | (apply call_l (first_ok (l := [_, _]) (Nat.le_of_ble_eq_true rfl)) (.cons (vm_lit _ rfl rfl (.cons (vm_int rfl) (.cons (vm_int rfl) .nil))) .nil)) | (apply call_l (first_ok (l := [_, _, _]) (Nat.le_of_ble_eq_true rfl)) (.cons (vm_lit _ rfl rfl (.cons (vm_int rfl) (.cons (vm_int rfl) (.cons (vm_int rfl) .nil)))) .nil)) | (apply call_l (first_ok (l := [_, _, _, _]) (Nat.le_of_ble_eq_true rfl)) (.cons (vm_lit _ rfl rfl (.cons (vm_int rfl) (.cons (vm_int rfl) (.cons (vm_int rfl) (.cons (vm_int rfl) .nil))))) .nil))) <;> (try (exfalso; omega; done)) <;> (with_reducible conv => whnf))
  exact ret0 vm_p
set_option maxHeartbeats 4000000 in
theorem pEditErr_ok {e : Ed} {f : Int → Bool} (hs : e.by_.size ≤ 1000) : FnOK Try.prog 56 [eEd e, .fn 57 [.pv [.mpv f] 0]] (I (edE (f e.ro) e)) [] := by
  refine fn_i hmix hT Try.f56 (by kernel_rfl) rfl (by kernel_rfl) ?_
  with_reducible conv => whnf
  repeat' ((first | (with_reducible refine ob_bys (by kernel_rfl) ?_) | (with_reducible refine ob_map (by kernel_rfl) ?_) | (with_reducible refine ob_ifc (by kernel_rfl) ?_) | (with_reducible refine branch_t ?_) | (with_reducible refine branch_f ?_) | (with_reducible refine branch_nt ?_) | (with_reducible refine branch_nf ?_) | (with_reducible refine branch_dec (fun _ => ?_) (fun _ => ?_)) | (with_reducible refine branch_ndec (fun _ => ?_) (fun _ => ?_)) | (with_reducible refine branch_bool (fun _ => ?_) (fun _ => ?_)) | (with_reducible refine arith_64 (by omega) ?_) | (with_reducible refine ob_i (by omega) (fun _ => ?_)) | (with_reducible refine ob_i (by unfold room; omega) (fun _ => ?_)) | (with_reducible refine ob_i (by (try simp only [] at *); (try dsimp only [toN] at *); omega) (fun _ => ?_)) | (with_reducible refine arith_64 (by (try simp only [toN_eq, Int.toNat_natCast] at *); (try dsimp only [toN] at *); omega) ?_) | (with_reducible refine ob_k rfl ?_) | ((with_reducible refine ob_k ?_ ?_); focus kernel_rfl) | (refine yield_i hmix hT rfl hL efr eps eag ebd rfl (by kernel_rfl) ?_) | (apply call_u within_ok) | (apply call_u unless_ok) | (apply call_u isColumn_ok) | (apply call_u isRow_ok) | (apply call_u (pIsName_ok hs)) | (apply call_u known_ok) | (apply call_l (first_ok (l := [_, _]) (Nat.le_of_ble_eq_true rfl)) (.cons (vm_lit _ rfl rfl (.cons (vm_int rfl) (.cons (vm_int rfl) .nil))) .nil)) | (apply call_l (first_ok (l := [_, _, _]) (Nat.le_of_ble_eq_true rfl)) (.cons (vm_lit _ rfl rfl (.cons (vm_int rfl) (.cons (vm_int rfl) (.cons (vm_int rfl) .nil)))) .nil)) | (apply call_l (first_ok (l := [_, _, _, _]) (Nat.le_of_ble_eq_true rfl)) (.cons (vm_lit _ rfl rfl (.cons (vm_int rfl) (.cons (vm_int rfl) (.cons (vm_int rfl) (.cons (vm_int rfl) .nil))))) .nil))) <;> (try (exfalso; omega; done)) <;> (with_reducible conv => whnf))
  all_goals
    simp only [firstErr, decide_eq_true_eq] at *
    refine ret0 (vm_int ?_)
    unfold edE alE nmE
    (try simp only [firstErr, decide_eq_true_eq])
    grind
theorem kn_up {l : List Ed} {k : Nat} : ∀ a, upM (knB l k) (l.getD k edD).no true a = knB l (k + 1) a := fun a => by
  rw [knB_succ]; rfl
theorem edE_no {kn : Bool} {e : Ed} (h : edE kn e = 0) : 1 ≤ e.no := by
  unfold edE alE at h
  grind
theorem full_first {l : List Ed} {k : Nat} {e : Ed} : firstErr [edE (knB l k e.ro) e, if decide ((if k = 0 then 0 else (l.getD (k - 1) edD).no) < e.no) = true then 0 else 9] = fullE l k e := by
  have := @edE_no (knB l k e.ro) e
  unfold fullE
  simp only [firstErr, decide_eq_true_eq]
  grind
set_option maxHeartbeats 4000000 in
set_option maxRecDepth 100000 in
theorem pCheckEdits_ok {l : List Ed} (hl : l.length ≤ 100000) (hs : ∀ i, i < l.length → (l.getD i edD).by_.size ≤ 1000) : FnOK Try.prog 23 [eEds l] (.tup [I (chkEds l).1, I (chkEds l).2]) [] := by
  by_cases h0 : 20 < l.length
  · have e0 : chkEds l = (0, 8) := by unfold chkEds; rw [if_pos h0]
    rw [e0]
    refine fn_i hmix hT Try.f23 (by kernel_rfl) rfl (by kernel_rfl) ?_
    with_reducible conv => whnf
    repeat' ((first | (with_reducible refine branch_t ?_) | (with_reducible refine branch_f ?_) | (with_reducible refine branch_nt ?_) | (with_reducible refine branch_nf ?_) | (with_reducible refine branch_dec (fun _ => ?_) (fun _ => ?_)) | (with_reducible refine branch_ndec (fun _ => ?_) (fun _ => ?_)) | (with_reducible refine branch_bool (fun _ => ?_) (fun _ => ?_)) | (with_reducible refine arith_64 (by omega) ?_) | (with_reducible refine ob_i (by omega) (fun _ => ?_)) | (with_reducible refine ob_i (by unfold room; omega) (fun _ => ?_)) | (with_reducible refine ob_i (by (try simp only [toN_eq, Int.toNat_natCast] at *); (try dsimp only [toN] at *); omega) (fun _ => ?_)) | (with_reducible refine arith_64 (by (try simp only [toN_eq, Int.toNat_natCast] at *); (try dsimp only [toN] at *); omega) ?_) | (with_reducible refine ob_k rfl ?_) | ((with_reducible refine ob_k ?_ ?_); focus kernel_rfl) | (refine yield_i hmix hT rfl hL efr eps eag ebd rfl (by kernel_rfl) ?_)  | (apply call_l (first_ok (l := [_, _]) (Nat.le_of_ble_eq_true rfl)) (.cons (vm_lit _ rfl rfl (.cons (vm_int rfl) (.cons (vm_int rfl) .nil))) .nil)) | (apply call_l (first_ok (l := [_, _, _]) (Nat.le_of_ble_eq_true rfl)) (.cons (vm_lit _ rfl rfl (.cons (vm_int rfl) (.cons (vm_int rfl) (.cons (vm_int rfl) .nil)))) .nil)) | (apply call_l (first_ok (l := [_, _, _, _]) (Nat.le_of_ble_eq_true rfl)) (.cons (vm_lit _ rfl rfl (.cons (vm_int rfl) (.cons (vm_int rfl) (.cons (vm_int rfl) (.cons (vm_int rfl) .nil))))) .nil))) <;> (try (exfalso; omega; done)) <;> (with_reducible conv => whnf))
    exact ret0 vm_p
  have e0 : chkEds l = ciN (fun i => fullE l i (l.getD i edD)) l.length 0 := by unfold chkEds; rw [if_neg h0]
  rw [e0]
  refine fn_i hmix hT Try.f23 (by kernel_rfl) rfl (by kernel_rfl) ?_
  with_reducible conv => whnf
  repeat' ((first | (with_reducible refine ob_bys (by kernel_rfl) ?_) | (with_reducible refine ob_map (by kernel_rfl) ?_) | (with_reducible refine ob_ifc (by kernel_rfl) ?_) | (with_reducible refine branch_t ?_) | (with_reducible refine branch_f ?_) | (with_reducible refine branch_nt ?_) | (with_reducible refine branch_nf ?_) | (with_reducible refine branch_dec (fun _ => ?_) (fun _ => ?_)) | (with_reducible refine branch_ndec (fun _ => ?_) (fun _ => ?_)) | (with_reducible refine branch_bool (fun _ => ?_) (fun _ => ?_)) | (with_reducible refine arith_64 (by omega) ?_) | (with_reducible refine ob_i (by omega) (fun _ => ?_)) | (with_reducible refine ob_i (by unfold room; omega) (fun _ => ?_)) | (with_reducible refine ob_i (by (try simp only [toN_eq, Int.toNat_natCast] at *); (try dsimp only [toN] at *); omega) (fun _ => ?_)) | (with_reducible refine arith_64 (by (try simp only [toN_eq, Int.toNat_natCast] at *); (try dsimp only [toN] at *); omega) ?_) | (with_reducible refine ob_k rfl ?_) | ((with_reducible refine ob_k ?_ ?_); focus kernel_rfl) | (refine yield_i hmix hT rfl hL efr eps eag ebd rfl (by kernel_rfl) ?_)  | (apply call_l (first_ok (l := [_, _]) (Nat.le_of_ble_eq_true rfl)) (.cons (vm_lit _ rfl rfl (.cons (vm_int rfl) (.cons (vm_int rfl) .nil))) .nil)) | (apply call_l (first_ok (l := [_, _, _]) (Nat.le_of_ble_eq_true rfl)) (.cons (vm_lit _ rfl rfl (.cons (vm_int rfl) (.cons (vm_int rfl) (.cons (vm_int rfl) .nil)))) .nil)) | (apply call_l (first_ok (l := [_, _, _, _]) (Nat.le_of_ble_eq_true rfl)) (.cons (vm_lit _ rfl rfl (.cons (vm_int rfl) (.cons (vm_int rfl) (.cons (vm_int rfl) (.cons (vm_int rfl) .nil))))) .nil))) <;> (try (exfalso; omega; done)) <;> (with_reducible conv => whnf))
  refine loop_i hmix hT (fun k : Nat => ([(4, .ptr 1 0), (5, I (if k = 0 then 0 else (l.getD (k - 1) edD).no)), (13, eEds l), (14, I l.length), (15, I k)], ⟨2, [(1, .cells [.mp 0] 111), (0, .mpb (knB l k))]⟩)) (fun k => k ≤ l.length ∧ ∀ i, i < k → fullE l i (l.getD i edD) = 0) (fun k => l.length - k) 0 ⟨by omega, fun i hi => by omega⟩ ?_ ?_
  · refine ⟨[], rfl, ⟨⟨_, rfl, vm_ptr rfl rfl rfl⟩, ⟨_, rfl, vm_p⟩, ⟨_, rfl, vm_p⟩, ⟨_, rfl, vm_p⟩, ⟨_, rfl, vm_p⟩, trivial⟩, ⟨⟨_, rfl, sbm_cells (.cons (vm_mp rfl rfl) .nil)⟩, ⟨_, rfl, fun a => knB_zero.symm⟩, trivial⟩⟩
  intro k ⟨hk1, hk2⟩
  have hsk := hs k
  with_reducible conv => whnf
  repeat' ((first | (with_reducible refine ob_bys (by kernel_rfl) ?_) | (with_reducible refine ob_map (by kernel_rfl) ?_) | (with_reducible refine ob_ifc (by kernel_rfl) ?_) | (with_reducible refine branch_t ?_) | (with_reducible refine branch_f ?_) | (with_reducible refine branch_nt ?_) | (with_reducible refine branch_nf ?_) | (with_reducible refine branch_dec (fun _ => ?_) (fun _ => ?_)) | (with_reducible refine branch_ndec (fun _ => ?_) (fun _ => ?_)) | (with_reducible refine branch_bool (fun _ => ?_) (fun _ => ?_)) | (with_reducible refine arith_64 (by omega) ?_) | (with_reducible refine ob_i (by omega) (fun _ => ?_)) | (with_reducible refine ob_i (by unfold room; omega) (fun _ => ?_)) | (with_reducible refine ob_i (by (try simp only [] at *); (try dsimp only [toN] at *); omega) (fun _ => ?_)) | (with_reducible refine arith_64 (by (try simp only [toN_eq, Int.toNat_natCast] at *); (try dsimp only [toN] at *); omega) ?_) | (with_reducible refine ob_k rfl ?_) | ((with_reducible refine ob_k ?_ ?_); focus kernel_rfl) | (refine yield_i hmix hT rfl hL efr eps eag ebd rfl (by kernel_rfl) ?_) | (apply call_u unless_ok) | (refine call_l (pEditErr_ok (e := l.getD k edD) (f := knB l k) (hsk (by omega))) (.cons (by simp only []; exact vm_p) (.cons (vm_fn (.cons (vm_frzp trivial rfl kept_no rfl rfl (.cons (vm_mpz trivial rfl kept_no (fun _ => rfl)) .nil)) .nil)) .nil)) ?_) | (apply call_l (first_ok (l := [_, _]) (Nat.le_of_ble_eq_true rfl)) (.cons (vm_lit _ rfl rfl (.cons (vm_int rfl) (.cons (vm_int rfl) .nil))) .nil)) | (apply call_l (first_ok (l := [_, _, _]) (Nat.le_of_ble_eq_true rfl)) (.cons (vm_lit _ rfl rfl (.cons (vm_int rfl) (.cons (vm_int rfl) (.cons (vm_int rfl) .nil)))) .nil)) | (apply call_l (first_ok (l := [_, _, _, _]) (Nat.le_of_ble_eq_true rfl)) (.cons (vm_lit _ rfl rfl (.cons (vm_int rfl) (.cons (vm_int rfl) (.cons (vm_int rfl) (.cons (vm_int rfl) .nil))))) .nil))) <;> (try (exfalso; omega; done)) <;> (with_reducible conv => whnf))
  · rename_i h
    simp only [] at h ⊢
    rw [full_first] at h ⊢
    refine ret0 (vm_tup (.cons (vm_int ?_) (.cons (vm_int ?_) .nil)))
    · rw [ciN_hit l.length 0 k (fun i _ hi => hk2 i hi) (by omega) (by omega) h]
    · rw [ciN_hit l.length 0 k (fun i _ hi => hk2 i hi) (by omega) (by omega) h]
  · rename_i h
    simp only [] at h ⊢
    rw [full_first] at h
    refine ⟨k + 1, ⟨by omega, fun i hi => ?_⟩, by omega, [], rfl, ⟨⟨_, rfl, vm_ptr rfl rfl rfl⟩, ⟨_, rfl, vm_p⟩, ⟨_, rfl, vm_p⟩, ⟨_, rfl, vm_p⟩, ⟨_, rfl, vm_p⟩, trivial⟩, ⟨⟨_, rfl, sbm_cells (.cons (vm_mp rfl rfl) .nil)⟩, ⟨_, rfl, kn_up⟩, trivial⟩⟩
    rcases Nat.lt_or_ge i k with h2 | h2
    · exact hk2 i h2
    · obtain rfl : i = k := by omega
      exact Decidable.byContradiction h
  · rw [ciN_none l.length 0 fun i _ hi => hk2 i (by omega)]
    exact ret0 vm_p
theorem editsErr_ok {l : List Ed} (hl : l.length ≤ 100000) (hs : ∀ i, i < l.length → (l.getD i edD).by_.size ≤ 1000) : FnOK Try.prog 58 [eEds l] (I (chkEds l).2) [] := by
  refine fn_i hmix hT Try.f58 (by kernel_rfl) rfl (by kernel_rfl) ?_
  with_reducible conv => whnf
  repeat' ((first | (with_reducible refine branch_t ?_) | (with_reducible refine branch_f ?_) | (with_reducible refine branch_nt ?_) | (with_reducible refine branch_nf ?_) | (with_reducible refine branch_dec (fun _ => ?_) (fun _ => ?_)) | (with_reducible refine branch_ndec (fun _ => ?_) (fun _ => ?_)) | (with_reducible refine branch_bool (fun _ => ?_) (fun _ => ?_)) | (with_reducible refine arith_64 (by omega) ?_) | (with_reducible refine ob_i (by omega) (fun _ => ?_)) | (with_reducible refine ob_i (by unfold room; omega) (fun _ => ?_)) | (with_reducible refine ob_i (by (try simp only [toN_eq, Int.toNat_natCast] at *); (try dsimp only [toN] at *); omega) (fun _ => ?_)) | (with_reducible refine arith_64 (by (try simp only [toN_eq, Int.toNat_natCast] at *); (try dsimp only [toN] at *); omega) ?_) | (with_reducible refine ob_k rfl ?_) | ((with_reducible refine ob_k ?_ ?_); focus kernel_rfl) | (refine yield_i hmix hT rfl hL efr eps eag ebd rfl (by kernel_rfl) ?_) | (apply call_u (pCheckEdits_ok hl hs)) | (apply call_l (first_ok (l := [_, _]) (Nat.le_of_ble_eq_true rfl)) (.cons (vm_lit _ rfl rfl (.cons (vm_int rfl) (.cons (vm_int rfl) .nil))) .nil)) | (apply call_l (first_ok (l := [_, _, _]) (Nat.le_of_ble_eq_true rfl)) (.cons (vm_lit _ rfl rfl (.cons (vm_int rfl) (.cons (vm_int rfl) (.cons (vm_int rfl) .nil)))) .nil)) | (apply call_l (first_ok (l := [_, _, _, _]) (Nat.le_of_ble_eq_true rfl)) (.cons (vm_lit _ rfl rfl (.cons (vm_int rfl) (.cons (vm_int rfl) (.cons (vm_int rfl) (.cons (vm_int rfl) .nil))))) .nil))) <;> (try (exfalso; omega; done)) <;> (with_reducible conv => whnf))
  exact ret0 vm_p
end Go.Proofs.Ytkliejppigfjiaa
