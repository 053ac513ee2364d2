/-
  Chapter 3: the corrected trace (the program's, by contract).
  Conditions: none.
-/
import Derived.Test.Ytkliejppigfjiaa3Ne
import Derived.Test.Ytkliejppigfjiaa3Nc
namespace Go.Proofs.Ytkliejppigfjiaa
open Go.RowKit Fx
theorem counting_ok {l : List Ed} : FnOK Try.prog 61 [eEds l] (.fn 96 [.pv [eEds l] 0]) [] := by
  refine fn_i hmix hT Try.f61 (by kernel_rfl) rfl (by kernel_rfl) ?_
  with_reducible conv => whnf
  exact ret0 (vm_fn (.cons (vm_frzp trivial rfl kept_no rfl rfl vmL_p) .nil))
theorem backward_ok {l : List Ed} : FnOK Try.prog 97 [eEds l] (.fn 111 [.pv [eEds l] 0]) [] := by
  refine fn_i hmix hT Try.f97 (by kernel_rfl) rfl (by kernel_rfl) ?_
  with_reducible conv => whnf
  exact ret0 (vm_fn (.cons (vm_frzp trivial rfl kept_no rfl rfl vmL_p) .nil))
theorem cloneI_ok {l : List Int} (h0 : 0 < l.length) (hl : l.length ≤ 1000) : FnOK Try.prog 60 [eInts l] (.own 0 1 0 l.length) [.row 1 l.length (fun i => I (l.getD i 0)) 3] := by
  refine fn_i hmix hT Try.f60 (by kernel_rfl) rfl (by kernel_rfl) ?_
  with_reducible conv => whnf
  repeat' ((first | (with_reducible refine branch_t ?_) | (with_reducible refine branch_f ?_) | (with_reducible refine branch_nt ?_) | (with_reducible refine branch_nf ?_) | (with_reducible refine branch_dec (fun _ => ?_) (fun _ => ?_)) | (with_reducible refine branch_ndec (fun _ => ?_) (fun _ => ?_)) | (with_reducible refine branch_bool (fun _ => ?_) (fun _ => ?_)) | (with_reducible refine arith_64 (by omega) ?_) | (with_reducible refine ob_i (by omega) (fun _ => ?_)) | (with_reducible refine ob_i (by unfold room; omega) (fun _ => ?_)) | (with_reducible refine ob_i (by (try simp only [] at *); (try dsimp only [toN] at *); omega) (fun _ => ?_)) | (with_reducible refine arith_64 (by (try simp only [] at *); (try dsimp only [toN] at *); omega) ?_) | (with_reducible refine ob_k rfl ?_) | ((with_reducible refine ob_k ?_ ?_); focus kernel_rfl) | (refine yield_i hmix hT rfl hL efr eps eag ebd rfl (by kernel_rfl) ?_)  | (apply call_l (first_ok (l := [_, _]) (Nat.le_of_ble_eq_true rfl)) (.cons (vm_lit _ rfl rfl (.cons (vm_int rfl) (.cons (vm_int rfl) .nil))) .nil)) | (apply call_l (first_ok (l := [_, _, _]) (Nat.le_of_ble_eq_true rfl)) (.cons (vm_lit _ rfl rfl (.cons (vm_int rfl) (.cons (vm_int rfl) (.cons (vm_int rfl) .nil)))) .nil)) | (apply call_l (first_ok (l := [_, _, _, _]) (Nat.le_of_ble_eq_true rfl)) (.cons (vm_lit _ rfl rfl (.cons (vm_int rfl) (.cons (vm_int rfl) (.cons (vm_int rfl) (.cons (vm_int rfl) .nil))))) .nil))) <;> (try (exfalso; omega; done)) <;> (with_reducible conv => whnf))
  refine ⟨⟨[(0, some 1)], rfl, vm_own rfl rfl rfl (by omega), ⟨⟨_, rfl, sbm_row (by omega) fun i hi => ?_⟩, trivial⟩⟩⟩
  rw [appF_ge (by omega), Nat.sub_zero]
  exact vm_p
theorem eds_val {l : List Ed} (h : (chkEds l).2 = 0) : l.length ≤ 20 ∧ ∀ i, i < l.length → alE (l.getD i edD) = 0 ∧ nameB (l.getD i edD).by_ = true := by
  unfold chkEds at h
  split at h
  · cases h
  · refine ⟨by omega, fun i hi => ?_⟩
    have := ciN_zero _ _ h i (Nat.zero_le _) (by omega)
    unfold fullE at this
    split at this
    · contradiction
    · rename_i h1
      have h1 : edE (knB l i (l.getD i edD).ro) (l.getD i edD) = 0 := by omega
      unfold edE at h1
      split at h1
      · contradiction
      · rename_i h2
        split at h1
        · omega
        · unfold nmE at h1
          split at h1
          · exact ⟨by omega, by assumption⟩
          · omega
theorem alE_val {e : Ed} (h : alE e = 0) : 0 ≤ e.kd ∧ e.kd ≤ 2 ∧ (e.kd = 0 → 0 ≤ e.co ∧ e.co ≤ 9 ∧ 0 ≤ e.ro ∧ e.ro ≤ 11) ∧ (e.kd = 1 → 0 ≤ e.co ∧ e.co ≤ 9 ∧ e.ro = 0) := by
  unfold alE at h
  split at h
  · omega
  split at h
  · split at h <;> omega
  split at h
  · split at h
    · omega
    · split at h <;> omega
  split at h
  · split at h <;> omega
  · omega
theorem op_val {g : Gram} {p : Path} (h : openPathE g p = 0) : g.Val ∧ p.Val g := by
  unfold openPathE at h
  split at h
  · contradiction
  · exact ⟨gram_val (by omega), path_val h⟩
theorem bw_next {l : List Ed} {fr : Int} {rs : List Int} {k : Nat} (hk : k < l.length) :
    (wdK l k (l.getD (l.length - 1 - k) edD).no = true → wdK l (k + 1) = wdK l k ∧ dcK l (k + 1) = dcK l k ∧ bwR l fr rs (k + 1) = bwR l fr rs k) ∧
    (wdK l k (l.getD (l.length - 1 - k) edD).no = false → (l.getD (l.length - 1 - k) edD).kd = 2 → wdK l (k + 1) = upM (wdK l k) (l.getD (l.length - 1 - k) edD).ro true ∧ dcK l (k + 1) = dcK l k ∧ bwR l fr rs (k + 1) = bwR l fr rs k) ∧
    (wdK l k (l.getD (l.length - 1 - k) edD).no = false → (l.getD (l.length - 1 - k) edD).kd ≠ 2 → dcK l k (l.getD (l.length - 1 - k) edD).co = true → wdK l (k + 1) = wdK l k ∧ dcK l (k + 1) = dcK l k ∧ bwR l fr rs (k + 1) = bwR l fr rs k) ∧
    (wdK l k (l.getD (l.length - 1 - k) edD).no = false → (l.getD (l.length - 1 - k) edD).kd ≠ 2 → dcK l k (l.getD (l.length - 1 - k) edD).co = false → wdK l (k + 1) = wdK l k ∧ dcK l (k + 1) = upM (dcK l k) (l.getD (l.length - 1 - k) edD).co true ∧ bwR l fr rs (k + 1) = (bwR l fr rs k).set ((l.getD (l.length - 1 - k) edD).co - fr).toNat (edV (l.getD (l.length - 1 - k) edD))) := by
  have ei : l.length - 1 - (l.length - 1 - k) = k := by omega
  have ea : actB l (l.length - 1 - k) = (!(wdK l k (l.getD (l.length - 1 - k) edD).no) && decide ((l.getD (l.length - 1 - k) edD).kd ≠ 2)) := by unfold actB stB; rw [ei]
  simp only [wdK, dcK, bwR, ea]
  generalize l.getD (l.length - 1 - k) edD = e
  refine ⟨fun h1 => ?_, fun h1 h2 => ?_, fun h1 h2 h3 => ?_, fun h1 h2 h3 => ?_⟩
  · rw [h1]; simp
  · rw [h1, h2]; simp
  · rw [h1, h3]; simp [h2]
  · rw [h1, h3]; simp [h2]
def corE (g : Gram) (p : Path) (l : List Ed) : Int := if openPathE g p ≠ 0 then openPathE g p else if (chkEds l).2 ≠ 0 then (chkEds l).2 else fitE g p l
def corP (g : Gram) (p : Path) (l : List Ed) : Path := if corE g p l ≠ 0 then ⟨0, []⟩ else ⟨p.fr, fwR l p.fr p.rows l.length⟩
set_option maxHeartbeats 4000000 in
set_option maxRecDepth 100000 in
theorem pCorrected_ok {g : Gram} {p : Path} {l : List Ed} (hg : g.Ok) (hp : p.rows.length ≤ 1000) (hl : l.length ≤ 100000) (hs : ∀ i, i < l.length → (l.getD i edD).by_.size ≤ 1000) : FnOK Try.prog 25 [eGram g, ePath p, eEds l] (.tup [ePath (corP g p l), I (corE g p l)]) [] := by
  by_cases c1 : openPathE g p ≠ 0 ∨ (chkEds l).2 ≠ 0
  · have e1 : corE g p l ≠ 0 := by unfold corE; split; assumption; rw [if_pos (by omega)]; omega
    have e2 : firstErr [openPathE g p, (chkEds l).2] = corE g p l := by unfold corE; simp only [firstErr]; grind
    have e3 : corP g p l = ⟨0, []⟩ := by unfold corP; exact if_pos e1
    rw [e3]
    refine fn_i hmix hT Try.f25 (by kernel_rfl) rfl (by kernel_rfl) ?_
    with_reducible conv => whnf
    repeat' ((first | (with_reducible refine branch_t ?_) | (with_reducible refine branch_f ?_) | (with_reducible refine branch_nt ?_) | (with_reducible refine branch_nf ?_) | (with_reducible refine branch_dec (fun _ => ?_) (fun _ => ?_)) | (with_reducible refine branch_ndec (fun _ => ?_) (fun _ => ?_)) | (with_reducible refine branch_bool (fun _ => ?_) (fun _ => ?_)) | (with_reducible refine arith_64 (by omega) ?_) | (with_reducible refine ob_i (by omega) (fun _ => ?_)) | (with_reducible refine ob_i (by unfold room; omega) (fun _ => ?_)) | (with_reducible refine ob_i (by (try simp only [toN_eq, Int.toNat_natCast] at *); (try dsimp only [toN] at *); omega) (fun _ => ?_)) | (with_reducible refine arith_64 (by (try simp only [toN_eq, Int.toNat_natCast] at *); (try dsimp only [toN] at *); omega) ?_) | (with_reducible refine ob_k rfl ?_) | ((with_reducible refine ob_k ?_ ?_); focus kernel_rfl) | (refine yield_i hmix hT rfl hL efr eps eag ebd rfl (by kernel_rfl) ?_) | (apply call_u (openPath_ok hg (by omega))) | (apply call_u (editsErr_ok hl hs)) | (apply call_l (first_ok (l := [_, _]) (Nat.le_of_ble_eq_true rfl)) (.cons (vm_lit _ rfl rfl (.cons (vm_int rfl) (.cons (vm_int rfl) .nil))) .nil)) | (apply call_l (first_ok (l := [_, _, _]) (Nat.le_of_ble_eq_true rfl)) (.cons (vm_lit _ rfl rfl (.cons (vm_int rfl) (.cons (vm_int rfl) (.cons (vm_int rfl) .nil)))) .nil)) | (apply call_l (first_ok (l := [_, _, _, _]) (Nat.le_of_ble_eq_true rfl)) (.cons (vm_lit _ rfl rfl (.cons (vm_int rfl) (.cons (vm_int rfl) (.cons (vm_int rfl) (.cons (vm_int rfl) .nil))))) .nil))) <;> (try (exfalso; omega; done)) <;> (with_reducible conv => whnf))
    · rw [e2]
      exact ret0 (vm_tup (.cons (vm_agg (.cons vm_p (.cons (vm_nilsl rfl) .nil))) (.cons vm_p .nil)))
  have z1 : openPathE g p = 0 := by omega
  have z2 : (chkEds l).2 = 0 := by omega
  obtain ⟨hv, pv⟩ := op_val z1
  obtain ⟨n20, ev⟩ := eds_val z2
  have v1 := hv.c0
  have v2 := hv.c1
  have v3 := hv.r1
  have v4 := hv.r0
  have p1 := pv.fr
  have p2 := pv.n0
  have p3 := pv.n1
  have val := fun i hi => alE_val (ev i hi).1
  have e2 : firstErr [openPathE g p, (chkEds l).2] = 0 := by simp only [firstErr]; grind
  have HR := fun n : Int => hasRow_ok (g := g) (n := n) (by omega) (by omega)
  refine fn_i hmix hT Try.f25 (by kernel_rfl) rfl (by kernel_rfl) ?_
  with_reducible conv => whnf
  repeat' ((first | (with_reducible refine branch_t ?_) | (with_reducible refine branch_f ?_) | (with_reducible refine branch_nt ?_) | (with_reducible refine branch_nf ?_) | (with_reducible refine branch_dec (fun _ => ?_) (fun _ => ?_)) | (with_reducible refine branch_ndec (fun _ => ?_) (fun _ => ?_)) | (with_reducible refine branch_bool (fun _ => ?_) (fun _ => ?_)) | (with_reducible refine arith_64 (by omega) ?_) | (with_reducible refine ob_i (by omega) (fun _ => ?_)) | (with_reducible refine ob_i (by unfold room; omega) (fun _ => ?_)) | (with_reducible refine ob_i (by (try simp only [toN_eq, Int.toNat_natCast] at *); (try dsimp only [toN] at *); omega) (fun _ => ?_)) | (with_reducible refine arith_64 (by (try simp only [toN_eq, Int.toNat_natCast] at *); (try dsimp only [toN] at *); omega) ?_) | (with_reducible refine ob_k rfl ?_) | ((with_reducible refine ob_k ?_ ?_); focus kernel_rfl) | (refine yield_i hmix hT rfl hL efr eps eag ebd rfl (by kernel_rfl) ?_) | (apply call_u (openPath_ok hg (by omega))) | (apply call_u (editsErr_ok hl hs)) | (apply call_l (first_ok (l := [_, _]) (Nat.le_of_ble_eq_true rfl)) (.cons (vm_lit _ rfl rfl (.cons (vm_int rfl) (.cons (vm_int rfl) .nil))) .nil)) | (apply call_l (first_ok (l := [_, _, _]) (Nat.le_of_ble_eq_true rfl)) (.cons (vm_lit _ rfl rfl (.cons (vm_int rfl) (.cons (vm_int rfl) (.cons (vm_int rfl) .nil)))) .nil)) | (apply call_l (first_ok (l := [_, _, _, _]) (Nat.le_of_ble_eq_true rfl)) (.cons (vm_lit _ rfl rfl (.cons (vm_int rfl) (.cons (vm_int rfl) (.cons (vm_int rfl) (.cons (vm_int rfl) .nil))))) .nil))) <;> (try (exfalso; omega; done)) <;> (with_reducible conv => whnf))
  refine loop_i hmix hT (fun k : Nat => ([(2, eEds l), (4, .ptr 1 0), (6, .ptr 2 0), (7, I 0), (8, .ptr 3 0), (31, eEds l), (32, I l.length), (33, I k)], ⟨4, [(3, .cells [I g.first, I g.step, eCols g.cols] 96), (2, .cells [I 0, .sc (.slice none 0 0)] 27), (1, .cells [I p.fr, eInts p.rows] 27)]⟩)) (fun k => k ≤ l.length ∧ ∀ i, i < k → fitB g p (l.getD i edD)) (fun k => l.length - k) 0 ⟨by omega, fun i hi => by omega⟩ ?_ ?_
  · exact ⟨[], rfl, ⟨⟨_, rfl, vm_p⟩, ⟨_, rfl, vm_ptr rfl rfl rfl⟩, ⟨_, rfl, vm_ptr rfl rfl rfl⟩, ⟨_, rfl, vm_p⟩, ⟨_, rfl, vm_ptr rfl rfl rfl⟩, ⟨_, rfl, vm_p⟩, ⟨_, rfl, vm_p⟩, ⟨_, rfl, vm_p⟩, trivial⟩, ⟨⟨_, rfl, sbm_cells vmL_p⟩, ⟨_, rfl, sbm_cells vmL_p⟩, ⟨_, rfl, sbm_cells vmL_p⟩, trivial⟩⟩
  intro k ⟨hk1, hk2⟩
  have tk : toN (k : Int) = k := toN_nat k
  by_cases c : k < l.length
  · have vk := val k c
    have HRk := HR (l.getD (toN (k : Int)) edD).ro
    with_reducible conv => whnf
    repeat' ((first | (with_reducible refine branch_t ?_) | (with_reducible refine branch_f ?_) | (with_reducible refine branch_nt ?_) | (with_reducible refine branch_nf ?_) | (with_reducible refine branch_dec (fun _ => ?_) (fun _ => ?_)) | (with_reducible refine branch_ndec (fun _ => ?_) (fun _ => ?_)) | (with_reducible refine branch_bool (fun _ => ?_) (fun _ => ?_)) | (with_reducible refine arith_64 (by omega) ?_) | (with_reducible refine ob_i (by omega) (fun _ => ?_)) | (with_reducible refine ob_i (by unfold room; omega) (fun _ => ?_)) | (with_reducible refine ob_i (by (try simp only [] at *); (try dsimp only [toN] at *); omega) (fun _ => ?_)) | (with_reducible refine arith_64 (by (try simp only [] at *); (try dsimp only [toN] at *); omega) ?_) | (with_reducible refine ob_k rfl ?_) | ((with_reducible refine ob_k ?_ ?_); focus kernel_rfl) | (refine yield_i hmix hT rfl hL efr eps eag ebd rfl (by kernel_rfl) ?_) | (apply call_u within_ok) | (apply call_u HRk) | (apply call_l (first_ok (l := [_, _]) (Nat.le_of_ble_eq_true rfl)) (.cons (vm_lit _ rfl rfl (.cons (vm_int rfl) (.cons (vm_int rfl) .nil))) .nil)) | (apply call_l (first_ok (l := [_, _, _]) (Nat.le_of_ble_eq_true rfl)) (.cons (vm_lit _ rfl rfl (.cons (vm_int rfl) (.cons (vm_int rfl) (.cons (vm_int rfl) .nil)))) .nil)) | (apply call_l (first_ok (l := [_, _, _, _]) (Nat.le_of_ble_eq_true rfl)) (.cons (vm_lit _ rfl rfl (.cons (vm_int rfl) (.cons (vm_int rfl) (.cons (vm_int rfl) (.cons (vm_int rfl) .nil))))) .nil))) <;> (try (exfalso; omega; done)) <;> (with_reducible conv => whnf))
    all_goals (rw [tk] at *)
    all_goals first
      | (refine ⟨k + 1, ⟨by omega, fun i hi => ?_⟩, by omega, [], rfl, ⟨⟨_, rfl, vm_p⟩, ⟨_, rfl, vm_ptr rfl rfl rfl⟩, ⟨_, rfl, vm_ptr rfl rfl rfl⟩, ⟨_, rfl, vm_p⟩, ⟨_, rfl, vm_ptr rfl rfl rfl⟩, ⟨_, rfl, vm_p⟩, ⟨_, rfl, vm_p⟩, ⟨_, rfl, vm_p⟩, trivial⟩, ⟨⟨_, rfl, sbm_cells vmL_p⟩, ⟨_, rfl, sbm_cells vmL_p⟩, ⟨_, rfl, sbm_cells vmL_p⟩, trivial⟩⟩
         rcases Nat.lt_or_ge i k with h3 | h3
         · exact hk2 i h3
         · obtain rfl : i = k := by omega
           unfold fitB; omega)
      | (have nf : ¬ fitB g p (l.getD k edD) := by unfold fitB; omega
         have e6 : fitE g p l = 6 := by unfold fitE; exact if_neg fun a => nf (a k c)
         have e7 : corE g p l = 6 := by unfold corE; rw [if_neg (by omega), if_neg (by omega), e6]
         have e8 : corP g p l = ⟨0, []⟩ := by unfold corP; rw [if_pos (by omega)]
         rw [e7, e8]
         exact ret0 (vm_tup (.cons (vm_agg (.cons vm_p (.cons (vm_nilsl rfl) .nil))) (.cons vm_p .nil))))
  obtain rfl : k = l.length := by omega
  have FT : fits l p.fr p.rows.length := fun i hi h2 => by
    have := hk2 i hi
    unfold fitB at this
    omega
  have e7 : corE g p l = 0 := by unfold corE; rw [if_neg (by omega), if_neg (by omega)]; unfold fitE; exact if_pos hk2
  have e8 : corP g p l = ⟨p.fr, fwR l p.fr p.rows l.length⟩ := by unfold corP; rw [if_neg (by omega)]
  rw [e7, e8]
  with_reducible conv => whnf
  repeat' ((first | (with_reducible refine ob_bys (by kernel_rfl) ?_) | (with_reducible refine ob_map (by kernel_rfl) ?_) | (with_reducible refine ob_ifc (by kernel_rfl) ?_) | (with_reducible refine branch_t ?_) | (with_reducible refine branch_f ?_) | (with_reducible refine branch_nt ?_) | (with_reducible refine branch_nf ?_) | (with_reducible refine branch_dec (fun _ => ?_) (fun _ => ?_)) | (with_reducible refine branch_ndec (fun _ => ?_) (fun _ => ?_)) | (with_reducible refine branch_bool (fun _ => ?_) (fun _ => ?_)) | (with_reducible refine arith_64 (by omega) ?_) | (with_reducible refine ob_i (by omega) (fun _ => ?_)) | (with_reducible refine ob_i (by unfold room; omega) (fun _ => ?_)) | (with_reducible refine ob_i (by (try simp only [] at *); (try dsimp only [toN] at *); omega) (fun _ => ?_)) | (with_reducible refine arith_64 (by (try simp only [] at *); (try dsimp only [toN] at *); omega) ?_) | (with_reducible refine ob_k rfl ?_) | ((with_reducible refine ob_k ?_ ?_); focus kernel_rfl) | (refine yield_i hmix hT rfl hL efr eps eag ebd rfl (by kernel_rfl) ?_) | (refine call_p (cloneI_ok p2 (by omega)) (.cons vm_p .nil) pureI rv_own ?_) | (apply call_u counting_ok) | (apply call_l (first_ok (l := [_, _]) (Nat.le_of_ble_eq_true rfl)) (.cons (vm_lit _ rfl rfl (.cons (vm_int rfl) (.cons (vm_int rfl) .nil))) .nil)) | (apply call_l (first_ok (l := [_, _, _]) (Nat.le_of_ble_eq_true rfl)) (.cons (vm_lit _ rfl rfl (.cons (vm_int rfl) (.cons (vm_int rfl) (.cons (vm_int rfl) .nil)))) .nil)) | (apply call_l (first_ok (l := [_, _, _, _]) (Nat.le_of_ble_eq_true rfl)) (.cons (vm_lit _ rfl rfl (.cons (vm_int rfl) (.cons (vm_int rfl) (.cons (vm_int rfl) (.cons (vm_int rfl) .nil))))) .nil))) <;> (try (exfalso; omega; done)) <;> (with_reducible conv => whnf))
  refine range_i hmix hT rfl Try.f96 (by kernel_rfl) rfl (by kernel_rfl) 0 [4, 6, 7, 12, 13] (by kernel_rfl) ?_
  intro L efr eps eag ebd etok hL
  with_reducible conv => whnf
  have efr : L.fr = [(4, .ptr 1 0), (6, .ptr 2 0), (7, I 0), (12, .ptr 4 0), (13, .ptr 7 0)] := efr
  repeat' ((first | (with_reducible refine ob_bys (by kernel_rfl) ?_) | (with_reducible refine ob_map (by kernel_rfl) ?_) | (with_reducible refine ob_ifc (by kernel_rfl) ?_) | (with_reducible refine branch_t ?_) | (with_reducible refine branch_f ?_) | (with_reducible refine branch_nt ?_) | (with_reducible refine branch_nf ?_) | (with_reducible refine branch_dec (fun _ => ?_) (fun _ => ?_)) | (with_reducible refine branch_ndec (fun _ => ?_) (fun _ => ?_)) | (with_reducible refine branch_bool (fun _ => ?_) (fun _ => ?_)) | (with_reducible refine arith_64 (by omega) ?_) | (with_reducible refine ob_i (by omega) (fun _ => ?_)) | (with_reducible refine ob_i (by unfold room; omega) (fun _ => ?_)) | (with_reducible refine ob_i (by (try simp only [] at *); (try dsimp only [toN] at *); omega) (fun _ => ?_)) | (with_reducible refine arith_64 (by (try simp only [] at *); (try dsimp only [toN] at *); omega) ?_) | (with_reducible refine ob_k rfl ?_) | ((with_reducible refine ob_k ?_ ?_); focus kernel_rfl) | (refine yield_i hmix hT rfl hL efr eps eag ebd rfl (by kernel_rfl) ?_) | (apply call_u backward_ok) | (apply call_l (first_ok (l := [_, _]) (Nat.le_of_ble_eq_true rfl)) (.cons (vm_lit _ rfl rfl (.cons (vm_int rfl) (.cons (vm_int rfl) .nil))) .nil)) | (apply call_l (first_ok (l := [_, _, _]) (Nat.le_of_ble_eq_true rfl)) (.cons (vm_lit _ rfl rfl (.cons (vm_int rfl) (.cons (vm_int rfl) (.cons (vm_int rfl) .nil)))) .nil)) | (apply call_l (first_ok (l := [_, _, _, _]) (Nat.le_of_ble_eq_true rfl)) (.cons (vm_lit _ rfl rfl (.cons (vm_int rfl) (.cons (vm_int rfl) (.cons (vm_int rfl) (.cons (vm_int rfl) .nil))))) .nil))) <;> (try (exfalso; omega; done)) <;> (with_reducible conv => whnf))
  refine range_i hmix hT rfl Try.f111 (by kernel_rfl) rfl (by kernel_rfl) 1 [0, 2, 3] (by simp [noTok, etok]; rfl) ?_
  intro L2 efr2 eps2 eag2 ebd2 etok2 hL2
  have efr2 : L2.fr = [(0, .yld 8), (2, .ptr 9 0), (3, .ptr 11 0)] := efr2
  with_reducible conv => whnf
  repeat' ((first | (with_reducible refine branch_t ?_) | (with_reducible refine branch_f ?_) | (with_reducible refine branch_nt ?_) | (with_reducible refine branch_nf ?_) | (with_reducible refine branch_dec (fun _ => ?_) (fun _ => ?_)) | (with_reducible refine branch_ndec (fun _ => ?_) (fun _ => ?_)) | (with_reducible refine branch_bool (fun _ => ?_) (fun _ => ?_)) | (with_reducible refine arith_64 (by omega) ?_) | (with_reducible refine ob_i (by omega) (fun _ => ?_)) | (with_reducible refine ob_i (by unfold room; omega) (fun _ => ?_)) | (with_reducible refine ob_i (by (try simp only [] at *); (try dsimp only [toN] at *); omega) (fun _ => ?_)) | (with_reducible refine arith_64 (by (try simp only [] at *); (try dsimp only [toN] at *); omega) ?_) | (with_reducible refine ob_k rfl ?_) | ((with_reducible refine ob_k ?_ ?_); focus kernel_rfl) | (refine yield_i hmix hT rfl hL efr eps eag ebd rfl (by kernel_rfl) ?_)  | (apply call_l (first_ok (l := [_, _]) (Nat.le_of_ble_eq_true rfl)) (.cons (vm_lit _ rfl rfl (.cons (vm_int rfl) (.cons (vm_int rfl) .nil))) .nil)) | (apply call_l (first_ok (l := [_, _, _]) (Nat.le_of_ble_eq_true rfl)) (.cons (vm_lit _ rfl rfl (.cons (vm_int rfl) (.cons (vm_int rfl) (.cons (vm_int rfl) .nil)))) .nil)) | (apply call_l (first_ok (l := [_, _, _, _]) (Nat.le_of_ble_eq_true rfl)) (.cons (vm_lit _ rfl rfl (.cons (vm_int rfl) (.cons (vm_int rfl) (.cons (vm_int rfl) (.cons (vm_int rfl) .nil))))) .nil))) <;> (try (exfalso; omega; done)) <;> (with_reducible conv => whnf))
  refine loop_i hmix hT (fun k : Nat => ([(0, .yld 12), (1, .pv [eEds l] 0), (3, I ((l.length : Int) - 1 - k))], ⟨13, [(12, .loop L2 .ready), (11, .cells [.mp 10] 111), (10, .mpb (wdK l k)), (9, .cells [.yld 8] 151), (8, .loop L .ready), (7, .cells [.mp 6] 111), (6, .mpb (dcK l k)), (5, .row 1 p.rows.length (fun i => I ((bwR l p.fr p.rows k).getD i 0)) 3), (4, .cells [I p.fr, .own 5 1 0 p.rows.length] 27), (3, .cells [I g.first, I g.step, eCols g.cols] 96), (2, .cells [I 0, .sc (.slice none 0 0)] 27), (1, .cells [I p.fr, eInts p.rows] 27)]⟩)) (fun k => k ≤ l.length) (fun k => l.length - k) 0 (by omega) ?_ ?_
  · exact ⟨[], rfl, ⟨⟨⟨_, rfl, vm_yld rfl rfl⟩, ⟨_, rfl, vm_p⟩, ⟨_, rfl, vm_int (by omega)⟩, trivial⟩, ⟨⟨_, rfl, sbm_loop (by rw [efr2]; exact ⟨⟨_, rfl, vm_yld rfl rfl⟩, ⟨_, rfl, vm_ptr rfl rfl rfl⟩, ⟨_, rfl, vm_ptr rfl rfl rfl⟩, trivial⟩)⟩, ⟨_, rfl, sbm_cells (.cons (vm_mp rfl rfl) .nil)⟩, ⟨_, rfl, fun _ => rfl⟩, ⟨_, rfl, sbm_cells (.cons (vm_yld rfl rfl) .nil)⟩, ⟨_, rfl, sbm_loop (by rw [efr]; exact ⟨⟨_, rfl, vm_ptr rfl rfl rfl⟩, ⟨_, rfl, vm_ptr rfl rfl rfl⟩, ⟨_, rfl, vm_p⟩, ⟨_, rfl, vm_ptr rfl rfl rfl⟩, ⟨_, rfl, vm_ptr rfl rfl rfl⟩, trivial⟩)⟩, ⟨_, rfl, sbm_cells (.cons (vm_mp rfl rfl) .nil)⟩, ⟨_, rfl, fun _ => rfl⟩, ⟨_, rfl, sbm_row rfl fun _ _ => vm_p⟩, ⟨_, rfl, sbm_cells (.cons vm_p (.cons (vm_own rfl rfl rfl rfl) .nil))⟩, ⟨_, rfl, sbm_cells vmL_p⟩, ⟨_, rfl, sbm_cells vmL_p⟩, ⟨_, rfl, sbm_cells vmL_p⟩, trivial⟩⟩⟩
  intro k hk
  by_cases c2 : k < l.length
  · have ti : toN ((l.length : Int) - 1 - k) = l.length - 1 - k := by rw [toN_eq]; omega
    have vk := val (toN ((l.length : Int) - 1 - k)) (by omega)
    have fk := FT (toN ((l.length : Int) - 1 - k)) (by omega)
    have bl := bwR_len (l := l) (fr := p.fr) (rs := p.rows) k
    obtain ⟨n1, n2, n3, n4⟩ := bw_next (l := l) (fr := p.fr) (rs := p.rows) c2
    rw [← ti] at n1 n2 n3 n4
    with_reducible conv => whnf
    repeat' ((first | (with_reducible refine ob_bys (by kernel_rfl) ?_) | (with_reducible refine ob_map (by kernel_rfl) ?_) | (with_reducible refine ob_ifc (by kernel_rfl) ?_) | (with_reducible refine branch_t ?_) | (with_reducible refine branch_f ?_) | (with_reducible refine branch_nt ?_) | (with_reducible refine branch_nf ?_) | (with_reducible refine branch_dec (fun _ => ?_) (fun _ => ?_)) | (with_reducible refine branch_ndec (fun _ => ?_) (fun _ => ?_)) | (with_reducible refine branch_bool (fun _ => ?_) (fun _ => ?_)) | (with_reducible refine arith_64 (by omega) ?_) | (with_reducible refine ob_i (by omega) (fun _ => ?_)) | (with_reducible refine ob_i (by unfold room; omega) (fun _ => ?_)) | (with_reducible refine ob_i (by (try simp only [toN_eq] at *); (try dsimp only [toN] at *); omega) (fun _ => ?_)) | (with_reducible refine arith_64 (by (try simp only [toN_eq] at *); (try dsimp only [toN] at *); omega) ?_) | (with_reducible refine ob_k rfl ?_) | ((with_reducible refine ob_k ?_ ?_); focus kernel_rfl) | (refine yield_i hmix hT rfl hL efr eps eag ebd rfl (by kernel_rfl) ?_) | (refine yield_i hmix hT rfl hL2 efr2 eps2 eag2 ebd2 rfl (by kernel_rfl) ?_) | (apply call_l (first_ok (l := [_, _]) (Nat.le_of_ble_eq_true rfl)) (.cons (vm_lit _ rfl rfl (.cons (vm_int rfl) (.cons (vm_int rfl) .nil))) .nil)) | (apply call_l (first_ok (l := [_, _, _]) (Nat.le_of_ble_eq_true rfl)) (.cons (vm_lit _ rfl rfl (.cons (vm_int rfl) (.cons (vm_int rfl) (.cons (vm_int rfl) .nil)))) .nil)) | (apply call_l (first_ok (l := [_, _, _, _]) (Nat.le_of_ble_eq_true rfl)) (.cons (vm_lit _ rfl rfl (.cons (vm_int rfl) (.cons (vm_int rfl) (.cons (vm_int rfl) (.cons (vm_int rfl) .nil))))) .nil))) <;> (try (exfalso; omega; done)) <;> (with_reducible conv => whnf))
    · obtain ⟨q1, q2, q3⟩ := n1 (by assumption)
      refine ⟨k + 1, by omega, by omega, [], rfl, ?_⟩
      rw [q1, q2, q3]
      exact ⟨⟨⟨_, rfl, vm_yld rfl rfl⟩, ⟨_, rfl, vm_p⟩, ⟨_, rfl, vm_int (by omega)⟩, trivial⟩, ⟨⟨_, rfl, sbm_loop (by rw [efr2]; exact ⟨⟨_, rfl, vm_yld rfl rfl⟩, ⟨_, rfl, vm_ptr rfl rfl rfl⟩, ⟨_, rfl, vm_ptr rfl rfl rfl⟩, trivial⟩)⟩, ⟨_, rfl, sbm_cells (.cons (vm_mp rfl rfl) .nil)⟩, ⟨_, rfl, fun _ => rfl⟩, ⟨_, rfl, sbm_cells (.cons (vm_yld rfl rfl) .nil)⟩, ⟨_, rfl, sbm_loop (by rw [efr]; exact ⟨⟨_, rfl, vm_ptr rfl rfl rfl⟩, ⟨_, rfl, vm_ptr rfl rfl rfl⟩, ⟨_, rfl, vm_p⟩, ⟨_, rfl, vm_ptr rfl rfl rfl⟩, ⟨_, rfl, vm_ptr rfl rfl rfl⟩, trivial⟩)⟩, ⟨_, rfl, sbm_cells (.cons (vm_mp rfl rfl) .nil)⟩, ⟨_, rfl, fun _ => rfl⟩, ⟨_, rfl, sbm_row rfl fun _ _ => vm_p⟩, ⟨_, rfl, sbm_cells (.cons vm_p (.cons (vm_own rfl rfl rfl rfl) .nil))⟩, ⟨_, rfl, sbm_cells vmL_p⟩, ⟨_, rfl, sbm_cells vmL_p⟩, ⟨_, rfl, sbm_cells vmL_p⟩, trivial⟩⟩
    · obtain ⟨q1, q2, q3⟩ := n2 (by assumption) (by assumption)
      refine ⟨k + 1, by omega, by omega, [], rfl, ?_⟩
      rw [q1, q2, q3]
      exact ⟨⟨⟨_, rfl, vm_yld rfl rfl⟩, ⟨_, rfl, vm_p⟩, ⟨_, rfl, vm_int (by omega)⟩, trivial⟩, ⟨⟨_, rfl, sbm_loop (by rw [efr2]; exact ⟨⟨_, rfl, vm_yld rfl rfl⟩, ⟨_, rfl, vm_ptr rfl rfl rfl⟩, ⟨_, rfl, vm_ptr rfl rfl rfl⟩, trivial⟩)⟩, ⟨_, rfl, sbm_cells (.cons (vm_mp rfl rfl) .nil)⟩, ⟨_, rfl, fun _ => rfl⟩, ⟨_, rfl, sbm_cells (.cons (vm_yld rfl rfl) .nil)⟩, ⟨_, rfl, sbm_loop (by rw [efr]; exact ⟨⟨_, rfl, vm_ptr rfl rfl rfl⟩, ⟨_, rfl, vm_ptr rfl rfl rfl⟩, ⟨_, rfl, vm_p⟩, ⟨_, rfl, vm_ptr rfl rfl rfl⟩, ⟨_, rfl, vm_ptr rfl rfl rfl⟩, trivial⟩)⟩, ⟨_, rfl, sbm_cells (.cons (vm_mp rfl rfl) .nil)⟩, ⟨_, rfl, fun _ => rfl⟩, ⟨_, rfl, sbm_row rfl fun _ _ => vm_p⟩, ⟨_, rfl, sbm_cells (.cons vm_p (.cons (vm_own rfl rfl rfl rfl) .nil))⟩, ⟨_, rfl, sbm_cells vmL_p⟩, ⟨_, rfl, sbm_cells vmL_p⟩, ⟨_, rfl, sbm_cells vmL_p⟩, trivial⟩⟩
    · obtain ⟨q1, q2, q3⟩ := n3 (by assumption) (by assumption) (by assumption)
      refine ⟨k + 1, by omega, by omega, [], rfl, ?_⟩
      rw [q1, q2, q3]
      exact ⟨⟨⟨_, rfl, vm_yld rfl rfl⟩, ⟨_, rfl, vm_p⟩, ⟨_, rfl, vm_int (by omega)⟩, trivial⟩, ⟨⟨_, rfl, sbm_loop (by rw [efr2]; exact ⟨⟨_, rfl, vm_yld rfl rfl⟩, ⟨_, rfl, vm_ptr rfl rfl rfl⟩, ⟨_, rfl, vm_ptr rfl rfl rfl⟩, trivial⟩)⟩, ⟨_, rfl, sbm_cells (.cons (vm_mp rfl rfl) .nil)⟩, ⟨_, rfl, fun _ => rfl⟩, ⟨_, rfl, sbm_cells (.cons (vm_yld rfl rfl) .nil)⟩, ⟨_, rfl, sbm_loop (by rw [efr]; exact ⟨⟨_, rfl, vm_ptr rfl rfl rfl⟩, ⟨_, rfl, vm_ptr rfl rfl rfl⟩, ⟨_, rfl, vm_p⟩, ⟨_, rfl, vm_ptr rfl rfl rfl⟩, ⟨_, rfl, vm_ptr rfl rfl rfl⟩, trivial⟩)⟩, ⟨_, rfl, sbm_cells (.cons (vm_mp rfl rfl) .nil)⟩, ⟨_, rfl, fun _ => rfl⟩, ⟨_, rfl, sbm_row rfl fun _ _ => vm_p⟩, ⟨_, rfl, sbm_cells (.cons vm_p (.cons (vm_own rfl rfl rfl rfl) .nil))⟩, ⟨_, rfl, sbm_cells vmL_p⟩, ⟨_, rfl, sbm_cells vmL_p⟩, ⟨_, rfl, sbm_cells vmL_p⟩, trivial⟩⟩
    all_goals
      have h2 : (l.getD (toN ((l.length : Int) - 1 - k)) edD).kd ≠ 2 := by assumption
      have fk := fk h2
      obtain ⟨q1, q2, q3⟩ := n4 (by assumption) h2 (by assumption)
      refine ⟨k + 1, by omega, by omega, [], rfl, ?_⟩
      rw [q1, q2, q3]
      refine ⟨⟨⟨_, rfl, vm_yld rfl rfl⟩, ⟨_, rfl, vm_p⟩, ⟨_, rfl, vm_int (by omega)⟩, trivial⟩, ⟨⟨_, rfl, sbm_loop (by rw [efr2]; exact ⟨⟨_, rfl, vm_yld rfl rfl⟩, ⟨_, rfl, vm_ptr rfl rfl rfl⟩, ⟨_, rfl, vm_ptr rfl rfl rfl⟩, trivial⟩)⟩, ⟨_, rfl, sbm_cells (.cons (vm_mp rfl rfl) .nil)⟩, ⟨_, rfl, fun _ => rfl⟩, ⟨_, rfl, sbm_cells (.cons (vm_yld rfl rfl) .nil)⟩, ⟨_, rfl, sbm_loop (by rw [efr]; exact ⟨⟨_, rfl, vm_ptr rfl rfl rfl⟩, ⟨_, rfl, vm_ptr rfl rfl rfl⟩, ⟨_, rfl, vm_p⟩, ⟨_, rfl, vm_ptr rfl rfl rfl⟩, ⟨_, rfl, vm_ptr rfl rfl rfl⟩, trivial⟩)⟩, ⟨_, rfl, sbm_cells (.cons (vm_mp rfl rfl) .nil)⟩, ⟨_, rfl, fun _ => rfl⟩, ⟨_, rfl, row_set (by rw [toN_eq]; omega) (by omega) ?_⟩, ⟨_, rfl, sbm_cells (.cons vm_p (.cons (vm_own rfl rfl rfl rfl) .nil))⟩, ⟨_, rfl, sbm_cells vmL_p⟩, ⟨_, rfl, sbm_cells vmL_p⟩, ⟨_, rfl, sbm_cells vmL_p⟩, trivial⟩⟩
      unfold edV
      first
        | rw [if_pos (by assumption)]
        | rw [if_neg (by assumption)]
  · obtain rfl : k = l.length := by omega
    rw [← bw_fw FT]
    have bl := bwR_len (l := l) (fr := p.fr) (rs := p.rows) l.length
    with_reducible conv => whnf
    repeat' ((first | (with_reducible refine branch_t ?_) | (with_reducible refine branch_f ?_) | (with_reducible refine branch_nt ?_) | (with_reducible refine branch_nf ?_) | (with_reducible refine branch_dec (fun _ => ?_) (fun _ => ?_)) | (with_reducible refine branch_ndec (fun _ => ?_) (fun _ => ?_)) | (with_reducible refine branch_bool (fun _ => ?_) (fun _ => ?_)) | (with_reducible refine arith_64 (by omega) ?_) | (with_reducible refine ob_i (by omega) (fun _ => ?_)) | (with_reducible refine ob_i (by unfold room; omega) (fun _ => ?_)) | (with_reducible refine ob_i (by (try simp only [] at *); (try dsimp only [toN] at *); omega) (fun _ => ?_)) | (with_reducible refine arith_64 (by (try simp only [] at *); (try dsimp only [toN] at *); omega) ?_) | (with_reducible refine ob_k rfl ?_) | ((with_reducible refine ob_k ?_ ?_); focus kernel_rfl) | (refine yield_i hmix hT rfl hL efr eps eag ebd rfl (by kernel_rfl) ?_)  | (apply call_l (first_ok (l := [_, _]) (Nat.le_of_ble_eq_true rfl)) (.cons (vm_lit _ rfl rfl (.cons (vm_int rfl) (.cons (vm_int rfl) .nil))) .nil)) | (apply call_l (first_ok (l := [_, _, _]) (Nat.le_of_ble_eq_true rfl)) (.cons (vm_lit _ rfl rfl (.cons (vm_int rfl) (.cons (vm_int rfl) (.cons (vm_int rfl) .nil)))) .nil)) | (apply call_l (first_ok (l := [_, _, _, _]) (Nat.le_of_ble_eq_true rfl)) (.cons (vm_lit _ rfl rfl (.cons (vm_int rfl) (.cons (vm_int rfl) (.cons (vm_int rfl) (.cons (vm_int rfl) .nil))))) .nil))) <;> (try (exfalso; omega; done)) <;> (with_reducible conv => whnf))
    exact ret0 (vm_tup (.cons (vm_agg (.cons vm_p (.cons (vm_fr rfl rfl bl.symm (Nat.le_refl _) fun i hi => vm_p) .nil))) (.cons vm_p .nil)))
end Go.Proofs.Ytkliejppigfjiaa
