/-
  Chapter 3: copies, frequencies, and the first law.
  Conditions: none.
-/
import Derived.Test.Ytkliejppigfjiaa3B
namespace Go.Proofs.Ytkliejppigfjiaa
open Go.RowKit Fx
theorem open_ok {g : Gram} (hg : g.Ok) : FnOK Try.prog 85 [eGram g] (.tup [eGram g, I (checkGram g).2]) [] := by
  refine fn_i hmix hT Try.f85 (by kernel_rfl) rfl (by kernel_rfl) ?_
  with_reducible conv => whnf
  repeat' ((first | (with_reducible refine branch_t ?_) | (with_reducible refine branch_f ?_) | (with_reducible refine branch_nt ?_) | (with_reducible refine branch_nf ?_) | (with_reducible refine branch_dec (fun _ => ?_) (fun _ => ?_)) | (with_reducible refine branch_ndec (fun _ => ?_) (fun _ => ?_)) | (with_reducible refine branch_bool (fun _ => ?_) (fun _ => ?_)) | (with_reducible refine arith_64 (by omega) ?_) | (with_reducible refine ob_i (by omega) (fun _ => ?_)) | (with_reducible refine ob_i (by unfold room; omega) (fun _ => ?_)) | ((with_reducible refine ob_k ?_ ?_); focus kernel_rfl) | (apply call_u (checkGram_ok hg))) <;> (try (exfalso; omega; done)) <;> (with_reducible conv => whnf))
  exact ret0 vm_p
theorem hasColumn_ok {g : Gram} {n : Int} (hg : g.Ok) : FnOK Try.prog 115 [eGram g, I n] (B (decide (0 ≤ n ∧ n ≤ (g.cols.length : Int) - 1))) [] := by
  obtain ⟨h1, h2⟩ := hg
  refine fn_i hmix hT Try.f115 (by kernel_rfl) rfl (by kernel_rfl) ?_
  with_reducible conv => whnf
  repeat' ((first | (with_reducible refine branch_t ?_) | (with_reducible refine branch_f ?_) | (with_reducible refine branch_nt ?_) | (with_reducible refine branch_nf ?_) | (with_reducible refine branch_dec (fun _ => ?_) (fun _ => ?_)) | (with_reducible refine branch_ndec (fun _ => ?_) (fun _ => ?_)) | (with_reducible refine branch_bool (fun _ => ?_) (fun _ => ?_)) | (with_reducible refine arith_64 (by omega) ?_) | (with_reducible refine ob_i (by omega) (fun _ => ?_)) | (with_reducible refine ob_i (by unfold room; omega) (fun _ => ?_)) | ((with_reducible refine ob_k ?_ ?_); focus kernel_rfl) | (apply call_u within_ok)) <;> (try (exfalso; omega; done)) <;> (with_reducible conv => whnf))
  exact ret0 (vm_bool rfl)
theorem rows_ok {g : Gram} (h : 0 < g.cols.length) : FnOK Try.prog 95 [eGram g] (I (g.cols.getD 0 []).length) [] := by
  refine fn_i hmix hT Try.f95 (by kernel_rfl) rfl (by kernel_rfl) ?_
  with_reducible conv => whnf
  repeat' ((first | (with_reducible refine branch_t ?_) | (with_reducible refine branch_f ?_) | (with_reducible refine branch_nt ?_) | (with_reducible refine branch_nf ?_) | (with_reducible refine branch_dec (fun _ => ?_) (fun _ => ?_)) | (with_reducible refine branch_ndec (fun _ => ?_) (fun _ => ?_)) | (with_reducible refine branch_bool (fun _ => ?_) (fun _ => ?_)) | (with_reducible refine arith_64 (by omega) ?_) | (with_reducible refine ob_i (by omega) (fun _ => ?_)) | (with_reducible refine ob_i (by unfold room; omega) (fun _ => ?_)) | ((with_reducible refine ob_k ?_ ?_); focus kernel_rfl) ) <;> (try (exfalso; omega; done)) <;> (with_reducible conv => whnf))
  exact ret0 (vm_int rfl)
theorem frequency_ok {g : Gram} {n : Int} (h0 : 0 ≤ g.first ∧ g.first ≤ 3000) (h1 : 0 ≤ n ∧ n ≤ 100) (h2 : 0 ≤ g.step ∧ g.step ≤ 3000) : FnOK Try.prog 82 [eGram g, I n] (I (g.first + n * g.step)) [] := by
  have hm : 0 ≤ n * g.step ∧ n * g.step ≤ 100 * 3000 := ⟨Int.mul_nonneg h1.1 h2.1, Int.mul_le_mul h1.2 h2.2 h2.1 (by omega)⟩
  refine fn_i hmix hT Try.f82 (by kernel_rfl) rfl (by kernel_rfl) ?_
  with_reducible conv => whnf
  repeat' ((first | (with_reducible refine branch_t ?_) | (with_reducible refine branch_f ?_) | (with_reducible refine branch_nt ?_) | (with_reducible refine branch_nf ?_) | (with_reducible refine branch_dec (fun _ => ?_) (fun _ => ?_)) | (with_reducible refine branch_ndec (fun _ => ?_) (fun _ => ?_)) | (with_reducible refine branch_bool (fun _ => ?_) (fun _ => ?_)) | (with_reducible refine arith_64 (by omega) ?_) | (with_reducible refine ob_i (by omega) (fun _ => ?_)) | (with_reducible refine ob_i (by unfold room; omega) (fun _ => ?_)) | ((with_reducible refine ob_k ?_ ?_); focus kernel_rfl) ) <;> (try (exfalso; omega; done)) <;> (with_reducible conv => whnf))
  exact ret0 (vm_int rfl)
def frequencyAt (g : Gram) (n : Int) : Int × Int :=
  if (checkGram g).2 ≠ 0 then (0, (checkGram g).2) else if ¬ (0 ≤ n ∧ n ≤ (g.cols.length : Int) - 1) then (0, 6) else (g.first + n * g.step, 0)
theorem checkGram_facts {g : Gram} (h : (checkGram g).2 = 0) : (1 ≤ g.first ∧ g.first ≤ 3000) ∧ (1 ≤ g.step ∧ g.step ≤ 3000) ∧ 0 < g.cols.length ∧ g.cols.length ≤ 10 := by
  unfold checkGram at h
  split at h
  · simp at h
  · split at h
    · simp at h
    · split at h
      · simp at h
      · refine ⟨by omega, by omega, by omega, by omega⟩
theorem copy_ok {g : Gram} (h0 : g.cols.length ≤ 100) (h1 : ∀ i, (g.cols.getD i []).length ≤ 100) : FnOK Try.prog 11 [eGram g] (eGram g) [] := by
  refine fn_i hmix hT Try.f11 (by kernel_rfl) rfl (by kernel_rfl) ?_
  with_reducible conv => whnf
  repeat' ((first | (with_reducible refine branch_t ?_) | (with_reducible refine branch_f ?_) | (with_reducible refine branch_nt ?_) | (with_reducible refine branch_nf ?_) | (with_reducible refine branch_dec (fun _ => ?_) (fun _ => ?_)) | (with_reducible refine branch_ndec (fun _ => ?_) (fun _ => ?_)) | (with_reducible refine branch_bool (fun _ => ?_) (fun _ => ?_)) | (with_reducible refine arith_64 (by omega) ?_) | (with_reducible refine ob_i (by omega) (fun _ => ?_)) | (with_reducible refine ob_i (by unfold room; omega) (fun _ => ?_)) | ((with_reducible refine ob_k ?_ ?_); focus kernel_rfl) ) <;> (try (exfalso; omega; done)) <;> (with_reducible conv => whnf))
  refine loop_i hmix hT (fun k : Nat => ([(1, .ptr 0 0), (2, .ptr 1 0), (3, .ptr 2 0), (4, I k)], ⟨4, [(3, .row 1 k (fun i => eCol (g.cols.getD i [])) 94), (2, .cells [I g.first, I g.step, .own 3 1 0 k] 24), (1, .cells [I 0, I 0, .sc (.slice none 0 0)] 24), (0, .cells [I g.first, I g.step, eCols g.cols] 24)]⟩))
    (fun k => k ≤ g.cols.length) (fun k => g.cols.length - k) 0 (by omega) ?_ ?_
  · refine ⟨[(3, none)], rfl, ⟨⟨_, rfl, vm_ptr rfl rfl rfl⟩, ⟨_, rfl, vm_ptr rfl rfl rfl⟩, ⟨_, rfl, vm_ptr rfl rfl rfl⟩, ⟨_, rfl, vm_p⟩, trivial⟩, ⟨⟨_, _, _, rfl⟩, ⟨_, rfl, sbm_cells ?_⟩, ⟨_, rfl, sbm_cells vmL_p⟩, ⟨_, rfl, sbm_cells vmL_p⟩, trivial⟩⟩
    exact .cons vm_p (.cons vm_p (.cons (vm_nil rfl) .nil))
  intro k hk
  have hk1 := h1 (toN k)
  with_reducible conv => whnf
  repeat' ((first | (with_reducible refine branch_t ?_) | (with_reducible refine branch_f ?_) | (with_reducible refine branch_nt ?_) | (with_reducible refine branch_nf ?_) | (with_reducible refine branch_dec (fun _ => ?_) (fun _ => ?_)) | (with_reducible refine branch_ndec (fun _ => ?_) (fun _ => ?_)) | (with_reducible refine branch_bool (fun _ => ?_) (fun _ => ?_)) | (with_reducible refine arith_64 (by omega) ?_) | (with_reducible refine ob_i (by omega) (fun _ => ?_)) | (with_reducible refine ob_i (by unfold room; omega) (fun _ => ?_)) | ((with_reducible refine ob_k ?_ ?_); focus kernel_rfl) ) <;> (try (exfalso; omega; done)) <;> (with_reducible conv => whnf))
  · refine ⟨k + 1, by omega, by omega, [(3, some 7)], rfl, ⟨⟨_, rfl, vm_ptr rfl rfl rfl⟩, ⟨_, rfl, vm_ptr rfl rfl rfl⟩, ⟨_, rfl, vm_ptr rfl rfl rfl⟩, ⟨_, rfl, vm_p⟩, trivial⟩, ⟨⟨_, rfl, sbm_row rfl fun i hi => ?_⟩, ⟨_, rfl, sbm_cells ?_⟩, ⟨_, rfl, sbm_cells vmL_p⟩, ⟨_, rfl, sbm_cells vmL_p⟩, trivial⟩⟩
    · refine vm_snoc hi (fun _ _ => vm_p) (vm_fr rfl rfl (by dsimp only [toN]; omega) (Nat.le_refl _) fun j hj => ?_)
      rw [appF_ge (by omega), Nat.sub_zero]
      exact vm_p
    · exact .cons vm_p (.cons vm_p (.cons (vm_own rfl rfl rfl rfl) .nil))
  · obtain rfl : k = g.cols.length := by omega
    refine ret0 (vm_agg (.cons vm_p (.cons vm_p (.cons (vm_fr rfl rfl rfl (Nat.le_refl _) fun i hi => vm_p) .nil))))
end Go.Proofs.Ytkliejppigfjiaa
