/-
  Chapter 3: the law TraceGrams, as a function that returns true.
  Conditions: none.
-/
import Derived.Test.Ytmiphilcplojnaa3C
import Derived.Test.YtmiphilcplojnaaAwake
namespace Go.Proofs.Ytmiphilcplojnaa
open Go.RowKit Fx
theorem awake_fn : FnOK Try.prog 13 [] (B true) [] := FnOK.of_calls (enters_of (fn := Try.f13) (by kernel_rfl) (by kernel_rfl) rfl) awake_ok
theorem traceGrams_ok {g : Gram} {n : Int} (hg : g.Ok) : FnOK Try.prog 4 [eGram g, I n] (B true) [] := by
  have hh := @checkGram_facts g
  have hf : fewB g = true → g.cols.length ≤ 100 ∧ ∀ i, (g.cols.getD i []).length ≤ 100 := by
    unfold fewB
    intro h
    simp only [decide_eq_true_eq] at h
    refine ⟨by omega, fun i => ?_⟩
    by_cases hi : i < g.cols.length
    · have := h.2 i hi; omega
    · rw [List.getD_eq_getElem?_getD, List.getElem?_eq_none (by omega)]; simp
  refine fn_i hmix hT Try.f4 (by kernel_rfl) rfl (by kernel_rfl) ?_
  with_reducible conv => whnf
  apply call_u awake_fn
  with_reducible conv => whnf
  refine branch_f ?_
  with_reducible conv => whnf
  apply call_u (few_ok hg)
  with_reducible conv => whnf
  refine branch_bool (fun h => ?_) (fun h => ?_)
  · with_reducible conv => whnf
    exact ret0 vm_p
  obtain ⟨hf1, hf2⟩ := hf (by simpa using h)
  clear hf h
  with_reducible conv => whnf
  repeat' ((first | (with_reducible refine branch_t ?_) | (with_reducible refine branch_f ?_) | (with_reducible refine branch_nt ?_) | (with_reducible refine branch_nf ?_) | (with_reducible refine branch_dec (fun _ => ?_) (fun _ => ?_)) | (with_reducible refine branch_ndec (fun _ => ?_) (fun _ => ?_)) | (with_reducible refine branch_bool (fun _ => ?_) (fun _ => ?_)) | (with_reducible refine arith_64 (by omega) ?_) | (with_reducible refine ob_i (by omega) (fun _ => ?_)) | (with_reducible refine ob_i (by unfold room; omega) (fun _ => ?_)) | ((with_reducible refine ob_k ?_ ?_); focus kernel_rfl) | (apply call_u (copy_ok hf1 hf2)) | (apply call_u (checkGram_ok hg)) | (apply call_u (frequencyAt_ok hg)) | (apply call_u (refCheckGram_ok hg)) | (apply call_u bWithin_ok)) <;> (try (exfalso; omega; done)) <;> (with_reducible conv => whnf))
  all_goals try (exact ret0 (vm_bool (by unfold frequencyAt at *; grind)))
  obtain ⟨f1, f2, f3, f4⟩ := hh (by assumption)
  apply call_u (refFrequency_ok (by omega) (by omega) (by omega))
  with_reducible conv => whnf
  have e : frequencyAt g n = (g.first + n * g.step, 0) := by
    unfold frequencyAt
    rw [if_neg (by assumption), if_neg (fun h => h (by assumption))]
  with_reducible conv => whnf
  repeat' ((first | (with_reducible refine branch_t ?_) | (with_reducible refine branch_f ?_) | (with_reducible refine branch_nt ?_) | (with_reducible refine branch_nf ?_) | (with_reducible refine branch_dec (fun _ => ?_) (fun _ => ?_)) | (with_reducible refine branch_ndec (fun _ => ?_) (fun _ => ?_)) | (with_reducible refine branch_bool (fun _ => ?_) (fun _ => ?_)) | (with_reducible refine arith_64 (by omega) ?_) | (with_reducible refine ob_i (by omega) (fun _ => ?_)) | (with_reducible refine ob_i (by unfold room; omega) (fun _ => ?_)) | ((with_reducible refine ob_k ?_ ?_); focus kernel_rfl) ) <;> (try (exfalso; omega; done)) <;> (with_reducible conv => whnf))
  all_goals exact ret0 (vm_bool (by rw [e]; simp))
end Go.Proofs.Ytmiphilcplojnaa
