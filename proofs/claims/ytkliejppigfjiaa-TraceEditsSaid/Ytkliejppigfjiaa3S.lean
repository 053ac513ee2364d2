/-
  Chapter 3: readings: what they agree on, which two contradict each other (the document's functions and the program's, by contract).
  Conditions: none.
-/
import Derived.Test.Ytkliejppigfjiaa3R
namespace Go.Proofs.Ytkliejppigfjiaa
open Go.RowKit Fx
/-! ### Plain -/
def meetK (f : Nat → Rg) : Nat → Rg
  | 0 => f 0
  | k + 1 => meet (meetK f k) (f (k + 1))
theorem meetK_congr {f g : Nat → Rg} : ∀ (n : Nat), (∀ i, i ≤ n → f i = g i) → meetK f n = meetK g n
  | 0, h => h 0 (Nat.le_refl _)
  | n + 1, h => by
    simp only [meetK]
    rw [meetK_congr n fun i hi => h i (by omega), h (n + 1) (Nat.le_refl _)]
def meetL (l : List Rg) : Rg := meetK (fun i => l.getD i (0, 0)) (l.length - 1)
def goodB (r : Rg) : Bool := decide (r.1 ≤ r.2)
def agreed (l : List Rdg) (s : Rg) : Rg × Int := if readsE l s ≠ 0 then ((0, 0), readsE l s) else if (meetL (perms l s)).1 ≤ (meetL (perms l s)).2 then (meetL (perms l s), 0) else ((0, 0), 13)
/-! ### Small -/
theorem ints_ok {a b : List Int} (ha : a.length ≤ 9223372036854775807) (hb : b.length ≤ 9223372036854775807) : FnOK Try.prog 64 [eInts a, eInts b] (B (decide (a = b))) [] := by
  refine fn_i hmix hT Try.f64 (by kernel_rfl) rfl (by kernel_rfl) ?_
  with_reducible conv => whnf
  repeat' ((first | (with_reducible refine branch_t ?_) | (with_reducible refine branch_f ?_) | (with_reducible refine branch_nt ?_) | (with_reducible refine branch_nf ?_) | (with_reducible refine branch_dec (fun _ => ?_) (fun _ => ?_)) | (with_reducible refine branch_ndec (fun _ => ?_) (fun _ => ?_)) | (with_reducible refine branch_bool (fun _ => ?_) (fun _ => ?_)) | (with_reducible refine arith_64 (by omega) ?_) | (with_reducible refine ob_i (by omega) (fun _ => ?_)) | (with_reducible refine ob_i (by unfold room; omega) (fun _ => ?_)) | ((with_reducible refine ob_k ?_ ?_); focus kernel_rfl) ) <;> (try (exfalso; omega; done)) <;> (with_reducible conv => whnf))
  · exact ret0 (vm_bool (by symm; rw [decide_eq_false_iff_not]; rintro rfl; simp_all))
  refine loop_i hmix hT (fun k : Nat => ([(0, eInts a), (1, eInts b), (5, I k)], ⟨0, []⟩)) (fun k => k ≤ a.length ∧ ∀ i, i < k → a.getD i 0 = b.getD i 0) (fun k => a.length - k) 0 ⟨by omega, by omega⟩ ?_ ?_
  · refine ⟨[], rfl, ?_, ?_⟩ <;> repeat' (first | exact trivial | exact vm_p | exact vm_ptr rfl rfl rfl | exact vm_own rfl rfl (by omega) (by omega) | exact vm_int (by omega) | exact sbm_cells vmL_p | refine ⟨⟨_, rfl, ?_⟩, ?_⟩ | refine sbm_cells ?_ | exact vmL.nil | refine vmL.cons ?_ ?_)
  rintro k ⟨hk1, hk2⟩
  with_reducible conv => whnf
  repeat' ((first | (with_reducible refine branch_t ?_) | (with_reducible refine branch_f ?_) | (with_reducible refine branch_nt ?_) | (with_reducible refine branch_nf ?_) | (with_reducible refine branch_dec (fun _ => ?_) (fun _ => ?_)) | (with_reducible refine branch_ndec (fun _ => ?_) (fun _ => ?_)) | (with_reducible refine branch_bool (fun _ => ?_) (fun _ => ?_)) | (with_reducible refine arith_64 (by omega) ?_) | (with_reducible refine ob_i (by omega) (fun _ => ?_)) | (with_reducible refine ob_i (by unfold room; omega) (fun _ => ?_)) | ((with_reducible refine ob_k ?_ ?_); focus kernel_rfl) ) <;> (try (exfalso; omega; done)) <;> (with_reducible conv => whnf))
  all_goals dsimp only [toN] at *
  · exact ret0 (vm_bool (by symm; rw [decide_eq_false_iff_not]; rintro rfl; simp_all))
  · refine ⟨k + 1, ⟨by omega, fun i hi => ?_⟩, by omega, ?_⟩
    · by_cases h : i = k
      · subst h; omega
      · exact hk2 i (by omega)
    · refine ⟨[], rfl, ?_, ?_⟩ <;> repeat' (first | exact trivial | exact vm_p | exact vm_ptr rfl rfl rfl | exact vm_own rfl rfl (by omega) (by omega) | exact vm_int (by omega) | exact sbm_cells vmL_p | refine ⟨⟨_, rfl, ?_⟩, ?_⟩ | refine sbm_cells ?_ | exact vmL.nil | refine vmL.cons ?_ ?_)
  · obtain rfl : k = a.length := by omega
    refine ret0 (vm_bool ?_)
    symm
    rw [decide_eq_true_eq]
    refine List.ext_getElem (by omega) fun i h1 h2 => ?_
    have := hk2 i h1
    simpa [List.getD_eq_getElem?_getD, h1, h2] using this
/-! ### What is common -/
theorem common_ok {l : List Rg} (h0 : 0 < l.length) (hl : l.length ≤ 9223372036854775807) : FnOK Try.prog 84 [eRgs l] (.tup [eRg (meetL l), B (goodB (meetL l))]) [] := by
  refine fn_i hmix hT Try.f84 (by kernel_rfl) rfl (by kernel_rfl) ?_
  with_reducible conv => whnf
  repeat' ((first | (with_reducible refine branch_t ?_) | (with_reducible refine branch_f ?_) | (with_reducible refine branch_nt ?_) | (with_reducible refine branch_nf ?_) | (with_reducible refine branch_dec (fun _ => ?_) (fun _ => ?_)) | (with_reducible refine branch_ndec (fun _ => ?_) (fun _ => ?_)) | (with_reducible refine branch_bool (fun _ => ?_) (fun _ => ?_)) | (with_reducible refine arith_64 (by omega) ?_) | (with_reducible refine ob_i (by omega) (fun _ => ?_)) | (with_reducible refine ob_i (by unfold room; omega) (fun _ => ?_)) | ((with_reducible refine ob_k ?_ ?_); focus kernel_rfl) ) <;> (try (exfalso; omega; done)) <;> (with_reducible conv => whnf))
  refine loop_i hmix hT (fun k : Nat => ([(2, .ptr 0 0), (4, .ptr 1 0), (11, .sl 2 (l.length - 1) fun j => eRg (l.getD (1 + j) (0, 0))), (12, I (l.length - 1 : Nat)), (13, I k)],
      ⟨2, [(1, .cells [I (meetK (fun i => l.getD i (0, 0)) k).1, I (meetK (fun i => l.getD i (0, 0)) k).2] 37), (0, .cells [I 0, I 0] 37)]⟩))
    (fun k => k ≤ l.length - 1) (fun k => l.length - 1 - k) 0 (by omega) ?_ ?_
  · refine ⟨[], rfl, ?_, ?_⟩ <;> repeat' (first | exact trivial | exact vm_p | exact vm_ptr rfl rfl rfl | exact vm_own rfl rfl (by omega) (by omega) | exact vm_int (by omega) | exact sbm_cells vmL_p | refine ⟨⟨_, rfl, ?_⟩, ?_⟩ | refine sbm_cells ?_ | exact vmL.nil | refine vmL.cons ?_ ?_)
  intro k hk1
  with_reducible conv => whnf
  repeat' ((first | (with_reducible refine branch_t ?_) | (with_reducible refine branch_f ?_) | (with_reducible refine branch_nt ?_) | (with_reducible refine branch_nf ?_) | (with_reducible refine branch_dec (fun _ => ?_) (fun _ => ?_)) | (with_reducible refine branch_ndec (fun _ => ?_) (fun _ => ?_)) | (with_reducible refine branch_bool (fun _ => ?_) (fun _ => ?_)) | (with_reducible refine arith_64 (by omega) ?_) | (with_reducible refine ob_i (by omega) (fun _ => ?_)) | (with_reducible refine ob_i (by unfold room; omega) (fun _ => ?_)) | ((with_reducible refine ob_k ?_ ?_); focus kernel_rfl) ) <;> (try (exfalso; omega; done)) <;> (with_reducible conv => whnf))
  all_goals dsimp only [toN] at *
  · refine ⟨k + 1, by omega, by omega, [], rfl, ⟨⟨_, rfl, vm_ptr rfl rfl rfl⟩, ⟨_, rfl, vm_ptr rfl rfl rfl⟩, ⟨_, rfl, vm_p⟩, ⟨_, rfl, vm_p⟩, ⟨_, rfl, vm_p⟩, trivial⟩, ⟨⟨_, rfl, sbm_cells ?_⟩, ⟨_, rfl, sbm_cells vmL_p⟩, trivial⟩⟩
    exact .cons (vm_int (by simp [meetK, meet, Nat.add_comm])) (.cons (vm_int (by simp [meetK, meet, Nat.add_comm])) .nil)
  · obtain rfl : k = l.length - 1 := by omega
    exact ret0 (vm_tup (.cons vm_p (.cons (vm_bool rfl) .nil)))
theorem perms_len {l : List Rdg} {s : Rg} (h : readsE l s = 0) : perms l s = l.map (fun x => permit x s) ∧ 0 < l.length ∧ l.length ≤ 12 ∧ (findErr readE l 0).2 = 0 ∧ rangeE s = 0 := by
  unfold readsE at h
  split at h
  · cases h
  · split at h
    · cases h
    · split at h
      · rename_i h3; exact absurd h h3
      · unfold perms
        rename_i h1 h2 h3
        have h3' : (findErr readE l 0).2 = 0 := by simpa using h3
        rw [if_neg (by rw [h3']; omega)]
        exact ⟨rfl, by omega, by omega, h3', h⟩
theorem agreedOf_ok {l : List Rdg} {s : Rg} (hl : l.length ≤ 9223372036854775807) : FnOK Try.prog 42 [eRds l, eRg s] (.tup [eRg (agreed l s).1, I (agreed l s).2]) [] := by
  have pl := @perms_len l s
  refine fn_i hmix hT Try.f42 (by kernel_rfl) rfl (by kernel_rfl) ?_
  with_reducible conv => whnf
  repeat' ((first | (with_reducible refine branch_t ?_) | (with_reducible refine branch_f ?_) | (with_reducible refine branch_nt ?_) | (with_reducible refine branch_nf ?_) | (with_reducible refine branch_dec (fun _ => ?_) (fun _ => ?_)) | (with_reducible refine branch_ndec (fun _ => ?_) (fun _ => ?_)) | (with_reducible refine branch_bool (fun _ => ?_) (fun _ => ?_)) | (with_reducible refine arith_64 (by omega) ?_) | (with_reducible refine ob_i (by omega) (fun _ => ?_)) | (with_reducible refine ob_i (by unfold room; omega) (fun _ => ?_)) | ((with_reducible refine ob_k ?_ ?_); focus kernel_rfl) | (apply call_u (mPermitted_ok hl))) <;> (try (exfalso; omega; done)) <;> (with_reducible conv => whnf))
  · have e : agreed l s = ((0, 0), readsE l s) := by unfold agreed; rw [if_pos (by assumption)]
    rw [e]
    exact ret0 (vm_tup vmL_p)
  obtain ⟨q1, q2, q3, _⟩ := pl (by omega)
  have q4 : (perms l s).length = l.length := by rw [q1]; simp
  apply call_u (common_ok (l := perms l s) (by omega) (by omega))
  with_reducible conv => whnf
  refine branch_bool (fun h => ?_) (fun h => ?_)
  · with_reducible conv => whnf
    have e : agreed l s = ((0, 0), 13) := by unfold agreed; rw [if_neg (by omega), if_neg (by simpa [goodB] using h)]
    rw [e]
    exact ret0 (vm_tup vmL_p)
  · with_reducible conv => whnf
    have e : agreed l s = (meetL (perms l s), 0) := by unfold agreed; rw [if_neg (by omega), if_pos (by simpa [goodB] using h)]
    rw [e]
    exact ret0 (vm_tup vmL_p)
end Go.Proofs.Ytkliejppigfjiaa
