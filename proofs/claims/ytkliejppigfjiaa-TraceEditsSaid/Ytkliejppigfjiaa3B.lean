/-
  Chapter 3: ionograms: what is valid, copies, frequencies, second part.
  Conditions: none.
-/
import Derived.Test.Ytkliejppigfjiaa3A
namespace Go.Proofs.Ytkliejppigfjiaa
open Go.RowKit Fx
theorem few_ok {g : Gram} (hg : g.Ok) : FnOK Try.prog 8 [eGram g] (B (fewB g)) [] := by
  obtain ⟨h1, h2⟩ := hg
  refine fn_i hmix hT Try.f8 (by kernel_rfl) rfl (by kernel_rfl) ?_
  with_reducible conv => whnf
  repeat' ((first | (with_reducible refine branch_t ?_) | (with_reducible refine branch_f ?_) | (with_reducible refine branch_nt ?_) | (with_reducible refine branch_nf ?_) | (with_reducible refine branch_dec (fun _ => ?_) (fun _ => ?_)) | (with_reducible refine branch_ndec (fun _ => ?_) (fun _ => ?_)) | (with_reducible refine branch_bool (fun _ => ?_) (fun _ => ?_)) | (with_reducible refine arith_64 (by omega) ?_) | (with_reducible refine ob_i (by omega) (fun _ => ?_)) | (with_reducible refine ob_i (by unfold room; omega) (fun _ => ?_)) | ((with_reducible refine ob_k ?_ ?_); focus kernel_rfl) ) <;> (try (exfalso; omega; done)) <;> (with_reducible conv => whnf))
  · exact ret0 (vm_bool (by simp [fewB]; omega))
  refine loop_i hmix hT (fun k : Nat => ([(1, .ptr 0 0), (3, I k)], ⟨1, [(0, .cells [I g.first, I g.step, eCols g.cols] 24)]⟩)) (fun k => k ≤ g.cols.length ∧ ∀ i, i < k → (g.cols.getD i []).length ≤ 14) (fun k => g.cols.length - k) 0 ⟨by omega, by omega⟩ ?_ ?_
  · exact ⟨[], rfl, ⟨⟨_, rfl, vm_ptr rfl rfl rfl⟩, ⟨_, rfl, vm_int rfl⟩, trivial⟩, ⟨⟨_, rfl, sbm_cells vmL_p⟩, trivial⟩⟩
  · rintro k ⟨hk1, hk2⟩
    with_reducible conv => whnf
    repeat' ((first | (with_reducible refine branch_t ?_) | (with_reducible refine branch_f ?_) | (with_reducible refine branch_nt ?_) | (with_reducible refine branch_nf ?_) | (with_reducible refine branch_dec (fun _ => ?_) (fun _ => ?_)) | (with_reducible refine branch_ndec (fun _ => ?_) (fun _ => ?_)) | (with_reducible refine branch_bool (fun _ => ?_) (fun _ => ?_)) | (with_reducible refine arith_64 (by omega) ?_) | (with_reducible refine ob_i (by omega) (fun _ => ?_)) | (with_reducible refine ob_i (by unfold room; omega) (fun _ => ?_)) | ((with_reducible refine ob_k ?_ ?_); focus kernel_rfl) ) <;> (try (exfalso; omega; done)) <;> (with_reducible conv => whnf))
    all_goals dsimp only [toN] at *
    · refine ret0 (vm_bool ?_)
      rw [eq_comm, fewB, decide_eq_false_iff_not]
      rintro ⟨_, h⟩
      have := h k (by omega); omega
    · refine ⟨k + 1, ⟨by omega, fun i hi => ?_⟩, by omega, [], rfl, ⟨⟨_, rfl, vm_ptr rfl rfl rfl⟩, ⟨_, rfl, vm_int (by omega)⟩, trivial⟩, ⟨⟨_, rfl, sbm_cells vmL_p⟩, trivial⟩⟩
      by_cases h : i = k
      · subst h; omega
      · exact hk2 i (by omega)
    · refine ret0 (vm_bool ?_)
      rw [eq_comm, fewB, decide_eq_true_iff]
      exact ⟨by omega, fun i hi => hk2 i (by omega)⟩
theorem columnErr_ok {l : List (Int × Int)} {n : Int} (hl : l.length ≤ 9223372036854775807) : FnOK Try.prog 110 [eCol l, I n] (I (columnErr l n)) [] := by
  refine fn_i hmix hT Try.f110 (by kernel_rfl) rfl (by kernel_rfl) ?_
  with_reducible conv => whnf
  repeat' ((first | (with_reducible refine branch_t ?_) | (with_reducible refine branch_f ?_) | (with_reducible refine branch_nt ?_) | (with_reducible refine branch_nf ?_) | (with_reducible refine branch_dec (fun _ => ?_) (fun _ => ?_)) | (with_reducible refine branch_ndec (fun _ => ?_) (fun _ => ?_)) | (with_reducible refine branch_bool (fun _ => ?_) (fun _ => ?_)) | (with_reducible refine arith_64 (by omega) ?_) | (with_reducible refine ob_i (by omega) (fun _ => ?_)) | (with_reducible refine ob_i (by unfold room; omega) (fun _ => ?_)) | ((with_reducible refine ob_k ?_ ?_); focus kernel_rfl) ) <;> (try (exfalso; omega; done)) <;> (with_reducible conv => whnf))
  · exact ret0 (vm_int (by unfold columnErr; rw [if_pos (.inl (by omega))]))
  · exact ret0 (vm_int (by unfold columnErr; rw [if_pos (.inr (by assumption))]))
  · exact ret0 (vm_int (by unfold columnErr; rw [if_neg (by omega), if_pos (by omega)]))
  have e0 : columnErr l n = (findErr cellErr l 0).2 := by unfold columnErr; rw [if_neg (by omega), if_neg (by omega)]
  refine loop_i hmix hT (fun k : Nat => ([(0, eCol l), (5, I k)], ⟨0, []⟩)) (fun k => k ≤ l.length ∧ ∀ i, i < k → cellErr (l.getD i (0, 0)) = 0) (fun k => l.length - k) 0 ⟨by omega, by omega⟩ ?_ ?_
  · refine ⟨[], rfl, ?_, ?_⟩ <;> repeat' (first | exact trivial | exact vm_p | exact vm_ptr rfl rfl rfl | exact vm_own rfl rfl (by omega) (by omega) | exact vm_int (by omega) | exact sbm_cells vmL_p | refine ⟨⟨_, rfl, ?_⟩, ?_⟩ | refine sbm_cells ?_ | exact vmL.nil | refine vmL.cons ?_ ?_)
  rintro k ⟨hk1, hk2⟩
  with_reducible conv => whnf
  repeat' ((first | (with_reducible refine branch_t ?_) | (with_reducible refine branch_f ?_) | (with_reducible refine branch_nt ?_) | (with_reducible refine branch_nf ?_) | (with_reducible refine branch_dec (fun _ => ?_) (fun _ => ?_)) | (with_reducible refine branch_ndec (fun _ => ?_) (fun _ => ?_)) | (with_reducible refine branch_bool (fun _ => ?_) (fun _ => ?_)) | (with_reducible refine arith_64 (by omega) ?_) | (with_reducible refine ob_i (by omega) (fun _ => ?_)) | (with_reducible refine ob_i (by unfold room; omega) (fun _ => ?_)) | ((with_reducible refine ob_k ?_ ?_); focus kernel_rfl) | (apply call_u bWithin_ok)) <;> (try (exfalso; omega; done)) <;> (with_reducible conv => whnf))
  all_goals dsimp only [toN] at *
  · have hc : cellErr (l.getD k (0, 0)) = 2 := by unfold cellErr; rw [if_pos (by assumption)]
    exact ret0 (vm_int (by rw [e0, findErr_hit cellErr (0, 0) l k 0 hk2 (by omega) (by rw [hc]; decide), hc]))
  · have hc : cellErr (l.getD k (0, 0)) = 15 := by unfold cellErr; rw [if_neg (by omega), if_pos (by assumption)]
    exact ret0 (vm_int (by rw [e0, findErr_hit cellErr (0, 0) l k 0 hk2 (by omega) (by rw [hc]; decide), hc]))
  · have hc : cellErr (l.getD k (0, 0)) = 0 := by unfold cellErr; rw [if_neg (by omega), if_neg (by omega)]
    refine ⟨k + 1, ⟨by omega, fun i hi => ?_⟩, by omega, ?_⟩
    · by_cases h : i = k
      · subst h; exact hc
      · exact hk2 i (by omega)
    · refine ⟨[], rfl, ?_, ?_⟩ <;> repeat' (first | exact trivial | exact vm_p | exact vm_ptr rfl rfl rfl | exact vm_own rfl rfl (by omega) (by omega) | exact vm_int (by omega) | exact sbm_cells vmL_p | refine ⟨⟨_, rfl, ?_⟩, ?_⟩ | refine sbm_cells ?_ | exact vmL.nil | refine vmL.cons ?_ ?_)
  · exact ret0 (vm_int (by rw [e0, findErr_none cellErr (0, 0) l 0 fun i hi => hk2 i (by omega)]))
theorem vm_pair {S : Vw} {a b : Int} {p : Int × Int} (h : (a, b) = p) : vm S (.tup [I a, I b]) (.tup [I p.1, I p.2]) := by subst h; exact vm_p
theorem refCheckGram_ok {g : Gram} (hg : g.Ok) : FnOK Try.prog 92 [eGram g] (.tup [I (checkGram g).1, I (checkGram g).2]) [] := by
  obtain ⟨h1, h2⟩ := hg
  refine fn_i hmix hT Try.f92 (by kernel_rfl) rfl (by kernel_rfl) ?_
  with_reducible conv => whnf
  repeat' ((first | (with_reducible refine branch_t ?_) | (with_reducible refine branch_f ?_) | (with_reducible refine branch_nt ?_) | (with_reducible refine branch_nf ?_) | (with_reducible refine branch_dec (fun _ => ?_) (fun _ => ?_)) | (with_reducible refine branch_ndec (fun _ => ?_) (fun _ => ?_)) | (with_reducible refine branch_bool (fun _ => ?_) (fun _ => ?_)) | (with_reducible refine arith_64 (by omega) ?_) | (with_reducible refine ob_i (by omega) (fun _ => ?_)) | (with_reducible refine ob_i (by unfold room; omega) (fun _ => ?_)) | ((with_reducible refine ob_k ?_ ?_); focus kernel_rfl) | (apply call_u bWithin_ok)) <;> (try (exfalso; omega; done)) <;> (with_reducible conv => whnf))
  · exact ret0 (vm_pair (by unfold checkGram; rw [if_pos (.inl (by assumption))]))
  · exact ret0 (vm_pair (by unfold checkGram; rw [if_pos (.inr (by assumption))]))
  · exact ret0 (vm_pair (by unfold checkGram; rw [if_neg (by omega), if_pos (by omega)]))
  · exact ret0 (vm_pair (by unfold checkGram; rw [if_neg (by omega), if_neg (by omega), if_pos (by omega)]))
  have e0 : checkGram g = findErr (fun c => columnErr c (g.cols.getD 0 []).length) g.cols 0 := by unfold checkGram; rw [if_neg (by omega), if_neg (by omega), if_neg (by omega)]
  refine loop_i hmix hT (fun k : Nat => ([(1, .ptr 0 0), (4, I k)], ⟨1, [(0, .cells [I g.first, I g.step, eCols g.cols] 24)]⟩)) (fun k => k ≤ g.cols.length ∧ ∀ i, i < k → columnErr (g.cols.getD i []) (g.cols.getD 0 []).length = 0) (fun k => g.cols.length - k) 0 ⟨by omega, by omega⟩ ?_ ?_
  · refine ⟨[], rfl, ?_, ?_⟩ <;> repeat' (first | exact trivial | exact vm_p | exact vm_ptr rfl rfl rfl | exact vm_own rfl rfl (by omega) (by omega) | exact vm_int (by omega) | exact sbm_cells vmL_p | refine ⟨⟨_, rfl, ?_⟩, ?_⟩ | refine sbm_cells ?_ | exact vmL.nil | refine vmL.cons ?_ ?_)
  rintro k ⟨hk1, hk2⟩
  with_reducible conv => whnf
  repeat' ((first | (with_reducible refine branch_t ?_) | (with_reducible refine branch_f ?_) | (with_reducible refine branch_nt ?_) | (with_reducible refine branch_nf ?_) | (with_reducible refine branch_dec (fun _ => ?_) (fun _ => ?_)) | (with_reducible refine branch_ndec (fun _ => ?_) (fun _ => ?_)) | (with_reducible refine branch_bool (fun _ => ?_) (fun _ => ?_)) | (with_reducible refine arith_64 (by omega) ?_) | (with_reducible refine ob_i (by omega) (fun _ => ?_)) | (with_reducible refine ob_i (by unfold room; omega) (fun _ => ?_)) | ((with_reducible refine ob_k ?_ ?_); focus kernel_rfl) | (apply call_u (columnErr_ok (h2 _)))) <;> (try (exfalso; omega; done)) <;> (with_reducible conv => whnf))
  all_goals dsimp only [toN] at *
  · exact ret0 (vm_pair (by rw [e0, findErr_hit (fun c => columnErr c (g.cols.getD 0 []).length) [] g.cols k 0 hk2 (by omega) (by assumption)]; simp))
  · refine ⟨k + 1, ⟨by omega, fun i hi => ?_⟩, by omega, ?_⟩
    · by_cases h : i = k
      · subst h; simp_all
      · exact hk2 i (by omega)
    · refine ⟨[], rfl, ?_, ?_⟩ <;> repeat' (first | exact trivial | exact vm_p | exact vm_ptr rfl rfl rfl | exact vm_own rfl rfl (by omega) (by omega) | exact vm_int (by omega) | exact sbm_cells vmL_p | refine ⟨⟨_, rfl, ?_⟩, ?_⟩ | refine sbm_cells ?_ | exact vmL.nil | refine vmL.cons ?_ ?_)
  · exact ret0 (vm_pair (by rw [e0, findErr_none (fun c => columnErr c (g.cols.getD 0 []).length) [] g.cols 0 fun i hi => hk2 i (by omega)]))
theorem first_ite {c : Bool} {e : Int} {l : List Int} (he : e ≠ 0) : firstErr ((if c = true then 0 else e) :: l) = if c = true then firstErr l else e := by
  cases c <;> simp [firstErr, he]
theorem first_nil : firstErr [] = 0 := rfl
theorem first_zero {l : List Int} : firstErr (0 :: l) = firstErr l := by simp [firstErr]
theorem first_lit {e : Int} {l : List Int} (h : e ≠ 0) : firstErr (e :: l) = e := by simp [firstErr, h]
def preErr (g : Gram) : Int := if ¬ (1 ≤ g.first ∧ g.first ≤ 3000) ∨ ¬ (1 ≤ g.step ∧ g.step ≤ 3000) then 2 else if g.cols.length = 0 then 10 else if 10 < g.cols.length then 8 else 0
theorem checkGram_pre {g : Gram} (h : preErr g ≠ 0) : checkGram g = (0, preErr g) := by
  unfold checkGram; unfold preErr at *; grind
theorem checkGram_cols {g : Gram} (h : preErr g = 0) : checkGram g = findErr (fun c => columnErr c (g.cols.getD 0 []).length) g.cols 0 := by
  unfold checkGram; unfold preErr at *; grind
def colPre (l : List (Int × Int)) (n : Nat) : Int := firstErr [if decide (0 < l.length ∧ l.length = n) = true then 0 else 10, if decide (l.length ≤ 12) = true then 0 else 8]
theorem columnErr_pre {l : List (Int × Int)} {n : Nat} (h : colPre l n ≠ 0) : columnErr l n = colPre l n := by
  unfold columnErr; unfold colPre at *
  simp only [first_ite (show (10 : Int) ≠ 0 by decide), first_ite (show (8 : Int) ≠ 0 by decide), first_nil] at *
  grind
theorem columnErr_cells {l : List (Int × Int)} {n : Nat} (h : colPre l n = 0) : columnErr l n = (findErr cellErr l 0).2 := by
  unfold columnErr; unfold colPre at *
  simp only [first_ite (show (10 : Int) ≠ 0 by decide), first_ite (show (8 : Int) ≠ 0 by decide), first_nil] at *
  grind
theorem cell_first {c : Int × Int} : firstErr [if decide (0 ≤ c.1 ∧ c.1 ≤ 255) = true then 0 else 2, if decide (0 ≤ c.2 ∧ c.2 ≤ 3) = true then 0 else 15] = cellErr c := by
  simp only [first_ite (show (2 : Int) ≠ 0 by decide), first_ite (show (15 : Int) ≠ 0 by decide), first_nil]
  unfold cellErr
  grind
set_option maxRecDepth 100000 in
theorem checkGram_ok {g : Gram} (hg : g.Ok) : FnOK Try.prog 107 [eGram g] (.tup [I (checkGram g).1, I (checkGram g).2]) [] := by
  obtain ⟨h1, h2⟩ := hg
  have pre : ∀ b, (b = decide (1 ≤ g.step ∧ g.step ≤ 3000) ∧ (1 ≤ g.first ∧ g.first ≤ 3000)) ∨ (b = false ∧ ¬ (1 ≤ g.first ∧ g.first ≤ 3000)) → firstErr [if b = true then 0 else 2, if decide ((0 : Int) < g.cols.length) = true then 0 else 10, if decide ((g.cols.length : Int) ≤ 10) = true then 0 else 8] = preErr g := by
    intro b hb
    simp only [first_ite (show (2 : Int) ≠ 0 by decide), first_ite (show (10 : Int) ≠ 0 by decide), first_ite (show (8 : Int) ≠ 0 by decide), first_nil]
    unfold preErr
    grind
  have p1 := fun h => pre _ (.inl ⟨rfl, h⟩)
  have p2 := fun h => pre _ (.inr ⟨rfl, h⟩)
  clear pre
  refine fn_i hmix hT Try.f107 (by kernel_rfl) rfl (by kernel_rfl) ?_
  with_reducible conv => whnf
  repeat' ((first | (with_reducible refine branch_t ?_) | (with_reducible refine branch_f ?_) | (with_reducible refine branch_nt ?_) | (with_reducible refine branch_nf ?_) | (with_reducible refine branch_dec (fun _ => ?_) (fun _ => ?_)) | (with_reducible refine branch_ndec (fun _ => ?_) (fun _ => ?_)) | (with_reducible refine branch_bool (fun _ => ?_) (fun _ => ?_)) | (with_reducible refine arith_64 (by omega) ?_) | (with_reducible refine ob_i (by omega) (fun _ => ?_)) | (with_reducible refine ob_i (by unfold room; omega) (fun _ => ?_)) | ((with_reducible refine ob_k ?_ ?_); focus kernel_rfl) | (apply call_u isFreq_ok) | (apply call_u unless_ok) | (apply call_l (first_ok (l := [_, _, _]) (Nat.le_of_ble_eq_true rfl)) (.cons (vm_lit _ rfl rfl (.cons (vm_int rfl) (.cons (vm_int rfl) (.cons (vm_int rfl) .nil)))) .nil))) <;> (try (exfalso; omega; done)) <;> (with_reducible conv => whnf))
  · rename_i a b
    rw [p1 a] at b
    exact ret0 (vm_pair (by rw [p1 a, checkGram_pre b]))
  · rename_i a b
    rw [p1 a] at b
    have e0 := checkGram_cols (Decidable.not_not.1 b)
    have hpos : 0 < g.cols.length := by
      have := Decidable.not_not.1 b
      unfold preErr at this
      grind
    clear p1 p2 b a
    refine loop_i hmix hT (fun k : Nat => ([(1, .ptr 0 0), (39, eCols g.cols), (40, I g.cols.length), (41, I k)], ⟨1, [(0, .cells [I g.first, I g.step, eCols g.cols] 24)]⟩)) (fun k => k ≤ g.cols.length ∧ ∀ i, i < k → columnErr (g.cols.getD i []) (g.cols.getD 0 []).length = 0) (fun k => g.cols.length - k) 0 ⟨by omega, by omega⟩ ?_ ?_
    · refine ⟨[], rfl, ?_, ?_⟩ <;> repeat' (first | exact trivial | exact vm_p | exact vm_ptr rfl rfl rfl | exact vm_own rfl rfl (by omega) (by omega) | exact vm_int (by omega) | exact sbm_cells vmL_p | refine ⟨⟨_, rfl, ?_⟩, ?_⟩ | refine sbm_cells ?_ | exact vmL.nil | refine vmL.cons ?_ ?_)
    rintro k ⟨hk1, hk2⟩
    with_reducible conv => whnf
    repeat' ((first | (with_reducible refine branch_t ?_) | (with_reducible refine branch_f ?_) | (with_reducible refine branch_nt ?_) | (with_reducible refine branch_nf ?_) | (with_reducible refine branch_dec (fun _ => ?_) (fun _ => ?_)) | (with_reducible refine branch_ndec (fun _ => ?_) (fun _ => ?_)) | (with_reducible refine branch_bool (fun _ => ?_) (fun _ => ?_)) | (with_reducible refine arith_64 (by omega) ?_) | (with_reducible refine ob_i (by omega) (fun _ => ?_)) | (with_reducible refine ob_i (by unfold room; omega) (fun _ => ?_)) | ((with_reducible refine ob_k ?_ ?_); focus kernel_rfl) | (apply call_u unless_ok) | (apply call_l (first_ok (l := [_, _]) (Nat.le_of_ble_eq_true rfl)) (.cons (vm_lit _ rfl rfl (.cons (vm_int rfl) (.cons (vm_int rfl) .nil))) .nil))) <;> (try (exfalso; omega; done)) <;> (with_reducible conv => whnf))
    all_goals dsimp only [toN] at *
    · rename_i a1 a2 a3 a4 x
      have e : firstErr [if decide (((g.cols.getD k []).length : Int) = (g.cols.getD 0 []).length) = true then 0 else 10, if decide (((g.cols.getD k []).length : Int) ≤ 12) = true then 0 else 8] = colPre (g.cols.getD k []) (g.cols.getD 0 []).length := by
        unfold colPre
        congr 1
        grind
      rw [e] at x
      refine ret0 (vm_pair ?_)
      rw [e, e0, findErr_hit (fun c => columnErr c (g.cols.getD 0 []).length) [] g.cols k 0 hk2 (by omega) (by rw [columnErr_pre x]; exact x), columnErr_pre x]
      simp
    · rename_i a1 a2 a3 a4 x
      have e : firstErr [if decide (((g.cols.getD k []).length : Int) = (g.cols.getD 0 []).length) = true then 0 else 10, if decide (((g.cols.getD k []).length : Int) ≤ 12) = true then 0 else 8] = colPre (g.cols.getD k []) (g.cols.getD 0 []).length := by
        unfold colPre
        congr 1
        grind
      rw [e] at x
      have ec := columnErr_cells (Decidable.not_not.1 x)
      clear e x
      have hk3 := h2 k
      refine loop_i hmix hT (fun j : Nat => ([(1, .ptr 0 0), (39, eCols g.cols), (40, I g.cols.length), (41, I k), (6, I k), (70, eCol (g.cols.getD k [])), (71, I (g.cols.getD k []).length), (72, I j)], ⟨1, [(0, .cells [I g.first, I g.step, eCols g.cols] 24)]⟩)) (fun j => j ≤ (g.cols.getD k []).length ∧ ∀ i, i < j → cellErr ((g.cols.getD k []).getD i (0, 0)) = 0) (fun j => (g.cols.getD k []).length - j) 0 ⟨by omega, by omega⟩ ?_ ?_
      · refine ⟨[], rfl, ?_, ?_⟩ <;> repeat' (first | exact trivial | exact vm_p | exact vm_ptr rfl rfl rfl | exact vm_own rfl rfl (by omega) (by omega) | exact vm_int (by omega) | exact sbm_cells vmL_p | refine ⟨⟨_, rfl, ?_⟩, ?_⟩ | refine sbm_cells ?_ | exact vmL.nil | refine vmL.cons ?_ ?_)
      rintro j ⟨hj1, hj2⟩
      with_reducible conv => whnf
      repeat' ((first | (with_reducible refine branch_t ?_) | (with_reducible refine branch_f ?_) | (with_reducible refine branch_nt ?_) | (with_reducible refine branch_nf ?_) | (with_reducible refine branch_dec (fun _ => ?_) (fun _ => ?_)) | (with_reducible refine branch_ndec (fun _ => ?_) (fun _ => ?_)) | (with_reducible refine branch_bool (fun _ => ?_) (fun _ => ?_)) | (with_reducible refine arith_64 (by omega) ?_) | (with_reducible refine ob_i (by omega) (fun _ => ?_)) | (with_reducible refine ob_i (by unfold room; omega) (fun _ => ?_)) | ((with_reducible refine ob_k ?_ ?_); focus kernel_rfl) | (apply call_u isAmplitude_ok) | (apply call_u isTag_ok) | (apply call_u unless_ok) | (apply call_l (first_ok (l := [_, _]) (Nat.le_of_ble_eq_true rfl)) (.cons (vm_lit _ rfl rfl (.cons (vm_int rfl) (.cons (vm_int rfl) .nil))) .nil))) <;> (try (exfalso; omega; done)) <;> (with_reducible conv => whnf))
      all_goals dsimp only [toN] at *
      all_goals try simp only [cell_first] at *
      · rename_i b1 b2 y
        have ec2 : columnErr (g.cols.getD k []) (g.cols.getD 0 []).length = cellErr ((g.cols.getD k []).getD j (0, 0)) := by rw [ec, findErr_hit cellErr (0, 0) _ j 0 hj2 (by omega) y]
        refine ret0 (vm_pair ?_)
        rw [e0, findErr_hit (fun c => columnErr c (g.cols.getD 0 []).length) [] g.cols k 0 hk2 (by omega) (by rw [ec2]; exact y), ec2]
        simp
      · rename_i b1 b2 y
        refine ⟨j + 1, ⟨by omega, fun i hi => ?_⟩, by omega, ?_⟩
        · by_cases h : i = j
          · subst h; exact Decidable.not_not.1 y
          · exact hj2 i (by omega)
        · refine ⟨[], rfl, ?_, ?_⟩ <;> repeat' (first | exact trivial | exact vm_p | exact vm_ptr rfl rfl rfl | exact vm_own rfl rfl (by omega) (by omega) | exact vm_int (by omega) | exact sbm_cells vmL_p | refine ⟨⟨_, rfl, ?_⟩, ?_⟩ | refine sbm_cells ?_ | exact vmL.nil | refine vmL.cons ?_ ?_)
      · refine ⟨k + 1, ⟨by omega, fun i hi => ?_⟩, by omega, ?_⟩
        · by_cases h : i = k
          · subst h; rw [ec, findErr_none cellErr (0, 0) _ 0 fun q hq => hj2 q (by omega)]
          · exact hk2 i (by omega)
        · refine ⟨[], rfl, ?_, ?_⟩ <;> repeat' (first | exact trivial | exact vm_p | exact vm_ptr rfl rfl rfl | exact vm_own rfl rfl (by omega) (by omega) | exact vm_int (by omega) | exact sbm_cells vmL_p | refine ⟨⟨_, rfl, ?_⟩, ?_⟩ | refine sbm_cells ?_ | exact vmL.nil | refine vmL.cons ?_ ?_)
    · rename_i a1 a2 a3 x
      refine ret0 (vm_pair ?_)
      have e : firstErr [if false = true then 0 else 10, if decide (((g.cols.getD k []).length : Int) ≤ 12) = true then 0 else 8] = colPre (g.cols.getD k []) (g.cols.getD 0 []).length := by
        unfold colPre
        congr 1
        grind
      rw [e] at x
      rw [e, e0, findErr_hit (fun c => columnErr c (g.cols.getD 0 []).length) [] g.cols k 0 hk2 (by omega) (by rw [columnErr_pre x]; exact x), columnErr_pre x]
      simp
    · rename_i a1 a2 a3 x
      exfalso
      exact x (by simp [firstErr])
    · exact ret0 (vm_pair (by rw [e0, findErr_none (fun c => columnErr c (g.cols.getD 0 []).length) [] g.cols 0 fun i hi => hk2 i (by omega)]))
  · rename_i a b
    rw [p2 a] at b
    exact ret0 (vm_pair (by rw [p2 a, checkGram_pre b]))
  · rename_i a b
    rw [p2 a] at b
    exfalso
    unfold preErr at b
    grind
end Go.Proofs.Ytkliejppigfjiaa
