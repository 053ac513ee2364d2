/-
  Chapter 3: readings: which two contradict each other; the law TraceReadings (by contract).
  Conditions: none.
-/
import Derived.Test.Ytmiphilcplojnaa3S
import Derived.Test.Ytmiphilcplojnaa3G
namespace Go.Proofs.Ytmiphilcplojnaa
open Go.RowKit Fx
/-! ### Plain: the first pair -/
def clash (f : Nat → Rg) (i k : Nat) : Prop := goodB (meet (f i) (f k)) = false
structure IsFirst (f : Nat → Rg) (n i k : Nat) : Prop where
  c : clash f i k
  lt : i < k
  le : k < n
  first : ∀ i' k', i' < k' → k' < n → clash f i' k' → i < i' ∨ (i = i' ∧ k ≤ k')
theorem IsFirst.uniq {f : Nat → Rg} {n i k i' k' : Nat} (h : IsFirst f n i k) (h' : IsFirst f n i' k') : i = i' ∧ k = k' := by
  have h1 := h.first i' k' h'.lt h'.le h'.c
  have h2 := h'.first i k h.lt h.le h.c
  omega
open Classical in
noncomputable def pairOf (f : Nat → Rg) (n : Nat) : List Int := if h : ∃ p : Nat × Nat, IsFirst f n p.1 p.2 then [((Classical.choose h).1 : Int), ((Classical.choose h).2 : Int)] else []
theorem pairOf_hit {f : Nat → Rg} {n i k : Nat} (h : IsFirst f n i k) : pairOf f n = [(i : Int), (k : Int)] := by
  have ex : ∃ p : Nat × Nat, IsFirst f n p.1 p.2 := ⟨(i, k), h⟩
  unfold pairOf
  rw [dif_pos ex]
  obtain ⟨e1, e2⟩ := (Classical.choose_spec ex).uniq h
  rw [e1, e2]
theorem pairOf_none {f : Nat → Rg} {n : Nat} (h : ∀ i k, i < k → k < n → ¬ clash f i k) : pairOf f n = [] := by
  unfold pairOf
  rw [dif_neg]
  rintro ⟨p, hp⟩
  exact h _ _ hp.lt hp.le hp.c
theorem pairOf_len (f : Nat → Rg) (n : Nat) : (pairOf f n).length ≤ 2 := by
  unfold pairOf
  split <;> simp
noncomputable def contra (l : List Rdg) (s : Rg) : List Int × Int :=
  if readsE l s ≠ 0 then ([], readsE l s) else if pairOf (fun i => (perms l s).getD i (0, 0)) (perms l s).length = [] then ([], 12) else (pairOf (fun i => (perms l s).getD i (0, 0)) (perms l s).length, 0)
theorem meetL_two (a b : Rg) : meetL [a, b] = meet a b := rfl
theorem step_pair {f : Nat → Rg} {n i k : Nat} (h : ∀ i' k', i' < k' → k' < n → (i' < i ∨ (i' = i ∧ k' < k)) → ¬ clash f i' k') (hc : ¬ clash f i k) : ∀ i' k', i' < k' → k' < n → (i' < i ∨ (i' = i ∧ k' < k + 1)) → ¬ clash f i' k' := by
  intro i' k' h1 h2 h3 h4
  by_cases e : i' = i ∧ k' = k
  · rw [e.1, e.2] at h4; exact hc h4
  · exact h i' k' h1 h2 (by omega) h4
theorem hit_pair {f : Nat → Rg} {n i k : Nat} (h : ∀ i' k', i' < k' → k' < n → (i' < i ∨ (i' = i ∧ k' < k)) → ¬ clash f i' k') (hc : clash f i k) (h1 : i < k) (h2 : k < n) : IsFirst f n i k :=
  ⟨hc, h1, h2, fun i' k' a b c => by
    by_cases e : i' < i ∨ (i' = i ∧ k' < k)
    · exact absurd c (h i' k' a b e)
    · omega⟩
theorem vm_two {H : SW} {b : Nat} {x y : Int} {t : TypeId} (hg : hget H.l b = some (.row 1 2 (litF [I x, I y]) t)) : vm { H := H, H' := ⟨0, []⟩, σ := [] } (.own b 1 0 2) (eInts [x, y]) := by
  refine vm_fr hg rfl rfl (Nat.le_refl _) fun i hi => ?_
  have : i = 0 ∨ i = 1 := by simp at hi; omega
  rcases this with rfl | rfl <;> exact vm_p
/-! ### The program's -/
theorem contradicting_ok {l : List Rdg} {s : Rg} (hl : l.length ≤ 9223372036854775807) : FnOK Try.prog 32 [eRds l, eRg s] (.tup [eInts (contra l s).1, I (contra l s).2]) [] := by
  have pl := @perms_len l s
  refine fn_i hmix hT Try.f32 (by kernel_rfl) rfl (by kernel_rfl) ?_
  with_reducible conv => whnf
  repeat' ((first | (with_reducible refine branch_t ?_) | (with_reducible refine branch_f ?_) | (with_reducible refine branch_nt ?_) | (with_reducible refine branch_nf ?_) | (with_reducible refine branch_dec (fun _ => ?_) (fun _ => ?_)) | (with_reducible refine branch_ndec (fun _ => ?_) (fun _ => ?_)) | (with_reducible refine branch_bool (fun _ => ?_) (fun _ => ?_)) | (with_reducible refine arith_64 (by omega) ?_) | (with_reducible refine ob_i (by omega) (fun _ => ?_)) | (with_reducible refine ob_i (by unfold room; omega) (fun _ => ?_)) | ((with_reducible refine ob_k ?_ ?_); focus kernel_rfl) | (apply call_u (mPermitted_ok hl))) <;> (try (exfalso; omega; done)) <;> (with_reducible conv => whnf))
  · have e : contra l s = ([], readsE l s) := by unfold contra; rw [if_pos (by assumption)]
    rw [e]
    exact ret0 (vm_tup (.cons (vm_nilsl rfl) (.cons vm_p .nil)))
  rename_i hne
  obtain ⟨q1, q2, q3, _⟩ := pl (by omega)
  have q4 : (perms l s).length ≤ 12 := by rw [q1]; simpa using q3
  have e0 : contra l s = if pairOf (fun i => (perms l s).getD i (0, 0)) (perms l s).length = [] then ([], 12) else (pairOf (fun i => (perms l s).getD i (0, 0)) (perms l s).length, 0) := by unfold contra; rw [if_neg hne]
  generalize hp : perms l s = p at *
  clear pl q1
  refine loop_i hmix hT (fun i : Nat => ([(6, eRgs p), (22, I p.length), (23, I i)], ⟨1, [(0, .cells [I s.1, I s.2] 37)]⟩)) (fun i => i ≤ p.length ∧ ∀ i' k', i' < k' → k' < p.length → (i' < i ∨ (i' = i ∧ k' < i + 1)) → ¬ clash (fun i => p.getD i (0, 0)) i' k') (fun i => p.length - i) 0 ⟨by omega, by omega⟩ ?_ ?_
  · refine ⟨[], rfl, ?_, ?_⟩ <;> repeat' (first | exact trivial | exact vm_p | exact vm_ptr rfl rfl rfl | exact vm_own rfl rfl (by omega) (by omega) | exact vm_int (by omega) | exact sbm_cells vmL_p | refine ⟨⟨_, rfl, ?_⟩, ?_⟩ | refine sbm_cells ?_ | exact vmL.nil | refine vmL.cons ?_ ?_)
  rintro i ⟨hi1, hi2⟩
  with_reducible conv => whnf
  repeat' ((first | (with_reducible refine branch_t ?_) | (with_reducible refine branch_f ?_) | (with_reducible refine branch_nt ?_) | (with_reducible refine branch_nf ?_) | (with_reducible refine branch_dec (fun _ => ?_) (fun _ => ?_)) | (with_reducible refine branch_ndec (fun _ => ?_) (fun _ => ?_)) | (with_reducible refine branch_bool (fun _ => ?_) (fun _ => ?_)) | (with_reducible refine arith_64 (by omega) ?_) | (with_reducible refine ob_i (by omega) (fun _ => ?_)) | (with_reducible refine ob_i (by unfold room; omega) (fun _ => ?_)) | ((with_reducible refine ob_k ?_ ?_); focus kernel_rfl) ) <;> (try (exfalso; omega; done)) <;> (with_reducible conv => whnf))
  all_goals dsimp only [toN] at *
  · refine loop_i hmix hT (fun k : Nat => ([(6, eRgs p), (22, I p.length), (23, I i), (8, I i), (9, I k)], ⟨1, [(0, .cells [I s.1, I s.2] 37)]⟩)) (fun k => i + 1 ≤ k ∧ k ≤ p.length ∧ ∀ i' k', i' < k' → k' < p.length → (i' < i ∨ (i' = i ∧ k' < k)) → ¬ clash (fun i => p.getD i (0, 0)) i' k') (fun k => p.length - k) (i + 1) ⟨by omega, by omega, hi2⟩ ?_ ?_
    · refine ⟨[], rfl, ?_, ?_⟩ <;> repeat' (first | exact trivial | exact vm_p | exact vm_ptr rfl rfl rfl | exact vm_own rfl rfl (by omega) (by omega) | exact vm_int (by omega) | exact sbm_cells vmL_p | refine ⟨⟨_, rfl, ?_⟩, ?_⟩ | refine sbm_cells ?_ | exact vmL.nil | refine vmL.cons ?_ ?_)
    rintro k ⟨hk1, hk2, hk3⟩
    with_reducible conv => whnf
    repeat' ((first | (with_reducible refine branch_t ?_) | (with_reducible refine branch_f ?_) | (with_reducible refine branch_nt ?_) | (with_reducible refine branch_nf ?_) | (with_reducible refine branch_dec (fun _ => ?_) (fun _ => ?_)) | (with_reducible refine branch_ndec (fun _ => ?_) (fun _ => ?_)) | (with_reducible refine branch_bool (fun _ => ?_) (fun _ => ?_)) | (with_reducible refine arith_64 (by omega) ?_) | (with_reducible refine ob_i (by omega) (fun _ => ?_)) | (with_reducible refine ob_i (by unfold room; omega) (fun _ => ?_)) | ((with_reducible refine ob_k ?_ ?_); focus kernel_rfl) | (apply call_l (common_ok (l := [_, _]) (by simp) (Nat.le_of_ble_eq_true rfl)) (.cons (vm_lit _ rfl rfl (.cons vm_p (.cons vm_p .nil))) .nil))) <;> (try (exfalso; omega; done)) <;> (with_reducible conv => whnf))
    all_goals dsimp only [toN] at *
    all_goals try simp only [meetL_two] at *
    · have hc : clash (fun i => p.getD i (0, 0)) i k := by unfold clash; simpa using ‹(!goodB (meet (p.getD i (0, 0)) (p.getD k (0, 0)))) = true›
      rw [e0, pairOf_hit (hit_pair hk3 hc (by omega) (by omega)), if_neg (by simp)]
      exact ret0 (vm_tup (.cons (vm_two rfl) (.cons vm_p .nil)))
    · have hc : ¬ clash (fun i => p.getD i (0, 0)) i k := by unfold clash; simpa using ‹(!goodB (meet (p.getD i (0, 0)) (p.getD k (0, 0)))) = false›
      refine ⟨k + 1, ⟨by omega, by omega, step_pair hk3 hc⟩, by omega, ?_⟩
      refine ⟨[], rfl, ?_, ?_⟩ <;> repeat' (first | exact trivial | exact vm_p | exact vm_ptr rfl rfl rfl | exact vm_own rfl rfl (by omega) (by omega) | exact vm_int (by omega) | exact sbm_cells vmL_p | refine ⟨⟨_, rfl, ?_⟩, ?_⟩ | refine sbm_cells ?_ | exact vmL.nil | refine vmL.cons ?_ ?_)
    · refine ⟨i + 1, ⟨by omega, fun i' k' a b c => hk3 i' k' a b (by omega)⟩, by omega, ?_⟩
      refine ⟨[], rfl, ?_, ?_⟩ <;> repeat' (first | exact trivial | exact vm_p | exact vm_ptr rfl rfl rfl | exact vm_own rfl rfl (by omega) (by omega) | exact vm_int (by omega) | exact sbm_cells vmL_p | refine ⟨⟨_, rfl, ?_⟩, ?_⟩ | refine sbm_cells ?_ | exact vmL.nil | refine vmL.cons ?_ ?_)
  · rw [e0, pairOf_none fun i' k' a b => hi2 i' k' a b (by omega), if_pos rfl]
    exact ret0 (vm_tup (.cons (vm_nilsl rfl) (.cons vm_p .nil)))
/-! ### The document's -/
def permK (l : List Rdg) (s : Rg) (i : Nat) : Rg := permit (l.getD i (0, 0, 0)) s
def rAgreed (r : Rg) : Rg := if r.2 < r.1 then (0, 0) else r
theorem rAgreedOf_ok {l : List Rdg} {s : Rg} (h0 : 0 < l.length) (hl : l.length ≤ 9223372036854775807) (ht : ∀ i, i < l.length → (l.getD i (0, 0, 0)).1 = 0 ∨ (l.getD i (0, 0, 0)).1 = 1) :
    FnOK Try.prog 34 [eRds l, eRg s] (.tup [eRg (rAgreed (meetK (permK l s) (l.length - 1))), B (goodB (meetK (permK l s) (l.length - 1)))]) [] := by
  have h00 := ht 0 h0
  refine fn_i hmix hT Try.f34 (by kernel_rfl) rfl (by kernel_rfl) ?_
  with_reducible conv => whnf
  repeat' ((first | (with_reducible refine branch_t ?_) | (with_reducible refine branch_f ?_) | (with_reducible refine branch_nt ?_) | (with_reducible refine branch_nf ?_) | (with_reducible refine branch_dec (fun _ => ?_) (fun _ => ?_)) | (with_reducible refine branch_ndec (fun _ => ?_) (fun _ => ?_)) | (with_reducible refine branch_bool (fun _ => ?_) (fun _ => ?_)) | (with_reducible refine arith_64 (by omega) ?_) | (with_reducible refine ob_i (by omega) (fun _ => ?_)) | (with_reducible refine ob_i (by unfold room; omega) (fun _ => ?_)) | ((with_reducible refine ob_k ?_ ?_); focus kernel_rfl) | (apply call_u (rPermitted_ok (x := l.getD 0 (0, 0, 0)) h00))) <;> (try (exfalso; omega; done)) <;> (with_reducible conv => whnf))
  refine loop_i hmix hT (fun k : Nat => ([(0, eRds l), (3, .ptr 0 0), (4, .ptr 1 0), (6, .ptr 2 0), (7, I (k + 1 : Nat))],
      ⟨3, [(2, .cells [I (meetK (permK l s) k).1, I (meetK (permK l s) k).2] 37), (1, .cells [I 0, I 0] 37), (0, .cells [I s.1, I s.2] 37)]⟩))
    (fun k => k ≤ l.length - 1) (fun k => l.length - 1 - k) 0 (by omega) ?_ ?_
  · refine ⟨[], rfl, ?_, ?_⟩ <;> repeat' (first | exact trivial | exact vm_p | exact vm_ptr rfl rfl rfl | exact vm_own rfl rfl (by omega) (by omega) | exact vm_int (by omega) | exact sbm_cells vmL_p | refine ⟨⟨_, rfl, ?_⟩, ?_⟩ | refine sbm_cells ?_ | exact vmL.nil | refine vmL.cons ?_ ?_)
  intro k hk1
  have h01 := ht (k + 1)
  with_reducible conv => whnf
  repeat' ((first | (with_reducible refine branch_t ?_) | (with_reducible refine branch_f ?_) | (with_reducible refine branch_nt ?_) | (with_reducible refine branch_nf ?_) | (with_reducible refine branch_dec (fun _ => ?_) (fun _ => ?_)) | (with_reducible refine branch_ndec (fun _ => ?_) (fun _ => ?_)) | (with_reducible refine branch_bool (fun _ => ?_) (fun _ => ?_)) | (with_reducible refine arith_64 (by omega) ?_) | (with_reducible refine ob_i (by omega) (fun _ => ?_)) | (with_reducible refine ob_i (by unfold room; omega) (fun _ => ?_)) | ((with_reducible refine ob_k ?_ ?_); focus kernel_rfl) | (apply call_u (rPermitted_ok (h01 (by omega))))) <;> (try (exfalso; omega; done)) <;> (with_reducible conv => whnf))
  all_goals dsimp only [toN] at *
  · refine ⟨k + 1, by omega, by omega, [], rfl, ⟨⟨_, rfl, vm_p⟩, ⟨_, rfl, vm_ptr rfl rfl rfl⟩, ⟨_, rfl, vm_ptr rfl rfl rfl⟩, ⟨_, rfl, vm_ptr rfl rfl rfl⟩, ⟨_, rfl, vm_int (by omega)⟩, trivial⟩, ⟨⟨_, rfl, sbm_cells vmL_p⟩, ⟨_, rfl, sbm_cells vmL_p⟩, ⟨_, rfl, sbm_cells vmL_p⟩, trivial⟩⟩
  · obtain rfl : k = l.length - 1 := by omega
    have e : rAgreed (meetK (permK l s) (l.length - 1)) = (0, 0) := by unfold rAgreed; rw [if_pos (by assumption)]
    rw [e]
    exact ret0 (vm_tup (.cons vm_p (.cons (vm_bool (by unfold goodB; symm; rw [decide_eq_false_iff_not]; omega)) .nil)))
  · obtain rfl : k = l.length - 1 := by omega
    have e : rAgreed (meetK (permK l s) (l.length - 1)) = meetK (permK l s) (l.length - 1) := by unfold rAgreed; rw [if_neg (by assumption)]
    rw [e]
    exact ret0 (vm_tup (.cons vm_p (.cons (vm_bool (by unfold goodB; symm; rw [decide_eq_true_eq]; omega)) .nil)))
theorem permK_two (l : List Rdg) (i k : Nat) (s : Rg) : meetK (permK [l.getD i (0, 0, 0), l.getD k (0, 0, 0)] s) ([l.getD i (0, 0, 0), l.getD k (0, 0, 0)].length - 1) = meet (permK l s i) (permK l s k) := rfl
theorem rContradicting_ok {l : List Rdg} {s : Rg} (h0 : l.length ≤ 100) (ht : ∀ i, i < l.length → (l.getD i (0, 0, 0)).1 = 0 ∨ (l.getD i (0, 0, 0)).1 = 1) :
    FnOK Try.prog 35 [eRds l, eRg s] (.tup [eInts (pairOf (permK l s) l.length), B (decide (pairOf (permK l s) l.length ≠ []))]) [] := by
  refine fn_i hmix hT Try.f35 (by kernel_rfl) rfl (by kernel_rfl) ?_
  with_reducible conv => whnf
  with_reducible conv => whnf
  refine loop_i hmix hT (fun i : Nat => ([(0, eRds l), (3, .ptr 0 0), (6, I i)], ⟨1, [(0, .cells [I s.1, I s.2] 37)]⟩)) (fun i => i ≤ l.length ∧ ∀ i' k', i' < k' → k' < l.length → (i' < i ∨ (i' = i ∧ k' < i + 1)) → ¬ clash (permK l s) i' k') (fun i => l.length - i) 0 ⟨by omega, by omega⟩ ?_ ?_
  · refine ⟨[], rfl, ?_, ?_⟩ <;> repeat' (first | exact trivial | exact vm_p | exact vm_ptr rfl rfl rfl | exact vm_own rfl rfl (by omega) (by omega) | exact vm_int (by omega) | exact sbm_cells vmL_p | refine ⟨⟨_, rfl, ?_⟩, ?_⟩ | refine sbm_cells ?_ | exact vmL.nil | refine vmL.cons ?_ ?_)
  rintro i ⟨hi1, hi2⟩
  with_reducible conv => whnf
  repeat' ((first | (with_reducible refine branch_t ?_) | (with_reducible refine branch_f ?_) | (with_reducible refine branch_nt ?_) | (with_reducible refine branch_nf ?_) | (with_reducible refine branch_dec (fun _ => ?_) (fun _ => ?_)) | (with_reducible refine branch_ndec (fun _ => ?_) (fun _ => ?_)) | (with_reducible refine branch_bool (fun _ => ?_) (fun _ => ?_)) | (with_reducible refine arith_64 (by omega) ?_) | (with_reducible refine ob_i (by omega) (fun _ => ?_)) | (with_reducible refine ob_i (by unfold room; omega) (fun _ => ?_)) | ((with_reducible refine ob_k ?_ ?_); focus kernel_rfl) ) <;> (try (exfalso; omega; done)) <;> (with_reducible conv => whnf))
  all_goals dsimp only [toN] at *
  · refine loop_i hmix hT (fun k : Nat => ([(0, eRds l), (3, .ptr 0 0), (6, I i), (7, I k)], ⟨1, [(0, .cells [I s.1, I s.2] 37)]⟩)) (fun k => i + 1 ≤ k ∧ k ≤ l.length ∧ ∀ i' k', i' < k' → k' < l.length → (i' < i ∨ (i' = i ∧ k' < k)) → ¬ clash (permK l s) i' k') (fun k => l.length - k) (i + 1) ⟨by omega, by omega, hi2⟩ ?_ ?_
    · refine ⟨[], rfl, ?_, ?_⟩ <;> repeat' (first | exact trivial | exact vm_p | exact vm_ptr rfl rfl rfl | exact vm_own rfl rfl (by omega) (by omega) | exact vm_int (by omega) | exact sbm_cells vmL_p | refine ⟨⟨_, rfl, ?_⟩, ?_⟩ | refine sbm_cells ?_ | exact vmL.nil | refine vmL.cons ?_ ?_)
    rintro k ⟨hk1, hk2, hk3⟩
    have hti := ht i
    have htk := ht k
    with_reducible conv => whnf
    repeat' ((first | (with_reducible refine branch_t ?_) | (with_reducible refine branch_f ?_) | (with_reducible refine branch_nt ?_) | (with_reducible refine branch_nf ?_) | (with_reducible refine branch_dec (fun _ => ?_) (fun _ => ?_)) | (with_reducible refine branch_ndec (fun _ => ?_) (fun _ => ?_)) | (with_reducible refine branch_bool (fun _ => ?_) (fun _ => ?_)) | (with_reducible refine arith_64 (by omega) ?_) | (with_reducible refine ob_i (by omega) (fun _ => ?_)) | (with_reducible refine ob_i (by unfold room; omega) (fun _ => ?_)) | ((with_reducible refine ob_k ?_ ?_); focus kernel_rfl) | (apply call_l (rAgreedOf_ok (l := [_, _]) (by simp) (Nat.le_of_ble_eq_true rfl) (by intro j hj; have hj' : j = 0 ∨ j = 1 := (by simp at hj; omega); rcases hj' with rfl | rfl; exact hti (by omega); exact htk (by omega))) (.cons (vm_lit _ rfl rfl (.cons vm_p (.cons vm_p .nil))) (.cons vm_p .nil)))) <;> (try (exfalso; omega; done)) <;> (with_reducible conv => whnf))
    all_goals dsimp only [toN] at *
    all_goals try simp only [permK_two] at *
    · have hc : clash (permK l s) i k := by unfold clash; simpa using ‹(!goodB (meet (permK l s i) (permK l s k))) = true›
      rw [pairOf_hit (hit_pair hk3 hc (by omega) (by omega))]
      exact ret0 (vm_tup (.cons (vm_two rfl) (.cons (vm_bool (by simp)) .nil)))
    · have hc : ¬ clash (permK l s) i k := by unfold clash; simpa using ‹(!goodB (meet (permK l s i) (permK l s k))) = false›
      refine ⟨k + 1, ⟨by omega, by omega, step_pair hk3 hc⟩, by omega, ?_⟩
      refine ⟨[], rfl, ?_, ?_⟩ <;> repeat' (first | exact trivial | exact vm_p | exact vm_ptr rfl rfl rfl | exact vm_own rfl rfl (by omega) (by omega) | exact vm_int (by omega) | exact sbm_cells vmL_p | refine ⟨⟨_, rfl, ?_⟩, ?_⟩ | refine sbm_cells ?_ | exact vmL.nil | refine vmL.cons ?_ ?_)
    · refine ⟨i + 1, ⟨by omega, fun i' k' a b c => hk3 i' k' a b (by omega)⟩, by omega, ?_⟩
      refine ⟨[], rfl, ?_, ?_⟩ <;> repeat' (first | exact trivial | exact vm_p | exact vm_ptr rfl rfl rfl | exact vm_own rfl rfl (by omega) (by omega) | exact vm_int (by omega) | exact sbm_cells vmL_p | refine ⟨⟨_, rfl, ?_⟩, ?_⟩ | refine sbm_cells ?_ | exact vmL.nil | refine vmL.cons ?_ ?_)
  · rw [pairOf_none fun i' k' a b => hi2 i' k' a b (by omega)]
    exact ret0 (vm_tup (.cons (vm_nilsl rfl) (.cons (vm_bool (by simp)) .nil)))
/-! ### What is common of all, and of two -/
theorem meetK_le {f : Nat → Rg} : ∀ (n i : Nat), i ≤ n → (f i).1 ≤ (meetK f n).1 ∧ (meetK f n).2 ≤ (f i).2
  | 0, i, h => by
    obtain rfl : i = 0 := by omega
    exact ⟨Int.le_refl _, Int.le_refl _⟩
  | n + 1, i, h => by
    simp only [meetK, meet]
    by_cases e : i = n + 1
    · subst e; omega
    · have := meetK_le (f := f) n i (by omega)
      omega
theorem meetK_lo {f : Nat → Rg} : ∀ (n : Nat), ∃ i, i ≤ n ∧ (f i).1 = (meetK f n).1
  | 0 => ⟨0, Nat.le_refl _, rfl⟩
  | n + 1 => by
    obtain ⟨i, h1, h2⟩ := meetK_lo (f := f) n
    simp only [meetK, meet]
    by_cases e : (meetK f n).1 ≤ (f (n + 1)).1
    · exact ⟨n + 1, Nat.le_refl _, by omega⟩
    · exact ⟨i, by omega, by omega⟩
theorem meetK_hi {f : Nat → Rg} : ∀ (n : Nat), ∃ i, i ≤ n ∧ (f i).2 = (meetK f n).2
  | 0 => ⟨0, Nat.le_refl _, rfl⟩
  | n + 1 => by
    obtain ⟨i, h1, h2⟩ := meetK_hi (f := f) n
    simp only [meetK, meet]
    by_cases e : (f (n + 1)).2 ≤ (meetK f n).2
    · exact ⟨n + 1, Nat.le_refl _, by omega⟩
    · exact ⟨i, by omega, by omega⟩
theorem least {p : Nat → Prop} {n : Nat} (h : p n) : ∃ n, p n ∧ ∀ m, m < n → ¬ p m := by
  induction n using Nat.strongRecOn with
  | ind n ih =>
    by_cases e : ∃ m, m < n ∧ p m
    · obtain ⟨m, h1, h2⟩ := e
      exact ih m h1 h2
    · exact ⟨n, h, fun m hm hp => e ⟨m, hm, hp⟩⟩
theorem first_ex {f : Nat → Rg} {n i k : Nat} (hc : clash f i k) (h1 : i < k) (h2 : k < n) : ∃ i k, IsFirst f n i k := by
  obtain ⟨i0, ⟨k1, a1, a2, a3⟩, hi⟩ := least (p := fun i => ∃ k, i < k ∧ k < n ∧ clash f i k) ⟨k, h1, h2, hc⟩
  obtain ⟨k0, ⟨b1, b2, b3⟩, hk⟩ := least (p := fun k => i0 < k ∧ k < n ∧ clash f i0 k) ⟨a1, a2, a3⟩
  refine ⟨i0, k0, b3, b1, b2, fun i' k' a b c => ?_⟩
  by_cases h : i0 = i'
  · subst h
    refine .inr ⟨rfl, ?_⟩
    by_cases e : k' < k0
    · exact absurd ⟨a, b, c⟩ (hk k' e)
    · omega
  · refine .inl ?_
    by_cases e : i' < i0
    · exact absurd ⟨k', a, b, c⟩ (hi i' e)
    · omega
theorem clash_iff {f : Nat → Rg} {i k : Nat} : clash f i k ↔ min (f i).2 (f k).2 < max (f i).1 (f k).1 := by
  unfold clash goodB meet
  rw [decide_eq_false_iff_not]
  omega
/-- Of ranges without a common number there are two without one. -/
theorem helly {f : Nat → Rg} {n : Nat} (hv : ∀ i, i ≤ n → (f i).1 ≤ (f i).2) : (goodB (meetK f n) = true → ∀ i k, i < k → k < n + 1 → ¬ clash f i k) ∧ (goodB (meetK f n) = false → ∃ i k, IsFirst f (n + 1) i k) := by
  constructor
  · intro h i k h1 h2 hc
    rw [clash_iff] at hc
    have a1 := meetK_le (f := f) n i (by omega)
    have a2 := meetK_le (f := f) n k (by omega)
    unfold goodB at h
    rw [decide_eq_true_eq] at h
    omega
  · intro h
    unfold goodB at h
    rw [decide_eq_false_iff_not] at h
    obtain ⟨i, h1, h2⟩ := meetK_lo (f := f) n
    obtain ⟨k, h3, h4⟩ := meetK_hi (f := f) n
    have hi := hv i h1
    have hk := hv k h3
    have hne : i ≠ k := by rintro rfl; omega
    by_cases e : i < k
    · exact first_ex (i := i) (k := k) (clash_iff.2 (by omega)) e (by omega)
    · exact first_ex (i := k) (k := i) (clash_iff.2 (by omega)) (by omega) (by omega)
theorem wrap64 {n : Int} (h : -9223372036854775808 ≤ n ∧ n ≤ 9223372036854775807) : IntKind.wrap .i64 n = n := wrap_in (by simpa [IntKind.min, IntKind.max, IntKind.bits, IntKind.signed] using h)
theorem findErr_zero {α : Type} (f : α → Int) (d : α) : ∀ (l : List α) (s : Int), (findErr f l s).2 = 0 → ∀ i, i < l.length → f (l.getD i d) = 0
  | [], _, _, i, h => by simp at h
  | x :: l, s, h, i, hi => by
    by_cases hx : f x = 0
    · simp only [findErr, hx, ne_eq, not_true_eq_false, if_false] at h
      cases i with
      | zero => simpa using hx
      | succ i => simpa using findErr_zero f d l (s + 1) h i (by simpa using hi)
    · simp only [findErr, hx, ne_eq, not_false_eq_true, if_true] at h
theorem rangeE_zero {r : Rg} (h : rangeE r = 0) : 0 ≤ r.1 ∧ r.1 ≤ r.2 ∧ r.2 ≤ 3000 := by
  unfold rangeE at h
  split at h
  · simp at h
  · split at h
    · simp at h
    · omega
structure Good (l : List Rdg) (s : Rg) : Prop where
  pos : 0 < l.length
  le : l.length ≤ 12
  tag : ∀ i, i < l.length → (l.getD i (0, 0, 0)).1 = 0 ∨ (l.getD i (0, 0, 0)).1 = 1
  val : ∀ i, i < l.length → 0 ≤ (l.getD i (0, 0, 0)).2.1 ∧ (l.getD i (0, 0, 0)).2.1 ≤ (l.getD i (0, 0, 0)).2.2 ∧ (l.getD i (0, 0, 0)).2.2 ≤ 3000
  shift : 0 ≤ s.1 ∧ s.1 ≤ s.2 ∧ s.2 ≤ 3000
  perms : perms l s = l.map (fun x => permit x s)
theorem good_of {l : List Rdg} {s : Rg} (h : readsE l s = 0) : Good l s := by
  obtain ⟨h1, h2, h3, h4, h5⟩ := perms_len h
  have h6 := findErr_zero readE (0, 0, 0) l 0 h4
  have key : ∀ x : Rdg, readE x = 0 → (x.1 = 0 ∨ x.1 = 1) ∧ rangeE x.2 = 0 := by
    intro x hx
    unfold readE at hx
    split at hx
    · simp at hx
    · exact ⟨by omega, hx⟩
  exact ⟨h2, h3, fun i hi => (key _ (h6 i hi)).1, fun i hi => rangeE_zero (key _ (h6 i hi)).2, rangeE_zero h5, h1⟩
theorem Good.permK_eq {l : List Rdg} {s : Rg} (g : Good l s) {i : Nat} (hi : i < l.length) : permK l s i = if (l.getD i (0, 0, 0)).1 = 1 then ((l.getD i (0, 0, 0)).2.1 - s.2, (l.getD i (0, 0, 0)).2.2 - s.1) else (l.getD i (0, 0, 0)).2 := by
  have h1 := g.val i hi
  have h2 := g.shift
  unfold permK permit
  rw [wrap64 (by omega), wrap64 (by omega)]
theorem Good.valid {l : List Rdg} {s : Rg} (g : Good l s) {i : Nat} (hi : i < l.length) : (permK l s i).1 ≤ (permK l s i).2 := by
  have h1 := g.val i hi
  have h2 := g.shift
  rw [g.permK_eq hi]
  split <;> omega
theorem Good.get {l : List Rdg} {s : Rg} (g : Good l s) {i : Nat} (hi : i < l.length) : (Go.Proofs.Ytmiphilcplojnaa.perms l s).getD i (0, 0) = permK l s i := by
  rw [g.perms, List.getD_eq_getElem?_getD, List.getElem?_map, List.getElem?_eq_getElem hi]
  unfold permK
  rw [List.getD_eq_getElem?_getD, List.getElem?_eq_getElem hi]; rfl
theorem Good.len {l : List Rdg} {s : Rg} (g : Good l s) : (Go.Proofs.Ytmiphilcplojnaa.perms l s).length = l.length := by rw [g.perms]; simp
theorem Good.meet {l : List Rdg} {s : Rg} (g : Good l s) : meetL (Go.Proofs.Ytmiphilcplojnaa.perms l s) = meetK (permK l s) (l.length - 1) := by
  have := g.pos
  unfold meetL
  rw [g.len]
  exact meetK_congr _ fun i hi => g.get (by omega)
theorem pairOf_congr {f f' : Nat → Rg} {n : Nat} (h : ∀ i, i < n → f i = f' i) : pairOf f n = pairOf f' n := by
  have key : ∀ {f f' : Nat → Rg}, (∀ i, i < n → f i = f' i) → ∀ i k, IsFirst f n i k → IsFirst f' n i k := by
    intro f f' h i k hf
    have lt := hf.lt
    have le := hf.le
    have hc : ∀ a b, a < b → b < n → (clash f a b ↔ clash f' a b) := fun a b h1 h2 => by unfold clash; rw [h a (by omega), h b h2]
    exact ⟨(hc i k lt le).1 hf.c, lt, le, fun i' k' a b c => hf.first i' k' a b ((hc i' k' a b).2 c)⟩
  by_cases e : ∃ i k, IsFirst f n i k
  · obtain ⟨i, k, e⟩ := e
    rw [pairOf_hit e, pairOf_hit (key h i k e)]
  · unfold pairOf
    rw [dif_neg, dif_neg]
    · rintro ⟨p, hp⟩; exact e ⟨_, _, key (fun i hi => (h i hi).symm) _ _ hp⟩
    · rintro ⟨p, hp⟩; exact e ⟨_, _, hp⟩
theorem Good.pair {l : List Rdg} {s : Rg} (g : Good l s) : pairOf (fun i => (Go.Proofs.Ytmiphilcplojnaa.perms l s).getD i (0, 0)) (Go.Proofs.Ytmiphilcplojnaa.perms l s).length = pairOf (permK l s) l.length := by
  rw [g.len]
  exact pairOf_congr fun i hi => g.get hi
/-- What the law compares. -/
theorem Good.all {l : List Rdg} {s : Rg} (g : Good l s) (h : readsE l s = 0) :
    (goodB (meetK (permK l s) (l.length - 1)) = true → agreed l s = (meetK (permK l s) (l.length - 1), 0) ∧ contra l s = ([], 12)) ∧
    (goodB (meetK (permK l s) (l.length - 1)) = false → agreed l s = ((0, 0), 13) ∧ contra l s = (pairOf (permK l s) l.length, 0) ∧ ∃ i k, IsFirst (permK l s) l.length i k) := by
  have hp := g.pos
  have hh := helly (f := permK l s) (n := l.length - 1) fun i hi => g.valid (by omega)
  rw [show l.length - 1 + 1 = l.length by omega] at hh
  have e1 : agreed l s = if (meetK (permK l s) (l.length - 1)).1 ≤ (meetK (permK l s) (l.length - 1)).2 then (meetK (permK l s) (l.length - 1), 0) else ((0, 0), 13) := by
    unfold agreed
    rw [if_neg (by omega), g.meet]
  have e2 : contra l s = if pairOf (permK l s) l.length = [] then ([], 12) else (pairOf (permK l s) l.length, 0) := by
    unfold contra
    rw [if_neg (by omega), g.pair]
  constructor
  · intro hg
    have hn := pairOf_none (hh.1 hg)
    unfold goodB at hg
    rw [decide_eq_true_eq] at hg
    rw [e1, e2, hn, if_pos hg, if_pos rfl]
    exact ⟨rfl, rfl⟩
  · intro hg
    obtain ⟨i, k, hf⟩ := hh.2 hg
    unfold goodB at hg
    rw [decide_eq_false_iff_not] at hg
    rw [e1, e2, if_neg hg, if_neg (by rw [pairOf_hit hf]; simp)]
    exact ⟨rfl, rfl, i, k, hf⟩
theorem contra_len {l : List Rdg} {s : Rg} : (contra l s).1.length ≤ 2 := by
  have := pairOf_len (fun i => (perms l s).getD i (0, 0)) (perms l s).length
  unfold contra
  split
  · simp
  · split
    · simp
    · exact this
set_option maxRecDepth 100000 in
theorem traceReadings_ok {l : List Rdg} {s : Rg} (hl : l.length ≤ 9223372036854775807) : FnOK Try.prog 5 [eRds l, eRg s] (B true) [] := by
  have A := agreedOf_ok (l := l) (s := s) hl
  have C := contradicting_ok (l := l) (s := s) hl
  have hlen := pairOf_len (permK l s) l.length
  refine fn_i hmix hT Try.f5 (by kernel_rfl) rfl (by kernel_rfl) ?_
  with_reducible conv => whnf
  apply call_u awake_fn
  with_reducible conv => whnf
  refine branch_f ?_
  with_reducible conv => whnf
  refine branch_dec (fun h14 => ?_) (fun h14 => ?_)
  · with_reducible conv => whnf
    exact ret0 vm_p
  by_cases hd : readsE l s = 0
  · have g := good_of hd
    obtain ⟨g1, g2⟩ := g.all hd
    have D := readingsErr_ok (l := l) (s := s) hl
    have E := rAgreedOf_ok (l := l) (s := s) g.pos hl g.tag
    have F := rContradicting_ok (l := l) (s := s) (by have := g.le; omega) g.tag
    rw [hd] at D
    cases hg : goodB (meetK (permK l s) (l.length - 1)) with
    | true =>
      obtain ⟨e1, e2⟩ := g1 hg
      rw [e1] at A
      rw [e2] at C
      have e3 : rAgreed (meetK (permK l s) (l.length - 1)) = meetK (permK l s) (l.length - 1) := by
        unfold goodB at hg
        rw [decide_eq_true_eq] at hg
        unfold rAgreed
        rw [if_neg (by omega)]
      rw [e3, hg] at E
      clear g1 g2 F
      with_reducible conv => whnf
      repeat' ((first | (with_reducible refine branch_t ?_) | (with_reducible refine branch_f ?_) | (with_reducible refine branch_nt ?_) | (with_reducible refine branch_nf ?_) | (with_reducible refine branch_dec (fun _ => ?_) (fun _ => ?_)) | (with_reducible refine branch_ndec (fun _ => ?_) (fun _ => ?_)) | (with_reducible refine branch_bool (fun _ => ?_) (fun _ => ?_)) | (with_reducible refine arith_64 (by omega) ?_) | (with_reducible refine ob_i (by omega) (fun _ => ?_)) | (with_reducible refine ob_i (by unfold room; omega) (fun _ => ?_)) | ((with_reducible refine ob_k ?_ ?_); focus kernel_rfl) | (apply call_u (copyReadings_ok (by omega))) | (apply call_u A) | (apply call_u C) | (apply call_u D) | (apply call_u E) | (refine gen_eq2 rfl rfl rfl rfl (by kernel_rfl) (by kernel_rfl) (fun _ => ?_) (fun _ => ?_))) <;> (try (exfalso; omega; done)) <;> (with_reducible conv => whnf))
      all_goals first | (refine ret0 (vm_bool ?_); simp; done) | (exfalso; simp_all; done)
    | false =>
      obtain ⟨e1, e2, i, k, hf⟩ := g2 hg
      rw [e1] at A
      rw [e2] at C
      have e3 : rAgreed (meetK (permK l s) (l.length - 1)) = (0, 0) := by
        unfold goodB at hg
        rw [decide_eq_false_iff_not] at hg
        unfold rAgreed
        rw [if_pos (by omega)]
      rw [e3, hg] at E
      clear g1 g2
      with_reducible conv => whnf
      repeat' ((first | (with_reducible refine branch_t ?_) | (with_reducible refine branch_f ?_) | (with_reducible refine branch_nt ?_) | (with_reducible refine branch_nf ?_) | (with_reducible refine branch_dec (fun _ => ?_) (fun _ => ?_)) | (with_reducible refine branch_ndec (fun _ => ?_) (fun _ => ?_)) | (with_reducible refine branch_bool (fun _ => ?_) (fun _ => ?_)) | (with_reducible refine arith_64 (by omega) ?_) | (with_reducible refine ob_i (by omega) (fun _ => ?_)) | (with_reducible refine ob_i (by unfold room; omega) (fun _ => ?_)) | ((with_reducible refine ob_k ?_ ?_); focus kernel_rfl) | (apply call_u (copyReadings_ok (by omega))) | (apply call_u A) | (apply call_u C) | (apply call_u D) | (apply call_u E) | (apply call_u F) | (apply call_u (ints_ok (a := pairOf (permK l s) l.length) (b := pairOf (permK l s) l.length) (by omega) (by omega))) | (refine gen_eq2 rfl rfl rfl rfl (by kernel_rfl) (by kernel_rfl) (fun _ => ?_) (fun _ => ?_))) <;> (try (exfalso; omega; done)) <;> (with_reducible conv => whnf))
      all_goals first | (refine ret0 (vm_bool ?_); simp; done) | (exfalso; simp_all; done)
  · have e1 : agreed l s = ((0, 0), readsE l s) := by unfold agreed; rw [if_pos hd]
    have e2 : contra l s = ([], readsE l s) := by unfold contra; rw [if_pos hd]
    have D := readingsErr_ok (l := l) (s := s) hl
    rw [e1] at A
    rw [e2] at C
    with_reducible conv => whnf
    repeat' ((first | (with_reducible refine branch_t ?_) | (with_reducible refine branch_f ?_) | (with_reducible refine branch_nt ?_) | (with_reducible refine branch_nf ?_) | (with_reducible refine branch_dec (fun _ => ?_) (fun _ => ?_)) | (with_reducible refine branch_ndec (fun _ => ?_) (fun _ => ?_)) | (with_reducible refine branch_bool (fun _ => ?_) (fun _ => ?_)) | (with_reducible refine arith_64 (by omega) ?_) | (with_reducible refine ob_i (by omega) (fun _ => ?_)) | (with_reducible refine ob_i (by unfold room; omega) (fun _ => ?_)) | ((with_reducible refine ob_k ?_ ?_); focus kernel_rfl) | (apply call_u (copyReadings_ok (by omega))) | (apply call_u A) | (apply call_u C) | (apply call_u D) | (refine gen_eq2 rfl rfl rfl rfl (by kernel_rfl) (by kernel_rfl) (fun _ => ?_) (fun _ => ?_))) <;> (try (exfalso; omega; done)) <;> (with_reducible conv => whnf))
    all_goals first | (refine ret0 (vm_bool ?_); simp; done) | (exfalso; simp_all; done)
end Go.Proofs.Ytmiphilcplojnaa
