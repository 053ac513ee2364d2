/-
  Chapter 3: readings: what they permit, what they agree on, which two contradict each other (the document's functions and the program's, by contract).
  Conditions: none.
-/
import Derived.Test.Ytkliejppigfjiaa3A
import Derived.Test.YtkliejppigfjiaaFs
namespace Go.Proofs.Ytkliejppigfjiaa
open Go.RowKit Fx
abbrev Rg := Int × Int
abbrev Rdg := Int × Int × Int
@[reducible] def eRg (r : Rg) : V := .agg [I r.1, I r.2]
@[reducible] def eRd (r : Rdg) : V := .agg [I r.1, I r.2.1, I r.2.2]
@[reducible] def eRgs (l : List Rg) : V := .sl 2 l.length fun i => eRg (l.getD i (0, 0))
@[reducible] def eRds (l : List Rdg) : V := .sl 3 l.length fun i => eRd (l.getD i (0, 0, 0))
/-! ### Plain -/
def rangeE (r : Rg) : Int := if ¬ ((0 ≤ r.1 ∧ r.1 ≤ 3000) ∧ (0 ≤ r.2 ∧ r.2 ≤ 3000)) then 2 else if r.2 < r.1 then 9 else 0
def readE (x : Rdg) : Int := if x.1 ≠ 0 ∧ x.1 ≠ 1 then 15 else rangeE x.2
def readsE (l : List Rdg) (s : Rg) : Int := if l.length = 0 then 10 else if 12 < l.length then 8 else if (findErr readE l 0).2 ≠ 0 then (findErr readE l 0).2 else rangeE s
def permit (x : Rdg) (s : Rg) : Rg := if x.1 = 1 then (IntKind.wrap .i64 (x.2.1 - s.2), IntKind.wrap .i64 (x.2.2 - s.1)) else x.2
def meet (a b : Rg) : Rg := (max a.1 b.1, min a.2 b.2)
/-! ### The document's -/
/-! ### The program's -/
theorem isEnd_ok {n : Int} : FnOK Try.prog 116 [I n] (B (decide (0 ≤ n ∧ n ≤ 3000))) [] := by
  refine fn_i hmix hT Try.f116 (by kernel_rfl) rfl (by kernel_rfl) ?_
  with_reducible conv => whnf
  repeat' ((first | (with_reducible refine branch_t ?_) | (with_reducible refine branch_f ?_) | (with_reducible refine branch_nt ?_) | (with_reducible refine branch_nf ?_) | (with_reducible refine branch_dec (fun _ => ?_) (fun _ => ?_)) | (with_reducible refine branch_ndec (fun _ => ?_) (fun _ => ?_)) | (with_reducible refine branch_bool (fun _ => ?_) (fun _ => ?_)) | (with_reducible refine arith_64 (by omega) ?_) | (with_reducible refine ob_i (by omega) (fun _ => ?_)) | (with_reducible refine ob_i (by unfold room; omega) (fun _ => ?_)) | ((with_reducible refine ob_k ?_ ?_); focus kernel_rfl) | (apply call_u within_ok)) <;> (try (exfalso; omega; done)) <;> (with_reducible conv => whnf))
  exact ret0 (vm_bool rfl)
theorem isPolar_ok {n : Int} : FnOK Try.prog 105 [I n] (B (decide (n = 0 ∨ n = 1))) [] := by
  refine fn_i hmix hT Try.f105 (by kernel_rfl) rfl (by kernel_rfl) ?_
  with_reducible conv => whnf
  repeat' ((first | (with_reducible refine branch_t ?_) | (with_reducible refine branch_f ?_) | (with_reducible refine branch_nt ?_) | (with_reducible refine branch_nf ?_) | (with_reducible refine branch_dec (fun _ => ?_) (fun _ => ?_)) | (with_reducible refine branch_ndec (fun _ => ?_) (fun _ => ?_)) | (with_reducible refine branch_bool (fun _ => ?_) (fun _ => ?_)) | (with_reducible refine arith_64 (by omega) ?_) | (with_reducible refine ob_i (by omega) (fun _ => ?_)) | (with_reducible refine ob_i (by unfold room; omega) (fun _ => ?_)) | ((with_reducible refine ob_k ?_ ?_); focus kernel_rfl) | (apply call_u within_ok)) <;> (try (exfalso; omega; done)) <;> (with_reducible conv => whnf))
  all_goals exact ret0 (vm_bool (by simp; omega))
theorem mRangeErr_ok {r : Rg} : FnOK Try.prog 106 [eRg r] (I (rangeE r)) [] := by
  refine fn_i hmix hT Try.f106 (by kernel_rfl) rfl (by kernel_rfl) ?_
  with_reducible conv => whnf
  repeat' ((first | (with_reducible refine branch_t ?_) | (with_reducible refine branch_f ?_) | (with_reducible refine branch_nt ?_) | (with_reducible refine branch_nf ?_) | (with_reducible refine branch_dec (fun _ => ?_) (fun _ => ?_)) | (with_reducible refine branch_ndec (fun _ => ?_) (fun _ => ?_)) | (with_reducible refine branch_bool (fun _ => ?_) (fun _ => ?_)) | (with_reducible refine arith_64 (by omega) ?_) | (with_reducible refine ob_i (by omega) (fun _ => ?_)) | (with_reducible refine ob_i (by unfold room; omega) (fun _ => ?_)) | ((with_reducible refine ob_k ?_ ?_); focus kernel_rfl) | (apply call_u isEnd_ok) | (apply call_u unless_ok) | (apply call_l (first_ok (l := [_, _]) (Nat.le_of_ble_eq_true rfl)) (.cons (vm_lit _ rfl rfl (.cons (vm_int rfl) (.cons (vm_int rfl) .nil))) .nil))) <;> (try (exfalso; omega; done)) <;> (with_reducible conv => whnf))
  all_goals exact ret0 (vm_int (by unfold rangeE; simp only [firstErr]; grind))
def perms (l : List Rdg) (s : Rg) : List Rg := if l.length = 0 ∨ 12 < l.length ∨ (findErr readE l 0).2 ≠ 0 then [] else l.map fun x => permit x s
theorem firstPair {b : Bool} {p : Prop} [Decidable p] (a e : Int) (ha : a ≠ 0) (hb : b = decide p) : firstErr [if b = true then 0 else a, e] = if ¬ p then a else e := by
  subst hb
  simp only [firstErr]
  grind
theorem mPermitted_ok {l : List Rdg} {s : Rg} (hl : l.length ≤ 9223372036854775807) : FnOK Try.prog 83 [eRds l, eRg s] (.tup [eRgs (perms l s), I (readsE l s)]) [] := by
  have e1 : firstErr [if decide ((0 : Int) < l.length) = true then 0 else 10, if decide ((l.length : Int) ≤ 12) = true then 0 else 8] = if l.length = 0 then 10 else if 12 < l.length then 8 else 0 := by
    simp only [firstErr]
    grind
  refine fn_i hmix hT Try.f83 (by kernel_rfl) rfl (by kernel_rfl) ?_
  with_reducible conv => whnf
  repeat' ((first | (with_reducible refine branch_t ?_) | (with_reducible refine branch_f ?_) | (with_reducible refine branch_nt ?_) | (with_reducible refine branch_nf ?_) | (with_reducible refine branch_dec (fun _ => ?_) (fun _ => ?_)) | (with_reducible refine branch_ndec (fun _ => ?_) (fun _ => ?_)) | (with_reducible refine branch_bool (fun _ => ?_) (fun _ => ?_)) | (with_reducible refine arith_64 (by omega) ?_) | (with_reducible refine ob_i (by omega) (fun _ => ?_)) | (with_reducible refine ob_i (by unfold room; omega) (fun _ => ?_)) | ((with_reducible refine ob_k ?_ ?_); focus kernel_rfl) | (apply call_u unless_ok) | (apply call_l (first_ok (l := [_, _]) (Nat.le_of_ble_eq_true rfl)) (.cons (vm_lit _ rfl rfl (.cons (vm_int rfl) (.cons (vm_int rfl) .nil))) .nil))) <;> (try (exfalso; omega; done)) <;> (with_reducible conv => whnf))
  · rename_i hne
    rw [e1] at hne
    have e2 : perms l s = [] := by unfold perms; rw [if_pos (by grind)]
    have e3 : readsE l s = if l.length = 0 then 10 else if 12 < l.length then 8 else 0 := by unfold readsE; grind
    rw [e2, e1, ← e3]
    exact ret0 (vm_tup (.cons (vm_nilsl rfl) (.cons vm_p .nil)))
  rename_i hne
  rw [e1] at hne
  have hn1 : l.length ≠ 0 := by grind
  have hn2 : ¬ 12 < l.length := by grind
  have e0 : readsE l s = if (findErr readE l 0).2 ≠ 0 then (findErr readE l 0).2 else rangeE s := by unfold readsE; rw [if_neg hn1, if_neg hn2]
  have fp : ∀ (x : Rdg), firstErr [if decide (x.1 = 0 ∨ x.1 = 1) = true then 0 else 15, rangeE x.2] = readE x := by
    intro x
    unfold readE
    simp only [firstErr]
    grind
  refine loop_i hmix hT (fun k : Nat => ([(3, .ptr 0 0), (7, .own 1 2 0 k), (25, eRds l), (26, I l.length), (27, I k)], ⟨2, [(1, .row 2 k (fun i => eRg (permit (l.getD i (0, 0, 0)) s)) 37), (0, .cells [I s.1, I s.2] 37)]⟩)) (fun k => k ≤ l.length ∧ ∀ i, i < k → readE (l.getD i (0, 0, 0)) = 0) (fun k => l.length - k) 0 ⟨by omega, by omega⟩ ?_ ?_
  · refine ⟨[(1, none)], rfl, ⟨⟨_, rfl, vm_ptr rfl rfl rfl⟩, ⟨_, rfl, vm_nil rfl⟩, ⟨_, rfl, vm_p⟩, ⟨_, rfl, vm_p⟩, ⟨_, rfl, vm_p⟩, trivial⟩, ⟨⟨_, _, _, rfl⟩, ⟨_, rfl, sbm_cells vmL_p⟩, trivial⟩⟩
  rintro k ⟨hk1, hk2⟩
  have p0 : (l.getD k (0, 0, 0)).1 ≠ 1 → permit (l.getD k (0, 0, 0)) s = (l.getD k (0, 0, 0)).2 := fun h => by unfold permit; rw [if_neg h]
  have p1 : (l.getD k (0, 0, 0)).1 = 1 → permit (l.getD k (0, 0, 0)) s = (IntKind.wrap .i64 ((l.getD k (0, 0, 0)).2.1 - s.2), IntKind.wrap .i64 ((l.getD k (0, 0, 0)).2.2 - s.1)) := fun h => by unfold permit; rw [if_pos h]
  with_reducible conv => whnf
  repeat' ((first | (with_reducible refine branch_t ?_) | (with_reducible refine branch_f ?_) | (with_reducible refine branch_nt ?_) | (with_reducible refine branch_nf ?_) | (with_reducible refine branch_dec (fun _ => ?_) (fun _ => ?_)) | (with_reducible refine branch_ndec (fun _ => ?_) (fun _ => ?_)) | (with_reducible refine branch_bool (fun _ => ?_) (fun _ => ?_)) | (with_reducible refine arith_64 (by omega) ?_) | (with_reducible refine ob_i (by omega) (fun _ => ?_)) | (with_reducible refine ob_i (by unfold room; omega) (fun _ => ?_)) | ((with_reducible refine ob_k ?_ ?_); focus kernel_rfl) | (apply call_u unless_ok) | (apply call_u isPolar_ok) | (apply call_u mRangeErr_ok) | (with_reducible refine arith_w ?_) | (apply call_l (first_ok (l := [_, _]) (Nat.le_of_ble_eq_true rfl)) (.cons (vm_lit _ rfl rfl (.cons (vm_int rfl) (.cons (vm_int rfl) .nil))) .nil))) <;> (try (exfalso; omega; done)) <;> (with_reducible conv => whnf))
  all_goals dsimp only [toN] at *
  all_goals simp only [fp] at *
  · have e4 : (findErr readE l 0).2 = readE (l.getD k (0, 0, 0)) := by rw [findErr_hit readE (0, 0, 0) l k 0 hk2 (by omega) (by assumption)]
    have e5 : readsE l s = readE (l.getD k (0, 0, 0)) := by rw [e0, e4, if_pos (by assumption)]
    have e2 : perms l s = [] := by unfold perms; rw [if_pos (.inr (.inr (by rw [e4]; assumption)))]
    rw [e2, e5]
    exact ret0 (vm_tup (.cons (vm_nilsl rfl) (.cons vm_p .nil)))
  · have e6 := p1 (by assumption)
    refine ⟨k + 1, ⟨by omega, fun i hi => ?_⟩, by omega, [(1, some 6)], rfl, ⟨⟨_, rfl, vm_ptr rfl rfl rfl⟩, ⟨_, rfl, vm_own rfl rfl rfl rfl⟩, ⟨_, rfl, vm_p⟩, ⟨_, rfl, vm_p⟩, ⟨_, rfl, vm_p⟩, trivial⟩, ⟨⟨_, rfl, sbm_row rfl fun i hi => ?_⟩, ⟨_, rfl, sbm_cells vmL_p⟩, trivial⟩⟩
    · by_cases h : i = k
      · subst h; omega
      · exact hk2 i (by omega)
    · refine vm_snoc hi (fun _ _ => vm_p) ?_
      rw [e6]
      exact vm_p
  · have e6 := p0 (by assumption)
    refine ⟨k + 1, ⟨by omega, fun i hi => ?_⟩, by omega, [(1, some 6)], rfl, ⟨⟨_, rfl, vm_ptr rfl rfl rfl⟩, ⟨_, rfl, vm_own rfl rfl rfl rfl⟩, ⟨_, rfl, vm_p⟩, ⟨_, rfl, vm_p⟩, ⟨_, rfl, vm_p⟩, trivial⟩, ⟨⟨_, rfl, sbm_row rfl fun i hi => ?_⟩, ⟨_, rfl, sbm_cells vmL_p⟩, trivial⟩⟩
    · by_cases h : i = k
      · subst h; omega
      · exact hk2 i (by omega)
    · refine vm_snoc hi (fun _ _ => vm_p) ?_
      rw [e6]
      exact vm_p
  · obtain rfl : k = l.length := by omega
    have e4 : (findErr readE l 0).2 = 0 := by rw [findErr_none readE (0, 0, 0) l 0 hk2]
    have e5 : readsE l s = rangeE s := by rw [e0, e4, if_neg (by simp)]
    have e2 : perms l s = l.map fun x => permit x s := by unfold perms; rw [if_neg (by rw [e4]; omega)]
    have e7 : ∀ i, i < l.length → (perms l s).getD i (0, 0) = permit (l.getD i (0, 0, 0)) s := fun i hi => by
      rw [e2, List.getD_eq_getElem?_getD, List.getElem?_map, List.getD_eq_getElem?_getD, List.getElem?_eq_getElem hi]; rfl
    have e8 : (perms l s).length = l.length := by rw [e2]; simp
    rw [e5]
    refine ret0 (vm_tup (.cons (vm_fr rfl rfl e8.symm (Nat.le_refl _) fun i hi => ?_) (.cons vm_p .nil)))
    rw [e7 i (by omega)]
    exact vm_p
end Go.Proofs.Ytkliejppigfjiaa
