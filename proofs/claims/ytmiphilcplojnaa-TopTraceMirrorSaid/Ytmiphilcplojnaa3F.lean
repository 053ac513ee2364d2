/-
  Chapter 3: rules; the critical frequency; the laws TraceSeen and TracePaths (by contract).
  Conditions: none.
-/
import Derived.Test.Ytmiphilcplojnaa3E
import Derived.Test.Ytmiphilcplojnaa3S
import Derived.Test.Ytmiphilcplojnaa3G
namespace Go.Proofs.Ytmiphilcplojnaa
open Go.RowKit Fx
structure Rules where
  tag : Int
  miss : Int
  jump : Int
  limit : Int
  fr : Int
  to : Int
@[reducible] def eRules (r : Rules) : V := .agg [I r.tag, I r.miss, I r.jump, I r.limit, I r.fr, I r.to]
@[reducible] def eSearch (g : Gram) (r : Rules) : V := .agg [I g.first, I g.step, eCols g.cols, I r.tag, I r.miss, I r.jump, I r.limit, I r.fr, I r.to]
def rulesE (g : Gram) (r : Rules) : Int := if r.tag ≠ 0 ∧ r.tag ≠ 1 then 15 else if ¬ (0 ≤ r.miss ∧ r.miss ≤ 1000) ∨ ¬ (0 ≤ r.jump ∧ r.jump ≤ 1000) ∨ ¬ (0 ≤ r.limit ∧ r.limit ≤ 12) then 2
  else if ¬ (0 ≤ r.fr ∧ r.fr ≤ (g.cols.length : Int) - 1) ∨ ¬ (0 ≤ r.to ∧ r.to ≤ (g.cols.length : Int) - 1) then 6 else if r.to < r.fr then 9 else 0
def bothE (g : Gram) (r : Rules) : Int := if gramE g ≠ 0 then gramE g else rulesE g r
structure Rules.Val (g : Gram) (r : Rules) : Prop where
  tag : r.tag = 0 ∨ r.tag = 1
  miss : 0 ≤ r.miss ∧ r.miss ≤ 1000
  jump : 0 ≤ r.jump ∧ r.jump ≤ 1000
  limit : 0 ≤ r.limit ∧ r.limit ≤ 12
  fr : 0 ≤ r.fr
  le : r.fr ≤ r.to
  to : r.to < g.cols.length
theorem rules_val {g : Gram} {r : Rules} (h : rulesE g r = 0) : r.Val g := by
  unfold rulesE at h
  split at h
  · simp at h
  · split at h
    · simp at h
    · split at h
      · simp at h
      · split at h
        · simp at h
        · exact ⟨by omega, by omega, by omega, by omega, by omega, by omega, by omega⟩
theorem both_val {g : Gram} {r : Rules} (h : bothE g r = 0) : g.Val ∧ r.Val g := by
  unfold bothE at h
  split at h
  · contradiction
  · exact ⟨gram_val (by omega), rules_val h⟩
theorem rRulesErr_ok {g : Gram} {r : Rules} (hg : g.Ok) : FnOK Try.prog 44 [eGram g, eRules r] (I (rulesE g r)) [] := by
  obtain ⟨h1, h2⟩ := hg
  refine fn_i hmix hT Try.f44 (by kernel_rfl) rfl (by kernel_rfl) ?_
  with_reducible conv => whnf
  repeat' ((first | (with_reducible refine branch_t ?_) | (with_reducible refine branch_f ?_) | (with_reducible refine branch_nt ?_) | (with_reducible refine branch_nf ?_) | (with_reducible refine branch_dec (fun _ => ?_) (fun _ => ?_)) | (with_reducible refine branch_ndec (fun _ => ?_) (fun _ => ?_)) | (with_reducible refine branch_bool (fun _ => ?_) (fun _ => ?_)) | (with_reducible refine arith_64 (by omega) ?_) | (with_reducible refine ob_i (by omega) (fun _ => ?_)) | (with_reducible refine ob_i (by unfold room; omega) (fun _ => ?_)) | (with_reducible refine ob_i (by (try simp only [toN_eq, Int.toNat_natCast] at *); (try dsimp only [toN] at *); omega) (fun _ => ?_)) | (with_reducible refine arith_64 (by (try simp only [toN_eq, Int.toNat_natCast] at *); (try dsimp only [toN] at *); omega) ?_) | (with_reducible refine ob_k rfl ?_) | ((with_reducible refine ob_k ?_ ?_); focus kernel_rfl) | (refine yield_i hmix hT rfl hL efr eps eag ebd rfl (by kernel_rfl) ?_) | (apply call_u bWithin_ok) | (apply call_l (first_ok (l := [_, _]) (Nat.le_of_ble_eq_true rfl)) (.cons (vm_lit _ rfl rfl (.cons (vm_int rfl) (.cons (vm_int rfl) .nil))) .nil)) | (apply call_l (first_ok (l := [_, _, _]) (Nat.le_of_ble_eq_true rfl)) (.cons (vm_lit _ rfl rfl (.cons (vm_int rfl) (.cons (vm_int rfl) (.cons (vm_int rfl) .nil)))) .nil)) | (apply call_l (first_ok (l := [_, _, _, _]) (Nat.le_of_ble_eq_true rfl)) (.cons (vm_lit _ rfl rfl (.cons (vm_int rfl) (.cons (vm_int rfl) (.cons (vm_int rfl) (.cons (vm_int rfl) .nil))))) .nil))) <;> (try (exfalso; omega; done)) <;> (with_reducible conv => whnf))
  all_goals exact ret0 (vm_int (by unfold rulesE; grind))
theorem bothErr_ok {g : Gram} {r : Rules} (hg : g.Ok) : FnOK Try.prog 39 [eGram g, eRules r] (I (bothE g r)) [] := by
  refine fn_i hmix hT Try.f39 (by kernel_rfl) rfl (by kernel_rfl) ?_
  with_reducible conv => whnf
  repeat' ((first | (with_reducible refine branch_t ?_) | (with_reducible refine branch_f ?_) | (with_reducible refine branch_nt ?_) | (with_reducible refine branch_nf ?_) | (with_reducible refine branch_dec (fun _ => ?_) (fun _ => ?_)) | (with_reducible refine branch_ndec (fun _ => ?_) (fun _ => ?_)) | (with_reducible refine branch_bool (fun _ => ?_) (fun _ => ?_)) | (with_reducible refine arith_64 (by omega) ?_) | (with_reducible refine ob_i (by omega) (fun _ => ?_)) | (with_reducible refine ob_i (by unfold room; omega) (fun _ => ?_)) | (with_reducible refine ob_i (by (try simp only [toN_eq, Int.toNat_natCast] at *); (try dsimp only [toN] at *); omega) (fun _ => ?_)) | (with_reducible refine arith_64 (by (try simp only [toN_eq, Int.toNat_natCast] at *); (try dsimp only [toN] at *); omega) ?_) | (with_reducible refine ob_k rfl ?_) | ((with_reducible refine ob_k ?_ ?_); focus kernel_rfl) | (refine yield_i hmix hT rfl hL efr eps eag ebd rfl (by kernel_rfl) ?_) | (apply call_u (rGramErr_ok hg)) | (apply call_u (rRulesErr_ok hg)) | (apply call_l (first_ok (l := [_, _]) (Nat.le_of_ble_eq_true rfl)) (.cons (vm_lit _ rfl rfl (.cons (vm_int rfl) (.cons (vm_int rfl) .nil))) .nil)) | (apply call_l (first_ok (l := [_, _, _]) (Nat.le_of_ble_eq_true rfl)) (.cons (vm_lit _ rfl rfl (.cons (vm_int rfl) (.cons (vm_int rfl) (.cons (vm_int rfl) .nil)))) .nil)) | (apply call_l (first_ok (l := [_, _, _, _]) (Nat.le_of_ble_eq_true rfl)) (.cons (vm_lit _ rfl rfl (.cons (vm_int rfl) (.cons (vm_int rfl) (.cons (vm_int rfl) (.cons (vm_int rfl) .nil))))) .nil))) <;> (try (exfalso; omega; done)) <;> (with_reducible conv => whnf))
  all_goals exact ret0 (vm_int (by unfold bothE; simp [*]))
theorem isPrice_ok {n : Int} : FnOK Try.prog 126 [I n] (B (decide (0 ≤ n ∧ n ≤ 1000))) [] := by
  refine fn_i hmix hT Try.f126 (by kernel_rfl) rfl (by kernel_rfl) ?_
  with_reducible conv => whnf
  repeat' ((first | (with_reducible refine branch_t ?_) | (with_reducible refine branch_f ?_) | (with_reducible refine branch_nt ?_) | (with_reducible refine branch_nf ?_) | (with_reducible refine branch_dec (fun _ => ?_) (fun _ => ?_)) | (with_reducible refine branch_ndec (fun _ => ?_) (fun _ => ?_)) | (with_reducible refine branch_bool (fun _ => ?_) (fun _ => ?_)) | (with_reducible refine arith_64 (by omega) ?_) | (with_reducible refine ob_i (by omega) (fun _ => ?_)) | (with_reducible refine ob_i (by unfold room; omega) (fun _ => ?_)) | ((with_reducible refine ob_k ?_ ?_); focus kernel_rfl) | (apply call_u within_ok)) <;> (try (exfalso; omega; done)) <;> (with_reducible conv => whnf))
  exact ret0 (vm_bool rfl)
set_option maxRecDepth 100000 in
theorem mRulesErr_ok {g : Gram} {r : Rules} (hg : g.Ok) : FnOK Try.prog 112 [eGram g, eRules r] (I (rulesE g r)) [] := by
  refine fn_i hmix hT Try.f112 (by kernel_rfl) rfl (by kernel_rfl) ?_
  with_reducible conv => whnf
  repeat' ((first | (with_reducible refine branch_t ?_) | (with_reducible refine branch_f ?_) | (with_reducible refine branch_nt ?_) | (with_reducible refine branch_nf ?_) | (with_reducible refine branch_dec (fun _ => ?_) (fun _ => ?_)) | (with_reducible refine branch_ndec (fun _ => ?_) (fun _ => ?_)) | (with_reducible refine branch_bool (fun _ => ?_) (fun _ => ?_)) | (with_reducible refine arith_64 (by omega) ?_) | (with_reducible refine ob_i (by omega) (fun _ => ?_)) | (with_reducible refine ob_i (by unfold room; omega) (fun _ => ?_)) | (with_reducible refine ob_i (by (try simp only [] at *); (try dsimp only [toN] at *); omega) (fun _ => ?_)) | (with_reducible refine arith_64 (by (try simp only [toN_eq, Int.toNat_natCast] at *); (try dsimp only [toN] at *); omega) ?_) | (with_reducible refine ob_k rfl ?_) | ((with_reducible refine ob_k ?_ ?_); focus kernel_rfl) | (refine yield_i hmix hT rfl hL efr eps eag ebd rfl (by kernel_rfl) ?_) | (apply call_u within_ok) | (apply call_u isPolar_ok) | (apply call_u isPrice_ok) | (apply call_u unless_ok) | (apply call_u (hasColumn_ok hg)) | (apply call_l (first_ok (l := [_, _]) (Nat.le_of_ble_eq_true rfl)) (.cons (vm_lit _ rfl rfl (.cons (vm_int rfl) (.cons (vm_int rfl) .nil))) .nil)) | (apply call_l (first_ok (l := [_, _, _]) (Nat.le_of_ble_eq_true rfl)) (.cons (vm_lit _ rfl rfl (.cons (vm_int rfl) (.cons (vm_int rfl) (.cons (vm_int rfl) .nil)))) .nil)) | (apply call_l (first_ok (l := [_, _, _, _]) (Nat.le_of_ble_eq_true rfl)) (.cons (vm_lit _ rfl rfl (.cons (vm_int rfl) (.cons (vm_int rfl) (.cons (vm_int rfl) (.cons (vm_int rfl) .nil))))) .nil))) <;> (try (exfalso; omega; done)) <;> (with_reducible conv => whnf))
  all_goals exact ret0 (vm_int (by unfold rulesE; simp only [firstErr]; grind))
theorem openRules_ok {g : Gram} {r : Rules} (hg : g.Ok) : FnOK Try.prog 88 [eGram g, eRules r] (.tup [eSearch g r, I (bothE g r)]) [] := by
  have e1 : (checkGram g).2 = gramE g := rfl
  refine fn_i hmix hT Try.f88 (by kernel_rfl) rfl (by kernel_rfl) ?_
  with_reducible conv => whnf
  repeat' ((first | (with_reducible refine branch_t ?_) | (with_reducible refine branch_f ?_) | (with_reducible refine branch_nt ?_) | (with_reducible refine branch_nf ?_) | (with_reducible refine branch_dec (fun _ => ?_) (fun _ => ?_)) | (with_reducible refine branch_ndec (fun _ => ?_) (fun _ => ?_)) | (with_reducible refine branch_bool (fun _ => ?_) (fun _ => ?_)) | (with_reducible refine arith_64 (by omega) ?_) | (with_reducible refine ob_i (by omega) (fun _ => ?_)) | (with_reducible refine ob_i (by unfold room; omega) (fun _ => ?_)) | (with_reducible refine ob_i (by (try simp only [toN_eq, Int.toNat_natCast] at *); (try dsimp only [toN] at *); omega) (fun _ => ?_)) | (with_reducible refine arith_64 (by (try simp only [toN_eq, Int.toNat_natCast] at *); (try dsimp only [toN] at *); omega) ?_) | (with_reducible refine ob_k rfl ?_) | ((with_reducible refine ob_k ?_ ?_); focus kernel_rfl) | (refine yield_i hmix hT rfl hL efr eps eag ebd rfl (by kernel_rfl) ?_) | (apply call_u (open_ok hg)) | (apply call_u (mRulesErr_ok hg)) | (apply call_l (first_ok (l := [_, _]) (Nat.le_of_ble_eq_true rfl)) (.cons (vm_lit _ rfl rfl (.cons (vm_int rfl) (.cons (vm_int rfl) .nil))) .nil)) | (apply call_l (first_ok (l := [_, _, _]) (Nat.le_of_ble_eq_true rfl)) (.cons (vm_lit _ rfl rfl (.cons (vm_int rfl) (.cons (vm_int rfl) (.cons (vm_int rfl) .nil)))) .nil)) | (apply call_l (first_ok (l := [_, _, _, _]) (Nat.le_of_ble_eq_true rfl)) (.cons (vm_lit _ rfl rfl (.cons (vm_int rfl) (.cons (vm_int rfl) (.cons (vm_int rfl) (.cons (vm_int rfl) .nil))))) .nil))) <;> (try (exfalso; omega; done)) <;> (with_reducible conv => whnf))
  all_goals exact ret0 (vm_tup (.cons vm_p (.cons (vm_int (by unfold bothE; simp_all)) .nil)))
theorem checkRules_ok {g : Gram} {r : Rules} (hg : g.Ok) : FnOK Try.prog 38 [eGram g, eRules r] (I (bothE g r)) [] := by
  refine fn_i hmix hT Try.f38 (by kernel_rfl) rfl (by kernel_rfl) ?_
  with_reducible conv => whnf
  repeat' ((first | (with_reducible refine branch_t ?_) | (with_reducible refine branch_f ?_) | (with_reducible refine branch_nt ?_) | (with_reducible refine branch_nf ?_) | (with_reducible refine branch_dec (fun _ => ?_) (fun _ => ?_)) | (with_reducible refine branch_ndec (fun _ => ?_) (fun _ => ?_)) | (with_reducible refine branch_bool (fun _ => ?_) (fun _ => ?_)) | (with_reducible refine arith_64 (by omega) ?_) | (with_reducible refine ob_i (by omega) (fun _ => ?_)) | (with_reducible refine ob_i (by unfold room; omega) (fun _ => ?_)) | (with_reducible refine ob_i (by (try simp only [toN_eq, Int.toNat_natCast] at *); (try dsimp only [toN] at *); omega) (fun _ => ?_)) | (with_reducible refine arith_64 (by (try simp only [toN_eq, Int.toNat_natCast] at *); (try dsimp only [toN] at *); omega) ?_) | (with_reducible refine ob_k rfl ?_) | ((with_reducible refine ob_k ?_ ?_); focus kernel_rfl) | (refine yield_i hmix hT rfl hL efr eps eag ebd rfl (by kernel_rfl) ?_) | (apply call_u (openRules_ok hg)) | (apply call_l (first_ok (l := [_, _]) (Nat.le_of_ble_eq_true rfl)) (.cons (vm_lit _ rfl rfl (.cons (vm_int rfl) (.cons (vm_int rfl) .nil))) .nil)) | (apply call_l (first_ok (l := [_, _, _]) (Nat.le_of_ble_eq_true rfl)) (.cons (vm_lit _ rfl rfl (.cons (vm_int rfl) (.cons (vm_int rfl) (.cons (vm_int rfl) .nil)))) .nil)) | (apply call_l (first_ok (l := [_, _, _, _]) (Nat.le_of_ble_eq_true rfl)) (.cons (vm_lit _ rfl rfl (.cons (vm_int rfl) (.cons (vm_int rfl) (.cons (vm_int rfl) (.cons (vm_int rfl) .nil))))) .nil))) <;> (try (exfalso; omega; done)) <;> (with_reducible conv => whnf))
  exact ret0 vm_p
/-! ### The critical frequency -/
def maxK (f : Nat → Int) : Nat → Int
  | 0 => f 0
  | k + 1 => max (maxK f k) (f (k + 1))
theorem max_ok {l : List Int} (h0 : 0 < l.length) (h1 : l.length ≤ 9223372036854775807) : FnOK Try.prog 75 [eInts l] (I (maxK (fun i => l.getD i 0) (l.length - 1))) [] := by
  refine fn_i hmix hT Try.f75 (by kernel_rfl) rfl (by kernel_rfl) ?_
  with_reducible conv => whnf
  repeat' ((first | (with_reducible refine branch_t ?_) | (with_reducible refine branch_f ?_) | (with_reducible refine branch_nt ?_) | (with_reducible refine branch_nf ?_) | (with_reducible refine branch_dec (fun _ => ?_) (fun _ => ?_)) | (with_reducible refine branch_ndec (fun _ => ?_) (fun _ => ?_)) | (with_reducible refine branch_bool (fun _ => ?_) (fun _ => ?_)) | (with_reducible refine arith_64 (by omega) ?_) | (with_reducible refine ob_i (by omega) (fun _ => ?_)) | (with_reducible refine ob_i (by unfold room; omega) (fun _ => ?_)) | (with_reducible refine ob_i (by (try simp only [toN_eq, Int.toNat_natCast] at *); (try dsimp only [toN] at *); omega) (fun _ => ?_)) | (with_reducible refine arith_64 (by (try simp only [toN_eq, Int.toNat_natCast] at *); (try dsimp only [toN] at *); omega) ?_) | (with_reducible refine ob_k rfl ?_) | ((with_reducible refine ob_k ?_ ?_); focus kernel_rfl) | (refine yield_i hmix hT rfl hL efr eps eag ebd rfl (by kernel_rfl) ?_)  | (apply call_l (first_ok (l := [_, _]) (Nat.le_of_ble_eq_true rfl)) (.cons (vm_lit _ rfl rfl (.cons (vm_int rfl) (.cons (vm_int rfl) .nil))) .nil)) | (apply call_l (first_ok (l := [_, _, _]) (Nat.le_of_ble_eq_true rfl)) (.cons (vm_lit _ rfl rfl (.cons (vm_int rfl) (.cons (vm_int rfl) (.cons (vm_int rfl) .nil)))) .nil)) | (apply call_l (first_ok (l := [_, _, _, _]) (Nat.le_of_ble_eq_true rfl)) (.cons (vm_lit _ rfl rfl (.cons (vm_int rfl) (.cons (vm_int rfl) (.cons (vm_int rfl) (.cons (vm_int rfl) .nil))))) .nil))) <;> (try (exfalso; omega; done)) <;> (with_reducible conv => whnf))
  refine loop_i hmix hT (fun k : Nat => ([(0, eInts l), (3, I (maxK (fun i => l.getD i 0) k)), (4, I (k + 1 : Nat))], ⟨0, []⟩)) (fun k => k + 1 ≤ l.length) (fun k => l.length - k) 0 (by omega) ?_ ?_
  · refine ⟨[], rfl, ?_, ?_⟩ <;> repeat' (first | exact trivial | exact vm_p | exact vm_ptr rfl rfl rfl | exact vm_yld rfl rfl | exact vm_own rfl rfl rfl rfl | exact vm_own rfl rfl (by omega) (by omega) | exact vm_int (by omega) | exact vm_nil rfl | exact sbm_cells vmL_p | exact sbm_row rfl (fun _ _ => vm_p) | refine ⟨⟨_, rfl, ?_⟩, ?_⟩ | refine ⟨⟨_, _, _, rfl⟩, ?_⟩ | (refine sbm_loop ?_; rw [efr]) | refine sbm_cells ?_ | refine vmL.cons ?_ ?_ | exact vmL.nil | refine vm_own rfl rfl rfl ?_)
  intro k hk
  with_reducible conv => whnf
  repeat' ((first | (with_reducible refine branch_t ?_) | (with_reducible refine branch_f ?_) | (with_reducible refine branch_nt ?_) | (with_reducible refine branch_nf ?_) | (with_reducible refine branch_dec (fun _ => ?_) (fun _ => ?_)) | (with_reducible refine branch_ndec (fun _ => ?_) (fun _ => ?_)) | (with_reducible refine branch_bool (fun _ => ?_) (fun _ => ?_)) | (with_reducible refine arith_64 (by omega) ?_) | (with_reducible refine ob_i (by omega) (fun _ => ?_)) | (with_reducible refine ob_i (by unfold room; omega) (fun _ => ?_)) | (with_reducible refine ob_i (by (try simp only [toN_eq, Int.toNat_natCast] at *); (try dsimp only [toN] at *); omega) (fun _ => ?_)) | (with_reducible refine arith_64 (by (try simp only [toN_eq, Int.toNat_natCast] at *); (try dsimp only [toN] at *); omega) ?_) | (with_reducible refine ob_k rfl ?_) | ((with_reducible refine ob_k ?_ ?_); focus kernel_rfl) | (refine yield_i hmix hT rfl hL efr eps eag ebd rfl (by kernel_rfl) ?_)  | (apply call_l (first_ok (l := [_, _]) (Nat.le_of_ble_eq_true rfl)) (.cons (vm_lit _ rfl rfl (.cons (vm_int rfl) (.cons (vm_int rfl) .nil))) .nil)) | (apply call_l (first_ok (l := [_, _, _]) (Nat.le_of_ble_eq_true rfl)) (.cons (vm_lit _ rfl rfl (.cons (vm_int rfl) (.cons (vm_int rfl) (.cons (vm_int rfl) .nil)))) .nil)) | (apply call_l (first_ok (l := [_, _, _, _]) (Nat.le_of_ble_eq_true rfl)) (.cons (vm_lit _ rfl rfl (.cons (vm_int rfl) (.cons (vm_int rfl) (.cons (vm_int rfl) (.cons (vm_int rfl) .nil))))) .nil))) <;> (try (exfalso; omega; done)) <;> (with_reducible conv => whnf))
  · ((try simp only [] at *); (try dsimp only [toN] at *))
    refine ⟨k + 1, by omega, by omega, ?_⟩
    refine ⟨[], rfl, ?_, ?_⟩ <;> repeat' (first | exact trivial | exact vm_p | exact vm_ptr rfl rfl rfl | exact vm_yld rfl rfl | exact vm_own rfl rfl rfl rfl | exact vm_own rfl rfl (by omega) (by omega) | exact vm_int (by omega) | exact vm_nil rfl | exact sbm_cells vmL_p | exact sbm_row rfl (fun _ _ => vm_p) | refine ⟨⟨_, rfl, ?_⟩, ?_⟩ | refine ⟨⟨_, _, _, rfl⟩, ?_⟩ | (refine sbm_loop ?_; rw [efr]) | refine sbm_cells ?_ | refine vmL.cons ?_ ?_ | exact vmL.nil | refine vm_own rfl rfl rfl ?_)
  · obtain rfl : k = l.length - 1 := by omega
    exact ret0 vm_p
theorem seenK_mem (g : Gram) (p : Path) (th : Int) : ∀ k, ∀ x ∈ seenK g p th k, p.fr ≤ x ∧ x < p.fr + k
  | 0, x, h => by simp [seenK] at h
  | k + 1, x, h => by
    have ih := seenK_mem g p th k
    simp only [seenK] at h
    split at h
    · rcases List.mem_append.1 h with h | h
      · have := ih x h; omega
      · simp at h; omega
    · have := ih x h; omega
theorem seenK_pw (g : Gram) (p : Path) (th : Int) : ∀ k, (seenK g p th k).Pairwise (· < ·)
  | 0 => List.Pairwise.nil
  | k + 1 => by
    have ih := seenK_pw g p th k
    simp only [seenK]
    split
    · rw [List.pairwise_append]
      exact ⟨ih, by simp, fun a ha b hb => by have := seenK_mem g p th k a ha; simp at hb; omega⟩
    · exact ih
theorem pw_le {l : List Int} (h : l.Pairwise (· < ·)) {i j : Nat} (hij : i ≤ j) (hj : j < l.length) : l.getD i 0 ≤ l.getD j 0 := by
  rcases Nat.lt_or_eq_of_le hij with hlt | rfl
  · have := (List.pairwise_iff_getElem.1 h) i j (by omega) hj hlt
    simp [List.getD_eq_getElem?_getD, hj, (by omega : i < l.length)]
    omega
  · exact Int.le_refl _
theorem maxK_mono {f : Nat → Int} : ∀ n, (∀ i j, i ≤ j → j ≤ n → f i ≤ f j) → maxK f n = f n
  | 0, _ => rfl
  | n + 1, h => by
    simp only [maxK]
    rw [maxK_mono n fun i j h1 h2 => h i j h1 (by omega)]
    have := h n (n + 1) (by omega) (Nat.le_refl _)
    omega
theorem getD_mem {l : List Int} {i : Nat} (h : i < l.length) : l.getD i 0 ∈ l := by
  rw [List.getD_eq_getElem?_getD, List.getElem?_eq_getElem h]; exact List.getElem_mem h
def lastL (l : List Int) : Int := l.getD (l.length - 1) 0
def critK (g : Gram) (l : List Int) : Rg × Int := if l.length = 0 then ((0, 0), 12) else if lastL l = (g.cols.length : Int) - 1 then ((0, 0), 21) else ((g.first + lastL l * g.step, g.first + (lastL l + 1) * g.step), 0)
theorem rCriticalOf_ok {g : Gram} {p : Path} {th : Int} (hv : g.Val) (pv : p.Val g) : FnOK Try.prog 22 [eGram g, ePath p, I th] (.tup [eRg (critK g (seenK g p th p.rows.length)).1, I (critK g (seenK g p th p.rows.length)).2]) [] := by
  have v1 := hv.c0
  have v2 := hv.c1
  have v4 := hv.f1
  have v5 := hv.s1
  have p1 := pv.fr
  have p3 := pv.n1
  have ln := seenK_len g p th p.rows.length
  have hm := fun h => seenK_mem g p th p.rows.length (lastL (seenK g p th p.rows.length)) (getD_mem h)
  have rs := rSeenIn_ok (th := th) hv pv
  have ht : ((seenK g p th p.rows.length).length : Int) - 1 = ((seenK g p th p.rows.length).length - 1 : Nat) ∨ (seenK g p th p.rows.length).length = 0 := by omega
  generalize seenK g p th p.rows.length = X at *
  have hm2 : 0 < X.length → p.fr ≤ X.getD ((X.length : Int) - 1).toNat 0 ∧ X.getD ((X.length : Int) - 1).toNat 0 < p.fr + p.rows.length := fun h => by
    have := hm (by omega)
    unfold lastL at this
    rwa [show ((X.length : Int) - 1).toNat = X.length - 1 by omega]
  have hl : 0 < X.length → lastL X = X.getD ((X.length : Int) - 1).toNat 0 := fun h => by
    unfold lastL
    rw [show ((X.length : Int) - 1).toNat = X.length - 1 by omega]
  refine fn_i hmix hT Try.f22 (by kernel_rfl) rfl (by kernel_rfl) ?_
  with_reducible conv => whnf
  repeat' ((first | (with_reducible refine branch_t ?_) | (with_reducible refine branch_f ?_) | (with_reducible refine branch_nt ?_) | (with_reducible refine branch_nf ?_) | (with_reducible refine branch_dec (fun _ => ?_) (fun _ => ?_)) | (with_reducible refine branch_ndec (fun _ => ?_) (fun _ => ?_)) | (with_reducible refine branch_bool (fun _ => ?_) (fun _ => ?_)) | (with_reducible refine arith_64 (by omega) ?_) | (with_reducible refine ob_i (by omega) (fun _ => ?_)) | (with_reducible refine ob_i (by unfold room; omega) (fun _ => ?_)) | (with_reducible refine ob_i (by (try simp only [toN_eq] at *); (try dsimp only [toN] at *); omega) (fun _ => ?_)) | (with_reducible refine arith_64 (by (try simp only [toN_eq] at *); (try dsimp only [toN] at *); omega) ?_) | (with_reducible refine ob_k rfl ?_) | ((with_reducible refine ob_k ?_ ?_); focus kernel_rfl) | (refine yield_i hmix hT rfl hL efr eps eag ebd rfl (by kernel_rfl) ?_) | (apply call_u rs) | (apply call_u (refFrequency_ok (g := g) (by omega) (by (try simp only [toN_eq] at *); omega) (by omega))) | (apply call_l (first_ok (l := [_, _]) (Nat.le_of_ble_eq_true rfl)) (.cons (vm_lit _ rfl rfl (.cons (vm_int rfl) (.cons (vm_int rfl) .nil))) .nil)) | (apply call_l (first_ok (l := [_, _, _]) (Nat.le_of_ble_eq_true rfl)) (.cons (vm_lit _ rfl rfl (.cons (vm_int rfl) (.cons (vm_int rfl) (.cons (vm_int rfl) .nil)))) .nil)) | (apply call_l (first_ok (l := [_, _, _, _]) (Nat.le_of_ble_eq_true rfl)) (.cons (vm_lit _ rfl rfl (.cons (vm_int rfl) (.cons (vm_int rfl) (.cons (vm_int rfl) (.cons (vm_int rfl) .nil))))) .nil))) <;> (try (exfalso; omega; done)) <;> (with_reducible conv => whnf))
  all_goals ((try simp only [toN_eq] at *); (try dsimp only [toN] at *))
  · unfold critK
    rw [if_pos (by omega)]
    exact ret0 (vm_tup vmL_p)
  · unfold critK
    rw [if_neg (by omega), if_pos (by rw [hl (by omega)]; assumption)]
    exact ret0 (vm_tup vmL_p)
  · unfold critK
    rw [if_neg (by omega), if_neg (by rw [hl (by omega)]; assumption), hl (by omega)]
    exact ret0 (vm_tup vmL_p)
def critE (g : Gram) (p : Path) (th : Int) : Rg × Int := if seenE g p th ≠ 0 then ((0, 0), seenE g p th) else critK g (seenK g p th p.rows.length)
theorem pCriticalOf_ok {g : Gram} {p : Path} {th : Int} (hg : g.Ok) (hp : p.rows.length ≤ 9223372036854775807) : FnOK Try.prog 19 [eGram g, ePath p, I th] (.tup [eRg (critE g p th).1, I (critE g p th).2]) [] := by
  have ov := @openPath_val g p
  by_cases hz : seenE g p th = 0
  · obtain ⟨hv, pv⟩ := ov (by unfold seenE at hz; grind)
    have v1 := hv.c0
    have v2 := hv.c1
    have v4 := hv.f1
    have v5 := hv.s1
    have p1 := pv.fr
    have p3 := pv.n1
    have ps := pSeenIn_ok (th := th) hg hp
    have e1 : critE g p th = critK g (seenK g p th p.rows.length) := by unfold critE; rw [if_neg (by omega)]
    have e2 : seenL g p th = seenK g p th p.rows.length := by unfold seenL; rw [if_neg (by omega)]
    rw [hz, e2] at ps
    rw [e1]
    have ln := seenK_len g p th p.rows.length
    have hm := fun h => seenK_mem g p th p.rows.length (lastL (seenK g p th p.rows.length)) (getD_mem h)
    have hx : 0 < (seenK g p th p.rows.length).length → maxK (fun i => (seenK g p th p.rows.length).getD i 0) ((seenK g p th p.rows.length).length - 1) = lastL (seenK g p th p.rows.length) := fun h =>
      maxK_mono _ fun i j h1 h2 => pw_le (seenK_pw g p th p.rows.length) h1 (by omega)
    generalize seenK g p th p.rows.length = X at *
    have hm2 : 0 < X.length → p.fr ≤ maxK (fun i => X.getD i 0) (X.length - 1) ∧ maxK (fun i => X.getD i 0) (X.length - 1) < p.fr + p.rows.length := fun h => by
      rw [hx h]
      exact hm (by omega)
    by_cases hX : X.length = 0
    · have e3 : firstErr [0, if decide (0 < (X.length : Int)) = true then 0 else 12] = 12 := by
        simp only [firstErr]
        grind
      have e4 : critK g X = ((0, 0), 12) := by unfold critK; rw [if_pos hX]
      rw [e4]
      refine fn_i hmix hT Try.f19 (by kernel_rfl) rfl (by kernel_rfl) ?_
      with_reducible conv => whnf
      repeat' ((first | (with_reducible refine branch_t ?_) | (with_reducible refine branch_f ?_) | (with_reducible refine branch_nt ?_) | (with_reducible refine branch_nf ?_) | (with_reducible refine branch_dec (fun _ => ?_) (fun _ => ?_)) | (with_reducible refine branch_ndec (fun _ => ?_) (fun _ => ?_)) | (with_reducible refine branch_bool (fun _ => ?_) (fun _ => ?_)) | (with_reducible refine arith_64 (by omega) ?_) | (with_reducible refine ob_i (by omega) (fun _ => ?_)) | (with_reducible refine ob_i (by unfold room; omega) (fun _ => ?_)) | (with_reducible refine ob_i (by (try simp only [toN_eq, Int.toNat_natCast] at *); (try dsimp only [toN] at *); omega) (fun _ => ?_)) | (with_reducible refine arith_64 (by (try simp only [toN_eq, Int.toNat_natCast] at *); (try dsimp only [toN] at *); omega) ?_) | (with_reducible refine ob_k rfl ?_) | ((with_reducible refine ob_k ?_ ?_); focus kernel_rfl) | (refine yield_i hmix hT rfl hL efr eps eag ebd rfl (by kernel_rfl) ?_) | (apply call_u ps) | (apply call_u unless_ok) | (apply call_l (first_ok (l := [_, _]) (Nat.le_of_ble_eq_true rfl)) (.cons (vm_lit _ rfl rfl (.cons (vm_int rfl) (.cons (vm_int rfl) .nil))) .nil)) | (apply call_l (first_ok (l := [_, _, _]) (Nat.le_of_ble_eq_true rfl)) (.cons (vm_lit _ rfl rfl (.cons (vm_int rfl) (.cons (vm_int rfl) (.cons (vm_int rfl) .nil)))) .nil)) | (apply call_l (first_ok (l := [_, _, _, _]) (Nat.le_of_ble_eq_true rfl)) (.cons (vm_lit _ rfl rfl (.cons (vm_int rfl) (.cons (vm_int rfl) (.cons (vm_int rfl) (.cons (vm_int rfl) .nil))))) .nil))) <;> (try (exfalso; omega; done)) <;> (with_reducible conv => whnf))
      rw [e3]
      exact ret0 (vm_tup vmL_p)
    · have e3 : firstErr [0, if decide (0 < (X.length : Int)) = true then 0 else 12] = 0 := by
        simp only [firstErr]
        grind
      have hx := hx (by omega)
      refine fn_i hmix hT Try.f19 (by kernel_rfl) rfl (by kernel_rfl) ?_
      with_reducible conv => whnf
      repeat' ((first | (with_reducible refine branch_t ?_) | (with_reducible refine branch_f ?_) | (with_reducible refine branch_nt ?_) | (with_reducible refine branch_nf ?_) | (with_reducible refine branch_dec (fun _ => ?_) (fun _ => ?_)) | (with_reducible refine branch_ndec (fun _ => ?_) (fun _ => ?_)) | (with_reducible refine branch_bool (fun _ => ?_) (fun _ => ?_)) | (with_reducible refine arith_64 (by omega) ?_) | (with_reducible refine ob_i (by omega) (fun _ => ?_)) | (with_reducible refine ob_i (by unfold room; omega) (fun _ => ?_)) | (with_reducible refine ob_i (by (try simp only [] at *); (try dsimp only [toN] at *); omega) (fun _ => ?_)) | (with_reducible refine arith_64 (by (try simp only [toN_eq, Int.toNat_natCast] at *); (try dsimp only [toN] at *); omega) ?_) | (with_reducible refine ob_k rfl ?_) | ((with_reducible refine ob_k ?_ ?_); focus kernel_rfl) | (refine yield_i hmix hT rfl hL efr eps eag ebd rfl (by kernel_rfl) ?_) | (apply call_u ps) | (apply call_u unless_ok) | (apply call_u (max_ok (l := X) (by omega) (by omega))) | (apply call_u (frequency_ok (g := g) (by omega) (by omega) (by omega))) | (apply call_l (first_ok (l := [_, _]) (Nat.le_of_ble_eq_true rfl)) (.cons (vm_lit _ rfl rfl (.cons (vm_int rfl) (.cons (vm_int rfl) .nil))) .nil)) | (apply call_l (first_ok (l := [_, _, _]) (Nat.le_of_ble_eq_true rfl)) (.cons (vm_lit _ rfl rfl (.cons (vm_int rfl) (.cons (vm_int rfl) (.cons (vm_int rfl) .nil)))) .nil)) | (apply call_l (first_ok (l := [_, _, _, _]) (Nat.le_of_ble_eq_true rfl)) (.cons (vm_lit _ rfl rfl (.cons (vm_int rfl) (.cons (vm_int rfl) (.cons (vm_int rfl) (.cons (vm_int rfl) .nil))))) .nil))) <;> (try (exfalso; omega; done)) <;> (with_reducible conv => whnf))
      · have e4 : critK g X = ((0, 0), 21) := by unfold critK; rw [if_neg hX, if_pos (by omega)]
        rw [e4]
        exact ret0 (vm_tup vmL_p)
      · have e4 : critK g X = ((g.first + lastL X * g.step, g.first + (lastL X + 1) * g.step), 0) := by unfold critK; rw [if_neg hX, if_neg (by omega)]
        rw [e4, hx]
        exact ret0 (vm_tup vmL_p)
  · have ps := pSeenIn_ok (th := th) hg hp
    have e1 : critE g p th = ((0, 0), seenE g p th) := by unfold critE; rw [if_pos hz]
    have e2 : seenL g p th = [] := by unfold seenL; rw [if_pos hz]
    rw [e2] at ps
    rw [e1]
    have e3 : firstErr [seenE g p th, if decide (0 < (([] : List Int).length : Int)) = true then 0 else 12] = seenE g p th := by
      simp only [firstErr]
      rw [if_pos hz]
    refine fn_i hmix hT Try.f19 (by kernel_rfl) rfl (by kernel_rfl) ?_
    with_reducible conv => whnf
    repeat' ((first | (with_reducible refine branch_t ?_) | (with_reducible refine branch_f ?_) | (with_reducible refine branch_nt ?_) | (with_reducible refine branch_nf ?_) | (with_reducible refine branch_dec (fun _ => ?_) (fun _ => ?_)) | (with_reducible refine branch_ndec (fun _ => ?_) (fun _ => ?_)) | (with_reducible refine branch_bool (fun _ => ?_) (fun _ => ?_)) | (with_reducible refine arith_64 (by omega) ?_) | (with_reducible refine ob_i (by omega) (fun _ => ?_)) | (with_reducible refine ob_i (by unfold room; omega) (fun _ => ?_)) | (with_reducible refine ob_i (by (try simp only [toN_eq, Int.toNat_natCast] at *); (try dsimp only [toN] at *); omega) (fun _ => ?_)) | (with_reducible refine arith_64 (by (try simp only [toN_eq, Int.toNat_natCast] at *); (try dsimp only [toN] at *); omega) ?_) | (with_reducible refine ob_k rfl ?_) | ((with_reducible refine ob_k ?_ ?_); focus kernel_rfl) | (refine yield_i hmix hT rfl hL efr eps eag ebd rfl (by kernel_rfl) ?_) | (apply call_u ps) | (apply call_u unless_ok) | (apply call_l (first_ok (l := [_, _]) (Nat.le_of_ble_eq_true rfl)) (.cons (vm_lit _ rfl rfl (.cons (vm_int rfl) (.cons (vm_int rfl) .nil))) .nil)) | (apply call_l (first_ok (l := [_, _, _]) (Nat.le_of_ble_eq_true rfl)) (.cons (vm_lit _ rfl rfl (.cons (vm_int rfl) (.cons (vm_int rfl) (.cons (vm_int rfl) .nil)))) .nil)) | (apply call_l (first_ok (l := [_, _, _, _]) (Nat.le_of_ble_eq_true rfl)) (.cons (vm_lit _ rfl rfl (.cons (vm_int rfl) (.cons (vm_int rfl) (.cons (vm_int rfl) (.cons (vm_int rfl) .nil))))) .nil))) <;> (try (exfalso; omega; done)) <;> (with_reducible conv => whnf))
    rw [e3]
    exact ret0 (vm_tup vmL_p)
/-! ### The laws -/
theorem few_facts {g : Gram} (h : fewB g = true) : g.cols.length ≤ 100 ∧ ∀ i, (g.cols.getD i []).length ≤ 100 := by
  unfold fewB at h
  simp only [decide_eq_true_eq] at h
  refine ⟨by omega, fun i => ?_⟩
  by_cases hi : i < g.cols.length
  · have := h.2 i hi; omega
  · rw [List.getD_eq_getElem?_getD, List.getElem?_eq_none (by omega)]; simp
theorem crit_facts {g : Gram} {p : Path} {th : Int} (hv : g.Val) (h : (critK g (seenK g p th p.rows.length)).2 = 0) : ∀ i, i < (seenK g p th p.rows.length).length →
    g.first + (seenK g p th p.rows.length).getD i 0 * g.step ≤ (critK g (seenK g p th p.rows.length)).1.1 ∧ (critK g (seenK g p th p.rows.length)).1.1 < (critK g (seenK g p th p.rows.length)).1.2 := by
  intro i hi
  have hle := pw_le (seenK_pw g p th p.rows.length) (i := i) (j := (seenK g p th p.rows.length).length - 1) (by omega) (by omega)
  have e : critK g (seenK g p th p.rows.length) = ((g.first + lastL (seenK g p th p.rows.length) * g.step, g.first + (lastL (seenK g p th p.rows.length) + 1) * g.step), 0) := by
    unfold critK at h ⊢
    split at h
    · simp at h
    · rename_i h1
      rw [if_neg h1]
      split at h
      · simp at h
      · rename_i h2
        rw [if_neg h2]
  rw [e]
  have hs := hv.s1
  have := Int.mul_le_mul_of_nonneg_right hle (by omega : 0 ≤ g.step)
  unfold lastL
  refine ⟨by show _ ≤ g.first + _ * g.step; omega, ?_⟩
  show g.first + _ * g.step < g.first + (_ + 1) * g.step
  rw [Int.add_mul]
  omega
set_option maxRecDepth 100000 in
theorem traceSeen_ok {g : Gram} {p : Path} {th : Int} (hg : g.Ok) (hp : p.rows.length ≤ 9223372036854775807) (hf : -9223372036854775808 ≤ p.fr ∧ p.fr ≤ 9223372036854775807) : FnOK Try.prog 3 [eGram g, ePath p, I th] (B true) [] := by
  have F := few_ok hg
  have S := short_ok (p := p)
  by_cases h1 : fewB g = true
  case neg =>
    rw [Bool.not_eq_true] at h1
    rw [h1] at F
    refine fn_i hmix hT Try.f3 (by kernel_rfl) rfl (by kernel_rfl) ?_
    with_reducible conv => whnf
    repeat' ((first | (with_reducible refine branch_t ?_) | (with_reducible refine branch_f ?_) | (with_reducible refine branch_nt ?_) | (with_reducible refine branch_nf ?_) | (with_reducible refine branch_dec (fun _ => ?_) (fun _ => ?_)) | (with_reducible refine branch_ndec (fun _ => ?_) (fun _ => ?_)) | (with_reducible refine branch_bool (fun _ => ?_) (fun _ => ?_)) | (with_reducible refine arith_64 (by omega) ?_) | (with_reducible refine ob_i (by omega) (fun _ => ?_)) | (with_reducible refine ob_i (by unfold room; omega) (fun _ => ?_)) | (with_reducible refine ob_i (by (try simp only [toN_eq, Int.toNat_natCast] at *); (try dsimp only [toN] at *); omega) (fun _ => ?_)) | (with_reducible refine arith_64 (by (try simp only [toN_eq, Int.toNat_natCast] at *); (try dsimp only [toN] at *); omega) ?_) | (with_reducible refine ob_k rfl ?_) | ((with_reducible refine ob_k ?_ ?_); focus kernel_rfl) | (refine yield_i hmix hT rfl hL efr eps eag ebd rfl (by kernel_rfl) ?_) | (apply call_u awake_fn) | (apply call_u F) | (apply call_l (first_ok (l := [_, _]) (Nat.le_of_ble_eq_true rfl)) (.cons (vm_lit _ rfl rfl (.cons (vm_int rfl) (.cons (vm_int rfl) .nil))) .nil)) | (apply call_l (first_ok (l := [_, _, _]) (Nat.le_of_ble_eq_true rfl)) (.cons (vm_lit _ rfl rfl (.cons (vm_int rfl) (.cons (vm_int rfl) (.cons (vm_int rfl) .nil)))) .nil)) | (apply call_l (first_ok (l := [_, _, _, _]) (Nat.le_of_ble_eq_true rfl)) (.cons (vm_lit _ rfl rfl (.cons (vm_int rfl) (.cons (vm_int rfl) (.cons (vm_int rfl) (.cons (vm_int rfl) .nil))))) .nil))) <;> (try (exfalso; omega; done)) <;> (with_reducible conv => whnf))
    exact ret0 vm_p
  rw [h1] at F
  by_cases h2 : p.rows.length ≤ 12
  case neg =>
    rw [decide_eq_false h2] at S
    refine fn_i hmix hT Try.f3 (by kernel_rfl) rfl (by kernel_rfl) ?_
    with_reducible conv => whnf
    repeat' ((first | (with_reducible refine branch_t ?_) | (with_reducible refine branch_f ?_) | (with_reducible refine branch_nt ?_) | (with_reducible refine branch_nf ?_) | (with_reducible refine branch_dec (fun _ => ?_) (fun _ => ?_)) | (with_reducible refine branch_ndec (fun _ => ?_) (fun _ => ?_)) | (with_reducible refine branch_bool (fun _ => ?_) (fun _ => ?_)) | (with_reducible refine arith_64 (by omega) ?_) | (with_reducible refine ob_i (by omega) (fun _ => ?_)) | (with_reducible refine ob_i (by unfold room; omega) (fun _ => ?_)) | (with_reducible refine ob_i (by (try simp only [toN_eq, Int.toNat_natCast] at *); (try dsimp only [toN] at *); omega) (fun _ => ?_)) | (with_reducible refine arith_64 (by (try simp only [toN_eq, Int.toNat_natCast] at *); (try dsimp only [toN] at *); omega) ?_) | (with_reducible refine ob_k rfl ?_) | ((with_reducible refine ob_k ?_ ?_); focus kernel_rfl) | (refine yield_i hmix hT rfl hL efr eps eag ebd rfl (by kernel_rfl) ?_) | (apply call_u awake_fn) | (apply call_u F) | (apply call_u S) | (apply call_l (first_ok (l := [_, _]) (Nat.le_of_ble_eq_true rfl)) (.cons (vm_lit _ rfl rfl (.cons (vm_int rfl) (.cons (vm_int rfl) .nil))) .nil)) | (apply call_l (first_ok (l := [_, _, _]) (Nat.le_of_ble_eq_true rfl)) (.cons (vm_lit _ rfl rfl (.cons (vm_int rfl) (.cons (vm_int rfl) (.cons (vm_int rfl) .nil)))) .nil)) | (apply call_l (first_ok (l := [_, _, _, _]) (Nat.le_of_ble_eq_true rfl)) (.cons (vm_lit _ rfl rfl (.cons (vm_int rfl) (.cons (vm_int rfl) (.cons (vm_int rfl) (.cons (vm_int rfl) .nil))))) .nil))) <;> (try (exfalso; omega; done)) <;> (with_reducible conv => whnf))
    exact ret0 vm_p
  rw [decide_eq_true h2] at S
  obtain ⟨f1, f2⟩ := few_facts h1
  have P := pSeenIn_ok (th := th) hg hp
  have C := pCriticalOf_ok (th := th) hg hp
  have E := lPathErr_ok hg hp hf
  by_cases hz : seenE g p th = 0
  · have hz' := hz
    unfold seenE at hz'
    obtain ⟨hv, pv⟩ := openPath_val (g := g) (p := p) (by grind)
    have o0 : openPathE g p = 0 := by grind
    have t0 : 0 ≤ th ∧ th ≤ 255 := by grind
    have T := rThresholdErr_ok (n := th)
    rw [if_neg (fun h => h t0)] at T
    have R := rSeenIn_ok (th := th) hv pv
    have RC := rCriticalOf_ok (th := th) hv pv
    have cf := @crit_facts g p th hv
    have sm := fun i h => seenK_mem g p th p.rows.length ((seenK g p th p.rows.length).getD i 0) (getD_mem (i := i) h)
    have ln := seenK_len g p th p.rows.length
    rw [o0] at E
    rw [hz, show seenL g p th = seenK g p th p.rows.length by unfold seenL; rw [if_neg (by omega)]] at P
    rw [show critE g p th = critK g (seenK g p th p.rows.length) by unfold critE; rw [if_neg (by omega)]] at C
    generalize seenK g p th p.rows.length = X at *
    have v2 := hv.c1
    have v4 := hv.f1
    have v5 := hv.s1
    have p1 := pv.fr
    have p3 := pv.n1
    have IT := ints_ok (a := X) (b := X) (by omega) (by omega)
    rw [decide_eq_true rfl] at IT
    refine fn_i hmix hT Try.f3 (by kernel_rfl) rfl (by kernel_rfl) ?_
    with_reducible conv => whnf
    repeat' ((first | (with_reducible refine branch_t ?_) | (with_reducible refine branch_f ?_) | (with_reducible refine branch_nt ?_) | (with_reducible refine branch_nf ?_) | (with_reducible refine branch_dec (fun _ => ?_) (fun _ => ?_)) | (with_reducible refine branch_ndec (fun _ => ?_) (fun _ => ?_)) | (with_reducible refine branch_bool (fun _ => ?_) (fun _ => ?_)) | (with_reducible refine arith_64 (by omega) ?_) | (with_reducible refine ob_i (by omega) (fun _ => ?_)) | (with_reducible refine ob_i (by unfold room; omega) (fun _ => ?_)) | (with_reducible refine ob_i (by (try simp only [] at *); (try dsimp only [toN] at *); omega) (fun _ => ?_)) | (with_reducible refine arith_64 (by (try simp only [] at *); (try dsimp only [toN] at *); omega) ?_) | (with_reducible refine ob_k rfl ?_) | ((with_reducible refine ob_k ?_ ?_); focus kernel_rfl) | (refine yield_i hmix hT rfl hL efr eps eag ebd rfl (by kernel_rfl) ?_) | (apply call_u awake_fn) | (apply call_u F) | (apply call_u S) | (apply call_u (copy_ok f1 f2)) | (apply call_u (copyPath_ok (by omega))) | (apply call_u P) | (apply call_u C) | (apply call_u E) | (apply call_u T) | (apply call_u R) | (apply call_u RC) | (apply call_u IT) | (refine gen_eq2 rfl rfl rfl rfl (by kernel_rfl) (by kernel_rfl) (fun _ => ?_) (fun _ => ?_)) | (refine gen_ne2 rfl rfl rfl rfl (by kernel_rfl) (by kernel_rfl) (fun _ => ?_) (fun _ => ?_)) | (apply call_l (first_ok (l := [_, _]) (Nat.le_of_ble_eq_true rfl)) (.cons (vm_lit _ rfl rfl (.cons (vm_int rfl) (.cons (vm_int rfl) .nil))) .nil)) | (apply call_l (first_ok (l := [_, _, _]) (Nat.le_of_ble_eq_true rfl)) (.cons (vm_lit _ rfl rfl (.cons (vm_int rfl) (.cons (vm_int rfl) (.cons (vm_int rfl) .nil)))) .nil)) | (apply call_l (first_ok (l := [_, _, _, _]) (Nat.le_of_ble_eq_true rfl)) (.cons (vm_lit _ rfl rfl (.cons (vm_int rfl) (.cons (vm_int rfl) (.cons (vm_int rfl) (.cons (vm_int rfl) .nil))))) .nil))) <;> (try (exfalso; omega; done)) <;> (with_reducible conv => whnf))
    refine loop_i hmix hT (fun k : Nat => ([(3, .ptr 0 0), (7, eInts X), (9, .ptr 2 0), (13, I (critK g X).2), (14, I k)], ⟨3, [(2, .cells [I (critK g X).1.1, I (critK g X).1.2] 37), (0, .cells [I g.first, I g.step, eCols g.cols] 24)]⟩)) (fun k => k ≤ X.length) (fun k => X.length - k) 0 (by omega) ?_ ?_
    · refine ⟨[], rfl, ?_, ?_⟩ <;> repeat' (first | exact trivial | exact vm_p | exact vm_ptr rfl rfl rfl | exact vm_yld rfl rfl | exact vm_own rfl rfl rfl rfl | exact vm_own rfl rfl (by omega) (by omega) | exact vm_int (by omega) | exact vm_nil rfl | exact sbm_cells vmL_p | exact sbm_row rfl (fun _ _ => vm_p) | refine ⟨⟨_, rfl, ?_⟩, ?_⟩ | refine ⟨⟨_, _, _, rfl⟩, ?_⟩ | (refine sbm_loop ?_; rw [efr]) | refine sbm_cells ?_ | refine vmL.cons ?_ ?_ | exact vmL.nil | refine vm_own rfl rfl rfl ?_)
    intro k hk
    have sk := sm k
    have ck := fun h => cf h k
    with_reducible conv => whnf
    repeat' ((first | (with_reducible refine branch_t ?_) | (with_reducible refine branch_f ?_) | (with_reducible refine branch_nt ?_) | (with_reducible refine branch_nf ?_) | (with_reducible refine branch_dec (fun _ => ?_) (fun _ => ?_)) | (with_reducible refine branch_ndec (fun _ => ?_) (fun _ => ?_)) | (with_reducible refine branch_bool (fun _ => ?_) (fun _ => ?_)) | (with_reducible refine arith_64 (by omega) ?_) | (with_reducible refine ob_i (by omega) (fun _ => ?_)) | (with_reducible refine ob_i (by unfold room; omega) (fun _ => ?_)) | (with_reducible refine ob_i (by (try simp only [] at *); (try dsimp only [toN] at *); omega) (fun _ => ?_)) | (with_reducible refine arith_64 (by (try simp only [] at *); (try dsimp only [toN] at *); omega) ?_) | (with_reducible refine ob_k rfl ?_) | ((with_reducible refine ob_k ?_ ?_); focus kernel_rfl) | (refine yield_i hmix hT rfl hL efr eps eag ebd rfl (by kernel_rfl) ?_) | (apply call_u (refFrequency_ok (g := g) (n := X.getD k 0) (by omega) (by omega) (by omega))) | (apply call_l (first_ok (l := [_, _]) (Nat.le_of_ble_eq_true rfl)) (.cons (vm_lit _ rfl rfl (.cons (vm_int rfl) (.cons (vm_int rfl) .nil))) .nil)) | (apply call_l (first_ok (l := [_, _, _]) (Nat.le_of_ble_eq_true rfl)) (.cons (vm_lit _ rfl rfl (.cons (vm_int rfl) (.cons (vm_int rfl) (.cons (vm_int rfl) .nil)))) .nil)) | (apply call_l (first_ok (l := [_, _, _, _]) (Nat.le_of_ble_eq_true rfl)) (.cons (vm_lit _ rfl rfl (.cons (vm_int rfl) (.cons (vm_int rfl) (.cons (vm_int rfl) (.cons (vm_int rfl) .nil))))) .nil))) <;> (try (exfalso; omega; done)) <;> (with_reducible conv => whnf))
    all_goals ((try simp only [] at *); (try dsimp only [toN] at *))
    · refine ⟨k + 1, by omega, by omega, ?_⟩
      refine ⟨[], rfl, ?_, ?_⟩ <;> repeat' (first | exact trivial | exact vm_p | exact vm_ptr rfl rfl rfl | exact vm_yld rfl rfl | exact vm_own rfl rfl rfl rfl | exact vm_own rfl rfl (by omega) (by omega) | exact vm_int (by omega) | exact vm_nil rfl | exact sbm_cells vmL_p | exact sbm_row rfl (fun _ _ => vm_p) | refine ⟨⟨_, rfl, ?_⟩, ?_⟩ | refine ⟨⟨_, _, _, rfl⟩, ?_⟩ | (refine sbm_loop ?_; rw [efr]) | refine sbm_cells ?_ | refine vmL.cons ?_ ?_ | exact vmL.nil | refine vm_own rfl rfl rfl ?_)
    · exact ret0 vm_p
    · exact ret0 vm_p
  · have D : (openPathE g p ≠ 0 ∧ seenE g p th = openPathE g p) ∨ (openPathE g p = 0 ∧ ¬ (0 ≤ th ∧ th ≤ 255) ∧ seenE g p th = 2) := by
      unfold seenE at hz ⊢
      grind
    rw [show seenL g p th = [] by unfold seenL; rw [if_pos hz]] at P
    rw [show critE g p th = ((0, 0), seenE g p th) by unfold critE; rw [if_pos hz]] at C
    refine fn_i hmix hT Try.f3 (by kernel_rfl) rfl (by kernel_rfl) ?_
    with_reducible conv => whnf
    repeat' ((first | (with_reducible refine branch_t ?_) | (with_reducible refine branch_f ?_) | (with_reducible refine branch_nt ?_) | (with_reducible refine branch_nf ?_) | (with_reducible refine branch_dec (fun _ => ?_) (fun _ => ?_)) | (with_reducible refine branch_ndec (fun _ => ?_) (fun _ => ?_)) | (with_reducible refine branch_bool (fun _ => ?_) (fun _ => ?_)) | (with_reducible refine arith_64 (by omega) ?_) | (with_reducible refine ob_i (by omega) (fun _ => ?_)) | (with_reducible refine ob_i (by unfold room; omega) (fun _ => ?_)) | (with_reducible refine ob_i (by (try simp only [] at *); (try dsimp only [toN] at *); omega) (fun _ => ?_)) | (with_reducible refine arith_64 (by (try simp only [] at *); (try dsimp only [toN] at *); omega) ?_) | (with_reducible refine ob_k rfl ?_) | ((with_reducible refine ob_k ?_ ?_); focus kernel_rfl) | (refine yield_i hmix hT rfl hL efr eps eag ebd rfl (by kernel_rfl) ?_) | (apply call_u awake_fn) | (apply call_u F) | (apply call_u S) | (apply call_u (copy_ok f1 f2)) | (apply call_u (copyPath_ok (by omega))) | (apply call_u P) | (apply call_u C) | (apply call_u E) | (apply call_u rThresholdErr_ok) | (refine gen_eq2 rfl rfl rfl rfl (by kernel_rfl) (by kernel_rfl) (fun _ => ?_) (fun _ => ?_)) | (refine gen_ne2 rfl rfl rfl rfl (by kernel_rfl) (by kernel_rfl) (fun _ => ?_) (fun _ => ?_)) | (apply call_l (first_ok (l := [_, _]) (Nat.le_of_ble_eq_true rfl)) (.cons (vm_lit _ rfl rfl (.cons (vm_int rfl) (.cons (vm_int rfl) .nil))) .nil)) | (apply call_l (first_ok (l := [_, _, _]) (Nat.le_of_ble_eq_true rfl)) (.cons (vm_lit _ rfl rfl (.cons (vm_int rfl) (.cons (vm_int rfl) (.cons (vm_int rfl) .nil)))) .nil)) | (apply call_l (first_ok (l := [_, _, _, _]) (Nat.le_of_ble_eq_true rfl)) (.cons (vm_lit _ rfl rfl (.cons (vm_int rfl) (.cons (vm_int rfl) (.cons (vm_int rfl) (.cons (vm_int rfl) .nil))))) .nil))) <;> (try (exfalso; omega; done)) <;> (with_reducible conv => whnf))
    all_goals first | exact ret0 vm_p | (exfalso; simp_all; done) | (exfalso; grind)
set_option maxRecDepth 100000 in
theorem tracePaths_ok {g : Gram} {r : Rules} {p : Path} (hg : g.Ok) (hp : p.rows.length ≤ 9223372036854775807) (hf : -9223372036854775808 ≤ p.fr ∧ p.fr ≤ 9223372036854775807) : FnOK Try.prog 7 [eGram g, eRules r, ePath p] (B true) [] := by
  have F := few_ok hg
  have S := short_ok (p := p)
  by_cases h1 : fewB g = true
  case neg =>
    rw [Bool.not_eq_true] at h1
    rw [h1] at F
    refine fn_i hmix hT Try.f7 (by kernel_rfl) rfl (by kernel_rfl) ?_
    with_reducible conv => whnf
    repeat' ((first | (with_reducible refine branch_t ?_) | (with_reducible refine branch_f ?_) | (with_reducible refine branch_nt ?_) | (with_reducible refine branch_nf ?_) | (with_reducible refine branch_dec (fun _ => ?_) (fun _ => ?_)) | (with_reducible refine branch_ndec (fun _ => ?_) (fun _ => ?_)) | (with_reducible refine branch_bool (fun _ => ?_) (fun _ => ?_)) | (with_reducible refine arith_64 (by omega) ?_) | (with_reducible refine ob_i (by omega) (fun _ => ?_)) | (with_reducible refine ob_i (by unfold room; omega) (fun _ => ?_)) | (with_reducible refine ob_i (by (try simp only [toN_eq, Int.toNat_natCast] at *); (try dsimp only [toN] at *); omega) (fun _ => ?_)) | (with_reducible refine arith_64 (by (try simp only [toN_eq, Int.toNat_natCast] at *); (try dsimp only [toN] at *); omega) ?_) | (with_reducible refine ob_k rfl ?_) | ((with_reducible refine ob_k ?_ ?_); focus kernel_rfl) | (refine yield_i hmix hT rfl hL efr eps eag ebd rfl (by kernel_rfl) ?_) | (apply call_u awake_fn) | (apply call_u F) | (apply call_l (first_ok (l := [_, _]) (Nat.le_of_ble_eq_true rfl)) (.cons (vm_lit _ rfl rfl (.cons (vm_int rfl) (.cons (vm_int rfl) .nil))) .nil)) | (apply call_l (first_ok (l := [_, _, _]) (Nat.le_of_ble_eq_true rfl)) (.cons (vm_lit _ rfl rfl (.cons (vm_int rfl) (.cons (vm_int rfl) (.cons (vm_int rfl) .nil)))) .nil)) | (apply call_l (first_ok (l := [_, _, _, _]) (Nat.le_of_ble_eq_true rfl)) (.cons (vm_lit _ rfl rfl (.cons (vm_int rfl) (.cons (vm_int rfl) (.cons (vm_int rfl) (.cons (vm_int rfl) .nil))))) .nil))) <;> (try (exfalso; omega; done)) <;> (with_reducible conv => whnf))
    exact ret0 vm_p
  rw [h1] at F
  by_cases h2 : p.rows.length ≤ 12
  case neg =>
    rw [decide_eq_false h2] at S
    refine fn_i hmix hT Try.f7 (by kernel_rfl) rfl (by kernel_rfl) ?_
    with_reducible conv => whnf
    repeat' ((first | (with_reducible refine branch_t ?_) | (with_reducible refine branch_f ?_) | (with_reducible refine branch_nt ?_) | (with_reducible refine branch_nf ?_) | (with_reducible refine branch_dec (fun _ => ?_) (fun _ => ?_)) | (with_reducible refine branch_ndec (fun _ => ?_) (fun _ => ?_)) | (with_reducible refine branch_bool (fun _ => ?_) (fun _ => ?_)) | (with_reducible refine arith_64 (by omega) ?_) | (with_reducible refine ob_i (by omega) (fun _ => ?_)) | (with_reducible refine ob_i (by unfold room; omega) (fun _ => ?_)) | (with_reducible refine ob_i (by (try simp only [toN_eq, Int.toNat_natCast] at *); (try dsimp only [toN] at *); omega) (fun _ => ?_)) | (with_reducible refine arith_64 (by (try simp only [toN_eq, Int.toNat_natCast] at *); (try dsimp only [toN] at *); omega) ?_) | (with_reducible refine ob_k rfl ?_) | ((with_reducible refine ob_k ?_ ?_); focus kernel_rfl) | (refine yield_i hmix hT rfl hL efr eps eag ebd rfl (by kernel_rfl) ?_) | (apply call_u awake_fn) | (apply call_u F) | (apply call_u S) | (apply call_l (first_ok (l := [_, _]) (Nat.le_of_ble_eq_true rfl)) (.cons (vm_lit _ rfl rfl (.cons (vm_int rfl) (.cons (vm_int rfl) .nil))) .nil)) | (apply call_l (first_ok (l := [_, _, _]) (Nat.le_of_ble_eq_true rfl)) (.cons (vm_lit _ rfl rfl (.cons (vm_int rfl) (.cons (vm_int rfl) (.cons (vm_int rfl) .nil)))) .nil)) | (apply call_l (first_ok (l := [_, _, _, _]) (Nat.le_of_ble_eq_true rfl)) (.cons (vm_lit _ rfl rfl (.cons (vm_int rfl) (.cons (vm_int rfl) (.cons (vm_int rfl) (.cons (vm_int rfl) .nil))))) .nil))) <;> (try (exfalso; omega; done)) <;> (with_reducible conv => whnf))
    exact ret0 vm_p
  rw [decide_eq_true h2] at S
  obtain ⟨f1, f2⟩ := few_facts h1
  have C := pCheckPath_ok hg hp
  have PT := pPointsOf_ok hg hp
  have CR := checkRules_ok (r := r) hg
  have BE := bothErr_ok (r := r) hg
  have GE := rGramErr_ok hg
  by_cases hgz : gramE g = 0
  case neg =>
    have e1 : openPathE g p = gramE g := by unfold openPathE; rw [if_pos hgz]
    rw [if_pos hgz] at C
    rw [e1, if_pos hgz] at PT
    refine fn_i hmix hT Try.f7 (by kernel_rfl) rfl (by kernel_rfl) ?_
    with_reducible conv => whnf
    repeat' ((first | (with_reducible refine branch_t ?_) | (with_reducible refine branch_f ?_) | (with_reducible refine branch_nt ?_) | (with_reducible refine branch_nf ?_) | (with_reducible refine branch_dec (fun _ => ?_) (fun _ => ?_)) | (with_reducible refine branch_ndec (fun _ => ?_) (fun _ => ?_)) | (with_reducible refine branch_bool (fun _ => ?_) (fun _ => ?_)) | (with_reducible refine arith_64 (by omega) ?_) | (with_reducible refine ob_i (by omega) (fun _ => ?_)) | (with_reducible refine ob_i (by unfold room; omega) (fun _ => ?_)) | (with_reducible refine ob_i (by (try simp only [] at *); (try dsimp only [toN] at *); omega) (fun _ => ?_)) | (with_reducible refine arith_64 (by (try simp only [] at *); (try dsimp only [toN] at *); omega) ?_) | (with_reducible refine ob_k rfl ?_) | ((with_reducible refine ob_k ?_ ?_); focus kernel_rfl) | (refine yield_i hmix hT rfl hL efr eps eag ebd rfl (by kernel_rfl) ?_) | (apply call_u awake_fn) | (apply call_u F) | (apply call_u S) | (apply call_u (copy_ok f1 f2)) | (apply call_u (copyPath_ok (by omega))) | (apply call_u C) | (apply call_u PT) | (apply call_u CR) | (apply call_u BE) | (apply call_u GE) | (apply call_l (first_ok (l := [_, _]) (Nat.le_of_ble_eq_true rfl)) (.cons (vm_lit _ rfl rfl (.cons (vm_int rfl) (.cons (vm_int rfl) .nil))) .nil)) | (apply call_l (first_ok (l := [_, _, _]) (Nat.le_of_ble_eq_true rfl)) (.cons (vm_lit _ rfl rfl (.cons (vm_int rfl) (.cons (vm_int rfl) (.cons (vm_int rfl) .nil)))) .nil)) | (apply call_l (first_ok (l := [_, _, _, _]) (Nat.le_of_ble_eq_true rfl)) (.cons (vm_lit _ rfl rfl (.cons (vm_int rfl) (.cons (vm_int rfl) (.cons (vm_int rfl) (.cons (vm_int rfl) .nil))))) .nil))) <;> (try (exfalso; omega; done)) <;> (with_reducible conv => whnf))
    all_goals first | exact ret0 vm_p | (exfalso; simp_all; done) | (exfalso; grind)
  have hv := gram_val hgz
  have e1 : openPathE g p = pathE g p := by unfold openPathE; rw [if_neg (by omega)]
  have RC := rCheckPath_ok hg hp hv hf
  rw [hgz] at GE
  rw [if_neg (by omega)] at C
  have e2 : pathE g p = (checkPath g p).2 := rfl
  by_cases hz : pathE g p = 0
  case neg =>
    rw [e1, if_pos hz] at PT
    refine fn_i hmix hT Try.f7 (by kernel_rfl) rfl (by kernel_rfl) ?_
    with_reducible conv => whnf
    repeat' ((first | (with_reducible refine branch_t ?_) | (with_reducible refine branch_f ?_) | (with_reducible refine branch_nt ?_) | (with_reducible refine branch_nf ?_) | (with_reducible refine branch_dec (fun _ => ?_) (fun _ => ?_)) | (with_reducible refine branch_ndec (fun _ => ?_) (fun _ => ?_)) | (with_reducible refine branch_bool (fun _ => ?_) (fun _ => ?_)) | (with_reducible refine arith_64 (by omega) ?_) | (with_reducible refine ob_i (by omega) (fun _ => ?_)) | (with_reducible refine ob_i (by unfold room; omega) (fun _ => ?_)) | (with_reducible refine ob_i (by (try simp only [] at *); (try dsimp only [toN] at *); omega) (fun _ => ?_)) | (with_reducible refine arith_64 (by (try simp only [] at *); (try dsimp only [toN] at *); omega) ?_) | (with_reducible refine ob_k rfl ?_) | ((with_reducible refine ob_k ?_ ?_); focus kernel_rfl) | (refine yield_i hmix hT rfl hL efr eps eag ebd rfl (by kernel_rfl) ?_) | (apply call_u awake_fn) | (apply call_u F) | (apply call_u S) | (apply call_u (copy_ok f1 f2)) | (apply call_u (copyPath_ok (by omega))) | (apply call_u C) | (apply call_u PT) | (apply call_u CR) | (apply call_u BE) | (apply call_u GE) | (apply call_u RC) | (apply call_l (first_ok (l := [_, _]) (Nat.le_of_ble_eq_true rfl)) (.cons (vm_lit _ rfl rfl (.cons (vm_int rfl) (.cons (vm_int rfl) .nil))) .nil)) | (apply call_l (first_ok (l := [_, _, _]) (Nat.le_of_ble_eq_true rfl)) (.cons (vm_lit _ rfl rfl (.cons (vm_int rfl) (.cons (vm_int rfl) (.cons (vm_int rfl) .nil)))) .nil)) | (apply call_l (first_ok (l := [_, _, _, _]) (Nat.le_of_ble_eq_true rfl)) (.cons (vm_lit _ rfl rfl (.cons (vm_int rfl) (.cons (vm_int rfl) (.cons (vm_int rfl) (.cons (vm_int rfl) .nil))))) .nil))) <;> (try (exfalso; omega; done)) <;> (with_reducible conv => whnf))
    all_goals first | exact ret0 vm_p | (exfalso; simp_all; done) | (exfalso; grind)
  have pv := path_val hz
  have RP := rPointsOf_ok hv pv
  rw [e1, if_neg (by omega), hz] at PT
  have ln := ptsK_len g p p.rows.length
  generalize ptsK g p p.rows.length = X at *
  refine fn_i hmix hT Try.f7 (by kernel_rfl) rfl (by kernel_rfl) ?_
  with_reducible conv => whnf
  repeat' ((first | (with_reducible refine branch_t ?_) | (with_reducible refine branch_f ?_) | (with_reducible refine branch_nt ?_) | (with_reducible refine branch_nf ?_) | (with_reducible refine branch_dec (fun _ => ?_) (fun _ => ?_)) | (with_reducible refine branch_ndec (fun _ => ?_) (fun _ => ?_)) | (with_reducible refine branch_bool (fun _ => ?_) (fun _ => ?_)) | (with_reducible refine arith_64 (by omega) ?_) | (with_reducible refine ob_i (by omega) (fun _ => ?_)) | (with_reducible refine ob_i (by unfold room; omega) (fun _ => ?_)) | (with_reducible refine ob_i (by (try simp only [] at *); (try dsimp only [toN] at *); omega) (fun _ => ?_)) | (with_reducible refine arith_64 (by (try simp only [] at *); (try dsimp only [toN] at *); omega) ?_) | (with_reducible refine ob_k rfl ?_) | ((with_reducible refine ob_k ?_ ?_); focus kernel_rfl) | (refine yield_i hmix hT rfl hL efr eps eag ebd rfl (by kernel_rfl) ?_) | (apply call_u awake_fn) | (apply call_u F) | (apply call_u S) | (apply call_u (copy_ok f1 f2)) | (apply call_u (copyPath_ok (by omega))) | (apply call_u C) | (apply call_u PT) | (apply call_u CR) | (apply call_u BE) | (apply call_u GE) | (apply call_u RC) | (apply call_u RP) | (apply call_l (first_ok (l := [_, _]) (Nat.le_of_ble_eq_true rfl)) (.cons (vm_lit _ rfl rfl (.cons (vm_int rfl) (.cons (vm_int rfl) .nil))) .nil)) | (apply call_l (first_ok (l := [_, _, _]) (Nat.le_of_ble_eq_true rfl)) (.cons (vm_lit _ rfl rfl (.cons (vm_int rfl) (.cons (vm_int rfl) (.cons (vm_int rfl) .nil)))) .nil)) | (apply call_l (first_ok (l := [_, _, _, _]) (Nat.le_of_ble_eq_true rfl)) (.cons (vm_lit _ rfl rfl (.cons (vm_int rfl) (.cons (vm_int rfl) (.cons (vm_int rfl) (.cons (vm_int rfl) .nil))))) .nil))) <;> (try (exfalso; omega; done)) <;> (with_reducible conv => whnf))
  refine loop_i hmix hT (fun k : Nat => ([(9, ePts X), (13, ePts X), (14, I k)], ⟨0, []⟩)) (fun k => k ≤ X.length) (fun k => X.length - k) 0 (by omega) ?_ ?_
  · refine ⟨[], rfl, ?_, ?_⟩ <;> repeat' (first | exact trivial | exact vm_p | exact vm_ptr rfl rfl rfl | exact vm_yld rfl rfl | exact vm_own rfl rfl rfl rfl | exact vm_own rfl rfl (by omega) (by omega) | exact vm_int (by omega) | exact vm_nil rfl | exact sbm_cells vmL_p | exact sbm_row rfl (fun _ _ => vm_p) | refine ⟨⟨_, rfl, ?_⟩, ?_⟩ | refine ⟨⟨_, _, _, rfl⟩, ?_⟩ | (refine sbm_loop ?_; rw [efr]) | refine sbm_cells ?_ | refine vmL.cons ?_ ?_ | exact vmL.nil | refine vm_own rfl rfl rfl ?_)
  intro k hk
  with_reducible conv => whnf
  repeat' ((first | (with_reducible refine branch_t ?_) | (with_reducible refine branch_f ?_) | (with_reducible refine branch_nt ?_) | (with_reducible refine branch_nf ?_) | (with_reducible refine branch_dec (fun _ => ?_) (fun _ => ?_)) | (with_reducible refine branch_ndec (fun _ => ?_) (fun _ => ?_)) | (with_reducible refine branch_bool (fun _ => ?_) (fun _ => ?_)) | (with_reducible refine arith_64 (by omega) ?_) | (with_reducible refine ob_i (by omega) (fun _ => ?_)) | (with_reducible refine ob_i (by unfold room; omega) (fun _ => ?_)) | (with_reducible refine ob_i (by (try simp only [] at *); (try dsimp only [toN] at *); omega) (fun _ => ?_)) | (with_reducible refine arith_64 (by (try simp only [] at *); (try dsimp only [toN] at *); omega) ?_) | (with_reducible refine ob_k rfl ?_) | ((with_reducible refine ob_k ?_ ?_); focus kernel_rfl) | (refine yield_i hmix hT rfl hL efr eps eag ebd rfl (by kernel_rfl) ?_) | (refine gen_ne3 rfl rfl rfl rfl (by kernel_rfl) (by kernel_rfl) (fun _ => ?_) (fun _ => ?_)) | (apply call_l (first_ok (l := [_, _]) (Nat.le_of_ble_eq_true rfl)) (.cons (vm_lit _ rfl rfl (.cons (vm_int rfl) (.cons (vm_int rfl) .nil))) .nil)) | (apply call_l (first_ok (l := [_, _, _]) (Nat.le_of_ble_eq_true rfl)) (.cons (vm_lit _ rfl rfl (.cons (vm_int rfl) (.cons (vm_int rfl) (.cons (vm_int rfl) .nil)))) .nil)) | (apply call_l (first_ok (l := [_, _, _, _]) (Nat.le_of_ble_eq_true rfl)) (.cons (vm_lit _ rfl rfl (.cons (vm_int rfl) (.cons (vm_int rfl) (.cons (vm_int rfl) (.cons (vm_int rfl) .nil))))) .nil))) <;> (try (exfalso; omega; done)) <;> (with_reducible conv => whnf))
  all_goals first | exact ret0 vm_p | (exfalso; simp_all; done) | skip
  refine ⟨k + 1, by omega, by omega, ?_⟩
  refine ⟨[], rfl, ?_, ?_⟩ <;> repeat' (first | exact trivial | exact vm_p | exact vm_ptr rfl rfl rfl | exact vm_yld rfl rfl | exact vm_own rfl rfl rfl rfl | exact vm_own rfl rfl (by omega) (by omega) | exact vm_int (by omega) | exact vm_nil rfl | exact sbm_cells vmL_p | exact sbm_row rfl (fun _ _ => vm_p) | refine ⟨⟨_, rfl, ?_⟩, ?_⟩ | refine ⟨⟨_, _, _, rfl⟩, ?_⟩ | (refine sbm_loop ?_; rw [efr]) | refine sbm_cells ?_ | refine vmL.cons ?_ ?_ | exact vmL.nil | refine vm_own rfl rfl rfl ?_)
end Go.Proofs.Ytmiphilcplojnaa
