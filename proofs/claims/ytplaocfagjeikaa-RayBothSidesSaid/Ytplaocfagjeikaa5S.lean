/-
  Chapter 5: usable frequencies, and which are accepted (by contract).
  Conditions: none.
-/
import Derived.Test.Ytplaocfagjeikaa5R
namespace Go.Proofs.Ytplaocfagjeikaa
open Go.RowKit Fx
/-! ### Plain -/
theorem idx_spec {x : Int} : ∀ (l : List Int) (s : Int), (idxE x l s = -1 ∧ ∀ i, i < l.length → x ≠ l.getD i 0) ∨ ∃ k : Nat, k < l.length ∧ x = l.getD k 0 ∧ (∀ i, i < k → x ≠ l.getD i 0) ∧ idxE x l s = s + k
  | [], s => .inl ⟨rfl, fun i h => by simp at h⟩
  | y :: l, s => by
    by_cases h : x = y
    · exact .inr ⟨0, by simp, by simpa using h, fun i h => by omega, by simp [idxE, h]⟩
    · rcases idx_spec (x := x) l (s + 1) with ⟨a, b⟩ | ⟨k, a, b, c, d⟩
      · refine .inl ⟨by rw [idxE, if_neg h, a], fun i hi => ?_⟩
        cases i with
        | zero => simpa using h
        | succ i => simpa using b i (by simpa using hi)
      · refine .inr ⟨k + 1, by simpa using a, by simpa using b, fun i hi => ?_, by rw [idxE, if_neg h, d]; omega⟩
        cases i with
        | zero => simpa using h
        | succ i => simpa using c i (by omega)
theorem suf_eq {L : List Int} {f : Int} {u : Usa} (h0 : 0 < L.length) (hr : ∀ i, 0 ≤ L.getD i 0) : sufU L f u L.length = ⟨if 0 ≤ idxE 2 L 0 then f else u.sure, if 0 ≤ idxE 2 L 0 then idxE 2 L 0 else u.at_, if 0 < mxLK L (L.length - 1) then f else u.per⟩ := by
  have hp := suf_per (L := L) (f := f) (u := u) L.length (Nat.le_refl _)
  have mp := (mxLK_pos hr (L.length - 1)).1
  have e3 : (sufU L f u L.length).per = if 0 < mxLK L (L.length - 1) then f else u.per := by
    by_cases h : 0 < mxLK L (L.length - 1)
    · obtain ⟨i, h1, h2⟩ := mp.1 h
      rw [if_pos h]
      exact hp.2 ⟨i, by omega, by omega, h2⟩
    · rw [if_neg h]
      refine hp.1 fun i h1 h2 => ?_
      by_cases e : L.getD i 0 = 0
      · exact e
      · exact absurd (mp.2 ⟨i, by omega, e⟩) h
  have e12 : (sufU L f u L.length).sure = (if 0 ≤ idxE 2 L 0 then f else u.sure) ∧ (sufU L f u L.length).at_ = (if 0 ≤ idxE 2 L 0 then idxE 2 L 0 else u.at_) := by
    rcases idx_spec (x := 2) L 0 with ⟨a, b⟩ | ⟨k, a, b, c, d⟩
    · rw [if_neg (by omega), if_neg (by omega)]
      exact suf_none L.length (Nat.le_refl _) fun i _ h => Ne.symm (b i h)
    · rw [if_pos (by omega), if_pos (by omega)]
      have := suf_hit (f := f) (u := u) a b.symm (fun i hi => Ne.symm (c i hi)) L.length (Nat.le_refl _) (by omega)
      exact ⟨this.1, by rw [this.2.1 rfl, d]; omega⟩
  rw [show sufU L f u L.length = ⟨(sufU L f u L.length).sure, (sufU L f u L.length).at_, (sufU L f u L.length).per⟩ from rfl, e12.1, e12.2, e3]
theorem usa_next {s : Sky} {t : Task} {c k : Nat} (h0 : 0 < c) : usaK s t c (k + 1) = (let L := ansL s (t.fr.getD k 0 * t.fr.getD k 0) t c; ⟨if 0 ≤ idxE 2 L 0 then t.fr.getD k 0 else (usaK s t c k).sure, if 0 ≤ idxE 2 L 0 then idxE 2 L 0 else (usaK s t c k).at_, if 0 < mxLK L (L.length - 1) then t.fr.getD k 0 else (usaK s t c k).per⟩) := by
  rw [usaK]
  exact suf_eq (by rw [ansL_len]; exact h0) fun i => (ans_range ..).1
theorem usa_zero {s : Sky} {t : Task} {c : Nat} (h0 : 0 < c) (hf : ∀ i, i < t.fr.length → 1 ≤ t.fr.getD i 0) : ∀ k, k ≤ t.fr.length → 0 ≤ (usaK s t c k).per ∧ ((usaK s t c k).per = 0 → (usaK s t c k).sure = 0 ∧ (usaK s t c k).at_ = 0)
  | 0, _ => ⟨Int.le_refl _, fun _ => ⟨rfl, rfl⟩⟩
  | k + 1, hk => by
    obtain ⟨i1, i2⟩ := usa_zero h0 hf k (by omega)
    have h1 := hf k (by omega)
    rw [usa_next h0]
    have mp := (mxLK_pos (l := ansL s (t.fr.getD k 0 * t.fr.getD k 0) t c) (fun i => (ans_range ..).1) ((ansL s (t.fr.getD k 0 * t.fr.getD k 0) t c).length - 1)).1
    generalize ansL s (t.fr.getD k 0 * t.fr.getD k 0) t c = L at mp ⊢
    dsimp only
    by_cases hm : 0 < mxLK L (L.length - 1)
    · rw [if_pos hm]
      exact ⟨by omega, fun h => by omega⟩
    · rw [if_neg hm]
      refine ⟨i1, fun h => ?_⟩
      rcases idx_spec (x := 2) L 0 with ⟨a, b⟩ | ⟨k, a, b, c, d⟩
      · rw [if_neg (by omega), if_neg (by omega)]
        exact i2 h
      · exact absurd (mp.2 ⟨k, by omega, by rw [← b]; decide⟩) hm
theorem has_spec {l : List Int} {x : Int} : hasB l x = true ↔ ∃ k, k < l.length ∧ x = l.getD k 0 := by
  unfold hasB
  rw [decide_eq_true_iff]
  rcases idx_spec (x := x) l 0 with ⟨a, b⟩ | ⟨k, a, b, c, d⟩
  · exact ⟨fun h => by omega, fun ⟨k, h1, h2⟩ => absurd h2 (b k h1)⟩
  · exact ⟨fun _ => ⟨k, a, b⟩, fun _ => by omega⟩
def useErr (s : Sky) (t : Task) : Int := if skyE s ≠ 0 then skyE s else taskE t
theorem use_zero {s : Sky} {t : Task} (h : useErr s t = 0) : skyE s = 0 ∧ taskE t = 0 := by
  unfold useErr at h; grind
/-! ### Contracts -/
set_option maxHeartbeats 4000000 in
set_option maxRecDepth 100000 in
theorem usable_ok {s : Sky} {lo hi : Int} {fr : List Int} {c : Nat} (v : s.Val) (tv : Task.Val ⟨c, lo, hi, fr⟩) : FnOK Try.prog 100 [eSky s, .agg [I c, I lo, I hi, eInts fr]] (eUsa (usaK s ⟨c, lo, hi, fr⟩ c fr.length)) [] := by
  have n1 := v.n1
  have g0 : 1 ≤ (c : Int) := tv.g0
  have g1 : (c : Int) ≤ 100 := tv.g1
  have tn : fr.length ≤ 30 := tv.n1
  have tf : ∀ i, i < fr.length → 1 ≤ fr.getD i 0 ∧ fr.getD i 0 ≤ 3000 := tv.f
  clear tv
  refine fn_i hmix hT Try.f100 (by kernel_rfl) rfl (by kernel_rfl) ?_
  with_reducible conv => whnf
  repeat' ((first | (with_reducible refine branch_t ?_) | (with_reducible refine branch_f ?_) | (with_reducible refine branch_nt ?_) | (with_reducible refine branch_nf ?_) | (with_reducible refine branch_dec (fun _ => ?_) (fun _ => ?_)) | (with_reducible refine branch_ndec (fun _ => ?_) (fun _ => ?_)) | (with_reducible refine branch_bool (fun _ => ?_) (fun _ => ?_)) | (with_reducible refine arith_64 (by omega) ?_) | (with_reducible refine ob_i (by omega) (fun _ => ?_)) | (with_reducible refine ob_i (by unfold room; omega) (fun _ => ?_)) | (with_reducible refine ob_i (by (try simp only [toN_eq, Int.toNat_natCast] at *); (try dsimp only [toN] at *); omega) (fun _ => ?_)) | (with_reducible refine arith_64 (by (try simp only [toN_eq, Int.toNat_natCast] at *); (try dsimp only [toN] at *); omega) ?_) | (with_reducible refine ob_k rfl ?_) | ((with_reducible refine ob_k ?_ ?_); focus kernel_rfl) | (refine yield_i hmix hT rfl hL efr eps eag ebd rfl (by kernel_rfl) ?_)  | (apply call_l (first_ok (l := [_, _]) (Nat.le_of_ble_eq_true rfl)) (.cons (vm_lit _ rfl rfl (.cons (vm_int rfl) (.cons (vm_int rfl) .nil))) .nil)) | (apply call_l (first_ok (l := [_, _, _]) (Nat.le_of_ble_eq_true rfl)) (.cons (vm_lit _ rfl rfl (.cons (vm_int rfl) (.cons (vm_int rfl) (.cons (vm_int rfl) .nil)))) .nil)) | (apply call_l (first_ok (l := [_, _, _, _]) (Nat.le_of_ble_eq_true rfl)) (.cons (vm_lit _ rfl rfl (.cons (vm_int rfl) (.cons (vm_int rfl) (.cons (vm_int rfl) (.cons (vm_int rfl) .nil))))) .nil))) <;> (try (exfalso; omega; done)) <;> (with_reducible conv => whnf))
  refine loop_i hmix hT (fun k : Nat => ([(2, .ptr 0 0), (3, .ptr 1 0), (4, .ptr 2 0), (5, .ptr 3 0), (11, eInts fr), (12, I fr.length), (13, I k)], ⟨4, [(3, .cells [I (usaK s ⟨c, lo, hi, fr⟩ c k).sure, I (usaK s ⟨c, lo, hi, fr⟩ c k).at_, I (usaK s ⟨c, lo, hi, fr⟩ c k).per] 68), (2, .cells [I 0, I 0, I 0] 68), (1, .cells [I c, I lo, I hi, eInts fr] 66), (0, .cells [I s.h, eSlabs s.sl] 24)]⟩)) (fun k => k ≤ fr.length) (fun k => fr.length - k) 0 (by omega) ?_ ?_
  · refine ⟨[], rfl, ?_, ?_⟩ <;> repeat' (first | exact trivial | exact vm_p | exact vm_ptr rfl rfl rfl | exact vm_yld rfl rfl | exact vm_own rfl rfl rfl rfl | exact vm_own rfl rfl (by omega) (by omega) | exact vm_int (by omega) | exact vm_nil rfl | exact sbm_cells vmL_p | exact sbm_row rfl (fun _ _ => vm_p) | refine ⟨⟨_, rfl, ?_⟩, ?_⟩ | refine ⟨⟨_, _, _, rfl⟩, ?_⟩ | (refine sbm_loop ?_; rw [efr]) | refine sbm_cells ?_ | refine vmL.cons ?_ ?_ | exact vmL.nil | refine vm_own rfl rfl rfl ?_)
  intro k hk
  by_cases h : k < fr.length
  · have tq : fr.getD (toN (k : Int)) 0 = fr.getD k 0 := by rw [toN_eq]; rfl
    have A := answers_ok (lo := lo) (hi := hi) (fr := fr) (f := fr.getD (toN (k : Int)) 0) v (by rw [tq]; exact tf k h) (c := c) (by omega) (by omega)
    have nx := usa_next (s := s) (t := ⟨c, lo, hi, fr⟩) (c := c) (k := k) (by omega)
    have al := ansL_len s (fr.getD k 0 * fr.getD k 0) ⟨c, lo, hi, fr⟩ c
    rw [tq] at A
    dsimp only at nx
    generalize ansL s (fr.getD k 0 * fr.getD k 0) ⟨c, lo, hi, fr⟩ c = L at A nx al
    have IX := index_ok (l := L) (x := 2) (by omega)
    have MX := max_ok (l := L) (by omega) (by omega)
    rw [← tq] at A nx
    by_cases d1 : 0 ≤ idxE 2 L 0
    all_goals
      by_cases d2 : 0 < mxLK L (L.length - 1)
      all_goals
        first
          | rw [if_pos d1, if_pos d1] at nx
          | rw [if_neg d1, if_neg d1] at nx
        first
          | rw [if_pos d2] at nx
          | rw [if_neg d2] at nx
        with_reducible conv => whnf
        repeat' ((first | (with_reducible refine branch_t ?_) | (with_reducible refine branch_f ?_) | (with_reducible refine branch_nt ?_) | (with_reducible refine branch_nf ?_) | (with_reducible refine branch_dec (fun _ => ?_) (fun _ => ?_)) | (with_reducible refine branch_ndec (fun _ => ?_) (fun _ => ?_)) | (with_reducible refine branch_bool (fun _ => ?_) (fun _ => ?_)) | (with_reducible refine arith_64 (by omega) ?_) | (with_reducible refine ob_i (by omega) (fun _ => ?_)) | (with_reducible refine ob_i (by unfold room; omega) (fun _ => ?_)) | (with_reducible refine ob_i (by (try simp only [] at *); (try dsimp only [toN] at *); omega) (fun _ => ?_)) | (with_reducible refine arith_64 (by (try simp only [] at *); (try dsimp only [toN] at *); omega) ?_) | (with_reducible refine ob_k rfl ?_) | ((with_reducible refine ob_k ?_ ?_); focus kernel_rfl) | (refine yield_i hmix hT rfl hL efr eps eag ebd rfl (by kernel_rfl) ?_) | (apply call_u A) | (apply call_u IX) | (apply call_u MX) | (apply call_l (first_ok (l := [_, _]) (Nat.le_of_ble_eq_true rfl)) (.cons (vm_lit _ rfl rfl (.cons (vm_int rfl) (.cons (vm_int rfl) .nil))) .nil)) | (apply call_l (first_ok (l := [_, _, _]) (Nat.le_of_ble_eq_true rfl)) (.cons (vm_lit _ rfl rfl (.cons (vm_int rfl) (.cons (vm_int rfl) (.cons (vm_int rfl) .nil)))) .nil)) | (apply call_l (first_ok (l := [_, _, _, _]) (Nat.le_of_ble_eq_true rfl)) (.cons (vm_lit _ rfl rfl (.cons (vm_int rfl) (.cons (vm_int rfl) (.cons (vm_int rfl) (.cons (vm_int rfl) .nil))))) .nil))) <;> (try (exfalso; omega; done)) <;> (with_reducible conv => whnf))
        refine ⟨k + 1, by omega, by omega, ?_⟩
        rw [nx]
        refine ⟨[], rfl, ?_, ?_⟩ <;> repeat' (first | exact trivial | exact vm_p | exact vm_ptr rfl rfl rfl | exact vm_yld rfl rfl | exact vm_own rfl rfl rfl rfl | exact vm_own rfl rfl (by omega) (by omega) | exact vm_int (by omega) | exact vm_nil rfl | exact sbm_cells vmL_p | exact sbm_row rfl (fun _ _ => vm_p) | refine ⟨⟨_, rfl, ?_⟩, ?_⟩ | refine ⟨⟨_, _, _, rfl⟩, ?_⟩ | (refine sbm_loop ?_; rw [efr]) | refine sbm_cells ?_ | refine vmL.cons ?_ ?_ | exact vmL.nil | refine vm_own rfl rfl rfl ?_)
  · obtain rfl : k = fr.length := by omega
    with_reducible conv => whnf
    repeat' ((first | (with_reducible refine branch_t ?_) | (with_reducible refine branch_f ?_) | (with_reducible refine branch_nt ?_) | (with_reducible refine branch_nf ?_) | (with_reducible refine branch_dec (fun _ => ?_) (fun _ => ?_)) | (with_reducible refine branch_ndec (fun _ => ?_) (fun _ => ?_)) | (with_reducible refine branch_bool (fun _ => ?_) (fun _ => ?_)) | (with_reducible refine arith_64 (by omega) ?_) | (with_reducible refine ob_i (by omega) (fun _ => ?_)) | (with_reducible refine ob_i (by unfold room; omega) (fun _ => ?_)) | (with_reducible refine ob_i (by (try simp only [toN_eq, Int.toNat_natCast] at *); (try dsimp only [toN] at *); omega) (fun _ => ?_)) | (with_reducible refine arith_64 (by (try simp only [toN_eq, Int.toNat_natCast] at *); (try dsimp only [toN] at *); omega) ?_) | (with_reducible refine ob_k rfl ?_) | ((with_reducible refine ob_k ?_ ?_); focus kernel_rfl) | (refine yield_i hmix hT rfl hL efr eps eag ebd rfl (by kernel_rfl) ?_)  | (apply call_l (first_ok (l := [_, _]) (Nat.le_of_ble_eq_true rfl)) (.cons (vm_lit _ rfl rfl (.cons (vm_int rfl) (.cons (vm_int rfl) .nil))) .nil)) | (apply call_l (first_ok (l := [_, _, _]) (Nat.le_of_ble_eq_true rfl)) (.cons (vm_lit _ rfl rfl (.cons (vm_int rfl) (.cons (vm_int rfl) (.cons (vm_int rfl) .nil)))) .nil)) | (apply call_l (first_ok (l := [_, _, _, _]) (Nat.le_of_ble_eq_true rfl)) (.cons (vm_lit _ rfl rfl (.cons (vm_int rfl) (.cons (vm_int rfl) (.cons (vm_int rfl) (.cons (vm_int rfl) .nil))))) .nil))) <;> (try (exfalso; omega; done)) <;> (with_reducible conv => whnf))
    exact ret0 vm_p
set_option maxHeartbeats 4000000 in
set_option maxRecDepth 100000 in
theorem refUsable_ok {s : Sky} {lo hi : Int} {fr : List Int} {c : Nat} (v : s.Val) (tv : Task.Val ⟨c, lo, hi, fr⟩) : FnOK Try.prog 40 [eSky s, .agg [I c, I lo, I hi, eInts fr]] (.tup [eUsa (usaK s ⟨c, lo, hi, fr⟩ c fr.length), B (decide (0 < (usaK s ⟨c, lo, hi, fr⟩ c fr.length).per))]) [] := by
  have n1 := v.n1
  have g0 : 1 ≤ (c : Int) := tv.g0
  have g1 : (c : Int) ≤ 100 := tv.g1
  have tn : fr.length ≤ 30 := tv.n1
  have tf : ∀ i, i < fr.length → 1 ≤ fr.getD i 0 ∧ fr.getD i 0 ≤ 3000 := tv.f
  clear tv
  refine fn_i hmix hT Try.f40 (by kernel_rfl) rfl (by kernel_rfl) ?_
  with_reducible conv => whnf
  repeat' ((first | (with_reducible refine branch_t ?_) | (with_reducible refine branch_f ?_) | (with_reducible refine branch_nt ?_) | (with_reducible refine branch_nf ?_) | (with_reducible refine branch_dec (fun _ => ?_) (fun _ => ?_)) | (with_reducible refine branch_ndec (fun _ => ?_) (fun _ => ?_)) | (with_reducible refine branch_bool (fun _ => ?_) (fun _ => ?_)) | (with_reducible refine arith_64 (by omega) ?_) | (with_reducible refine ob_i (by omega) (fun _ => ?_)) | (with_reducible refine ob_i (by unfold room; omega) (fun _ => ?_)) | (with_reducible refine ob_i (by (try simp only [toN_eq, Int.toNat_natCast] at *); (try dsimp only [toN] at *); omega) (fun _ => ?_)) | (with_reducible refine arith_64 (by (try simp only [toN_eq, Int.toNat_natCast] at *); (try dsimp only [toN] at *); omega) ?_) | (with_reducible refine ob_k rfl ?_) | ((with_reducible refine ob_k ?_ ?_); focus kernel_rfl) | (refine yield_i hmix hT rfl hL efr eps eag ebd rfl (by kernel_rfl) ?_)  | (apply call_l (first_ok (l := [_, _]) (Nat.le_of_ble_eq_true rfl)) (.cons (vm_lit _ rfl rfl (.cons (vm_int rfl) (.cons (vm_int rfl) .nil))) .nil)) | (apply call_l (first_ok (l := [_, _, _]) (Nat.le_of_ble_eq_true rfl)) (.cons (vm_lit _ rfl rfl (.cons (vm_int rfl) (.cons (vm_int rfl) (.cons (vm_int rfl) .nil)))) .nil)) | (apply call_l (first_ok (l := [_, _, _, _]) (Nat.le_of_ble_eq_true rfl)) (.cons (vm_lit _ rfl rfl (.cons (vm_int rfl) (.cons (vm_int rfl) (.cons (vm_int rfl) (.cons (vm_int rfl) .nil))))) .nil))) <;> (try (exfalso; omega; done)) <;> (with_reducible conv => whnf))
  refine loop_i hmix hT (fun k : Nat => ([(2, .ptr 0 0), (3, .ptr 1 0), (4, .ptr 2 0), (6, .ptr 3 0), (7, I k)], ⟨4, [(3, .cells [I (usaK s ⟨c, lo, hi, fr⟩ c k).sure, I (usaK s ⟨c, lo, hi, fr⟩ c k).at_, I (usaK s ⟨c, lo, hi, fr⟩ c k).per] 68), (2, .cells [I 0, I 0, I 0] 68), (1, .cells [I c, I lo, I hi, eInts fr] 66), (0, .cells [I s.h, eSlabs s.sl] 24)]⟩)) (fun k => k ≤ fr.length) (fun k => fr.length - k) 0 (by omega) ?_ ?_
  · refine ⟨[], rfl, ?_, ?_⟩ <;> repeat' (first | exact trivial | exact vm_p | exact vm_ptr rfl rfl rfl | exact vm_yld rfl rfl | exact vm_own rfl rfl rfl rfl | exact vm_own rfl rfl (by omega) (by omega) | exact vm_int (by omega) | exact vm_nil rfl | exact sbm_cells vmL_p | exact sbm_row rfl (fun _ _ => vm_p) | refine ⟨⟨_, rfl, ?_⟩, ?_⟩ | refine ⟨⟨_, _, _, rfl⟩, ?_⟩ | (refine sbm_loop ?_; rw [efr]) | refine sbm_cells ?_ | refine vmL.cons ?_ ?_ | exact vmL.nil | refine vm_own rfl rfl rfl ?_)
  intro k hk
  by_cases h : k < fr.length
  · have tq : fr.getD (toN (k : Int)) 0 = fr.getD k 0 := by rw [toN_eq]; rfl
    have A := refAnswers_ok (lo := lo) (hi := hi) (fr := fr) (f := fr.getD (toN (k : Int)) 0) v (by rw [tq]; exact tf k h) (c := c) (by omega) (by omega)
    have al := ansL_len s (fr.getD k 0 * fr.getD k 0) ⟨c, lo, hi, fr⟩ c
    have nx : usaK s ⟨c, lo, hi, fr⟩ c (k + 1) = sufU (ansL s (fr.getD k 0 * fr.getD k 0) ⟨c, lo, hi, fr⟩ c) (fr.getD k 0) (usaK s ⟨c, lo, hi, fr⟩ c k) (ansL s (fr.getD k 0 * fr.getD k 0) ⟨c, lo, hi, fr⟩ c).length := rfl
    rw [tq] at A
    generalize ansL s (fr.getD k 0 * fr.getD k 0) ⟨c, lo, hi, fr⟩ c = L at A nx al
    rw [← tq] at A nx
    generalize usaK s ⟨c, lo, hi, fr⟩ c k = u at nx ⊢
    with_reducible conv => whnf
    repeat' ((first | (with_reducible refine branch_t ?_) | (with_reducible refine branch_f ?_) | (with_reducible refine branch_nt ?_) | (with_reducible refine branch_nf ?_) | (with_reducible refine branch_dec (fun _ => ?_) (fun _ => ?_)) | (with_reducible refine branch_ndec (fun _ => ?_) (fun _ => ?_)) | (with_reducible refine branch_bool (fun _ => ?_) (fun _ => ?_)) | (with_reducible refine arith_64 (by omega) ?_) | (with_reducible refine ob_i (by omega) (fun _ => ?_)) | (with_reducible refine ob_i (by unfold room; omega) (fun _ => ?_)) | (with_reducible refine ob_i (by (try simp only [] at *); (try dsimp only [toN] at *); omega) (fun _ => ?_)) | (with_reducible refine arith_64 (by (try simp only [] at *); (try dsimp only [toN] at *); omega) ?_) | (with_reducible refine ob_k rfl ?_) | ((with_reducible refine ob_k ?_ ?_); focus kernel_rfl) | (refine yield_i hmix hT rfl hL efr eps eag ebd rfl (by kernel_rfl) ?_) | (apply call_u A) | (apply call_l (first_ok (l := [_, _]) (Nat.le_of_ble_eq_true rfl)) (.cons (vm_lit _ rfl rfl (.cons (vm_int rfl) (.cons (vm_int rfl) .nil))) .nil)) | (apply call_l (first_ok (l := [_, _, _]) (Nat.le_of_ble_eq_true rfl)) (.cons (vm_lit _ rfl rfl (.cons (vm_int rfl) (.cons (vm_int rfl) (.cons (vm_int rfl) .nil)))) .nil)) | (apply call_l (first_ok (l := [_, _, _, _]) (Nat.le_of_ble_eq_true rfl)) (.cons (vm_lit _ rfl rfl (.cons (vm_int rfl) (.cons (vm_int rfl) (.cons (vm_int rfl) (.cons (vm_int rfl) .nil))))) .nil))) <;> (try (exfalso; omega; done)) <;> (with_reducible conv => whnf))
    refine loop_i hmix hT (fun m : Nat => ([(2, .ptr 0 0), (3, .ptr 1 0), (4, .ptr 2 0), (6, .ptr 3 0), (7, I k), (8, eInts L), (9, I ((L.length : Int) - 1 - m))], ⟨4, [(3, .cells [I (sufU L (fr.getD (toN (k : Int)) 0) u m).sure, I (sufU L (fr.getD (toN (k : Int)) 0) u m).at_, I (sufU L (fr.getD (toN (k : Int)) 0) u m).per] 68), (2, .cells [I 0, I 0, I 0] 68), (1, .cells [I c, I lo, I hi, eInts fr] 66), (0, .cells [I s.h, eSlabs s.sl] 24)]⟩)) (fun m => m ≤ L.length) (fun m => L.length - m) 0 (by omega) ?_ ?_
    · refine ⟨[], rfl, ?_, ?_⟩ <;> repeat' (first | exact trivial | exact vm_p | exact vm_ptr rfl rfl rfl | exact vm_yld rfl rfl | exact vm_own rfl rfl rfl rfl | exact vm_own rfl rfl (by omega) (by omega) | exact vm_int (by omega) | exact vm_nil rfl | exact sbm_cells vmL_p | exact sbm_row rfl (fun _ _ => vm_p) | refine ⟨⟨_, rfl, ?_⟩, ?_⟩ | refine ⟨⟨_, _, _, rfl⟩, ?_⟩ | (refine sbm_loop ?_; rw [efr]) | refine sbm_cells ?_ | refine vmL.cons ?_ ?_ | exact vmL.nil | refine vm_own rfl rfl rfl ?_)
    intro m hm
    by_cases hm2 : m < L.length
    · have ts : L.getD (toN ((L.length : Int) - 1 - m)) 0 = L.getD (L.length - 1 - m) 0 := by rw [toN_eq]; congr 1; omega
      have nm : sufU L (fr.getD (toN (k : Int)) 0) u (m + 1) = ⟨if L.getD (L.length - 1 - m) 0 = 2 then fr.getD (toN (k : Int)) 0 else (sufU L (fr.getD (toN (k : Int)) 0) u m).sure, if L.getD (L.length - 1 - m) 0 = 2 then ((L.length - 1 - m : Nat) : Int) else (sufU L (fr.getD (toN (k : Int)) 0) u m).at_, if L.getD (L.length - 1 - m) 0 ≠ 0 then fr.getD (toN (k : Int)) 0 else (sufU L (fr.getD (toN (k : Int)) 0) u m).per⟩ := rfl
      rw [← ts, show ((L.length - 1 - m : Nat) : Int) = (L.length : Int) - 1 - m by omega] at nm
      by_cases d1 : L.getD (toN ((L.length : Int) - 1 - m)) 0 = 2
      · rw [if_pos d1, if_pos d1, if_pos (by omega)] at nm
        with_reducible conv => whnf
        repeat' ((first | (with_reducible refine branch_t ?_) | (with_reducible refine branch_f ?_) | (with_reducible refine branch_nt ?_) | (with_reducible refine branch_nf ?_) | (with_reducible refine branch_dec (fun _ => ?_) (fun _ => ?_)) | (with_reducible refine branch_ndec (fun _ => ?_) (fun _ => ?_)) | (with_reducible refine branch_bool (fun _ => ?_) (fun _ => ?_)) | (with_reducible refine arith_64 (by omega) ?_) | (with_reducible refine ob_i (by omega) (fun _ => ?_)) | (with_reducible refine ob_i (by unfold room; omega) (fun _ => ?_)) | (with_reducible refine ob_i (by (try simp only [toN_eq] at *); (try dsimp only [toN] at *); omega) (fun _ => ?_)) | (with_reducible refine arith_64 (by (try simp only [toN_eq] at *); (try dsimp only [toN] at *); omega) ?_) | (with_reducible refine ob_k rfl ?_) | ((with_reducible refine ob_k ?_ ?_); focus kernel_rfl) | (refine yield_i hmix hT rfl hL efr eps eag ebd rfl (by kernel_rfl) ?_)  | (apply call_l (first_ok (l := [_, _]) (Nat.le_of_ble_eq_true rfl)) (.cons (vm_lit _ rfl rfl (.cons (vm_int rfl) (.cons (vm_int rfl) .nil))) .nil)) | (apply call_l (first_ok (l := [_, _, _]) (Nat.le_of_ble_eq_true rfl)) (.cons (vm_lit _ rfl rfl (.cons (vm_int rfl) (.cons (vm_int rfl) (.cons (vm_int rfl) .nil)))) .nil)) | (apply call_l (first_ok (l := [_, _, _, _]) (Nat.le_of_ble_eq_true rfl)) (.cons (vm_lit _ rfl rfl (.cons (vm_int rfl) (.cons (vm_int rfl) (.cons (vm_int rfl) (.cons (vm_int rfl) .nil))))) .nil))) <;> (try (exfalso; omega; done)) <;> (with_reducible conv => whnf))
        refine ⟨m + 1, by omega, by omega, ?_⟩
        rw [nm]
        refine ⟨[], rfl, ?_, ?_⟩ <;> repeat' (first | exact trivial | exact vm_p | exact vm_ptr rfl rfl rfl | exact vm_yld rfl rfl | exact vm_own rfl rfl rfl rfl | exact vm_own rfl rfl (by omega) (by omega) | exact vm_int (by omega) | exact vm_nil rfl | exact sbm_cells vmL_p | exact sbm_row rfl (fun _ _ => vm_p) | refine ⟨⟨_, rfl, ?_⟩, ?_⟩ | refine ⟨⟨_, _, _, rfl⟩, ?_⟩ | (refine sbm_loop ?_; rw [efr]) | refine sbm_cells ?_ | refine vmL.cons ?_ ?_ | exact vmL.nil | refine vm_own rfl rfl rfl ?_)
      by_cases d2 : L.getD (toN ((L.length : Int) - 1 - m)) 0 = 0
      · rw [if_neg d1, if_neg d1, if_neg (by omega)] at nm
        with_reducible conv => whnf
        repeat' ((first | (with_reducible refine branch_t ?_) | (with_reducible refine branch_f ?_) | (with_reducible refine branch_nt ?_) | (with_reducible refine branch_nf ?_) | (with_reducible refine branch_dec (fun _ => ?_) (fun _ => ?_)) | (with_reducible refine branch_ndec (fun _ => ?_) (fun _ => ?_)) | (with_reducible refine branch_bool (fun _ => ?_) (fun _ => ?_)) | (with_reducible refine arith_64 (by omega) ?_) | (with_reducible refine ob_i (by omega) (fun _ => ?_)) | (with_reducible refine ob_i (by unfold room; omega) (fun _ => ?_)) | (with_reducible refine ob_i (by (try simp only [toN_eq] at *); (try dsimp only [toN] at *); omega) (fun _ => ?_)) | (with_reducible refine arith_64 (by (try simp only [toN_eq] at *); (try dsimp only [toN] at *); omega) ?_) | (with_reducible refine ob_k rfl ?_) | ((with_reducible refine ob_k ?_ ?_); focus kernel_rfl) | (refine yield_i hmix hT rfl hL efr eps eag ebd rfl (by kernel_rfl) ?_)  | (apply call_l (first_ok (l := [_, _]) (Nat.le_of_ble_eq_true rfl)) (.cons (vm_lit _ rfl rfl (.cons (vm_int rfl) (.cons (vm_int rfl) .nil))) .nil)) | (apply call_l (first_ok (l := [_, _, _]) (Nat.le_of_ble_eq_true rfl)) (.cons (vm_lit _ rfl rfl (.cons (vm_int rfl) (.cons (vm_int rfl) (.cons (vm_int rfl) .nil)))) .nil)) | (apply call_l (first_ok (l := [_, _, _, _]) (Nat.le_of_ble_eq_true rfl)) (.cons (vm_lit _ rfl rfl (.cons (vm_int rfl) (.cons (vm_int rfl) (.cons (vm_int rfl) (.cons (vm_int rfl) .nil))))) .nil))) <;> (try (exfalso; omega; done)) <;> (with_reducible conv => whnf))
        refine ⟨m + 1, by omega, by omega, ?_⟩
        rw [nm]
        refine ⟨[], rfl, ?_, ?_⟩ <;> repeat' (first | exact trivial | exact vm_p | exact vm_ptr rfl rfl rfl | exact vm_yld rfl rfl | exact vm_own rfl rfl rfl rfl | exact vm_own rfl rfl (by omega) (by omega) | exact vm_int (by omega) | exact vm_nil rfl | exact sbm_cells vmL_p | exact sbm_row rfl (fun _ _ => vm_p) | refine ⟨⟨_, rfl, ?_⟩, ?_⟩ | refine ⟨⟨_, _, _, rfl⟩, ?_⟩ | (refine sbm_loop ?_; rw [efr]) | refine sbm_cells ?_ | refine vmL.cons ?_ ?_ | exact vmL.nil | refine vm_own rfl rfl rfl ?_)
      · rw [if_neg d1, if_neg d1, if_pos d2] at nm
        with_reducible conv => whnf
        repeat' ((first | (with_reducible refine branch_t ?_) | (with_reducible refine branch_f ?_) | (with_reducible refine branch_nt ?_) | (with_reducible refine branch_nf ?_) | (with_reducible refine branch_dec (fun _ => ?_) (fun _ => ?_)) | (with_reducible refine branch_ndec (fun _ => ?_) (fun _ => ?_)) | (with_reducible refine branch_bool (fun _ => ?_) (fun _ => ?_)) | (with_reducible refine arith_64 (by omega) ?_) | (with_reducible refine ob_i (by omega) (fun _ => ?_)) | (with_reducible refine ob_i (by unfold room; omega) (fun _ => ?_)) | (with_reducible refine ob_i (by (try simp only [toN_eq] at *); (try dsimp only [toN] at *); omega) (fun _ => ?_)) | (with_reducible refine arith_64 (by (try simp only [toN_eq] at *); (try dsimp only [toN] at *); omega) ?_) | (with_reducible refine ob_k rfl ?_) | ((with_reducible refine ob_k ?_ ?_); focus kernel_rfl) | (refine yield_i hmix hT rfl hL efr eps eag ebd rfl (by kernel_rfl) ?_)  | (apply call_l (first_ok (l := [_, _]) (Nat.le_of_ble_eq_true rfl)) (.cons (vm_lit _ rfl rfl (.cons (vm_int rfl) (.cons (vm_int rfl) .nil))) .nil)) | (apply call_l (first_ok (l := [_, _, _]) (Nat.le_of_ble_eq_true rfl)) (.cons (vm_lit _ rfl rfl (.cons (vm_int rfl) (.cons (vm_int rfl) (.cons (vm_int rfl) .nil)))) .nil)) | (apply call_l (first_ok (l := [_, _, _, _]) (Nat.le_of_ble_eq_true rfl)) (.cons (vm_lit _ rfl rfl (.cons (vm_int rfl) (.cons (vm_int rfl) (.cons (vm_int rfl) (.cons (vm_int rfl) .nil))))) .nil))) <;> (try (exfalso; omega; done)) <;> (with_reducible conv => whnf))
        refine ⟨m + 1, by omega, by omega, ?_⟩
        rw [nm]
        refine ⟨[], rfl, ?_, ?_⟩ <;> repeat' (first | exact trivial | exact vm_p | exact vm_ptr rfl rfl rfl | exact vm_yld rfl rfl | exact vm_own rfl rfl rfl rfl | exact vm_own rfl rfl (by omega) (by omega) | exact vm_int (by omega) | exact vm_nil rfl | exact sbm_cells vmL_p | exact sbm_row rfl (fun _ _ => vm_p) | refine ⟨⟨_, rfl, ?_⟩, ?_⟩ | refine ⟨⟨_, _, _, rfl⟩, ?_⟩ | (refine sbm_loop ?_; rw [efr]) | refine sbm_cells ?_ | refine vmL.cons ?_ ?_ | exact vmL.nil | refine vm_own rfl rfl rfl ?_)
    · obtain rfl : m = L.length := by omega
      rw [← nx]
      with_reducible conv => whnf
      repeat' ((first | (with_reducible refine branch_t ?_) | (with_reducible refine branch_f ?_) | (with_reducible refine branch_nt ?_) | (with_reducible refine branch_nf ?_) | (with_reducible refine branch_dec (fun _ => ?_) (fun _ => ?_)) | (with_reducible refine branch_ndec (fun _ => ?_) (fun _ => ?_)) | (with_reducible refine branch_bool (fun _ => ?_) (fun _ => ?_)) | (with_reducible refine arith_64 (by omega) ?_) | (with_reducible refine ob_i (by omega) (fun _ => ?_)) | (with_reducible refine ob_i (by unfold room; omega) (fun _ => ?_)) | (with_reducible refine ob_i (by (try simp only [] at *); (try dsimp only [toN] at *); omega) (fun _ => ?_)) | (with_reducible refine arith_64 (by (try simp only [] at *); (try dsimp only [toN] at *); omega) ?_) | (with_reducible refine ob_k rfl ?_) | ((with_reducible refine ob_k ?_ ?_); focus kernel_rfl) | (refine yield_i hmix hT rfl hL efr eps eag ebd rfl (by kernel_rfl) ?_)  | (apply call_l (first_ok (l := [_, _]) (Nat.le_of_ble_eq_true rfl)) (.cons (vm_lit _ rfl rfl (.cons (vm_int rfl) (.cons (vm_int rfl) .nil))) .nil)) | (apply call_l (first_ok (l := [_, _, _]) (Nat.le_of_ble_eq_true rfl)) (.cons (vm_lit _ rfl rfl (.cons (vm_int rfl) (.cons (vm_int rfl) (.cons (vm_int rfl) .nil)))) .nil)) | (apply call_l (first_ok (l := [_, _, _, _]) (Nat.le_of_ble_eq_true rfl)) (.cons (vm_lit _ rfl rfl (.cons (vm_int rfl) (.cons (vm_int rfl) (.cons (vm_int rfl) (.cons (vm_int rfl) .nil))))) .nil))) <;> (try (exfalso; omega; done)) <;> (with_reducible conv => whnf))
      refine ⟨k + 1, by omega, by omega, ?_⟩
      refine ⟨[], rfl, ?_, ?_⟩ <;> repeat' (first | exact trivial | exact vm_p | exact vm_ptr rfl rfl rfl | exact vm_yld rfl rfl | exact vm_own rfl rfl rfl rfl | exact vm_own rfl rfl (by omega) (by omega) | exact vm_int (by omega) | exact vm_nil rfl | exact sbm_cells vmL_p | exact sbm_row rfl (fun _ _ => vm_p) | refine ⟨⟨_, rfl, ?_⟩, ?_⟩ | refine ⟨⟨_, _, _, rfl⟩, ?_⟩ | (refine sbm_loop ?_; rw [efr]) | refine sbm_cells ?_ | refine vmL.cons ?_ ?_ | exact vmL.nil | refine vm_own rfl rfl rfl ?_)
  · obtain rfl : k = fr.length := by omega
    with_reducible conv => whnf
    repeat' ((first | (with_reducible refine branch_t ?_) | (with_reducible refine branch_f ?_) | (with_reducible refine branch_nt ?_) | (with_reducible refine branch_nf ?_) | (with_reducible refine branch_dec (fun _ => ?_) (fun _ => ?_)) | (with_reducible refine branch_ndec (fun _ => ?_) (fun _ => ?_)) | (with_reducible refine branch_bool (fun _ => ?_) (fun _ => ?_)) | (with_reducible refine arith_64 (by omega) ?_) | (with_reducible refine ob_i (by omega) (fun _ => ?_)) | (with_reducible refine ob_i (by unfold room; omega) (fun _ => ?_)) | (with_reducible refine ob_i (by (try simp only [] at *); (try dsimp only [toN] at *); omega) (fun _ => ?_)) | (with_reducible refine arith_64 (by (try simp only [toN_eq, Int.toNat_natCast] at *); (try dsimp only [toN] at *); omega) ?_) | (with_reducible refine ob_k rfl ?_) | ((with_reducible refine ob_k ?_ ?_); focus kernel_rfl) | (refine yield_i hmix hT rfl hL efr eps eag ebd rfl (by kernel_rfl) ?_)  | (apply call_l (first_ok (l := [_, _]) (Nat.le_of_ble_eq_true rfl)) (.cons (vm_lit _ rfl rfl (.cons (vm_int rfl) (.cons (vm_int rfl) .nil))) .nil)) | (apply call_l (first_ok (l := [_, _, _]) (Nat.le_of_ble_eq_true rfl)) (.cons (vm_lit _ rfl rfl (.cons (vm_int rfl) (.cons (vm_int rfl) (.cons (vm_int rfl) .nil)))) .nil)) | (apply call_l (first_ok (l := [_, _, _, _]) (Nat.le_of_ble_eq_true rfl)) (.cons (vm_lit _ rfl rfl (.cons (vm_int rfl) (.cons (vm_int rfl) (.cons (vm_int rfl) (.cons (vm_int rfl) .nil))))) .nil))) <;> (try (exfalso; omega; done)) <;> (with_reducible conv => whnf))
    exact ret0 vm_p
end Go.Proofs.Ytplaocfagjeikaa
