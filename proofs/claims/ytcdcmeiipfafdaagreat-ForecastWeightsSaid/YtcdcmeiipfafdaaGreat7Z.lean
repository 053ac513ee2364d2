/-
  Chapter 7: windows (by contract).
  Conditions: none.
-/
import Derived.Test.YtcdcmeiipfafdaaGreat7Y
namespace Go.Proofs.YtcdcmeiipfafdaaGreat
open Go.RowKit Fx
theorem sbm_snoc2 {S : Vw} {α : Type} {f : α → V} {d : α} {l : List α} {v w : α} {x y : V} {sz : Nat} {t : TypeId} [h : ∀ a, IsPure (f a)] (hx : vm S x (f v)) (hy : vm S y (f w)) :
    sbm S (.row sz (l.length + 2) (appF l.length (fun i => f (l.getD i d)) (litF [x, y])) t) (.row sz (l ++ [v, w]).length (fun i => f ((l ++ [v, w]).getD i d)) t) := by
  refine sbm_row (by simp) fun i hi => ?_
  rw [List.length_append] at hi
  simp only [List.length_cons, List.length_nil] at hi
  by_cases h1 : i < l.length
  · have : (l ++ [v, w]).getD i d = l.getD i d := by
      rw [List.getD_eq_getElem?_getD, List.getD_eq_getElem?_getD, List.getElem?_append_left h1]
    rw [appF_lt h1, this]; exact vm_p
  · rw [appF_ge h1]
    by_cases h2 : i = l.length
    · subst h2
      have : (l ++ [v, w]).getD l.length d = v := by
        rw [List.getD_eq_getElem?_getD, List.getElem?_append_right (Nat.le_refl _)]; simp
      rw [this, Nat.sub_self]; exact hx
    · obtain rfl : i = l.length + 1 := by omega
      have : (l ++ [v, w]).getD (l.length + 1) d = w := by
        rw [List.getD_eq_getElem?_getD, List.getElem?_append_right (by omega)]; simp
      rw [this, show l.length + 1 - l.length = 1 by omega]; exact hy
theorem sbm_set {S : Vw} {α : Type} {f : α → V} {d : α} {l : List α} {v : α} {x : V} {sz j : Nat} {t : TypeId} [h : ∀ a, IsPure (f a)] (hj : j < l.length) (hx : vm S x (f v)) :
    sbm S (.row sz l.length (setF (fun i => f (l.getD i d)) j x) t) (.row sz (l.set j v).length (fun i => f ((l.set j v).getD i d)) t) := by
  refine sbm_row (by simp) fun i hi => ?_
  rw [List.getD_eq_getElem?_getD, List.getElem?_set]
  by_cases e : i = j
  · subst e
    rw [setF_at, if_pos rfl, if_pos hj]; exact hx
  · rw [setF_ne e, if_neg (Ne.symm e), ← List.getD_eq_getElem?_getD]; exact vm_p
/-! ### Borders -/
def bordK (L : List (Int × Int)) : Nat → List Int
  | 0 => [0, 3001]
  | k + 1 => bordK L k ++ [(L.getD k (0, 0)).1, (L.getD k (0, 0)).2 + 1]
theorem bordK_len (L : List (Int × Int)) : ∀ k, (bordK L k).length = 2 * k + 2
  | 0 => rfl
  | k + 1 => by rw [bordK, List.length_append, bordK_len L k]; simp only [List.length_cons, List.length_nil]; omega
theorem bordK_bd {L : List (Int × Int)} (h : ∀ i, i < L.length → 0 ≤ (L.getD i (0, 0)).1 ∧ (L.getD i (0, 0)).1 ≤ (L.getD i (0, 0)).2 ∧ (L.getD i (0, 0)).2 ≤ 3000) : ∀ k, k ≤ L.length → ∀ x ∈ bordK L k, 0 ≤ x ∧ x ≤ 3001
  | 0, _, x, hx => by
    simp only [bordK, List.mem_cons, List.not_mem_nil, or_false] at hx
    omega
  | k + 1, hk, x, hx => by
    have := h k (by omega)
    simp only [bordK, List.mem_append, List.mem_cons, List.not_mem_nil, or_false] at hx
    rcases hx with hx | hx | hx
    · exact bordK_bd h k (by omega) x hx
    · omega
    · omega
def sortB (L : List (Int × Int)) : List Int := (bordK L L.length).mergeSort fun x y => decide (x ≤ y)
def bords (L : List (Int × Int)) : List Int := Lib.compact (sortB L)
theorem sortB_len (L : List (Int × Int)) : (sortB L).length = (bordK L L.length).length := List.length_mergeSort _
theorem compact_mem {zs : List Int} {x : Int} (h : x ∈ Lib.compact zs) : x ∈ zs := by
  unfold Lib.compact Lib.compactUpTo at h
  obtain ⟨j, h1, rfl⟩ := List.mem_map.1 h
  have h2 := List.mem_range.1 (List.mem_filter.1 h1).1
  have : zs.toArray[j]! = zs[j] := by rw [getElem!_pos zs.toArray j (by simpa using h2)]; simp
  rw [this]
  exact List.getElem_mem _
theorem compact_le (zs : List Int) : (Lib.compact zs).length ≤ zs.length := by
  unfold Lib.compact Lib.compactUpTo
  rw [List.length_map]
  exact Nat.le_trans (List.length_filter_le _ _) (by simp)
theorem compact_pos {zs : List Int} (h : 0 < zs.length) : 0 < (Lib.compact zs).length := by
  unfold Lib.compact Lib.compactUpTo
  rw [List.length_map]
  exact List.length_pos_of_mem (a := 0) (List.mem_filter.2 ⟨List.mem_range.2 h, Lib.keeps_lt_one _ 0 (by omega)⟩)
theorem bords_bd {L : List (Int × Int)} (h : ∀ i, i < L.length → 0 ≤ (L.getD i (0, 0)).1 ∧ (L.getD i (0, 0)).1 ≤ (L.getD i (0, 0)).2 ∧ (L.getD i (0, 0)).2 ≤ 3000) (i : Nat) : 0 ≤ (bords L).getD i 0 ∧ (bords L).getD i 0 ≤ 3001 := by
  by_cases hi : i < (bords L).length
  · rw [List.getD_eq_getElem?_getD, List.getElem?_eq_getElem hi]
    exact bordK_bd h _ (Nat.le_refl _) _ (List.mem_mergeSort.1 (compact_mem (List.getElem_mem hi)))
  · rw [List.getD_eq_getElem?_getD, List.getElem?_eq_none (by omega)]
    exact ⟨by decide, by decide⟩
/-! ### Windows -/
def winS (C : List Int) (L : List (Int × Int)) (s : Int) (k : Nat) (W : List (Int × Int)) : List (Int × Int) :=
  if enB (num L (C.getD k 0)) L.length s = true then
    if 0 < W.length ∧ (W.getD (W.length - 1) (0, 0)).2 = C.getD k 0 - 1 then W.set (W.length - 1) ((W.getD (W.length - 1) (0, 0)).1, C.getD (k + 1) 0 - 1) else W ++ [(C.getD k 0, C.getD (k + 1) 0 - 1)]
  else W
def winK (C : List Int) (L : List (Int × Int)) (s : Int) : Nat → List (Int × Int)
  | 0 => []
  | k + 1 => winS C L s k (winK C L s k)
theorem winK_len (C : List Int) (L : List (Int × Int)) (s : Int) : ∀ k, (winK C L s k).length ≤ k
  | 0 => Nat.le_refl _
  | k + 1 => by
    have := winK_len C L s k
    rw [winK]; unfold winS
    split
    · split
      · rw [List.length_set]; omega
      · rw [List.length_append]; simp only [List.length_cons, List.length_nil]; omega
    · omega
def win (L : List (Int × Int)) (s : Int) : List (Int × Int) := winK (bords L) L s ((bords L).length - 1)
theorem windowsOf_bad {l : List Rc} {q : Qr} {s : Int} (hl : l.length ≤ 9223372036854775807) (h : askE l q s ≠ 0) : FnOK Tryz.prog 29 [eRcs l, eQr q, I s] (.tup [ePs [], I (askE l q s)]) [] := by
  by_cases z : preE l q s = 0
  · have e : askE l q s = 12 := by unfold askE at h ⊢; grind
    have sl : ¬ 0 < (sel q l).length := by unfold askE at h; grind
    have A := ask_good z
    rw [if_neg sl] at A
    refine fn_i hmix hT Tryz.f29 (by kernel_rfl) rfl (by kernel_rfl) ?_
    with_reducible conv => whnf
    repeat' ((first | (with_reducible refine branch_t ?_) | (with_reducible refine branch_f ?_) | (with_reducible refine branch_nt ?_) | (with_reducible refine branch_nf ?_) | (with_reducible refine branch_dec (fun _ => ?_) (fun _ => ?_)) | (with_reducible refine branch_ndec (fun _ => ?_) (fun _ => ?_)) | (with_reducible refine branch_bool (fun _ => ?_) (fun _ => ?_)) | (with_reducible refine arith_64 (by omega) ?_) | (with_reducible refine ob_i (by omega) (fun _ => ?_)) | (with_reducible refine ob_i (by unfold room; omega) (fun _ => ?_)) | (with_reducible refine ob_i (by (try simp only [toN_eq, Int.toNat_natCast] at *); (try dsimp only [toN] at *); omega) (fun _ => ?_)) | (with_reducible refine arith_64 (by (try simp only [toN_eq, Int.toNat_natCast] at *); (try dsimp only [toN] at *); omega) ?_) | (with_reducible refine ob_k rfl ?_) | ((with_reducible refine ob_k ?_ ?_); focus kernel_rfl) | (refine yield_i hmix hT rfl hL efr eps eag ebd rfl (by kernel_rfl) ?_) | (apply call_u A) | (apply call_l (first_ok (l := [_, _]) (Nat.le_of_ble_eq_true rfl)) (.cons (vm_lit _ rfl rfl (.cons (vm_int rfl) (.cons (vm_int rfl) .nil))) .nil)) | (apply call_l (first_ok (l := [_, _, _]) (Nat.le_of_ble_eq_true rfl)) (.cons (vm_lit _ rfl rfl (.cons (vm_int rfl) (.cons (vm_int rfl) (.cons (vm_int rfl) .nil)))) .nil)) | (apply call_l (first_ok (l := [_, _, _, _]) (Nat.le_of_ble_eq_true rfl)) (.cons (vm_lit _ rfl rfl (.cons (vm_int rfl) (.cons (vm_int rfl) (.cons (vm_int rfl) (.cons (vm_int rfl) .nil))))) .nil))) <;> (try (exfalso; omega; done)) <;> (with_reducible conv => whnf))
    exact ret0 (vm_tup (.cons (vm_nilsl rfl) (.cons (vm_int e.symm) .nil)))
  · have e : askE l q s = preE l q s := by unfold askE; grind
    refine fn_i hmix hT Tryz.f29 (by kernel_rfl) rfl (by kernel_rfl) ?_
    with_reducible conv => whnf
    repeat' ((first | (with_reducible refine branch_t ?_) | (with_reducible refine branch_f ?_) | (with_reducible refine branch_nt ?_) | (with_reducible refine branch_nf ?_) | (with_reducible refine branch_dec (fun _ => ?_) (fun _ => ?_)) | (with_reducible refine branch_ndec (fun _ => ?_) (fun _ => ?_)) | (with_reducible refine branch_bool (fun _ => ?_) (fun _ => ?_)) | (with_reducible refine arith_64 (by omega) ?_) | (with_reducible refine ob_i (by omega) (fun _ => ?_)) | (with_reducible refine ob_i (by unfold room; omega) (fun _ => ?_)) | (with_reducible refine ob_i (by (try simp only [toN_eq, Int.toNat_natCast] at *); (try dsimp only [toN] at *); omega) (fun _ => ?_)) | (with_reducible refine arith_64 (by (try simp only [toN_eq, Int.toNat_natCast] at *); (try dsimp only [toN] at *); omega) ?_) | (with_reducible refine ob_k rfl ?_) | ((with_reducible refine ob_k ?_ ?_); focus kernel_rfl) | (refine yield_i hmix hT rfl hL efr eps eag ebd rfl (by kernel_rfl) ?_) | (apply call_u (ask_bad hl z)) | (apply call_l (first_ok (l := [_, _]) (Nat.le_of_ble_eq_true rfl)) (.cons (vm_lit _ rfl rfl (.cons (vm_int rfl) (.cons (vm_int rfl) .nil))) .nil)) | (apply call_l (first_ok (l := [_, _, _]) (Nat.le_of_ble_eq_true rfl)) (.cons (vm_lit _ rfl rfl (.cons (vm_int rfl) (.cons (vm_int rfl) (.cons (vm_int rfl) .nil)))) .nil)) | (apply call_l (first_ok (l := [_, _, _, _]) (Nat.le_of_ble_eq_true rfl)) (.cons (vm_lit _ rfl rfl (.cons (vm_int rfl) (.cons (vm_int rfl) (.cons (vm_int rfl) (.cons (vm_int rfl) .nil))))) .nil))) <;> (try (exfalso; omega; done)) <;> (with_reducible conv => whnf))
    exact ret0 (vm_tup (.cons (vm_nilsl rfl) (.cons (vm_int e.symm) .nil)))
theorem windowsOf_good {l : List Rc} {q : Qr} {s : Int} (h : askE l q s = 0) : FnOK Tryz.prog 29 [eRcs l, eQr q, I s] (.tup [ePs (win (sel q l) s), I 0]) [] := by
  obtain ⟨z, sp⟩ := ask_zero h
  obtain ⟨z1, z2, z3⟩ := pre_zero z
  have z3 := sh_val z3
  obtain ⟨v1, v2⟩ := sel_val (q := q) z1
  have A := ask_good z
  rw [if_pos sp] at A
  generalize sel q l = L at *
  have bl := bordK_len L L.length
  have S := sort_row (zs := bordK L L.length) (by omega)
  have C := compact_row (zs := sortB L) (by rw [sortB_len]; omega)
  have cl := compact_le (sortB L)
  have cp := compact_pos (zs := sortB L) (by rw [sortB_len]; omega)
  have sl := sortB_len L
  change (bords L).length ≤ _ at cl
  change 0 < (bords L).length at cp
  have bd := bords_bd v2
  have hR : ∀ i, i < (bords L).length → (Lib.compact (sortB L) ++ List.replicate ((sortB L).length - (Lib.compact (sortB L)).length) 0).getD i 0 = (bords L).getD i 0 := fun i hi => by
    rw [List.getD_eq_getElem?_getD, List.getElem?_append_left (show i < (Lib.compact (sortB L)).length from hi), ← List.getD_eq_getElem?_getD]; rfl
  have hRl : (Lib.compact (sortB L) ++ List.replicate ((sortB L).length - (Lib.compact (sortB L)).length) 0).length = (bordK L L.length).length := by
    rw [List.length_append, List.length_replicate]
    change (bords L).length + ((sortB L).length - (bords L).length) = _
    omega
  change RowFn Tryz.prog _ (sortB L) _ (some (bords L).length) at C
  generalize Lib.compact (sortB L) ++ List.replicate ((sortB L).length - (Lib.compact (sortB L)).length) 0 = R at *
  refine fn_i hmix hT Tryz.f29 (by kernel_rfl) rfl (by kernel_rfl) ?_
  with_reducible conv => whnf
  repeat' ((first | (with_reducible refine branch_t ?_) | (with_reducible refine branch_f ?_) | (with_reducible refine branch_nt ?_) | (with_reducible refine branch_nf ?_) | (with_reducible refine branch_dec (fun _ => ?_) (fun _ => ?_)) | (with_reducible refine branch_ndec (fun _ => ?_) (fun _ => ?_)) | (with_reducible refine branch_bool (fun _ => ?_) (fun _ => ?_)) | (with_reducible refine arith_64 (by omega) ?_) | (with_reducible refine ob_i (by omega) (fun _ => ?_)) | (with_reducible refine ob_i (by unfold room; omega) (fun _ => ?_)) | (with_reducible refine ob_i (by (try simp only [toN_eq, Int.toNat_natCast] at *); (try dsimp only [toN] at *); omega) (fun _ => ?_)) | (with_reducible refine arith_64 (by (try simp only [toN_eq, Int.toNat_natCast] at *); (try dsimp only [toN] at *); omega) ?_) | (with_reducible refine ob_k rfl ?_) | ((with_reducible refine ob_k ?_ ?_); focus kernel_rfl) | (refine yield_i hmix hT rfl hL efr eps eag ebd rfl (by kernel_rfl) ?_) | (apply call_u A) | (apply call_l (first_ok (l := [_, _]) (Nat.le_of_ble_eq_true rfl)) (.cons (vm_lit _ rfl rfl (.cons (vm_int rfl) (.cons (vm_int rfl) .nil))) .nil)) | (apply call_l (first_ok (l := [_, _, _]) (Nat.le_of_ble_eq_true rfl)) (.cons (vm_lit _ rfl rfl (.cons (vm_int rfl) (.cons (vm_int rfl) (.cons (vm_int rfl) .nil)))) .nil)) | (apply call_l (first_ok (l := [_, _, _, _]) (Nat.le_of_ble_eq_true rfl)) (.cons (vm_lit _ rfl rfl (.cons (vm_int rfl) (.cons (vm_int rfl) (.cons (vm_int rfl) (.cons (vm_int rfl) .nil))))) .nil))) <;> (try (exfalso; omega; done)) <;> (with_reducible conv => whnf))
  refine loop_i hmix hT (fun k : Nat => ([(2, I s), (8, ePs L), (10, .own 1 1 0 (bordK L k).length), (28, ePs L), (29, I L.length), (30, I k)], ⟨2, [(1, .row 1 (bordK L k).length (fun i => I ((bordK L k).getD i 0)) 3)]⟩)) (fun k => k ≤ L.length) (fun k => L.length - k) 0 (by omega) ?_ ?_
  · refine ⟨[(1, some 1)], rfl, ?_, ?_⟩ <;> repeat' (first | exact trivial | exact vm_p | exact vm_ptr rfl rfl rfl | exact vm_yld rfl rfl | exact vm_own rfl rfl rfl rfl | exact vm_own rfl rfl (by omega) (by omega) | exact vm_int (by omega) | exact vm_nil rfl | exact sbm_cells vmL_p | exact sbm_row rfl (fun _ _ => vm_p) | refine ⟨⟨_, rfl, ?_⟩, ?_⟩ | refine ⟨⟨_, _, _, rfl⟩, ?_⟩ | (refine sbm_loop ?_; rw [efr]) | refine sbm_cells ?_ | refine vmL.cons ?_ ?_ | exact vmL.nil | refine vm_own rfl rfl rfl ?_)
    exact sbm_row rfl fun i hi => match i, hi with | 0, _ => vm_p | 1, _ => vm_p | n + 2, h => absurd h (by simp [bordK])
  intro k hk
  have tl := bordK_len L k
  by_cases hlt : k < L.length
  · have tq : L.getD (toN (k : Int)) (0, 0) = L.getD k (0, 0) := by rw [toN_nat]
    have nx : bordK L (k + 1) = bordK L k ++ [(L.getD (toN (k : Int)) (0, 0)).1, (L.getD (toN (k : Int)) (0, 0)).2 + 1] := by rw [bordK, tq]
    have bk := v2 k hlt
    rw [← tq] at bk
    with_reducible conv => whnf
    repeat' ((first | (with_reducible refine branch_t ?_) | (with_reducible refine branch_f ?_) | (with_reducible refine branch_nt ?_) | (with_reducible refine branch_nf ?_) | (with_reducible refine branch_dec (fun _ => ?_) (fun _ => ?_)) | (with_reducible refine branch_ndec (fun _ => ?_) (fun _ => ?_)) | (with_reducible refine branch_bool (fun _ => ?_) (fun _ => ?_)) | (with_reducible refine arith_64 (by omega) ?_) | (with_reducible refine ob_i (by omega) (fun _ => ?_)) | (with_reducible refine ob_i (by unfold room; omega) (fun _ => ?_)) | (with_reducible refine ob_i (by (try simp only [toN_eq, Int.toNat_natCast] at *); (try dsimp only [toN] at *); omega) (fun _ => ?_)) | (with_reducible refine arith_64 (by (try simp only [toN_eq, Int.toNat_natCast] at *); (try dsimp only [toN] at *); omega) ?_) | (with_reducible refine ob_k rfl ?_) | ((with_reducible refine ob_k ?_ ?_); focus kernel_rfl) | (refine yield_i hmix hT rfl hL efr eps eag ebd rfl (by kernel_rfl) ?_)  | (apply call_l (first_ok (l := [_, _]) (Nat.le_of_ble_eq_true rfl)) (.cons (vm_lit _ rfl rfl (.cons (vm_int rfl) (.cons (vm_int rfl) .nil))) .nil)) | (apply call_l (first_ok (l := [_, _, _]) (Nat.le_of_ble_eq_true rfl)) (.cons (vm_lit _ rfl rfl (.cons (vm_int rfl) (.cons (vm_int rfl) (.cons (vm_int rfl) .nil)))) .nil)) | (apply call_l (first_ok (l := [_, _, _, _]) (Nat.le_of_ble_eq_true rfl)) (.cons (vm_lit _ rfl rfl (.cons (vm_int rfl) (.cons (vm_int rfl) (.cons (vm_int rfl) (.cons (vm_int rfl) .nil))))) .nil))) <;> (try (exfalso; omega; done)) <;> (with_reducible conv => whnf))
    refine ⟨k + 1, by omega, by omega, ?_⟩
    rw [nx]
    refine ⟨[(1, some 4)], rfl, ?_, ?_⟩ <;> repeat' (first | exact trivial | exact vm_p | exact vm_ptr rfl rfl rfl | exact vm_yld rfl rfl | exact vm_own rfl rfl rfl rfl | exact vm_own rfl rfl (by omega) (by omega) | exact vm_int (by omega) | exact vm_nil rfl | exact sbm_cells vmL_p | exact sbm_row rfl (fun _ _ => vm_p) | refine ⟨⟨_, rfl, ?_⟩, ?_⟩ | refine ⟨⟨_, _, _, rfl⟩, ?_⟩ | (refine sbm_loop ?_; rw [efr]) | refine sbm_cells ?_ | refine vmL.cons ?_ ?_ | exact vmL.nil | refine vm_own rfl rfl rfl ?_)
    all_goals first | exact sbm_snoc2 vm_p vm_p | (simp; done)
  · obtain rfl : k = L.length := by omega
    with_reducible conv => whnf
    repeat' ((first | (with_reducible refine branch_t ?_) | (with_reducible refine branch_f ?_) | (with_reducible refine branch_nt ?_) | (with_reducible refine branch_nf ?_) | (with_reducible refine branch_dec (fun _ => ?_) (fun _ => ?_)) | (with_reducible refine branch_ndec (fun _ => ?_) (fun _ => ?_)) | (with_reducible refine branch_bool (fun _ => ?_) (fun _ => ?_)) | (with_reducible refine arith_64 (by omega) ?_) | (with_reducible refine ob_i (by omega) (fun _ => ?_)) | (with_reducible refine ob_i (by unfold room; omega) (fun _ => ?_)) | (with_reducible refine ob_i (by (try simp only [toN_eq, Int.toNat_natCast] at *); (try dsimp only [toN] at *); omega) (fun _ => ?_)) | (with_reducible refine arith_64 (by (try simp only [toN_eq, Int.toNat_natCast] at *); (try dsimp only [toN] at *); omega) ?_) | (with_reducible refine ob_k rfl ?_) | ((with_reducible refine ob_k ?_ ?_); focus kernel_rfl) | (refine yield_i hmix hT rfl hL efr eps eag ebd rfl (by kernel_rfl) ?_) | (apply call_row S (by rfl) (by rfl) (by omega) (by rw [List.length_mergeSort]) (by intro i hi; rfl) (by intro k hk; cases hk)) | (apply call_row C (by rfl) sl (by omega) hRl (by intro i hi; rfl) (by intro k hk; cases hk; omega)) | (apply call_l (first_ok (l := [_, _]) (Nat.le_of_ble_eq_true rfl)) (.cons (vm_lit _ rfl rfl (.cons (vm_int rfl) (.cons (vm_int rfl) .nil))) .nil)) | (apply call_l (first_ok (l := [_, _, _]) (Nat.le_of_ble_eq_true rfl)) (.cons (vm_lit _ rfl rfl (.cons (vm_int rfl) (.cons (vm_int rfl) (.cons (vm_int rfl) .nil)))) .nil)) | (apply call_l (first_ok (l := [_, _, _, _]) (Nat.le_of_ble_eq_true rfl)) (.cons (vm_lit _ rfl rfl (.cons (vm_int rfl) (.cons (vm_int rfl) (.cons (vm_int rfl) (.cons (vm_int rfl) .nil))))) .nil))) <;> (try (exfalso; omega; done)) <;> (with_reducible conv => whnf))
    have t1 : toN (((bords L).length : Int) - 1) = (bords L).length - 1 := by rw [toN_eq]; omega
    refine loop_i hmix hT (fun k : Nat => ([(2, I s), (8, ePs L), (10, .own 1 1 0 (bords L).length), (13, .own 2 2 0 (winK (bords L) L s k).length), (51, .own 1 1 0 (toN (((bords L).length : Int) - 1))), (52, I (toN (((bords L).length : Int) - 1))), (53, I k)], ⟨3, [(2, .row 2 (winK (bords L) L s k).length (fun i => eP ((winK (bords L) L s k).getD i (0, 0))) 64), (1, .row 1 (bordK L L.length).length (fun i => I (R.getD i 0)) 3)]⟩)) (fun k => k ≤ (bords L).length - 1) (fun k => (bords L).length - 1 - k) 0 (by omega) ?_ ?_
    · refine ⟨[(1, some 1), (2, none)], rfl, ?_, ?_⟩ <;> repeat' (first | exact trivial | exact vm_p | exact vm_ptr rfl rfl rfl | exact vm_yld rfl rfl | exact vm_own rfl rfl rfl rfl | exact vm_own rfl rfl (by omega) (by omega) | exact vm_int (by omega) | exact vm_nil rfl | exact sbm_cells vmL_p | exact sbm_row rfl (fun _ _ => vm_p) | refine ⟨⟨_, rfl, ?_⟩, ?_⟩ | refine ⟨⟨_, _, _, rfl⟩, ?_⟩ | (refine sbm_loop ?_; rw [efr]) | refine sbm_cells ?_ | refine vmL.cons ?_ ?_ | exact vmL.nil | refine vm_own rfl rfl rfl ?_)
    intro k hk
    have wl := winK_len (bords L) L s k
    by_cases hlt : k < (bords L).length - 1
    · have tq : R.getD (0 + toN (k : Int)) 0 = (bords L).getD k 0 := by rw [toN_nat, Nat.zero_add]; exact hR k (by omega)
      have tq1 : R.getD (0 + toN ((k : Int) + 1)) 0 = (bords L).getD (k + 1) 0 := by rw [show ((k : Int) + 1) = ((k + 1 : Nat) : Int) by omega, toN_nat, Nat.zero_add]; exact hR (k + 1) (by omega)
      have b1 := bd k
      have b2 := bd (k + 1)
      have nl := num_le L ((bords L).getD k 0)
      have N := number_ok (L := L) (f := R.getD (0 + toN (k : Int)) 0) (by omega)
      have E := isShare_ok (n := (num L (R.getD (0 + toN (k : Int)) 0) : Int)) (t := (L.length : Int)) (s := s) (by rw [tq]; omega) (by omega) z3
      cases e : enB (num L (R.getD (0 + toN (k : Int)) 0) : Int) (L.length : Int) s with
      | false =>
        rw [e] at E
        have hw : winK (bords L) L s (k + 1) = winK (bords L) L s k := by
          rw [winK]; unfold winS
          rw [if_neg (by rw [← tq, e]; decide)]
        with_reducible conv => whnf
        repeat' ((first | (with_reducible refine branch_t ?_) | (with_reducible refine branch_f ?_) | (with_reducible refine branch_nt ?_) | (with_reducible refine branch_nf ?_) | (with_reducible refine branch_dec (fun _ => ?_) (fun _ => ?_)) | (with_reducible refine branch_ndec (fun _ => ?_) (fun _ => ?_)) | (with_reducible refine branch_bool (fun _ => ?_) (fun _ => ?_)) | (with_reducible refine arith_64 (by omega) ?_) | (with_reducible refine ob_i (by omega) (fun _ => ?_)) | (with_reducible refine ob_i (by unfold room; omega) (fun _ => ?_)) | (with_reducible refine ob_i (by (try simp only [toN_eq, Int.toNat_natCast] at *); (try dsimp only [toN] at *); omega) (fun _ => ?_)) | (with_reducible refine arith_64 (by (try simp only [toN_eq, Int.toNat_natCast] at *); (try dsimp only [toN] at *); omega) ?_) | (with_reducible refine ob_k rfl ?_) | ((with_reducible refine ob_k ?_ ?_); focus kernel_rfl) | (refine yield_i hmix hT rfl hL efr eps eag ebd rfl (by kernel_rfl) ?_) | (apply call_u N) | (apply call_u E) | (apply call_l (first_ok (l := [_, _]) (Nat.le_of_ble_eq_true rfl)) (.cons (vm_lit _ rfl rfl (.cons (vm_int rfl) (.cons (vm_int rfl) .nil))) .nil)) | (apply call_l (first_ok (l := [_, _, _]) (Nat.le_of_ble_eq_true rfl)) (.cons (vm_lit _ rfl rfl (.cons (vm_int rfl) (.cons (vm_int rfl) (.cons (vm_int rfl) .nil)))) .nil)) | (apply call_l (first_ok (l := [_, _, _, _]) (Nat.le_of_ble_eq_true rfl)) (.cons (vm_lit _ rfl rfl (.cons (vm_int rfl) (.cons (vm_int rfl) (.cons (vm_int rfl) (.cons (vm_int rfl) .nil))))) .nil))) <;> (try (exfalso; omega; done)) <;> (with_reducible conv => whnf))
        refine ⟨k + 1, by omega, by omega, ?_⟩
        rw [hw]
        refine ⟨[(1, some 1), (2, some 2)], rfl, ?_, ?_⟩ <;> repeat' (first | exact trivial | exact vm_p | exact vm_ptr rfl rfl rfl | exact vm_yld rfl rfl | exact vm_own rfl rfl rfl rfl | exact vm_own rfl rfl (by omega) (by omega) | exact vm_int (by omega) | exact vm_nil rfl | exact sbm_cells vmL_p | exact sbm_row rfl (fun _ _ => vm_p) | refine ⟨⟨_, rfl, ?_⟩, ?_⟩ | refine ⟨⟨_, _, _, rfl⟩, ?_⟩ | (refine sbm_loop ?_; rw [efr]) | refine sbm_cells ?_ | refine vmL.cons ?_ ?_ | exact vmL.nil | refine vm_own rfl rfl rfl ?_)
      | true =>
        rw [e] at E
        have e' : enB (num L ((bords L).getD k 0) : Int) (L.length : Int) s = true := by rw [← tq, e]
        have nx : winK (bords L) L s (k + 1) = if 0 < (winK (bords L) L s k).length ∧ ((winK (bords L) L s k).getD ((winK (bords L) L s k).length - 1) (0, 0)).2 = (bords L).getD k 0 - 1 then (winK (bords L) L s k).set ((winK (bords L) L s k).length - 1) (((winK (bords L) L s k).getD ((winK (bords L) L s k).length - 1) (0, 0)).1, (bords L).getD (k + 1) 0 - 1) else winK (bords L) L s k ++ [((bords L).getD k 0, (bords L).getD (k + 1) 0 - 1)] := by
          rw [winK]; unfold winS
          rw [if_pos e']
        generalize winK (bords L) L s k = W at *
        have u0 : 0 < W.length → 0 + toN ((W.length : Int) - 1) = W.length - 1 := fun h => by rw [toN_eq]; omega
        by_cases c1 : 0 < W.length
        · by_cases c2 : (W.getD (0 + toN ((W.length : Int) - 1)) (0, 0)).2 = R.getD (0 + toN (k : Int)) 0 - 1
          · rw [if_pos ⟨c1, by rw [← u0 c1, c2, tq]⟩] at nx
            with_reducible conv => whnf
            repeat' ((first | (with_reducible refine branch_t ?_) | (with_reducible refine branch_f ?_) | (with_reducible refine branch_nt ?_) | (with_reducible refine branch_nf ?_) | (with_reducible refine branch_dec (fun _ => ?_) (fun _ => ?_)) | (with_reducible refine branch_ndec (fun _ => ?_) (fun _ => ?_)) | (with_reducible refine branch_bool (fun _ => ?_) (fun _ => ?_)) | (with_reducible refine arith_64 (by omega) ?_) | (with_reducible refine ob_i (by omega) (fun _ => ?_)) | (with_reducible refine ob_i (by unfold room; omega) (fun _ => ?_)) | (with_reducible refine ob_i (by (try simp only [toN_eq, Int.toNat_natCast] at *); (try dsimp only [toN] at *); omega) (fun _ => ?_)) | (with_reducible refine arith_64 (by (try simp only [toN_eq, Int.toNat_natCast] at *); (try dsimp only [toN] at *); omega) ?_) | (with_reducible refine ob_k rfl ?_) | ((with_reducible refine ob_k ?_ ?_); focus kernel_rfl) | (refine yield_i hmix hT rfl hL efr eps eag ebd rfl (by kernel_rfl) ?_) | (apply call_u N) | (apply call_u E) | (apply call_l (first_ok (l := [_, _]) (Nat.le_of_ble_eq_true rfl)) (.cons (vm_lit _ rfl rfl (.cons (vm_int rfl) (.cons (vm_int rfl) .nil))) .nil)) | (apply call_l (first_ok (l := [_, _, _]) (Nat.le_of_ble_eq_true rfl)) (.cons (vm_lit _ rfl rfl (.cons (vm_int rfl) (.cons (vm_int rfl) (.cons (vm_int rfl) .nil)))) .nil)) | (apply call_l (first_ok (l := [_, _, _, _]) (Nat.le_of_ble_eq_true rfl)) (.cons (vm_lit _ rfl rfl (.cons (vm_int rfl) (.cons (vm_int rfl) (.cons (vm_int rfl) (.cons (vm_int rfl) .nil))))) .nil))) <;> (try (exfalso; omega; done)) <;> (with_reducible conv => whnf))
            refine ⟨k + 1, by omega, by omega, ?_⟩
            rw [nx, ← u0 c1, ← tq1]
            refine ⟨[(1, some 1), (2, some 2)], rfl, ?_, ?_⟩ <;> repeat' (first | exact trivial | exact vm_p | exact vm_ptr rfl rfl rfl | exact vm_yld rfl rfl | exact vm_own rfl rfl rfl rfl | exact vm_own rfl rfl (by omega) (by omega) | exact vm_int (by omega) | exact vm_nil rfl | exact sbm_cells vmL_p | exact sbm_row rfl (fun _ _ => vm_p) | refine ⟨⟨_, rfl, ?_⟩, ?_⟩ | refine ⟨⟨_, _, _, rfl⟩, ?_⟩ | (refine sbm_loop ?_; rw [efr]) | refine sbm_cells ?_ | refine vmL.cons ?_ ?_ | exact vmL.nil | refine vm_own rfl rfl rfl ?_)
            all_goals first | exact sbm_set (by rw [u0 c1]; omega) (vm_agg (.cons vm_p (.cons vm_p .nil))) | (simp; done)
          · rw [if_neg (fun h => c2 (by rw [u0 c1, h.2, tq]))] at nx
            with_reducible conv => whnf
            repeat' ((first | (with_reducible refine branch_t ?_) | (with_reducible refine branch_f ?_) | (with_reducible refine branch_nt ?_) | (with_reducible refine branch_nf ?_) | (with_reducible refine branch_dec (fun _ => ?_) (fun _ => ?_)) | (with_reducible refine branch_ndec (fun _ => ?_) (fun _ => ?_)) | (with_reducible refine branch_bool (fun _ => ?_) (fun _ => ?_)) | (with_reducible refine arith_64 (by omega) ?_) | (with_reducible refine ob_i (by omega) (fun _ => ?_)) | (with_reducible refine ob_i (by unfold room; omega) (fun _ => ?_)) | (with_reducible refine ob_i (by (try simp only [toN_eq, Int.toNat_natCast] at *); (try dsimp only [toN] at *); omega) (fun _ => ?_)) | (with_reducible refine arith_64 (by (try simp only [toN_eq, Int.toNat_natCast] at *); (try dsimp only [toN] at *); omega) ?_) | (with_reducible refine ob_k rfl ?_) | ((with_reducible refine ob_k ?_ ?_); focus kernel_rfl) | (refine yield_i hmix hT rfl hL efr eps eag ebd rfl (by kernel_rfl) ?_) | (apply call_u N) | (apply call_u E) | (apply call_l (first_ok (l := [_, _]) (Nat.le_of_ble_eq_true rfl)) (.cons (vm_lit _ rfl rfl (.cons (vm_int rfl) (.cons (vm_int rfl) .nil))) .nil)) | (apply call_l (first_ok (l := [_, _, _]) (Nat.le_of_ble_eq_true rfl)) (.cons (vm_lit _ rfl rfl (.cons (vm_int rfl) (.cons (vm_int rfl) (.cons (vm_int rfl) .nil)))) .nil)) | (apply call_l (first_ok (l := [_, _, _, _]) (Nat.le_of_ble_eq_true rfl)) (.cons (vm_lit _ rfl rfl (.cons (vm_int rfl) (.cons (vm_int rfl) (.cons (vm_int rfl) (.cons (vm_int rfl) .nil))))) .nil))) <;> (try (exfalso; omega; done)) <;> (with_reducible conv => whnf))
            refine ⟨k + 1, by omega, by omega, ?_⟩
            rw [nx, ← tq, ← tq1]
            refine ⟨[(1, some 1), (2, some 4)], rfl, ?_, ?_⟩ <;> repeat' (first | exact trivial | exact vm_p | exact vm_ptr rfl rfl rfl | exact vm_yld rfl rfl | exact vm_own rfl rfl rfl rfl | exact vm_own rfl rfl (by omega) (by omega) | exact vm_int (by omega) | exact vm_nil rfl | exact sbm_cells vmL_p | exact sbm_row rfl (fun _ _ => vm_p) | refine ⟨⟨_, rfl, ?_⟩, ?_⟩ | refine ⟨⟨_, _, _, rfl⟩, ?_⟩ | (refine sbm_loop ?_; rw [efr]) | refine sbm_cells ?_ | refine vmL.cons ?_ ?_ | exact vmL.nil | refine vm_own rfl rfl rfl ?_)
            all_goals first | exact sbm_snoc (vm_agg (.cons vm_p (.cons vm_p .nil))) | (simp; done)
        · rw [if_neg (fun h => c1 h.1)] at nx
          with_reducible conv => whnf
          repeat' ((first | (with_reducible refine branch_t ?_) | (with_reducible refine branch_f ?_) | (with_reducible refine branch_nt ?_) | (with_reducible refine branch_nf ?_) | (with_reducible refine branch_dec (fun _ => ?_) (fun _ => ?_)) | (with_reducible refine branch_ndec (fun _ => ?_) (fun _ => ?_)) | (with_reducible refine branch_bool (fun _ => ?_) (fun _ => ?_)) | (with_reducible refine arith_64 (by omega) ?_) | (with_reducible refine ob_i (by omega) (fun _ => ?_)) | (with_reducible refine ob_i (by unfold room; omega) (fun _ => ?_)) | (with_reducible refine ob_i (by (try simp only [toN_eq, Int.toNat_natCast] at *); (try dsimp only [toN] at *); omega) (fun _ => ?_)) | (with_reducible refine arith_64 (by (try simp only [toN_eq, Int.toNat_natCast] at *); (try dsimp only [toN] at *); omega) ?_) | (with_reducible refine ob_k rfl ?_) | ((with_reducible refine ob_k ?_ ?_); focus kernel_rfl) | (refine yield_i hmix hT rfl hL efr eps eag ebd rfl (by kernel_rfl) ?_) | (apply call_u N) | (apply call_u E) | (apply call_l (first_ok (l := [_, _]) (Nat.le_of_ble_eq_true rfl)) (.cons (vm_lit _ rfl rfl (.cons (vm_int rfl) (.cons (vm_int rfl) .nil))) .nil)) | (apply call_l (first_ok (l := [_, _, _]) (Nat.le_of_ble_eq_true rfl)) (.cons (vm_lit _ rfl rfl (.cons (vm_int rfl) (.cons (vm_int rfl) (.cons (vm_int rfl) .nil)))) .nil)) | (apply call_l (first_ok (l := [_, _, _, _]) (Nat.le_of_ble_eq_true rfl)) (.cons (vm_lit _ rfl rfl (.cons (vm_int rfl) (.cons (vm_int rfl) (.cons (vm_int rfl) (.cons (vm_int rfl) .nil))))) .nil))) <;> (try (exfalso; omega; done)) <;> (with_reducible conv => whnf))
          refine ⟨k + 1, by omega, by omega, ?_⟩
          rw [nx, ← tq, ← tq1]
          refine ⟨[(1, some 1), (2, some 4)], rfl, ?_, ?_⟩ <;> repeat' (first | exact trivial | exact vm_p | exact vm_ptr rfl rfl rfl | exact vm_yld rfl rfl | exact vm_own rfl rfl rfl rfl | exact vm_own rfl rfl (by omega) (by omega) | exact vm_int (by omega) | exact vm_nil rfl | exact sbm_cells vmL_p | exact sbm_row rfl (fun _ _ => vm_p) | refine ⟨⟨_, rfl, ?_⟩, ?_⟩ | refine ⟨⟨_, _, _, rfl⟩, ?_⟩ | (refine sbm_loop ?_; rw [efr]) | refine sbm_cells ?_ | refine vmL.cons ?_ ?_ | exact vmL.nil | refine vm_own rfl rfl rfl ?_)
          all_goals first | exact sbm_snoc (vm_agg (.cons vm_p (.cons vm_p .nil))) | (simp; done)
    · obtain rfl : k = (bords L).length - 1 := by omega
      with_reducible conv => whnf
      repeat' ((first | (with_reducible refine branch_t ?_) | (with_reducible refine branch_f ?_) | (with_reducible refine branch_nt ?_) | (with_reducible refine branch_nf ?_) | (with_reducible refine branch_dec (fun _ => ?_) (fun _ => ?_)) | (with_reducible refine branch_ndec (fun _ => ?_) (fun _ => ?_)) | (with_reducible refine branch_bool (fun _ => ?_) (fun _ => ?_)) | (with_reducible refine arith_64 (by omega) ?_) | (with_reducible refine ob_i (by omega) (fun _ => ?_)) | (with_reducible refine ob_i (by unfold room; omega) (fun _ => ?_)) | (with_reducible refine ob_i (by (try simp only [toN_eq, Int.toNat_natCast] at *); (try dsimp only [toN] at *); omega) (fun _ => ?_)) | (with_reducible refine arith_64 (by (try simp only [toN_eq, Int.toNat_natCast] at *); (try dsimp only [toN] at *); omega) ?_) | (with_reducible refine ob_k rfl ?_) | ((with_reducible refine ob_k ?_ ?_); focus kernel_rfl) | (refine yield_i hmix hT rfl hL efr eps eag ebd rfl (by kernel_rfl) ?_)  | (apply call_l (first_ok (l := [_, _]) (Nat.le_of_ble_eq_true rfl)) (.cons (vm_lit _ rfl rfl (.cons (vm_int rfl) (.cons (vm_int rfl) .nil))) .nil)) | (apply call_l (first_ok (l := [_, _, _]) (Nat.le_of_ble_eq_true rfl)) (.cons (vm_lit _ rfl rfl (.cons (vm_int rfl) (.cons (vm_int rfl) (.cons (vm_int rfl) .nil)))) .nil)) | (apply call_l (first_ok (l := [_, _, _, _]) (Nat.le_of_ble_eq_true rfl)) (.cons (vm_lit _ rfl rfl (.cons (vm_int rfl) (.cons (vm_int rfl) (.cons (vm_int rfl) (.cons (vm_int rfl) .nil))))) .nil))) <;> (try (exfalso; omega; done)) <;> (with_reducible conv => whnf))
      exact ret0 (vm_tup (.cons (vm_fr rfl rfl rfl (Nat.le_refl _) fun i hi => vm_p) (.cons vm_p .nil)))
end Go.Proofs.YtcdcmeiipfafdaaGreat
