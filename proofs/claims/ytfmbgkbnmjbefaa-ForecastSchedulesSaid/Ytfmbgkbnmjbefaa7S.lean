/-
  Chapter 7: the document's least numbers of changes and its schedule (by contract).
  Conditions: none.
-/
import Derived.Test.Ytfmbgkbnmjbefaa7R
namespace Go.Proofs.Ytfmbgkbnmjbefaa
open Go.RowKit Fx
@[reducible] def okT (t : Tb) (s : Int) : Prop := okH (usB t s) t.fr.length
def gT (t : Tb) (s : Int) (h : Nat) : Int := gF (usB t s) t.fr.length h
def gL (t : Tb) (s : Int) : List Int := (List.range 25).map (gT t s)
theorem gL_len {t : Tb} {s : Int} : (gL t s).length = 25 := by unfold gL; simp
theorem gL_at {t : Tb} {s : Int} {h : Nat} (hh : h < 25) : (gL t s).getD h 0 = gT t s h := by
  unfold gL
  rw [List.getD_eq_getElem?_getD, List.getElem?_map, List.getElem?_range hh]; rfl
theorem fwK_bd {us : Nat → Nat → Bool} {n : Nat} : ∀ d h : Nat, -1 ≤ fwK us n d h ∧ fwK us n d h ≤ d
  | 0, h => by rw [fwK]; split <;> omega
  | d + 1, h => by
    have i1 := fwK_bd (us := us) (n := n) d h
    have i2 := fwK_bd (us := us) (n := n) d (23 - d + longest us n (23 - d))
    rw [fwK]; split <;> omega
theorem vm_setI {S : Vw} {f g : Nat → Int} {k i : Nat} {x : Int} (h1 : i = k → x = g i) (h2 : i ≠ k → f i = g i) : vm S (setF (fun i => I (f i)) k (I x) i) (I (g i)) := by
  by_cases e : i = k
  · subst e
    rw [setF_at]
    exact vm_int (h1 rfl)
  · rw [setF_ne e]
    exact vm_int (h2 e)
open Classical in
set_option maxHeartbeats 4000000 in
set_option maxRecDepth 100000 in
theorem fewest_ok {t : Tb} {s : Int} (v : TbV t) (z2 : 1 ≤ s ∧ s ≤ 1000) : FnOK Try.prog 106 [eTb t, I s] (if okT t s then .tup [eInts (gL t s), B true] else .tup [eInts [], B false]) [] := by
  have fr := v.fr.n1
  refine fn_i hmix hT Try.f106 (by kernel_rfl) rfl (by kernel_rfl) ?_
  with_reducible conv => whnf
  repeat' ((first | (with_reducible refine branch_t ?_) | (with_reducible refine branch_f ?_) | (with_reducible refine branch_nt ?_) | (with_reducible refine branch_nf ?_) | (with_reducible refine branch_dec (fun _ => ?_) (fun _ => ?_)) | (with_reducible refine branch_ndec (fun _ => ?_) (fun _ => ?_)) | (with_reducible refine branch_bool (fun _ => ?_) (fun _ => ?_)) | (with_reducible refine arith_64 (by omega) ?_) | (with_reducible refine ob_i (by omega) (fun _ => ?_)) | (with_reducible refine ob_i (by unfold room; omega) (fun _ => ?_)) | (with_reducible refine ob_i (by (try simp only [toN_eq, Int.toNat_natCast] at *); (try dsimp only [toN] at *); omega) (fun _ => ?_)) | (with_reducible refine arith_64 (by (try simp only [toN_eq, Int.toNat_natCast] at *); (try dsimp only [toN] at *); omega) ?_) | (with_reducible refine ob_k rfl ?_) | ((with_reducible refine ob_k ?_ ?_); focus kernel_rfl) | (refine yield_i hmix hT rfl hL efr eps eag ebd rfl (by kernel_rfl) ?_)  | (apply call_l (first_ok (l := [_, _]) (Nat.le_of_ble_eq_true rfl)) (.cons (vm_lit _ rfl rfl (.cons (vm_int rfl) (.cons (vm_int rfl) .nil))) .nil)) | (apply call_l (first_ok (l := [_, _, _]) (Nat.le_of_ble_eq_true rfl)) (.cons (vm_lit _ rfl rfl (.cons (vm_int rfl) (.cons (vm_int rfl) (.cons (vm_int rfl) .nil)))) .nil)) | (apply call_l (first_ok (l := [_, _, _, _]) (Nat.le_of_ble_eq_true rfl)) (.cons (vm_lit _ rfl rfl (.cons (vm_int rfl) (.cons (vm_int rfl) (.cons (vm_int rfl) (.cons (vm_int rfl) .nil))))) .nil))) <;> (try (exfalso; omega; done)) <;> (with_reducible conv => whnf))
  refine loop_i hmix hT (fun d : Nat => ([(1, I s), (2, .ptr 0 0), (6, .own 1 1 0 25), (7, I (23 - (d : Int)))], ⟨2, [(1, .row 1 25 (fun i => I (fwK (usB t s) t.fr.length d i)) 3), (0, .cells [eInts t.fr, eHs t.hs] 25)]⟩)) (fun d => d ≤ 24 ∧ ∀ h, 24 - d ≤ h → h < 24 → 0 < longest (usB t s) t.fr.length h) (fun d => 24 - d) 0 ⟨by omega, by omega⟩ ?_ ?_
  · refine ⟨[], rfl, ?_, ?_⟩ <;> repeat' (first | exact trivial | exact vm_p | exact vm_ptr rfl rfl rfl | exact vm_yld rfl rfl | exact vm_own rfl rfl rfl rfl | exact vm_own rfl rfl (by omega) (by omega) | exact vm_int (by omega) | exact vm_nil rfl | exact sbm_cells vmL_p | exact sbm_row rfl (fun _ _ => vm_p) | refine ⟨⟨_, rfl, ?_⟩, ?_⟩ | refine ⟨⟨_, _, _, rfl⟩, ?_⟩ | (refine sbm_loop ?_; rw [efr]) | refine sbm_cells ?_ | refine vmL.cons ?_ ?_ | exact vmL.nil | refine vm_own rfl rfl rfl ?_)
    exact sbm_row rfl fun i hi => vm_setI (f := fun _ => 0) (fun e => by subst e; rfl) (fun e => (if_neg e).symm)
  rintro d ⟨hd, hpos⟩
  by_cases d2 : d < 24
  · with_reducible conv => whnf
    repeat' ((first | (with_reducible refine branch_t ?_) | (with_reducible refine branch_f ?_) | (with_reducible refine branch_nt ?_) | (with_reducible refine branch_nf ?_) | (with_reducible refine branch_dec (fun _ => ?_) (fun _ => ?_)) | (with_reducible refine branch_ndec (fun _ => ?_) (fun _ => ?_)) | (with_reducible refine branch_bool (fun _ => ?_) (fun _ => ?_)) | (with_reducible refine arith_64 (by omega) ?_) | (with_reducible refine ob_i (by omega) (fun _ => ?_)) | (with_reducible refine ob_i (by unfold room; omega) (fun _ => ?_)) | (with_reducible refine ob_i (by (try simp only [toN_eq, Int.toNat_natCast] at *); (try dsimp only [toN] at *); omega) (fun _ => ?_)) | (with_reducible refine arith_64 (by (try simp only [toN_eq, Int.toNat_natCast] at *); (try dsimp only [toN] at *); omega) ?_) | (with_reducible refine ob_k rfl ?_) | ((with_reducible refine ob_k ?_ ?_); focus kernel_rfl) | (refine yield_i hmix hT rfl hL efr eps eag ebd rfl (by kernel_rfl) ?_)  | (apply call_l (first_ok (l := [_, _]) (Nat.le_of_ble_eq_true rfl)) (.cons (vm_lit _ rfl rfl (.cons (vm_int rfl) (.cons (vm_int rfl) .nil))) .nil)) | (apply call_l (first_ok (l := [_, _, _]) (Nat.le_of_ble_eq_true rfl)) (.cons (vm_lit _ rfl rfl (.cons (vm_int rfl) (.cons (vm_int rfl) (.cons (vm_int rfl) .nil)))) .nil)) | (apply call_l (first_ok (l := [_, _, _, _]) (Nat.le_of_ble_eq_true rfl)) (.cons (vm_lit _ rfl rfl (.cons (vm_int rfl) (.cons (vm_int rfl) (.cons (vm_int rfl) (.cons (vm_int rfl) .nil))))) .nil))) <;> (try (exfalso; omega; done)) <;> (with_reducible conv => whnf))
    refine loop_i hmix hT (fun c : Nat => ([(1, I s), (2, .ptr 0 0), (6, .own 1 1 0 25), (7, I (23 - (d : Int))), (8, I (mxK (lasts (usB t s) (23 - d)) c)), (9, I c)], ⟨2, [(1, .row 1 25 (fun i => I (fwK (usB t s) t.fr.length d i)) 3), (0, .cells [eInts t.fr, eHs t.hs] 25)]⟩)) (fun c => c ≤ t.fr.length) (fun c => t.fr.length - c) 0 (by omega) ?_ ?_
    · refine ⟨[], rfl, ?_, ?_⟩ <;> repeat' (first | exact trivial | exact vm_p | exact vm_ptr rfl rfl rfl | exact vm_yld rfl rfl | exact vm_own rfl rfl rfl rfl | exact vm_own rfl rfl (by omega) (by omega) | exact vm_int (by omega) | exact vm_nil rfl | exact sbm_cells vmL_p | exact sbm_row rfl (fun _ _ => vm_p) | refine ⟨⟨_, rfl, ?_⟩, ?_⟩ | refine ⟨⟨_, _, _, rfl⟩, ?_⟩ | (refine sbm_loop ?_; rw [efr]) | refine sbm_cells ?_ | refine vmL.cons ?_ ?_ | exact vmL.nil | refine vm_own rfl rfl rfl ?_)
    intro c hc
    by_cases c2 : c < t.fr.length
    · have LA := lasts_ok v z2 (h := 23 - d) (by omega) c2
      rw [show ((23 - d : Nat) : Int) = 23 - (d : Int) by omega] at LA
      have nx : mxK (lasts (usB t s) (23 - d)) (c + 1) = max (mxK (lasts (usB t s) (23 - d)) c) (lasts (usB t s) (23 - d) c) := rfl
      with_reducible conv => whnf
      repeat' ((first | (with_reducible refine branch_t ?_) | (with_reducible refine branch_f ?_) | (with_reducible refine branch_nt ?_) | (with_reducible refine branch_nf ?_) | (with_reducible refine branch_dec (fun _ => ?_) (fun _ => ?_)) | (with_reducible refine branch_ndec (fun _ => ?_) (fun _ => ?_)) | (with_reducible refine branch_bool (fun _ => ?_) (fun _ => ?_)) | (with_reducible refine arith_64 (by omega) ?_) | (with_reducible refine ob_i (by omega) (fun _ => ?_)) | (with_reducible refine ob_i (by unfold room; omega) (fun _ => ?_)) | (with_reducible refine ob_i (by (try simp only [toN_eq, Int.toNat_natCast] at *); (try dsimp only [toN] at *); omega) (fun _ => ?_)) | (with_reducible refine arith_64 (by (try simp only [toN_eq, Int.toNat_natCast] at *); (try dsimp only [toN] at *); omega) ?_) | (with_reducible refine ob_k rfl ?_) | ((with_reducible refine ob_k ?_ ?_); focus kernel_rfl) | (refine yield_i hmix hT rfl hL efr eps eag ebd rfl (by kernel_rfl) ?_) | (apply call_u LA) | (apply call_l (first_ok (l := [_, _]) (Nat.le_of_ble_eq_true rfl)) (.cons (vm_lit _ rfl rfl (.cons (vm_int rfl) (.cons (vm_int rfl) .nil))) .nil)) | (apply call_l (first_ok (l := [_, _, _]) (Nat.le_of_ble_eq_true rfl)) (.cons (vm_lit _ rfl rfl (.cons (vm_int rfl) (.cons (vm_int rfl) (.cons (vm_int rfl) .nil)))) .nil)) | (apply call_l (first_ok (l := [_, _, _, _]) (Nat.le_of_ble_eq_true rfl)) (.cons (vm_lit _ rfl rfl (.cons (vm_int rfl) (.cons (vm_int rfl) (.cons (vm_int rfl) (.cons (vm_int rfl) .nil))))) .nil))) <;> (try (exfalso; omega; done)) <;> (with_reducible conv => whnf))
      refine ⟨c + 1, by omega, by omega, ?_⟩
      rw [nx]
      refine ⟨[], rfl, ?_, ?_⟩ <;> repeat' (first | exact trivial | exact vm_p | exact vm_ptr rfl rfl rfl | exact vm_yld rfl rfl | exact vm_own rfl rfl rfl rfl | exact vm_own rfl rfl (by omega) (by omega) | exact vm_int (by omega) | exact vm_nil rfl | exact sbm_cells vmL_p | exact sbm_row rfl (fun _ _ => vm_p) | refine ⟨⟨_, rfl, ?_⟩, ?_⟩ | refine ⟨⟨_, _, _, rfl⟩, ?_⟩ | (refine sbm_loop ?_; rw [efr]) | refine sbm_cells ?_ | refine vmL.cons ?_ ?_ | exact vmL.nil | refine vm_own rfl rfl rfl ?_)
    · obtain rfl : c = t.fr.length := by omega
      have lh := long_hi (us := usB t s) (n := t.fr.length) (h := 23 - d) (by omega)
      have el : mxK (lasts (usB t s) (23 - d)) t.fr.length = longest (usB t s) t.fr.length (23 - d) := rfl
      rw [el]
      by_cases l0 : longest (usB t s) t.fr.length (23 - d) = 0
      · have nk : ¬ okT t s := fun hk => by
          have := (long_pos (us := usB t s) (n := t.fr.length) (h := 23 - d) (by omega)).2 (hk _ (by omega))
          omega
        rw [if_neg nk]
        with_reducible conv => whnf
        repeat' ((first | (with_reducible refine branch_t ?_) | (with_reducible refine branch_f ?_) | (with_reducible refine branch_nt ?_) | (with_reducible refine branch_nf ?_) | (with_reducible refine branch_dec (fun _ => ?_) (fun _ => ?_)) | (with_reducible refine branch_ndec (fun _ => ?_) (fun _ => ?_)) | (with_reducible refine branch_bool (fun _ => ?_) (fun _ => ?_)) | (with_reducible refine arith_64 (by omega) ?_) | (with_reducible refine ob_i (by omega) (fun _ => ?_)) | (with_reducible refine ob_i (by unfold room; omega) (fun _ => ?_)) | (with_reducible refine ob_i (by (try simp only [toN_eq, Int.toNat_natCast] at *); (try dsimp only [toN] at *); omega) (fun _ => ?_)) | (with_reducible refine arith_64 (by (try simp only [toN_eq, Int.toNat_natCast] at *); (try dsimp only [toN] at *); omega) ?_) | (with_reducible refine ob_k rfl ?_) | ((with_reducible refine ob_k ?_ ?_); focus kernel_rfl) | (refine yield_i hmix hT rfl hL efr eps eag ebd rfl (by kernel_rfl) ?_)  | (apply call_l (first_ok (l := [_, _]) (Nat.le_of_ble_eq_true rfl)) (.cons (vm_lit _ rfl rfl (.cons (vm_int rfl) (.cons (vm_int rfl) .nil))) .nil)) | (apply call_l (first_ok (l := [_, _, _]) (Nat.le_of_ble_eq_true rfl)) (.cons (vm_lit _ rfl rfl (.cons (vm_int rfl) (.cons (vm_int rfl) (.cons (vm_int rfl) .nil)))) .nil)) | (apply call_l (first_ok (l := [_, _, _, _]) (Nat.le_of_ble_eq_true rfl)) (.cons (vm_lit _ rfl rfl (.cons (vm_int rfl) (.cons (vm_int rfl) (.cons (vm_int rfl) (.cons (vm_int rfl) .nil))))) .nil))) <;> (try (exfalso; omega; done)) <;> (with_reducible conv => whnf))
        exact ret0 (vm_tup (.cons (vm_nilsl rfl) (.cons vm_p .nil)))
      · have tx : toN (23 - (d : Int) + (longest (usB t s) t.fr.length (23 - d) : Int)) = 23 - d + longest (usB t s) t.fr.length (23 - d) := by rw [toN_eq]; omega
        have gb := fwK_bd (us := usB t s) (n := t.fr.length) d (0 + toN (23 - (d : Int) + (longest (usB t s) t.fr.length (23 - d) : Int)))
        have td : 0 + toN (23 - (d : Int)) = 23 - d := by rw [toN_eq]; omega
        with_reducible conv => whnf
        repeat' ((first | (with_reducible refine branch_t ?_) | (with_reducible refine branch_f ?_) | (with_reducible refine branch_nt ?_) | (with_reducible refine branch_nf ?_) | (with_reducible refine branch_dec (fun _ => ?_) (fun _ => ?_)) | (with_reducible refine branch_ndec (fun _ => ?_) (fun _ => ?_)) | (with_reducible refine branch_bool (fun _ => ?_) (fun _ => ?_)) | (with_reducible refine arith_64 (by omega) ?_) | (with_reducible refine ob_i (by omega) (fun _ => ?_)) | (with_reducible refine ob_i (by unfold room; omega) (fun _ => ?_)) | (with_reducible refine ob_i (by (try simp only [toN_eq] at *); (try dsimp only [toN] at *); omega) (fun _ => ?_)) | (with_reducible refine arith_64 (by (try simp only [toN_eq] at *); (try dsimp only [toN] at *); omega) ?_) | (with_reducible refine ob_k rfl ?_) | ((with_reducible refine ob_k ?_ ?_); focus kernel_rfl) | (refine yield_i hmix hT rfl hL efr eps eag ebd rfl (by kernel_rfl) ?_)  | (apply call_l (first_ok (l := [_, _]) (Nat.le_of_ble_eq_true rfl)) (.cons (vm_lit _ rfl rfl (.cons (vm_int rfl) (.cons (vm_int rfl) .nil))) .nil)) | (apply call_l (first_ok (l := [_, _, _]) (Nat.le_of_ble_eq_true rfl)) (.cons (vm_lit _ rfl rfl (.cons (vm_int rfl) (.cons (vm_int rfl) (.cons (vm_int rfl) .nil)))) .nil)) | (apply call_l (first_ok (l := [_, _, _, _]) (Nat.le_of_ble_eq_true rfl)) (.cons (vm_lit _ rfl rfl (.cons (vm_int rfl) (.cons (vm_int rfl) (.cons (vm_int rfl) (.cons (vm_int rfl) .nil))))) .nil))) <;> (try (exfalso; omega; done)) <;> (with_reducible conv => whnf))
        refine ⟨d + 1, ⟨by omega, fun h h1 h2 => ?_⟩, by omega, ?_⟩
        · by_cases e : h = 23 - d
          · subst e; omega
          · exact hpos h (by omega) h2
        · refine ⟨[], rfl, ?_, ?_⟩ <;> repeat' (first | exact trivial | exact vm_p | exact vm_ptr rfl rfl rfl | exact vm_yld rfl rfl | exact vm_own rfl rfl rfl rfl | exact vm_own rfl rfl (by omega) (by omega) | exact vm_int (by omega) | exact vm_nil rfl | exact sbm_cells vmL_p | exact sbm_row rfl (fun _ _ => vm_p) | refine ⟨⟨_, rfl, ?_⟩, ?_⟩ | refine ⟨⟨_, _, _, rfl⟩, ?_⟩ | (refine sbm_loop ?_; rw [efr]) | refine sbm_cells ?_ | refine vmL.cons ?_ ?_ | exact vmL.nil | refine vm_own rfl rfl rfl ?_)
          refine sbm_row rfl fun i hi => vm_setI (fun e => ?_) (fun e => ?_)
          · rw [e, td, fwK, if_pos rfl, tx, Nat.zero_add]
          · rw [td] at e
            rw [fwK, if_neg e]
  · obtain rfl : d = 24 := by omega
    have hk : okT t s := fun h hh => (long_pos hh).1 (hpos h (by omega) hh)
    rw [if_pos hk]
    with_reducible conv => whnf
    repeat' ((first | (with_reducible refine branch_t ?_) | (with_reducible refine branch_f ?_) | (with_reducible refine branch_nt ?_) | (with_reducible refine branch_nf ?_) | (with_reducible refine branch_dec (fun _ => ?_) (fun _ => ?_)) | (with_reducible refine branch_ndec (fun _ => ?_) (fun _ => ?_)) | (with_reducible refine branch_bool (fun _ => ?_) (fun _ => ?_)) | (with_reducible refine arith_64 (by omega) ?_) | (with_reducible refine ob_i (by omega) (fun _ => ?_)) | (with_reducible refine ob_i (by unfold room; omega) (fun _ => ?_)) | (with_reducible refine ob_i (by (try simp only [toN_eq, Int.toNat_natCast] at *); (try dsimp only [toN] at *); omega) (fun _ => ?_)) | (with_reducible refine arith_64 (by (try simp only [toN_eq, Int.toNat_natCast] at *); (try dsimp only [toN] at *); omega) ?_) | (with_reducible refine ob_k rfl ?_) | ((with_reducible refine ob_k ?_ ?_); focus kernel_rfl) | (refine yield_i hmix hT rfl hL efr eps eag ebd rfl (by kernel_rfl) ?_)  | (apply call_l (first_ok (l := [_, _]) (Nat.le_of_ble_eq_true rfl)) (.cons (vm_lit _ rfl rfl (.cons (vm_int rfl) (.cons (vm_int rfl) .nil))) .nil)) | (apply call_l (first_ok (l := [_, _, _]) (Nat.le_of_ble_eq_true rfl)) (.cons (vm_lit _ rfl rfl (.cons (vm_int rfl) (.cons (vm_int rfl) (.cons (vm_int rfl) .nil)))) .nil)) | (apply call_l (first_ok (l := [_, _, _, _]) (Nat.le_of_ble_eq_true rfl)) (.cons (vm_lit _ rfl rfl (.cons (vm_int rfl) (.cons (vm_int rfl) (.cons (vm_int rfl) (.cons (vm_int rfl) .nil))))) .nil))) <;> (try (exfalso; omega; done)) <;> (with_reducible conv => whnf))
    refine ret0 (vm_tup (.cons (vm_fr rfl rfl gL_len.symm (Nat.le_refl _) fun i hi => ?_) (.cons vm_p .nil)))
    rw [gL_len] at hi
    rw [gL_at hi]
    exact vm_p
/-! ### The document's schedule -/
theorem uslK_spec (t : Tb) (s : Int) (h : Nat) : ∀ k, (∀ j, j < (uslK t s h k).length → ∃ c : Nat, c < k ∧ (uslK t s h k).getD j 0 = c ∧ usB t s h c = true) ∧ (∀ c : Nat, c < k → usB t s h c = true → ∃ j, j < (uslK t s h k).length ∧ (uslK t s h k).getD j 0 = c) ∧
    ∀ i j, i < j → j < (uslK t s h k).length → (uslK t s h k).getD i 0 < (uslK t s h k).getD j 0
  | 0 => ⟨fun j hj => by simp [uslK] at hj, fun c hc => by omega, fun i j _ hj => by simp [uslK] at hj⟩
  | k + 1 => by
    obtain ⟨i1, i2, i3⟩ := uslK_spec t s h k
    by_cases hu : usB t s h k = true
    · have e : uslK t s h (k + 1) = uslK t s h k ++ [(k : Int)] := if_pos hu
      have g1 : ∀ j, j < (uslK t s h k).length → (uslK t s h (k + 1)).getD j 0 = (uslK t s h k).getD j 0 := fun j hj => by
        rw [e, List.getD_eq_getElem?_getD, List.getElem?_append_left hj, List.getD_eq_getElem?_getD]
      have g2 : (uslK t s h (k + 1)).getD (uslK t s h k).length 0 = (k : Int) := by
        rw [e, List.getD_eq_getElem?_getD, List.getElem?_append_right (Nat.le_refl _)]; simp
      have ln : (uslK t s h (k + 1)).length = (uslK t s h k).length + 1 := by rw [e]; simp
      refine ⟨fun j hj => ?_, fun c hc hcu => ?_, fun i j hij hj => ?_⟩
      · by_cases e2 : j = (uslK t s h k).length
        · subst e2; exact ⟨k, by omega, g2, hu⟩
        · obtain ⟨c, c1, c2, c3⟩ := i1 j (by omega)
          exact ⟨c, by omega, by rw [g1 j (by omega)]; exact c2, c3⟩
      · by_cases e2 : c = k
        · subst e2; exact ⟨_, by omega, g2⟩
        · obtain ⟨j, j1, j2⟩ := i2 c (by omega) hcu
          exact ⟨j, by omega, by rw [g1 j j1]; exact j2⟩
      · by_cases e2 : j = (uslK t s h k).length
        · subst e2
          obtain ⟨c, c1, c2, _⟩ := i1 i hij
          rw [g2, g1 i hij, c2]; omega
        · rw [g1 i (by omega), g1 j (by omega)]
          exact i3 i j hij (by omega)
    · have e : uslK t s h (k + 1) = uslK t s h k := if_neg hu
      rw [e]
      refine ⟨fun j hj => ?_, fun c hc hcu => ?_, i3⟩
      · obtain ⟨c, c1, c2, c3⟩ := i1 j hj
        exact ⟨c, by omega, c2, c3⟩
      · by_cases e2 : c = k
        · subst e2; exact (hu hcu).elim
        · exact i2 c (by omega) hcu
def schT (t : Tb) (s : Int) : List Int := (sch (usB t s) t.fr.length 24).1
theorem pick_us {us : Nat → Nat → Bool} {n h c : Nat} (hk : okH us n) (hh : h < 24) (I : SchI us n h) (hc : c < n) (hp : pickB us n h (sch us n h).1 (sch us n h).2 c = true) : us h c = true := by
  cases e : us h c with
  | true => rfl
  | false =>
    have a := (aft_ok hk hh).1 c hc
    rw [e, if_neg (by decide)] at a
    have lf := I.left
    unfold pickB at hp
    rw [decide_eq_true_eq, a] at hp
    have : 0 ≤ used (sch us n h).1 c := by
      unfold used chg
      split <;> try split
      all_goals omega
    omega
theorem used_at {us : Nat → Nat → Bool} {n h c : Nat} (I : SchI us n h) : used (sch us n h).1 c = if h = 0 then 0 else chg ((sch us n h).1.getD (h - 1) 0) c := by
  unfold used; rw [I.len]
theorem getD_snoc_lt {l : List Int} {x : Int} {j : Nat} (h : j < l.length) : (l ++ [x]).getD j 0 = l.getD j 0 := by
  rw [List.getD_eq_getElem?_getD, List.getElem?_append_left h, List.getD_eq_getElem?_getD]
theorem getD_snoc_at {l : List Int} {x : Int} {k : Nat} (h : l.length = k) : (l ++ [x]).getD k 0 = x := by
  rw [List.getD_eq_getElem?_getD, List.getElem?_append_right (by omega), h]; simp
open Classical in
set_option maxHeartbeats 8000000 in
set_option maxRecDepth 100000 in
theorem rSchedule_ok {t : Tb} {s : Int} (v : TbV t) (z2 : 1 ≤ s ∧ s ≤ 1000) : FnOK Try.prog 55 [eTb t, I s] (if okT t s then .tup [eInts (schT t s), B true] else .tup [eInts [], B false]) [] := by
  have fr := v.fr.n1
  have FW := fewest_ok v z2
  by_cases hk : okT t s
  case neg =>
    rw [if_neg hk] at FW ⊢
    refine fn_i hmix hT Try.f55 (by kernel_rfl) rfl (by kernel_rfl) ?_
    with_reducible conv => whnf
    repeat' ((first | (with_reducible refine branch_t ?_) | (with_reducible refine branch_f ?_) | (with_reducible refine branch_nt ?_) | (with_reducible refine branch_nf ?_) | (with_reducible refine branch_dec (fun _ => ?_) (fun _ => ?_)) | (with_reducible refine branch_ndec (fun _ => ?_) (fun _ => ?_)) | (with_reducible refine branch_bool (fun _ => ?_) (fun _ => ?_)) | (with_reducible refine arith_64 (by omega) ?_) | (with_reducible refine ob_i (by omega) (fun _ => ?_)) | (with_reducible refine ob_i (by unfold room; omega) (fun _ => ?_)) | (with_reducible refine ob_i (by (try simp only [toN_eq, Int.toNat_natCast] at *); (try dsimp only [toN] at *); omega) (fun _ => ?_)) | (with_reducible refine arith_64 (by (try simp only [toN_eq, Int.toNat_natCast] at *); (try dsimp only [toN] at *); omega) ?_) | (with_reducible refine ob_k rfl ?_) | ((with_reducible refine ob_k ?_ ?_); focus kernel_rfl) | (refine yield_i hmix hT rfl hL efr eps eag ebd rfl (by kernel_rfl) ?_) | (apply call_u FW) | (apply call_l (first_ok (l := [_, _]) (Nat.le_of_ble_eq_true rfl)) (.cons (vm_lit _ rfl rfl (.cons (vm_int rfl) (.cons (vm_int rfl) .nil))) .nil)) | (apply call_l (first_ok (l := [_, _, _]) (Nat.le_of_ble_eq_true rfl)) (.cons (vm_lit _ rfl rfl (.cons (vm_int rfl) (.cons (vm_int rfl) (.cons (vm_int rfl) .nil)))) .nil)) | (apply call_l (first_ok (l := [_, _, _, _]) (Nat.le_of_ble_eq_true rfl)) (.cons (vm_lit _ rfl rfl (.cons (vm_int rfl) (.cons (vm_int rfl) (.cons (vm_int rfl) (.cons (vm_int rfl) .nil))))) .nil))) <;> (try (exfalso; omega; done)) <;> (with_reducible conv => whnf))
    exact ret0 (vm_tup (.cons (vm_nilsl rfl) (.cons vm_p .nil)))
  rw [if_pos hk] at FW ⊢
  have gl := gL_len (t := t) (s := s)
  have g0 : (gL t s).getD (toN 0) 0 = m0 (usB t s) t.fr.length := by rw [m0_ok hk]; exact gL_at (h := 0) (by omega)
  refine fn_i hmix hT Try.f55 (by kernel_rfl) rfl (by kernel_rfl) ?_
  with_reducible conv => whnf
  repeat' ((first | (with_reducible refine branch_t ?_) | (with_reducible refine branch_f ?_) | (with_reducible refine branch_nt ?_) | (with_reducible refine branch_nf ?_) | (with_reducible refine branch_dec (fun _ => ?_) (fun _ => ?_)) | (with_reducible refine branch_ndec (fun _ => ?_) (fun _ => ?_)) | (with_reducible refine branch_bool (fun _ => ?_) (fun _ => ?_)) | (with_reducible refine arith_64 (by omega) ?_) | (with_reducible refine ob_i (by omega) (fun _ => ?_)) | (with_reducible refine ob_i (by unfold room; omega) (fun _ => ?_)) | (with_reducible refine ob_i (by (try simp only [toN_eq, Int.toNat_natCast] at *); (try dsimp only [toN] at *); omega) (fun _ => ?_)) | (with_reducible refine arith_64 (by (try simp only [toN_eq, Int.toNat_natCast] at *); (try dsimp only [toN] at *); omega) ?_) | (with_reducible refine ob_k rfl ?_) | ((with_reducible refine ob_k ?_ ?_); focus kernel_rfl) | (refine yield_i hmix hT rfl hL efr eps eag ebd rfl (by kernel_rfl) ?_) | (apply call_u FW) | (apply call_l (first_ok (l := [_, _]) (Nat.le_of_ble_eq_true rfl)) (.cons (vm_lit _ rfl rfl (.cons (vm_int rfl) (.cons (vm_int rfl) .nil))) .nil)) | (apply call_l (first_ok (l := [_, _, _]) (Nat.le_of_ble_eq_true rfl)) (.cons (vm_lit _ rfl rfl (.cons (vm_int rfl) (.cons (vm_int rfl) (.cons (vm_int rfl) .nil)))) .nil)) | (apply call_l (first_ok (l := [_, _, _, _]) (Nat.le_of_ble_eq_true rfl)) (.cons (vm_lit _ rfl rfl (.cons (vm_int rfl) (.cons (vm_int rfl) (.cons (vm_int rfl) (.cons (vm_int rfl) .nil))))) .nil))) <;> (try (exfalso; omega; done)) <;> (with_reducible conv => whnf))
  clear FW
  refine loop_i hmix hT (fun h : Nat => ([(1, I s), (2, .ptr 0 0), (6, eInts (gL t s)), (8, I (sch (usB t s) t.fr.length h).2), (9, .own 1 1 0 h), (10, I h)], ⟨2, [(1, .row 1 h (fun i => I ((sch (usB t s) t.fr.length h).1.getD i 0)) 3), (0, .cells [eInts t.fr, eHs t.hs] 25)]⟩)) (fun h => h ≤ 24) (fun h => 24 - h) 0 (by omega) ?_ ?_
  · refine ⟨[(1, none)], rfl, ?_, ?_⟩ <;> repeat' (first | exact trivial | exact vm_p | exact vm_ptr rfl rfl rfl | exact vm_yld rfl rfl | exact vm_own rfl rfl rfl rfl | exact vm_own rfl rfl (by omega) (by omega) | exact vm_int (by omega) | exact vm_nil rfl | exact sbm_cells vmL_p | exact sbm_row rfl (fun _ _ => vm_p) | refine ⟨⟨_, rfl, ?_⟩, ?_⟩ | refine ⟨⟨_, _, _, rfl⟩, ?_⟩ | (refine sbm_loop ?_; rw [efr]) | refine sbm_cells ?_ | refine vmL.cons ?_ ?_ | exact vmL.nil | refine vm_own rfl rfl rfl ?_)
    exact vm_int g0
  intro h hh
  have SI := sch_ok hk h hh
  by_cases h2 : h < 24
  · have RU := rUsable_ok v z2 h2
    have ul := uslK_len t s h t.fr.length
    obtain ⟨u1, u2, u3⟩ := uslK_spec t s h t.fr.length
    change (usl t s h).length ≤ t.fr.length at ul
    change ∀ j, j < (usl t s h).length → ∃ c : Nat, c < t.fr.length ∧ (usl t s h).getD j 0 = c ∧ usB t s h c = true at u1
    change ∀ c : Nat, c < t.fr.length → usB t s h c = true → ∃ j, j < (usl t s h).length ∧ (usl t s h).getD j 0 = c at u2
    change ∀ i j, i < j → j < (usl t s h).length → (usl t s h).getD i 0 < (usl t s h).getD j 0 at u3
    obtain ⟨pj, p1, p2, p3, p4⟩ := pick_ok hk h2 SI
    have lf := SI.left
    with_reducible conv => whnf
    repeat' ((first | (with_reducible refine branch_t ?_) | (with_reducible refine branch_f ?_) | (with_reducible refine branch_nt ?_) | (with_reducible refine branch_nf ?_) | (with_reducible refine branch_dec (fun _ => ?_) (fun _ => ?_)) | (with_reducible refine branch_ndec (fun _ => ?_) (fun _ => ?_)) | (with_reducible refine branch_bool (fun _ => ?_) (fun _ => ?_)) | (with_reducible refine arith_64 (by omega) ?_) | (with_reducible refine ob_i (by omega) (fun _ => ?_)) | (with_reducible refine ob_i (by unfold room; omega) (fun _ => ?_)) | (with_reducible refine ob_i (by (try simp only [toN_eq, Int.toNat_natCast] at *); (try dsimp only [toN] at *); omega) (fun _ => ?_)) | (with_reducible refine arith_64 (by (try simp only [toN_eq, Int.toNat_natCast] at *); (try dsimp only [toN] at *); omega) ?_) | (with_reducible refine ob_k rfl ?_) | ((with_reducible refine ob_k ?_ ?_); focus kernel_rfl) | (refine yield_i hmix hT rfl hL efr eps eag ebd rfl (by kernel_rfl) ?_) | (apply call_u RU) | (apply call_l (first_ok (l := [_, _]) (Nat.le_of_ble_eq_true rfl)) (.cons (vm_lit _ rfl rfl (.cons (vm_int rfl) (.cons (vm_int rfl) .nil))) .nil)) | (apply call_l (first_ok (l := [_, _, _]) (Nat.le_of_ble_eq_true rfl)) (.cons (vm_lit _ rfl rfl (.cons (vm_int rfl) (.cons (vm_int rfl) (.cons (vm_int rfl) .nil)))) .nil)) | (apply call_l (first_ok (l := [_, _, _, _]) (Nat.le_of_ble_eq_true rfl)) (.cons (vm_lit _ rfl rfl (.cons (vm_int rfl) (.cons (vm_int rfl) (.cons (vm_int rfl) (.cons (vm_int rfl) .nil))))) .nil))) <;> (try (exfalso; omega; done)) <;> (with_reducible conv => whnf))
    refine loop_i hmix hT (fun i : Nat => ([(1, I s), (2, .ptr 0 0), (6, eInts (gL t s)), (8, I (sch (usB t s) t.fr.length h).2), (9, .own 1 1 0 h), (10, I h), (11, eInts (usl t s h)), (12, I i)], ⟨2, [(1, .row 1 h (fun i => I ((sch (usB t s) t.fr.length h).1.getD i 0)) 3), (0, .cells [eInts t.fr, eHs t.hs] 25)]⟩)) (fun i => i ≤ (usl t s h).length ∧ ∀ j, j < i → (usl t s h).getD j 0 ≠ (pj : Int)) (fun i => (usl t s h).length - i) 0 ⟨by omega, by omega⟩ ?_ ?_
    · refine ⟨[], rfl, ?_, ?_⟩ <;> repeat' (first | exact trivial | exact vm_p | exact vm_ptr rfl rfl rfl | exact vm_yld rfl rfl | exact vm_own rfl rfl rfl rfl | exact vm_own rfl rfl (by omega) (by omega) | exact vm_int (by omega) | exact vm_nil rfl | exact sbm_cells vmL_p | exact sbm_row rfl (fun _ _ => vm_p) | refine ⟨⟨_, rfl, ?_⟩, ?_⟩ | refine ⟨⟨_, _, _, rfl⟩, ?_⟩ | (refine sbm_loop ?_; rw [efr]) | refine sbm_cells ?_ | refine vmL.cons ?_ ?_ | exact vmL.nil | refine vm_own rfl rfl rfl ?_)
    rintro i ⟨hi, hi3⟩
    by_cases i2 : i < (usl t s h).length
    · obtain ⟨c, c1, c2, c3⟩ := u1 i i2
      have tq : (usl t s h).getD (toN (i : Int)) 0 = c := by rw [toN_nat]; exact c2
      have LA := lasts_ok v z2 (h := h) (c := c) (by omega) c1
      rw [← tq] at LA
      have le := lasts_le (us := usB t s) (c := c) (24 - h) h (by omega)
      have tg : (gL t s).getD (toN ((h : Int) + (lasts (usB t s) h c : Int))) 0 = gT t s (h + lasts (usB t s) h c) := by
        rw [show toN ((h : Int) + (lasts (usB t s) h c : Int)) = h + lasts (usB t s) h c by rw [toN_eq]; omega]
        exact gL_at (by omega)
      have gb := gF_bd hk (24 - (h + lasts (usB t s) h c)) (h + lasts (usB t s) h c) (by omega)
      change -1 ≤ gT t s (h + lasts (usB t s) h c) ∧ gT t s (h + lasts (usB t s) h c) < _ at gb
      rw [← tg] at gb
      have af := (aft_ok hk h2).1 c c1
      rw [c3, if_pos rfl] at af
      change aft (usB t s) t.fr.length h c = 1 + gT t s (h + lasts (usB t s) h c) at af
      rw [← tg] at af
      have ua := used_at (c := c) SI
      have nx1 : c = pj → sch (usB t s) t.fr.length (h + 1) = ((sch (usB t s) t.fr.length h).1 ++ [(c : Int)], (sch (usB t s) t.fr.length h).2 - used (sch (usB t s) t.fr.length h).1 c) := fun e => by
        subst e; rw [sch, p4]; rfl
      have same : pickB (usB t s) t.fr.length h (sch (usB t s) t.fr.length h).1 (sch (usB t s) t.fr.length h).2 c = true → c = pj := fun hp => by
        rcases Nat.lt_trichotomy c pj with e | e | e
        · rw [p3 c e] at hp; cases hp
        · exact e
        · obtain ⟨j, j1, j2⟩ := u2 pj p1 (pick_us hk h2 SI p1 p2)
          rcases Nat.lt_trichotomy j i with k | k | k
          · exact (hi3 j k j2).elim
          · subst k; rw [c2] at j2; omega
          · have := u3 i j k j1; rw [c2, j2] at this; omega
      unfold pickB at same
      rw [decide_eq_true_eq] at same
      have tl : 0 < h → (sch (usB t s) t.fr.length h).1.getD (0 + toN ((h : Int) - 1)) 0 = (sch (usB t s) t.fr.length h).1.getD (h - 1) 0 := fun h0 => by rw [show 0 + toN ((h : Int) - 1) = h - 1 by rw [toN_eq]; omega]
      by_cases h0 : h = 0
      ·
        have ue : used (sch (usB t s) t.fr.length h).1 c = 0 := by
          rw [ua, if_pos h0]
        rw [ue, af] at same
        rw [ue] at nx1
        by_cases q : 0 + 1 + (gL t s).getD (toN ((h : Int) + (lasts (usB t s) h c : Int))) 0 ≤ (sch (usB t s) t.fr.length h).2
        · have e := same (by omega)
          have nx := nx1 e
          with_reducible conv => whnf
          repeat' ((first | (with_reducible refine branch_t ?_) | (with_reducible refine branch_f ?_) | (with_reducible refine branch_nt ?_) | (with_reducible refine branch_nf ?_) | (with_reducible refine branch_dec (fun _ => ?_) (fun _ => ?_)) | (with_reducible refine branch_ndec (fun _ => ?_) (fun _ => ?_)) | (with_reducible refine branch_bool (fun _ => ?_) (fun _ => ?_)) | (with_reducible refine arith_64 (by omega) ?_) | (with_reducible refine ob_i (by omega) (fun _ => ?_)) | (with_reducible refine ob_i (by unfold room; omega) (fun _ => ?_)) | (with_reducible refine ob_i (by (try simp only [toN_eq] at *); (try dsimp only [toN] at *); omega) (fun _ => ?_)) | (with_reducible refine arith_64 (by (try simp only [toN_eq] at *); (try dsimp only [toN] at *); omega) ?_) | (with_reducible refine ob_k rfl ?_) | ((with_reducible refine ob_k ?_ ?_); focus kernel_rfl) | (refine yield_i hmix hT rfl hL efr eps eag ebd rfl (by kernel_rfl) ?_) | (apply call_u LA) | (apply call_l (first_ok (l := [_, _]) (Nat.le_of_ble_eq_true rfl)) (.cons (vm_lit _ rfl rfl (.cons (vm_int rfl) (.cons (vm_int rfl) .nil))) .nil)) | (apply call_l (first_ok (l := [_, _, _]) (Nat.le_of_ble_eq_true rfl)) (.cons (vm_lit _ rfl rfl (.cons (vm_int rfl) (.cons (vm_int rfl) (.cons (vm_int rfl) .nil)))) .nil)) | (apply call_l (first_ok (l := [_, _, _, _]) (Nat.le_of_ble_eq_true rfl)) (.cons (vm_lit _ rfl rfl (.cons (vm_int rfl) (.cons (vm_int rfl) (.cons (vm_int rfl) (.cons (vm_int rfl) .nil))))) .nil))) <;> (try (exfalso; omega; done)) <;> (with_reducible conv => whnf))
          all_goals
            refine ⟨h + 1, by omega, by omega, ?_⟩
            rw [nx]
            refine ⟨[(1, some 3)], rfl, ?_, ?_⟩ <;> repeat' (first | exact trivial | exact vm_p | exact vm_ptr rfl rfl rfl | exact vm_yld rfl rfl | exact vm_own rfl rfl rfl rfl | exact vm_own rfl rfl (by omega) (by omega) | exact vm_int (by omega) | exact vm_nil rfl | exact sbm_cells vmL_p | exact sbm_row rfl (fun _ _ => vm_p) | refine ⟨⟨_, rfl, ?_⟩, ?_⟩ | refine ⟨⟨_, _, _, rfl⟩, ?_⟩ | (refine sbm_loop ?_; rw [efr]) | refine sbm_cells ?_ | refine vmL.cons ?_ ?_ | exact vmL.nil | refine vm_own rfl rfl rfl ?_)
            refine sbm_row rfl fun j hj => vm_snoc (e' := fun j => I (((sch (usB t s) t.fr.length h).1 ++ [(c : Int)]).getD j 0)) hj (fun k hk' => ?_) ?_
            · exact vm_int (getD_snoc_lt (by rw [SI.len]; exact hk')).symm
            · exact vm_int (by rw [tq]; exact (getD_snoc_at SI.len).symm)
        · have np : (usl t s h).getD i 0 ≠ (pj : Int) := fun e => by
            rw [c2] at e
            obtain rfl : c = pj := by omega
            unfold pickB at p2
            rw [decide_eq_true_eq, ue, af] at p2
            omega
          with_reducible conv => whnf
          repeat' ((first | (with_reducible refine branch_t ?_) | (with_reducible refine branch_f ?_) | (with_reducible refine branch_nt ?_) | (with_reducible refine branch_nf ?_) | (with_reducible refine branch_dec (fun _ => ?_) (fun _ => ?_)) | (with_reducible refine branch_ndec (fun _ => ?_) (fun _ => ?_)) | (with_reducible refine branch_bool (fun _ => ?_) (fun _ => ?_)) | (with_reducible refine arith_64 (by omega) ?_) | (with_reducible refine ob_i (by omega) (fun _ => ?_)) | (with_reducible refine ob_i (by unfold room; omega) (fun _ => ?_)) | (with_reducible refine ob_i (by (try simp only [toN_eq] at *); (try dsimp only [toN] at *); omega) (fun _ => ?_)) | (with_reducible refine arith_64 (by (try simp only [toN_eq] at *); (try dsimp only [toN] at *); omega) ?_) | (with_reducible refine ob_k rfl ?_) | ((with_reducible refine ob_k ?_ ?_); focus kernel_rfl) | (refine yield_i hmix hT rfl hL efr eps eag ebd rfl (by kernel_rfl) ?_) | (apply call_u LA) | (apply call_l (first_ok (l := [_, _]) (Nat.le_of_ble_eq_true rfl)) (.cons (vm_lit _ rfl rfl (.cons (vm_int rfl) (.cons (vm_int rfl) .nil))) .nil)) | (apply call_l (first_ok (l := [_, _, _]) (Nat.le_of_ble_eq_true rfl)) (.cons (vm_lit _ rfl rfl (.cons (vm_int rfl) (.cons (vm_int rfl) (.cons (vm_int rfl) .nil)))) .nil)) | (apply call_l (first_ok (l := [_, _, _, _]) (Nat.le_of_ble_eq_true rfl)) (.cons (vm_lit _ rfl rfl (.cons (vm_int rfl) (.cons (vm_int rfl) (.cons (vm_int rfl) (.cons (vm_int rfl) .nil))))) .nil))) <;> (try (exfalso; omega; done)) <;> (with_reducible conv => whnf))
          all_goals
            refine ⟨i + 1, ⟨by omega, fun j hj => ?_⟩, by omega, ?_⟩
            · by_cases e' : j = i
              · subst e'; exact np
              · exact hi3 j (by omega)
            · refine ⟨[], rfl, ?_, ?_⟩ <;> repeat' (first | exact trivial | exact vm_p | exact vm_ptr rfl rfl rfl | exact vm_yld rfl rfl | exact vm_own rfl rfl rfl rfl | exact vm_own rfl rfl (by omega) (by omega) | exact vm_int (by omega) | exact vm_nil rfl | exact sbm_cells vmL_p | exact sbm_row rfl (fun _ _ => vm_p) | refine ⟨⟨_, rfl, ?_⟩, ?_⟩ | refine ⟨⟨_, _, _, rfl⟩, ?_⟩ | (refine sbm_loop ?_; rw [efr]) | refine sbm_cells ?_ | refine vmL.cons ?_ ?_ | exact vmL.nil | refine vm_own rfl rfl rfl ?_)
      have tl := tl (by omega)
      rw [if_neg h0, ← tl, ← tq] at ua
      by_cases d : (usl t s h).getD (toN (i : Int)) 0 = (sch (usB t s) t.fr.length h).1.getD (0 + toN ((h : Int) - 1)) 0
      ·
        have ue : used (sch (usB t s) t.fr.length h).1 c = 0 := by
          rw [ua]; unfold chg; rw [if_neg (fun k => k d.symm)]
        rw [ue, af] at same
        rw [ue] at nx1
        by_cases q : 0 + 1 + (gL t s).getD (toN ((h : Int) + (lasts (usB t s) h c : Int))) 0 ≤ (sch (usB t s) t.fr.length h).2
        · have e := same (by omega)
          have nx := nx1 e
          with_reducible conv => whnf
          repeat' ((first | (with_reducible refine branch_t ?_) | (with_reducible refine branch_f ?_) | (with_reducible refine branch_nt ?_) | (with_reducible refine branch_nf ?_) | (with_reducible refine branch_dec (fun _ => ?_) (fun _ => ?_)) | (with_reducible refine branch_ndec (fun _ => ?_) (fun _ => ?_)) | (with_reducible refine branch_bool (fun _ => ?_) (fun _ => ?_)) | (with_reducible refine arith_64 (by omega) ?_) | (with_reducible refine ob_i (by omega) (fun _ => ?_)) | (with_reducible refine ob_i (by unfold room; omega) (fun _ => ?_)) | (with_reducible refine ob_i (by (try simp only [toN_eq] at *); (try dsimp only [toN] at *); omega) (fun _ => ?_)) | (with_reducible refine arith_64 (by (try simp only [toN_eq] at *); (try dsimp only [toN] at *); omega) ?_) | (with_reducible refine ob_k rfl ?_) | ((with_reducible refine ob_k ?_ ?_); focus kernel_rfl) | (refine yield_i hmix hT rfl hL efr eps eag ebd rfl (by kernel_rfl) ?_) | (apply call_u LA) | (apply call_l (first_ok (l := [_, _]) (Nat.le_of_ble_eq_true rfl)) (.cons (vm_lit _ rfl rfl (.cons (vm_int rfl) (.cons (vm_int rfl) .nil))) .nil)) | (apply call_l (first_ok (l := [_, _, _]) (Nat.le_of_ble_eq_true rfl)) (.cons (vm_lit _ rfl rfl (.cons (vm_int rfl) (.cons (vm_int rfl) (.cons (vm_int rfl) .nil)))) .nil)) | (apply call_l (first_ok (l := [_, _, _, _]) (Nat.le_of_ble_eq_true rfl)) (.cons (vm_lit _ rfl rfl (.cons (vm_int rfl) (.cons (vm_int rfl) (.cons (vm_int rfl) (.cons (vm_int rfl) .nil))))) .nil))) <;> (try (exfalso; omega; done)) <;> (with_reducible conv => whnf))
          all_goals
            refine ⟨h + 1, by omega, by omega, ?_⟩
            rw [nx]
            refine ⟨[(1, some 3)], rfl, ?_, ?_⟩ <;> repeat' (first | exact trivial | exact vm_p | exact vm_ptr rfl rfl rfl | exact vm_yld rfl rfl | exact vm_own rfl rfl rfl rfl | exact vm_own rfl rfl (by omega) (by omega) | exact vm_int (by omega) | exact vm_nil rfl | exact sbm_cells vmL_p | exact sbm_row rfl (fun _ _ => vm_p) | refine ⟨⟨_, rfl, ?_⟩, ?_⟩ | refine ⟨⟨_, _, _, rfl⟩, ?_⟩ | (refine sbm_loop ?_; rw [efr]) | refine sbm_cells ?_ | refine vmL.cons ?_ ?_ | exact vmL.nil | refine vm_own rfl rfl rfl ?_)
            refine sbm_row rfl fun j hj => vm_snoc (e' := fun j => I (((sch (usB t s) t.fr.length h).1 ++ [(c : Int)]).getD j 0)) hj (fun k hk' => ?_) ?_
            · exact vm_int (getD_snoc_lt (by rw [SI.len]; exact hk')).symm
            · exact vm_int (by rw [tq]; exact (getD_snoc_at SI.len).symm)
        · have np : (usl t s h).getD i 0 ≠ (pj : Int) := fun e => by
            rw [c2] at e
            obtain rfl : c = pj := by omega
            unfold pickB at p2
            rw [decide_eq_true_eq, ue, af] at p2
            omega
          with_reducible conv => whnf
          repeat' ((first | (with_reducible refine branch_t ?_) | (with_reducible refine branch_f ?_) | (with_reducible refine branch_nt ?_) | (with_reducible refine branch_nf ?_) | (with_reducible refine branch_dec (fun _ => ?_) (fun _ => ?_)) | (with_reducible refine branch_ndec (fun _ => ?_) (fun _ => ?_)) | (with_reducible refine branch_bool (fun _ => ?_) (fun _ => ?_)) | (with_reducible refine arith_64 (by omega) ?_) | (with_reducible refine ob_i (by omega) (fun _ => ?_)) | (with_reducible refine ob_i (by unfold room; omega) (fun _ => ?_)) | (with_reducible refine ob_i (by (try simp only [toN_eq] at *); (try dsimp only [toN] at *); omega) (fun _ => ?_)) | (with_reducible refine arith_64 (by (try simp only [toN_eq] at *); (try dsimp only [toN] at *); omega) ?_) | (with_reducible refine ob_k rfl ?_) | ((with_reducible refine ob_k ?_ ?_); focus kernel_rfl) | (refine yield_i hmix hT rfl hL efr eps eag ebd rfl (by kernel_rfl) ?_) | (apply call_u LA) | (apply call_l (first_ok (l := [_, _]) (Nat.le_of_ble_eq_true rfl)) (.cons (vm_lit _ rfl rfl (.cons (vm_int rfl) (.cons (vm_int rfl) .nil))) .nil)) | (apply call_l (first_ok (l := [_, _, _]) (Nat.le_of_ble_eq_true rfl)) (.cons (vm_lit _ rfl rfl (.cons (vm_int rfl) (.cons (vm_int rfl) (.cons (vm_int rfl) .nil)))) .nil)) | (apply call_l (first_ok (l := [_, _, _, _]) (Nat.le_of_ble_eq_true rfl)) (.cons (vm_lit _ rfl rfl (.cons (vm_int rfl) (.cons (vm_int rfl) (.cons (vm_int rfl) (.cons (vm_int rfl) .nil))))) .nil))) <;> (try (exfalso; omega; done)) <;> (with_reducible conv => whnf))
          all_goals
            refine ⟨i + 1, ⟨by omega, fun j hj => ?_⟩, by omega, ?_⟩
            · by_cases e' : j = i
              · subst e'; exact np
              · exact hi3 j (by omega)
            · refine ⟨[], rfl, ?_, ?_⟩ <;> repeat' (first | exact trivial | exact vm_p | exact vm_ptr rfl rfl rfl | exact vm_yld rfl rfl | exact vm_own rfl rfl rfl rfl | exact vm_own rfl rfl (by omega) (by omega) | exact vm_int (by omega) | exact vm_nil rfl | exact sbm_cells vmL_p | exact sbm_row rfl (fun _ _ => vm_p) | refine ⟨⟨_, rfl, ?_⟩, ?_⟩ | refine ⟨⟨_, _, _, rfl⟩, ?_⟩ | (refine sbm_loop ?_; rw [efr]) | refine sbm_cells ?_ | refine vmL.cons ?_ ?_ | exact vmL.nil | refine vm_own rfl rfl rfl ?_)
      ·
        have ue : used (sch (usB t s) t.fr.length h).1 c = 1 := by
          rw [ua]; unfold chg; rw [if_pos (Ne.symm d)]
        rw [ue, af] at same
        rw [ue] at nx1
        by_cases q : 1 + 1 + (gL t s).getD (toN ((h : Int) + (lasts (usB t s) h c : Int))) 0 ≤ (sch (usB t s) t.fr.length h).2
        · have e := same (by omega)
          have nx := nx1 e
          with_reducible conv => whnf
          repeat' ((first | (with_reducible refine branch_t ?_) | (with_reducible refine branch_f ?_) | (with_reducible refine branch_nt ?_) | (with_reducible refine branch_nf ?_) | (with_reducible refine branch_dec (fun _ => ?_) (fun _ => ?_)) | (with_reducible refine branch_ndec (fun _ => ?_) (fun _ => ?_)) | (with_reducible refine branch_bool (fun _ => ?_) (fun _ => ?_)) | (with_reducible refine arith_64 (by omega) ?_) | (with_reducible refine ob_i (by omega) (fun _ => ?_)) | (with_reducible refine ob_i (by unfold room; omega) (fun _ => ?_)) | (with_reducible refine ob_i (by (try simp only [toN_eq] at *); (try dsimp only [toN] at *); omega) (fun _ => ?_)) | (with_reducible refine arith_64 (by (try simp only [toN_eq] at *); (try dsimp only [toN] at *); omega) ?_) | (with_reducible refine ob_k rfl ?_) | ((with_reducible refine ob_k ?_ ?_); focus kernel_rfl) | (refine yield_i hmix hT rfl hL efr eps eag ebd rfl (by kernel_rfl) ?_) | (apply call_u LA) | (apply call_l (first_ok (l := [_, _]) (Nat.le_of_ble_eq_true rfl)) (.cons (vm_lit _ rfl rfl (.cons (vm_int rfl) (.cons (vm_int rfl) .nil))) .nil)) | (apply call_l (first_ok (l := [_, _, _]) (Nat.le_of_ble_eq_true rfl)) (.cons (vm_lit _ rfl rfl (.cons (vm_int rfl) (.cons (vm_int rfl) (.cons (vm_int rfl) .nil)))) .nil)) | (apply call_l (first_ok (l := [_, _, _, _]) (Nat.le_of_ble_eq_true rfl)) (.cons (vm_lit _ rfl rfl (.cons (vm_int rfl) (.cons (vm_int rfl) (.cons (vm_int rfl) (.cons (vm_int rfl) .nil))))) .nil))) <;> (try (exfalso; omega; done)) <;> (with_reducible conv => whnf))
          all_goals
            refine ⟨h + 1, by omega, by omega, ?_⟩
            rw [nx]
            refine ⟨[(1, some 3)], rfl, ?_, ?_⟩ <;> repeat' (first | exact trivial | exact vm_p | exact vm_ptr rfl rfl rfl | exact vm_yld rfl rfl | exact vm_own rfl rfl rfl rfl | exact vm_own rfl rfl (by omega) (by omega) | exact vm_int (by omega) | exact vm_nil rfl | exact sbm_cells vmL_p | exact sbm_row rfl (fun _ _ => vm_p) | refine ⟨⟨_, rfl, ?_⟩, ?_⟩ | refine ⟨⟨_, _, _, rfl⟩, ?_⟩ | (refine sbm_loop ?_; rw [efr]) | refine sbm_cells ?_ | refine vmL.cons ?_ ?_ | exact vmL.nil | refine vm_own rfl rfl rfl ?_)
            refine sbm_row rfl fun j hj => vm_snoc (e' := fun j => I (((sch (usB t s) t.fr.length h).1 ++ [(c : Int)]).getD j 0)) hj (fun k hk' => ?_) ?_
            · exact vm_int (getD_snoc_lt (by rw [SI.len]; exact hk')).symm
            · exact vm_int (by rw [tq]; exact (getD_snoc_at SI.len).symm)
        · have np : (usl t s h).getD i 0 ≠ (pj : Int) := fun e => by
            rw [c2] at e
            obtain rfl : c = pj := by omega
            unfold pickB at p2
            rw [decide_eq_true_eq, ue, af] at p2
            omega
          with_reducible conv => whnf
          repeat' ((first | (with_reducible refine branch_t ?_) | (with_reducible refine branch_f ?_) | (with_reducible refine branch_nt ?_) | (with_reducible refine branch_nf ?_) | (with_reducible refine branch_dec (fun _ => ?_) (fun _ => ?_)) | (with_reducible refine branch_ndec (fun _ => ?_) (fun _ => ?_)) | (with_reducible refine branch_bool (fun _ => ?_) (fun _ => ?_)) | (with_reducible refine arith_64 (by omega) ?_) | (with_reducible refine ob_i (by omega) (fun _ => ?_)) | (with_reducible refine ob_i (by unfold room; omega) (fun _ => ?_)) | (with_reducible refine ob_i (by (try simp only [toN_eq] at *); (try dsimp only [toN] at *); omega) (fun _ => ?_)) | (with_reducible refine arith_64 (by (try simp only [toN_eq] at *); (try dsimp only [toN] at *); omega) ?_) | (with_reducible refine ob_k rfl ?_) | ((with_reducible refine ob_k ?_ ?_); focus kernel_rfl) | (refine yield_i hmix hT rfl hL efr eps eag ebd rfl (by kernel_rfl) ?_) | (apply call_u LA) | (apply call_l (first_ok (l := [_, _]) (Nat.le_of_ble_eq_true rfl)) (.cons (vm_lit _ rfl rfl (.cons (vm_int rfl) (.cons (vm_int rfl) .nil))) .nil)) | (apply call_l (first_ok (l := [_, _, _]) (Nat.le_of_ble_eq_true rfl)) (.cons (vm_lit _ rfl rfl (.cons (vm_int rfl) (.cons (vm_int rfl) (.cons (vm_int rfl) .nil)))) .nil)) | (apply call_l (first_ok (l := [_, _, _, _]) (Nat.le_of_ble_eq_true rfl)) (.cons (vm_lit _ rfl rfl (.cons (vm_int rfl) (.cons (vm_int rfl) (.cons (vm_int rfl) (.cons (vm_int rfl) .nil))))) .nil))) <;> (try (exfalso; omega; done)) <;> (with_reducible conv => whnf))
          all_goals
            refine ⟨i + 1, ⟨by omega, fun j hj => ?_⟩, by omega, ?_⟩
            · by_cases e' : j = i
              · subst e'; exact np
              · exact hi3 j (by omega)
            · refine ⟨[], rfl, ?_, ?_⟩ <;> repeat' (first | exact trivial | exact vm_p | exact vm_ptr rfl rfl rfl | exact vm_yld rfl rfl | exact vm_own rfl rfl rfl rfl | exact vm_own rfl rfl (by omega) (by omega) | exact vm_int (by omega) | exact vm_nil rfl | exact sbm_cells vmL_p | exact sbm_row rfl (fun _ _ => vm_p) | refine ⟨⟨_, rfl, ?_⟩, ?_⟩ | refine ⟨⟨_, _, _, rfl⟩, ?_⟩ | (refine sbm_loop ?_; rw [efr]) | refine sbm_cells ?_ | refine vmL.cons ?_ ?_ | exact vmL.nil | refine vm_own rfl rfl rfl ?_)
    · exfalso
      obtain ⟨j, j1, j2⟩ := u2 pj p1 (pick_us hk h2 SI p1 p2)
      exact hi3 j (by omega) j2
  · obtain rfl : h = 24 := by omega
    with_reducible conv => whnf
    repeat' ((first | (with_reducible refine branch_t ?_) | (with_reducible refine branch_f ?_) | (with_reducible refine branch_nt ?_) | (with_reducible refine branch_nf ?_) | (with_reducible refine branch_dec (fun _ => ?_) (fun _ => ?_)) | (with_reducible refine branch_ndec (fun _ => ?_) (fun _ => ?_)) | (with_reducible refine branch_bool (fun _ => ?_) (fun _ => ?_)) | (with_reducible refine arith_64 (by omega) ?_) | (with_reducible refine ob_i (by omega) (fun _ => ?_)) | (with_reducible refine ob_i (by unfold room; omega) (fun _ => ?_)) | (with_reducible refine ob_i (by (try simp only [toN_eq, Int.toNat_natCast] at *); (try dsimp only [toN] at *); omega) (fun _ => ?_)) | (with_reducible refine arith_64 (by (try simp only [toN_eq, Int.toNat_natCast] at *); (try dsimp only [toN] at *); omega) ?_) | (with_reducible refine ob_k rfl ?_) | ((with_reducible refine ob_k ?_ ?_); focus kernel_rfl) | (refine yield_i hmix hT rfl hL efr eps eag ebd rfl (by kernel_rfl) ?_)  | (apply call_l (first_ok (l := [_, _]) (Nat.le_of_ble_eq_true rfl)) (.cons (vm_lit _ rfl rfl (.cons (vm_int rfl) (.cons (vm_int rfl) .nil))) .nil)) | (apply call_l (first_ok (l := [_, _, _]) (Nat.le_of_ble_eq_true rfl)) (.cons (vm_lit _ rfl rfl (.cons (vm_int rfl) (.cons (vm_int rfl) (.cons (vm_int rfl) .nil)))) .nil)) | (apply call_l (first_ok (l := [_, _, _, _]) (Nat.le_of_ble_eq_true rfl)) (.cons (vm_lit _ rfl rfl (.cons (vm_int rfl) (.cons (vm_int rfl) (.cons (vm_int rfl) (.cons (vm_int rfl) .nil))))) .nil))) <;> (try (exfalso; omega; done)) <;> (with_reducible conv => whnf))
    refine ret0 (vm_tup (.cons (vm_fr rfl rfl SI.len.symm (Nat.le_refl _) fun i hi => vm_p) (.cons vm_p .nil)))
end Go.Proofs.Ytfmbgkbnmjbefaa
