/-
  Chapter 1: chirps (by contract).
  Conditions: none.
-/
import Derived.Test.YtaejdonacadpkabDoor1B
import Derived.Test.YtaejdonacadpkabDoorFw
namespace Go.Proofs.YtaejdonacadpkabDoor
open Go.RowKit Fx
structure Chp where
  s : Int
  n : Int
  d : Int
@[reducible] def eCh (c : Chp) : V := .agg [I c.s, I c.n, I c.d]
def chB (c : Chp) : Bool := decide (0 ≤ c.s ∧ c.s ≤ 100000) && decide (0 ≤ c.n ∧ c.n ≤ 1000) && decide (1 ≤ c.d ∧ c.d ≤ 1000)
def chE (c : Chp) : Int := if chB c = true then 0 else 2
def chAt (c : Chp) (t : Int) : Int := c.s + (t * c.n).tdiv c.d
structure Chp.Val (c : Chp) : Prop where
  s : 0 ≤ c.s ∧ c.s ≤ 100000
  n : 0 ≤ c.n ∧ c.n ≤ 1000
  d : 1 ≤ c.d ∧ c.d ≤ 1000
theorem chp_val {c : Chp} (h : chE c = 0) : c.Val := by
  unfold chE chB at h
  split at h
  · rename_i hc
    simp only [Bool.and_eq_true, decide_eq_true_eq] at hc
    exact ⟨hc.1.1, hc.1.2, hc.2⟩
  · cases h
theorem val_chp {c : Chp} (h : c.Val) : chE c = 0 := by
  have := h.s; have := h.n; have := h.d
  unfold chE chB
  rw [if_pos]
  simp only [Bool.and_eq_true, decide_eq_true_eq]
  exact ⟨⟨by assumption, by assumption⟩, by assumption⟩
theorem chMul_bd {c : Chp} (v : c.Val) {t M : Int} (h : 0 ≤ t ∧ t ≤ M) : 0 ≤ t * c.n ∧ t * c.n ≤ M * 1000 := by
  have hn := v.n
  exact ⟨Int.mul_nonneg h.1 hn.1, Int.mul_le_mul h.2 hn.2 hn.1 (by omega)⟩
theorem chDiv_bd {c : Chp} (v : c.Val) {t : Int} (h : 0 ≤ t) : 0 ≤ (t * c.n).tdiv c.d ∧ (t * c.n).tdiv c.d ≤ t * c.n := by
  have hn := v.n
  have hd := v.d
  have h0 : 0 ≤ t * c.n := Int.mul_nonneg h hn.1
  rw [Int.tdiv_eq_ediv_of_nonneg h0]
  exact ⟨Int.ediv_nonneg h0 (by omega), Int.ediv_le_self _ h0⟩
theorem checkChirp_ok {c : Chp} : FnOK Tryd.prog 66 [eCh c] (I (chE c)) [] := by
  refine fn_i hmix hT Tryd.f66 (by kernel_rfl) rfl (by kernel_rfl) ?_
  with_reducible conv => whnf
  repeat' ((first | (with_reducible refine branch_t ?_) | (with_reducible refine branch_f ?_) | (with_reducible refine branch_nt ?_) | (with_reducible refine branch_nf ?_) | (with_reducible refine branch_dec (fun _ => ?_) (fun _ => ?_)) | (with_reducible refine branch_ndec (fun _ => ?_) (fun _ => ?_)) | (with_reducible refine branch_bool (fun _ => ?_) (fun _ => ?_)) | (with_reducible refine arith_64 (by omega) ?_) | (with_reducible refine ob_i (by omega) (fun _ => ?_)) | (with_reducible refine ob_i (by unfold room; omega) (fun _ => ?_)) | (with_reducible refine ob_i (by (try simp only [toN_eq, Int.toNat_natCast] at *); (try dsimp only [toN] at *); omega) (fun _ => ?_)) | (with_reducible refine arith_64 (by (try simp only [toN_eq, Int.toNat_natCast] at *); (try dsimp only [toN] at *); omega) ?_) | (with_reducible refine ob_k rfl ?_) | ((with_reducible refine ob_k ?_ ?_); focus kernel_rfl) | (refine yield_i hmix hT rfl hL efr eps eag ebd rfl (by kernel_rfl) ?_) | (apply call_u within_ok) | (apply call_u unless_ok) | (apply call_l (first_ok (l := [_, _]) (Nat.le_of_ble_eq_true rfl)) (.cons (vm_lit _ rfl rfl (.cons (vm_int rfl) (.cons (vm_int rfl) .nil))) .nil)) | (apply call_l (first_ok (l := [_, _, _]) (Nat.le_of_ble_eq_true rfl)) (.cons (vm_lit _ rfl rfl (.cons (vm_int rfl) (.cons (vm_int rfl) (.cons (vm_int rfl) .nil)))) .nil)) | (apply call_l (first_ok (l := [_, _, _, _]) (Nat.le_of_ble_eq_true rfl)) (.cons (vm_lit _ rfl rfl (.cons (vm_int rfl) (.cons (vm_int rfl) (.cons (vm_int rfl) (.cons (vm_int rfl) .nil))))) .nil))) <;> (try (exfalso; omega; done)) <;> (with_reducible conv => whnf))
  all_goals exact ret0 (vm_int (by unfold chE chB; simp [*]))
theorem at_ok {c : Chp} (v : c.Val) {t : Int} (h : 0 ≤ t ∧ t ≤ 1000000) : FnOK Tryd.prog 68 [eCh c, I t] (I (chAt c t)) [] := by
  have hs := v.s
  have hd := v.d
  have b1 := chMul_bd v h
  have b2 := chDiv_bd v h.1
  refine fn_i hmix hT Tryd.f68 (by kernel_rfl) rfl (by kernel_rfl) ?_
  with_reducible conv => whnf
  repeat' ((first | (with_reducible refine branch_t ?_) | (with_reducible refine branch_f ?_) | (with_reducible refine branch_nt ?_) | (with_reducible refine branch_nf ?_) | (with_reducible refine branch_dec (fun _ => ?_) (fun _ => ?_)) | (with_reducible refine branch_ndec (fun _ => ?_) (fun _ => ?_)) | (with_reducible refine branch_bool (fun _ => ?_) (fun _ => ?_)) | (with_reducible refine arith_64 (by omega) ?_) | (with_reducible refine ob_i (by omega) (fun _ => ?_)) | (with_reducible refine ob_i (by unfold room; omega) (fun _ => ?_)) | (with_reducible refine ob_i (by (try simp only [] at *); (try dsimp only [toN] at *); omega) (fun _ => ?_)) | (with_reducible refine arith_64 (by (try simp only [toN_eq, Int.toNat_natCast] at *); (try dsimp only [toN] at *); omega) ?_) | (with_reducible refine ob_k rfl ?_) | ((with_reducible refine ob_k ?_ ?_); focus kernel_rfl) | (refine yield_i hmix hT rfl hL efr eps eag ebd rfl (by kernel_rfl) ?_)  | (apply call_l (first_ok (l := [_, _]) (Nat.le_of_ble_eq_true rfl)) (.cons (vm_lit _ rfl rfl (.cons (vm_int rfl) (.cons (vm_int rfl) .nil))) .nil)) | (apply call_l (first_ok (l := [_, _, _]) (Nat.le_of_ble_eq_true rfl)) (.cons (vm_lit _ rfl rfl (.cons (vm_int rfl) (.cons (vm_int rfl) (.cons (vm_int rfl) .nil)))) .nil)) | (apply call_l (first_ok (l := [_, _, _, _]) (Nat.le_of_ble_eq_true rfl)) (.cons (vm_lit _ rfl rfl (.cons (vm_int rfl) (.cons (vm_int rfl) (.cons (vm_int rfl) (.cons (vm_int rfl) .nil))))) .nil))) <;> (try (exfalso; omega; done)) <;> (with_reducible conv => whnf))
  exact ret0 vm_p
/-! ### Waves -/
def phK (c : Chp) : Nat → Int
  | 0 => 0
  | t + 1 => (phK c t + chAt c t).tmod 4
theorem phK_bd {c : Chp} (v : c.Val) : ∀ t : Nat, 0 ≤ phK c t ∧ phK c t < 4
  | 0 => by simp [phK]
  | t + 1 => by
    have i := phK_bd v t
    have hs := v.s
    have b := chDiv_bd v (t := t) (by omega)
    unfold phK
    have h0 : 0 ≤ phK c t + chAt c t := by unfold chAt; omega
    rw [Int.tmod_eq_emod_of_nonneg h0]
    omega
def wvP (c : Chp) (t : Nat) : Int × Int := t4 (phK c t).toNat
def wvL (c : Chp) (n : Nat) : List (Int × Int) := (List.range n).map (wvP c)
theorem wvL_len (c : Chp) (n : Nat) : (wvL c n).length = n := by simp [wvL]
theorem wvL_at {c : Chp} {n k : Nat} (h : k < n) : (wvL c n).getD k (0, 0) = wvP c k := by
  unfold wvL
  simp [List.getD_eq_getElem?_getD, h]
theorem chirpWave_bad {c : Chp} {n : Int} (h : firstErr [chE c, if decide (1 ≤ n ∧ n ≤ 32) = true then 0 else 2] ≠ 0) : FnOK Tryd.prog 34 [eCh c, I n] (.tup [ePs [], I (firstErr [chE c, if decide (1 ≤ n ∧ n ≤ 32) = true then 0 else 2])]) [] := by
  have F := first_ok (l := [chE c, if decide (1 ≤ n ∧ n ≤ 32) = true then 0 else 2]) (by simp)
  generalize hE : firstErr [chE c, if decide (1 ≤ n ∧ n ≤ 32) = true then 0 else 2] = e at *
  refine fn_i hmix hT Tryd.f34 (by kernel_rfl) rfl (by kernel_rfl) ?_
  with_reducible conv => whnf
  repeat' ((first | (with_reducible refine branch_t ?_) | (with_reducible refine branch_f ?_) | (with_reducible refine branch_nt ?_) | (with_reducible refine branch_nf ?_) | (with_reducible refine branch_dec (fun _ => ?_) (fun _ => ?_)) | (with_reducible refine branch_ndec (fun _ => ?_) (fun _ => ?_)) | (with_reducible refine branch_bool (fun _ => ?_) (fun _ => ?_)) | (with_reducible refine arith_64 (by omega) ?_) | (with_reducible refine ob_i (by omega) (fun _ => ?_)) | (with_reducible refine ob_i (by unfold room; omega) (fun _ => ?_)) | (with_reducible refine ob_i (by (try simp only [toN_eq, Int.toNat_natCast] at *); (try dsimp only [toN] at *); omega) (fun _ => ?_)) | (with_reducible refine arith_64 (by (try simp only [toN_eq, Int.toNat_natCast] at *); (try dsimp only [toN] at *); omega) ?_) | (with_reducible refine ob_k rfl ?_) | ((with_reducible refine ob_k ?_ ?_); focus kernel_rfl) | (refine yield_i hmix hT rfl hL efr eps eag ebd rfl (by kernel_rfl) ?_) | (apply call_u checkChirp_ok) | (apply call_u within_ok) | (apply call_u unless_ok) | (apply call_l F (.cons (vm_lit _ rfl rfl (.cons (vm_int rfl) (.cons (vm_int rfl) .nil))) .nil)) | (apply call_l (first_ok (l := [_, _]) (Nat.le_of_ble_eq_true rfl)) (.cons (vm_lit _ rfl rfl (.cons (vm_int rfl) (.cons (vm_int rfl) .nil))) .nil)) | (apply call_l (first_ok (l := [_, _, _]) (Nat.le_of_ble_eq_true rfl)) (.cons (vm_lit _ rfl rfl (.cons (vm_int rfl) (.cons (vm_int rfl) (.cons (vm_int rfl) .nil)))) .nil)) | (apply call_l (first_ok (l := [_, _, _, _]) (Nat.le_of_ble_eq_true rfl)) (.cons (vm_lit _ rfl rfl (.cons (vm_int rfl) (.cons (vm_int rfl) (.cons (vm_int rfl) (.cons (vm_int rfl) .nil))))) .nil))) <;> (try (exfalso; omega; done)) <;> (with_reducible conv => whnf))
  exact ret0 (vm_tup (.cons (vm_nilsl rfl) (.cons vm_p .nil)))
set_option maxHeartbeats 4000000 in
set_option maxRecDepth 100000 in
theorem chirpWave_good {c : Chp} (v : c.Val) {n : Nat} (h : 1 ≤ n ∧ n ≤ 32) : FnOK Tryd.prog 34 [eCh c, I n] (.tup [ePs (wvL c n), I 0]) [] := by
  have F := first_ok (l := [0, if decide (1 ≤ (n : Int) ∧ (n : Int) ≤ 32) = true then 0 else 2]) (by simp)
  have e : firstErr [0, if decide (1 ≤ (n : Int) ∧ (n : Int) ≤ 32) = true then 0 else 2] = 0 := by rw [first_two]; simp; omega
  rw [e] at F
  have CC := checkChirp_ok (c := c)
  rw [val_chp v] at CC
  have hs := v.s
  refine fn_i hmix hT Tryd.f34 (by kernel_rfl) rfl (by kernel_rfl) ?_
  with_reducible conv => whnf
  repeat' ((first | (with_reducible refine branch_t ?_) | (with_reducible refine branch_f ?_) | (with_reducible refine branch_nt ?_) | (with_reducible refine branch_nf ?_) | (with_reducible refine branch_dec (fun _ => ?_) (fun _ => ?_)) | (with_reducible refine branch_ndec (fun _ => ?_) (fun _ => ?_)) | (with_reducible refine branch_bool (fun _ => ?_) (fun _ => ?_)) | (with_reducible refine arith_64 (by omega) ?_) | (with_reducible refine ob_i (by omega) (fun _ => ?_)) | (with_reducible refine ob_i (by unfold room; omega) (fun _ => ?_)) | (with_reducible refine ob_i (by (try simp only [toN_eq, Int.toNat_natCast] at *); (try dsimp only [toN] at *); omega) (fun _ => ?_)) | (with_reducible refine arith_64 (by (try simp only [toN_eq, Int.toNat_natCast] at *); (try dsimp only [toN] at *); omega) ?_) | (with_reducible refine ob_k rfl ?_) | ((with_reducible refine ob_k ?_ ?_); focus kernel_rfl) | (refine yield_i hmix hT rfl hL efr eps eag ebd rfl (by kernel_rfl) ?_) | (apply call_u CC) | (apply call_u within_ok) | (apply call_u unless_ok) | (apply call_l F (.cons (vm_lit _ rfl rfl (.cons (vm_int rfl) (.cons (vm_int rfl) .nil))) .nil)) | (apply call_l (first_ok (l := [_, _]) (Nat.le_of_ble_eq_true rfl)) (.cons (vm_lit _ rfl rfl (.cons (vm_int rfl) (.cons (vm_int rfl) .nil))) .nil)) | (apply call_l (first_ok (l := [_, _, _]) (Nat.le_of_ble_eq_true rfl)) (.cons (vm_lit _ rfl rfl (.cons (vm_int rfl) (.cons (vm_int rfl) (.cons (vm_int rfl) .nil)))) .nil)) | (apply call_l (first_ok (l := [_, _, _, _]) (Nat.le_of_ble_eq_true rfl)) (.cons (vm_lit _ rfl rfl (.cons (vm_int rfl) (.cons (vm_int rfl) (.cons (vm_int rfl) (.cons (vm_int rfl) .nil))))) .nil))) <;> (try (exfalso; omega; done)) <;> (with_reducible conv => whnf))
  refine loop_i hmix hT (fun (k, p) => (([(2, .ptr 0 0), (7, .own 1 2 0 k), (8, I p), (20, I n), (21, I (k : Nat))], ⟨2, [(1, .row 2 k (fun i => eP (wvP c i)) 78), (0, .cells [I c.s, I c.n, I c.d] 70)]⟩) : Fr × SW)) (fun x => x.1 ≤ n ∧ x.2 = phK c x.1) (fun x => n - x.1) ((0 : Nat), (0 : Int)) ⟨by simp, rfl⟩ ?_ ?_
  · refine ⟨[(1, none)], rfl, ?_, ?_⟩ <;> repeat' (first | exact trivial | exact vm_p | exact vm_ptr rfl rfl rfl | exact vm_yld rfl rfl | exact vm_own rfl rfl rfl rfl | exact vm_own rfl rfl (by omega) (by omega) | exact vm_int (by omega) | exact vm_nil rfl | exact sbm_cells vmL_p | exact sbm_row rfl (fun _ _ => vm_p) | refine ⟨⟨_, rfl, ?_⟩, ?_⟩ | refine ⟨⟨_, _, _, rfl⟩, ?_⟩ | (refine sbm_loop ?_; rw [efr]) | refine sbm_cells ?_ | refine vmL.cons ?_ ?_ | exact vmL.nil | refine vm_own rfl rfl rfl ?_)
  rintro ⟨k, p⟩ ⟨hk, hp⟩
  dsimp only at hk hp
  by_cases k2 : k < n
  · have pb := phK_bd v k
    have b2 := chDiv_bd v (t := k) (by omega)
    have b1 := chMul_bd v (t := k) (M := 32) (by omega)
    have A := at_ok v (t := k) (by omega)
    have cb : 0 ≤ chAt c k ∧ chAt c k ≤ 200000 := by unfold chAt; omega
    have nx : phK c (k + 1) = (p + chAt c k).tmod 4 := by rw [phK, hp]
    have hv : ∀ r : Nat, p = r → t4 r = wvP c k := fun r e => by unfold wvP; rw [← hp, e]; rfl
    rw [← hp] at pb
    have c4 : p = 0 ∨ p = 1 ∨ p = 2 ∨ p = 3 := by omega
    clear hp
    rcases c4 with rfl | rfl | rfl | rfl
    all_goals
      with_reducible conv => whnf
      repeat' ((first | (with_reducible refine branch_t ?_) | (with_reducible refine branch_f ?_) | (with_reducible refine branch_nt ?_) | (with_reducible refine branch_nf ?_) | (with_reducible refine branch_dec (fun _ => ?_) (fun _ => ?_)) | (with_reducible refine branch_ndec (fun _ => ?_) (fun _ => ?_)) | (with_reducible refine branch_bool (fun _ => ?_) (fun _ => ?_)) | (with_reducible refine arith_64 (by omega) ?_) | (with_reducible refine ob_i (by omega) (fun _ => ?_)) | (with_reducible refine ob_i (by unfold room; omega) (fun _ => ?_)) | (with_reducible refine ob_i (by (try simp only [] at *); (try dsimp only [toN] at *); omega) (fun _ => ?_)) | (with_reducible refine arith_64 (by (try simp only [] at *); (try dsimp only [toN] at *); omega) ?_) | (with_reducible refine ob_k rfl ?_) | ((with_reducible refine ob_k ?_ ?_); focus kernel_rfl) | (refine yield_i hmix hT rfl hL efr eps eag ebd rfl (by kernel_rfl) ?_) | (apply call_u A) | (apply call_l (first_ok (l := [_, _]) (Nat.le_of_ble_eq_true rfl)) (.cons (vm_lit _ rfl rfl (.cons (vm_int rfl) (.cons (vm_int rfl) .nil))) .nil)) | (apply call_l (first_ok (l := [_, _, _]) (Nat.le_of_ble_eq_true rfl)) (.cons (vm_lit _ rfl rfl (.cons (vm_int rfl) (.cons (vm_int rfl) (.cons (vm_int rfl) .nil)))) .nil)) | (apply call_l (first_ok (l := [_, _, _, _]) (Nat.le_of_ble_eq_true rfl)) (.cons (vm_lit _ rfl rfl (.cons (vm_int rfl) (.cons (vm_int rfl) (.cons (vm_int rfl) (.cons (vm_int rfl) .nil))))) .nil))) <;> (try (exfalso; omega; done)) <;> (with_reducible conv => whnf))
      refine ⟨(k + 1, _), ⟨by omega, nx.symm⟩, by dsimp only; omega, ?_⟩
      refine ⟨[(1, some 3)], rfl, ?_, ?_⟩ <;> repeat' (first | exact trivial | exact vm_p | exact vm_ptr rfl rfl rfl | exact vm_yld rfl rfl | exact vm_own rfl rfl rfl rfl | exact vm_own rfl rfl (by omega) (by omega) | exact vm_int (by omega) | exact vm_nil rfl | exact sbm_cells vmL_p | exact sbm_row rfl (fun _ _ => vm_p) | refine ⟨⟨_, rfl, ?_⟩, ?_⟩ | refine ⟨⟨_, _, _, rfl⟩, ?_⟩ | (refine sbm_loop ?_; rw [efr]) | refine sbm_cells ?_ | refine vmL.cons ?_ ?_ | exact vmL.nil | refine vm_own rfl rfl rfl ?_)
      refine sbm_row rfl fun i hi => vm_snoc (e' := fun i => eP (wvP c i)) hi (fun _ _ => vm_p) ?_
      dsimp only
      rw [← hv _ rfl]
      exact vm_p
  · obtain rfl : k = n := by omega
    with_reducible conv => whnf
    repeat' ((first | (with_reducible refine branch_t ?_) | (with_reducible refine branch_f ?_) | (with_reducible refine branch_nt ?_) | (with_reducible refine branch_nf ?_) | (with_reducible refine branch_dec (fun _ => ?_) (fun _ => ?_)) | (with_reducible refine branch_ndec (fun _ => ?_) (fun _ => ?_)) | (with_reducible refine branch_bool (fun _ => ?_) (fun _ => ?_)) | (with_reducible refine arith_64 (by omega) ?_) | (with_reducible refine ob_i (by omega) (fun _ => ?_)) | (with_reducible refine ob_i (by unfold room; omega) (fun _ => ?_)) | (with_reducible refine ob_i (by (try simp only [toN_eq, Int.toNat_natCast] at *); (try dsimp only [toN] at *); omega) (fun _ => ?_)) | (with_reducible refine arith_64 (by (try simp only [toN_eq, Int.toNat_natCast] at *); (try dsimp only [toN] at *); omega) ?_) | (with_reducible refine ob_k rfl ?_) | ((with_reducible refine ob_k ?_ ?_); focus kernel_rfl) | (refine yield_i hmix hT rfl hL efr eps eag ebd rfl (by kernel_rfl) ?_)  | (apply call_l (first_ok (l := [_, _]) (Nat.le_of_ble_eq_true rfl)) (.cons (vm_lit _ rfl rfl (.cons (vm_int rfl) (.cons (vm_int rfl) .nil))) .nil)) | (apply call_l (first_ok (l := [_, _, _]) (Nat.le_of_ble_eq_true rfl)) (.cons (vm_lit _ rfl rfl (.cons (vm_int rfl) (.cons (vm_int rfl) (.cons (vm_int rfl) .nil)))) .nil)) | (apply call_l (first_ok (l := [_, _, _, _]) (Nat.le_of_ble_eq_true rfl)) (.cons (vm_lit _ rfl rfl (.cons (vm_int rfl) (.cons (vm_int rfl) (.cons (vm_int rfl) (.cons (vm_int rfl) .nil))))) .nil))) <;> (try (exfalso; omega; done)) <;> (with_reducible conv => whnf))
    refine ret0 (vm_tup (.cons (vm_fr rfl rfl (wvL_len _ _).symm (Nat.le_refl _) fun i hi => ?_) (.cons vm_p .nil)))
    rw [wvL_at (by rw [wvL_len] at hi; exact hi)]
    exact vm_p
end Go.Proofs.YtaejdonacadpkabDoor
