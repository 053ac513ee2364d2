/-
  Chapter 7: the score of reports (by contract).
  Conditions: none.
-/
import Derived.Test.YtcdcmeiipfafdaaGreat7Rg
import Derived.Test.YtcdcmeiipfafdaaGreat7E
namespace Go.Proofs.YtcdcmeiipfafdaaGreat
open Go.RowKit Fx
/-- By how much a report is missed, in thousandths. -/
def farV (t : Tb) (r : Rp) : Int := if r.heard = true then (cR t r).1 * 1000 / (cR t r).2 - 1000 else (cR t r).1 * 1000 / (cR t r).2
def scS (t : Tb) (l : List Rp) : Nat → Int
  | 0 => 0
  | i + 1 => scS t l i + (l.getD i rp0).w * farV t (l.getD i rp0) * farV t (l.getD i rp0)
def scW (l : List Rp) : Nat → Int
  | 0 => 0
  | i + 1 => scW l i + (l.getD i rp0).w
theorem div_in {c : Int × Int} (h : (0 ≤ c.1 ∧ c.1 ≤ c.2) ∧ c.2 ≤ 1000) (h0 : c.2 ≠ 0) : 0 ≤ c.1 * 1000 / c.2 ∧ c.1 * 1000 / c.2 ≤ 1000 := by
  have p : 0 < c.2 := by omega
  refine ⟨Int.ediv_nonneg (by omega) (by omega), ?_⟩
  have : c.1 * 1000 / c.2 ≤ (1000 * c.2) / c.2 := Int.ediv_le_ediv p (by omega)
  rw [Int.mul_ediv_cancel _ h0] at this
  exact this
theorem sq_w {w q : Int} (hw : 1 ≤ w ∧ w ≤ 10) (hq : -1000 ≤ q ∧ q ≤ 1000) : (-10000 ≤ w * q ∧ w * q ≤ 10000) ∧ 0 ≤ w * q * q ∧ w * q * q ≤ 10000000 := by
  have a1 : w * q ≤ w * 1000 := Int.mul_le_mul_of_nonneg_left hq.2 (by omega)
  have a2 : w * (-1000) ≤ w * q := Int.mul_le_mul_of_nonneg_left hq.1 (by omega)
  have s0 : 0 ≤ q * q := by
    rcases Int.le_total 0 q with h | h
    · exact Int.mul_nonneg h h
    · exact Int.mul_nonneg_of_nonpos_of_nonpos h h
  have s1 : q * q ≤ 1000 * 1000 := by
    rcases Int.le_total 0 q with h | h
    · exact Int.mul_le_mul hq.2 hq.2 h (by omega)
    · have : q * q = -q * -q := by rw [Int.neg_mul, Int.mul_neg, Int.neg_neg]
      rw [this]
      exact Int.mul_le_mul (by omega) (by omega) (by omega) (by omega)
  have e : w * q * q = w * (q * q) := Int.mul_assoc ..
  have b1 : w * (q * q) ≤ w * (1000 * 1000) := Int.mul_le_mul_of_nonneg_left s1 (by omega)
  have b0 : 0 ≤ w * (q * q) := Int.mul_nonneg (by omega) s0
  rw [e]
  omega
theorem far_in {t : Tb} {r : Rp} (v : TbV t) (h : rpE t.fr.length r = 0) (h0 : (cR t r).2 ≠ 0) : -1000 ≤ farV t r ∧ farV t r ≤ 1000 := by
  have := div_in (cR_val v h) h0
  unfold farV
  split <;> omega
theorem sc_bd {t : Tb} {l : List Rp} (v : TbV t) (hr : ∀ i, i < l.length → rpE t.fr.length (l.getD i rp0) = 0) (hg : ∀ i, i < l.length → (cR t (l.getD i rp0)).2 ≠ 0) : ∀ i : Nat, i ≤ l.length → (0 ≤ scS t l i ∧ scS t l i ≤ i * 10000000) ∧ (i : Int) ≤ scW l i ∧ scW l i ≤ i * 10
  | 0, _ => by simp [scS, scW]
  | i + 1, h => by
    have ih := sc_bd v hr hg i (by omega)
    have rv := rp_val (hr i (by omega))
    have s := sq_w rv.2.2 (far_in v (hr i (by omega)) (hg i (by omega)))
    unfold scS scW
    omega
theorem far_ok {t : Tb} {r : Rp} (v : TbV t) (h : rpE t.fr.length r = 0) (h0 : (cR t r).2 ≠ 0) : FnOK Tryz.prog 51 [eTb t, eRp r] (I (farV t r)) [] := by
  have n24 := v.n
  have rv := rp_val h
  have len := cR_len v h
  have cv := cR_val v h
  have F := floor_ok (n := (cR t r).1 * 1000) (b := (cR t r).2) (by omega) (by omega)
  have d := div_in cv h0
  unfold farV
  by_cases hd : r.heard = true
  · obtain ⟨rh, rc, rd, rw⟩ := r
    dsimp only at hd
    subst hd
    rw [if_pos rfl]
    unfold cR at *
    dsimp only at *
    refine fn_i hmix hT Tryz.f51 (by kernel_rfl) rfl (by kernel_rfl) ?_
    with_reducible conv => whnf
    repeat' ((first | (with_reducible refine branch_t ?_) | (with_reducible refine branch_f ?_) | (with_reducible refine branch_nt ?_) | (with_reducible refine branch_nf ?_) | (with_reducible refine branch_dec (fun _ => ?_) (fun _ => ?_)) | (with_reducible refine branch_ndec (fun _ => ?_) (fun _ => ?_)) | (with_reducible refine branch_bool (fun _ => ?_) (fun _ => ?_)) | (with_reducible refine arith_64 (by omega) ?_) | (with_reducible refine ob_i (by omega) (fun _ => ?_)) | (with_reducible refine ob_i (by unfold room; omega) (fun _ => ?_)) | (with_reducible refine ob_i (by (try simp only [toN_eq, Int.toNat_natCast] at *); (try dsimp only [toN] at *); omega) (fun _ => ?_)) | (with_reducible refine arith_64 (by (try simp only [toN_eq, Int.toNat_natCast] at *); (try dsimp only [toN] at *); omega) ?_) | (with_reducible refine ob_k rfl ?_) | ((with_reducible refine ob_k ?_ ?_); focus kernel_rfl) | (refine yield_i hmix hT rfl hL efr eps eag ebd rfl (by kernel_rfl) ?_) | (apply call_u F) | (apply call_l (first_ok (l := [_, _]) (Nat.le_of_ble_eq_true rfl)) (.cons (vm_lit _ rfl rfl (.cons (vm_int rfl) (.cons (vm_int rfl) .nil))) .nil)) | (apply call_l (first_ok (l := [_, _, _]) (Nat.le_of_ble_eq_true rfl)) (.cons (vm_lit _ rfl rfl (.cons (vm_int rfl) (.cons (vm_int rfl) (.cons (vm_int rfl) .nil)))) .nil)) | (apply call_l (first_ok (l := [_, _, _, _]) (Nat.le_of_ble_eq_true rfl)) (.cons (vm_lit _ rfl rfl (.cons (vm_int rfl) (.cons (vm_int rfl) (.cons (vm_int rfl) (.cons (vm_int rfl) .nil))))) .nil))) <;> (try (exfalso; omega; done)) <;> (with_reducible conv => whnf))
    all_goals exact ret0 vm_p
  · obtain ⟨rh, rc, rd, rw⟩ := r
    dsimp only at hd
    obtain rfl : rd = false := by simpa using hd
    rw [if_neg (by simp)]
    unfold cR at *
    dsimp only at *
    refine fn_i hmix hT Tryz.f51 (by kernel_rfl) rfl (by kernel_rfl) ?_
    with_reducible conv => whnf
    repeat' ((first | (with_reducible refine branch_t ?_) | (with_reducible refine branch_f ?_) | (with_reducible refine branch_nt ?_) | (with_reducible refine branch_nf ?_) | (with_reducible refine branch_dec (fun _ => ?_) (fun _ => ?_)) | (with_reducible refine branch_ndec (fun _ => ?_) (fun _ => ?_)) | (with_reducible refine branch_bool (fun _ => ?_) (fun _ => ?_)) | (with_reducible refine arith_64 (by omega) ?_) | (with_reducible refine ob_i (by omega) (fun _ => ?_)) | (with_reducible refine ob_i (by unfold room; omega) (fun _ => ?_)) | (with_reducible refine ob_i (by (try simp only [toN_eq, Int.toNat_natCast] at *); (try dsimp only [toN] at *); omega) (fun _ => ?_)) | (with_reducible refine arith_64 (by (try simp only [toN_eq, Int.toNat_natCast] at *); (try dsimp only [toN] at *); omega) ?_) | (with_reducible refine ob_k rfl ?_) | ((with_reducible refine ob_k ?_ ?_); focus kernel_rfl) | (refine yield_i hmix hT rfl hL efr eps eag ebd rfl (by kernel_rfl) ?_) | (apply call_u F) | (apply call_l (first_ok (l := [_, _]) (Nat.le_of_ble_eq_true rfl)) (.cons (vm_lit _ rfl rfl (.cons (vm_int rfl) (.cons (vm_int rfl) .nil))) .nil)) | (apply call_l (first_ok (l := [_, _, _]) (Nat.le_of_ble_eq_true rfl)) (.cons (vm_lit _ rfl rfl (.cons (vm_int rfl) (.cons (vm_int rfl) (.cons (vm_int rfl) .nil)))) .nil)) | (apply call_l (first_ok (l := [_, _, _, _]) (Nat.le_of_ble_eq_true rfl)) (.cons (vm_lit _ rfl rfl (.cons (vm_int rfl) (.cons (vm_int rfl) (.cons (vm_int rfl) (.cons (vm_int rfl) .nil))))) .nil))) <;> (try (exfalso; omega; done)) <;> (with_reducible conv => whnf))
    all_goals exact ret0 vm_p
set_option maxHeartbeats 4000000 in
set_option maxRecDepth 100000 in
theorem rScore_ok {t : Tb} {l : List Rp} (v : TbV t) (hn : 0 < l.length ∧ l.length ≤ 100) (hr : ∀ i, i < l.length → rpE t.fr.length (l.getD i rp0) = 0) (hg : ∀ i, i < l.length → (cR t (l.getD i rp0)).2 ≠ 0) : FnOK Tryz.prog 20 [eTb t, eRps l] (eFrac (low (scS t l l.length) (scW l l.length))) [] := by
  have sb := sc_bd v hr hg
  refine fn_i hmix hT Tryz.f20 (by kernel_rfl) rfl (by kernel_rfl) ?_
  with_reducible conv => whnf
  repeat' ((first | (with_reducible refine branch_t ?_) | (with_reducible refine branch_f ?_) | (with_reducible refine branch_nt ?_) | (with_reducible refine branch_nf ?_) | (with_reducible refine branch_dec (fun _ => ?_) (fun _ => ?_)) | (with_reducible refine branch_ndec (fun _ => ?_) (fun _ => ?_)) | (with_reducible refine branch_bool (fun _ => ?_) (fun _ => ?_)) | (with_reducible refine arith_64 (by omega) ?_) | (with_reducible refine ob_i (by omega) (fun _ => ?_)) | (with_reducible refine ob_i (by unfold room; omega) (fun _ => ?_)) | (with_reducible refine ob_i (by (try simp only [toN_eq, Int.toNat_natCast] at *); (try dsimp only [toN] at *); omega) (fun _ => ?_)) | (with_reducible refine arith_64 (by (try simp only [toN_eq, Int.toNat_natCast] at *); (try dsimp only [toN] at *); omega) ?_) | (with_reducible refine ob_k rfl ?_) | ((with_reducible refine ob_k ?_ ?_); focus kernel_rfl) | (refine yield_i hmix hT rfl hL efr eps eag ebd rfl (by kernel_rfl) ?_)  | (apply call_l (first_ok (l := [_, _]) (Nat.le_of_ble_eq_true rfl)) (.cons (vm_lit _ rfl rfl (.cons (vm_int rfl) (.cons (vm_int rfl) .nil))) .nil)) | (apply call_l (first_ok (l := [_, _, _]) (Nat.le_of_ble_eq_true rfl)) (.cons (vm_lit _ rfl rfl (.cons (vm_int rfl) (.cons (vm_int rfl) (.cons (vm_int rfl) .nil)))) .nil)) | (apply call_l (first_ok (l := [_, _, _, _]) (Nat.le_of_ble_eq_true rfl)) (.cons (vm_lit _ rfl rfl (.cons (vm_int rfl) (.cons (vm_int rfl) (.cons (vm_int rfl) (.cons (vm_int rfl) .nil))))) .nil))) <;> (try (exfalso; omega; done)) <;> (with_reducible conv => whnf))
  refine loop_i hmix hT (fun i : Nat => ([(1, eRps l), (2, .ptr 0 0), (4, .ptr 1 0), (5, I (scS t l i)), (6, I (scW l i)), (7, I i)], ⟨2, [(1, .cells [I 0, I 0] 41), (0, .cells [eInts t.fr, eHs t.hs] 25)]⟩)) (fun i => i ≤ l.length) (fun i => l.length - i) (0 : Nat) (by omega) ?_ ?_
  · refine ⟨[], rfl, ?_, ?_⟩ <;> repeat' (first | exact trivial | exact vm_p | exact vm_ptr rfl rfl rfl | exact vm_yld rfl rfl | exact vm_own rfl rfl rfl rfl | exact vm_own rfl rfl (by omega) (by omega) | exact vm_int (by omega) | exact vm_nil rfl | exact sbm_cells vmL_p | exact sbm_row rfl (fun _ _ => vm_p) | refine ⟨⟨_, rfl, ?_⟩, ?_⟩ | refine ⟨⟨_, _, _, rfl⟩, ?_⟩ | (refine sbm_loop ?_; rw [efr]) | refine sbm_cells ?_ | refine vmL.cons ?_ ?_ | exact vmL.nil | refine vm_own rfl rfl rfl ?_)
  intro i hi
  have si := sb i hi
  by_cases c : i < l.length
  · have ti : toN (i : Int) = i := toN_nat i
    have h1 : rpE t.fr.length (l.getD (toN (i : Int)) rp0) = 0 := by rw [ti]; exact hr i c
    have h2 : (cR t (l.getD (toN (i : Int)) rp0)).2 ≠ 0 := by rw [ti]; exact hg i c
    have rv := rp_val h1
    have F := far_ok v h1 h2
    have q := sq_w rv.2.2 (far_in v h1 h2)
    have e1 : scS t l (i + 1) = scS t l i + (l.getD (toN (i : Int)) rp0).w * farV t (l.getD (toN (i : Int)) rp0) * farV t (l.getD (toN (i : Int)) rp0) := by rw [ti]; rfl
    have e2 : scW l (i + 1) = scW l i + (l.getD (toN (i : Int)) rp0).w := by rw [ti]; rfl
    with_reducible conv => whnf
    repeat' ((first | (with_reducible refine branch_t ?_) | (with_reducible refine branch_f ?_) | (with_reducible refine branch_nt ?_) | (with_reducible refine branch_nf ?_) | (with_reducible refine branch_dec (fun _ => ?_) (fun _ => ?_)) | (with_reducible refine branch_ndec (fun _ => ?_) (fun _ => ?_)) | (with_reducible refine branch_bool (fun _ => ?_) (fun _ => ?_)) | (with_reducible refine arith_64 (by omega) ?_) | (with_reducible refine ob_i (by omega) (fun _ => ?_)) | (with_reducible refine ob_i (by unfold room; omega) (fun _ => ?_)) | (with_reducible refine ob_i (by (try simp only [toN_eq, Int.toNat_natCast] at *); (try dsimp only [toN] at *); omega) (fun _ => ?_)) | (with_reducible refine arith_64 (by (try simp only [toN_eq, Int.toNat_natCast] at *); (try dsimp only [toN] at *); omega) ?_) | (with_reducible refine ob_k rfl ?_) | ((with_reducible refine ob_k ?_ ?_); focus kernel_rfl) | (refine yield_i hmix hT rfl hL efr eps eag ebd rfl (by kernel_rfl) ?_) | (apply call_u F) | (apply call_l (first_ok (l := [_, _]) (Nat.le_of_ble_eq_true rfl)) (.cons (vm_lit _ rfl rfl (.cons (vm_int rfl) (.cons (vm_int rfl) .nil))) .nil)) | (apply call_l (first_ok (l := [_, _, _]) (Nat.le_of_ble_eq_true rfl)) (.cons (vm_lit _ rfl rfl (.cons (vm_int rfl) (.cons (vm_int rfl) (.cons (vm_int rfl) .nil)))) .nil)) | (apply call_l (first_ok (l := [_, _, _, _]) (Nat.le_of_ble_eq_true rfl)) (.cons (vm_lit _ rfl rfl (.cons (vm_int rfl) (.cons (vm_int rfl) (.cons (vm_int rfl) (.cons (vm_int rfl) .nil))))) .nil))) <;> (try (exfalso; omega; done)) <;> (with_reducible conv => whnf))
    refine ⟨i + 1, by omega, by omega, ?_⟩
    rw [e1, e2]
    refine ⟨[], rfl, ?_, ?_⟩ <;> repeat' (first | exact trivial | exact vm_p | exact vm_ptr rfl rfl rfl | exact vm_yld rfl rfl | exact vm_own rfl rfl rfl rfl | exact vm_own rfl rfl (by omega) (by omega) | exact vm_int (by omega) | exact vm_nil rfl | exact sbm_cells vmL_p | exact sbm_row rfl (fun _ _ => vm_p) | refine ⟨⟨_, rfl, ?_⟩, ?_⟩ | refine ⟨⟨_, _, _, rfl⟩, ?_⟩ | (refine sbm_loop ?_; rw [efr]) | refine sbm_cells ?_ | refine vmL.cons ?_ ?_ | exact vmL.nil | refine vm_own rfl rfl rfl ?_)
  · have ei : i = l.length := by omega
    subst ei
    have L := bLowest_ok (a := scS t l l.length) (b := scW l l.length) (by omega) (by omega)
    with_reducible conv => whnf
    repeat' ((first | (with_reducible refine branch_t ?_) | (with_reducible refine branch_f ?_) | (with_reducible refine branch_nt ?_) | (with_reducible refine branch_nf ?_) | (with_reducible refine branch_dec (fun _ => ?_) (fun _ => ?_)) | (with_reducible refine branch_ndec (fun _ => ?_) (fun _ => ?_)) | (with_reducible refine branch_bool (fun _ => ?_) (fun _ => ?_)) | (with_reducible refine arith_64 (by omega) ?_) | (with_reducible refine ob_i (by omega) (fun _ => ?_)) | (with_reducible refine ob_i (by unfold room; omega) (fun _ => ?_)) | (with_reducible refine ob_i (by (try simp only [toN_eq, Int.toNat_natCast] at *); (try dsimp only [toN] at *); omega) (fun _ => ?_)) | (with_reducible refine arith_64 (by (try simp only [toN_eq, Int.toNat_natCast] at *); (try dsimp only [toN] at *); omega) ?_) | (with_reducible refine ob_k rfl ?_) | ((with_reducible refine ob_k ?_ ?_); focus kernel_rfl) | (refine yield_i hmix hT rfl hL efr eps eag ebd rfl (by kernel_rfl) ?_) | (apply call_u L) | (apply call_l (first_ok (l := [_, _]) (Nat.le_of_ble_eq_true rfl)) (.cons (vm_lit _ rfl rfl (.cons (vm_int rfl) (.cons (vm_int rfl) .nil))) .nil)) | (apply call_l (first_ok (l := [_, _, _]) (Nat.le_of_ble_eq_true rfl)) (.cons (vm_lit _ rfl rfl (.cons (vm_int rfl) (.cons (vm_int rfl) (.cons (vm_int rfl) .nil)))) .nil)) | (apply call_l (first_ok (l := [_, _, _, _]) (Nat.le_of_ble_eq_true rfl)) (.cons (vm_lit _ rfl rfl (.cons (vm_int rfl) (.cons (vm_int rfl) (.cons (vm_int rfl) (.cons (vm_int rfl) .nil))))) .nil))) <;> (try (exfalso; omega; done)) <;> (with_reducible conv => whnf))
    exact ret0 vm_p
set_option maxHeartbeats 4000000 in
set_option maxRecDepth 100000 in
theorem scoreOf_good {t : Tb} {l : List Rp} (few : FewT t) (e : scE t l = 0) (hn : 0 < l.length) : FnOK Tryz.prog 12 [eTb t, eRps l] (.tup [eFrac (low (scS t l l.length) (scW l l.length)), I 0]) [] := by
  have eo : opE t l = 0 ∧ gapE t l = 0 := by
    unfold scE at e
    split at e
    · rename_i c; exact absurd e c
    · rename_i c; exact ⟨Decidable.not_not.1 c, e⟩
  have hz : tbE t = 0 ∧ rpsE t.fr.length l = 0 := by
    have e := eo.1
    unfold opE at e
    split at e
    · rename_i c; exact absurd e c
    · rename_i c; exact ⟨Decidable.not_not.1 c, e⟩
  have v := tb_val hz.1
  obtain ⟨hl, hr⟩ := rps_val hz.2
  have hg : ∀ i, i < l.length → (cR t (l.getD i rp0)).2 ≠ 0 := by
    rcases gap_cases t l l.length (Nat.le_refl _) with h | ⟨b, b1, b2, b3⟩
    · exact h
    · exact absurd (gapE_hit b1 b2 b3) (by rw [eo.2]; decide)
  have S := scored_ok (l := l) few (by omega)
  rw [e] at S
  have F := first_ok (l := [0, 0]) (by simp)
  rw [show firstErr [0, 0] = 0 from rfl] at F
  have sb := sc_bd v hr hg
  refine fn_i hmix hT Tryz.f12 (by kernel_rfl) rfl (by kernel_rfl) ?_
  with_reducible conv => whnf
  repeat' ((first | (with_reducible refine branch_t ?_) | (with_reducible refine branch_f ?_) | (with_reducible refine branch_nt ?_) | (with_reducible refine branch_nf ?_) | (with_reducible refine branch_dec (fun _ => ?_) (fun _ => ?_)) | (with_reducible refine branch_ndec (fun _ => ?_) (fun _ => ?_)) | (with_reducible refine branch_bool (fun _ => ?_) (fun _ => ?_)) | (with_reducible refine arith_64 (by omega) ?_) | (with_reducible refine ob_i (by omega) (fun _ => ?_)) | (with_reducible refine ob_i (by unfold room; omega) (fun _ => ?_)) | (with_reducible refine ob_i (by (try simp only [toN_eq, Int.toNat_natCast] at *); (try dsimp only [toN] at *); omega) (fun _ => ?_)) | (with_reducible refine arith_64 (by (try simp only [toN_eq, Int.toNat_natCast] at *); (try dsimp only [toN] at *); omega) ?_) | (with_reducible refine ob_k rfl ?_) | ((with_reducible refine ob_k ?_ ?_); focus kernel_rfl) | (refine yield_i hmix hT rfl hL efr eps eag ebd rfl (by kernel_rfl) ?_) | (apply call_u S) | (apply call_u unless_ok) | (apply call_l F (.cons (vm_lit _ rfl rfl (.cons (vm_int rfl) (.cons (vm_int (by rw [decide_eq_true (by omega)]; rfl)) .nil))) .nil)) | (apply call_l (first_ok (l := [_, _]) (Nat.le_of_ble_eq_true rfl)) (.cons (vm_lit _ rfl rfl (.cons (vm_int rfl) (.cons (vm_int rfl) .nil))) .nil)) | (apply call_l (first_ok (l := [_, _, _]) (Nat.le_of_ble_eq_true rfl)) (.cons (vm_lit _ rfl rfl (.cons (vm_int rfl) (.cons (vm_int rfl) (.cons (vm_int rfl) .nil)))) .nil)) | (apply call_l (first_ok (l := [_, _, _, _]) (Nat.le_of_ble_eq_true rfl)) (.cons (vm_lit _ rfl rfl (.cons (vm_int rfl) (.cons (vm_int rfl) (.cons (vm_int rfl) (.cons (vm_int rfl) .nil))))) .nil))) <;> (try (exfalso; omega; done)) <;> (with_reducible conv => whnf))
  refine loop_i hmix hT (fun i : Nat => ([(4, .ptr 1 0), (6, .ptr 2 0), (8, I (scS t l i)), (9, I (scW l i)), (31, eRps l), (32, I l.length), (33, I i)], ⟨4, [(2, .cells [eInts t.fr, eHs t.hs] 85), (1, .cells [I 0, I 0] 41)]⟩)) (fun i => i ≤ l.length) (fun i => l.length - i) (0 : Nat) (by omega) ?_ ?_
  · refine ⟨[], rfl, ?_, ?_⟩ <;> repeat' (first | exact trivial | exact vm_p | exact vm_ptr rfl rfl rfl | exact vm_yld rfl rfl | exact vm_own rfl rfl rfl rfl | exact vm_own rfl rfl (by omega) (by omega) | exact vm_int (by omega) | exact vm_nil rfl | exact sbm_cells vmL_p | exact sbm_row rfl (fun _ _ => vm_p) | refine ⟨⟨_, rfl, ?_⟩, ?_⟩ | refine ⟨⟨_, _, _, rfl⟩, ?_⟩ | (refine sbm_loop ?_; rw [efr]) | refine sbm_cells ?_ | refine vmL.cons ?_ ?_ | exact vmL.nil | refine vm_own rfl rfl rfl ?_)
  intro i hi
  have si := sb i hi
  by_cases c : i < l.length
  · have ti : toN (i : Int) = i := toN_nat i
    have h1 : rpE t.fr.length (l.getD (toN (i : Int)) rp0) = 0 := by rw [ti]; exact hr i c
    have h2 : (cR t (l.getD (toN (i : Int)) rp0)).2 ≠ 0 := by rw [ti]; exact hg i c
    have rv := rp_val h1
    have cv := cR_val v h1
    have C := count_ok v h1
    have d := div_in cv h2
    have td : ((cR t (l.getD (toN (i : Int)) rp0)).1 * 1000).tdiv (cR t (l.getD (toN (i : Int)) rp0)).2 = (cR t (l.getD (toN (i : Int)) rp0)).1 * 1000 / (cR t (l.getD (toN (i : Int)) rp0)).2 := Int.tdiv_eq_ediv_of_nonneg (by omega)
    rw [← td] at d
    have q := sq_w rv.2.2 (q := ((cR t (l.getD (toN (i : Int)) rp0)).1 * 1000).tdiv (cR t (l.getD (toN (i : Int)) rp0)).2) (by omega)
    have q2 := sq_w rv.2.2 (q := ((cR t (l.getD (toN (i : Int)) rp0)).1 * 1000).tdiv (cR t (l.getD (toN (i : Int)) rp0)).2 - 1000) (by omega)
    have e1 : scS t l (i + 1) = scS t l i + (l.getD (toN (i : Int)) rp0).w * farV t (l.getD (toN (i : Int)) rp0) * farV t (l.getD (toN (i : Int)) rp0) := by rw [ti]; rfl
    have e2 : scW l (i + 1) = scW l i + (l.getD (toN (i : Int)) rp0).w := by rw [ti]; rfl
    have fy : (l.getD (toN (i : Int)) rp0).heard = true → farV t (l.getD (toN (i : Int)) rp0) = ((cR t (l.getD (toN (i : Int)) rp0)).1 * 1000).tdiv (cR t (l.getD (toN (i : Int)) rp0)).2 - 1000 := fun h => by unfold farV; rw [if_pos h, td]
    have fn : (l.getD (toN (i : Int)) rp0).heard = false → farV t (l.getD (toN (i : Int)) rp0) = ((cR t (l.getD (toN (i : Int)) rp0)).1 * 1000).tdiv (cR t (l.getD (toN (i : Int)) rp0)).2 := fun h => by unfold farV; rw [if_neg (by rw [h]; simp), td]
    generalize cR t (l.getD (toN (i : Int)) rp0) = cr at *
    with_reducible conv => whnf
    repeat' ((first | (with_reducible refine branch_t ?_) | (with_reducible refine branch_f ?_) | (with_reducible refine branch_nt ?_) | (with_reducible refine branch_nf ?_) | (with_reducible refine branch_dec (fun _ => ?_) (fun _ => ?_)) | (with_reducible refine branch_ndec (fun _ => ?_) (fun _ => ?_)) | (with_reducible refine branch_bool (fun _ => ?_) (fun _ => ?_)) | (with_reducible refine arith_64 (by omega) ?_) | (with_reducible refine ob_i (by omega) (fun _ => ?_)) | (with_reducible refine ob_i (by unfold room; omega) (fun _ => ?_)) | (with_reducible refine ob_i (by (try simp only [toN_eq, Int.toNat_natCast] at *); (try dsimp only [toN] at *); omega) (fun _ => ?_)) | (with_reducible refine arith_64 (by (try simp only [toN_eq, Int.toNat_natCast] at *); (try dsimp only [toN] at *); omega) ?_) | (with_reducible refine ob_k rfl ?_) | ((with_reducible refine ob_k ?_ ?_); focus kernel_rfl) | (refine yield_i hmix hT rfl hL efr eps eag ebd rfl (by kernel_rfl) ?_) | (apply call_u C) | (apply call_l (first_ok (l := [_, _]) (Nat.le_of_ble_eq_true rfl)) (.cons (vm_lit _ rfl rfl (.cons (vm_int rfl) (.cons (vm_int rfl) .nil))) .nil)) | (apply call_l (first_ok (l := [_, _, _]) (Nat.le_of_ble_eq_true rfl)) (.cons (vm_lit _ rfl rfl (.cons (vm_int rfl) (.cons (vm_int rfl) (.cons (vm_int rfl) .nil)))) .nil)) | (apply call_l (first_ok (l := [_, _, _, _]) (Nat.le_of_ble_eq_true rfl)) (.cons (vm_lit _ rfl rfl (.cons (vm_int rfl) (.cons (vm_int rfl) (.cons (vm_int rfl) (.cons (vm_int rfl) .nil))))) .nil))) <;> (try (exfalso; omega; done)) <;> (with_reducible conv => whnf))
    all_goals refine ⟨i + 1, by omega, by omega, ?_⟩
    all_goals first | rw [e1, e2, fy (by assumption)] | rw [e1, e2, fn (by assumption)]
    all_goals refine ⟨[], rfl, ?_, ?_⟩ <;> repeat' (first | exact trivial | exact vm_p | exact vm_ptr rfl rfl rfl | exact vm_yld rfl rfl | exact vm_own rfl rfl rfl rfl | exact vm_own rfl rfl (by omega) (by omega) | exact vm_int (by omega) | exact vm_nil rfl | exact sbm_cells vmL_p | exact sbm_row rfl (fun _ _ => vm_p) | refine ⟨⟨_, rfl, ?_⟩, ?_⟩ | refine ⟨⟨_, _, _, rfl⟩, ?_⟩ | (refine sbm_loop ?_; rw [efr]) | refine sbm_cells ?_ | refine vmL.cons ?_ ?_ | exact vmL.nil | refine vm_own rfl rfl rfl ?_)
  · have ei : i = l.length := by omega
    subst ei
    have L := lowest_ok (a := scS t l l.length) (b := scW l l.length) (by omega) (by omega)
    with_reducible conv => whnf
    repeat' ((first | (with_reducible refine branch_t ?_) | (with_reducible refine branch_f ?_) | (with_reducible refine branch_nt ?_) | (with_reducible refine branch_nf ?_) | (with_reducible refine branch_dec (fun _ => ?_) (fun _ => ?_)) | (with_reducible refine branch_ndec (fun _ => ?_) (fun _ => ?_)) | (with_reducible refine branch_bool (fun _ => ?_) (fun _ => ?_)) | (with_reducible refine arith_64 (by omega) ?_) | (with_reducible refine ob_i (by omega) (fun _ => ?_)) | (with_reducible refine ob_i (by unfold room; omega) (fun _ => ?_)) | (with_reducible refine ob_i (by (try simp only [toN_eq, Int.toNat_natCast] at *); (try dsimp only [toN] at *); omega) (fun _ => ?_)) | (with_reducible refine arith_64 (by (try simp only [toN_eq, Int.toNat_natCast] at *); (try dsimp only [toN] at *); omega) ?_) | (with_reducible refine ob_k rfl ?_) | ((with_reducible refine ob_k ?_ ?_); focus kernel_rfl) | (refine yield_i hmix hT rfl hL efr eps eag ebd rfl (by kernel_rfl) ?_) | (apply call_u L) | (apply call_l (first_ok (l := [_, _]) (Nat.le_of_ble_eq_true rfl)) (.cons (vm_lit _ rfl rfl (.cons (vm_int rfl) (.cons (vm_int rfl) .nil))) .nil)) | (apply call_l (first_ok (l := [_, _, _]) (Nat.le_of_ble_eq_true rfl)) (.cons (vm_lit _ rfl rfl (.cons (vm_int rfl) (.cons (vm_int rfl) (.cons (vm_int rfl) .nil)))) .nil)) | (apply call_l (first_ok (l := [_, _, _, _]) (Nat.le_of_ble_eq_true rfl)) (.cons (vm_lit _ rfl rfl (.cons (vm_int rfl) (.cons (vm_int rfl) (.cons (vm_int rfl) (.cons (vm_int rfl) .nil))))) .nil))) <;> (try (exfalso; omega; done)) <;> (with_reducible conv => whnf))
    exact ret0 vm_p
end Go.Proofs.YtcdcmeiipfafdaaGreat
