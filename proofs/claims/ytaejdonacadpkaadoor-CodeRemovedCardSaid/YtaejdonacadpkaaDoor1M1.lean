/-
  Chapter 1: frames that are cleaned: the document's own (by contract).
  Conditions: none.
-/
import Derived.Test.YtaejdonacadpkaaDoor1H2
import Derived.Test.YtaejdonacadpkaaDoor1M
namespace Go.Proofs.YtaejdonacadpkaaDoor
open Go.RowKit Fx
theorem firstNo {p : Nat → Bool} : ∀ n : Nat, (∀ i, i < n → p i = true) ∨ ∃ j, j < n ∧ p j = false ∧ ∀ i, i < j → p i = true
  | 0 => .inl fun i h => by omega
  | n + 1 => by
    rcases firstNo (p := p) n with h | ⟨j, h1, h2, h3⟩
    · cases e : p n with
      | true =>
        refine .inl fun i hi => ?_
        by_cases q : i = n
        · subst q; exact e
        · exact h i (by omega)
      | false => exact .inr ⟨n, by omega, e, h⟩
    · exact .inr ⟨j, by omega, h2, h3⟩
def leP (us : List Int) (i : Nat) : Int := if ¬ (0 ≤ us.getD i 0 ∧ us.getD i 0 ≤ 3) then 2 else if 0 < i ∧ us.getD i 0 ≤ us.getD (i - 1) 0 then 9 else 0
def lsL (us : List Int) : List Int := (List.range us.length).map (leP us)
theorem lsL_len (us : List Int) : (lsL us).length = us.length := by simp [lsL]
theorem lsL_at {us : List Int} {i : Nat} (h : i < us.length) : id ((lsL us).getD i 0) = leP us i := by
  unfold lsL; simp [List.getD_eq_getElem?_getD, h]
def lsE (us : List Int) : Int := (findErr id (lsL us) 0).2
theorem lsE_hit {us : List Int} {k : Nat} (h : ∀ i, i < k → leP us i = 0) (hk : k < us.length) (hb : leP us k ≠ 0) : lsE us = leP us k := by
  unfold lsE
  rw [findErr_hit id 0 (lsL us) k 0 (fun i hi => by rw [lsL_at (by omega)]; exact h i hi) (by rw [lsL_len]; exact hk) (by rw [lsL_at hk]; exact hb)]
  exact lsL_at hk
theorem lsE_none {us : List Int} (h : ∀ i, i < us.length → leP us i = 0) : lsE us = 0 := by
  unfold lsE
  rw [findErr_none id 0 (lsL us) 0 (fun i hi => by rw [lsL_len] at hi; rw [lsL_at hi]; exact h i hi)]
def lnsE (f : Frm) (us : List Int) : Int := if lsE us ≠ 0 then lsE us else if 2000000 < 20 * f.lim then 8 else if f.g - 2 < -8 then 22 else 0
theorem leP_0 {us : List Int} {i : Nat} (h : leP us i = 0) : (0 ≤ us.getD i 0 ∧ us.getD i 0 ≤ 3) ∧ (0 < i → us.getD (i - 1) 0 < us.getD i 0) := by
  unfold leP at h
  split at h
  · cases h
  · rename_i a
    split at h
    · cases h
    · rename_i b
      exact ⟨Decidable.not_not.1 a, fun k => Int.not_le.1 fun q => b ⟨k, q⟩⟩
set_option maxHeartbeats 4000000 in
set_option maxRecDepth 100000 in
theorem rLinesErr_ok {f : Frm} {us : List Int} (v : f.Val) (hl : us.length ≤ 1000) : FnOK Tryd.prog 69 [eF f, eInts us] (I (lnsE f us)) [] := by
  have vl := v.lim
  have vg := v.g
  rcases firstNo (p := fun i => decide (leP us i = 0)) us.length with g | ⟨b, b1, b2, b3⟩
  · have g2 : ∀ i, i < us.length → leP us i = 0 := fun i hi => of_decide_eq_true (g i hi)
    have e : lnsE f us = if 2000000 < 20 * f.lim then 8 else if f.g - 2 < -8 then 22 else 0 := by unfold lnsE; rw [lsE_none g2, if_neg (fun c => c rfl)]
    rw [e]
    refine fn_i hmix hT Tryd.f69 (by kernel_rfl) rfl (by kernel_rfl) ?_
    with_reducible conv => whnf
    refine loop_i hmix hT (fun k : Nat => ([(1, eInts us), (2, .ptr 0 0), (5, I k)], ⟨1, [(0, .cells [I f.g, I f.lim, ePs f.sm, eInts f.gp] 25)]⟩)) (fun k => k ≤ us.length) (fun k => us.length - k) (0 : Nat) (by omega) ?_ ?_
    · refine ⟨[], rfl, ?_, ?_⟩ <;> repeat' (first | exact trivial | exact vm_p | exact vm_ptr rfl rfl rfl | exact vm_yld rfl rfl | exact vm_own rfl rfl rfl rfl | exact vm_own rfl rfl (by omega) (by omega) | exact vm_int (by omega) | exact vm_nil rfl | exact sbm_cells vmL_p | exact sbm_row rfl (fun _ _ => vm_p) | refine ⟨⟨_, rfl, ?_⟩, ?_⟩ | refine ⟨⟨_, _, _, rfl⟩, ?_⟩ | (refine sbm_loop ?_; rw [efr]) | refine sbm_cells ?_ | refine vmL.cons ?_ ?_ | exact vmL.nil | refine vm_own rfl rfl rfl ?_)
    intro k hk
    by_cases h : k < us.length
    · have t1 : toN (k : Int) = k := toN_nat k
      obtain ⟨p1, p2⟩ := leP_0 (g2 k h)
      have W := bWithin_ok (n := us.getD (toN (k : Int)) 0) (lo := 0) (hi := 3)
      rw [decide_eq_true (by rw [t1]; exact p1)] at W
      by_cases h0 : k = 0
      · with_reducible conv => whnf
        repeat' ((first | (with_reducible refine branch_t ?_) | (with_reducible refine branch_f ?_) | (with_reducible refine branch_nt ?_) | (with_reducible refine branch_nf ?_) | (with_reducible refine branch_dec (fun _ => ?_) (fun _ => ?_)) | (with_reducible refine branch_ndec (fun _ => ?_) (fun _ => ?_)) | (with_reducible refine branch_bool (fun _ => ?_) (fun _ => ?_)) | (with_reducible refine arith_64 (by omega) ?_) | (with_reducible refine ob_i (by omega) (fun _ => ?_)) | (with_reducible refine ob_i (by unfold room; omega) (fun _ => ?_)) | (with_reducible refine ob_i (by (try simp only [] at *); (try dsimp only [toN] at *); omega) (fun _ => ?_)) | (with_reducible refine arith_64 (by (try simp only [] at *); (try dsimp only [toN] at *); omega) ?_) | (with_reducible refine ob_k rfl ?_) | ((with_reducible refine ob_k ?_ ?_); focus kernel_rfl) | (refine yield_i hmix hT rfl hL efr eps eag ebd rfl (by kernel_rfl) ?_) | (apply call_u W) | (apply call_l (first_ok (l := [_, _]) (Nat.le_of_ble_eq_true rfl)) (.cons (vm_lit _ rfl rfl (.cons (vm_int rfl) (.cons (vm_int rfl) .nil))) .nil)) | (apply call_l (first_ok (l := [_, _, _]) (Nat.le_of_ble_eq_true rfl)) (.cons (vm_lit _ rfl rfl (.cons (vm_int rfl) (.cons (vm_int rfl) (.cons (vm_int rfl) .nil)))) .nil)) | (apply call_l (first_ok (l := [_, _, _, _]) (Nat.le_of_ble_eq_true rfl)) (.cons (vm_lit _ rfl rfl (.cons (vm_int rfl) (.cons (vm_int rfl) (.cons (vm_int rfl) (.cons (vm_int rfl) .nil))))) .nil))) <;> (try (exfalso; omega; done)) <;> (with_reducible conv => whnf))
        refine ⟨k + 1, by omega, by omega, ?_⟩
        refine ⟨[], rfl, ?_, ?_⟩ <;> repeat' (first | exact trivial | exact vm_p | exact vm_ptr rfl rfl rfl | exact vm_yld rfl rfl | exact vm_own rfl rfl rfl rfl | exact vm_own rfl rfl (by omega) (by omega) | exact vm_int (by omega) | exact vm_nil rfl | exact sbm_cells vmL_p | exact sbm_row rfl (fun _ _ => vm_p) | refine ⟨⟨_, rfl, ?_⟩, ?_⟩ | refine ⟨⟨_, _, _, rfl⟩, ?_⟩ | (refine sbm_loop ?_; rw [efr]) | refine sbm_cells ?_ | refine vmL.cons ?_ ?_ | exact vmL.nil | refine vm_own rfl rfl rfl ?_)
      · have t2 : toN ((k : Int) - 1) = k - 1 := by rw [toN_eq]; omega
        have p3 := p2 (by omega)
        rw [← t1, ← t2] at p3
        rw [t1] at p3
        have p4 : us.getD (toN ((k : Int) - 1)) 0 < us.getD (toN (k : Int)) 0 := by rw [t1]; exact p3
        clear p3
        with_reducible conv => whnf
        repeat' ((first | (with_reducible refine branch_t ?_) | (with_reducible refine branch_f ?_) | (with_reducible refine branch_nt ?_) | (with_reducible refine branch_nf ?_) | (with_reducible refine branch_dec (fun _ => ?_) (fun _ => ?_)) | (with_reducible refine branch_ndec (fun _ => ?_) (fun _ => ?_)) | (with_reducible refine branch_bool (fun _ => ?_) (fun _ => ?_)) | (with_reducible refine arith_64 (by omega) ?_) | (with_reducible refine ob_i (by omega) (fun _ => ?_)) | (with_reducible refine ob_i (by unfold room; omega) (fun _ => ?_)) | (with_reducible refine ob_i (by (try simp only [toN_eq] at *); (try dsimp only [toN] at *); omega) (fun _ => ?_)) | (with_reducible refine arith_64 (by (try simp only [toN_eq] at *); (try dsimp only [toN] at *); omega) ?_) | (with_reducible refine ob_k rfl ?_) | ((with_reducible refine ob_k ?_ ?_); focus kernel_rfl) | (refine yield_i hmix hT rfl hL efr eps eag ebd rfl (by kernel_rfl) ?_) | (apply call_u W) | (apply call_l (first_ok (l := [_, _]) (Nat.le_of_ble_eq_true rfl)) (.cons (vm_lit _ rfl rfl (.cons (vm_int rfl) (.cons (vm_int rfl) .nil))) .nil)) | (apply call_l (first_ok (l := [_, _, _]) (Nat.le_of_ble_eq_true rfl)) (.cons (vm_lit _ rfl rfl (.cons (vm_int rfl) (.cons (vm_int rfl) (.cons (vm_int rfl) .nil)))) .nil)) | (apply call_l (first_ok (l := [_, _, _, _]) (Nat.le_of_ble_eq_true rfl)) (.cons (vm_lit _ rfl rfl (.cons (vm_int rfl) (.cons (vm_int rfl) (.cons (vm_int rfl) (.cons (vm_int rfl) .nil))))) .nil))) <;> (try (exfalso; omega; done)) <;> (with_reducible conv => whnf))
        refine ⟨k + 1, by omega, by omega, ?_⟩
        refine ⟨[], rfl, ?_, ?_⟩ <;> repeat' (first | exact trivial | exact vm_p | exact vm_ptr rfl rfl rfl | exact vm_yld rfl rfl | exact vm_own rfl rfl rfl rfl | exact vm_own rfl rfl (by omega) (by omega) | exact vm_int (by omega) | exact vm_nil rfl | exact sbm_cells vmL_p | exact sbm_row rfl (fun _ _ => vm_p) | refine ⟨⟨_, rfl, ?_⟩, ?_⟩ | refine ⟨⟨_, _, _, rfl⟩, ?_⟩ | (refine sbm_loop ?_; rw [efr]) | refine sbm_cells ?_ | refine vmL.cons ?_ ?_ | exact vmL.nil | refine vm_own rfl rfl rfl ?_)
    · with_reducible conv => whnf
      repeat' ((first | (with_reducible refine branch_t ?_) | (with_reducible refine branch_f ?_) | (with_reducible refine branch_nt ?_) | (with_reducible refine branch_nf ?_) | (with_reducible refine branch_dec (fun _ => ?_) (fun _ => ?_)) | (with_reducible refine branch_ndec (fun _ => ?_) (fun _ => ?_)) | (with_reducible refine branch_bool (fun _ => ?_) (fun _ => ?_)) | (with_reducible refine arith_64 (by omega) ?_) | (with_reducible refine ob_i (by omega) (fun _ => ?_)) | (with_reducible refine ob_i (by unfold room; omega) (fun _ => ?_)) | (with_reducible refine ob_i (by (try simp only [toN_eq, Int.toNat_natCast] at *); (try dsimp only [toN] at *); omega) (fun _ => ?_)) | (with_reducible refine arith_64 (by (try simp only [toN_eq, Int.toNat_natCast] at *); (try dsimp only [toN] at *); omega) ?_) | (with_reducible refine ob_k rfl ?_) | ((with_reducible refine ob_k ?_ ?_); focus kernel_rfl) | (refine yield_i hmix hT rfl hL efr eps eag ebd rfl (by kernel_rfl) ?_)  | (apply call_l (first_ok (l := [_, _]) (Nat.le_of_ble_eq_true rfl)) (.cons (vm_lit _ rfl rfl (.cons (vm_int rfl) (.cons (vm_int rfl) .nil))) .nil)) | (apply call_l (first_ok (l := [_, _, _]) (Nat.le_of_ble_eq_true rfl)) (.cons (vm_lit _ rfl rfl (.cons (vm_int rfl) (.cons (vm_int rfl) (.cons (vm_int rfl) .nil)))) .nil)) | (apply call_l (first_ok (l := [_, _, _, _]) (Nat.le_of_ble_eq_true rfl)) (.cons (vm_lit _ rfl rfl (.cons (vm_int rfl) (.cons (vm_int rfl) (.cons (vm_int rfl) (.cons (vm_int rfl) .nil))))) .nil))) <;> (try (exfalso; omega; done)) <;> (with_reducible conv => whnf))
      all_goals exact ret0 (vm_int (by first | (rw [if_pos (by omega)]; done) | (rw [if_neg (by omega), if_pos (by omega)]; done) | (rw [if_neg (by omega), if_neg (by omega)]; done)))
  · have b4 : leP us b ≠ 0 := of_decide_eq_false b2
    have g2 : ∀ i, i < b → leP us i = 0 := fun i hi => of_decide_eq_true (b3 i hi)
    have e0 := lsE_hit g2 b1 b4
    have e : lnsE f us = leP us b := by unfold lnsE; rw [e0, if_pos b4]
    rw [e]
    refine fn_i hmix hT Tryd.f69 (by kernel_rfl) rfl (by kernel_rfl) ?_
    with_reducible conv => whnf
    refine loop_i hmix hT (fun k : Nat => ([(1, eInts us), (2, .ptr 0 0), (5, I k)], ⟨1, [(0, .cells [I f.g, I f.lim, ePs f.sm, eInts f.gp] 25)]⟩)) (fun k => k ≤ b) (fun k => b - k) (0 : Nat) (by omega) ?_ ?_
    · refine ⟨[], rfl, ?_, ?_⟩ <;> repeat' (first | exact trivial | exact vm_p | exact vm_ptr rfl rfl rfl | exact vm_yld rfl rfl | exact vm_own rfl rfl rfl rfl | exact vm_own rfl rfl (by omega) (by omega) | exact vm_int (by omega) | exact vm_nil rfl | exact sbm_cells vmL_p | exact sbm_row rfl (fun _ _ => vm_p) | refine ⟨⟨_, rfl, ?_⟩, ?_⟩ | refine ⟨⟨_, _, _, rfl⟩, ?_⟩ | (refine sbm_loop ?_; rw [efr]) | refine sbm_cells ?_ | refine vmL.cons ?_ ?_ | exact vmL.nil | refine vm_own rfl rfl rfl ?_)
    intro k hk
    have t1 : toN (k : Int) = k := toN_nat k
    have W := bWithin_ok (n := us.getD (toN (k : Int)) 0) (lo := 0) (hi := 3)
    by_cases h : k < b
    · obtain ⟨p1, p2⟩ := leP_0 (g2 k h)
      rw [decide_eq_true (by rw [t1]; exact p1)] at W
      by_cases h0 : k = 0
      · with_reducible conv => whnf
        repeat' ((first | (with_reducible refine branch_t ?_) | (with_reducible refine branch_f ?_) | (with_reducible refine branch_nt ?_) | (with_reducible refine branch_nf ?_) | (with_reducible refine branch_dec (fun _ => ?_) (fun _ => ?_)) | (with_reducible refine branch_ndec (fun _ => ?_) (fun _ => ?_)) | (with_reducible refine branch_bool (fun _ => ?_) (fun _ => ?_)) | (with_reducible refine arith_64 (by omega) ?_) | (with_reducible refine ob_i (by omega) (fun _ => ?_)) | (with_reducible refine ob_i (by unfold room; omega) (fun _ => ?_)) | (with_reducible refine ob_i (by (try simp only [] at *); (try dsimp only [toN] at *); omega) (fun _ => ?_)) | (with_reducible refine arith_64 (by (try simp only [] at *); (try dsimp only [toN] at *); omega) ?_) | (with_reducible refine ob_k rfl ?_) | ((with_reducible refine ob_k ?_ ?_); focus kernel_rfl) | (refine yield_i hmix hT rfl hL efr eps eag ebd rfl (by kernel_rfl) ?_) | (apply call_u W) | (apply call_l (first_ok (l := [_, _]) (Nat.le_of_ble_eq_true rfl)) (.cons (vm_lit _ rfl rfl (.cons (vm_int rfl) (.cons (vm_int rfl) .nil))) .nil)) | (apply call_l (first_ok (l := [_, _, _]) (Nat.le_of_ble_eq_true rfl)) (.cons (vm_lit _ rfl rfl (.cons (vm_int rfl) (.cons (vm_int rfl) (.cons (vm_int rfl) .nil)))) .nil)) | (apply call_l (first_ok (l := [_, _, _, _]) (Nat.le_of_ble_eq_true rfl)) (.cons (vm_lit _ rfl rfl (.cons (vm_int rfl) (.cons (vm_int rfl) (.cons (vm_int rfl) (.cons (vm_int rfl) .nil))))) .nil))) <;> (try (exfalso; omega; done)) <;> (with_reducible conv => whnf))
        refine ⟨k + 1, by omega, by omega, ?_⟩
        refine ⟨[], rfl, ?_, ?_⟩ <;> repeat' (first | exact trivial | exact vm_p | exact vm_ptr rfl rfl rfl | exact vm_yld rfl rfl | exact vm_own rfl rfl rfl rfl | exact vm_own rfl rfl (by omega) (by omega) | exact vm_int (by omega) | exact vm_nil rfl | exact sbm_cells vmL_p | exact sbm_row rfl (fun _ _ => vm_p) | refine ⟨⟨_, rfl, ?_⟩, ?_⟩ | refine ⟨⟨_, _, _, rfl⟩, ?_⟩ | (refine sbm_loop ?_; rw [efr]) | refine sbm_cells ?_ | refine vmL.cons ?_ ?_ | exact vmL.nil | refine vm_own rfl rfl rfl ?_)
      · have t2 : toN ((k : Int) - 1) = k - 1 := by rw [toN_eq]; omega
        have p3 := p2 (by omega)
        have p4 : us.getD (toN ((k : Int) - 1)) 0 < us.getD (toN (k : Int)) 0 := by rw [t1, t2]; exact p3
        clear p3
        with_reducible conv => whnf
        repeat' ((first | (with_reducible refine branch_t ?_) | (with_reducible refine branch_f ?_) | (with_reducible refine branch_nt ?_) | (with_reducible refine branch_nf ?_) | (with_reducible refine branch_dec (fun _ => ?_) (fun _ => ?_)) | (with_reducible refine branch_ndec (fun _ => ?_) (fun _ => ?_)) | (with_reducible refine branch_bool (fun _ => ?_) (fun _ => ?_)) | (with_reducible refine arith_64 (by omega) ?_) | (with_reducible refine ob_i (by omega) (fun _ => ?_)) | (with_reducible refine ob_i (by unfold room; omega) (fun _ => ?_)) | (with_reducible refine ob_i (by (try simp only [toN_eq] at *); (try dsimp only [toN] at *); omega) (fun _ => ?_)) | (with_reducible refine arith_64 (by (try simp only [toN_eq] at *); (try dsimp only [toN] at *); omega) ?_) | (with_reducible refine ob_k rfl ?_) | ((with_reducible refine ob_k ?_ ?_); focus kernel_rfl) | (refine yield_i hmix hT rfl hL efr eps eag ebd rfl (by kernel_rfl) ?_) | (apply call_u W) | (apply call_l (first_ok (l := [_, _]) (Nat.le_of_ble_eq_true rfl)) (.cons (vm_lit _ rfl rfl (.cons (vm_int rfl) (.cons (vm_int rfl) .nil))) .nil)) | (apply call_l (first_ok (l := [_, _, _]) (Nat.le_of_ble_eq_true rfl)) (.cons (vm_lit _ rfl rfl (.cons (vm_int rfl) (.cons (vm_int rfl) (.cons (vm_int rfl) .nil)))) .nil)) | (apply call_l (first_ok (l := [_, _, _, _]) (Nat.le_of_ble_eq_true rfl)) (.cons (vm_lit _ rfl rfl (.cons (vm_int rfl) (.cons (vm_int rfl) (.cons (vm_int rfl) (.cons (vm_int rfl) .nil))))) .nil))) <;> (try (exfalso; omega; done)) <;> (with_reducible conv => whnf))
        refine ⟨k + 1, by omega, by omega, ?_⟩
        refine ⟨[], rfl, ?_, ?_⟩ <;> repeat' (first | exact trivial | exact vm_p | exact vm_ptr rfl rfl rfl | exact vm_yld rfl rfl | exact vm_own rfl rfl rfl rfl | exact vm_own rfl rfl (by omega) (by omega) | exact vm_int (by omega) | exact vm_nil rfl | exact sbm_cells vmL_p | exact sbm_row rfl (fun _ _ => vm_p) | refine ⟨⟨_, rfl, ?_⟩, ?_⟩ | refine ⟨⟨_, _, _, rfl⟩, ?_⟩ | (refine sbm_loop ?_; rw [efr]) | refine sbm_cells ?_ | refine vmL.cons ?_ ?_ | exact vmL.nil | refine vm_own rfl rfl rfl ?_)
    · obtain rfl : k = b := by omega
      by_cases p1 : 0 ≤ us.getD k 0 ∧ us.getD k 0 ≤ 3
      · rw [decide_eq_true (by rw [t1]; exact p1)] at W
        have e9 : leP us k = 9 := by
          unfold leP at b4 ⊢
          rw [if_neg (fun c => c p1)] at b4 ⊢
          split at b4
          · rename_i q; rw [if_pos q]
          · exact absurd rfl b4
        have q : 0 < k ∧ us.getD k 0 ≤ us.getD (k - 1) 0 := by
          unfold leP at b4
          rw [if_neg (fun c => c p1)] at b4
          split at b4
          · assumption
          · exact absurd rfl b4
        have t2 : toN ((k : Int) - 1) = k - 1 := by rw [toN_eq]; omega
        have p4 : us.getD (toN (k : Int)) 0 ≤ us.getD (toN ((k : Int) - 1)) 0 := by rw [t1, t2]; exact q.2
        rw [e9]
        with_reducible conv => whnf
        repeat' ((first | (with_reducible refine branch_t ?_) | (with_reducible refine branch_f ?_) | (with_reducible refine branch_nt ?_) | (with_reducible refine branch_nf ?_) | (with_reducible refine branch_dec (fun _ => ?_) (fun _ => ?_)) | (with_reducible refine branch_ndec (fun _ => ?_) (fun _ => ?_)) | (with_reducible refine branch_bool (fun _ => ?_) (fun _ => ?_)) | (with_reducible refine arith_64 (by omega) ?_) | (with_reducible refine ob_i (by omega) (fun _ => ?_)) | (with_reducible refine ob_i (by unfold room; omega) (fun _ => ?_)) | (with_reducible refine ob_i (by (try simp only [toN_eq] at *); (try dsimp only [toN] at *); omega) (fun _ => ?_)) | (with_reducible refine arith_64 (by (try simp only [toN_eq] at *); (try dsimp only [toN] at *); omega) ?_) | (with_reducible refine ob_k rfl ?_) | ((with_reducible refine ob_k ?_ ?_); focus kernel_rfl) | (refine yield_i hmix hT rfl hL efr eps eag ebd rfl (by kernel_rfl) ?_) | (apply call_u W) | (apply call_l (first_ok (l := [_, _]) (Nat.le_of_ble_eq_true rfl)) (.cons (vm_lit _ rfl rfl (.cons (vm_int rfl) (.cons (vm_int rfl) .nil))) .nil)) | (apply call_l (first_ok (l := [_, _, _]) (Nat.le_of_ble_eq_true rfl)) (.cons (vm_lit _ rfl rfl (.cons (vm_int rfl) (.cons (vm_int rfl) (.cons (vm_int rfl) .nil)))) .nil)) | (apply call_l (first_ok (l := [_, _, _, _]) (Nat.le_of_ble_eq_true rfl)) (.cons (vm_lit _ rfl rfl (.cons (vm_int rfl) (.cons (vm_int rfl) (.cons (vm_int rfl) (.cons (vm_int rfl) .nil))))) .nil))) <;> (try (exfalso; omega; done)) <;> (with_reducible conv => whnf))
        exact ret0 vm_p
      · rw [decide_eq_false (by rw [t1]; exact p1)] at W
        have e2 : leP us k = 2 := by unfold leP; rw [if_pos p1]
        rw [e2]
        with_reducible conv => whnf
        repeat' ((first | (with_reducible refine branch_t ?_) | (with_reducible refine branch_f ?_) | (with_reducible refine branch_nt ?_) | (with_reducible refine branch_nf ?_) | (with_reducible refine branch_dec (fun _ => ?_) (fun _ => ?_)) | (with_reducible refine branch_ndec (fun _ => ?_) (fun _ => ?_)) | (with_reducible refine branch_bool (fun _ => ?_) (fun _ => ?_)) | (with_reducible refine arith_64 (by omega) ?_) | (with_reducible refine ob_i (by omega) (fun _ => ?_)) | (with_reducible refine ob_i (by unfold room; omega) (fun _ => ?_)) | (with_reducible refine ob_i (by (try simp only [] at *); (try dsimp only [toN] at *); omega) (fun _ => ?_)) | (with_reducible refine arith_64 (by (try simp only [] at *); (try dsimp only [toN] at *); omega) ?_) | (with_reducible refine ob_k rfl ?_) | ((with_reducible refine ob_k ?_ ?_); focus kernel_rfl) | (refine yield_i hmix hT rfl hL efr eps eag ebd rfl (by kernel_rfl) ?_) | (apply call_u W) | (apply call_l (first_ok (l := [_, _]) (Nat.le_of_ble_eq_true rfl)) (.cons (vm_lit _ rfl rfl (.cons (vm_int rfl) (.cons (vm_int rfl) .nil))) .nil)) | (apply call_l (first_ok (l := [_, _, _]) (Nat.le_of_ble_eq_true rfl)) (.cons (vm_lit _ rfl rfl (.cons (vm_int rfl) (.cons (vm_int rfl) (.cons (vm_int rfl) .nil)))) .nil)) | (apply call_l (first_ok (l := [_, _, _, _]) (Nat.le_of_ble_eq_true rfl)) (.cons (vm_lit _ rfl rfl (.cons (vm_int rfl) (.cons (vm_int rfl) (.cons (vm_int rfl) (.cons (vm_int rfl) .nil))))) .nil))) <;> (try (exfalso; omega; done)) <;> (with_reducible conv => whnf))
        exact ret0 vm_p
theorem sameFrame_ok {f : Frm} (h1 : f.sm.length ≤ 1000) (h2 : f.gp.length ≤ 100000) : FnOK Tryd.prog 70 [eF f, eF f] (B true) [] := by
  have G := gausses_ok h1
  have N := ints_ok h2
  refine fn_i hmix hT Tryd.f70 (by kernel_rfl) rfl (by kernel_rfl) ?_
  with_reducible conv => whnf
  repeat' ((first | (with_reducible refine branch_t ?_) | (with_reducible refine branch_f ?_) | (with_reducible refine branch_nt ?_) | (with_reducible refine branch_nf ?_) | (with_reducible refine branch_dec (fun _ => ?_) (fun _ => ?_)) | (with_reducible refine branch_ndec (fun _ => ?_) (fun _ => ?_)) | (with_reducible refine branch_bool (fun _ => ?_) (fun _ => ?_)) | (with_reducible refine arith_64 (by omega) ?_) | (with_reducible refine ob_i (by omega) (fun _ => ?_)) | (with_reducible refine ob_i (by unfold room; omega) (fun _ => ?_)) | (with_reducible refine ob_i (by (try simp only [] at *); (try dsimp only [toN] at *); omega) (fun _ => ?_)) | (with_reducible refine arith_64 (by (try simp only [] at *); (try dsimp only [toN] at *); omega) ?_) | (with_reducible refine ob_k rfl ?_) | ((with_reducible refine ob_k ?_ ?_); focus kernel_rfl) | (refine yield_i hmix hT rfl hL efr eps eag ebd rfl (by kernel_rfl) ?_) | (apply call_u G) | (apply call_u N) | (apply call_l (first_ok (l := [_, _]) (Nat.le_of_ble_eq_true rfl)) (.cons (vm_lit _ rfl rfl (.cons (vm_int rfl) (.cons (vm_int rfl) .nil))) .nil)) | (apply call_l (first_ok (l := [_, _, _]) (Nat.le_of_ble_eq_true rfl)) (.cons (vm_lit _ rfl rfl (.cons (vm_int rfl) (.cons (vm_int rfl) (.cons (vm_int rfl) .nil)))) .nil)) | (apply call_l (first_ok (l := [_, _, _, _]) (Nat.le_of_ble_eq_true rfl)) (.cons (vm_lit _ rfl rfl (.cons (vm_int rfl) (.cons (vm_int rfl) (.cons (vm_int rfl) (.cons (vm_int rfl) .nil))))) .nil))) <;> (try (exfalso; omega; done)) <;> (with_reducible conv => whnf))
  exact ret0 vm_p
theorem gSub_ok {p q : Int × Int} (h : (lim62 p.1 ∧ lim62 p.2) ∧ lim62 q.1 ∧ lim62 q.2) : FnOK Tryd.prog 118 [eP p, eP q] (eP (p.1 - q.1, p.2 - q.2)) [] := by
  unfold lim62 at h
  refine fn_i hmix hT Tryd.f118 (by kernel_rfl) rfl (by kernel_rfl) ?_
  with_reducible conv => whnf
  repeat' ((first | (with_reducible refine branch_t ?_) | (with_reducible refine branch_f ?_) | (with_reducible refine branch_nt ?_) | (with_reducible refine branch_nf ?_) | (with_reducible refine branch_dec (fun _ => ?_) (fun _ => ?_)) | (with_reducible refine branch_ndec (fun _ => ?_) (fun _ => ?_)) | (with_reducible refine branch_bool (fun _ => ?_) (fun _ => ?_)) | (with_reducible refine arith_64 (by omega) ?_) | (with_reducible refine ob_i (by omega) (fun _ => ?_)) | (with_reducible refine ob_i (by unfold room; omega) (fun _ => ?_)) | (with_reducible refine ob_i (by (try simp only [toN_eq, Int.toNat_natCast] at *); (try dsimp only [toN] at *); omega) (fun _ => ?_)) | (with_reducible refine arith_64 (by (try simp only [toN_eq, Int.toNat_natCast] at *); (try dsimp only [toN] at *); omega) ?_) | (with_reducible refine ob_k rfl ?_) | ((with_reducible refine ob_k ?_ ?_); focus kernel_rfl) | (refine yield_i hmix hT rfl hL efr eps eag ebd rfl (by kernel_rfl) ?_)  | (apply call_l (first_ok (l := [_, _]) (Nat.le_of_ble_eq_true rfl)) (.cons (vm_lit _ rfl rfl (.cons (vm_int rfl) (.cons (vm_int rfl) .nil))) .nil)) | (apply call_l (first_ok (l := [_, _, _]) (Nat.le_of_ble_eq_true rfl)) (.cons (vm_lit _ rfl rfl (.cons (vm_int rfl) (.cons (vm_int rfl) (.cons (vm_int rfl) .nil)))) .nil)) | (apply call_l (first_ok (l := [_, _, _, _]) (Nat.le_of_ble_eq_true rfl)) (.cons (vm_lit _ rfl rfl (.cons (vm_int rfl) (.cons (vm_int rfl) (.cons (vm_int rfl) (.cons (vm_int rfl) .nil))))) .nil))) <;> (try (exfalso; omega; done)) <;> (with_reducible conv => whnf))
  exact ret0 vm_p
/-! ### The samples that are left -/
def cla (i : Nat) : Nat := 4 * (i / 4)
def clH (f : Frm) (us : List Int) (i m : Nat) : Int × Int := gmul (hz f (cla i) (us.getD m 0).toNat) (t4 ((us.getD m 0 * ((i : Int) - cla i)) % 4).toNat)
def cnV (f : Frm) (us : List Int) (i : Nat) : Nat → Int × Int
  | 0 => gmul (f.sm.getD i (0, 0)) (4, 0)
  | m + 1 => ((cnV f us i m).1 - (clH f us i m).1, (cnV f us i m).2 - (clH f us i m).2)
def clS (f : Frm) (us : List Int) (i : Nat) : Int × Int := if wholeB f (cla i) = true then cnV f us i us.length else cnV f us i 0
def clF (f : Frm) (us : List Int) : Frm := ⟨f.g - 2, 20 * f.lim, (List.range f.sm.length).map (clS f us), idxK (fun i => decide (usB f i = false)) f.sm.length⟩
theorem hz_in {f : Frm} (v : f.Val) (a n : Nat) : (-16000000 ≤ (hz f a n).1 ∧ (hz f a n).1 ≤ 16000000) ∧ (-16000000 ≤ (hz f a n).2 ∧ (hz f a n).2 ≤ 16000000) := hzK_bd v a n 4 (by omega)
theorem hzt_bd {f : Frm} (v : f.Val) (a n r : Nat) : (-16000000 ≤ (hz f a n).1 * (t4 r).1 ∧ (hz f a n).1 * (t4 r).1 ≤ 16000000) ∧ (-16000000 ≤ (hz f a n).2 * (t4 r).2 ∧ (hz f a n).2 * (t4 r).2 ≤ 16000000) ∧ (-16000000 ≤ (hz f a n).1 * (t4 r).2 ∧ (hz f a n).1 * (t4 r).2 ≤ 16000000) ∧ (-16000000 ≤ (hz f a n).2 * (t4 r).1 ∧ (hz f a n).2 * (t4 r).1 ≤ 16000000) := by
  have s := hz_in v a n
  have t := t4_bd r
  have a1 := mul_lim (M := 16000000) (c := 1) s.1 t.1
  have a2 := mul_lim (M := 16000000) (c := 1) s.2 t.2
  have a3 := mul_lim (M := 16000000) (c := 1) s.1 t.2
  have a4 := mul_lim (M := 16000000) (c := 1) s.2 t.1
  omega
theorem clH_bd {f : Frm} (v : f.Val) (us : List Int) (i m : Nat) : (-32000000 ≤ (clH f us i m).1 ∧ (clH f us i m).1 ≤ 32000000) ∧ (-32000000 ≤ (clH f us i m).2 ∧ (clH f us i m).2 ≤ 32000000) := by
  have h := hzt_bd v (cla i) (us.getD m 0).toNat ((us.getD m 0 * ((i : Int) - cla i)) % 4).toNat
  unfold clH gmul
  dsimp only
  omega
theorem cnV_bd {f : Frm} (v : f.Val) (us : List Int) (i : Nat) : ∀ m : Nat, m ≤ 1000 → (-(8000000 + (m : Int) * 32000000) ≤ (cnV f us i m).1 ∧ (cnV f us i m).1 ≤ 8000000 + (m : Int) * 32000000) ∧ (-(8000000 + (m : Int) * 32000000) ≤ (cnV f us i m).2 ∧ (cnV f us i m).2 ≤ 8000000 + (m : Int) * 32000000)
  | 0, _ => by
    have s := sm_bd v i
    unfold cnV gmul
    dsimp only
    omega
  | m + 1, h => by
    have ih := cnV_bd v us i m (by omega)
    have b := clH_bd v us i m
    unfold cnV
    dsimp only
    omega
theorem clH_lim {f : Frm} (v : f.Val) (us : List Int) (i m : Nat) : lim62 (clH f us i m).1 ∧ lim62 (clH f us i m).2 := by
  have b := clH_bd v us i m
  unfold lim62; omega
set_option maxHeartbeats 8000000 in
set_option maxRecDepth 100000 in
theorem rCleaned_ok {f : Frm} (v : f.Val) (hg : f.gp.length ≤ 100000) {us : List Int} (hl : us.length ≤ 1000) (hu : ∀ m, m < us.length → 0 ≤ us.getD m 0 ∧ us.getD m 0 ≤ 3) : FnOK Tryd.prog 71 [eF f, eInts us] (eF (clF f us)) [] := by
  have vl := v.lim
  have vg := v.g
  have n1 := v.n1
  have UI := refUsableIn_ok v hg (w := false)
  have il := idxK_len (fun i => decide (usB f i = false)) f.sm.length
  unfold clF
  generalize idxK (fun i => decide (usB f i = false)) f.sm.length = ix at *
  refine fn_i hmix hT Tryd.f71 (by kernel_rfl) rfl (by kernel_rfl) ?_
  with_reducible conv => whnf
  repeat' ((first | (with_reducible refine branch_t ?_) | (with_reducible refine branch_f ?_) | (with_reducible refine branch_nt ?_) | (with_reducible refine branch_nf ?_) | (with_reducible refine branch_dec (fun _ => ?_) (fun _ => ?_)) | (with_reducible refine branch_ndec (fun _ => ?_) (fun _ => ?_)) | (with_reducible refine branch_bool (fun _ => ?_) (fun _ => ?_)) | (with_reducible refine arith_64 (by omega) ?_) | (with_reducible refine ob_i (by omega) (fun _ => ?_)) | (with_reducible refine ob_i (by unfold room; omega) (fun _ => ?_)) | (with_reducible refine ob_i (by (try simp only [] at *); (try dsimp only [toN] at *); omega) (fun _ => ?_)) | (with_reducible refine arith_64 (by (try simp only [toN_eq, Int.toNat_natCast] at *); (try dsimp only [toN] at *); omega) ?_) | (with_reducible refine ob_k rfl ?_) | ((with_reducible refine ob_k ?_ ?_); focus kernel_rfl) | (refine yield_i hmix hT rfl hL efr eps eag ebd rfl (by kernel_rfl) ?_) | (apply call_u UI) | (apply call_l (first_ok (l := [_, _]) (Nat.le_of_ble_eq_true rfl)) (.cons (vm_lit _ rfl rfl (.cons (vm_int rfl) (.cons (vm_int rfl) .nil))) .nil)) | (apply call_l (first_ok (l := [_, _, _]) (Nat.le_of_ble_eq_true rfl)) (.cons (vm_lit _ rfl rfl (.cons (vm_int rfl) (.cons (vm_int rfl) (.cons (vm_int rfl) .nil)))) .nil)) | (apply call_l (first_ok (l := [_, _, _, _]) (Nat.le_of_ble_eq_true rfl)) (.cons (vm_lit _ rfl rfl (.cons (vm_int rfl) (.cons (vm_int rfl) (.cons (vm_int rfl) (.cons (vm_int rfl) .nil))))) .nil))) <;> (try (exfalso; omega; done)) <;> (with_reducible conv => whnf))
  refine loop_i hmix hT (fun i : Nat => ([(1, eInts us), (2, .ptr 0 0), (4, .ptr 1 0), (5, .ptr 2 0), (6, I i)], ⟨4, [(3, .row 2 i (fun j => eP (clS f us j)) 63), (2, .cells [I (f.g - 2), I (20 * f.lim), .own 3 2 0 i, eInts ix] 25), (1, .cells [I 0, I 0, .sc (.slice none 0 0), .sc (.slice none 0 0)] 25), (0, .cells [I f.g, I f.lim, ePs f.sm, eInts f.gp] 25)]⟩)) (fun i => i ≤ f.sm.length) (fun i => f.sm.length - i) (0 : Nat) (by omega) ?_ ?_
  · refine ⟨[(3, none)], rfl, ?_, ?_⟩ <;> repeat' (first | exact trivial | exact vm_p | exact vm_ptr rfl rfl rfl | exact vm_yld rfl rfl | exact vm_own rfl rfl rfl rfl | exact vm_own rfl rfl (by omega) (by omega) | exact vm_int (by omega) | exact vm_nil rfl | exact sbm_cells vmL_p | exact sbm_row rfl (fun _ _ => vm_p) | refine ⟨⟨_, rfl, ?_⟩, ?_⟩ | refine ⟨⟨_, _, _, rfl⟩, ?_⟩ | (refine sbm_loop ?_; rw [efr]) | refine sbm_cells ?_ | refine vmL.cons ?_ ?_ | exact vmL.nil | refine vm_own rfl rfl rfl ?_)
  intro i hi
  by_cases h : i < f.sm.length
  · have ti : toN (i : Int) = i := toN_nat i
    have sb := sm_bd v (toN (i : Int))
    have GM0 := gMul_ok (p := f.sm.getD (toN (i : Int)) (0, 0)) (q := (4, 0)) (by unfold lim62; dsimp only; omega)
    have ea : (i : Int) - (i : Int).tmod 4 = ((cla i : Nat) : Int) := by
      rw [Int.tmod_eq_emod_of_nonneg (by omega)]; unfold cla; omega
    have m1 := Int.tmod_lt_of_pos (i : Int) (show (0 : Int) < 4 by decide)
    have m2 := Int.lt_tmod_of_pos (i : Int) (show (0 : Int) < 4 by decide)
    have cl1 : cla i ≤ i ∧ i < cla i + 4 := by unfold cla; omega
    have WH := rWhole_ok v hg (a := cla i) (by omega)
    with_reducible conv => whnf
    repeat' ((first | (with_reducible refine branch_t ?_) | (with_reducible refine branch_f ?_) | (with_reducible refine branch_nt ?_) | (with_reducible refine branch_nf ?_) | (with_reducible refine branch_dec (fun _ => ?_) (fun _ => ?_)) | (with_reducible refine branch_ndec (fun _ => ?_) (fun _ => ?_)) | (with_reducible refine branch_bool (fun _ => ?_) (fun _ => ?_)) | (with_reducible refine arith_64 (by omega) ?_) | (with_reducible refine ob_i (by omega) (fun _ => ?_)) | (with_reducible refine ob_i (by unfold room; omega) (fun _ => ?_)) | (with_reducible refine ob_i (by (try simp only [] at *); (try dsimp only [toN] at *); omega) (fun _ => ?_)) | (with_reducible refine arith_64 (by (try simp only [] at *); (try dsimp only [toN] at *); omega) ?_) | (with_reducible refine ob_k rfl ?_) | ((with_reducible refine ob_k ?_ ?_); focus kernel_rfl) | (refine yield_i hmix hT rfl hL efr eps eag ebd rfl (by kernel_rfl) ?_) | (apply call_u GM0) | (apply call_l (first_ok (l := [_, _]) (Nat.le_of_ble_eq_true rfl)) (.cons (vm_lit _ rfl rfl (.cons (vm_int rfl) (.cons (vm_int rfl) .nil))) .nil)) | (apply call_l (first_ok (l := [_, _, _]) (Nat.le_of_ble_eq_true rfl)) (.cons (vm_lit _ rfl rfl (.cons (vm_int rfl) (.cons (vm_int rfl) (.cons (vm_int rfl) .nil)))) .nil)) | (apply call_l (first_ok (l := [_, _, _, _]) (Nat.le_of_ble_eq_true rfl)) (.cons (vm_lit _ rfl rfl (.cons (vm_int rfl) (.cons (vm_int rfl) (.cons (vm_int rfl) (.cons (vm_int rfl) .nil))))) .nil))) <;> (try (exfalso; omega; done)) <;> (with_reducible conv => whnf))
    refine loop_i hmix hT (fun m : Nat => ([(1, eInts us), (2, .ptr 0 0), (4, .ptr 1 0), (5, .ptr 2 0), (6, I i), (7, .ptr 4 0), (8, I (cla i : Nat)), (9, I m)], ⟨5, [(4, .cells [I (cnV f us i m).1, I (cnV f us i m).2] 63), (3, .row 2 i (fun j => eP (clS f us j)) 63), (2, .cells [I (f.g - 2), I (20 * f.lim), .own 3 2 0 i, eInts ix] 25), (1, .cells [I 0, I 0, .sc (.slice none 0 0), .sc (.slice none 0 0)] 25), (0, .cells [I f.g, I f.lim, ePs f.sm, eInts f.gp] 25)]⟩)) (fun m => m ≤ us.length ∧ (wholeB f (cla i) = false → m = 0)) (fun m => us.length - m) (0 : Nat) ⟨by omega, fun _ => rfl⟩ ?_ ?_
    · have z : gmul (f.sm.getD (toN (i : Int)) (0, 0)) (4, 0) = cnV f us i 0 := by rw [ti]; rfl
      rw [z]
      refine ⟨[], rfl, ?_, ?_⟩ <;> repeat' (first | exact trivial | exact vm_p | exact vm_ptr rfl rfl rfl | exact vm_yld rfl rfl | exact vm_own rfl rfl rfl rfl | exact vm_own rfl rfl (by omega) (by omega) | exact vm_int (by omega) | exact vm_nil rfl | exact sbm_cells vmL_p | exact sbm_row rfl (fun _ _ => vm_p) | refine ⟨⟨_, rfl, ?_⟩, ?_⟩ | refine ⟨⟨_, _, _, rfl⟩, ?_⟩ | (refine sbm_loop ?_; rw [efr]) | refine sbm_cells ?_ | refine vmL.cons ?_ ?_ | exact vmL.nil | refine vm_own rfl rfl rfl ?_)
      all_goals exact vm_int ea
    rintro m ⟨hm, hm0⟩
    cases wb : wholeB f (cla i) with
    | false =>
      obtain rfl := hm0 wb
      rw [wb] at WH
      have es : cnV f us i 0 = clS f us i := by unfold clS; rw [if_neg (by rw [wb]; simp)]
      rw [es]
      with_reducible conv => whnf
      repeat' ((first | (with_reducible refine branch_t ?_) | (with_reducible refine branch_f ?_) | (with_reducible refine branch_nt ?_) | (with_reducible refine branch_nf ?_) | (with_reducible refine branch_dec (fun _ => ?_) (fun _ => ?_)) | (with_reducible refine branch_ndec (fun _ => ?_) (fun _ => ?_)) | (with_reducible refine branch_bool (fun _ => ?_) (fun _ => ?_)) | (with_reducible refine arith_64 (by omega) ?_) | (with_reducible refine ob_i (by omega) (fun _ => ?_)) | (with_reducible refine ob_i (by unfold room; omega) (fun _ => ?_)) | (with_reducible refine ob_i (by (try simp only [] at *); (try dsimp only [toN] at *); omega) (fun _ => ?_)) | (with_reducible refine arith_64 (by (try simp only [] at *); (try dsimp only [toN] at *); omega) ?_) | (with_reducible refine ob_k rfl ?_) | ((with_reducible refine ob_k ?_ ?_); focus kernel_rfl) | (refine yield_i hmix hT rfl hL efr eps eag ebd rfl (by kernel_rfl) ?_) | (apply call_u WH) | (apply call_l (first_ok (l := [_, _]) (Nat.le_of_ble_eq_true rfl)) (.cons (vm_lit _ rfl rfl (.cons (vm_int rfl) (.cons (vm_int rfl) .nil))) .nil)) | (apply call_l (first_ok (l := [_, _, _]) (Nat.le_of_ble_eq_true rfl)) (.cons (vm_lit _ rfl rfl (.cons (vm_int rfl) (.cons (vm_int rfl) (.cons (vm_int rfl) .nil)))) .nil)) | (apply call_l (first_ok (l := [_, _, _, _]) (Nat.le_of_ble_eq_true rfl)) (.cons (vm_lit _ rfl rfl (.cons (vm_int rfl) (.cons (vm_int rfl) (.cons (vm_int rfl) (.cons (vm_int rfl) .nil))))) .nil))) <;> (try (exfalso; omega; done)) <;> (with_reducible conv => whnf))
      all_goals refine ⟨i + 1, by omega, by omega, ?_⟩
      all_goals refine ⟨[(3, some 6)], rfl, ?_, ?_⟩ <;> repeat' (first | exact trivial | exact vm_p | exact vm_ptr rfl rfl rfl | exact vm_yld rfl rfl | exact vm_own rfl rfl rfl rfl | exact vm_own rfl rfl (by omega) (by omega) | exact vm_int (by omega) | exact vm_nil rfl | exact sbm_cells vmL_p | exact sbm_row rfl (fun _ _ => vm_p) | refine ⟨⟨_, rfl, ?_⟩, ?_⟩ | refine ⟨⟨_, _, _, rfl⟩, ?_⟩ | (refine sbm_loop ?_; rw [efr]) | refine sbm_cells ?_ | refine vmL.cons ?_ ?_ | exact vmL.nil | refine vm_own rfl rfl rfl ?_)
      all_goals first | (refine sbm_row rfl fun j hj => vm_snoc (e' := fun j => eP (clS f us j)) hj (fun _ _ => vm_p) ?_; exact vm_p) | skip
    | true =>
      rw [wb] at WH
      by_cases hm2 : m < us.length
      · have t1 : toN (m : Int) = m := toN_nat m
        have um := hu m hm2
        have a4 : cla i + 4 ≤ f.sm.length := by
          unfold wholeB at wb
          simp only [Bool.and_eq_true, decide_eq_true_eq] at wb
          exact wb.1
        rw [← t1] at um
        have H := rHarmonic_ok v a4 (n := (us.getD (toN (m : Int)) 0).toNat) (by omega)
        rw [Int.toNat_of_nonneg um.1] at H
        have pq := Int.mul_nonneg um.1 (show 0 ≤ (i : Int) - (cla i : Nat) by omega)
        have pq2 : us.getD (toN (m : Int)) 0 * ((i : Int) - (cla i : Nat)) ≤ 3 * 3 := Int.mul_le_mul um.2 (by omega) (by omega) (by omega)
        have T := rTurn_ok (n := us.getD (toN (m : Int)) 0 * ((i : Int) - (cla i : Nat))) ((us.getD (toN (m : Int)) 0 * ((i : Int) - (cla i : Nat))) % 4).toNat (by omega) (by omega) (by omega)
        have hb := hzt_bd v (cla i) (us.getD (toN (m : Int)) 0).toNat ((us.getD (toN (m : Int)) 0 * ((i : Int) - (cla i : Nat))) % 4).toNat
        have GM := gMul_ok (p := hz f (cla i) (us.getD (toN (m : Int)) 0).toNat) (q := t4 ((us.getD (toN (m : Int)) 0 * ((i : Int) - (cla i : Nat))) % 4).toNat) (by unfold lim62; omega)
        have cb := cnV_bd v us i m (by omega)
        have gl := clH_lim v us i (toN (m : Int))
        have GS := gSub_ok (p := cnV f us i m) (q := gmul (hz f (cla i) (us.getD (toN (m : Int)) 0).toNat) (t4 ((us.getD (toN (m : Int)) 0 * ((i : Int) - (cla i : Nat))) % 4).toNat)) ⟨by unfold lim62; omega, gl⟩
        have nx : cnV f us i (m + 1) = ((cnV f us i m).1 - (gmul (hz f (cla i) (us.getD (toN (m : Int)) 0).toNat) (t4 ((us.getD (toN (m : Int)) 0 * ((i : Int) - (cla i : Nat))) % 4).toNat)).1, (cnV f us i m).2 - (gmul (hz f (cla i) (us.getD (toN (m : Int)) 0).toNat) (t4 ((us.getD (toN (m : Int)) 0 * ((i : Int) - (cla i : Nat))) % 4).toNat)).2) := by
          rw [t1]; rfl
        with_reducible conv => whnf
        repeat' ((first | (with_reducible refine branch_t ?_) | (with_reducible refine branch_f ?_) | (with_reducible refine branch_nt ?_) | (with_reducible refine branch_nf ?_) | (with_reducible refine branch_dec (fun _ => ?_) (fun _ => ?_)) | (with_reducible refine branch_ndec (fun _ => ?_) (fun _ => ?_)) | (with_reducible refine branch_bool (fun _ => ?_) (fun _ => ?_)) | (with_reducible refine arith_64 (by omega) ?_) | (with_reducible refine ob_i (by omega) (fun _ => ?_)) | (with_reducible refine ob_i (by unfold room; omega) (fun _ => ?_)) | (with_reducible refine ob_i (by (try simp only [] at *); (try dsimp only [toN] at *); omega) (fun _ => ?_)) | (with_reducible refine arith_64 (by (try simp only [] at *); (try dsimp only [toN] at *); omega) ?_) | (with_reducible refine ob_k rfl ?_) | ((with_reducible refine ob_k ?_ ?_); focus kernel_rfl) | (refine yield_i hmix hT rfl hL efr eps eag ebd rfl (by kernel_rfl) ?_) | (apply call_u WH) | (apply call_u H) | (apply call_u T) | (apply call_u GM) | (apply call_u GS) | (apply call_l (first_ok (l := [_, _]) (Nat.le_of_ble_eq_true rfl)) (.cons (vm_lit _ rfl rfl (.cons (vm_int rfl) (.cons (vm_int rfl) .nil))) .nil)) | (apply call_l (first_ok (l := [_, _, _]) (Nat.le_of_ble_eq_true rfl)) (.cons (vm_lit _ rfl rfl (.cons (vm_int rfl) (.cons (vm_int rfl) (.cons (vm_int rfl) .nil)))) .nil)) | (apply call_l (first_ok (l := [_, _, _, _]) (Nat.le_of_ble_eq_true rfl)) (.cons (vm_lit _ rfl rfl (.cons (vm_int rfl) (.cons (vm_int rfl) (.cons (vm_int rfl) (.cons (vm_int rfl) .nil))))) .nil))) <;> (try (exfalso; omega; done)) <;> (with_reducible conv => whnf))
        refine ⟨m + 1, ⟨by omega, fun k => by cases k⟩, by omega, ?_⟩
        rw [nx]
        refine ⟨[], rfl, ?_, ?_⟩ <;> repeat' (first | exact trivial | exact vm_p | exact vm_ptr rfl rfl rfl | exact vm_yld rfl rfl | exact vm_own rfl rfl rfl rfl | exact vm_own rfl rfl (by omega) (by omega) | exact vm_int (by omega) | exact vm_nil rfl | exact sbm_cells vmL_p | exact sbm_row rfl (fun _ _ => vm_p) | refine ⟨⟨_, rfl, ?_⟩, ?_⟩ | refine ⟨⟨_, _, _, rfl⟩, ?_⟩ | (refine sbm_loop ?_; rw [efr]) | refine sbm_cells ?_ | refine vmL.cons ?_ ?_ | exact vmL.nil | refine vm_own rfl rfl rfl ?_)
      · obtain rfl : m = us.length := by omega
        have es : cnV f us i us.length = clS f us i := by unfold clS; rw [if_pos wb]
        rw [es]
        with_reducible conv => whnf
        repeat' ((first | (with_reducible refine branch_t ?_) | (with_reducible refine branch_f ?_) | (with_reducible refine branch_nt ?_) | (with_reducible refine branch_nf ?_) | (with_reducible refine branch_dec (fun _ => ?_) (fun _ => ?_)) | (with_reducible refine branch_ndec (fun _ => ?_) (fun _ => ?_)) | (with_reducible refine branch_bool (fun _ => ?_) (fun _ => ?_)) | (with_reducible refine arith_64 (by omega) ?_) | (with_reducible refine ob_i (by omega) (fun _ => ?_)) | (with_reducible refine ob_i (by unfold room; omega) (fun _ => ?_)) | (with_reducible refine ob_i (by (try simp only [] at *); (try dsimp only [toN] at *); omega) (fun _ => ?_)) | (with_reducible refine arith_64 (by (try simp only [] at *); (try dsimp only [toN] at *); omega) ?_) | (with_reducible refine ob_k rfl ?_) | ((with_reducible refine ob_k ?_ ?_); focus kernel_rfl) | (refine yield_i hmix hT rfl hL efr eps eag ebd rfl (by kernel_rfl) ?_) | (apply call_u WH) | (apply call_l (first_ok (l := [_, _]) (Nat.le_of_ble_eq_true rfl)) (.cons (vm_lit _ rfl rfl (.cons (vm_int rfl) (.cons (vm_int rfl) .nil))) .nil)) | (apply call_l (first_ok (l := [_, _, _]) (Nat.le_of_ble_eq_true rfl)) (.cons (vm_lit _ rfl rfl (.cons (vm_int rfl) (.cons (vm_int rfl) (.cons (vm_int rfl) .nil)))) .nil)) | (apply call_l (first_ok (l := [_, _, _, _]) (Nat.le_of_ble_eq_true rfl)) (.cons (vm_lit _ rfl rfl (.cons (vm_int rfl) (.cons (vm_int rfl) (.cons (vm_int rfl) (.cons (vm_int rfl) .nil))))) .nil))) <;> (try (exfalso; omega; done)) <;> (with_reducible conv => whnf))
        refine ⟨i + 1, by omega, by omega, ?_⟩
        refine ⟨[(3, some 6)], rfl, ?_, ?_⟩ <;> repeat' (first | exact trivial | exact vm_p | exact vm_ptr rfl rfl rfl | exact vm_yld rfl rfl | exact vm_own rfl rfl rfl rfl | exact vm_own rfl rfl (by omega) (by omega) | exact vm_int (by omega) | exact vm_nil rfl | exact sbm_cells vmL_p | exact sbm_row rfl (fun _ _ => vm_p) | refine ⟨⟨_, rfl, ?_⟩, ?_⟩ | refine ⟨⟨_, _, _, rfl⟩, ?_⟩ | (refine sbm_loop ?_; rw [efr]) | refine sbm_cells ?_ | refine vmL.cons ?_ ?_ | exact vmL.nil | refine vm_own rfl rfl rfl ?_)
        refine sbm_row rfl fun j hj => vm_snoc (e' := fun j => eP (clS f us j)) hj (fun _ _ => vm_p) ?_
        exact vm_p
  · obtain rfl : i = f.sm.length := by omega
    with_reducible conv => whnf
    repeat' ((first | (with_reducible refine branch_t ?_) | (with_reducible refine branch_f ?_) | (with_reducible refine branch_nt ?_) | (with_reducible refine branch_nf ?_) | (with_reducible refine branch_dec (fun _ => ?_) (fun _ => ?_)) | (with_reducible refine branch_ndec (fun _ => ?_) (fun _ => ?_)) | (with_reducible refine branch_bool (fun _ => ?_) (fun _ => ?_)) | (with_reducible refine arith_64 (by omega) ?_) | (with_reducible refine ob_i (by omega) (fun _ => ?_)) | (with_reducible refine ob_i (by unfold room; omega) (fun _ => ?_)) | (with_reducible refine ob_i (by (try simp only [toN_eq, Int.toNat_natCast] at *); (try dsimp only [toN] at *); omega) (fun _ => ?_)) | (with_reducible refine arith_64 (by (try simp only [toN_eq, Int.toNat_natCast] at *); (try dsimp only [toN] at *); omega) ?_) | (with_reducible refine ob_k rfl ?_) | ((with_reducible refine ob_k ?_ ?_); focus kernel_rfl) | (refine yield_i hmix hT rfl hL efr eps eag ebd rfl (by kernel_rfl) ?_)  | (apply call_l (first_ok (l := [_, _]) (Nat.le_of_ble_eq_true rfl)) (.cons (vm_lit _ rfl rfl (.cons (vm_int rfl) (.cons (vm_int rfl) .nil))) .nil)) | (apply call_l (first_ok (l := [_, _, _]) (Nat.le_of_ble_eq_true rfl)) (.cons (vm_lit _ rfl rfl (.cons (vm_int rfl) (.cons (vm_int rfl) (.cons (vm_int rfl) .nil)))) .nil)) | (apply call_l (first_ok (l := [_, _, _, _]) (Nat.le_of_ble_eq_true rfl)) (.cons (vm_lit _ rfl rfl (.cons (vm_int rfl) (.cons (vm_int rfl) (.cons (vm_int rfl) (.cons (vm_int rfl) .nil))))) .nil))) <;> (try (exfalso; omega; done)) <;> (with_reducible conv => whnf))
    refine ret0 (vm_agg (.cons vm_p (.cons vm_p (.cons (vm_fr rfl rfl (by simp) (Nat.le_refl _) fun j hj => ?_) (.cons vm_p .nil)))))
    rw [range_map_at (by simpa using hj)]
    exact vm_p
end Go.Proofs.YtaejdonacadpkaaDoor
