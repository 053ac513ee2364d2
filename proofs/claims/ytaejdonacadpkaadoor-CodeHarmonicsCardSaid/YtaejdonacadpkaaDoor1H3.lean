/-
  Chapter 1: powers of frames of which one is not valid (by contract).
  Conditions: none.
-/
import Derived.Test.YtaejdonacadpkaaDoor1H2
namespace Go.Proofs.YtaejdonacadpkaaDoor
open Go.RowKit Fx
set_option maxHeartbeats 8000000 in
set_option maxRecDepth 100000 in
theorem powers_err {l : List Frm} {b : Nat} (hb : b < l.length) (h4 : l.length ≤ 4) (hv : ∀ i, i < b → frE (l.getD i f0) = 0 ∧ (l.getD i f0).gp.length ≤ 9223372036854775807) (hs : (l.getD b f0).sm.length ≤ 9223372036854775807) (hg : (l.getD b f0).gp.length ≤ 9223372036854775807) (he : frE (l.getD b f0) ≠ 0) : FnOK Tryd.prog 103 [eFs l] (.tup [.agg z4, I (frE (l.getD b f0))]) [] := by
  have h0 : 0 < l.length := by omega
  have F := first_ok (l := [if decide ((0 : Int) < l.length) = true then 0 else 10, if decide ((l.length : Int) ≤ 4) = true then 0 else 8]) (by simp)
  have e0 : (if l.length = 0 then 10 else if 4 < l.length then 8 else 0 : Int) = 0 := by rw [if_neg (by omega), if_neg (by omega)]
  rw [flsE_first, e0] at F
  refine fn_i hmix hT Tryd.f103 (by kernel_rfl) rfl (by kernel_rfl) ?_
  with_reducible conv => whnf
  repeat' ((first | (with_reducible refine branch_t ?_) | (with_reducible refine branch_f ?_) | (with_reducible refine branch_nt ?_) | (with_reducible refine branch_nf ?_) | (with_reducible refine branch_dec (fun _ => ?_) (fun _ => ?_)) | (with_reducible refine branch_ndec (fun _ => ?_) (fun _ => ?_)) | (with_reducible refine branch_bool (fun _ => ?_) (fun _ => ?_)) | (with_reducible refine arith_64 (by omega) ?_) | (with_reducible refine ob_i (by omega) (fun _ => ?_)) | (with_reducible refine ob_i (by unfold room; omega) (fun _ => ?_)) | (with_reducible refine ob_i (by (try simp only [toN_eq, Int.toNat_natCast] at *); (try dsimp only [toN] at *); omega) (fun _ => ?_)) | (with_reducible refine arith_64 (by (try simp only [toN_eq, Int.toNat_natCast] at *); (try dsimp only [toN] at *); omega) ?_) | (with_reducible refine ob_k rfl ?_) | ((with_reducible refine ob_k ?_ ?_); focus kernel_rfl) | (refine yield_i hmix hT rfl hL efr eps eag ebd rfl (by kernel_rfl) ?_) | (apply call_u unless_ok) | (apply call_l F (.cons (vm_lit _ rfl rfl (.cons (vm_int rfl) (.cons (vm_int rfl) .nil))) .nil)) | (apply call_l (first_ok (l := [_, _]) (Nat.le_of_ble_eq_true rfl)) (.cons (vm_lit _ rfl rfl (.cons (vm_int rfl) (.cons (vm_int rfl) .nil))) .nil)) | (apply call_l (first_ok (l := [_, _, _]) (Nat.le_of_ble_eq_true rfl)) (.cons (vm_lit _ rfl rfl (.cons (vm_int rfl) (.cons (vm_int rfl) (.cons (vm_int rfl) .nil)))) .nil)) | (apply call_l (first_ok (l := [_, _, _, _]) (Nat.le_of_ble_eq_true rfl)) (.cons (vm_lit _ rfl rfl (.cons (vm_int rfl) (.cons (vm_int rfl) (.cons (vm_int rfl) (.cons (vm_int rfl) .nil))))) .nil))) <;> (try (exfalso; omega; done)) <;> (with_reducible conv => whnf))
  refine loop_i hmix hT (fun i : Nat => ([(2, .ptr 0 0), (3, I 0), (4, .ptr 1 0), (29, eFs l), (30, I l.length), (31, I i)], ⟨2, [(1, .cells (o4 fun n => pwL l n i) 83), (0, .cells z4 83)]⟩)) (fun i => i ≤ b) (fun i => b - i) 0 (by omega) ?_ ?_
  · refine ⟨[], rfl, ?_, ?_⟩ <;> repeat' (first | exact trivial | exact vm_p | exact vm_ptr rfl rfl rfl | exact vm_yld rfl rfl | exact vm_own rfl rfl rfl rfl | exact vm_own rfl rfl (by omega) (by omega) | exact vm_int (by omega) | exact vm_nil rfl | exact sbm_cells vmL_p | exact sbm_row rfl (fun _ _ => vm_p) | refine ⟨⟨_, rfl, ?_⟩, ?_⟩ | refine ⟨⟨_, _, _, rfl⟩, ?_⟩ | (refine sbm_loop ?_; rw [efr]) | refine sbm_cells ?_ | refine vmL.cons ?_ ?_ | exact vmL.nil | refine vm_own rfl rfl rfl ?_)
  intro i hi
  by_cases c : i < b
  · have ti : toN (i : Int) = i := toN_nat i
    have vi := hv i c
    have O := open_good vi.2 vi.1
    rw [← ti] at O
    have v := frm_val vi.1
    have vv : ∀ k, k ≤ i → (l.getD k f0).Val := fun k hk => frm_val (hv k (by omega)).1
    have n0 := v.n0
    have n1 := v.n1
    rw [← ti] at v n0 n1
    with_reducible conv => whnf
    repeat' ((first | (with_reducible refine branch_t ?_) | (with_reducible refine branch_f ?_) | (with_reducible refine branch_nt ?_) | (with_reducible refine branch_nf ?_) | (with_reducible refine branch_dec (fun _ => ?_) (fun _ => ?_)) | (with_reducible refine branch_ndec (fun _ => ?_) (fun _ => ?_)) | (with_reducible refine branch_bool (fun _ => ?_) (fun _ => ?_)) | (with_reducible refine arith_64 (by omega) ?_) | (with_reducible refine ob_i (by omega) (fun _ => ?_)) | (with_reducible refine ob_i (by unfold room; omega) (fun _ => ?_)) | (with_reducible refine ob_i (by (try simp only [] at *); (try dsimp only [toN] at *); omega) (fun _ => ?_)) | (with_reducible refine arith_64 (by (try simp only [] at *); (try dsimp only [toN] at *); omega) ?_) | (with_reducible refine ob_k rfl ?_) | ((with_reducible refine ob_k ?_ ?_); focus kernel_rfl) | (refine yield_i hmix hT rfl hL efr eps eag ebd rfl (by kernel_rfl) ?_) | (apply call_u O) | (apply call_l (first_ok (l := [_, _]) (Nat.le_of_ble_eq_true rfl)) (.cons (vm_lit _ rfl rfl (.cons (vm_int rfl) (.cons (vm_int rfl) .nil))) .nil)) | (apply call_l (first_ok (l := [_, _, _]) (Nat.le_of_ble_eq_true rfl)) (.cons (vm_lit _ rfl rfl (.cons (vm_int rfl) (.cons (vm_int rfl) (.cons (vm_int rfl) .nil)))) .nil)) | (apply call_l (first_ok (l := [_, _, _, _]) (Nat.le_of_ble_eq_true rfl)) (.cons (vm_lit _ rfl rfl (.cons (vm_int rfl) (.cons (vm_int rfl) (.cons (vm_int rfl) (.cons (vm_int rfl) .nil))))) .nil))) <;> (try (exfalso; omega; done)) <;> (with_reducible conv => whnf))
    refine range_m hmix hT rfl 1 Tryd.f115 (by kernel_rfl) rfl (by kernel_rfl) 0 [2, 3, 4, 29, 30, 31] (by kernel_rfl) ?_
    intro L efr eps eag ebd etok hL
    with_reducible conv => whnf
    repeat' ((first | (with_reducible refine branch_t ?_) | (with_reducible refine branch_f ?_) | (with_reducible refine branch_nt ?_) | (with_reducible refine branch_nf ?_) | (with_reducible refine branch_dec (fun _ => ?_) (fun _ => ?_)) | (with_reducible refine branch_ndec (fun _ => ?_) (fun _ => ?_)) | (with_reducible refine branch_bool (fun _ => ?_) (fun _ => ?_)) | (with_reducible refine arith_64 (by omega) ?_) | (with_reducible refine ob_i (by omega) (fun _ => ?_)) | (with_reducible refine ob_i (by unfold room; omega) (fun _ => ?_)) | (with_reducible refine ob_i (by (try simp only [] at *); (try dsimp only [toN] at *); omega) (fun _ => ?_)) | (with_reducible refine arith_64 (by (try simp only [] at *); (try dsimp only [toN] at *); omega) ?_) | (with_reducible refine ob_k rfl ?_) | ((with_reducible refine ob_k ?_ ?_); focus kernel_rfl) | (refine yield_i hmix hT rfl hL efr eps eag ebd rfl (by kernel_rfl) ?_)  | (apply call_l (first_ok (l := [_, _]) (Nat.le_of_ble_eq_true rfl)) (.cons (vm_lit _ rfl rfl (.cons (vm_int rfl) (.cons (vm_int rfl) .nil))) .nil)) | (apply call_l (first_ok (l := [_, _, _]) (Nat.le_of_ble_eq_true rfl)) (.cons (vm_lit _ rfl rfl (.cons (vm_int rfl) (.cons (vm_int rfl) (.cons (vm_int rfl) .nil)))) .nil)) | (apply call_l (first_ok (l := [_, _, _, _]) (Nat.le_of_ble_eq_true rfl)) (.cons (vm_lit _ rfl rfl (.cons (vm_int rfl) (.cons (vm_int rfl) (.cons (vm_int rfl) (.cons (vm_int rfl) .nil))))) .nil))) <;> (try (exfalso; omega; done)) <;> (with_reducible conv => whnf))
    refine loop_i hmix hT (fun j : Nat => ([(1, .yld 4), (2, .ptr 5 0), (4, I (4 * j : Nat))], ⟨6, [(5, .cells [I (l.getD (toN (i : Int)) f0).g, I (l.getD (toN (i : Int)) f0).lim, ePs (l.getD (toN (i : Int)) f0).sm, eInts (l.getD (toN (i : Int)) f0).gp, eBn (l.getD (toN (i : Int)) f0).sm.length (usB (l.getD (toN (i : Int)) f0))] 137), (4, .loop L .ready), (1, .cells (o4 fun n => pwA l i j n) 83), (0, .cells z4 83)]⟩)) (fun j => j ≤ (l.getD (toN (i : Int)) f0).sm.length / 4) (fun j => (l.getD (toN (i : Int)) f0).sm.length / 4 - j) 0 (by omega) ?_ ?_
    · have z : ∀ n, pwL l n i = pwA l i 0 n := fun n => by unfold pwA pwK; omega
      refine ⟨[], rfl, ?_, ?_⟩ <;> repeat' (first | exact trivial | exact vm_p | exact vm_ptr rfl rfl rfl | exact vm_yld rfl rfl | exact vm_own rfl rfl rfl rfl | exact vm_own rfl rfl (by omega) (by omega) | exact vm_int (by omega) | exact vm_nil rfl | exact sbm_cells vmL_p | exact sbm_row rfl (fun _ _ => vm_p) | refine ⟨⟨_, rfl, ?_⟩, ?_⟩ | refine ⟨⟨_, _, _, rfl⟩, ?_⟩ | (refine sbm_loop ?_; rw [efr]) | refine sbm_cells ?_ | refine vmL.cons ?_ ?_ | exact vmL.nil | refine vm_own rfl rfl rfl ?_)
      all_goals exact vm_int (z _)
    intro j hj
    have tj : toN ((4 * j : Nat) : Int) = 4 * j := toN_nat _
    by_cases c2 : j < (l.getD (toN (i : Int)) f0).sm.length / 4
    · have t5 : toN (((4 * j : Nat) : Int) + 4) = 4 * j + 4 := by rw [toN_eq]; omega
      have e4 : toN (((4 * j : Nat) : Int) + 4) - toN ((4 * j : Nat) : Int) = 4 := by omega
      have CT := containsB_ok (p := fun q => usB (l.getD (toN (i : Int)) f0) (toN ((4 * j : Nat) : Int) + q)) e4
      rw [wholeB_eq (by omega)] at CT
      obtain ⟨g, HM, hg⟩ := harm_ex v (4 * j)
      have W := fun n => whole_ok (hg n).1 (by decide)
      have sq := fun n => hz_bd v (4 * j) n
      simp only [← (hg _).2] at sq
      have s0 := sq 0
      have s1 := sq 1
      have s2 := sq 2
      have s3 := sq 3
      have b0 := pwA_bd (j := j) 0 vv (by omega) (by omega)
      have b1 := pwA_bd (j := j) 1 vv (by omega) (by omega)
      have b2 := pwA_bd (j := j) 2 vv (by omega) (by omega)
      have b3 := pwA_bd (j := j) 3 vv (by omega) (by omega)
      have nx : ∀ n, pwA l i (j + 1) n = if wholeB (l.getD (toN (i : Int)) f0) (4 * j) = true then pwA l i j n + ((cv (g n)).1 * (cv (g n)).1 + (cv (g n)).2 * (cv (g n)).2) else pwA l i j n := fun n => by
        unfold pwA
        rw [ti, (hg n).2, ti, pwK]
        split
        · unfold nrm; omega
        · rfl
      cases wb : wholeB (l.getD (toN (i : Int)) f0) (4 * j) with
      | true =>
        rw [wb] at CT
        simp only [wb, if_true] at nx
        with_reducible conv => whnf
        repeat' ((first | (with_reducible refine arith_l 0 (by decide) (by decide) ?_) | (with_reducible refine arith_l 1 (by decide) (by decide) ?_) | (with_reducible refine arith_l 2 (by decide) (by decide) ?_) | (with_reducible refine arith_l 3 (by decide) (by decide) ?_) | (with_reducible refine arith_l 4 (by decide) (by decide) ?_) | (with_reducible refine branch_t ?_) | (with_reducible refine branch_f ?_) | (with_reducible refine branch_nt ?_) | (with_reducible refine branch_nf ?_) | (with_reducible refine branch_dec (fun _ => ?_) (fun _ => ?_)) | (with_reducible refine branch_ndec (fun _ => ?_) (fun _ => ?_)) | (with_reducible refine branch_bool (fun _ => ?_) (fun _ => ?_)) | (with_reducible refine arith_64 (by omega) ?_) | (with_reducible refine ob_i (by omega) (fun _ => ?_)) | (with_reducible refine ob_i (by unfold room; omega) (fun _ => ?_)) | (with_reducible refine ob_i (by (try simp only [toN_eq] at *); (try dsimp only [toN] at *); omega) (fun _ => ?_)) | (with_reducible refine arith_64 (by (try simp only [toN_eq] at *); (try dsimp only [toN] at *); omega) ?_) | (with_reducible refine ob_k rfl ?_) | ((with_reducible refine ob_k ?_ ?_); focus kernel_rfl) | (refine yield_x hmix hT rfl hL efr eps eag ebd rfl ?_) | (apply call_u CT) | (refine loop_u hmix hT [(), (), (), (), ()] ?_) | (refine loopX_u hmix hT [(), (), (), (), ()] ?_) | (apply call_u sample_ok) | (apply call_u HM) | (apply call_u (W _)) | (apply call_l (first_ok (l := [_, _]) (Nat.le_of_ble_eq_true rfl)) (.cons (vm_lit _ rfl rfl (.cons (vm_int rfl) (.cons (vm_int rfl) .nil))) .nil)) | (apply call_l (first_ok (l := [_, _, _]) (Nat.le_of_ble_eq_true rfl)) (.cons (vm_lit _ rfl rfl (.cons (vm_int rfl) (.cons (vm_int rfl) (.cons (vm_int rfl) .nil)))) .nil)) | (apply call_l (first_ok (l := [_, _, _, _]) (Nat.le_of_ble_eq_true rfl)) (.cons (vm_lit _ rfl rfl (.cons (vm_int rfl) (.cons (vm_int rfl) (.cons (vm_int rfl) (.cons (vm_int rfl) .nil))))) .nil))) <;> (try (exfalso; omega; done)) <;> (with_reducible conv => whnf))
        refine ⟨j + 1, by omega, by omega, ?_⟩
        refine ⟨[], rfl, ?_, ?_⟩ <;> repeat' (first | exact trivial | exact vm_p | exact vm_ptr rfl rfl rfl | exact vm_yld rfl rfl | exact vm_own rfl rfl rfl rfl | exact vm_own rfl rfl (by omega) (by omega) | exact vm_int (by omega) | exact vm_nil rfl | exact sbm_cells vmL_p | exact sbm_row rfl (fun _ _ => vm_p) | refine ⟨⟨_, rfl, ?_⟩, ?_⟩ | refine ⟨⟨_, _, _, rfl⟩, ?_⟩ | (refine sbm_loop ?_; rw [efr]) | refine sbm_cells ?_ | refine vmL.cons ?_ ?_ | exact vmL.nil | refine vm_own rfl rfl rfl ?_)
        all_goals exact vm_int (nx _).symm
      | false =>
        rw [wb] at CT
        simp only [wb] at nx
        with_reducible conv => whnf
        repeat' ((first | (with_reducible refine arith_l 0 (by decide) (by decide) ?_) | (with_reducible refine arith_l 1 (by decide) (by decide) ?_) | (with_reducible refine arith_l 2 (by decide) (by decide) ?_) | (with_reducible refine arith_l 3 (by decide) (by decide) ?_) | (with_reducible refine arith_l 4 (by decide) (by decide) ?_) | (with_reducible refine branch_t ?_) | (with_reducible refine branch_f ?_) | (with_reducible refine branch_nt ?_) | (with_reducible refine branch_nf ?_) | (with_reducible refine branch_dec (fun _ => ?_) (fun _ => ?_)) | (with_reducible refine branch_ndec (fun _ => ?_) (fun _ => ?_)) | (with_reducible refine branch_bool (fun _ => ?_) (fun _ => ?_)) | (with_reducible refine arith_64 (by omega) ?_) | (with_reducible refine ob_i (by omega) (fun _ => ?_)) | (with_reducible refine ob_i (by unfold room; omega) (fun _ => ?_)) | (with_reducible refine ob_i (by (try simp only [toN_eq] at *); (try dsimp only [toN] at *); omega) (fun _ => ?_)) | (with_reducible refine arith_64 (by (try simp only [toN_eq] at *); (try dsimp only [toN] at *); omega) ?_) | (with_reducible refine ob_k rfl ?_) | ((with_reducible refine ob_k ?_ ?_); focus kernel_rfl) | (refine yield_i hmix hT rfl hL efr eps eag ebd rfl (by kernel_rfl) ?_) | (apply call_u CT) | (apply call_l (first_ok (l := [_, _]) (Nat.le_of_ble_eq_true rfl)) (.cons (vm_lit _ rfl rfl (.cons (vm_int rfl) (.cons (vm_int rfl) .nil))) .nil)) | (apply call_l (first_ok (l := [_, _, _]) (Nat.le_of_ble_eq_true rfl)) (.cons (vm_lit _ rfl rfl (.cons (vm_int rfl) (.cons (vm_int rfl) (.cons (vm_int rfl) .nil)))) .nil)) | (apply call_l (first_ok (l := [_, _, _, _]) (Nat.le_of_ble_eq_true rfl)) (.cons (vm_lit _ rfl rfl (.cons (vm_int rfl) (.cons (vm_int rfl) (.cons (vm_int rfl) (.cons (vm_int rfl) .nil))))) .nil))) <;> (try (exfalso; omega; done)) <;> (with_reducible conv => whnf))
        refine ⟨j + 1, by omega, by omega, ?_⟩
        refine ⟨[], rfl, ?_, ?_⟩ <;> repeat' (first | exact trivial | exact vm_p | exact vm_ptr rfl rfl rfl | exact vm_yld rfl rfl | exact vm_own rfl rfl rfl rfl | exact vm_own rfl rfl (by omega) (by omega) | exact vm_int (by omega) | exact vm_nil rfl | exact sbm_cells vmL_p | exact sbm_row rfl (fun _ _ => vm_p) | refine ⟨⟨_, rfl, ?_⟩, ?_⟩ | refine ⟨⟨_, _, _, rfl⟩, ?_⟩ | (refine sbm_loop ?_; rw [efr]) | refine sbm_cells ?_ | refine vmL.cons ?_ ?_ | exact vmL.nil | refine vm_own rfl rfl rfl ?_)
        all_goals exact vm_int (nx _).symm
    · obtain rfl : j = (l.getD (toN (i : Int)) f0).sm.length / 4 := by omega
      with_reducible conv => whnf
      repeat' ((first | (with_reducible refine branch_t ?_) | (with_reducible refine branch_f ?_) | (with_reducible refine branch_nt ?_) | (with_reducible refine branch_nf ?_) | (with_reducible refine branch_dec (fun _ => ?_) (fun _ => ?_)) | (with_reducible refine branch_ndec (fun _ => ?_) (fun _ => ?_)) | (with_reducible refine branch_bool (fun _ => ?_) (fun _ => ?_)) | (with_reducible refine arith_64 (by omega) ?_) | (with_reducible refine ob_i (by omega) (fun _ => ?_)) | (with_reducible refine ob_i (by unfold room; omega) (fun _ => ?_)) | (with_reducible refine ob_i (by (try simp only [] at *); (try dsimp only [toN] at *); omega) (fun _ => ?_)) | (with_reducible refine arith_64 (by (try simp only [] at *); (try dsimp only [toN] at *); omega) ?_) | (with_reducible refine ob_k rfl ?_) | ((with_reducible refine ob_k ?_ ?_); focus kernel_rfl) | (refine yield_i hmix hT rfl hL efr eps eag ebd rfl (by kernel_rfl) ?_)  | (apply call_l (first_ok (l := [_, _]) (Nat.le_of_ble_eq_true rfl)) (.cons (vm_lit _ rfl rfl (.cons (vm_int rfl) (.cons (vm_int rfl) .nil))) .nil)) | (apply call_l (first_ok (l := [_, _, _]) (Nat.le_of_ble_eq_true rfl)) (.cons (vm_lit _ rfl rfl (.cons (vm_int rfl) (.cons (vm_int rfl) (.cons (vm_int rfl) .nil)))) .nil)) | (apply call_l (first_ok (l := [_, _, _, _]) (Nat.le_of_ble_eq_true rfl)) (.cons (vm_lit _ rfl rfl (.cons (vm_int rfl) (.cons (vm_int rfl) (.cons (vm_int rfl) (.cons (vm_int rfl) .nil))))) .nil))) <;> (try (exfalso; omega; done)) <;> (with_reducible conv => whnf))
      refine ⟨i + 1, by omega, by omega, ?_⟩
      have z : ∀ n, pwA l i ((l.getD (toN (i : Int)) f0).sm.length / 4) n = pwL l n (i + 1) := fun n => by unfold pwA; rw [pwL, ti]; rfl
      refine ⟨[], rfl, ?_, ?_⟩ <;> repeat' (first | exact trivial | exact vm_p | exact vm_ptr rfl rfl rfl | exact vm_yld rfl rfl | exact vm_own rfl rfl rfl rfl | exact vm_own rfl rfl (by omega) (by omega) | exact vm_int (by omega) | exact vm_nil rfl | exact sbm_cells vmL_p | exact sbm_row rfl (fun _ _ => vm_p) | refine ⟨⟨_, rfl, ?_⟩, ?_⟩ | refine ⟨⟨_, _, _, rfl⟩, ?_⟩ | (refine sbm_loop ?_; rw [efr]) | refine sbm_cells ?_ | refine vmL.cons ?_ ?_ | exact vmL.nil | refine vm_own rfl rfl rfl ?_)
      all_goals exact vm_int (z _)
  · obtain rfl : i = b := by omega
    have ti : toN (i : Int) = i := toN_nat i
    have O := open_bad hs hg he
    rw [← ti] at he O
    have e5 : frE (l.getD i f0) = frE (l.getD (toN (i : Int)) f0) := by rw [ti]
    rw [e5]
    generalize frE (l.getD (toN (i : Int)) f0) = e6 at *
    with_reducible conv => whnf
    repeat' ((first | (with_reducible refine branch_t ?_) | (with_reducible refine branch_f ?_) | (with_reducible refine branch_nt ?_) | (with_reducible refine branch_nf ?_) | (with_reducible refine branch_dec (fun _ => ?_) (fun _ => ?_)) | (with_reducible refine branch_ndec (fun _ => ?_) (fun _ => ?_)) | (with_reducible refine branch_bool (fun _ => ?_) (fun _ => ?_)) | (with_reducible refine arith_64 (by omega) ?_) | (with_reducible refine ob_i (by omega) (fun _ => ?_)) | (with_reducible refine ob_i (by unfold room; omega) (fun _ => ?_)) | (with_reducible refine ob_i (by (try simp only [] at *); (try dsimp only [toN] at *); omega) (fun _ => ?_)) | (with_reducible refine arith_64 (by (try simp only [] at *); (try dsimp only [toN] at *); omega) ?_) | (with_reducible refine ob_k rfl ?_) | ((with_reducible refine ob_k ?_ ?_); focus kernel_rfl) | (refine yield_i hmix hT rfl hL efr eps eag ebd rfl (by kernel_rfl) ?_) | (apply call_u O) | (apply call_l (first_ok (l := [_, _]) (Nat.le_of_ble_eq_true rfl)) (.cons (vm_lit _ rfl rfl (.cons (vm_int rfl) (.cons (vm_int rfl) .nil))) .nil)) | (apply call_l (first_ok (l := [_, _, _]) (Nat.le_of_ble_eq_true rfl)) (.cons (vm_lit _ rfl rfl (.cons (vm_int rfl) (.cons (vm_int rfl) (.cons (vm_int rfl) .nil)))) .nil)) | (apply call_l (first_ok (l := [_, _, _, _]) (Nat.le_of_ble_eq_true rfl)) (.cons (vm_lit _ rfl rfl (.cons (vm_int rfl) (.cons (vm_int rfl) (.cons (vm_int rfl) (.cons (vm_int rfl) .nil))))) .nil))) <;> (try (exfalso; omega; done)) <;> (with_reducible conv => whnf))
    exact ret0 vm_p
theorem powers_pre {l : List Frm} (hl : l.length ≤ 9223372036854775807) (h : l.length = 0 ∨ 4 < l.length) : FnOK Tryd.prog 103 [eFs l] (.tup [.agg z4, I (flsE l)]) [] := by
  have F := first_ok (l := [if decide ((0 : Int) < l.length) = true then 0 else 10, if decide ((l.length : Int) ≤ 4) = true then 0 else 8]) (by simp)
  have e0 : flsE l = if l.length = 0 then 10 else if 4 < l.length then 8 else 0 := by
    unfold flsE
    rcases h with h | h
    · rw [if_pos h, if_pos h]
    · rw [if_neg (by omega), if_pos h, if_neg (by omega), if_pos h]
  have e1 : flsE l ≠ 0 := by
    rw [e0]
    rcases h with h | h
    · rw [if_pos h]; decide
    · rw [if_neg (by omega), if_pos h]; decide
  rw [flsE_first, ← e0] at F
  generalize flsE l = e at *
  refine fn_i hmix hT Tryd.f103 (by kernel_rfl) rfl (by kernel_rfl) ?_
  with_reducible conv => whnf
  repeat' ((first | (with_reducible refine branch_t ?_) | (with_reducible refine branch_f ?_) | (with_reducible refine branch_nt ?_) | (with_reducible refine branch_nf ?_) | (with_reducible refine branch_dec (fun _ => ?_) (fun _ => ?_)) | (with_reducible refine branch_ndec (fun _ => ?_) (fun _ => ?_)) | (with_reducible refine branch_bool (fun _ => ?_) (fun _ => ?_)) | (with_reducible refine arith_64 (by omega) ?_) | (with_reducible refine ob_i (by omega) (fun _ => ?_)) | (with_reducible refine ob_i (by unfold room; omega) (fun _ => ?_)) | (with_reducible refine ob_i (by (try simp only [toN_eq, Int.toNat_natCast] at *); (try dsimp only [toN] at *); omega) (fun _ => ?_)) | (with_reducible refine arith_64 (by (try simp only [toN_eq, Int.toNat_natCast] at *); (try dsimp only [toN] at *); omega) ?_) | (with_reducible refine ob_k rfl ?_) | ((with_reducible refine ob_k ?_ ?_); focus kernel_rfl) | (refine yield_i hmix hT rfl hL efr eps eag ebd rfl (by kernel_rfl) ?_) | (apply call_u unless_ok) | (apply call_l F (.cons (vm_lit _ rfl rfl (.cons (vm_int rfl) (.cons (vm_int rfl) .nil))) .nil)) | (apply call_l (first_ok (l := [_, _]) (Nat.le_of_ble_eq_true rfl)) (.cons (vm_lit _ rfl rfl (.cons (vm_int rfl) (.cons (vm_int rfl) .nil))) .nil)) | (apply call_l (first_ok (l := [_, _, _]) (Nat.le_of_ble_eq_true rfl)) (.cons (vm_lit _ rfl rfl (.cons (vm_int rfl) (.cons (vm_int rfl) (.cons (vm_int rfl) .nil)))) .nil)) | (apply call_l (first_ok (l := [_, _, _, _]) (Nat.le_of_ble_eq_true rfl)) (.cons (vm_lit _ rfl rfl (.cons (vm_int rfl) (.cons (vm_int rfl) (.cons (vm_int rfl) (.cons (vm_int rfl) .nil))))) .nil))) <;> (try (exfalso; omega; done)) <;> (with_reducible conv => whnf))
  exact ret0 vm_p
theorem first_bad {l : List Frm} : ∀ n : Nat, n ≤ l.length → (∀ i, i < n → frE (l.getD i f0) = 0) ∨ ∃ b, b < n ∧ frE (l.getD b f0) ≠ 0 ∧ ∀ i, i < b → frE (l.getD i f0) = 0
  | 0, _ => .inl fun i h => by omega
  | n + 1, hn => by
    rcases first_bad (l := l) n (by omega) with h | ⟨j, h1, h2, h3⟩
    · by_cases e : frE (l.getD n f0) = 0
      · refine .inl fun i hi => ?_
        by_cases q : i = n
        · subst q; exact e
        · exact h i (by omega)
      · exact .inr ⟨n, by omega, e, h⟩
    · exact .inr ⟨j, by omega, h2, h3⟩
/-- What powers are, in all cases. -/
theorem powers_all {l : List Frm} (hl : l.length ≤ 9223372036854775807) (h : ∀ i, i < l.length → (l.getD i f0).sm.length ≤ 9223372036854775807 ∧ (l.getD i f0).gp.length ≤ 9223372036854775807) :
    (flsE l ≠ 0 → FnOK Tryd.prog 103 [eFs l] (.tup [.agg z4, I (flsE l)]) []) ∧ (flsE l = 0 → (0 < l.length ∧ l.length ≤ 4 ∧ ∀ i, i < l.length → frE (l.getD i f0) = 0) ∧ FnOK Tryd.prog 103 [eFs l] (.tup [.agg (o4 fun n => pwL l n l.length), I 0]) []) := by
  by_cases c : l.length = 0 ∨ 4 < l.length
  · have P := powers_pre hl c
    refine ⟨fun _ => P, fun e => ?_⟩
    exfalso
    unfold flsE at e
    rcases c with c | c
    · rw [if_pos c] at e; cases e
    · rw [if_neg (by omega), if_pos c] at e; cases e
  have e0 : flsE l = (findErr frE l 0).2 := by unfold flsE; rw [if_neg (by omega), if_neg (by omega)]
  rcases first_bad (l := l) l.length (Nat.le_refl _) with g | ⟨b, b1, b2, b3⟩
  · have e1 : flsE l = 0 := by rw [e0, findErr_none frE f0 l 0 g]
    refine ⟨fun k => absurd e1 k, fun _ => ⟨⟨by omega, by omega, g⟩, powers_good (by omega) (by omega) fun i hi => ⟨g i hi, (h i hi).2⟩⟩⟩
  · have e1 : flsE l = frE (l.getD b f0) := by rw [e0, findErr_hit frE f0 l b 0 b3 b1 b2]
    rw [e1]
    exact ⟨fun _ => powers_err b1 (by omega) (fun i hi => ⟨b3 i hi, (h i (by omega)).2⟩) (h b b1).1 (h b b1).2 b2, fun k => absurd k b2⟩
end Go.Proofs.YtaejdonacadpkaaDoor
