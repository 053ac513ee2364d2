/-
  Chapter 1: lines are removed, and nothing else: the law (by contract).
  Conditions: none.
-/
import Derived.Test.YtaejdonacadpkaaDoor1M4
import Derived.Test.YtaejdonacadpkaaDoor1R1
import Derived.Test.YtaejdonacadpkaaDoor1Q
namespace Go.Proofs.YtaejdonacadpkaaDoor
open Go.RowKit Fx
theorem powersOf2 {l : List Frm} {o0 o1 o2 o3 e : Int} (P : FnOK Tryd.prog 103 [eFs l] (.tup [.agg [I o0, I o1, I o2, I o3], I e]) []) : FnOK Tryd.prog 49 [eFs l] (.tup [.agg [I o0, I o1, I o2, I o3], I e]) [] := by
  refine fn_i hmix hT Tryd.f49 (by kernel_rfl) rfl (by kernel_rfl) ?_
  with_reducible conv => whnf
  repeat' ((first | (with_reducible refine branch_t ?_) | (with_reducible refine branch_f ?_) | (with_reducible refine branch_nt ?_) | (with_reducible refine branch_nf ?_) | (with_reducible refine branch_dec (fun _ => ?_) (fun _ => ?_)) | (with_reducible refine branch_ndec (fun _ => ?_) (fun _ => ?_)) | (with_reducible refine branch_bool (fun _ => ?_) (fun _ => ?_)) | (with_reducible refine arith_64 (by omega) ?_) | (with_reducible refine ob_i (by omega) (fun _ => ?_)) | (with_reducible refine ob_i (by unfold room; omega) (fun _ => ?_)) | (with_reducible refine ob_i (by (try simp only [toN_eq, Int.toNat_natCast] at *); (try dsimp only [toN] at *); omega) (fun _ => ?_)) | (with_reducible refine arith_64 (by (try simp only [toN_eq, Int.toNat_natCast] at *); (try dsimp only [toN] at *); omega) ?_) | (with_reducible refine ob_k rfl ?_) | ((with_reducible refine ob_k ?_ ?_); focus kernel_rfl) | (refine yield_i hmix hT rfl hL efr eps eag ebd rfl (by kernel_rfl) ?_) | (apply call_u P) | (apply call_l (first_ok (l := [_, _]) (Nat.le_of_ble_eq_true rfl)) (.cons (vm_lit _ rfl rfl (.cons (vm_int rfl) (.cons (vm_int rfl) .nil))) .nil)) | (apply call_l (first_ok (l := [_, _, _]) (Nat.le_of_ble_eq_true rfl)) (.cons (vm_lit _ rfl rfl (.cons (vm_int rfl) (.cons (vm_int rfl) (.cons (vm_int rfl) .nil)))) .nil)) | (apply call_l (first_ok (l := [_, _, _, _]) (Nat.le_of_ble_eq_true rfl)) (.cons (vm_lit _ rfl rfl (.cons (vm_int rfl) (.cons (vm_int rfl) (.cons (vm_int rfl) (.cons (vm_int rfl) .nil))))) .nil))) <;> (try (exfalso; omega; done)) <;> (with_reducible conv => whnf))
  exact ret0 vm_p
theorem pow_one {f : Frm} (he : frE f = 0) (hg : f.gp.length ≤ 9223372036854775807) : FnOK Tryd.prog 49 [eFs [f]] (.tup [.agg [I (pwF f 0), I (pwF f 1), I (pwF f 2), I (pwF f 3)], I 0]) [] := by
  have P := powers_good (l := [f]) (by simp) (by simp) fun i hi => by
    obtain rfl : i = 0 := by simp at hi; omega
    exact ⟨he, hg⟩
  have e : ∀ n, pwL [f] n [f].length = pwF f n := fun n => by
    show 0 + pwF f n = _
    omega
  have Q := powersOf2 P
  simp only [e] at Q
  exact Q
theorem pow_two {f g : Frm} (he : frE f = 0) (hf : f.gp.length ≤ 9223372036854775807) (hge : frE g = 0) (hg : g.gp.length ≤ 9223372036854775807) : FnOK Tryd.prog 49 [eFs [f, g]] (.tup [.agg [I (pwF f 0 + pwF g 0), I (pwF f 1 + pwF g 1), I (pwF f 2 + pwF g 2), I (pwF f 3 + pwF g 3)], I 0]) [] := by
  have P := powers_good (l := [f, g]) (by simp) (by simp) fun i hi => by
    have : i = 0 ∨ i = 1 := by simp at hi; omega
    rcases this with rfl | rfl
    · exact ⟨he, hf⟩
    · exact ⟨hge, hg⟩
  have e : ∀ n, pwL [f, g] n [f, g].length = pwF f n + pwF g n := fun n => by
    show 0 + pwF f n + pwF g n = _
    omega
  have Q := powersOf2 P
  simp only [e] at Q
  exact Q
theorem neqArr {ρ : Env} {o : Oper} {K : V → Prop} {t2 : TypeId} {x y : Operand} {a0 a1 a2 a3 : Int} (ho : o.op = .binOp .neq 83 x y t2) (hx : ρ x = some (.agg [I a0, I a1, I a2, I a3])) (hy : ρ y = some (.agg [I a0, I a1, I a2, I a3])) (hk : K (B false)) : gen Tryd.prog ρ o K :=
  gen_arr true ho hx hy (by simpa using hk)
def alK (f : Frm) (a : Nat) : Nat → Bool
  | 0 => true
  | q + 1 => alK f a q && usB f (a + q)
theorem alK_whole {f : Frm} {a : Nat} (h : a + 4 ≤ f.sm.length) : wholeB f a = alK f a 4 := by
  unfold wholeB allB4
  rw [decide_eq_true h]
  simp [alK]
theorem nrm4_bd {f : Frm} (v : f.Val) (a : Nat) : ∀ q : Nat, 0 ≤ nrm4 f a q ∧ nrm4 f a q ≤ q * 8000000000000
  | 0 => by unfold nrm4; omega
  | q + 1 => by
    have ih := nrm4_bd v a q
    have s := sm_bd v (a + q)
    have a1 := sq_bd s.1
    have a2 := sq_bd s.2
    unfold nrm4 nrm
    omega
theorem enK_bd {f : Frm} (v : f.Val) : ∀ j : Nat, 0 ≤ enK f j ∧ enK f j ≤ j * 32000000000000
  | 0 => by unfold enK; omega
  | j + 1 => by
    have ih := enK_bd v j
    have n := nrm4_bd v (4 * j) 4
    unfold enK
    split <;> omega
theorem lget_o4 {o : Nat → Int} {n : Nat} (h : n < 4) : lget [I (o 0), I (o 1), I (o 2), I (o 3)] (Nat.add 0 (Nat.mul n 1)) = some (I (o n)) := by
  have : n = 0 ∨ n = 1 ∨ n = 2 ∨ n = 3 := by omega
  rcases this with rfl | rfl | rfl | rfl <;> rfl
theorem fit_gp {f : Frm} (v : f.Val) : f.gp.length ≤ f.sm.length := by
  have up : ∀ i : Nat, i < f.gp.length → (i : Int) ≤ f.gp.getD i 0 := fun i => by
    induction i with
    | zero => intro h; have := (v.gp 0 h).1; omega
    | succ i ih =>
      intro h
      have a := ih (by omega)
      have b := v.up (i + 1) (by omega) h
      rw [Nat.add_sub_cancel] at b
      omega
  refine Nat.not_lt.1 fun h => ?_
  have a := up f.sm.length h
  have b := (v.gp f.sm.length h).2
  omega
set_option maxHeartbeats 8000000 in
set_option maxRecDepth 100000 in
theorem removed_good {f g : Frm} {us : List Int} (AW : FnOK Tryd.prog 15 [] (B true) []) (v : f.Val) (w : g.Val) (hf : f.sm.length ≤ 70 ∧ f.gp.length ≤ 70) (hgf : g.sm.length ≤ 70 ∧ g.gp.length ≤ 70) (hl : us.length ≤ 4) (hle : lnsE f us = 0) (hu : ∀ i, i < us.length → leP us i = 0) (h8 : 20 * f.lim ≤ 2000000 ∧ -8 ≤ f.g - 2) : FnOK Tryd.prog 12 [eF f, eF g, eInts us] (B true) [] := by
  have he := val_frm v
  have hg := val_frm w
  have n0 := v.n0
  have n1 := v.n1
  have FF := fewFrame_ok (f := f) (by omega) (by omega)
  rw [decide_eq_true hf] at FF
  have FG := fewFrame_ok (f := g) (by omega) (by omega)
  rw [decide_eq_true hgf] at FG
  have EF := refFrameErr_ok (f := f) (by omega) (by omega)
  rw [he] at EF
  have EG := refFrameErr_ok (f := g) (by omega) (by omega)
  rw [hg] at EG
  have LE := rLinesErr_ok (us := us) v (by omega)
  rw [hle] at LE
  have CF := copyFrame_ok hf.1 hf.2
  have CG := copyFrame_ok hgf.1 hgf.2
  have CI := copyInts_ok (l := us) (by omega)
  have C := cleaned_good (f := f) (by omega) he (us := us) (by omega) hu h8.1 h8.2
  have xv := clF_val v hl h8.1 h8.2
  have xn := clF_n f us
  have xg := fit_gp xv
  have xe := val_frm xv
  have CX := copyFrame_ok (f := clF f us) (by omega) (by omega)
  have EX := refFrameErr_ok (f := clF f us) (by omega) (by omega)
  rw [xe] at EX
  have P2 := pow_two he (by omega) hg (by omega)
  have P3 := pow_two hg (by omega) he (by omega)
  rw [Int.add_comm (pwF g 0), Int.add_comm (pwF g 1), Int.add_comm (pwF g 2), Int.add_comm (pwF g 3)] at P3
  have P1 := pow_one he (by omega)
  have PX := pow_one xe (by omega)
  have UF := usableIn_good (f := f) (by omega) he
  have UX := usableIn_good (f := clF f us) (by omega) xe
  rw [xn, idxK_congr (q := fun i => decide (usB f i = true)) f.sm.length (fun i hi => by rw [clF_us v hl hi])] at UX
  have il := idxK_len (fun i => decide (usB f i = true)) f.sm.length
  have IN := ints_ok (l := idxK (fun i => decide (usB f i = true)) f.sm.length) (by omega)
  have en := energy f (f.sm.length / 4)
  have pf : ∀ n : Nat, n < 4 → pwF (clF f us) n = if decide ((n : Int) ∈ us) = true then 0 else 16 * pwF f n := fun n hn => by rw [cl_pwF v hl hu hn, hasK_mem]
  have ob : ∀ n, 0 ≤ pwF f n ∧ pwF f n ≤ 2048000000000000 := fun n => pwF_bd v n
  change pwF f 0 + pwF f 1 + pwF f 2 + pwF f 3 = _ at en
  generalize pwF (clF f us) = p at *
  generalize pwF f = o at *
  generalize clF f us = x at *
  generalize idxK (fun i => decide (usB f i = true)) f.sm.length = ix at *
  generalize o 0 + pwF g 0 = a0 at *
  generalize o 1 + pwF g 1 = a1 at *
  generalize o 2 + pwF g 2 = a2 at *
  generalize o 3 + pwF g 3 = a3 at *
  refine fn_i hmix hT Tryd.f12 (by kernel_rfl) rfl (by kernel_rfl) ?_
  with_reducible conv => whnf
  repeat' ((first | (with_reducible refine branch_t ?_) | (with_reducible refine branch_f ?_) | (with_reducible refine branch_nt ?_) | (with_reducible refine branch_nf ?_) | (with_reducible refine branch_dec (fun _ => ?_) (fun _ => ?_)) | (with_reducible refine branch_ndec (fun _ => ?_) (fun _ => ?_)) | (with_reducible refine branch_bool (fun _ => ?_) (fun _ => ?_)) | (with_reducible refine arith_64 (by omega) ?_) | (with_reducible refine ob_i (by omega) (fun _ => ?_)) | (with_reducible refine ob_i (by unfold room; omega) (fun _ => ?_)) | (with_reducible refine ob_i (by (try simp only [] at *); (try dsimp only [toN] at *); omega) (fun _ => ?_)) | (with_reducible refine arith_64 (by (try simp only [toN_eq, Int.toNat_natCast] at *); (try dsimp only [toN] at *); omega) ?_) | (with_reducible refine ob_k rfl ?_) | ((with_reducible refine ob_k ?_ ?_); focus kernel_rfl) | (refine yield_i hmix hT rfl hL efr eps eag ebd rfl (by kernel_rfl) ?_) | (apply call_u AW) | (apply call_u FF) | (apply call_u FG) | (apply call_u EF) | (apply call_u EG) | (apply call_u LE) | (apply call_u CF) | (apply call_u CG) | (apply call_u CI) | (apply call_u C) | (apply call_u CX) | (apply call_u EX) | (apply call_l P2 (.cons (vm_lit [f, g] rfl rfl (.cons vm_p (.cons vm_p .nil))) .nil)) | (apply call_l P3 (.cons (vm_lit [g, f] rfl rfl (.cons vm_p (.cons vm_p .nil))) .nil)) | (apply call_l P1 (.cons (vm_lit [f] rfl rfl (.cons vm_p .nil)) .nil)) | (apply call_l PX (.cons (vm_lit [x] rfl rfl (.cons vm_p .nil)) .nil)) | (apply call_u UF) | (apply call_u UX) | (apply call_u IN) | (refine neqArr rfl rfl rfl ?_) | (apply call_l (first_ok (l := [_, _]) (Nat.le_of_ble_eq_true rfl)) (.cons (vm_lit _ rfl rfl (.cons (vm_int rfl) (.cons (vm_int rfl) .nil))) .nil)) | (apply call_l (first_ok (l := [_, _, _]) (Nat.le_of_ble_eq_true rfl)) (.cons (vm_lit _ rfl rfl (.cons (vm_int rfl) (.cons (vm_int rfl) (.cons (vm_int rfl) .nil)))) .nil)) | (apply call_l (first_ok (l := [_, _, _, _]) (Nat.le_of_ble_eq_true rfl)) (.cons (vm_lit _ rfl rfl (.cons (vm_int rfl) (.cons (vm_int rfl) (.cons (vm_int rfl) (.cons (vm_int rfl) .nil))))) .nil))) <;> (try (exfalso; omega; done)) <;> (with_reducible conv => whnf))
  refine loop_i hmix hT (fun j : Nat => ([(2, eInts us), (3, .ptr 0 0), (11, .ptr 7 0), (19, .ptr 10 0), (21, I (enK f j)), (22, I (4 * j : Nat))], ⟨11, [(10, .cells [I (p 0), I (p 1), I (p 2), I (p 3)] 83), (7, .cells [I (o 0), I (o 1), I (o 2), I (o 3)] 83), (0, .cells [I f.g, I f.lim, ePs f.sm, eInts f.gp] 25)]⟩)) (fun j => j ≤ f.sm.length / 4) (fun j => f.sm.length / 4 - j) (0 : Nat) (by omega) ?_ ?_
  · refine ⟨[], rfl, ?_, ?_⟩ <;> repeat' (first | exact trivial | exact vm_p | exact vm_ptr rfl rfl rfl | exact vm_yld rfl rfl | exact vm_own rfl rfl rfl rfl | exact vm_own rfl rfl (by omega) (by omega) | exact vm_int (by omega) | exact vm_nil rfl | exact sbm_cells vmL_p | exact sbm_row rfl (fun _ _ => vm_p) | refine ⟨⟨_, rfl, ?_⟩, ?_⟩ | refine ⟨⟨_, _, _, rfl⟩, ?_⟩ | (refine sbm_loop ?_; rw [efr]) | refine sbm_cells ?_ | refine vmL.cons ?_ ?_ | exact vmL.nil | refine vm_own rfl rfl rfl ?_)
  intro j hj
  have eb := enK_bd v j
  by_cases c : j < f.sm.length / 4
  · with_reducible conv => whnf
    repeat' ((first | (with_reducible refine branch_t ?_) | (with_reducible refine branch_f ?_) | (with_reducible refine branch_nt ?_) | (with_reducible refine branch_nf ?_) | (with_reducible refine branch_dec (fun _ => ?_) (fun _ => ?_)) | (with_reducible refine branch_ndec (fun _ => ?_) (fun _ => ?_)) | (with_reducible refine branch_bool (fun _ => ?_) (fun _ => ?_)) | (with_reducible refine arith_64 (by omega) ?_) | (with_reducible refine ob_i (by omega) (fun _ => ?_)) | (with_reducible refine ob_i (by unfold room; omega) (fun _ => ?_)) | (with_reducible refine ob_i (by (try simp only [toN_eq, Int.toNat_natCast] at *); (try dsimp only [toN] at *); omega) (fun _ => ?_)) | (with_reducible refine arith_64 (by (try simp only [toN_eq, Int.toNat_natCast] at *); (try dsimp only [toN] at *); omega) ?_) | (with_reducible refine ob_k rfl ?_) | ((with_reducible refine ob_k ?_ ?_); focus kernel_rfl) | (refine yield_i hmix hT rfl hL efr eps eag ebd rfl (by kernel_rfl) ?_)  | (apply call_l (first_ok (l := [_, _]) (Nat.le_of_ble_eq_true rfl)) (.cons (vm_lit _ rfl rfl (.cons (vm_int rfl) (.cons (vm_int rfl) .nil))) .nil)) | (apply call_l (first_ok (l := [_, _, _]) (Nat.le_of_ble_eq_true rfl)) (.cons (vm_lit _ rfl rfl (.cons (vm_int rfl) (.cons (vm_int rfl) (.cons (vm_int rfl) .nil)))) .nil)) | (apply call_l (first_ok (l := [_, _, _, _]) (Nat.le_of_ble_eq_true rfl)) (.cons (vm_lit _ rfl rfl (.cons (vm_int rfl) (.cons (vm_int rfl) (.cons (vm_int rfl) (.cons (vm_int rfl) .nil))))) .nil))) <;> (try (exfalso; omega; done)) <;> (with_reducible conv => whnf))
    refine loop_i hmix hT (fun q : Nat => ([(2, eInts us), (3, .ptr 0 0), (11, .ptr 7 0), (19, .ptr 10 0), (21, I (enK f j)), (22, I (4 * j : Nat)), (23, I (nrm4 f (4 * j) q)), (24, B (alK f (4 * j) q)), (25, I q)], ⟨11, [(10, .cells [I (p 0), I (p 1), I (p 2), I (p 3)] 83), (7, .cells [I (o 0), I (o 1), I (o 2), I (o 3)] 83), (0, .cells [I f.g, I f.lim, ePs f.sm, eInts f.gp] 25)]⟩)) (fun q => q ≤ 4) (fun q => 4 - q) (0 : Nat) (by omega) ?_ ?_
    · refine ⟨[], rfl, ?_, ?_⟩ <;> repeat' (first | exact trivial | exact vm_p | exact vm_ptr rfl rfl rfl | exact vm_yld rfl rfl | exact vm_own rfl rfl rfl rfl | exact vm_own rfl rfl (by omega) (by omega) | exact vm_int (by omega) | exact vm_nil rfl | exact sbm_cells vmL_p | exact sbm_row rfl (fun _ _ => vm_p) | refine ⟨⟨_, rfl, ?_⟩, ?_⟩ | refine ⟨⟨_, _, _, rfl⟩, ?_⟩ | (refine sbm_loop ?_; rw [efr]) | refine sbm_cells ?_ | refine vmL.cons ?_ ?_ | exact vmL.nil | refine vm_own rfl rfl rfl ?_)
    intro q hq
    have nb := nrm4_bd v (4 * j) q
    by_cases c2 : q < 4
    · have tq : toN (((4 * j : Nat) : Int) + (q : Int)) = 4 * j + q := by rw [toN_eq]; omega
      have U : FnOK Tryd.prog 73 [eF f, I (((4 * j : Nat) : Int) + (q : Int))] (B (usB f (4 * j + q))) [] := by
        rw [← Int.natCast_add]; exact usable_ok v (by omega) (by omega)
      have s := sm_bd v (toN (((4 * j : Nat) : Int) + (q : Int)))
      have G := gNorm_ok (p := f.sm.getD (toN (((4 * j : Nat) : Int) + (q : Int))) (0, 0)) (by have a1 := sq_bd s.1; have a2 := sq_bd s.2; omega)
      have nb2 := nrm4_bd v (4 * j) (q + 1)
      have nx : nrm4 f (4 * j) (q + 1) = nrm4 f (4 * j) q + nrm (f.sm.getD (toN (((4 * j : Nat) : Int) + (q : Int))) (0, 0)) := by rw [tq]; rfl
      rw [nx] at nb2
      cases e : alK f (4 * j) q with
      | true =>
        have ax : alK f (4 * j) (q + 1) = usB f (4 * j + q) := by show (alK f (4 * j) q && _) = _; rw [e]; rfl
        with_reducible conv => whnf
        repeat' ((first | (with_reducible refine branch_t ?_) | (with_reducible refine branch_f ?_) | (with_reducible refine branch_nt ?_) | (with_reducible refine branch_nf ?_) | (with_reducible refine branch_dec (fun _ => ?_) (fun _ => ?_)) | (with_reducible refine branch_ndec (fun _ => ?_) (fun _ => ?_)) | (with_reducible refine branch_bool (fun _ => ?_) (fun _ => ?_)) | (with_reducible refine arith_64 (by omega) ?_) | (with_reducible refine ob_i (by omega) (fun _ => ?_)) | (with_reducible refine ob_i (by unfold room; omega) (fun _ => ?_)) | (with_reducible refine ob_i (by (try simp only [toN_eq] at *); (try dsimp only [toN] at *); omega) (fun _ => ?_)) | (with_reducible refine arith_64 (by (try simp only [toN_eq] at *); (try dsimp only [toN] at *); omega) ?_) | (with_reducible refine ob_k rfl ?_) | ((with_reducible refine ob_k ?_ ?_); focus kernel_rfl) | (refine yield_i hmix hT rfl hL efr eps eag ebd rfl (by kernel_rfl) ?_) | (apply call_u U) | (apply call_u G) | (apply call_l (first_ok (l := [_, _]) (Nat.le_of_ble_eq_true rfl)) (.cons (vm_lit _ rfl rfl (.cons (vm_int rfl) (.cons (vm_int rfl) .nil))) .nil)) | (apply call_l (first_ok (l := [_, _, _]) (Nat.le_of_ble_eq_true rfl)) (.cons (vm_lit _ rfl rfl (.cons (vm_int rfl) (.cons (vm_int rfl) (.cons (vm_int rfl) .nil)))) .nil)) | (apply call_l (first_ok (l := [_, _, _, _]) (Nat.le_of_ble_eq_true rfl)) (.cons (vm_lit _ rfl rfl (.cons (vm_int rfl) (.cons (vm_int rfl) (.cons (vm_int rfl) (.cons (vm_int rfl) .nil))))) .nil))) <;> (try (exfalso; omega; done)) <;> (with_reducible conv => whnf))
        all_goals refine ⟨q + 1, by omega, by omega, ?_⟩
        all_goals rw [nx, ax]
        all_goals refine ⟨[], rfl, ?_, ?_⟩ <;> repeat' (first | exact trivial | exact vm_p | exact vm_ptr rfl rfl rfl | exact vm_yld rfl rfl | exact vm_own rfl rfl rfl rfl | exact vm_own rfl rfl (by omega) (by omega) | exact vm_int (by omega) | exact vm_nil rfl | exact sbm_cells vmL_p | exact sbm_row rfl (fun _ _ => vm_p) | refine ⟨⟨_, rfl, ?_⟩, ?_⟩ | refine ⟨⟨_, _, _, rfl⟩, ?_⟩ | (refine sbm_loop ?_; rw [efr]) | refine sbm_cells ?_ | refine vmL.cons ?_ ?_ | exact vmL.nil | refine vm_own rfl rfl rfl ?_)
      | false =>
        have ax : alK f (4 * j) (q + 1) = false := by show (alK f (4 * j) q && _) = _; rw [e]; rfl
        with_reducible conv => whnf
        repeat' ((first | (with_reducible refine branch_t ?_) | (with_reducible refine branch_f ?_) | (with_reducible refine branch_nt ?_) | (with_reducible refine branch_nf ?_) | (with_reducible refine branch_dec (fun _ => ?_) (fun _ => ?_)) | (with_reducible refine branch_ndec (fun _ => ?_) (fun _ => ?_)) | (with_reducible refine branch_bool (fun _ => ?_) (fun _ => ?_)) | (with_reducible refine arith_64 (by omega) ?_) | (with_reducible refine ob_i (by omega) (fun _ => ?_)) | (with_reducible refine ob_i (by unfold room; omega) (fun _ => ?_)) | (with_reducible refine ob_i (by (try simp only [toN_eq] at *); (try dsimp only [toN] at *); omega) (fun _ => ?_)) | (with_reducible refine arith_64 (by (try simp only [toN_eq] at *); (try dsimp only [toN] at *); omega) ?_) | (with_reducible refine ob_k rfl ?_) | ((with_reducible refine ob_k ?_ ?_); focus kernel_rfl) | (refine yield_i hmix hT rfl hL efr eps eag ebd rfl (by kernel_rfl) ?_) | (apply call_u U) | (apply call_u G) | (apply call_l (first_ok (l := [_, _]) (Nat.le_of_ble_eq_true rfl)) (.cons (vm_lit _ rfl rfl (.cons (vm_int rfl) (.cons (vm_int rfl) .nil))) .nil)) | (apply call_l (first_ok (l := [_, _, _]) (Nat.le_of_ble_eq_true rfl)) (.cons (vm_lit _ rfl rfl (.cons (vm_int rfl) (.cons (vm_int rfl) (.cons (vm_int rfl) .nil)))) .nil)) | (apply call_l (first_ok (l := [_, _, _, _]) (Nat.le_of_ble_eq_true rfl)) (.cons (vm_lit _ rfl rfl (.cons (vm_int rfl) (.cons (vm_int rfl) (.cons (vm_int rfl) (.cons (vm_int rfl) .nil))))) .nil))) <;> (try (exfalso; omega; done)) <;> (with_reducible conv => whnf))
        all_goals refine ⟨q + 1, by omega, by omega, ?_⟩
        all_goals rw [nx, ax]
        all_goals refine ⟨[], rfl, ?_, ?_⟩ <;> repeat' (first | exact trivial | exact vm_p | exact vm_ptr rfl rfl rfl | exact vm_yld rfl rfl | exact vm_own rfl rfl rfl rfl | exact vm_own rfl rfl (by omega) (by omega) | exact vm_int (by omega) | exact vm_nil rfl | exact sbm_cells vmL_p | exact sbm_row rfl (fun _ _ => vm_p) | refine ⟨⟨_, rfl, ?_⟩, ?_⟩ | refine ⟨⟨_, _, _, rfl⟩, ?_⟩ | (refine sbm_loop ?_; rw [efr]) | refine sbm_cells ?_ | refine vmL.cons ?_ ?_ | exact vmL.nil | refine vm_own rfl rfl rfl ?_)
    · obtain rfl : q = 4 := by omega
      have aw := alK_whole (f := f) (a := 4 * j) (by omega)
      cases e : alK f (4 * j) 4 with
      | true =>
        have nx : enK f (j + 1) = enK f j + nrm4 f (4 * j) 4 := if_pos (by rw [aw]; exact e)
        with_reducible conv => whnf
        repeat' ((first | (with_reducible refine branch_t ?_) | (with_reducible refine branch_f ?_) | (with_reducible refine branch_nt ?_) | (with_reducible refine branch_nf ?_) | (with_reducible refine branch_dec (fun _ => ?_) (fun _ => ?_)) | (with_reducible refine branch_ndec (fun _ => ?_) (fun _ => ?_)) | (with_reducible refine branch_bool (fun _ => ?_) (fun _ => ?_)) | (with_reducible refine arith_64 (by omega) ?_) | (with_reducible refine ob_i (by omega) (fun _ => ?_)) | (with_reducible refine ob_i (by unfold room; omega) (fun _ => ?_)) | (with_reducible refine ob_i (by (try simp only [toN_eq, Int.toNat_natCast] at *); (try dsimp only [toN] at *); omega) (fun _ => ?_)) | (with_reducible refine arith_64 (by (try simp only [toN_eq, Int.toNat_natCast] at *); (try dsimp only [toN] at *); omega) ?_) | (with_reducible refine ob_k rfl ?_) | ((with_reducible refine ob_k ?_ ?_); focus kernel_rfl) | (refine yield_i hmix hT rfl hL efr eps eag ebd rfl (by kernel_rfl) ?_)  | (apply call_l (first_ok (l := [_, _]) (Nat.le_of_ble_eq_true rfl)) (.cons (vm_lit _ rfl rfl (.cons (vm_int rfl) (.cons (vm_int rfl) .nil))) .nil)) | (apply call_l (first_ok (l := [_, _, _]) (Nat.le_of_ble_eq_true rfl)) (.cons (vm_lit _ rfl rfl (.cons (vm_int rfl) (.cons (vm_int rfl) (.cons (vm_int rfl) .nil)))) .nil)) | (apply call_l (first_ok (l := [_, _, _, _]) (Nat.le_of_ble_eq_true rfl)) (.cons (vm_lit _ rfl rfl (.cons (vm_int rfl) (.cons (vm_int rfl) (.cons (vm_int rfl) (.cons (vm_int rfl) .nil))))) .nil))) <;> (try (exfalso; omega; done)) <;> (with_reducible conv => whnf))
        refine ⟨j + 1, by omega, by omega, ?_⟩
        rw [nx]
        refine ⟨[], rfl, ?_, ?_⟩ <;> repeat' (first | exact trivial | exact vm_p | exact vm_ptr rfl rfl rfl | exact vm_yld rfl rfl | exact vm_own rfl rfl rfl rfl | exact vm_own rfl rfl (by omega) (by omega) | exact vm_int (by omega) | exact vm_nil rfl | exact sbm_cells vmL_p | exact sbm_row rfl (fun _ _ => vm_p) | refine ⟨⟨_, rfl, ?_⟩, ?_⟩ | refine ⟨⟨_, _, _, rfl⟩, ?_⟩ | (refine sbm_loop ?_; rw [efr]) | refine sbm_cells ?_ | refine vmL.cons ?_ ?_ | exact vmL.nil | refine vm_own rfl rfl rfl ?_)
      | false =>
        have nx : enK f (j + 1) = enK f j := if_neg (by rw [aw, e]; simp)
        with_reducible conv => whnf
        repeat' ((first | (with_reducible refine branch_t ?_) | (with_reducible refine branch_f ?_) | (with_reducible refine branch_nt ?_) | (with_reducible refine branch_nf ?_) | (with_reducible refine branch_dec (fun _ => ?_) (fun _ => ?_)) | (with_reducible refine branch_ndec (fun _ => ?_) (fun _ => ?_)) | (with_reducible refine branch_bool (fun _ => ?_) (fun _ => ?_)) | (with_reducible refine arith_64 (by omega) ?_) | (with_reducible refine ob_i (by omega) (fun _ => ?_)) | (with_reducible refine ob_i (by unfold room; omega) (fun _ => ?_)) | (with_reducible refine ob_i (by (try simp only [toN_eq, Int.toNat_natCast] at *); (try dsimp only [toN] at *); omega) (fun _ => ?_)) | (with_reducible refine arith_64 (by (try simp only [toN_eq, Int.toNat_natCast] at *); (try dsimp only [toN] at *); omega) ?_) | (with_reducible refine ob_k rfl ?_) | ((with_reducible refine ob_k ?_ ?_); focus kernel_rfl) | (refine yield_i hmix hT rfl hL efr eps eag ebd rfl (by kernel_rfl) ?_)  | (apply call_l (first_ok (l := [_, _]) (Nat.le_of_ble_eq_true rfl)) (.cons (vm_lit _ rfl rfl (.cons (vm_int rfl) (.cons (vm_int rfl) .nil))) .nil)) | (apply call_l (first_ok (l := [_, _, _]) (Nat.le_of_ble_eq_true rfl)) (.cons (vm_lit _ rfl rfl (.cons (vm_int rfl) (.cons (vm_int rfl) (.cons (vm_int rfl) .nil)))) .nil)) | (apply call_l (first_ok (l := [_, _, _, _]) (Nat.le_of_ble_eq_true rfl)) (.cons (vm_lit _ rfl rfl (.cons (vm_int rfl) (.cons (vm_int rfl) (.cons (vm_int rfl) (.cons (vm_int rfl) .nil))))) .nil))) <;> (try (exfalso; omega; done)) <;> (with_reducible conv => whnf))
        refine ⟨j + 1, by omega, by omega, ?_⟩
        rw [nx]
        refine ⟨[], rfl, ?_, ?_⟩ <;> repeat' (first | exact trivial | exact vm_p | exact vm_ptr rfl rfl rfl | exact vm_yld rfl rfl | exact vm_own rfl rfl rfl rfl | exact vm_own rfl rfl (by omega) (by omega) | exact vm_int (by omega) | exact vm_nil rfl | exact sbm_cells vmL_p | exact sbm_row rfl (fun _ _ => vm_p) | refine ⟨⟨_, rfl, ?_⟩, ?_⟩ | refine ⟨⟨_, _, _, rfl⟩, ?_⟩ | (refine sbm_loop ?_; rw [efr]) | refine sbm_cells ?_ | refine vmL.cons ?_ ?_ | exact vmL.nil | refine vm_own rfl rfl rfl ?_)
  · obtain rfl : j = f.sm.length / 4 := by omega
    have o0 := ob 0
    have o1 := ob 1
    have o2 := ob 2
    have o3 := ob 3
    with_reducible conv => whnf
    repeat' ((first | (with_reducible refine branch_t ?_) | (with_reducible refine branch_f ?_) | (with_reducible refine branch_nt ?_) | (with_reducible refine branch_nf ?_) | (with_reducible refine branch_dec (fun _ => ?_) (fun _ => ?_)) | (with_reducible refine branch_ndec (fun _ => ?_) (fun _ => ?_)) | (with_reducible refine branch_bool (fun _ => ?_) (fun _ => ?_)) | (with_reducible refine arith_64 (by omega) ?_) | (with_reducible refine ob_i (by omega) (fun _ => ?_)) | (with_reducible refine ob_i (by unfold room; omega) (fun _ => ?_)) | (with_reducible refine ob_i (by (try simp only [toN_eq, Int.toNat_natCast] at *); (try dsimp only [toN] at *); omega) (fun _ => ?_)) | (with_reducible refine arith_64 (by (try simp only [toN_eq, Int.toNat_natCast] at *); (try dsimp only [toN] at *); omega) ?_) | (with_reducible refine ob_k rfl ?_) | ((with_reducible refine ob_k ?_ ?_); focus kernel_rfl) | (refine yield_i hmix hT rfl hL efr eps eag ebd rfl (by kernel_rfl) ?_)  | (apply call_l (first_ok (l := [_, _]) (Nat.le_of_ble_eq_true rfl)) (.cons (vm_lit _ rfl rfl (.cons (vm_int rfl) (.cons (vm_int rfl) .nil))) .nil)) | (apply call_l (first_ok (l := [_, _, _]) (Nat.le_of_ble_eq_true rfl)) (.cons (vm_lit _ rfl rfl (.cons (vm_int rfl) (.cons (vm_int rfl) (.cons (vm_int rfl) .nil)))) .nil)) | (apply call_l (first_ok (l := [_, _, _, _]) (Nat.le_of_ble_eq_true rfl)) (.cons (vm_lit _ rfl rfl (.cons (vm_int rfl) (.cons (vm_int rfl) (.cons (vm_int rfl) (.cons (vm_int rfl) .nil))))) .nil))) <;> (try (exfalso; omega; done)) <;> (with_reducible conv => whnf))
    refine loop_i hmix hT (fun s : Nat => ([(2, eInts us), (11, .ptr 7 0), (19, .ptr 10 0), (26, I s)], ⟨11, [(10, .cells [I (p 0), I (p 1), I (p 2), I (p 3)] 83), (7, .cells [I (o 0), I (o 1), I (o 2), I (o 3)] 83), (0, .cells [I f.g, I f.lim, ePs f.sm, eInts f.gp] 25)]⟩)) (fun s => s ≤ 4) (fun s => 4 - s) (0 : Nat) (by omega) ?_ ?_
    · refine ⟨[], rfl, ?_, ?_⟩ <;> repeat' (first | exact trivial | exact vm_p | exact vm_ptr rfl rfl rfl | exact vm_yld rfl rfl | exact vm_own rfl rfl rfl rfl | exact vm_own rfl rfl (by omega) (by omega) | exact vm_int (by omega) | exact vm_nil rfl | exact sbm_cells vmL_p | exact sbm_row rfl (fun _ _ => vm_p) | refine ⟨⟨_, rfl, ?_⟩, ?_⟩ | refine ⟨⟨_, _, _, rfl⟩, ?_⟩ | (refine sbm_loop ?_; rw [efr]) | refine sbm_cells ?_ | refine vmL.cons ?_ ?_ | exact vmL.nil | refine vm_own rfl rfl rfl ?_)
    intro s hs
    by_cases c2 : s < 4
    · have ts : toN (s : Int) = s := toN_nat s
      have lo : lget [I (o 0), I (o 1), I (o 2), I (o 3)] (Nat.add 0 (Nat.mul (toN (s : Int)) 1)) = some (I (o (toN (s : Int)))) := lget_o4 (by rw [ts]; exact c2)
      have lp : lget [I (p 0), I (p 1), I (p 2), I (p 3)] (Nat.add 0 (Nat.mul (toN (s : Int)) 1)) = some (I (p (toN (s : Int)))) := lget_o4 (by rw [ts]; exact c2)
      have HA := has_ok (l := us) (n := (s : Int)) (by omega)
      have fp := pf s c2
      have os := ob (toN (s : Int))
      rw [← ts] at fp
      generalize hP : p (toN (s : Int)) = ps at *
      generalize hO : o (toN (s : Int)) = oo at *
      cases e : decide ((s : Int) ∈ us) with
      | true =>
        rw [e] at HA
        rw [ts, e, if_pos rfl] at fp
        with_reducible conv => whnf
        repeat' ((first | (with_reducible refine ob_force (by omega) ?_) | (with_reducible refine arith_l 0 (by decide) (by decide) ?_) | (with_reducible refine arith_l 1 (by decide) (by decide) ?_) | (with_reducible refine arith_l 2 (by decide) (by decide) ?_) | (with_reducible refine arith_l 3 (by decide) (by decide) ?_) | (with_reducible refine arith_l 4 (by decide) (by decide) ?_) | (with_reducible refine branch_t ?_) | (with_reducible refine branch_f ?_) | (with_reducible refine branch_nt ?_) | (with_reducible refine branch_nf ?_) | (with_reducible refine branch_dec (fun _ => ?_) (fun _ => ?_)) | (with_reducible refine branch_ndec (fun _ => ?_) (fun _ => ?_)) | (with_reducible refine branch_bool (fun _ => ?_) (fun _ => ?_)) | (with_reducible refine arith_64 (by omega) ?_) | (with_reducible refine ob_i (by omega) (fun _ => ?_)) | (with_reducible refine ob_k rfl ?_) | ((with_reducible refine ob_k ?_ ?_); focus kernel_rfl) | (refine lget_m lo ?_) | (refine lget_m lp ?_) | (apply call_u HA)) <;> (try (exfalso; omega; done)) <;> (with_reducible conv => whnf))
        refine ⟨s + 1, by omega, by omega, ?_⟩
        refine ⟨[], rfl, ?_, ?_⟩ <;> repeat' (first | exact trivial | exact vm_p | exact vm_ptr rfl rfl rfl | exact vm_yld rfl rfl | exact vm_own rfl rfl rfl rfl | exact vm_own rfl rfl (by omega) (by omega) | exact vm_int (by omega) | exact vm_nil rfl | exact sbm_cells vmL_p | exact sbm_row rfl (fun _ _ => vm_p) | refine ⟨⟨_, rfl, ?_⟩, ?_⟩ | refine ⟨⟨_, _, _, rfl⟩, ?_⟩ | (refine sbm_loop ?_; rw [efr]) | refine sbm_cells ?_ | refine vmL.cons ?_ ?_ | exact vmL.nil | refine vm_own rfl rfl rfl ?_)
      | false =>
        rw [e] at HA
        rw [ts, e, if_neg (by simp)] at fp
        with_reducible conv => whnf
        repeat' ((first | (with_reducible refine ob_force (by omega) ?_) | (with_reducible refine arith_l 0 (by decide) (by decide) ?_) | (with_reducible refine arith_l 1 (by decide) (by decide) ?_) | (with_reducible refine arith_l 2 (by decide) (by decide) ?_) | (with_reducible refine arith_l 3 (by decide) (by decide) ?_) | (with_reducible refine arith_l 4 (by decide) (by decide) ?_) | (with_reducible refine branch_t ?_) | (with_reducible refine branch_f ?_) | (with_reducible refine branch_nt ?_) | (with_reducible refine branch_nf ?_) | (with_reducible refine branch_dec (fun _ => ?_) (fun _ => ?_)) | (with_reducible refine branch_ndec (fun _ => ?_) (fun _ => ?_)) | (with_reducible refine branch_bool (fun _ => ?_) (fun _ => ?_)) | (with_reducible refine arith_64 (by omega) ?_) | (with_reducible refine ob_i (by omega) (fun _ => ?_)) | (with_reducible refine ob_k rfl ?_) | ((with_reducible refine ob_k ?_ ?_); focus kernel_rfl) | (refine lget_m lo ?_) | (refine lget_m lp ?_) | (apply call_u HA)) <;> (try (exfalso; omega; done)) <;> (with_reducible conv => whnf))
        refine ⟨s + 1, by omega, by omega, ?_⟩
        refine ⟨[], rfl, ?_, ?_⟩ <;> repeat' (first | exact trivial | exact vm_p | exact vm_ptr rfl rfl rfl | exact vm_yld rfl rfl | exact vm_own rfl rfl rfl rfl | exact vm_own rfl rfl (by omega) (by omega) | exact vm_int (by omega) | exact vm_nil rfl | exact sbm_cells vmL_p | exact sbm_row rfl (fun _ _ => vm_p) | refine ⟨⟨_, rfl, ?_⟩, ?_⟩ | refine ⟨⟨_, _, _, rfl⟩, ?_⟩ | (refine sbm_loop ?_; rw [efr]) | refine sbm_cells ?_ | refine vmL.cons ?_ ?_ | exact vmL.nil | refine vm_own rfl rfl rfl ?_)
    · obtain rfl : s = 4 := by omega
      with_reducible conv => whnf
      repeat' ((first | (with_reducible refine branch_t ?_) | (with_reducible refine branch_f ?_) | (with_reducible refine branch_nt ?_) | (with_reducible refine branch_nf ?_) | (with_reducible refine branch_dec (fun _ => ?_) (fun _ => ?_)) | (with_reducible refine branch_ndec (fun _ => ?_) (fun _ => ?_)) | (with_reducible refine branch_bool (fun _ => ?_) (fun _ => ?_)) | (with_reducible refine arith_64 (by omega) ?_) | (with_reducible refine ob_i (by omega) (fun _ => ?_)) | (with_reducible refine ob_i (by unfold room; omega) (fun _ => ?_)) | (with_reducible refine ob_i (by (try simp only [toN_eq, Int.toNat_natCast] at *); (try dsimp only [toN] at *); omega) (fun _ => ?_)) | (with_reducible refine arith_64 (by (try simp only [toN_eq, Int.toNat_natCast] at *); (try dsimp only [toN] at *); omega) ?_) | (with_reducible refine ob_k rfl ?_) | ((with_reducible refine ob_k ?_ ?_); focus kernel_rfl) | (refine yield_i hmix hT rfl hL efr eps eag ebd rfl (by kernel_rfl) ?_)  | (apply call_l (first_ok (l := [_, _]) (Nat.le_of_ble_eq_true rfl)) (.cons (vm_lit _ rfl rfl (.cons (vm_int rfl) (.cons (vm_int rfl) .nil))) .nil)) | (apply call_l (first_ok (l := [_, _, _]) (Nat.le_of_ble_eq_true rfl)) (.cons (vm_lit _ rfl rfl (.cons (vm_int rfl) (.cons (vm_int rfl) (.cons (vm_int rfl) .nil)))) .nil)) | (apply call_l (first_ok (l := [_, _, _, _]) (Nat.le_of_ble_eq_true rfl)) (.cons (vm_lit _ rfl rfl (.cons (vm_int rfl) (.cons (vm_int rfl) (.cons (vm_int rfl) (.cons (vm_int rfl) .nil))))) .nil))) <;> (try (exfalso; omega; done)) <;> (with_reducible conv => whnf))
      exact ret0 vm_p
set_option maxHeartbeats 4000000 in
set_option maxRecDepth 100000 in
theorem codeRemoved_ok {f g : Frm} {us : List Int} (AW : FnOK Tryd.prog 15 [] (B true) []) (h1 : f.sm.length ≤ 9223372036854775807) (h2 : f.gp.length ≤ 9223372036854775807) (k1 : g.sm.length ≤ 9223372036854775807) (k2 : g.gp.length ≤ 9223372036854775807) (h3 : us.length ≤ 9223372036854775807) : FnOK Tryd.prog 12 [eF f, eF g, eInts us] (B true) [] := by
  have FF := fewFrame_ok h1 h2
  have FG := fewFrame_ok k1 k2
  have EF := refFrameErr_ok h1 h2
  have EG := refFrameErr_ok k1 k2
  by_cases c1 : f.sm.length ≤ 70 ∧ f.gp.length ≤ 70
  case neg =>
    rw [decide_eq_false c1] at FF
    refine fn_i hmix hT Tryd.f12 (by kernel_rfl) rfl (by kernel_rfl) ?_
    with_reducible conv => whnf
    repeat' ((first | (with_reducible refine branch_t ?_) | (with_reducible refine branch_f ?_) | (with_reducible refine branch_nt ?_) | (with_reducible refine branch_nf ?_) | (with_reducible refine branch_dec (fun _ => ?_) (fun _ => ?_)) | (with_reducible refine branch_ndec (fun _ => ?_) (fun _ => ?_)) | (with_reducible refine branch_bool (fun _ => ?_) (fun _ => ?_)) | (with_reducible refine arith_64 (by omega) ?_) | (with_reducible refine ob_i (by omega) (fun _ => ?_)) | (with_reducible refine ob_i (by unfold room; omega) (fun _ => ?_)) | (with_reducible refine ob_i (by (try simp only [toN_eq, Int.toNat_natCast] at *); (try dsimp only [toN] at *); omega) (fun _ => ?_)) | (with_reducible refine arith_64 (by (try simp only [toN_eq, Int.toNat_natCast] at *); (try dsimp only [toN] at *); omega) ?_) | (with_reducible refine ob_k rfl ?_) | ((with_reducible refine ob_k ?_ ?_); focus kernel_rfl) | (refine yield_i hmix hT rfl hL efr eps eag ebd rfl (by kernel_rfl) ?_) | (apply call_u AW) | (apply call_u FF) | (apply call_l (first_ok (l := [_, _]) (Nat.le_of_ble_eq_true rfl)) (.cons (vm_lit _ rfl rfl (.cons (vm_int rfl) (.cons (vm_int rfl) .nil))) .nil)) | (apply call_l (first_ok (l := [_, _, _]) (Nat.le_of_ble_eq_true rfl)) (.cons (vm_lit _ rfl rfl (.cons (vm_int rfl) (.cons (vm_int rfl) (.cons (vm_int rfl) .nil)))) .nil)) | (apply call_l (first_ok (l := [_, _, _, _]) (Nat.le_of_ble_eq_true rfl)) (.cons (vm_lit _ rfl rfl (.cons (vm_int rfl) (.cons (vm_int rfl) (.cons (vm_int rfl) (.cons (vm_int rfl) .nil))))) .nil))) <;> (try (exfalso; omega; done)) <;> (with_reducible conv => whnf))
    all_goals exact ret0 vm_p
  rw [decide_eq_true c1] at FF
  by_cases c2 : g.sm.length ≤ 70 ∧ g.gp.length ≤ 70
  case neg =>
    rw [decide_eq_false c2] at FG
    refine fn_i hmix hT Tryd.f12 (by kernel_rfl) rfl (by kernel_rfl) ?_
    with_reducible conv => whnf
    repeat' ((first | (with_reducible refine branch_t ?_) | (with_reducible refine branch_f ?_) | (with_reducible refine branch_nt ?_) | (with_reducible refine branch_nf ?_) | (with_reducible refine branch_dec (fun _ => ?_) (fun _ => ?_)) | (with_reducible refine branch_ndec (fun _ => ?_) (fun _ => ?_)) | (with_reducible refine branch_bool (fun _ => ?_) (fun _ => ?_)) | (with_reducible refine arith_64 (by omega) ?_) | (with_reducible refine ob_i (by omega) (fun _ => ?_)) | (with_reducible refine ob_i (by unfold room; omega) (fun _ => ?_)) | (with_reducible refine ob_i (by (try simp only [toN_eq, Int.toNat_natCast] at *); (try dsimp only [toN] at *); omega) (fun _ => ?_)) | (with_reducible refine arith_64 (by (try simp only [toN_eq, Int.toNat_natCast] at *); (try dsimp only [toN] at *); omega) ?_) | (with_reducible refine ob_k rfl ?_) | ((with_reducible refine ob_k ?_ ?_); focus kernel_rfl) | (refine yield_i hmix hT rfl hL efr eps eag ebd rfl (by kernel_rfl) ?_) | (apply call_u AW) | (apply call_u FF) | (apply call_u FG) | (apply call_l (first_ok (l := [_, _]) (Nat.le_of_ble_eq_true rfl)) (.cons (vm_lit _ rfl rfl (.cons (vm_int rfl) (.cons (vm_int rfl) .nil))) .nil)) | (apply call_l (first_ok (l := [_, _, _]) (Nat.le_of_ble_eq_true rfl)) (.cons (vm_lit _ rfl rfl (.cons (vm_int rfl) (.cons (vm_int rfl) (.cons (vm_int rfl) .nil)))) .nil)) | (apply call_l (first_ok (l := [_, _, _, _]) (Nat.le_of_ble_eq_true rfl)) (.cons (vm_lit _ rfl rfl (.cons (vm_int rfl) (.cons (vm_int rfl) (.cons (vm_int rfl) (.cons (vm_int rfl) .nil))))) .nil))) <;> (try (exfalso; omega; done)) <;> (with_reducible conv => whnf))
    all_goals exact ret0 vm_p
  rw [decide_eq_true c2] at FG
  by_cases he : frE f = 0
  case neg =>
    generalize frE f = e at *
    refine fn_i hmix hT Tryd.f12 (by kernel_rfl) rfl (by kernel_rfl) ?_
    with_reducible conv => whnf
    repeat' ((first | (with_reducible refine branch_t ?_) | (with_reducible refine branch_f ?_) | (with_reducible refine branch_nt ?_) | (with_reducible refine branch_nf ?_) | (with_reducible refine branch_dec (fun _ => ?_) (fun _ => ?_)) | (with_reducible refine branch_ndec (fun _ => ?_) (fun _ => ?_)) | (with_reducible refine branch_bool (fun _ => ?_) (fun _ => ?_)) | (with_reducible refine arith_64 (by omega) ?_) | (with_reducible refine ob_i (by omega) (fun _ => ?_)) | (with_reducible refine ob_i (by unfold room; omega) (fun _ => ?_)) | (with_reducible refine ob_i (by (try simp only [toN_eq, Int.toNat_natCast] at *); (try dsimp only [toN] at *); omega) (fun _ => ?_)) | (with_reducible refine arith_64 (by (try simp only [toN_eq, Int.toNat_natCast] at *); (try dsimp only [toN] at *); omega) ?_) | (with_reducible refine ob_k rfl ?_) | ((with_reducible refine ob_k ?_ ?_); focus kernel_rfl) | (refine yield_i hmix hT rfl hL efr eps eag ebd rfl (by kernel_rfl) ?_) | (apply call_u AW) | (apply call_u FF) | (apply call_u FG) | (apply call_u EF) | (apply call_l (first_ok (l := [_, _]) (Nat.le_of_ble_eq_true rfl)) (.cons (vm_lit _ rfl rfl (.cons (vm_int rfl) (.cons (vm_int rfl) .nil))) .nil)) | (apply call_l (first_ok (l := [_, _, _]) (Nat.le_of_ble_eq_true rfl)) (.cons (vm_lit _ rfl rfl (.cons (vm_int rfl) (.cons (vm_int rfl) (.cons (vm_int rfl) .nil)))) .nil)) | (apply call_l (first_ok (l := [_, _, _, _]) (Nat.le_of_ble_eq_true rfl)) (.cons (vm_lit _ rfl rfl (.cons (vm_int rfl) (.cons (vm_int rfl) (.cons (vm_int rfl) (.cons (vm_int rfl) .nil))))) .nil))) <;> (try (exfalso; omega; done)) <;> (with_reducible conv => whnf))
    all_goals exact ret0 vm_p
  have v := frm_val he
  rw [he] at EF
  by_cases hge : frE g = 0
  case neg =>
    generalize frE g = e at *
    refine fn_i hmix hT Tryd.f12 (by kernel_rfl) rfl (by kernel_rfl) ?_
    with_reducible conv => whnf
    repeat' ((first | (with_reducible refine branch_t ?_) | (with_reducible refine branch_f ?_) | (with_reducible refine branch_nt ?_) | (with_reducible refine branch_nf ?_) | (with_reducible refine branch_dec (fun _ => ?_) (fun _ => ?_)) | (with_reducible refine branch_ndec (fun _ => ?_) (fun _ => ?_)) | (with_reducible refine branch_bool (fun _ => ?_) (fun _ => ?_)) | (with_reducible refine arith_64 (by omega) ?_) | (with_reducible refine ob_i (by omega) (fun _ => ?_)) | (with_reducible refine ob_i (by unfold room; omega) (fun _ => ?_)) | (with_reducible refine ob_i (by (try simp only [toN_eq, Int.toNat_natCast] at *); (try dsimp only [toN] at *); omega) (fun _ => ?_)) | (with_reducible refine arith_64 (by (try simp only [toN_eq, Int.toNat_natCast] at *); (try dsimp only [toN] at *); omega) ?_) | (with_reducible refine ob_k rfl ?_) | ((with_reducible refine ob_k ?_ ?_); focus kernel_rfl) | (refine yield_i hmix hT rfl hL efr eps eag ebd rfl (by kernel_rfl) ?_) | (apply call_u AW) | (apply call_u FF) | (apply call_u FG) | (apply call_u EF) | (apply call_u EG) | (apply call_l (first_ok (l := [_, _]) (Nat.le_of_ble_eq_true rfl)) (.cons (vm_lit _ rfl rfl (.cons (vm_int rfl) (.cons (vm_int rfl) .nil))) .nil)) | (apply call_l (first_ok (l := [_, _, _]) (Nat.le_of_ble_eq_true rfl)) (.cons (vm_lit _ rfl rfl (.cons (vm_int rfl) (.cons (vm_int rfl) (.cons (vm_int rfl) .nil)))) .nil)) | (apply call_l (first_ok (l := [_, _, _, _]) (Nat.le_of_ble_eq_true rfl)) (.cons (vm_lit _ rfl rfl (.cons (vm_int rfl) (.cons (vm_int rfl) (.cons (vm_int rfl) (.cons (vm_int rfl) .nil))))) .nil))) <;> (try (exfalso; omega; done)) <;> (with_reducible conv => whnf))
    all_goals exact ret0 vm_p
  rw [hge] at EG
  by_cases hl : us.length ≤ 4
  case neg =>
    refine fn_i hmix hT Tryd.f12 (by kernel_rfl) rfl (by kernel_rfl) ?_
    with_reducible conv => whnf
    repeat' ((first | (with_reducible refine branch_t ?_) | (with_reducible refine branch_f ?_) | (with_reducible refine branch_nt ?_) | (with_reducible refine branch_nf ?_) | (with_reducible refine branch_dec (fun _ => ?_) (fun _ => ?_)) | (with_reducible refine branch_ndec (fun _ => ?_) (fun _ => ?_)) | (with_reducible refine branch_bool (fun _ => ?_) (fun _ => ?_)) | (with_reducible refine arith_64 (by omega) ?_) | (with_reducible refine ob_i (by omega) (fun _ => ?_)) | (with_reducible refine ob_i (by unfold room; omega) (fun _ => ?_)) | (with_reducible refine ob_i (by (try simp only [toN_eq, Int.toNat_natCast] at *); (try dsimp only [toN] at *); omega) (fun _ => ?_)) | (with_reducible refine arith_64 (by (try simp only [toN_eq, Int.toNat_natCast] at *); (try dsimp only [toN] at *); omega) ?_) | (with_reducible refine ob_k rfl ?_) | ((with_reducible refine ob_k ?_ ?_); focus kernel_rfl) | (refine yield_i hmix hT rfl hL efr eps eag ebd rfl (by kernel_rfl) ?_) | (apply call_u AW) | (apply call_u FF) | (apply call_u FG) | (apply call_u EF) | (apply call_u EG) | (apply call_l (first_ok (l := [_, _]) (Nat.le_of_ble_eq_true rfl)) (.cons (vm_lit _ rfl rfl (.cons (vm_int rfl) (.cons (vm_int rfl) .nil))) .nil)) | (apply call_l (first_ok (l := [_, _, _]) (Nat.le_of_ble_eq_true rfl)) (.cons (vm_lit _ rfl rfl (.cons (vm_int rfl) (.cons (vm_int rfl) (.cons (vm_int rfl) .nil)))) .nil)) | (apply call_l (first_ok (l := [_, _, _, _]) (Nat.le_of_ble_eq_true rfl)) (.cons (vm_lit _ rfl rfl (.cons (vm_int rfl) (.cons (vm_int rfl) (.cons (vm_int rfl) (.cons (vm_int rfl) .nil))))) .nil))) <;> (try (exfalso; omega; done)) <;> (with_reducible conv => whnf))
    all_goals exact ret0 vm_p
  have LE := rLinesErr_ok (us := us) v (by omega)
  by_cases hle : lnsE f us = 0
  case neg =>
    generalize lnsE f us = e at *
    refine fn_i hmix hT Tryd.f12 (by kernel_rfl) rfl (by kernel_rfl) ?_
    with_reducible conv => whnf
    repeat' ((first | (with_reducible refine branch_t ?_) | (with_reducible refine branch_f ?_) | (with_reducible refine branch_nt ?_) | (with_reducible refine branch_nf ?_) | (with_reducible refine branch_dec (fun _ => ?_) (fun _ => ?_)) | (with_reducible refine branch_ndec (fun _ => ?_) (fun _ => ?_)) | (with_reducible refine branch_bool (fun _ => ?_) (fun _ => ?_)) | (with_reducible refine arith_64 (by omega) ?_) | (with_reducible refine ob_i (by omega) (fun _ => ?_)) | (with_reducible refine ob_i (by unfold room; omega) (fun _ => ?_)) | (with_reducible refine ob_i (by (try simp only [toN_eq, Int.toNat_natCast] at *); (try dsimp only [toN] at *); omega) (fun _ => ?_)) | (with_reducible refine arith_64 (by (try simp only [toN_eq, Int.toNat_natCast] at *); (try dsimp only [toN] at *); omega) ?_) | (with_reducible refine ob_k rfl ?_) | ((with_reducible refine ob_k ?_ ?_); focus kernel_rfl) | (refine yield_i hmix hT rfl hL efr eps eag ebd rfl (by kernel_rfl) ?_) | (apply call_u AW) | (apply call_u FF) | (apply call_u FG) | (apply call_u EF) | (apply call_u EG) | (apply call_u LE) | (apply call_l (first_ok (l := [_, _]) (Nat.le_of_ble_eq_true rfl)) (.cons (vm_lit _ rfl rfl (.cons (vm_int rfl) (.cons (vm_int rfl) .nil))) .nil)) | (apply call_l (first_ok (l := [_, _, _]) (Nat.le_of_ble_eq_true rfl)) (.cons (vm_lit _ rfl rfl (.cons (vm_int rfl) (.cons (vm_int rfl) (.cons (vm_int rfl) .nil)))) .nil)) | (apply call_l (first_ok (l := [_, _, _, _]) (Nat.le_of_ble_eq_true rfl)) (.cons (vm_lit _ rfl rfl (.cons (vm_int rfl) (.cons (vm_int rfl) (.cons (vm_int rfl) (.cons (vm_int rfl) .nil))))) .nil))) <;> (try (exfalso; omega; done)) <;> (with_reducible conv => whnf))
    all_goals exact ret0 vm_p
  have hu : ∀ i, i < us.length → leP us i = 0 := by
    rcases firstNo (p := fun i => decide (leP us i = 0)) us.length with q | ⟨b, b1, b2, b3⟩
    · exact fun i hi => of_decide_eq_true (q i hi)
    · exfalso
      have b4 : leP us b ≠ 0 := of_decide_eq_false b2
      have e0 := lsE_hit (fun i hi => of_decide_eq_true (b3 i hi)) b1 b4
      unfold lnsE at hle
      rw [e0, if_pos b4] at hle
      exact b4 hle
  have h8 : 20 * f.lim ≤ 2000000 ∧ -8 ≤ f.g - 2 := by
    unfold lnsE at hle
    rw [lsE_none hu, if_neg (fun c => c rfl)] at hle
    split at hle
    · cases hle
    · split at hle
      · cases hle
      · omega
  exact removed_good AW v (frm_val hge) c1 c2 hl hle hu h8
end Go.Proofs.YtaejdonacadpkaaDoor
