/-
  Chapter 1: levels and answers of a line; what is lost at most (by contract, and plain).
  Conditions: none.
-/
import Derived.Test.YtaejdonacadpkabDoor1Z
import Derived.Test.YtaejdonacadpkabDoor1H1
namespace Go.Proofs.YtaejdonacadpkabDoor
open Go.RowKit Fx
theorem mulp_bd {a b M N : Int} (ha : 0 ≤ a ∧ a ≤ M) (hb : 0 ≤ b ∧ b ≤ N) (hM : 0 ≤ M) : 0 ≤ a * b ∧ a * b ≤ M * N :=
  ⟨Int.mul_nonneg ha.1 hb.1, Int.mul_le_mul ha.2 hb.2 hb.1 hM⟩
theorem copyGaussesO_ok {l : List (Int × Int)} (hl : l.length ≤ 1000) : FnOK Tryd.prog 56 [ePs l] (.own 0 2 0 l.length) [.row 2 l.length (fun i => eP (l.getD i (0, 0))) 78] := by
  refine fn_i hmix hT Tryd.f56 (by kernel_rfl) rfl (by kernel_rfl) ?_
  with_reducible conv => whnf
  repeat' ((first | (with_reducible refine branch_t ?_) | (with_reducible refine branch_f ?_) | (with_reducible refine branch_nt ?_) | (with_reducible refine branch_nf ?_) | (with_reducible refine branch_dec (fun _ => ?_) (fun _ => ?_)) | (with_reducible refine branch_ndec (fun _ => ?_) (fun _ => ?_)) | (with_reducible refine branch_bool (fun _ => ?_) (fun _ => ?_)) | (with_reducible refine arith_64 (by omega) ?_) | (with_reducible refine ob_i (by omega) (fun _ => ?_)) | (with_reducible refine ob_i (by unfold room; omega) (fun _ => ?_)) | (with_reducible refine ob_i (by (try simp only [] at *); (try dsimp only [toN] at *); omega) (fun _ => ?_)) | (with_reducible refine arith_64 (by (try simp only [] at *); (try dsimp only [toN] at *); omega) ?_) | (with_reducible refine ob_k rfl ?_) | ((with_reducible refine ob_k ?_ ?_); focus kernel_rfl) | (refine yield_i hmix hT rfl hL efr eps eag ebd rfl (by kernel_rfl) ?_)  | (apply call_l (first_ok (l := [_, _]) (Nat.le_of_ble_eq_true rfl)) (.cons (vm_lit _ rfl rfl (.cons (vm_int rfl) (.cons (vm_int rfl) .nil))) .nil)) | (apply call_l (first_ok (l := [_, _, _]) (Nat.le_of_ble_eq_true rfl)) (.cons (vm_lit _ rfl rfl (.cons (vm_int rfl) (.cons (vm_int rfl) (.cons (vm_int rfl) .nil)))) .nil)) | (apply call_l (first_ok (l := [_, _, _, _]) (Nat.le_of_ble_eq_true rfl)) (.cons (vm_lit _ rfl rfl (.cons (vm_int rfl) (.cons (vm_int rfl) (.cons (vm_int rfl) (.cons (vm_int rfl) .nil))))) .nil))) <;> (try (exfalso; omega; done)) <;> (with_reducible conv => whnf))
  refine ⟨⟨[(0, some 1)], rfl, vm_own rfl rfl rfl (by omega), ⟨⟨_, rfl, sbm_row (by omega) fun i hi => ?_⟩, trivial⟩⟩⟩
  rw [appF_ge (by omega), Nat.sub_zero]
  exact vm_p
/-! ### Squares -/
def mx (x : Int) : Int := max x (-x)
def sqL (x s : Int) : Int := max 0 (mx x - s) * max 0 (mx x - s)
def sqH (x s : Int) : Int := (mx x + s) * (mx x + s)
theorem sq_mono {a b : Int} (h0 : 0 ≤ a) (h : a ≤ b) : a * a ≤ b * b := Int.mul_le_mul h h h0 (by omega)
theorem mx_sq (y : Int) : mx y * mx y = y * y := by
  unfold mx
  by_cases h : 0 ≤ y
  · rw [show max y (-y) = y by omega]
  · rw [show max y (-y) = -y by omega, Int.neg_mul_neg]
theorem sq_in {x y s : Int} (h1 : -s ≤ y - x) (h2 : y - x ≤ s) : sqL x s ≤ y * y ∧ y * y ≤ sqH x s := by
  rw [← mx_sq y]
  unfold sqL sqH
  exact ⟨sq_mono (by omega) (by unfold mx; omega), sq_mono (by unfold mx; omega) (by unfold mx; omega)⟩
theorem sq_more {x s t : Int} (h : s ≤ t) (h0 : 0 ≤ s) : sqL x t ≤ sqL x s ∧ sqH x s ≤ sqH x t := by
  unfold sqL sqH
  exact ⟨sq_mono (by omega) (by omega), sq_mono (by unfold mx; omega) (by omega)⟩
theorem sqL_bd {x s : Int} (hx : -1000000000 ≤ x ∧ x ≤ 1000000000) (hs : 0 ≤ s ∧ s ≤ 128000000) : (0 ≤ sqL x s ∧ sqL x s ≤ 1440000000000000000) ∧ (0 ≤ sqH x s ∧ sqH x s ≤ 1440000000000000000) := by
  have a := sq_bd (x := max 0 (mx x - s)) (M := 1200000000) (by unfold mx; omega)
  have b := sq_bd (x := mx x + s) (M := 1200000000) (by unfold mx; omega)
  unfold sqL sqH
  omega
theorem squares_ok {x s : Int} (hx : -1000000000 ≤ x ∧ x ≤ 1000000000) (hs : 0 ≤ s ∧ s ≤ 128000000) : FnOK Tryd.prog 79 [I x, I s] (.agg [I (sqL x s), I (sqH x s)]) [] := by
  have S := size_ok (n := x) (by omega)
  have b := sqL_bd hx hs
  change FnOK Tryd.prog _ _ (I (mx x)) [] at S
  have m : 0 ≤ mx x ∧ mx x ≤ 1000000000 := by unfold mx; omega
  unfold sqL sqH at *
  generalize mx x = m at *
  refine fn_i hmix hT Tryd.f79 (by kernel_rfl) rfl (by kernel_rfl) ?_
  with_reducible conv => whnf
  repeat' ((first | (with_reducible refine branch_t ?_) | (with_reducible refine branch_f ?_) | (with_reducible refine branch_nt ?_) | (with_reducible refine branch_nf ?_) | (with_reducible refine branch_dec (fun _ => ?_) (fun _ => ?_)) | (with_reducible refine branch_ndec (fun _ => ?_) (fun _ => ?_)) | (with_reducible refine branch_bool (fun _ => ?_) (fun _ => ?_)) | (with_reducible refine arith_64 (by omega) ?_) | (with_reducible refine ob_i (by omega) (fun _ => ?_)) | (with_reducible refine ob_i (by unfold room; omega) (fun _ => ?_)) | (with_reducible refine ob_i (by (try simp only [toN_eq, Int.toNat_natCast] at *); (try dsimp only [toN] at *); omega) (fun _ => ?_)) | (with_reducible refine arith_64 (by (try simp only [toN_eq, Int.toNat_natCast] at *); (try dsimp only [toN] at *); omega) ?_) | (with_reducible refine ob_k rfl ?_) | ((with_reducible refine ob_k ?_ ?_); focus kernel_rfl) | (refine yield_i hmix hT rfl hL efr eps eag ebd rfl (by kernel_rfl) ?_) | (apply call_u S) | (apply call_l (first_ok (l := [_, _]) (Nat.le_of_ble_eq_true rfl)) (.cons (vm_lit _ rfl rfl (.cons (vm_int rfl) (.cons (vm_int rfl) .nil))) .nil)) | (apply call_l (first_ok (l := [_, _, _]) (Nat.le_of_ble_eq_true rfl)) (.cons (vm_lit _ rfl rfl (.cons (vm_int rfl) (.cons (vm_int rfl) (.cons (vm_int rfl) .nil)))) .nil)) | (apply call_l (first_ok (l := [_, _, _, _]) (Nat.le_of_ble_eq_true rfl)) (.cons (vm_lit _ rfl rfl (.cons (vm_int rfl) (.cons (vm_int rfl) (.cons (vm_int rfl) (.cons (vm_int rfl) .nil))))) .nil))) <;> (try (exfalso; omega; done)) <;> (with_reducible conv => whnf))
  exact ret0 vm_p
/-! ### Levels -/
def lvS (l : Ln) (k : Nat) (b : Int) : Int := l.ms.getD k 0 * b
def lvL (l : Ln) (k : Nat) (b : Int) : Int := sqL (l.vs.getD k (0, 0)).1 (lvS l k b) + sqL (l.vs.getD k (0, 0)).2 (lvS l k b)
def lvH (l : Ln) (k : Nat) (b : Int) : Int := sqH (l.vs.getD k (0, 0)).1 (lvS l k b) + sqH (l.vs.getD k (0, 0)).2 (lvS l k b)
theorem lvS_bd {l : Ln} (v : l.Val) {k : Nat} (hk : k < l.vs.length) {b : Int} (hb : 0 ≤ b ∧ b ≤ 2000000) : 0 ≤ lvS l k b ∧ lvS l k b ≤ 128000000 :=
  mulp_bd (M := 64) (N := 2000000) (cb_bd v hk).2 hb (by omega)
theorem level_ok {l : Ln} (v : l.Val) {k : Nat} (hk : k < l.vs.length) {b : Int} (hb : 0 ≤ b ∧ b ≤ 2000000) : FnOK Tryd.prog 55 [eL l, I k, I b] (.agg [I (lvL l k b), I (lvH l k b)]) [] := by
  have t1 : toN (k : Int) = k := toN_nat k
  have c := cb_bd v hk
  have s := lvS_bd v hk hb
  have Q1 := squares_ok c.1.1 s
  have Q2 := squares_ok c.1.2 s
  have b1 := sqL_bd c.1.1 s
  have b2 := sqL_bd c.1.2 s
  have lm := v.m
  have l64 := v.v1
  unfold lvL lvH
  unfold lvS at *
  rw [← t1] at s Q1 Q2 b1 b2 ⊢
  rw [t1]
  rw [t1] at s Q1 Q2 b1 b2
  rw [← t1] at s Q1 Q2 b1 b2
  refine fn_i hmix hT Tryd.f55 (by kernel_rfl) rfl (by kernel_rfl) ?_
  with_reducible conv => whnf
  repeat' ((first | (with_reducible refine branch_t ?_) | (with_reducible refine branch_f ?_) | (with_reducible refine branch_nt ?_) | (with_reducible refine branch_nf ?_) | (with_reducible refine branch_dec (fun _ => ?_) (fun _ => ?_)) | (with_reducible refine branch_ndec (fun _ => ?_) (fun _ => ?_)) | (with_reducible refine branch_bool (fun _ => ?_) (fun _ => ?_)) | (with_reducible refine arith_64 (by omega) ?_) | (with_reducible refine ob_i (by omega) (fun _ => ?_)) | (with_reducible refine ob_i (by unfold room; omega) (fun _ => ?_)) | (with_reducible refine ob_i (by (try simp only [] at *); (try dsimp only [toN] at *); omega) (fun _ => ?_)) | (with_reducible refine arith_64 (by (try simp only [] at *); (try dsimp only [toN] at *); omega) ?_) | (with_reducible refine ob_k rfl ?_) | ((with_reducible refine ob_k ?_ ?_); focus kernel_rfl) | (refine yield_i hmix hT rfl hL efr eps eag ebd rfl (by kernel_rfl) ?_) | (apply call_u Q1) | (apply call_u Q2) | (apply call_l (first_ok (l := [_, _]) (Nat.le_of_ble_eq_true rfl)) (.cons (vm_lit _ rfl rfl (.cons (vm_int rfl) (.cons (vm_int rfl) .nil))) .nil)) | (apply call_l (first_ok (l := [_, _, _]) (Nat.le_of_ble_eq_true rfl)) (.cons (vm_lit _ rfl rfl (.cons (vm_int rfl) (.cons (vm_int rfl) (.cons (vm_int rfl) .nil)))) .nil)) | (apply call_l (first_ok (l := [_, _, _, _]) (Nat.le_of_ble_eq_true rfl)) (.cons (vm_lit _ rfl rfl (.cons (vm_int rfl) (.cons (vm_int rfl) (.cons (vm_int rfl) (.cons (vm_int rfl) .nil))))) .nil))) <;> (try (exfalso; omega; done)) <;> (with_reducible conv => whnf))
  rw [t1]
  exact ret0 vm_p
end Go.Proofs.YtaejdonacadpkabDoor
