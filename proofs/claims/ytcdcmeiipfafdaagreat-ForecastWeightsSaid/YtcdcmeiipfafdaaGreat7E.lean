/-
  Chapter 7: moved ranges, the laws ForecastMoves and ForecastNarrower (by contract).
  Conditions: none.
-/
import Derived.Test.YtcdcmeiipfafdaaGreat7D
namespace Go.Proofs.YtcdcmeiipfafdaaGreat
open Go.RowKit Fx
theorem floor_ok {n b : Int} (h : -9000000000000000000 ≤ n ∧ n ≤ 9000000000000000000) (hb : 0 < b ∧ b ≤ 9223372036854775807) : FnOK Tryz.prog 54 [I n, I b] (I (n / b)) [] := by
  have a1 := Int.mul_tdiv_add_tmod n b
  have a2 := tmod_bd n (b := b) (by omega)
  have a3 : 0 ≤ n → 0 ≤ n.tmod b := fun h => Int.tmod_nonneg b h
  have a4 : n ≤ 0 → n.tmod b ≤ 0 := fun h => by
    have := Int.tmod_nonneg b (a := -n) (by omega)
    rw [Int.neg_tmod] at this; omega
  have a5 : (n.tdiv b).natAbs ≤ n.natAbs := Int.natAbs_tdiv_le_natAbs n b
  have a6 := Int.mul_ediv_add_emod n b
  have fin : ∀ q r : Int, b * q + r = n → 0 ≤ r → r < b → n / b = q := fun q r h1 h2 h3 => by
    rw [← h1, Int.add_comm, Int.add_mul_ediv_left _ _ (by omega), Int.ediv_eq_zero_of_lt h2 h3]; omega
  refine fn_i hmix hT Tryz.f54 (by kernel_rfl) rfl (by kernel_rfl) ?_
  with_reducible conv => whnf
  repeat' ((first | (with_reducible refine branch_t ?_) | (with_reducible refine branch_f ?_) | (with_reducible refine branch_nt ?_) | (with_reducible refine branch_nf ?_) | (with_reducible refine branch_dec (fun _ => ?_) (fun _ => ?_)) | (with_reducible refine branch_ndec (fun _ => ?_) (fun _ => ?_)) | (with_reducible refine branch_bool (fun _ => ?_) (fun _ => ?_)) | (with_reducible refine arith_64 (by omega) ?_) | (with_reducible refine ob_i (by omega) (fun _ => ?_)) | (with_reducible refine ob_i (by unfold room; omega) (fun _ => ?_)) | (with_reducible refine ob_i (by (try simp only [toN_eq, Int.toNat_natCast] at *); (try dsimp only [toN] at *); omega) (fun _ => ?_)) | (with_reducible refine arith_64 (by (try simp only [toN_eq, Int.toNat_natCast] at *); (try dsimp only [toN] at *); omega) ?_) | (with_reducible refine ob_k rfl ?_) | ((with_reducible refine ob_k ?_ ?_); focus kernel_rfl) | (refine yield_i hmix hT rfl hL efr eps eag ebd rfl (by kernel_rfl) ?_)  | (apply call_l (first_ok (l := [_, _]) (Nat.le_of_ble_eq_true rfl)) (.cons (vm_lit _ rfl rfl (.cons (vm_int rfl) (.cons (vm_int rfl) .nil))) .nil)) | (apply call_l (first_ok (l := [_, _, _]) (Nat.le_of_ble_eq_true rfl)) (.cons (vm_lit _ rfl rfl (.cons (vm_int rfl) (.cons (vm_int rfl) (.cons (vm_int rfl) .nil)))) .nil)) | (apply call_l (first_ok (l := [_, _, _, _]) (Nat.le_of_ble_eq_true rfl)) (.cons (vm_lit _ rfl rfl (.cons (vm_int rfl) (.cons (vm_int rfl) (.cons (vm_int rfl) (.cons (vm_int rfl) .nil))))) .nil))) <;> (try (exfalso; omega; done)) <;> (with_reducible conv => whnf))
  · refine ret0 (vm_int ?_)
    refine (fin (n.tdiv b - 1) (n.tmod b + b) ?_ (by omega) (by omega)).symm
    have : b * (n.tdiv b - 1) = b * n.tdiv b - b := by grind
    omega
  · refine ret0 (vm_int ?_)
    exact (fin (n.tdiv b) (n.tmod b) (by omega) (by omega) (by omega)).symm
def ceilE (n b : Int) : Int := 0 - (0 - n) / b
theorem div_bd {n b : Int} (hb : 0 < b) : n - b < b * (n / b) ∧ b * (n / b) ≤ n ∧ (0 ≤ n → 0 ≤ n / b ∧ n / b ≤ n) ∧ (n ≤ 0 → n ≤ n / b ∧ n / b ≤ 0) := by
  have h1 := Int.mul_ediv_add_emod n b
  have h2 := Int.emod_lt_of_pos n hb
  have h3 := Int.emod_nonneg n (show b ≠ 0 by omega)
  refine ⟨by omega, by omega, fun h => ⟨Int.ediv_nonneg h (by omega), Int.ediv_le_self _ h⟩, fun h => ⟨(Int.le_ediv_iff_mul_le hb).2 ?_, ?_⟩⟩
  · have := Int.mul_le_mul_of_nonneg_left (show 1 ≤ b by omega) (show 0 ≤ -n by omega)
    have : -n * b = -(n * b) := by grind
    omega
  · rcases Int.lt_or_le 0 (n / b) with h4 | h4
    · have := Int.mul_pos hb h4; omega
    · exact h4
structure Rl where
  q : Int
  l : Int
  r : Int
@[reducible] def eRl (x : Rl) : V := .agg [I x.q, I x.l, I x.r]
def ruleE (x : Rl) : Int := if ¬ ((0 ≤ x.q ∧ x.q ≤ 9) ∧ (0 ≤ x.l ∧ x.l ≤ 1000) ∧ 0 ≤ x.r ∧ x.r ≤ 1000) then 2 else 0
def actE (a : Int) : Int := if ¬ (0 ≤ a ∧ a ≤ 9) then 2 else 0
def moveE (x : Rl) (lo hi a : Int) : Int := if ruleE x ≠ 0 then ruleE x else if rangeE lo hi ≠ 0 then rangeE lo hi else actE a
def mvLo (x : Rl) (lo a : Int) : Int := (lo * (1000 + max 0 (a - x.q) * x.r) + 999) / 1000
def mvHi (x : Rl) (hi a : Int) : Int := hi * max 0 (1000 - max 0 (a - x.q) * x.l) / 1000
def mvV (x : Rl) (lo hi a : Int) : V := if mvHi x hi a < mvLo x lo a then .tup [.agg [I 0, I 0], I 12] else .tup [.agg [I (mvLo x lo a), I (mvHi x hi a)], I 0]
theorem checkRule1_ok {n : Int} : FnOK Tryz.prog 89 [I n] (B (decide (0 ≤ n ∧ n ≤ 1000))) [] := by
  refine fn_i hmix hT Tryz.f89 (by kernel_rfl) rfl (by kernel_rfl) ?_
  with_reducible conv => whnf
  repeat' ((first | (with_reducible refine branch_t ?_) | (with_reducible refine branch_f ?_) | (with_reducible refine branch_nt ?_) | (with_reducible refine branch_nf ?_) | (with_reducible refine branch_dec (fun _ => ?_) (fun _ => ?_)) | (with_reducible refine branch_ndec (fun _ => ?_) (fun _ => ?_)) | (with_reducible refine branch_bool (fun _ => ?_) (fun _ => ?_)) | (with_reducible refine arith_64 (by omega) ?_) | (with_reducible refine ob_i (by omega) (fun _ => ?_)) | (with_reducible refine ob_i (by unfold room; omega) (fun _ => ?_)) | (with_reducible refine ob_i (by (try simp only [toN_eq, Int.toNat_natCast] at *); (try dsimp only [toN] at *); omega) (fun _ => ?_)) | (with_reducible refine arith_64 (by (try simp only [toN_eq, Int.toNat_natCast] at *); (try dsimp only [toN] at *); omega) ?_) | (with_reducible refine ob_k rfl ?_) | ((with_reducible refine ob_k ?_ ?_); focus kernel_rfl) | (refine yield_i hmix hT rfl hL efr eps eag ebd rfl (by kernel_rfl) ?_) | (apply call_u within_ok) | (apply call_l (first_ok (l := [_, _]) (Nat.le_of_ble_eq_true rfl)) (.cons (vm_lit _ rfl rfl (.cons (vm_int rfl) (.cons (vm_int rfl) .nil))) .nil)) | (apply call_l (first_ok (l := [_, _, _]) (Nat.le_of_ble_eq_true rfl)) (.cons (vm_lit _ rfl rfl (.cons (vm_int rfl) (.cons (vm_int rfl) (.cons (vm_int rfl) .nil)))) .nil)) | (apply call_l (first_ok (l := [_, _, _, _]) (Nat.le_of_ble_eq_true rfl)) (.cons (vm_lit _ rfl rfl (.cons (vm_int rfl) (.cons (vm_int rfl) (.cons (vm_int rfl) (.cons (vm_int rfl) .nil))))) .nil))) <;> (try (exfalso; omega; done)) <;> (with_reducible conv => whnf))
  exact ret0 vm_p
theorem checkRule_ok {x : Rl} : FnOK Tryz.prog 67 [eRl x] (I (ruleE x)) [] := by
  refine fn_i hmix hT Tryz.f67 (by kernel_rfl) rfl (by kernel_rfl) ?_
  with_reducible conv => whnf
  repeat' ((first | (with_reducible refine branch_t ?_) | (with_reducible refine branch_f ?_) | (with_reducible refine branch_nt ?_) | (with_reducible refine branch_nf ?_) | (with_reducible refine branch_dec (fun _ => ?_) (fun _ => ?_)) | (with_reducible refine branch_ndec (fun _ => ?_) (fun _ => ?_)) | (with_reducible refine branch_bool (fun _ => ?_) (fun _ => ?_)) | (with_reducible refine arith_64 (by omega) ?_) | (with_reducible refine ob_i (by omega) (fun _ => ?_)) | (with_reducible refine ob_i (by unfold room; omega) (fun _ => ?_)) | (with_reducible refine ob_i (by (try simp only [toN_eq, Int.toNat_natCast] at *); (try dsimp only [toN] at *); omega) (fun _ => ?_)) | (with_reducible refine arith_64 (by (try simp only [toN_eq, Int.toNat_natCast] at *); (try dsimp only [toN] at *); omega) ?_) | (with_reducible refine ob_k rfl ?_) | ((with_reducible refine ob_k ?_ ?_); focus kernel_rfl) | (refine yield_i hmix hT rfl hL efr eps eag ebd rfl (by kernel_rfl) ?_) | (apply call_u isActivity_ok) | (apply call_u checkRule1_ok) | (apply call_u unless_ok) | (apply call_l (first_ok (l := [_, _]) (Nat.le_of_ble_eq_true rfl)) (.cons (vm_lit _ rfl rfl (.cons (vm_int rfl) (.cons (vm_int rfl) .nil))) .nil)) | (apply call_l (first_ok (l := [_, _, _]) (Nat.le_of_ble_eq_true rfl)) (.cons (vm_lit _ rfl rfl (.cons (vm_int rfl) (.cons (vm_int rfl) (.cons (vm_int rfl) .nil)))) .nil)) | (apply call_l (first_ok (l := [_, _, _, _]) (Nat.le_of_ble_eq_true rfl)) (.cons (vm_lit _ rfl rfl (.cons (vm_int rfl) (.cons (vm_int rfl) (.cons (vm_int rfl) (.cons (vm_int rfl) .nil))))) .nil))) <;> (try (exfalso; omega; done)) <;> (with_reducible conv => whnf))
  all_goals exact ret0 (vm_int (by unfold ruleE; grind))
structure MvV (x : Rl) (lo hi a : Int) : Prop where
  q : 0 ≤ x.q ∧ x.q ≤ 9
  l : 0 ≤ x.l ∧ x.l ≤ 1000
  r : 0 ≤ x.r ∧ x.r ≤ 1000
  l0 : 0 ≤ lo
  h0 : hi ≤ 3000
  lh : lo ≤ hi
  a0 : 0 ≤ a ∧ a ≤ 9
theorem move_val {x : Rl} {lo hi a : Int} (h : moveE x lo hi a = 0) : MvV x lo hi a := by
  unfold moveE ruleE rangeE actE at h
  constructor <;> grind
theorem move_bds {x : Rl} {lo hi a : Int} (v : MvV x lo hi a) : (0 ≤ max 0 (a - x.q) * x.r ∧ max 0 (a - x.q) * x.r ≤ 9000) ∧ (0 ≤ max 0 (a - x.q) * x.l ∧ max 0 (a - x.q) * x.l ≤ 9000) ∧ (0 ≤ lo * (1000 + max 0 (a - x.q) * x.r) ∧ lo * (1000 + max 0 (a - x.q) * x.r) ≤ 30000000) ∧
    (0 ≤ hi * max 0 (1000 - max 0 (a - x.q) * x.l) ∧ hi * max 0 (1000 - max 0 (a - x.q) * x.l) ≤ 3000000) := by
  obtain ⟨q, l, r, l0, h0, lh, a0⟩ := v
  have p1 := Int.mul_nonneg (show 0 ≤ max 0 (a - x.q) by omega) r.1
  have p2 := Int.mul_le_mul (show max 0 (a - x.q) ≤ 9 by omega) r.2 r.1 (by omega)
  have p3 := Int.mul_nonneg (show 0 ≤ max 0 (a - x.q) by omega) l.1
  have p4 := Int.mul_le_mul (show max 0 (a - x.q) ≤ 9 by omega) l.2 l.1 (by omega)
  have p5 := Int.mul_nonneg l0 (show 0 ≤ 1000 + max 0 (a - x.q) * x.r by omega)
  have p6 := Int.mul_le_mul (show lo ≤ 3000 by omega) (show 1000 + max 0 (a - x.q) * x.r ≤ 10000 by omega) (by omega) (by omega)
  have p7 := Int.mul_nonneg (show 0 ≤ hi by omega) (show 0 ≤ max 0 (1000 - max 0 (a - x.q) * x.l) by omega)
  have p8 := Int.mul_le_mul h0 (show max 0 (1000 - max 0 (a - x.q) * x.l) ≤ 1000 by omega) (by omega) (by omega)
  exact ⟨⟨p1, by omega⟩, ⟨p3, by omega⟩, ⟨p5, by omega⟩, ⟨p7, by omega⟩⟩
theorem movedBy_bad {x : Rl} {lo hi a : Int} (h : moveE x lo hi a ≠ 0) : FnOK Tryz.prog 33 [eRl x, .agg [I lo, I hi], I a] (.tup [.agg [I 0, I 0], I (moveE x lo hi a)]) [] := by
  have F := first_ok (l := [ruleE x, rangeE lo hi, if decide (0 ≤ a ∧ a ≤ 9) = true then 0 else 2]) (by simp)
  rw [show firstErr [ruleE x, rangeE lo hi, if decide (0 ≤ a ∧ a ≤ 9) = true then 0 else 2] = moveE x lo hi a by rw [first_three]; unfold moveE actE; grind] at F
  refine fn_i hmix hT Tryz.f33 (by kernel_rfl) rfl (by kernel_rfl) ?_
  with_reducible conv => whnf
  repeat' ((first | (with_reducible refine branch_t ?_) | (with_reducible refine branch_f ?_) | (with_reducible refine branch_nt ?_) | (with_reducible refine branch_nf ?_) | (with_reducible refine branch_dec (fun _ => ?_) (fun _ => ?_)) | (with_reducible refine branch_ndec (fun _ => ?_) (fun _ => ?_)) | (with_reducible refine branch_bool (fun _ => ?_) (fun _ => ?_)) | (with_reducible refine arith_64 (by omega) ?_) | (with_reducible refine ob_i (by omega) (fun _ => ?_)) | (with_reducible refine ob_i (by unfold room; omega) (fun _ => ?_)) | (with_reducible refine ob_i (by (try simp only [toN_eq, Int.toNat_natCast] at *); (try dsimp only [toN] at *); omega) (fun _ => ?_)) | (with_reducible refine arith_64 (by (try simp only [toN_eq, Int.toNat_natCast] at *); (try dsimp only [toN] at *); omega) ?_) | (with_reducible refine ob_k rfl ?_) | ((with_reducible refine ob_k ?_ ?_); focus kernel_rfl) | (refine yield_i hmix hT rfl hL efr eps eag ebd rfl (by kernel_rfl) ?_) | (apply call_u checkRule_ok) | (apply call_u rangeErr_ok) | (apply call_u isActivity_ok) | (apply call_u unless_ok) | (apply call_l F (.cons (vm_lit _ rfl rfl (.cons (vm_int rfl) (.cons (vm_int rfl) (.cons (vm_int rfl) .nil)))) .nil)) | (apply call_l (first_ok (l := [_, _]) (Nat.le_of_ble_eq_true rfl)) (.cons (vm_lit _ rfl rfl (.cons (vm_int rfl) (.cons (vm_int rfl) .nil))) .nil)) | (apply call_l (first_ok (l := [_, _, _]) (Nat.le_of_ble_eq_true rfl)) (.cons (vm_lit _ rfl rfl (.cons (vm_int rfl) (.cons (vm_int rfl) (.cons (vm_int rfl) .nil)))) .nil)) | (apply call_l (first_ok (l := [_, _, _, _]) (Nat.le_of_ble_eq_true rfl)) (.cons (vm_lit _ rfl rfl (.cons (vm_int rfl) (.cons (vm_int rfl) (.cons (vm_int rfl) (.cons (vm_int rfl) .nil))))) .nil))) <;> (try (exfalso; omega; done)) <;> (with_reducible conv => whnf))
  exact ret0 vm_p
theorem movedBy_good {x : Rl} {lo hi a : Int} (h : moveE x lo hi a = 0) : FnOK Tryz.prog 33 [eRl x, .agg [I lo, I hi], I a] (mvV x lo hi a) [] := by
  have F := first_ok (l := [ruleE x, rangeE lo hi, if decide (0 ≤ a ∧ a ≤ 9) = true then 0 else 2]) (by simp)
  rw [show firstErr [ruleE x, rangeE lo hi, if decide (0 ≤ a ∧ a ≤ 9) = true then 0 else 2] = moveE x lo hi a by rw [first_three]; unfold moveE actE; grind, h] at F
  have v := move_val h
  obtain ⟨p1, p2, p3, p4⟩ := move_bds v
  have e1 : (lo * (1000 + max 0 (a - x.q) * x.r) + 1000 - 1).tdiv 1000 = mvLo x lo a := by
    rw [Int.tdiv_eq_ediv_of_nonneg (by omega)]; unfold mvLo; congr 1; omega
  have e2 : (hi * max 0 (1000 - max 0 (a - x.q) * x.l)).tdiv 1000 = mvHi x hi a := Int.tdiv_eq_ediv_of_nonneg (by omega)
  obtain ⟨q, l, r, l0, h0, lh, a0⟩ := v
  have b1 : 0 ≤ mvLo x lo a ∧ mvLo x lo a ≤ 40000 := by unfold mvLo; omega
  have b2 : 0 ≤ mvHi x hi a ∧ mvHi x hi a ≤ 4000 := by unfold mvHi; omega
  unfold mvV
  by_cases c : mvHi x hi a < mvLo x lo a
  · rw [if_pos c]
    refine fn_i hmix hT Tryz.f33 (by kernel_rfl) rfl (by kernel_rfl) ?_
    with_reducible conv => whnf
    repeat' ((first | (with_reducible refine branch_t ?_) | (with_reducible refine branch_f ?_) | (with_reducible refine branch_nt ?_) | (with_reducible refine branch_nf ?_) | (with_reducible refine branch_dec (fun _ => ?_) (fun _ => ?_)) | (with_reducible refine branch_ndec (fun _ => ?_) (fun _ => ?_)) | (with_reducible refine branch_bool (fun _ => ?_) (fun _ => ?_)) | (with_reducible refine arith_64 (by omega) ?_) | (with_reducible refine ob_i (by omega) (fun _ => ?_)) | (with_reducible refine ob_i (by unfold room; omega) (fun _ => ?_)) | (with_reducible refine ob_i (by (try simp only [toN_eq, Int.toNat_natCast] at *); (try dsimp only [toN] at *); omega) (fun _ => ?_)) | (with_reducible refine arith_64 (by (try simp only [toN_eq, Int.toNat_natCast] at *); (try dsimp only [toN] at *); omega) ?_) | (with_reducible refine ob_k rfl ?_) | ((with_reducible refine ob_k ?_ ?_); focus kernel_rfl) | (refine yield_i hmix hT rfl hL efr eps eag ebd rfl (by kernel_rfl) ?_) | (apply call_u checkRule_ok) | (apply call_u rangeErr_ok) | (apply call_u isActivity_ok) | (apply call_u unless_ok) | (apply call_l F (.cons (vm_lit _ rfl rfl (.cons (vm_int rfl) (.cons (vm_int rfl) (.cons (vm_int rfl) .nil)))) .nil)) | (apply call_l (first_ok (l := [_, _]) (Nat.le_of_ble_eq_true rfl)) (.cons (vm_lit _ rfl rfl (.cons (vm_int rfl) (.cons (vm_int rfl) .nil))) .nil)) | (apply call_l (first_ok (l := [_, _, _]) (Nat.le_of_ble_eq_true rfl)) (.cons (vm_lit _ rfl rfl (.cons (vm_int rfl) (.cons (vm_int rfl) (.cons (vm_int rfl) .nil)))) .nil)) | (apply call_l (first_ok (l := [_, _, _, _]) (Nat.le_of_ble_eq_true rfl)) (.cons (vm_lit _ rfl rfl (.cons (vm_int rfl) (.cons (vm_int rfl) (.cons (vm_int rfl) (.cons (vm_int rfl) .nil))))) .nil))) <;> (try (exfalso; omega; done)) <;> (with_reducible conv => whnf))
    exact ret0 vm_p
  · rw [if_neg c]
    refine fn_i hmix hT Tryz.f33 (by kernel_rfl) rfl (by kernel_rfl) ?_
    with_reducible conv => whnf
    repeat' ((first | (with_reducible refine branch_t ?_) | (with_reducible refine branch_f ?_) | (with_reducible refine branch_nt ?_) | (with_reducible refine branch_nf ?_) | (with_reducible refine branch_dec (fun _ => ?_) (fun _ => ?_)) | (with_reducible refine branch_ndec (fun _ => ?_) (fun _ => ?_)) | (with_reducible refine branch_bool (fun _ => ?_) (fun _ => ?_)) | (with_reducible refine arith_64 (by omega) ?_) | (with_reducible refine ob_i (by omega) (fun _ => ?_)) | (with_reducible refine ob_i (by unfold room; omega) (fun _ => ?_)) | (with_reducible refine ob_i (by (try simp only [toN_eq, Int.toNat_natCast] at *); (try dsimp only [toN] at *); omega) (fun _ => ?_)) | (with_reducible refine arith_64 (by (try simp only [toN_eq, Int.toNat_natCast] at *); (try dsimp only [toN] at *); omega) ?_) | (with_reducible refine ob_k rfl ?_) | ((with_reducible refine ob_k ?_ ?_); focus kernel_rfl) | (refine yield_i hmix hT rfl hL efr eps eag ebd rfl (by kernel_rfl) ?_) | (apply call_u checkRule_ok) | (apply call_u rangeErr_ok) | (apply call_u isActivity_ok) | (apply call_u unless_ok) | (apply call_l F (.cons (vm_lit _ rfl rfl (.cons (vm_int rfl) (.cons (vm_int rfl) (.cons (vm_int rfl) .nil)))) .nil)) | (apply call_l (first_ok (l := [_, _]) (Nat.le_of_ble_eq_true rfl)) (.cons (vm_lit _ rfl rfl (.cons (vm_int rfl) (.cons (vm_int rfl) .nil))) .nil)) | (apply call_l (first_ok (l := [_, _, _]) (Nat.le_of_ble_eq_true rfl)) (.cons (vm_lit _ rfl rfl (.cons (vm_int rfl) (.cons (vm_int rfl) (.cons (vm_int rfl) .nil)))) .nil)) | (apply call_l (first_ok (l := [_, _, _, _]) (Nat.le_of_ble_eq_true rfl)) (.cons (vm_lit _ rfl rfl (.cons (vm_int rfl) (.cons (vm_int rfl) (.cons (vm_int rfl) (.cons (vm_int rfl) .nil))))) .nil))) <;> (try (exfalso; omega; done)) <;> (with_reducible conv => whnf))
    exact ret0 (vm_tup (.cons (vm_agg (.cons (vm_int e1) (.cons (vm_int e2) .nil))) (.cons vm_p .nil)))
/-! ### Narrower -/
theorem mv_mono {x : Rl} {lo hi a : Int} (hl : 0 ≤ lo) (hh : 0 ≤ hi) (h1 : 0 ≤ x.l) (h2 : 0 ≤ x.r) : mvLo x lo a ≤ mvLo x lo (a + 1) ∧ mvHi x hi (a + 1) ≤ mvHi x hi a := by
  have n : max 0 (a - x.q) ≤ max 0 (a + 1 - x.q) := by omega
  have p1 := Int.mul_le_mul_of_nonneg_right n h2
  have p2 := Int.mul_le_mul_of_nonneg_right n h1
  have p3 := Int.mul_le_mul_of_nonneg_left (show 1000 + max 0 (a - x.q) * x.r ≤ 1000 + max 0 (a + 1 - x.q) * x.r by omega) hl
  have p4 := Int.mul_le_mul_of_nonneg_left (show max 0 (1000 - max 0 (a + 1 - x.q) * x.l) ≤ max 0 (1000 - max 0 (a - x.q) * x.l) by omega) hh
  unfold mvLo mvHi
  omega
theorem mv_quiet {x : Rl} {lo hi a : Int} (h : a ≤ x.q) : mvLo x lo a = lo ∧ mvHi x hi a = hi := by
  have n : max 0 (a - x.q) = 0 := by omega
  unfold mvLo mvHi
  rw [n, Int.zero_mul, Int.zero_mul, show max (0 : Int) (1000 - 0) = 1000 from rfl]
  omega
end Go.Proofs.YtcdcmeiipfafdaaGreat
