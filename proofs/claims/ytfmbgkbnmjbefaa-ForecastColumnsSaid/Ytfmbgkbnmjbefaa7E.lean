/-
  Chapter 7: moved ranges, the laws ForecastMoves and ForecastNarrower (by contract).
  Conditions: none.
-/
import Derived.Test.Ytfmbgkbnmjbefaa7D
namespace Go.Proofs.Ytfmbgkbnmjbefaa
open Go.RowKit Fx
theorem floor_ok {n b : Int} (h : -9000000000000000000 ≤ n ∧ n ≤ 9000000000000000000) (hb : 0 < b ∧ b ≤ 9223372036854775807) : FnOK Try.prog 74 [I n, I b] (I (n / b)) [] := by
  have a1 := Int.mul_tdiv_add_tmod n b
  have a2 := tmod_bd n (b := b) (by omega)
  have a3 : 0 ≤ n → 0 ≤ n.tmod b := fun h => Int.tmod_nonneg b h
  have a4 : n ≤ 0 → n.tmod b ≤ 0 := fun h => by
    have := Int.tmod_nonneg b (a := -n) (by omega)
    rw [Int.neg_tmod] at this; omega
  have a5 : (n.tdiv b).natAbs ≤ n.natAbs := Int.natAbs_tdiv_le_natAbs n b
  have a6 := Int.mul_ediv_add_emod n b
  have fin : ∀ q r : Int, b * q + r = n → 0 ≤ r → r < b → n / b = q := fun q r h1 h2 h3 => by
    rw [← h1, Int.add_comm, Int.add_mul_ediv_left _ _ (by omega), Int.ediv_eq_zero_of_lt h2 h3]; omega
  refine fn_i hmix hT Try.f74 (by kernel_rfl) rfl (by kernel_rfl) ?_
  with_reducible conv => whnf
  repeat' ((first | (with_reducible refine branch_t ?_) | (with_reducible refine branch_f ?_) | (with_reducible refine branch_nt ?_) | (with_reducible refine branch_nf ?_) | (with_reducible refine branch_dec (fun _ => ?_) (fun _ => ?_)) | (with_reducible refine branch_ndec (fun _ => ?_) (fun _ => ?_)) | (with_reducible refine branch_bool (fun _ => ?_) (fun _ => ?_)) | (with_reducible refine arith_64 (by omega) ?_) | (with_reducible refine ob_i (by omega) (fun _ => ?_)) | (with_reducible refine ob_i (by unfold room; omega) (fun _ => ?_)) | (with_reducible refine ob_i (by (try simp only [toN_eq, Int.toNat_natCast] at *); (try dsimp only [toN] at *); omega) (fun _ => ?_)) | (with_reducible refine arith_64 (by (try simp only [toN_eq, Int.toNat_natCast] at *); (try dsimp only [toN] at *); omega) ?_) | (with_reducible refine ob_k rfl ?_) | ((with_reducible refine ob_k ?_ ?_); focus kernel_rfl) | (refine yield_i hmix hT rfl hL efr eps eag ebd rfl (by kernel_rfl) ?_)  | (apply call_l (first_ok (l := [_, _]) (Nat.le_of_ble_eq_true rfl)) (.cons (vm_lit _ rfl rfl (.cons (vm_int rfl) (.cons (vm_int rfl) .nil))) .nil)) | (apply call_l (first_ok (l := [_, _, _]) (Nat.le_of_ble_eq_true rfl)) (.cons (vm_lit _ rfl rfl (.cons (vm_int rfl) (.cons (vm_int rfl) (.cons (vm_int rfl) .nil)))) .nil)) | (apply call_l (first_ok (l := [_, _, _, _]) (Nat.le_of_ble_eq_true rfl)) (.cons (vm_lit _ rfl rfl (.cons (vm_int rfl) (.cons (vm_int rfl) (.cons (vm_int rfl) (.cons (vm_int rfl) .nil))))) .nil))) <;> (try (exfalso; omega; done)) <;> (with_reducible conv => whnf))
  · refine ret0 (vm_int ?_)
    refine (fin (n.tdiv b - 1) (n.tmod b + b) ?_ (by omega) (by omega)).symm
    have : b * (n.tdiv b - 1) = b * n.tdiv b - b := by grind
    omega
  · refine ret0 (vm_int ?_)
    exact (fin (n.tdiv b) (n.tmod b) (by omega) (by omega) (by omega)).symm
def ceilE (n b : Int) : Int := 0 - (0 - n) / b
theorem div_bd {n b : Int} (hb : 0 < b) : n - b < b * (n / b) ∧ b * (n / b) ≤ n ∧ (0 ≤ n → 0 ≤ n / b ∧ n / b ≤ n) ∧ (n ≤ 0 → n ≤ n / b ∧ n / b ≤ 0) := by
  have h1 := Int.mul_ediv_add_emod n b
  have h2 := Int.emod_lt_of_pos n hb
  have h3 := Int.emod_nonneg n (show b ≠ 0 by omega)
  refine ⟨by omega, by omega, fun h => ⟨Int.ediv_nonneg h (by omega), Int.ediv_le_self _ h⟩, fun h => ⟨(Int.le_ediv_iff_mul_le hb).2 ?_, ?_⟩⟩
  · have := Int.mul_le_mul_of_nonneg_left (show 1 ≤ b by omega) (show 0 ≤ -n by omega)
    have : -n * b = -(n * b) := by grind
    omega
  · rcases Int.lt_or_le 0 (n / b) with h4 | h4
    · have := Int.mul_pos hb h4; omega
    · exact h4
theorem ceil_ok {n b : Int} (h : -4000000000000000000 ≤ n ∧ n ≤ 4000000000000000000) (hb : 0 < b ∧ b ≤ 9223372036854775807) : FnOK Try.prog 94 [I n, I b] (I (ceilE n b)) [] := by
  have F := floor_ok (n := 0 - n) (b := b) (by omega) hb
  have := div_bd (n := 0 - n) hb.1
  refine fn_i hmix hT Try.f94 (by kernel_rfl) rfl (by kernel_rfl) ?_
  with_reducible conv => whnf
  repeat' ((first | (with_reducible refine branch_t ?_) | (with_reducible refine branch_f ?_) | (with_reducible refine branch_nt ?_) | (with_reducible refine branch_nf ?_) | (with_reducible refine branch_dec (fun _ => ?_) (fun _ => ?_)) | (with_reducible refine branch_ndec (fun _ => ?_) (fun _ => ?_)) | (with_reducible refine branch_bool (fun _ => ?_) (fun _ => ?_)) | (with_reducible refine arith_64 (by omega) ?_) | (with_reducible refine ob_i (by omega) (fun _ => ?_)) | (with_reducible refine ob_i (by unfold room; omega) (fun _ => ?_)) | (with_reducible refine ob_i (by (try simp only [toN_eq, Int.toNat_natCast] at *); (try dsimp only [toN] at *); omega) (fun _ => ?_)) | (with_reducible refine arith_64 (by (try simp only [toN_eq, Int.toNat_natCast] at *); (try dsimp only [toN] at *); omega) ?_) | (with_reducible refine ob_k rfl ?_) | ((with_reducible refine ob_k ?_ ?_); focus kernel_rfl) | (refine yield_i hmix hT rfl hL efr eps eag ebd rfl (by kernel_rfl) ?_) | (apply call_u F) | (apply call_l (first_ok (l := [_, _]) (Nat.le_of_ble_eq_true rfl)) (.cons (vm_lit _ rfl rfl (.cons (vm_int rfl) (.cons (vm_int rfl) .nil))) .nil)) | (apply call_l (first_ok (l := [_, _, _]) (Nat.le_of_ble_eq_true rfl)) (.cons (vm_lit _ rfl rfl (.cons (vm_int rfl) (.cons (vm_int rfl) (.cons (vm_int rfl) .nil)))) .nil)) | (apply call_l (first_ok (l := [_, _, _, _]) (Nat.le_of_ble_eq_true rfl)) (.cons (vm_lit _ rfl rfl (.cons (vm_int rfl) (.cons (vm_int rfl) (.cons (vm_int rfl) (.cons (vm_int rfl) .nil))))) .nil))) <;> (try (exfalso; omega; done)) <;> (with_reducible conv => whnf))
  exact ret0 vm_p
structure Rl where
  q : Int
  l : Int
  r : Int
@[reducible] def eRl (x : Rl) : V := .agg [I x.q, I x.l, I x.r]
def ruleE (x : Rl) : Int := if ¬ ((0 ≤ x.q ∧ x.q ≤ 9) ∧ (0 ≤ x.l ∧ x.l ≤ 1000) ∧ 0 ≤ x.r ∧ x.r ≤ 1000) then 2 else 0
def actE (a : Int) : Int := if ¬ (0 ≤ a ∧ a ≤ 9) then 2 else 0
def moveE (x : Rl) (lo hi a : Int) : Int := if ruleE x ≠ 0 then ruleE x else if rangeE lo hi ≠ 0 then rangeE lo hi else actE a
def mvLo (x : Rl) (lo a : Int) : Int := (lo * (1000 + max 0 (a - x.q) * x.r) + 999) / 1000
def mvHi (x : Rl) (hi a : Int) : Int := hi * max 0 (1000 - max 0 (a - x.q) * x.l) / 1000
def mvV (x : Rl) (lo hi a : Int) : V := if mvHi x hi a < mvLo x lo a then .tup [.agg [I 0, I 0], I 12] else .tup [.agg [I (mvLo x lo a), I (mvHi x hi a)], I 0]
theorem checkRule1_ok {n : Int} : FnOK Try.prog 92 [I n] (B (decide (0 ≤ n ∧ n ≤ 1000))) [] := by
  refine fn_i hmix hT Try.f92 (by kernel_rfl) rfl (by kernel_rfl) ?_
  with_reducible conv => whnf
  repeat' ((first | (with_reducible refine branch_t ?_) | (with_reducible refine branch_f ?_) | (with_reducible refine branch_nt ?_) | (with_reducible refine branch_nf ?_) | (with_reducible refine branch_dec (fun _ => ?_) (fun _ => ?_)) | (with_reducible refine branch_ndec (fun _ => ?_) (fun _ => ?_)) | (with_reducible refine branch_bool (fun _ => ?_) (fun _ => ?_)) | (with_reducible refine arith_64 (by omega) ?_) | (with_reducible refine ob_i (by omega) (fun _ => ?_)) | (with_reducible refine ob_i (by unfold room; omega) (fun _ => ?_)) | (with_reducible refine ob_i (by (try simp only [toN_eq, Int.toNat_natCast] at *); (try dsimp only [toN] at *); omega) (fun _ => ?_)) | (with_reducible refine arith_64 (by (try simp only [toN_eq, Int.toNat_natCast] at *); (try dsimp only [toN] at *); omega) ?_) | (with_reducible refine ob_k rfl ?_) | ((with_reducible refine ob_k ?_ ?_); focus kernel_rfl) | (refine yield_i hmix hT rfl hL efr eps eag ebd rfl (by kernel_rfl) ?_) | (apply call_u within_ok) | (apply call_l (first_ok (l := [_, _]) (Nat.le_of_ble_eq_true rfl)) (.cons (vm_lit _ rfl rfl (.cons (vm_int rfl) (.cons (vm_int rfl) .nil))) .nil)) | (apply call_l (first_ok (l := [_, _, _]) (Nat.le_of_ble_eq_true rfl)) (.cons (vm_lit _ rfl rfl (.cons (vm_int rfl) (.cons (vm_int rfl) (.cons (vm_int rfl) .nil)))) .nil)) | (apply call_l (first_ok (l := [_, _, _, _]) (Nat.le_of_ble_eq_true rfl)) (.cons (vm_lit _ rfl rfl (.cons (vm_int rfl) (.cons (vm_int rfl) (.cons (vm_int rfl) (.cons (vm_int rfl) .nil))))) .nil))) <;> (try (exfalso; omega; done)) <;> (with_reducible conv => whnf))
  exact ret0 vm_p
theorem checkRule_ok {x : Rl} : FnOK Try.prog 37 [eRl x] (I (ruleE x)) [] := by
  refine fn_i hmix hT Try.f37 (by kernel_rfl) rfl (by kernel_rfl) ?_
  with_reducible conv => whnf
  repeat' ((first | (with_reducible refine branch_t ?_) | (with_reducible refine branch_f ?_) | (with_reducible refine branch_nt ?_) | (with_reducible refine branch_nf ?_) | (with_reducible refine branch_dec (fun _ => ?_) (fun _ => ?_)) | (with_reducible refine branch_ndec (fun _ => ?_) (fun _ => ?_)) | (with_reducible refine branch_bool (fun _ => ?_) (fun _ => ?_)) | (with_reducible refine arith_64 (by omega) ?_) | (with_reducible refine ob_i (by omega) (fun _ => ?_)) | (with_reducible refine ob_i (by unfold room; omega) (fun _ => ?_)) | (with_reducible refine ob_i (by (try simp only [toN_eq, Int.toNat_natCast] at *); (try dsimp only [toN] at *); omega) (fun _ => ?_)) | (with_reducible refine arith_64 (by (try simp only [toN_eq, Int.toNat_natCast] at *); (try dsimp only [toN] at *); omega) ?_) | (with_reducible refine ob_k rfl ?_) | ((with_reducible refine ob_k ?_ ?_); focus kernel_rfl) | (refine yield_i hmix hT rfl hL efr eps eag ebd rfl (by kernel_rfl) ?_) | (apply call_u isActivity_ok) | (apply call_u checkRule1_ok) | (apply call_u unless_ok) | (apply call_l (first_ok (l := [_, _]) (Nat.le_of_ble_eq_true rfl)) (.cons (vm_lit _ rfl rfl (.cons (vm_int rfl) (.cons (vm_int rfl) .nil))) .nil)) | (apply call_l (first_ok (l := [_, _, _]) (Nat.le_of_ble_eq_true rfl)) (.cons (vm_lit _ rfl rfl (.cons (vm_int rfl) (.cons (vm_int rfl) (.cons (vm_int rfl) .nil)))) .nil)) | (apply call_l (first_ok (l := [_, _, _, _]) (Nat.le_of_ble_eq_true rfl)) (.cons (vm_lit _ rfl rfl (.cons (vm_int rfl) (.cons (vm_int rfl) (.cons (vm_int rfl) (.cons (vm_int rfl) .nil))))) .nil))) <;> (try (exfalso; omega; done)) <;> (with_reducible conv => whnf))
  all_goals exact ret0 (vm_int (by unfold ruleE; grind))
theorem rCheckRule_ok {x : Rl} : FnOK Try.prog 36 [eRl x] (I (ruleE x)) [] := by
  refine fn_i hmix hT Try.f36 (by kernel_rfl) rfl (by kernel_rfl) ?_
  with_reducible conv => whnf
  repeat' ((first | (with_reducible refine branch_t ?_) | (with_reducible refine branch_f ?_) | (with_reducible refine branch_nt ?_) | (with_reducible refine branch_nf ?_) | (with_reducible refine branch_dec (fun _ => ?_) (fun _ => ?_)) | (with_reducible refine branch_ndec (fun _ => ?_) (fun _ => ?_)) | (with_reducible refine branch_bool (fun _ => ?_) (fun _ => ?_)) | (with_reducible refine arith_64 (by omega) ?_) | (with_reducible refine ob_i (by omega) (fun _ => ?_)) | (with_reducible refine ob_i (by unfold room; omega) (fun _ => ?_)) | (with_reducible refine ob_i (by (try simp only [toN_eq, Int.toNat_natCast] at *); (try dsimp only [toN] at *); omega) (fun _ => ?_)) | (with_reducible refine arith_64 (by (try simp only [toN_eq, Int.toNat_natCast] at *); (try dsimp only [toN] at *); omega) ?_) | (with_reducible refine ob_k rfl ?_) | ((with_reducible refine ob_k ?_ ?_); focus kernel_rfl) | (refine yield_i hmix hT rfl hL efr eps eag ebd rfl (by kernel_rfl) ?_) | (apply call_u rIsActivity_ok) | (apply call_u bWithin_ok) | (apply call_l (first_ok (l := [_, _]) (Nat.le_of_ble_eq_true rfl)) (.cons (vm_lit _ rfl rfl (.cons (vm_int rfl) (.cons (vm_int rfl) .nil))) .nil)) | (apply call_l (first_ok (l := [_, _, _]) (Nat.le_of_ble_eq_true rfl)) (.cons (vm_lit _ rfl rfl (.cons (vm_int rfl) (.cons (vm_int rfl) (.cons (vm_int rfl) .nil)))) .nil)) | (apply call_l (first_ok (l := [_, _, _, _]) (Nat.le_of_ble_eq_true rfl)) (.cons (vm_lit _ rfl rfl (.cons (vm_int rfl) (.cons (vm_int rfl) (.cons (vm_int rfl) (.cons (vm_int rfl) .nil))))) .nil))) <;> (try (exfalso; omega; done)) <;> (with_reducible conv => whnf))
  all_goals exact ret0 (vm_int (by unfold ruleE; grind))
structure MvV (x : Rl) (lo hi a : Int) : Prop where
  q : 0 ≤ x.q ∧ x.q ≤ 9
  l : 0 ≤ x.l ∧ x.l ≤ 1000
  r : 0 ≤ x.r ∧ x.r ≤ 1000
  l0 : 0 ≤ lo
  h0 : hi ≤ 3000
  lh : lo ≤ hi
  a0 : 0 ≤ a ∧ a ≤ 9
theorem move_val {x : Rl} {lo hi a : Int} (h : moveE x lo hi a = 0) : MvV x lo hi a := by
  unfold moveE ruleE rangeE actE at h
  constructor <;> grind
theorem move_bds {x : Rl} {lo hi a : Int} (v : MvV x lo hi a) : (0 ≤ max 0 (a - x.q) * x.r ∧ max 0 (a - x.q) * x.r ≤ 9000) ∧ (0 ≤ max 0 (a - x.q) * x.l ∧ max 0 (a - x.q) * x.l ≤ 9000) ∧ (0 ≤ lo * (1000 + max 0 (a - x.q) * x.r) ∧ lo * (1000 + max 0 (a - x.q) * x.r) ≤ 30000000) ∧
    (0 ≤ hi * max 0 (1000 - max 0 (a - x.q) * x.l) ∧ hi * max 0 (1000 - max 0 (a - x.q) * x.l) ≤ 3000000) := by
  obtain ⟨q, l, r, l0, h0, lh, a0⟩ := v
  have p1 := Int.mul_nonneg (show 0 ≤ max 0 (a - x.q) by omega) r.1
  have p2 := Int.mul_le_mul (show max 0 (a - x.q) ≤ 9 by omega) r.2 r.1 (by omega)
  have p3 := Int.mul_nonneg (show 0 ≤ max 0 (a - x.q) by omega) l.1
  have p4 := Int.mul_le_mul (show max 0 (a - x.q) ≤ 9 by omega) l.2 l.1 (by omega)
  have p5 := Int.mul_nonneg l0 (show 0 ≤ 1000 + max 0 (a - x.q) * x.r by omega)
  have p6 := Int.mul_le_mul (show lo ≤ 3000 by omega) (show 1000 + max 0 (a - x.q) * x.r ≤ 10000 by omega) (by omega) (by omega)
  have p7 := Int.mul_nonneg (show 0 ≤ hi by omega) (show 0 ≤ max 0 (1000 - max 0 (a - x.q) * x.l) by omega)
  have p8 := Int.mul_le_mul h0 (show max 0 (1000 - max 0 (a - x.q) * x.l) ≤ 1000 by omega) (by omega) (by omega)
  exact ⟨⟨p1, by omega⟩, ⟨p3, by omega⟩, ⟨p5, by omega⟩, ⟨p7, by omega⟩⟩
theorem movedBy_bad {x : Rl} {lo hi a : Int} (h : moveE x lo hi a ≠ 0) : FnOK Try.prog 35 [eRl x, .agg [I lo, I hi], I a] (.tup [.agg [I 0, I 0], I (moveE x lo hi a)]) [] := by
  have F := first_ok (l := [ruleE x, rangeE lo hi, if decide (0 ≤ a ∧ a ≤ 9) = true then 0 else 2]) (by simp)
  rw [show firstErr [ruleE x, rangeE lo hi, if decide (0 ≤ a ∧ a ≤ 9) = true then 0 else 2] = moveE x lo hi a by rw [first_three]; unfold moveE actE; grind] at F
  refine fn_i hmix hT Try.f35 (by kernel_rfl) rfl (by kernel_rfl) ?_
  with_reducible conv => whnf
  repeat' ((first | (with_reducible refine branch_t ?_) | (with_reducible refine branch_f ?_) | (with_reducible refine branch_nt ?_) | (with_reducible refine branch_nf ?_) | (with_reducible refine branch_dec (fun _ => ?_) (fun _ => ?_)) | (with_reducible refine branch_ndec (fun _ => ?_) (fun _ => ?_)) | (with_reducible refine branch_bool (fun _ => ?_) (fun _ => ?_)) | (with_reducible refine arith_64 (by omega) ?_) | (with_reducible refine ob_i (by omega) (fun _ => ?_)) | (with_reducible refine ob_i (by unfold room; omega) (fun _ => ?_)) | (with_reducible refine ob_i (by (try simp only [] at *); (try dsimp only [toN] at *); omega) (fun _ => ?_)) | (with_reducible refine arith_64 (by (try simp only [toN_eq, Int.toNat_natCast] at *); (try dsimp only [toN] at *); omega) ?_) | (with_reducible refine ob_k rfl ?_) | ((with_reducible refine ob_k ?_ ?_); focus kernel_rfl) | (refine yield_i hmix hT rfl hL efr eps eag ebd rfl (by kernel_rfl) ?_) | (apply call_u checkRule_ok) | (apply call_u rangeErr_ok) | (apply call_u isActivity_ok) | (apply call_u unless_ok) | (apply call_l F (.cons (vm_lit _ rfl rfl (.cons (vm_int rfl) (.cons (vm_int rfl) (.cons (vm_int rfl) .nil)))) .nil)) | (apply call_l (first_ok (l := [_, _]) (Nat.le_of_ble_eq_true rfl)) (.cons (vm_lit _ rfl rfl (.cons (vm_int rfl) (.cons (vm_int rfl) .nil))) .nil)) | (apply call_l (first_ok (l := [_, _, _]) (Nat.le_of_ble_eq_true rfl)) (.cons (vm_lit _ rfl rfl (.cons (vm_int rfl) (.cons (vm_int rfl) (.cons (vm_int rfl) .nil)))) .nil)) | (apply call_l (first_ok (l := [_, _, _, _]) (Nat.le_of_ble_eq_true rfl)) (.cons (vm_lit _ rfl rfl (.cons (vm_int rfl) (.cons (vm_int rfl) (.cons (vm_int rfl) (.cons (vm_int rfl) .nil))))) .nil))) <;> (try (exfalso; omega; done)) <;> (with_reducible conv => whnf))
  exact ret0 vm_p
theorem movedBy_good {x : Rl} {lo hi a : Int} (h : moveE x lo hi a = 0) : FnOK Try.prog 35 [eRl x, .agg [I lo, I hi], I a] (mvV x lo hi a) [] := by
  have F := first_ok (l := [ruleE x, rangeE lo hi, if decide (0 ≤ a ∧ a ≤ 9) = true then 0 else 2]) (by simp)
  rw [show firstErr [ruleE x, rangeE lo hi, if decide (0 ≤ a ∧ a ≤ 9) = true then 0 else 2] = moveE x lo hi a by rw [first_three]; unfold moveE actE; grind, h] at F
  have v := move_val h
  obtain ⟨p1, p2, p3, p4⟩ := move_bds v
  have e1 : (lo * (1000 + max 0 (a - x.q) * x.r) + 1000 - 1).tdiv 1000 = mvLo x lo a := by
    rw [Int.tdiv_eq_ediv_of_nonneg (by omega)]; unfold mvLo; congr 1; omega
  have e2 : (hi * max 0 (1000 - max 0 (a - x.q) * x.l)).tdiv 1000 = mvHi x hi a := Int.tdiv_eq_ediv_of_nonneg (by omega)
  obtain ⟨q, l, r, l0, h0, lh, a0⟩ := v
  have b1 : 0 ≤ mvLo x lo a ∧ mvLo x lo a ≤ 40000 := by unfold mvLo; omega
  have b2 : 0 ≤ mvHi x hi a ∧ mvHi x hi a ≤ 4000 := by unfold mvHi; omega
  unfold mvV
  by_cases c : mvHi x hi a < mvLo x lo a
  · rw [if_pos c]
    refine fn_i hmix hT Try.f35 (by kernel_rfl) rfl (by kernel_rfl) ?_
    with_reducible conv => whnf
    repeat' ((first | (with_reducible refine branch_t ?_) | (with_reducible refine branch_f ?_) | (with_reducible refine branch_nt ?_) | (with_reducible refine branch_nf ?_) | (with_reducible refine branch_dec (fun _ => ?_) (fun _ => ?_)) | (with_reducible refine branch_ndec (fun _ => ?_) (fun _ => ?_)) | (with_reducible refine branch_bool (fun _ => ?_) (fun _ => ?_)) | (with_reducible refine arith_64 (by omega) ?_) | (with_reducible refine ob_i (by omega) (fun _ => ?_)) | (with_reducible refine ob_i (by unfold room; omega) (fun _ => ?_)) | (with_reducible refine ob_i (by (try simp only [] at *); (try dsimp only [toN] at *); omega) (fun _ => ?_)) | (with_reducible refine arith_64 (by (try simp only [toN_eq, Int.toNat_natCast] at *); (try dsimp only [toN] at *); omega) ?_) | (with_reducible refine ob_k rfl ?_) | ((with_reducible refine ob_k ?_ ?_); focus kernel_rfl) | (refine yield_i hmix hT rfl hL efr eps eag ebd rfl (by kernel_rfl) ?_) | (apply call_u checkRule_ok) | (apply call_u rangeErr_ok) | (apply call_u isActivity_ok) | (apply call_u unless_ok) | (apply call_l F (.cons (vm_lit _ rfl rfl (.cons (vm_int rfl) (.cons (vm_int rfl) (.cons (vm_int rfl) .nil)))) .nil)) | (apply call_l (first_ok (l := [_, _]) (Nat.le_of_ble_eq_true rfl)) (.cons (vm_lit _ rfl rfl (.cons (vm_int rfl) (.cons (vm_int rfl) .nil))) .nil)) | (apply call_l (first_ok (l := [_, _, _]) (Nat.le_of_ble_eq_true rfl)) (.cons (vm_lit _ rfl rfl (.cons (vm_int rfl) (.cons (vm_int rfl) (.cons (vm_int rfl) .nil)))) .nil)) | (apply call_l (first_ok (l := [_, _, _, _]) (Nat.le_of_ble_eq_true rfl)) (.cons (vm_lit _ rfl rfl (.cons (vm_int rfl) (.cons (vm_int rfl) (.cons (vm_int rfl) (.cons (vm_int rfl) .nil))))) .nil))) <;> (try (exfalso; omega; done)) <;> (with_reducible conv => whnf))
    exact ret0 vm_p
  · rw [if_neg c]
    refine fn_i hmix hT Try.f35 (by kernel_rfl) rfl (by kernel_rfl) ?_
    with_reducible conv => whnf
    repeat' ((first | (with_reducible refine branch_t ?_) | (with_reducible refine branch_f ?_) | (with_reducible refine branch_nt ?_) | (with_reducible refine branch_nf ?_) | (with_reducible refine branch_dec (fun _ => ?_) (fun _ => ?_)) | (with_reducible refine branch_ndec (fun _ => ?_) (fun _ => ?_)) | (with_reducible refine branch_bool (fun _ => ?_) (fun _ => ?_)) | (with_reducible refine arith_64 (by omega) ?_) | (with_reducible refine ob_i (by omega) (fun _ => ?_)) | (with_reducible refine ob_i (by unfold room; omega) (fun _ => ?_)) | (with_reducible refine ob_i (by (try simp only [] at *); (try dsimp only [toN] at *); omega) (fun _ => ?_)) | (with_reducible refine arith_64 (by (try simp only [toN_eq, Int.toNat_natCast] at *); (try dsimp only [toN] at *); omega) ?_) | (with_reducible refine ob_k rfl ?_) | ((with_reducible refine ob_k ?_ ?_); focus kernel_rfl) | (refine yield_i hmix hT rfl hL efr eps eag ebd rfl (by kernel_rfl) ?_) | (apply call_u checkRule_ok) | (apply call_u rangeErr_ok) | (apply call_u isActivity_ok) | (apply call_u unless_ok) | (apply call_l F (.cons (vm_lit _ rfl rfl (.cons (vm_int rfl) (.cons (vm_int rfl) (.cons (vm_int rfl) .nil)))) .nil)) | (apply call_l (first_ok (l := [_, _]) (Nat.le_of_ble_eq_true rfl)) (.cons (vm_lit _ rfl rfl (.cons (vm_int rfl) (.cons (vm_int rfl) .nil))) .nil)) | (apply call_l (first_ok (l := [_, _, _]) (Nat.le_of_ble_eq_true rfl)) (.cons (vm_lit _ rfl rfl (.cons (vm_int rfl) (.cons (vm_int rfl) (.cons (vm_int rfl) .nil)))) .nil)) | (apply call_l (first_ok (l := [_, _, _, _]) (Nat.le_of_ble_eq_true rfl)) (.cons (vm_lit _ rfl rfl (.cons (vm_int rfl) (.cons (vm_int rfl) (.cons (vm_int rfl) (.cons (vm_int rfl) .nil))))) .nil))) <;> (try (exfalso; omega; done)) <;> (with_reducible conv => whnf))
    exact ret0 (vm_tup (.cons (vm_agg (.cons (vm_int e1) (.cons (vm_int e2) .nil))) (.cons vm_p .nil)))
theorem moved_ok {x : Rl} {lo hi a : Int} (h : moveE x lo hi a = 0) : FnOK Try.prog 40 [eRl x, .agg [I lo, I hi], I a] (mvV x lo hi a) [] := by
  have v := move_val h
  obtain ⟨p1, p2, p3, p4⟩ := move_bds v
  have C := ceil_ok (n := lo * (1000 + max 0 (a - x.q) * x.r)) (b := 1000) (by omega) (by omega)
  have D := floor_ok (n := hi * max 0 (1000 - max 0 (a - x.q) * x.l)) (b := 1000) (by omega) (by omega)
  have e1 : ceilE (lo * (1000 + max 0 (a - x.q) * x.r)) 1000 = mvLo x lo a := by unfold mvLo ceilE; omega
  have e2 : hi * max 0 (1000 - max 0 (a - x.q) * x.l) / 1000 = mvHi x hi a := rfl
  rw [e1] at C
  rw [e2] at D
  obtain ⟨q, l, r, l0, h0, lh, a0⟩ := v
  unfold mvV
  by_cases c : mvHi x hi a < mvLo x lo a
  · rw [if_pos c]
    refine fn_i hmix hT Try.f40 (by kernel_rfl) rfl (by kernel_rfl) ?_
    with_reducible conv => whnf
    repeat' ((first | (with_reducible refine branch_t ?_) | (with_reducible refine branch_f ?_) | (with_reducible refine branch_nt ?_) | (with_reducible refine branch_nf ?_) | (with_reducible refine branch_dec (fun _ => ?_) (fun _ => ?_)) | (with_reducible refine branch_ndec (fun _ => ?_) (fun _ => ?_)) | (with_reducible refine branch_bool (fun _ => ?_) (fun _ => ?_)) | (with_reducible refine arith_64 (by omega) ?_) | (with_reducible refine ob_i (by omega) (fun _ => ?_)) | (with_reducible refine ob_i (by unfold room; omega) (fun _ => ?_)) | (with_reducible refine ob_i (by (try simp only [] at *); (try dsimp only [toN] at *); omega) (fun _ => ?_)) | (with_reducible refine arith_64 (by (try simp only [toN_eq, Int.toNat_natCast] at *); (try dsimp only [toN] at *); omega) ?_) | (with_reducible refine ob_k rfl ?_) | ((with_reducible refine ob_k ?_ ?_); focus kernel_rfl) | (refine yield_i hmix hT rfl hL efr eps eag ebd rfl (by kernel_rfl) ?_) | (apply call_u C) | (apply call_u D) | (apply call_l (first_ok (l := [_, _]) (Nat.le_of_ble_eq_true rfl)) (.cons (vm_lit _ rfl rfl (.cons (vm_int rfl) (.cons (vm_int rfl) .nil))) .nil)) | (apply call_l (first_ok (l := [_, _, _]) (Nat.le_of_ble_eq_true rfl)) (.cons (vm_lit _ rfl rfl (.cons (vm_int rfl) (.cons (vm_int rfl) (.cons (vm_int rfl) .nil)))) .nil)) | (apply call_l (first_ok (l := [_, _, _, _]) (Nat.le_of_ble_eq_true rfl)) (.cons (vm_lit _ rfl rfl (.cons (vm_int rfl) (.cons (vm_int rfl) (.cons (vm_int rfl) (.cons (vm_int rfl) .nil))))) .nil))) <;> (try (exfalso; omega; done)) <;> (with_reducible conv => whnf))
    exact ret0 vm_p
  · rw [if_neg c]
    refine fn_i hmix hT Try.f40 (by kernel_rfl) rfl (by kernel_rfl) ?_
    with_reducible conv => whnf
    repeat' ((first | (with_reducible refine branch_t ?_) | (with_reducible refine branch_f ?_) | (with_reducible refine branch_nt ?_) | (with_reducible refine branch_nf ?_) | (with_reducible refine branch_dec (fun _ => ?_) (fun _ => ?_)) | (with_reducible refine branch_ndec (fun _ => ?_) (fun _ => ?_)) | (with_reducible refine branch_bool (fun _ => ?_) (fun _ => ?_)) | (with_reducible refine arith_64 (by omega) ?_) | (with_reducible refine ob_i (by omega) (fun _ => ?_)) | (with_reducible refine ob_i (by unfold room; omega) (fun _ => ?_)) | (with_reducible refine ob_i (by (try simp only [] at *); (try dsimp only [toN] at *); omega) (fun _ => ?_)) | (with_reducible refine arith_64 (by (try simp only [toN_eq, Int.toNat_natCast] at *); (try dsimp only [toN] at *); omega) ?_) | (with_reducible refine ob_k rfl ?_) | ((with_reducible refine ob_k ?_ ?_); focus kernel_rfl) | (refine yield_i hmix hT rfl hL efr eps eag ebd rfl (by kernel_rfl) ?_) | (apply call_u C) | (apply call_u D) | (apply call_l (first_ok (l := [_, _]) (Nat.le_of_ble_eq_true rfl)) (.cons (vm_lit _ rfl rfl (.cons (vm_int rfl) (.cons (vm_int rfl) .nil))) .nil)) | (apply call_l (first_ok (l := [_, _, _]) (Nat.le_of_ble_eq_true rfl)) (.cons (vm_lit _ rfl rfl (.cons (vm_int rfl) (.cons (vm_int rfl) (.cons (vm_int rfl) .nil)))) .nil)) | (apply call_l (first_ok (l := [_, _, _, _]) (Nat.le_of_ble_eq_true rfl)) (.cons (vm_lit _ rfl rfl (.cons (vm_int rfl) (.cons (vm_int rfl) (.cons (vm_int rfl) (.cons (vm_int rfl) .nil))))) .nil))) <;> (try (exfalso; omega; done)) <;> (with_reducible conv => whnf))
    exact ret0 vm_p
set_option maxHeartbeats 4000000 in
set_option maxRecDepth 100000 in
theorem moves_ok (AW : FnOK Try.prog 23 [] (B true) []) {x : Rl} {lo hi a : Int} : FnOK Try.prog 6 [eRl x, .agg [I lo, I hi], I a] (B true) [] := by
  by_cases h : moveE x lo hi a = 0
  case neg =>
    have M := movedBy_bad h
    have h' := h
    unfold moveE actE at h'
    have e : moveE x lo hi a = if ruleE x ≠ 0 then ruleE x else if rangeE lo hi ≠ 0 then rangeE lo hi else actE a := rfl
    unfold actE at e
    by_cases c1 : ruleE x = 0
    · by_cases c2 : rangeE lo hi = 0
      · rw [if_neg (fun k => k c1), if_neg (fun k => k c2)] at e
        refine fn_i hmix hT Try.f6 (by kernel_rfl) rfl (by kernel_rfl) ?_
        with_reducible conv => whnf
        repeat' ((first | (with_reducible refine branch_t ?_) | (with_reducible refine branch_f ?_) | (with_reducible refine branch_nt ?_) | (with_reducible refine branch_nf ?_) | (with_reducible refine branch_dec (fun _ => ?_) (fun _ => ?_)) | (with_reducible refine branch_ndec (fun _ => ?_) (fun _ => ?_)) | (with_reducible refine branch_bool (fun _ => ?_) (fun _ => ?_)) | (with_reducible refine arith_64 (by omega) ?_) | (with_reducible refine ob_i (by omega) (fun _ => ?_)) | (with_reducible refine ob_i (by unfold room; omega) (fun _ => ?_)) | (with_reducible refine ob_i (by (try simp only [] at *); (try dsimp only [toN] at *); omega) (fun _ => ?_)) | (with_reducible refine arith_64 (by (try simp only [] at *); (try dsimp only [toN] at *); omega) ?_) | (with_reducible refine ob_k rfl ?_) | ((with_reducible refine ob_k ?_ ?_); focus kernel_rfl) | (refine yield_i hmix hT rfl hL efr eps eag ebd rfl (by kernel_rfl) ?_) | (apply call_u AW) | (apply call_u M) | (apply call_u rCheckRule_ok) | (apply call_u checkRule_ok) | (apply call_u usableErr_ok) | (apply call_u rIsActivity_ok) | (refine gen_eq2 rfl rfl rfl rfl (by kernel_rfl) (by kernel_rfl) (fun _ => ?_) (fun _ => ?_)) | (refine gen_ne2 rfl rfl rfl rfl (by kernel_rfl) (by kernel_rfl) (fun _ => ?_) (fun _ => ?_)) | (apply call_l (first_ok (l := [_, _]) (Nat.le_of_ble_eq_true rfl)) (.cons (vm_lit _ rfl rfl (.cons (vm_int rfl) (.cons (vm_int rfl) .nil))) .nil)) | (apply call_l (first_ok (l := [_, _, _]) (Nat.le_of_ble_eq_true rfl)) (.cons (vm_lit _ rfl rfl (.cons (vm_int rfl) (.cons (vm_int rfl) (.cons (vm_int rfl) .nil)))) .nil)) | (apply call_l (first_ok (l := [_, _, _, _]) (Nat.le_of_ble_eq_true rfl)) (.cons (vm_lit _ rfl rfl (.cons (vm_int rfl) (.cons (vm_int rfl) (.cons (vm_int rfl) (.cons (vm_int rfl) .nil))))) .nil))) <;> (try (exfalso; omega; done)) <;> (with_reducible conv => whnf))
        all_goals exact ret0 (vm_bool (by simp))
      · rw [if_neg (fun k => k c1), if_pos c2] at e
        refine fn_i hmix hT Try.f6 (by kernel_rfl) rfl (by kernel_rfl) ?_
        with_reducible conv => whnf
        repeat' ((first | (with_reducible refine branch_t ?_) | (with_reducible refine branch_f ?_) | (with_reducible refine branch_nt ?_) | (with_reducible refine branch_nf ?_) | (with_reducible refine branch_dec (fun _ => ?_) (fun _ => ?_)) | (with_reducible refine branch_ndec (fun _ => ?_) (fun _ => ?_)) | (with_reducible refine branch_bool (fun _ => ?_) (fun _ => ?_)) | (with_reducible refine arith_64 (by omega) ?_) | (with_reducible refine ob_i (by omega) (fun _ => ?_)) | (with_reducible refine ob_i (by unfold room; omega) (fun _ => ?_)) | (with_reducible refine ob_i (by (try simp only [] at *); (try dsimp only [toN] at *); omega) (fun _ => ?_)) | (with_reducible refine arith_64 (by (try simp only [] at *); (try dsimp only [toN] at *); omega) ?_) | (with_reducible refine ob_k rfl ?_) | ((with_reducible refine ob_k ?_ ?_); focus kernel_rfl) | (refine yield_i hmix hT rfl hL efr eps eag ebd rfl (by kernel_rfl) ?_) | (apply call_u AW) | (apply call_u M) | (apply call_u rCheckRule_ok) | (apply call_u checkRule_ok) | (apply call_u usableErr_ok) | (apply call_u rIsActivity_ok) | (refine gen_eq2 rfl rfl rfl rfl (by kernel_rfl) (by kernel_rfl) (fun _ => ?_) (fun _ => ?_)) | (refine gen_ne2 rfl rfl rfl rfl (by kernel_rfl) (by kernel_rfl) (fun _ => ?_) (fun _ => ?_)) | (apply call_l (first_ok (l := [_, _]) (Nat.le_of_ble_eq_true rfl)) (.cons (vm_lit _ rfl rfl (.cons (vm_int rfl) (.cons (vm_int rfl) .nil))) .nil)) | (apply call_l (first_ok (l := [_, _, _]) (Nat.le_of_ble_eq_true rfl)) (.cons (vm_lit _ rfl rfl (.cons (vm_int rfl) (.cons (vm_int rfl) (.cons (vm_int rfl) .nil)))) .nil)) | (apply call_l (first_ok (l := [_, _, _, _]) (Nat.le_of_ble_eq_true rfl)) (.cons (vm_lit _ rfl rfl (.cons (vm_int rfl) (.cons (vm_int rfl) (.cons (vm_int rfl) (.cons (vm_int rfl) .nil))))) .nil))) <;> (try (exfalso; omega; done)) <;> (with_reducible conv => whnf))
        all_goals exact ret0 (vm_bool (by simp))
    · rw [if_pos c1] at e
      refine fn_i hmix hT Try.f6 (by kernel_rfl) rfl (by kernel_rfl) ?_
      with_reducible conv => whnf
      repeat' ((first | (with_reducible refine branch_t ?_) | (with_reducible refine branch_f ?_) | (with_reducible refine branch_nt ?_) | (with_reducible refine branch_nf ?_) | (with_reducible refine branch_dec (fun _ => ?_) (fun _ => ?_)) | (with_reducible refine branch_ndec (fun _ => ?_) (fun _ => ?_)) | (with_reducible refine branch_bool (fun _ => ?_) (fun _ => ?_)) | (with_reducible refine arith_64 (by omega) ?_) | (with_reducible refine ob_i (by omega) (fun _ => ?_)) | (with_reducible refine ob_i (by unfold room; omega) (fun _ => ?_)) | (with_reducible refine ob_i (by (try simp only [] at *); (try dsimp only [toN] at *); omega) (fun _ => ?_)) | (with_reducible refine arith_64 (by (try simp only [] at *); (try dsimp only [toN] at *); omega) ?_) | (with_reducible refine ob_k rfl ?_) | ((with_reducible refine ob_k ?_ ?_); focus kernel_rfl) | (refine yield_i hmix hT rfl hL efr eps eag ebd rfl (by kernel_rfl) ?_) | (apply call_u AW) | (apply call_u M) | (apply call_u rCheckRule_ok) | (apply call_u checkRule_ok) | (apply call_u usableErr_ok) | (apply call_u rIsActivity_ok) | (refine gen_eq2 rfl rfl rfl rfl (by kernel_rfl) (by kernel_rfl) (fun _ => ?_) (fun _ => ?_)) | (refine gen_ne2 rfl rfl rfl rfl (by kernel_rfl) (by kernel_rfl) (fun _ => ?_) (fun _ => ?_)) | (apply call_l (first_ok (l := [_, _]) (Nat.le_of_ble_eq_true rfl)) (.cons (vm_lit _ rfl rfl (.cons (vm_int rfl) (.cons (vm_int rfl) .nil))) .nil)) | (apply call_l (first_ok (l := [_, _, _]) (Nat.le_of_ble_eq_true rfl)) (.cons (vm_lit _ rfl rfl (.cons (vm_int rfl) (.cons (vm_int rfl) (.cons (vm_int rfl) .nil)))) .nil)) | (apply call_l (first_ok (l := [_, _, _, _]) (Nat.le_of_ble_eq_true rfl)) (.cons (vm_lit _ rfl rfl (.cons (vm_int rfl) (.cons (vm_int rfl) (.cons (vm_int rfl) (.cons (vm_int rfl) .nil))))) .nil))) <;> (try (exfalso; omega; done)) <;> (with_reducible conv => whnf))
      all_goals exact ret0 (vm_bool (by simp))
  have M := movedBy_good h
  have D := moved_ok h
  have z1 : ruleE x = 0 := by unfold moveE at h; grind
  have z2 : rangeE lo hi = 0 := by unfold moveE at h; grind
  have v := move_val h
  obtain ⟨q, l, r, l0, h0, lh, a0⟩ := v
  unfold mvV at M D
  by_cases c : mvHi x hi a < mvLo x lo a
  · rw [if_pos c] at M D
    refine fn_i hmix hT Try.f6 (by kernel_rfl) rfl (by kernel_rfl) ?_
    with_reducible conv => whnf
    repeat' ((first | (with_reducible refine branch_t ?_) | (with_reducible refine branch_f ?_) | (with_reducible refine branch_nt ?_) | (with_reducible refine branch_nf ?_) | (with_reducible refine branch_dec (fun _ => ?_) (fun _ => ?_)) | (with_reducible refine branch_ndec (fun _ => ?_) (fun _ => ?_)) | (with_reducible refine branch_bool (fun _ => ?_) (fun _ => ?_)) | (with_reducible refine arith_64 (by omega) ?_) | (with_reducible refine ob_i (by omega) (fun _ => ?_)) | (with_reducible refine ob_i (by unfold room; omega) (fun _ => ?_)) | (with_reducible refine ob_i (by (try simp only [] at *); (try dsimp only [toN] at *); omega) (fun _ => ?_)) | (with_reducible refine arith_64 (by (try simp only [] at *); (try dsimp only [toN] at *); omega) ?_) | (with_reducible refine ob_k rfl ?_) | ((with_reducible refine ob_k ?_ ?_); focus kernel_rfl) | (refine yield_i hmix hT rfl hL efr eps eag ebd rfl (by kernel_rfl) ?_) | (apply call_u AW) | (apply call_u M) | (apply call_u D) | (apply call_u rCheckRule_ok) | (apply call_u checkRule_ok) | (apply call_u usableErr_ok) | (apply call_u rIsActivity_ok) | (refine gen_eq2 rfl rfl rfl rfl (by kernel_rfl) (by kernel_rfl) (fun _ => ?_) (fun _ => ?_)) | (refine gen_ne2 rfl rfl rfl rfl (by kernel_rfl) (by kernel_rfl) (fun _ => ?_) (fun _ => ?_)) | (apply call_l (first_ok (l := [_, _]) (Nat.le_of_ble_eq_true rfl)) (.cons (vm_lit _ rfl rfl (.cons (vm_int rfl) (.cons (vm_int rfl) .nil))) .nil)) | (apply call_l (first_ok (l := [_, _, _]) (Nat.le_of_ble_eq_true rfl)) (.cons (vm_lit _ rfl rfl (.cons (vm_int rfl) (.cons (vm_int rfl) (.cons (vm_int rfl) .nil)))) .nil)) | (apply call_l (first_ok (l := [_, _, _, _]) (Nat.le_of_ble_eq_true rfl)) (.cons (vm_lit _ rfl rfl (.cons (vm_int rfl) (.cons (vm_int rfl) (.cons (vm_int rfl) (.cons (vm_int rfl) .nil))))) .nil))) <;> (try (exfalso; omega; done)) <;> (with_reducible conv => whnf))
    all_goals exact ret0 (vm_bool (by simp))
  · rw [if_neg c] at M D
    refine fn_i hmix hT Try.f6 (by kernel_rfl) rfl (by kernel_rfl) ?_
    with_reducible conv => whnf
    repeat' ((first | (with_reducible refine branch_t ?_) | (with_reducible refine branch_f ?_) | (with_reducible refine branch_nt ?_) | (with_reducible refine branch_nf ?_) | (with_reducible refine branch_dec (fun _ => ?_) (fun _ => ?_)) | (with_reducible refine branch_ndec (fun _ => ?_) (fun _ => ?_)) | (with_reducible refine branch_bool (fun _ => ?_) (fun _ => ?_)) | (with_reducible refine arith_64 (by omega) ?_) | (with_reducible refine ob_i (by omega) (fun _ => ?_)) | (with_reducible refine ob_i (by unfold room; omega) (fun _ => ?_)) | (with_reducible refine ob_i (by (try simp only [] at *); (try dsimp only [toN] at *); omega) (fun _ => ?_)) | (with_reducible refine arith_64 (by (try simp only [] at *); (try dsimp only [toN] at *); omega) ?_) | (with_reducible refine ob_k rfl ?_) | ((with_reducible refine ob_k ?_ ?_); focus kernel_rfl) | (refine yield_i hmix hT rfl hL efr eps eag ebd rfl (by kernel_rfl) ?_) | (apply call_u AW) | (apply call_u M) | (apply call_u D) | (apply call_u rCheckRule_ok) | (apply call_u checkRule_ok) | (apply call_u usableErr_ok) | (apply call_u rIsActivity_ok) | (refine gen_eq2 rfl rfl rfl rfl (by kernel_rfl) (by kernel_rfl) (fun _ => ?_) (fun _ => ?_)) | (refine gen_ne2 rfl rfl rfl rfl (by kernel_rfl) (by kernel_rfl) (fun _ => ?_) (fun _ => ?_)) | (apply call_l (first_ok (l := [_, _]) (Nat.le_of_ble_eq_true rfl)) (.cons (vm_lit _ rfl rfl (.cons (vm_int rfl) (.cons (vm_int rfl) .nil))) .nil)) | (apply call_l (first_ok (l := [_, _, _]) (Nat.le_of_ble_eq_true rfl)) (.cons (vm_lit _ rfl rfl (.cons (vm_int rfl) (.cons (vm_int rfl) (.cons (vm_int rfl) .nil)))) .nil)) | (apply call_l (first_ok (l := [_, _, _, _]) (Nat.le_of_ble_eq_true rfl)) (.cons (vm_lit _ rfl rfl (.cons (vm_int rfl) (.cons (vm_int rfl) (.cons (vm_int rfl) (.cons (vm_int rfl) .nil))))) .nil))) <;> (try (exfalso; omega; done)) <;> (with_reducible conv => whnf))
    all_goals exact ret0 (vm_bool (by simp))
/-! ### Narrower -/
theorem mv_mono {x : Rl} {lo hi a : Int} (hl : 0 ≤ lo) (hh : 0 ≤ hi) (h1 : 0 ≤ x.l) (h2 : 0 ≤ x.r) : mvLo x lo a ≤ mvLo x lo (a + 1) ∧ mvHi x hi (a + 1) ≤ mvHi x hi a := by
  have n : max 0 (a - x.q) ≤ max 0 (a + 1 - x.q) := by omega
  have p1 := Int.mul_le_mul_of_nonneg_right n h2
  have p2 := Int.mul_le_mul_of_nonneg_right n h1
  have p3 := Int.mul_le_mul_of_nonneg_left (show 1000 + max 0 (a - x.q) * x.r ≤ 1000 + max 0 (a + 1 - x.q) * x.r by omega) hl
  have p4 := Int.mul_le_mul_of_nonneg_left (show max 0 (1000 - max 0 (a + 1 - x.q) * x.l) ≤ max 0 (1000 - max 0 (a - x.q) * x.l) by omega) hh
  unfold mvLo mvHi
  omega
theorem mv_quiet {x : Rl} {lo hi a : Int} (h : a ≤ x.q) : mvLo x lo a = lo ∧ mvHi x hi a = hi := by
  have n : max 0 (a - x.q) = 0 := by omega
  unfold mvLo mvHi
  rw [n, Int.zero_mul, Int.zero_mul, show max (0 : Int) (1000 - 0) = 1000 from rfl]
  omega
set_option maxHeartbeats 4000000 in
set_option maxRecDepth 100000 in
theorem narrower_ok (AW : FnOK Try.prog 23 [] (B true) []) {x : Rl} {lo hi : Int} : FnOK Try.prog 7 [eRl x, .agg [I lo, I hi]] (B true) [] := by
  by_cases h1 : ruleE x = 0
  case neg =>
    refine fn_i hmix hT Try.f7 (by kernel_rfl) rfl (by kernel_rfl) ?_
    with_reducible conv => whnf
    repeat' ((first | (with_reducible refine branch_t ?_) | (with_reducible refine branch_f ?_) | (with_reducible refine branch_nt ?_) | (with_reducible refine branch_nf ?_) | (with_reducible refine branch_dec (fun _ => ?_) (fun _ => ?_)) | (with_reducible refine branch_ndec (fun _ => ?_) (fun _ => ?_)) | (with_reducible refine branch_bool (fun _ => ?_) (fun _ => ?_)) | (with_reducible refine arith_64 (by omega) ?_) | (with_reducible refine ob_i (by omega) (fun _ => ?_)) | (with_reducible refine ob_i (by unfold room; omega) (fun _ => ?_)) | (with_reducible refine ob_i (by (try simp only [toN_eq, Int.toNat_natCast] at *); (try dsimp only [toN] at *); omega) (fun _ => ?_)) | (with_reducible refine arith_64 (by (try simp only [toN_eq, Int.toNat_natCast] at *); (try dsimp only [toN] at *); omega) ?_) | (with_reducible refine ob_k rfl ?_) | ((with_reducible refine ob_k ?_ ?_); focus kernel_rfl) | (refine yield_i hmix hT rfl hL efr eps eag ebd rfl (by kernel_rfl) ?_) | (apply call_u AW) | (apply call_u rCheckRule_ok) | (apply call_u usableErr_ok) | (apply call_l (first_ok (l := [_, _]) (Nat.le_of_ble_eq_true rfl)) (.cons (vm_lit _ rfl rfl (.cons (vm_int rfl) (.cons (vm_int rfl) .nil))) .nil)) | (apply call_l (first_ok (l := [_, _, _]) (Nat.le_of_ble_eq_true rfl)) (.cons (vm_lit _ rfl rfl (.cons (vm_int rfl) (.cons (vm_int rfl) (.cons (vm_int rfl) .nil)))) .nil)) | (apply call_l (first_ok (l := [_, _, _, _]) (Nat.le_of_ble_eq_true rfl)) (.cons (vm_lit _ rfl rfl (.cons (vm_int rfl) (.cons (vm_int rfl) (.cons (vm_int rfl) (.cons (vm_int rfl) .nil))))) .nil))) <;> (try (exfalso; omega; done)) <;> (with_reducible conv => whnf))
    exact ret0 vm_p
  by_cases h2 : rangeE lo hi = 0
  case neg =>
    refine fn_i hmix hT Try.f7 (by kernel_rfl) rfl (by kernel_rfl) ?_
    with_reducible conv => whnf
    repeat' ((first | (with_reducible refine branch_t ?_) | (with_reducible refine branch_f ?_) | (with_reducible refine branch_nt ?_) | (with_reducible refine branch_nf ?_) | (with_reducible refine branch_dec (fun _ => ?_) (fun _ => ?_)) | (with_reducible refine branch_ndec (fun _ => ?_) (fun _ => ?_)) | (with_reducible refine branch_bool (fun _ => ?_) (fun _ => ?_)) | (with_reducible refine arith_64 (by omega) ?_) | (with_reducible refine ob_i (by omega) (fun _ => ?_)) | (with_reducible refine ob_i (by unfold room; omega) (fun _ => ?_)) | (with_reducible refine ob_i (by (try simp only [toN_eq, Int.toNat_natCast] at *); (try dsimp only [toN] at *); omega) (fun _ => ?_)) | (with_reducible refine arith_64 (by (try simp only [toN_eq, Int.toNat_natCast] at *); (try dsimp only [toN] at *); omega) ?_) | (with_reducible refine ob_k rfl ?_) | ((with_reducible refine ob_k ?_ ?_); focus kernel_rfl) | (refine yield_i hmix hT rfl hL efr eps eag ebd rfl (by kernel_rfl) ?_) | (apply call_u AW) | (apply call_u rCheckRule_ok) | (apply call_u usableErr_ok) | (apply call_l (first_ok (l := [_, _]) (Nat.le_of_ble_eq_true rfl)) (.cons (vm_lit _ rfl rfl (.cons (vm_int rfl) (.cons (vm_int rfl) .nil))) .nil)) | (apply call_l (first_ok (l := [_, _, _]) (Nat.le_of_ble_eq_true rfl)) (.cons (vm_lit _ rfl rfl (.cons (vm_int rfl) (.cons (vm_int rfl) (.cons (vm_int rfl) .nil)))) .nil)) | (apply call_l (first_ok (l := [_, _, _, _]) (Nat.le_of_ble_eq_true rfl)) (.cons (vm_lit _ rfl rfl (.cons (vm_int rfl) (.cons (vm_int rfl) (.cons (vm_int rfl) (.cons (vm_int rfl) .nil))))) .nil))) <;> (try (exfalso; omega; done)) <;> (with_reducible conv => whnf))
    exact ret0 vm_p
  have RU := rCheckRule_ok (x := x)
  have US := usableErr_ok (lo := lo) (hi := hi)
  rw [h1] at RU
  rw [h2] at US
  refine fn_i hmix hT Try.f7 (by kernel_rfl) rfl (by kernel_rfl) ?_
  with_reducible conv => whnf
  repeat' ((first | (with_reducible refine branch_t ?_) | (with_reducible refine branch_f ?_) | (with_reducible refine branch_nt ?_) | (with_reducible refine branch_nf ?_) | (with_reducible refine branch_dec (fun _ => ?_) (fun _ => ?_)) | (with_reducible refine branch_ndec (fun _ => ?_) (fun _ => ?_)) | (with_reducible refine branch_bool (fun _ => ?_) (fun _ => ?_)) | (with_reducible refine arith_64 (by omega) ?_) | (with_reducible refine ob_i (by omega) (fun _ => ?_)) | (with_reducible refine ob_i (by unfold room; omega) (fun _ => ?_)) | (with_reducible refine ob_i (by (try simp only [toN_eq, Int.toNat_natCast] at *); (try dsimp only [toN] at *); omega) (fun _ => ?_)) | (with_reducible refine arith_64 (by (try simp only [toN_eq, Int.toNat_natCast] at *); (try dsimp only [toN] at *); omega) ?_) | (with_reducible refine ob_k rfl ?_) | ((with_reducible refine ob_k ?_ ?_); focus kernel_rfl) | (refine yield_i hmix hT rfl hL efr eps eag ebd rfl (by kernel_rfl) ?_) | (apply call_u AW) | (apply call_u RU) | (apply call_u US) | (apply call_l (first_ok (l := [_, _]) (Nat.le_of_ble_eq_true rfl)) (.cons (vm_lit _ rfl rfl (.cons (vm_int rfl) (.cons (vm_int rfl) .nil))) .nil)) | (apply call_l (first_ok (l := [_, _, _]) (Nat.le_of_ble_eq_true rfl)) (.cons (vm_lit _ rfl rfl (.cons (vm_int rfl) (.cons (vm_int rfl) (.cons (vm_int rfl) .nil)))) .nil)) | (apply call_l (first_ok (l := [_, _, _, _]) (Nat.le_of_ble_eq_true rfl)) (.cons (vm_lit _ rfl rfl (.cons (vm_int rfl) (.cons (vm_int rfl) (.cons (vm_int rfl) (.cons (vm_int rfl) .nil))))) .nil))) <;> (try (exfalso; omega; done)) <;> (with_reducible conv => whnf))
  clear AW RU US
  have vv : (0 ≤ x.q ∧ x.q ≤ 9) ∧ (0 ≤ x.l ∧ x.l ≤ 1000) ∧ (0 ≤ x.r ∧ x.r ≤ 1000) ∧ 0 ≤ lo ∧ lo ≤ hi ∧ hi ≤ 3000 := by
    unfold ruleE at h1; unfold rangeE at h2
    grind
  obtain ⟨vq, vl, vr, v0, v1, v2⟩ := vv
  refine loop_i hmix hT (fun s : Nat × Bool × Int × Int => ([(2, .ptr 0 0), (3, .ptr 1 0), (5, .ptr 2 0), (6, B s.2.1), (7, I s.1)], ⟨3, [(2, .cells [I s.2.2.1, I s.2.2.2] 51), (1, .cells [I lo, I hi] 51), (0, .cells [I x.q, I x.l, I x.r] 73)]⟩)) (fun s => s.1 ≤ 10 ∧ (s.2.1 = false → 1 ≤ s.1 ∧ mvHi x hi ((s.1 : Int) - 1) < mvLo x lo ((s.1 : Int) - 1)) ∧ (s.2.1 = true → s.2.2.1 ≤ mvLo x lo s.1 ∧ mvHi x hi s.1 ≤ s.2.2.2)) (fun s => 10 - s.1) (0, true, lo, hi) ⟨by dsimp only; omega, fun h => (by cases h), fun _ => ?_⟩ ?_ ?_
  · have := mv_quiet (x := x) (lo := lo) (hi := hi) (a := ((0 : Nat) : Int)) (by omega)
    dsimp only
    omega
  · refine ⟨[], rfl, ?_, ?_⟩ <;> repeat' (first | exact trivial | exact vm_p | exact vm_ptr rfl rfl rfl | exact vm_yld rfl rfl | exact vm_own rfl rfl rfl rfl | exact vm_own rfl rfl (by omega) (by omega) | exact vm_int (by omega) | exact vm_nil rfl | exact sbm_cells vmL_p | exact sbm_row rfl (fun _ _ => vm_p) | refine ⟨⟨_, rfl, ?_⟩, ?_⟩ | refine ⟨⟨_, _, _, rfl⟩, ?_⟩ | (refine sbm_loop ?_; rw [efr]) | refine sbm_cells ?_ | refine vmL.cons ?_ ?_ | exact vmL.nil | refine vm_own rfl rfl rfl ?_)
  rintro ⟨k, o, a, b⟩ ⟨k1, k2, k3⟩
  dsimp only at k1 k2 k3
  show codeW _ _ _ [(2, .ptr 0 0), (3, .ptr 1 0), (5, .ptr 2 0), (6, B o), (7, I k)] ⟨3, [(2, .cells [I a, I b] 51), (1, .cells [I lo, I hi] 51), (0, .cells [I x.q, I x.l, I x.r] 73)]⟩ _
  by_cases hk : k ≤ 9
  case neg =>
    with_reducible conv => whnf
    repeat' ((first | (with_reducible refine branch_t ?_) | (with_reducible refine branch_f ?_) | (with_reducible refine branch_nt ?_) | (with_reducible refine branch_nf ?_) | (with_reducible refine branch_dec (fun _ => ?_) (fun _ => ?_)) | (with_reducible refine branch_ndec (fun _ => ?_) (fun _ => ?_)) | (with_reducible refine branch_bool (fun _ => ?_) (fun _ => ?_)) | (with_reducible refine arith_64 (by omega) ?_) | (with_reducible refine ob_i (by omega) (fun _ => ?_)) | (with_reducible refine ob_i (by unfold room; omega) (fun _ => ?_)) | (with_reducible refine ob_i (by (try simp only [toN_eq, Int.toNat_natCast] at *); (try dsimp only [toN] at *); omega) (fun _ => ?_)) | (with_reducible refine arith_64 (by (try simp only [toN_eq, Int.toNat_natCast] at *); (try dsimp only [toN] at *); omega) ?_) | (with_reducible refine ob_k rfl ?_) | ((with_reducible refine ob_k ?_ ?_); focus kernel_rfl) | (refine yield_i hmix hT rfl hL efr eps eag ebd rfl (by kernel_rfl) ?_)  | (apply call_l (first_ok (l := [_, _]) (Nat.le_of_ble_eq_true rfl)) (.cons (vm_lit _ rfl rfl (.cons (vm_int rfl) (.cons (vm_int rfl) .nil))) .nil)) | (apply call_l (first_ok (l := [_, _, _]) (Nat.le_of_ble_eq_true rfl)) (.cons (vm_lit _ rfl rfl (.cons (vm_int rfl) (.cons (vm_int rfl) (.cons (vm_int rfl) .nil)))) .nil)) | (apply call_l (first_ok (l := [_, _, _, _]) (Nat.le_of_ble_eq_true rfl)) (.cons (vm_lit _ rfl rfl (.cons (vm_int rfl) (.cons (vm_int rfl) (.cons (vm_int rfl) (.cons (vm_int rfl) .nil))))) .nil))) <;> (try (exfalso; omega; done)) <;> (with_reducible conv => whnf))
    exact ret0 vm_p
  have mz : moveE x lo hi (k : Int) = 0 := by
    unfold moveE actE
    rw [h1, h2]
    grind
  have M := movedBy_good mz
  have mq := mv_quiet (x := x) (lo := lo) (hi := hi) (a := (k : Int))
  have mm := mv_mono (x := x) (lo := lo) (hi := hi) (a := (k : Int)) (by omega) (by omega) (by omega) (by omega)
  have mp := mv_mono (x := x) (lo := lo) (hi := hi) (a := (k : Int) - 1) (by omega) (by omega) (by omega) (by omega)
  rw [show (k : Int) - 1 + 1 = k by omega] at mp
  unfold mvV at M
  by_cases c : mvHi x hi k < mvLo x lo k
  · rw [if_pos c] at M
    with_reducible conv => whnf
    repeat' ((first | (with_reducible refine branch_t ?_) | (with_reducible refine branch_f ?_) | (with_reducible refine branch_nt ?_) | (with_reducible refine branch_nf ?_) | (with_reducible refine branch_dec (fun _ => ?_) (fun _ => ?_)) | (with_reducible refine branch_ndec (fun _ => ?_) (fun _ => ?_)) | (with_reducible refine branch_bool (fun _ => ?_) (fun _ => ?_)) | (with_reducible refine arith_64 (by omega) ?_) | (with_reducible refine ob_i (by omega) (fun _ => ?_)) | (with_reducible refine ob_i (by unfold room; omega) (fun _ => ?_)) | (with_reducible refine ob_i (by (try simp only [] at *); (try dsimp only [toN] at *); omega) (fun _ => ?_)) | (with_reducible refine arith_64 (by (try simp only [] at *); (try dsimp only [toN] at *); omega) ?_) | (with_reducible refine ob_k rfl ?_) | ((with_reducible refine ob_k ?_ ?_); focus kernel_rfl) | (refine yield_i hmix hT rfl hL efr eps eag ebd rfl (by kernel_rfl) ?_) | (apply call_u M) | (refine gen_eq2 rfl rfl rfl rfl (by kernel_rfl) (by kernel_rfl) (fun _ => ?_) (fun _ => ?_)) | (refine gen_ne2 rfl rfl rfl rfl (by kernel_rfl) (by kernel_rfl) (fun _ => ?_) (fun _ => ?_)) | (apply call_l (first_ok (l := [_, _]) (Nat.le_of_ble_eq_true rfl)) (.cons (vm_lit _ rfl rfl (.cons (vm_int rfl) (.cons (vm_int rfl) .nil))) .nil)) | (apply call_l (first_ok (l := [_, _, _]) (Nat.le_of_ble_eq_true rfl)) (.cons (vm_lit _ rfl rfl (.cons (vm_int rfl) (.cons (vm_int rfl) (.cons (vm_int rfl) .nil)))) .nil)) | (apply call_l (first_ok (l := [_, _, _, _]) (Nat.le_of_ble_eq_true rfl)) (.cons (vm_lit _ rfl rfl (.cons (vm_int rfl) (.cons (vm_int rfl) (.cons (vm_int rfl) (.cons (vm_int rfl) .nil))))) .nil))) <;> (try (exfalso; omega; done)) <;> (with_reducible conv => whnf))
    all_goals
      refine ⟨(k + 1, false, a, b), ⟨by dsimp only; omega, fun _ => ⟨by dsimp only; omega, ?_⟩, fun h => (by cases h)⟩, by dsimp only; omega, ?_⟩
      · dsimp only
        rw [show ((k + 1 : Nat) : Int) - 1 = k by omega]
        exact c
      · refine ⟨[], rfl, ?_, ?_⟩ <;> repeat' (first | exact trivial | exact vm_p | exact vm_ptr rfl rfl rfl | exact vm_yld rfl rfl | exact vm_own rfl rfl rfl rfl | exact vm_own rfl rfl (by omega) (by omega) | exact vm_int (by omega) | exact vm_nil rfl | exact sbm_cells vmL_p | exact sbm_row rfl (fun _ _ => vm_p) | refine ⟨⟨_, rfl, ?_⟩, ?_⟩ | refine ⟨⟨_, _, _, rfl⟩, ?_⟩ | (refine sbm_loop ?_; rw [efr]) | refine sbm_cells ?_ | refine vmL.cons ?_ ?_ | exact vmL.nil | refine vm_own rfl rfl rfl ?_)
  · rw [if_neg c] at M
    have ho : o = true := by
      cases o
      · have := k2 rfl; omega
      · rfl
    subst ho
    have k3 := k3 rfl
    with_reducible conv => whnf
    repeat' ((first | (with_reducible refine branch_t ?_) | (with_reducible refine branch_f ?_) | (with_reducible refine branch_nt ?_) | (with_reducible refine branch_nf ?_) | (with_reducible refine branch_dec (fun _ => ?_) (fun _ => ?_)) | (with_reducible refine branch_ndec (fun _ => ?_) (fun _ => ?_)) | (with_reducible refine branch_bool (fun _ => ?_) (fun _ => ?_)) | (with_reducible refine arith_64 (by omega) ?_) | (with_reducible refine ob_i (by omega) (fun _ => ?_)) | (with_reducible refine ob_i (by unfold room; omega) (fun _ => ?_)) | (with_reducible refine ob_i (by (try simp only [] at *); (try dsimp only [toN] at *); omega) (fun _ => ?_)) | (with_reducible refine arith_64 (by (try simp only [] at *); (try dsimp only [toN] at *); omega) ?_) | (with_reducible refine ob_k rfl ?_) | ((with_reducible refine ob_k ?_ ?_); focus kernel_rfl) | (refine yield_i hmix hT rfl hL efr eps eag ebd rfl (by kernel_rfl) ?_) | (apply call_u M) | (refine gen_eq2 rfl rfl rfl rfl (by kernel_rfl) (by kernel_rfl) (fun _ => ?_) (fun _ => ?_)) | (refine gen_ne2 rfl rfl rfl rfl (by kernel_rfl) (by kernel_rfl) (fun _ => ?_) (fun _ => ?_)) | (apply call_l (first_ok (l := [_, _]) (Nat.le_of_ble_eq_true rfl)) (.cons (vm_lit _ rfl rfl (.cons (vm_int rfl) (.cons (vm_int rfl) .nil))) .nil)) | (apply call_l (first_ok (l := [_, _, _]) (Nat.le_of_ble_eq_true rfl)) (.cons (vm_lit _ rfl rfl (.cons (vm_int rfl) (.cons (vm_int rfl) (.cons (vm_int rfl) .nil)))) .nil)) | (apply call_l (first_ok (l := [_, _, _, _]) (Nat.le_of_ble_eq_true rfl)) (.cons (vm_lit _ rfl rfl (.cons (vm_int rfl) (.cons (vm_int rfl) (.cons (vm_int rfl) (.cons (vm_int rfl) .nil))))) .nil))) <;> (try (exfalso; omega; done)) <;> (with_reducible conv => whnf))
    all_goals
      refine ⟨(k + 1, true, mvLo x lo k, mvHi x hi k), ⟨by dsimp only; omega, fun h => (by cases h), fun _ => ?_⟩, by dsimp only; omega, ?_⟩
      · dsimp only
        rw [show ((k + 1 : Nat) : Int) = k + 1 by omega]
        exact mm
      · refine ⟨[], rfl, ?_, ?_⟩ <;> repeat' (first | exact trivial | exact vm_p | exact vm_ptr rfl rfl rfl | exact vm_yld rfl rfl | exact vm_own rfl rfl rfl rfl | exact vm_own rfl rfl (by omega) (by omega) | exact vm_int (by omega) | exact vm_nil rfl | exact sbm_cells vmL_p | exact sbm_row rfl (fun _ _ => vm_p) | refine ⟨⟨_, rfl, ?_⟩, ?_⟩ | refine ⟨⟨_, _, _, rfl⟩, ?_⟩ | (refine sbm_loop ?_; rw [efr]) | refine sbm_cells ?_ | refine vmL.cons ?_ ?_ | exact vmL.nil | refine vm_own rfl rfl rfl ?_)
end Go.Proofs.Ytfmbgkbnmjbefaa
