/-
  Chapter 5: fractions of numbers of any size (by contract).
  Conditions: none.
-/
import Derived.Test.Ytdfcedndkplabaa5Wd
namespace Go.Proofs.Ytdfcedndkplabaa
open Go.RowKit Fx Wd
@[reducible] def eR (p : Int × Int) : V := .agg [I p.1.sign, eD p.1.natAbs, I p.2.sign, eD p.2.natAbs]
def rtM (x y : Int) : Int × Int := ((if y < 0 then -x else x) / (Int.gcd x y : Int), (if y < 0 then -y else y) / (Int.gcd x y : Int))
theorem rtM_split {x y : Int} (hy : y ≠ 0) : ∃ g : Int, 0 < g ∧ g = Int.gcd x y ∧ (if y < 0 then -x else x) = g * (rtM x y).1 ∧ (if y < 0 then -y else y) = g * (rtM x y).2 ∧ 0 < (rtM x y).2 := by
  have g0 : 0 < (Int.gcd x y : Int) := by
    have := Int.gcd_pos_of_ne_zero_right x hy
    omega
  have d1 : (Int.gcd x y : Int) ∣ (if y < 0 then -x else x) := by
    have := Int.gcd_dvd_left x y
    split
    · exact Int.dvd_neg.2 this
    · exact this
  have d2 : (Int.gcd x y : Int) ∣ (if y < 0 then -y else y) := by
    have := Int.gcd_dvd_right x y
    split
    · exact Int.dvd_neg.2 this
    · exact this
  have e2 : (if y < 0 then -y else y) = Int.gcd x y * (rtM x y).2 := (Int.mul_ediv_cancel' d2).symm
  refine ⟨Int.gcd x y, g0, rfl, (Int.mul_ediv_cancel' d1).symm, e2, ?_⟩
  have p : 0 < (if y < 0 then -y else y) := by split <;> omega
  rw [e2, Int.mul_comm] at p
  exact Int.pos_of_mul_pos_left p g0
theorem rtM_rep {x y : Int} (hy : y ≠ 0) : 0 < (rtM x y).2 ∧ (rtM x y).1 * y = x * (rtM x y).2 := by
  obtain ⟨g, g0, _, e1, e2, p⟩ := rtM_split (x := x) hy
  refine ⟨p, ?_⟩
  by_cases h : y < 0
  · rw [if_pos h] at e1 e2
    have a1 : x = -(g * (rtM x y).1) := by omega
    have a2 : y = -(g * (rtM x y).2) := by omega
    have : (rtM x y).1 * -(g * (rtM x y).2) = -(g * (rtM x y).1) * (rtM x y).2 := by
      rw [Int.mul_neg, Int.neg_mul, Int.mul_left_comm, Int.mul_assoc]
    rw [← a1, ← a2] at this
    exact this
  · rw [if_neg h] at e1 e2
    have : (rtM x y).1 * (g * (rtM x y).2) = g * (rtM x y).1 * (rtM x y).2 := by rw [Int.mul_left_comm, Int.mul_assoc]
    rw [← e1, ← e2] at this
    exact this
theorem rtM_size {x y : Int} (hy : y ≠ 0) : (rtM x y).1.natAbs ≤ x.natAbs ∧ (rtM x y).2.natAbs ≤ y.natAbs := by
  obtain ⟨g, g0, _, e1, e2, p⟩ := rtM_split (x := x) hy
  have k : ∀ a : Int, a.natAbs ≤ (g * a).natAbs := fun a => by
    rw [Int.natAbs_mul]
    have : 1 * a.natAbs ≤ g.natAbs * a.natAbs := Nat.mul_le_mul_right _ (by omega)
    omega
  have k1 := k (rtM x y).1
  have k2 := k (rtM x y).2
  rw [← e1] at k1
  rw [← e2] at k2
  by_cases h : y < 0
  · rw [if_pos h] at k1 k2; omega
  · rw [if_neg h] at k1 k2; omega
theorem rtM_fw {x y : Int} {k : Nat} (hy : y ≠ 0) (hx : Fw k x) (hk : Fw k y) : Fw k (rtM x y).1 ∧ Fw k (rtM x y).2 := ⟨hx.le (rtM_size hy).1, hk.le (rtM_size hy).2⟩
set_option maxHeartbeats 4000000 in
theorem ratioMake_ok {x y : Int} (hy : y ≠ 0) {k : Nat} (hk : k ≤ 90) (fx : Fw k x) (fy : Fw k y) : FnOK Try.prog 45 [eW x, eW y] (eR (rtM x y)) [] := by
  have SG : FnOK Try.prog 76 [.agg [I y.sign, eInts (dg y.natAbs)]] (I y.sign) [] := wideSign_ok (x := y)
  have NX : FnOK Try.prog 77 [.agg [I x.sign, eInts (dg x.natAbs)]] (.agg [I (-x).sign, eInts (dg (-x).natAbs)]) [] := wideNeg_ok (x := x)
  have NY : FnOK Try.prog 77 [.agg [I y.sign, eInts (dg y.natAbs)]] (.agg [I (-y).sign, eInts (dg (-y).natAbs)]) [] := wideNeg_ok (x := y)
  have W1 : FnOK Try.prog 51 [I 1] (.agg [I (1 : Int).sign, eInts (dg (1 : Int).natAbs)]) [] := bWideOf_ok (n := 1) (by omega)
  have sy := sign_cases y
  obtain ⟨g, g0, eg, e1, e2, p⟩ := rtM_split (x := x) hy
  have gle : g ≤ (if y < 0 then -y else y) := by
    rw [e2]
    have : g * 1 ≤ g * (rtM x y).2 := Int.mul_le_mul_of_nonneg_left (by omega) (by omega)
    omega
  have fg : Fw k g := fy.le (by split at gle <;> omega)
  have CP : FnOK Try.prog 43 [.agg [I g.sign, eInts (dg g.natAbs)], .agg [I (1 : Int).sign, eInts (dg (1 : Int).natAbs)]] (I (g - 1).sign) [] := wideCmp_ok (x := g) (y := 1) (by have := fg.len; omega) (by have := (Fw.small (z := 1) (by decide)).len; omega)
  have sg := sign_cases (g - 1)
  -- the parts with the sign of the denominator taken away
  obtain ⟨X, Y, hX, hY⟩ : ∃ X Y, X = (if y < 0 then -x else x) ∧ Y = (if y < 0 then -y else y) := ⟨_, _, rfl, rfl⟩
  have fX : Fw k X := by
    subst hX
    split
    · exact fx.neg
    · exact fx
  have fY : Fw k Y := by
    subst hY
    split
    · exact fy.neg
    · exact fy
  have gXY : (Int.gcd X Y : Int) = g := by
    rw [eg]
    subst hX hY
    split
    · rw [Int.gcd_neg, Int.neg_gcd]
    · rfl
  have GC : FnOK Try.prog 78 [.agg [I X.sign, eInts (dg X.natAbs)], .agg [I Y.sign, eInts (dg Y.natAbs)]] (.agg [I g.sign, eInts (dg g.natAbs)]) [] := by
    have := wideGcd_ok (x := X) (y := Y) (k := k) (by omega) fX fY
    rw [gXY] at this
    exact this
  have r1 : X / g = (rtM x y).1 := by rw [hX, e1, Int.mul_ediv_cancel_left _ (by omega)]
  have r2 : Y / g = (rtM x y).2 := by rw [hY, e2, Int.mul_ediv_cancel_left _ (by omega)]
  have F1 : FnOK Try.prog 79 [.agg [I X.sign, eInts (dg X.natAbs)], .agg [I g.sign, eInts (dg g.natAbs)]] (.agg [I (X / g).sign, eInts (dg (X / g).natAbs)]) [] := wideFloor_ok (x := X) (y := g) g0 (by omega) fX fg
  have F2 : FnOK Try.prog 79 [.agg [I Y.sign, eInts (dg Y.natAbs)], .agg [I g.sign, eInts (dg g.natAbs)]] (.agg [I (Y / g).sign, eInts (dg (Y / g).natAbs)]) [] := wideFloor_ok (x := Y) (y := g) g0 (by omega) fY fg
  rw [r1] at F1
  rw [r2] at F2
  have one : g = 1 → X = (rtM x y).1 ∧ Y = (rtM x y).2 := fun h => by
    rw [h, Int.ediv_one] at r1 r2
    exact ⟨r1, r2⟩
  generalize rtM x y = r at *
  by_cases neg : y < 0
  · rw [if_pos neg] at hX hY
    have hs : y.sign < 0 := by omega
    subst hX hY
    clear r1 r2 e1 e2 gXY eg fX fY
    by_cases o : g = 1
    · have z : (g - 1).sign = 0 := by rw [o]; rfl
      obtain ⟨o1, o2⟩ := one o
      obtain ⟨ra, rb⟩ := r
      dsimp only at o1 o2
      subst o1 o2
      refine fn_i hmix hT Try.f45 (by kernel_rfl) rfl (by kernel_rfl) ?_
      with_reducible conv => whnf
      repeat' ((first | (with_reducible refine branch_t ?_) | (with_reducible refine branch_f ?_) | (with_reducible refine branch_nt ?_) | (with_reducible refine branch_nf ?_) | (with_reducible refine branch_dec (fun _ => ?_) (fun _ => ?_)) | (with_reducible refine branch_ndec (fun _ => ?_) (fun _ => ?_)) | (with_reducible refine branch_bool (fun _ => ?_) (fun _ => ?_)) | (with_reducible refine arith_64 (by omega) ?_) | (with_reducible refine ob_i (by omega) (fun _ => ?_)) | (with_reducible refine ob_i (by unfold room; omega) (fun _ => ?_)) | (with_reducible refine ob_i (by (try simp only [] at *); (try dsimp only [toN] at *); omega) (fun _ => ?_)) | (with_reducible refine arith_64 (by (try simp only [] at *); (try dsimp only [toN] at *); omega) ?_) | (with_reducible refine ob_k rfl ?_) | ((with_reducible refine ob_k ?_ ?_); focus kernel_rfl) | (refine yield_i hmix hT rfl hL efr eps eag ebd rfl (by kernel_rfl) ?_) | (apply call_u SG) | (apply call_u NX) | (apply call_u NY) | (apply call_u GC) | (apply call_u W1) | (apply call_u CP) | (apply call_u F1) | (apply call_u F2) | (apply call_l (first_ok (l := [_, _]) (Nat.le_of_ble_eq_true rfl)) (.cons (vm_lit _ rfl rfl (.cons (vm_int rfl) (.cons (vm_int rfl) .nil))) .nil)) | (apply call_l (first_ok (l := [_, _, _]) (Nat.le_of_ble_eq_true rfl)) (.cons (vm_lit _ rfl rfl (.cons (vm_int rfl) (.cons (vm_int rfl) (.cons (vm_int rfl) .nil)))) .nil)) | (apply call_l (first_ok (l := [_, _, _, _]) (Nat.le_of_ble_eq_true rfl)) (.cons (vm_lit _ rfl rfl (.cons (vm_int rfl) (.cons (vm_int rfl) (.cons (vm_int rfl) (.cons (vm_int rfl) .nil))))) .nil))) <;> (try (exfalso; omega; done)) <;> (with_reducible conv => whnf))
      exact ret0 vm_p
    · have z : (g - 1).sign ≠ 0 := by omega
      refine fn_i hmix hT Try.f45 (by kernel_rfl) rfl (by kernel_rfl) ?_
      with_reducible conv => whnf
      repeat' ((first | (with_reducible refine branch_t ?_) | (with_reducible refine branch_f ?_) | (with_reducible refine branch_nt ?_) | (with_reducible refine branch_nf ?_) | (with_reducible refine branch_dec (fun _ => ?_) (fun _ => ?_)) | (with_reducible refine branch_ndec (fun _ => ?_) (fun _ => ?_)) | (with_reducible refine branch_bool (fun _ => ?_) (fun _ => ?_)) | (with_reducible refine arith_64 (by omega) ?_) | (with_reducible refine ob_i (by omega) (fun _ => ?_)) | (with_reducible refine ob_i (by unfold room; omega) (fun _ => ?_)) | (with_reducible refine ob_i (by (try simp only [] at *); (try dsimp only [toN] at *); omega) (fun _ => ?_)) | (with_reducible refine arith_64 (by (try simp only [toN_eq, Int.toNat_natCast] at *); (try dsimp only [toN] at *); omega) ?_) | (with_reducible refine ob_k rfl ?_) | ((with_reducible refine ob_k ?_ ?_); focus kernel_rfl) | (refine yield_i hmix hT rfl hL efr eps eag ebd rfl (by kernel_rfl) ?_) | (apply call_u SG) | (apply call_u NX) | (apply call_u NY) | (apply call_u GC) | (apply call_u W1) | (apply call_u CP) | (apply call_u F1) | (apply call_u F2) | (apply call_l (first_ok (l := [_, _]) (Nat.le_of_ble_eq_true rfl)) (.cons (vm_lit _ rfl rfl (.cons (vm_int rfl) (.cons (vm_int rfl) .nil))) .nil)) | (apply call_l (first_ok (l := [_, _, _]) (Nat.le_of_ble_eq_true rfl)) (.cons (vm_lit _ rfl rfl (.cons (vm_int rfl) (.cons (vm_int rfl) (.cons (vm_int rfl) .nil)))) .nil)) | (apply call_l (first_ok (l := [_, _, _, _]) (Nat.le_of_ble_eq_true rfl)) (.cons (vm_lit _ rfl rfl (.cons (vm_int rfl) (.cons (vm_int rfl) (.cons (vm_int rfl) (.cons (vm_int rfl) .nil))))) .nil))) <;> (try (exfalso; omega; done)) <;> (with_reducible conv => whnf))
      exact ret0 vm_p
  · rw [if_neg neg] at hX hY
    have hs : ¬ y.sign < 0 := by omega
    subst hX hY
    clear r1 r2 e1 e2 gXY eg fX fY
    by_cases o : g = 1
    · have z : (g - 1).sign = 0 := by rw [o]; rfl
      obtain ⟨o1, o2⟩ := one o
      obtain ⟨ra, rb⟩ := r
      dsimp only at o1 o2
      subst o1 o2
      refine fn_i hmix hT Try.f45 (by kernel_rfl) rfl (by kernel_rfl) ?_
      with_reducible conv => whnf
      repeat' ((first | (with_reducible refine branch_t ?_) | (with_reducible refine branch_f ?_) | (with_reducible refine branch_nt ?_) | (with_reducible refine branch_nf ?_) | (with_reducible refine branch_dec (fun _ => ?_) (fun _ => ?_)) | (with_reducible refine branch_ndec (fun _ => ?_) (fun _ => ?_)) | (with_reducible refine branch_bool (fun _ => ?_) (fun _ => ?_)) | (with_reducible refine arith_64 (by omega) ?_) | (with_reducible refine ob_i (by omega) (fun _ => ?_)) | (with_reducible refine ob_i (by unfold room; omega) (fun _ => ?_)) | (with_reducible refine ob_i (by (try simp only [] at *); (try dsimp only [toN] at *); omega) (fun _ => ?_)) | (with_reducible refine arith_64 (by (try simp only [] at *); (try dsimp only [toN] at *); omega) ?_) | (with_reducible refine ob_k rfl ?_) | ((with_reducible refine ob_k ?_ ?_); focus kernel_rfl) | (refine yield_i hmix hT rfl hL efr eps eag ebd rfl (by kernel_rfl) ?_) | (apply call_u SG) | (apply call_u NX) | (apply call_u NY) | (apply call_u GC) | (apply call_u W1) | (apply call_u CP) | (apply call_u F1) | (apply call_u F2) | (apply call_l (first_ok (l := [_, _]) (Nat.le_of_ble_eq_true rfl)) (.cons (vm_lit _ rfl rfl (.cons (vm_int rfl) (.cons (vm_int rfl) .nil))) .nil)) | (apply call_l (first_ok (l := [_, _, _]) (Nat.le_of_ble_eq_true rfl)) (.cons (vm_lit _ rfl rfl (.cons (vm_int rfl) (.cons (vm_int rfl) (.cons (vm_int rfl) .nil)))) .nil)) | (apply call_l (first_ok (l := [_, _, _, _]) (Nat.le_of_ble_eq_true rfl)) (.cons (vm_lit _ rfl rfl (.cons (vm_int rfl) (.cons (vm_int rfl) (.cons (vm_int rfl) (.cons (vm_int rfl) .nil))))) .nil))) <;> (try (exfalso; omega; done)) <;> (with_reducible conv => whnf))
      exact ret0 vm_p
    · have z : (g - 1).sign ≠ 0 := by omega
      refine fn_i hmix hT Try.f45 (by kernel_rfl) rfl (by kernel_rfl) ?_
      with_reducible conv => whnf
      repeat' ((first | (with_reducible refine branch_t ?_) | (with_reducible refine branch_f ?_) | (with_reducible refine branch_nt ?_) | (with_reducible refine branch_nf ?_) | (with_reducible refine branch_dec (fun _ => ?_) (fun _ => ?_)) | (with_reducible refine branch_ndec (fun _ => ?_) (fun _ => ?_)) | (with_reducible refine branch_bool (fun _ => ?_) (fun _ => ?_)) | (with_reducible refine arith_64 (by omega) ?_) | (with_reducible refine ob_i (by omega) (fun _ => ?_)) | (with_reducible refine ob_i (by unfold room; omega) (fun _ => ?_)) | (with_reducible refine ob_i (by (try simp only [] at *); (try dsimp only [toN] at *); omega) (fun _ => ?_)) | (with_reducible refine arith_64 (by (try simp only [toN_eq, Int.toNat_natCast] at *); (try dsimp only [toN] at *); omega) ?_) | (with_reducible refine ob_k rfl ?_) | ((with_reducible refine ob_k ?_ ?_); focus kernel_rfl) | (refine yield_i hmix hT rfl hL efr eps eag ebd rfl (by kernel_rfl) ?_) | (apply call_u SG) | (apply call_u NX) | (apply call_u NY) | (apply call_u GC) | (apply call_u W1) | (apply call_u CP) | (apply call_u F1) | (apply call_u F2) | (apply call_l (first_ok (l := [_, _]) (Nat.le_of_ble_eq_true rfl)) (.cons (vm_lit _ rfl rfl (.cons (vm_int rfl) (.cons (vm_int rfl) .nil))) .nil)) | (apply call_l (first_ok (l := [_, _, _]) (Nat.le_of_ble_eq_true rfl)) (.cons (vm_lit _ rfl rfl (.cons (vm_int rfl) (.cons (vm_int rfl) (.cons (vm_int rfl) .nil)))) .nil)) | (apply call_l (first_ok (l := [_, _, _, _]) (Nat.le_of_ble_eq_true rfl)) (.cons (vm_lit _ rfl rfl (.cons (vm_int rfl) (.cons (vm_int rfl) (.cons (vm_int rfl) (.cons (vm_int rfl) .nil))))) .nil))) <;> (try (exfalso; omega; done)) <;> (with_reducible conv => whnf))
      exact ret0 vm_p
theorem ratioOf_ok {n d : Int} (hn : -9223372036854775808 ≤ n ∧ n ≤ 9223372036854775807) (hd : -9223372036854775808 ≤ d ∧ d ≤ 9223372036854775807) (h0 : d ≠ 0) : FnOK Try.prog 46 [I n, I d] (eR (rtM n d)) [] := by
  have W1 := bWideOf_ok hn
  have W2 := bWideOf_ok hd
  have M := ratioMake_ok (x := n) (y := d) h0 (k := 3) (by omega) (Fw.int (by omega)) (Fw.int (by omega))
  generalize rtM n d = r at *
  refine fn_i hmix hT Try.f46 (by kernel_rfl) rfl (by kernel_rfl) ?_
  with_reducible conv => whnf
  repeat' ((first | (with_reducible refine branch_t ?_) | (with_reducible refine branch_f ?_) | (with_reducible refine branch_nt ?_) | (with_reducible refine branch_nf ?_) | (with_reducible refine branch_dec (fun _ => ?_) (fun _ => ?_)) | (with_reducible refine branch_ndec (fun _ => ?_) (fun _ => ?_)) | (with_reducible refine branch_bool (fun _ => ?_) (fun _ => ?_)) | (with_reducible refine arith_64 (by omega) ?_) | (with_reducible refine ob_i (by omega) (fun _ => ?_)) | (with_reducible refine ob_i (by unfold room; omega) (fun _ => ?_)) | (with_reducible refine ob_i (by (try simp only [toN_eq, Int.toNat_natCast] at *); (try dsimp only [toN] at *); omega) (fun _ => ?_)) | (with_reducible refine arith_64 (by (try simp only [toN_eq, Int.toNat_natCast] at *); (try dsimp only [toN] at *); omega) ?_) | (with_reducible refine ob_k rfl ?_) | ((with_reducible refine ob_k ?_ ?_); focus kernel_rfl) | (refine yield_i hmix hT rfl hL efr eps eag ebd rfl (by kernel_rfl) ?_) | (apply call_u W1) | (apply call_u W2) | (apply call_u M) | (apply call_l (first_ok (l := [_, _]) (Nat.le_of_ble_eq_true rfl)) (.cons (vm_lit _ rfl rfl (.cons (vm_int rfl) (.cons (vm_int rfl) .nil))) .nil)) | (apply call_l (first_ok (l := [_, _, _]) (Nat.le_of_ble_eq_true rfl)) (.cons (vm_lit _ rfl rfl (.cons (vm_int rfl) (.cons (vm_int rfl) (.cons (vm_int rfl) .nil)))) .nil)) | (apply call_l (first_ok (l := [_, _, _, _]) (Nat.le_of_ble_eq_true rfl)) (.cons (vm_lit _ rfl rfl (.cons (vm_int rfl) (.cons (vm_int rfl) (.cons (vm_int rfl) (.cons (vm_int rfl) .nil))))) .nil))) <;> (try (exfalso; omega; done)) <;> (with_reducible conv => whnf))
  exact ret0 vm_p
theorem ratioFrom_ok {f : Int × Int} (hn : -9223372036854775808 ≤ f.1 ∧ f.1 ≤ 9223372036854775807) (hd : -9223372036854775808 ≤ f.2 ∧ f.2 ≤ 9223372036854775807) (h0 : f.2 ≠ 0) : FnOK Try.prog 17 [eFrac f] (eR (rtM f.1 f.2)) [] := by
  have M := ratioOf_ok hn hd h0
  generalize rtM f.1 f.2 = r at *
  refine fn_i hmix hT Try.f17 (by kernel_rfl) rfl (by kernel_rfl) ?_
  with_reducible conv => whnf
  repeat' ((first | (with_reducible refine branch_t ?_) | (with_reducible refine branch_f ?_) | (with_reducible refine branch_nt ?_) | (with_reducible refine branch_nf ?_) | (with_reducible refine branch_dec (fun _ => ?_) (fun _ => ?_)) | (with_reducible refine branch_ndec (fun _ => ?_) (fun _ => ?_)) | (with_reducible refine branch_bool (fun _ => ?_) (fun _ => ?_)) | (with_reducible refine arith_64 (by omega) ?_) | (with_reducible refine ob_i (by omega) (fun _ => ?_)) | (with_reducible refine ob_i (by unfold room; omega) (fun _ => ?_)) | (with_reducible refine ob_i (by (try simp only [toN_eq, Int.toNat_natCast] at *); (try dsimp only [toN] at *); omega) (fun _ => ?_)) | (with_reducible refine arith_64 (by (try simp only [toN_eq, Int.toNat_natCast] at *); (try dsimp only [toN] at *); omega) ?_) | (with_reducible refine ob_k rfl ?_) | ((with_reducible refine ob_k ?_ ?_); focus kernel_rfl) | (refine yield_i hmix hT rfl hL efr eps eag ebd rfl (by kernel_rfl) ?_) | (apply call_u M) | (apply call_l (first_ok (l := [_, _]) (Nat.le_of_ble_eq_true rfl)) (.cons (vm_lit _ rfl rfl (.cons (vm_int rfl) (.cons (vm_int rfl) .nil))) .nil)) | (apply call_l (first_ok (l := [_, _, _]) (Nat.le_of_ble_eq_true rfl)) (.cons (vm_lit _ rfl rfl (.cons (vm_int rfl) (.cons (vm_int rfl) (.cons (vm_int rfl) .nil)))) .nil)) | (apply call_l (first_ok (l := [_, _, _, _]) (Nat.le_of_ble_eq_true rfl)) (.cons (vm_lit _ rfl rfl (.cons (vm_int rfl) (.cons (vm_int rfl) (.cons (vm_int rfl) (.cons (vm_int rfl) .nil))))) .nil))) <;> (try (exfalso; omega; done)) <;> (with_reducible conv => whnf))
  exact ret0 vm_p
theorem ratioMul_ok {a b : Int × Int} (ha : a.2 ≠ 0) (hb : b.2 ≠ 0) {k m : Nat} (hk : k + m ≤ 90) (fa : Fw k a.1 ∧ Fw k a.2) (fb : Fw m b.1 ∧ Fw m b.2) : FnOK Try.prog 16 [eR a, eR b] (eR (rtM (a.1 * b.1) (a.2 * b.2))) [] := by
  have M1 : FnOK Try.prog 44 [.agg [I a.1.sign, eInts (dg a.1.natAbs)], .agg [I b.1.sign, eInts (dg b.1.natAbs)]] (.agg [I (a.1 * b.1).sign, eInts (dg (a.1 * b.1).natAbs)]) [] := wideMul_ok (by have := fa.1.len; omega) (by have := fb.1.len; omega)
  have M2 : FnOK Try.prog 44 [.agg [I a.2.sign, eInts (dg a.2.natAbs)], .agg [I b.2.sign, eInts (dg b.2.natAbs)]] (.agg [I (a.2 * b.2).sign, eInts (dg (a.2 * b.2).natAbs)]) [] := wideMul_ok (by have := fa.2.len; omega) (by have := fb.2.len; omega)
  have M : FnOK Try.prog 45 [.agg [I (a.1 * b.1).sign, eInts (dg (a.1 * b.1).natAbs)], .agg [I (a.2 * b.2).sign, eInts (dg (a.2 * b.2).natAbs)]] (eR (rtM (a.1 * b.1) (a.2 * b.2))) [] := ratioMake_ok (Int.mul_ne_zero ha hb) (k := k + m) hk (fa.1.mul fb.1) (fa.2.mul fb.2)
  generalize rtM (a.1 * b.1) (a.2 * b.2) = r at *
  refine fn_i hmix hT Try.f16 (by kernel_rfl) rfl (by kernel_rfl) ?_
  with_reducible conv => whnf
  repeat' ((first | (with_reducible refine branch_t ?_) | (with_reducible refine branch_f ?_) | (with_reducible refine branch_nt ?_) | (with_reducible refine branch_nf ?_) | (with_reducible refine branch_dec (fun _ => ?_) (fun _ => ?_)) | (with_reducible refine branch_ndec (fun _ => ?_) (fun _ => ?_)) | (with_reducible refine branch_bool (fun _ => ?_) (fun _ => ?_)) | (with_reducible refine arith_64 (by omega) ?_) | (with_reducible refine ob_i (by omega) (fun _ => ?_)) | (with_reducible refine ob_i (by unfold room; omega) (fun _ => ?_)) | (with_reducible refine ob_i (by (try simp only [] at *); (try dsimp only [toN] at *); omega) (fun _ => ?_)) | (with_reducible refine arith_64 (by (try simp only [toN_eq, Int.toNat_natCast] at *); (try dsimp only [toN] at *); omega) ?_) | (with_reducible refine ob_k rfl ?_) | ((with_reducible refine ob_k ?_ ?_); focus kernel_rfl) | (refine yield_i hmix hT rfl hL efr eps eag ebd rfl (by kernel_rfl) ?_) | (apply call_u M1) | (apply call_u M2) | (apply call_u M) | (apply call_l (first_ok (l := [_, _]) (Nat.le_of_ble_eq_true rfl)) (.cons (vm_lit _ rfl rfl (.cons (vm_int rfl) (.cons (vm_int rfl) .nil))) .nil)) | (apply call_l (first_ok (l := [_, _, _]) (Nat.le_of_ble_eq_true rfl)) (.cons (vm_lit _ rfl rfl (.cons (vm_int rfl) (.cons (vm_int rfl) (.cons (vm_int rfl) .nil)))) .nil)) | (apply call_l (first_ok (l := [_, _, _, _]) (Nat.le_of_ble_eq_true rfl)) (.cons (vm_lit _ rfl rfl (.cons (vm_int rfl) (.cons (vm_int rfl) (.cons (vm_int rfl) (.cons (vm_int rfl) .nil))))) .nil))) <;> (try (exfalso; omega; done)) <;> (with_reducible conv => whnf))
  exact ret0 vm_p
theorem ratioCmp_ok {a b : Int × Int} {k m : Nat} (hk : k + m ≤ 390) (fa : Fw k a.1 ∧ Fw k a.2) (fb : Fw m b.1 ∧ Fw m b.2) : FnOK Try.prog 15 [eR a, eR b] (I (a.1 * b.2 - b.1 * a.2).sign) [] := by
  have M1 : FnOK Try.prog 44 [.agg [I a.1.sign, eInts (dg a.1.natAbs)], .agg [I b.2.sign, eInts (dg b.2.natAbs)]] (.agg [I (a.1 * b.2).sign, eInts (dg (a.1 * b.2).natAbs)]) [] := wideMul_ok (by have := fa.1.len; omega) (by have := fb.2.len; omega)
  have M2 : FnOK Try.prog 44 [.agg [I b.1.sign, eInts (dg b.1.natAbs)], .agg [I a.2.sign, eInts (dg a.2.natAbs)]] (.agg [I (b.1 * a.2).sign, eInts (dg (b.1 * a.2).natAbs)]) [] := wideMul_ok (by have := fb.1.len; omega) (by have := fa.2.len; omega)
  have C : FnOK Try.prog 43 [.agg [I (a.1 * b.2).sign, eInts (dg (a.1 * b.2).natAbs)], .agg [I (b.1 * a.2).sign, eInts (dg (b.1 * a.2).natAbs)]] (I (a.1 * b.2 - b.1 * a.2).sign) [] := wideCmp_ok (by have := (fa.1.mul fb.2).len; omega) (by have := (fb.1.mul fa.2).len; omega)
  refine fn_i hmix hT Try.f15 (by kernel_rfl) rfl (by kernel_rfl) ?_
  with_reducible conv => whnf
  repeat' ((first | (with_reducible refine branch_t ?_) | (with_reducible refine branch_f ?_) | (with_reducible refine branch_nt ?_) | (with_reducible refine branch_nf ?_) | (with_reducible refine branch_dec (fun _ => ?_) (fun _ => ?_)) | (with_reducible refine branch_ndec (fun _ => ?_) (fun _ => ?_)) | (with_reducible refine branch_bool (fun _ => ?_) (fun _ => ?_)) | (with_reducible refine arith_64 (by omega) ?_) | (with_reducible refine ob_i (by omega) (fun _ => ?_)) | (with_reducible refine ob_i (by unfold room; omega) (fun _ => ?_)) | (with_reducible refine ob_i (by (try simp only [] at *); (try dsimp only [toN] at *); omega) (fun _ => ?_)) | (with_reducible refine arith_64 (by (try simp only [toN_eq, Int.toNat_natCast] at *); (try dsimp only [toN] at *); omega) ?_) | (with_reducible refine ob_k rfl ?_) | ((with_reducible refine ob_k ?_ ?_); focus kernel_rfl) | (refine yield_i hmix hT rfl hL efr eps eag ebd rfl (by kernel_rfl) ?_) | (apply call_u M1) | (apply call_u M2) | (apply call_u C) | (apply call_l (first_ok (l := [_, _]) (Nat.le_of_ble_eq_true rfl)) (.cons (vm_lit _ rfl rfl (.cons (vm_int rfl) (.cons (vm_int rfl) .nil))) .nil)) | (apply call_l (first_ok (l := [_, _, _]) (Nat.le_of_ble_eq_true rfl)) (.cons (vm_lit _ rfl rfl (.cons (vm_int rfl) (.cons (vm_int rfl) (.cons (vm_int rfl) .nil)))) .nil)) | (apply call_l (first_ok (l := [_, _, _, _]) (Nat.le_of_ble_eq_true rfl)) (.cons (vm_lit _ rfl rfl (.cons (vm_int rfl) (.cons (vm_int rfl) (.cons (vm_int rfl) (.cons (vm_int rfl) .nil))))) .nil))) <;> (try (exfalso; omega; done)) <;> (with_reducible conv => whnf))
  exact ret0 vm_p
end Go.Proofs.Ytdfcedndkplabaa
