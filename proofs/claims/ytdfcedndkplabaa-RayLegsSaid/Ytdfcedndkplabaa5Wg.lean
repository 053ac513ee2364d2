/-
  Chapter 5: fractions of numbers of any size: whole ones, sums, differences, quotients; legs and their squares (by contract).
  Conditions: none.
-/
import Derived.Test.Ytdfcedndkplabaa5Wf
namespace Go.Proofs.Ytdfcedndkplabaa
open Go.RowKit Fx Wd
theorem ratioInt_ok {n : Int} (hn : -9223372036854775808 ≤ n ∧ n ≤ 9223372036854775807) : FnOK Try.prog 21 [I n] (eR (n, 1)) [] := by
  have W1 := bWideOf_ok hn
  have W2 := bWideOf_ok (n := 1) (by omega)
  refine fn_i hmix hT Try.f21 (by kernel_rfl) rfl (by kernel_rfl) ?_
  with_reducible conv => whnf
  repeat' ((first | (with_reducible refine branch_t ?_) | (with_reducible refine branch_f ?_) | (with_reducible refine branch_nt ?_) | (with_reducible refine branch_nf ?_) | (with_reducible refine branch_dec (fun _ => ?_) (fun _ => ?_)) | (with_reducible refine branch_ndec (fun _ => ?_) (fun _ => ?_)) | (with_reducible refine branch_bool (fun _ => ?_) (fun _ => ?_)) | (with_reducible refine arith_64 (by omega) ?_) | (with_reducible refine ob_i (by omega) (fun _ => ?_)) | (with_reducible refine ob_i (by unfold room; omega) (fun _ => ?_)) | (with_reducible refine ob_i (by (try simp only [toN_eq, Int.toNat_natCast] at *); (try dsimp only [toN] at *); omega) (fun _ => ?_)) | (with_reducible refine arith_64 (by (try simp only [toN_eq, Int.toNat_natCast] at *); (try dsimp only [toN] at *); omega) ?_) | (with_reducible refine ob_k rfl ?_) | ((with_reducible refine ob_k ?_ ?_); focus kernel_rfl) | (refine yield_i hmix hT rfl hL efr eps eag ebd rfl (by kernel_rfl) ?_) | (apply call_u W1) | (apply call_u W2) | (apply call_l (first_ok (l := [_, _]) (Nat.le_of_ble_eq_true rfl)) (.cons (vm_lit _ rfl rfl (.cons (vm_int rfl) (.cons (vm_int rfl) .nil))) .nil)) | (apply call_l (first_ok (l := [_, _, _]) (Nat.le_of_ble_eq_true rfl)) (.cons (vm_lit _ rfl rfl (.cons (vm_int rfl) (.cons (vm_int rfl) (.cons (vm_int rfl) .nil)))) .nil)) | (apply call_l (first_ok (l := [_, _, _, _]) (Nat.le_of_ble_eq_true rfl)) (.cons (vm_lit _ rfl rfl (.cons (vm_int rfl) (.cons (vm_int rfl) (.cons (vm_int rfl) (.cons (vm_int rfl) .nil))))) .nil))) <;> (try (exfalso; omega; done)) <;> (with_reducible conv => whnf))
  exact ret0 vm_p
theorem ratioNeg_ok {a : Int × Int} : FnOK Try.prog 50 [eR a] (eR (-a.1, a.2)) [] := by
  have N : FnOK Try.prog 77 [.agg [I a.1.sign, eInts (dg a.1.natAbs)]] (.agg [I (-a.1).sign, eInts (dg (-a.1).natAbs)]) [] := wideNeg_ok (x := a.1)
  refine fn_i hmix hT Try.f50 (by kernel_rfl) rfl (by kernel_rfl) ?_
  with_reducible conv => whnf
  repeat' ((first | (with_reducible refine branch_t ?_) | (with_reducible refine branch_f ?_) | (with_reducible refine branch_nt ?_) | (with_reducible refine branch_nf ?_) | (with_reducible refine branch_dec (fun _ => ?_) (fun _ => ?_)) | (with_reducible refine branch_ndec (fun _ => ?_) (fun _ => ?_)) | (with_reducible refine branch_bool (fun _ => ?_) (fun _ => ?_)) | (with_reducible refine arith_64 (by omega) ?_) | (with_reducible refine ob_i (by omega) (fun _ => ?_)) | (with_reducible refine ob_i (by unfold room; omega) (fun _ => ?_)) | (with_reducible refine ob_i (by (try simp only [toN_eq, Int.toNat_natCast] at *); (try dsimp only [toN] at *); omega) (fun _ => ?_)) | (with_reducible refine arith_64 (by (try simp only [toN_eq, Int.toNat_natCast] at *); (try dsimp only [toN] at *); omega) ?_) | (with_reducible refine ob_k rfl ?_) | ((with_reducible refine ob_k ?_ ?_); focus kernel_rfl) | (refine yield_i hmix hT rfl hL efr eps eag ebd rfl (by kernel_rfl) ?_) | (apply call_u N) | (apply call_l (first_ok (l := [_, _]) (Nat.le_of_ble_eq_true rfl)) (.cons (vm_lit _ rfl rfl (.cons (vm_int rfl) (.cons (vm_int rfl) .nil))) .nil)) | (apply call_l (first_ok (l := [_, _, _]) (Nat.le_of_ble_eq_true rfl)) (.cons (vm_lit _ rfl rfl (.cons (vm_int rfl) (.cons (vm_int rfl) (.cons (vm_int rfl) .nil)))) .nil)) | (apply call_l (first_ok (l := [_, _, _, _]) (Nat.le_of_ble_eq_true rfl)) (.cons (vm_lit _ rfl rfl (.cons (vm_int rfl) (.cons (vm_int rfl) (.cons (vm_int rfl) (.cons (vm_int rfl) .nil))))) .nil))) <;> (try (exfalso; omega; done)) <;> (with_reducible conv => whnf))
  exact ret0 vm_p
theorem ratioAdd_ok {a b : Int × Int} (ha : a.2 ≠ 0) (hb : b.2 ≠ 0) {k m : Nat} (hk : k + m ≤ 80) (fa : Fw k a.1 ∧ Fw k a.2) (fb : Fw m b.1 ∧ Fw m b.2) : FnOK Try.prog 49 [eR a, eR b] (eR (rtM (a.1 * b.2 + b.1 * a.2) (a.2 * b.2))) [] := by
  have M1 : FnOK Try.prog 44 [.agg [I a.1.sign, eInts (dg a.1.natAbs)], .agg [I b.2.sign, eInts (dg b.2.natAbs)]] (.agg [I (a.1 * b.2).sign, eInts (dg (a.1 * b.2).natAbs)]) [] := wideMul_ok (by have := fa.1.len; omega) (by have := fb.2.len; omega)
  have M2 : FnOK Try.prog 44 [.agg [I b.1.sign, eInts (dg b.1.natAbs)], .agg [I a.2.sign, eInts (dg a.2.natAbs)]] (.agg [I (b.1 * a.2).sign, eInts (dg (b.1 * a.2).natAbs)]) [] := wideMul_ok (by have := fb.1.len; omega) (by have := fa.2.len; omega)
  have M3 : FnOK Try.prog 44 [.agg [I a.2.sign, eInts (dg a.2.natAbs)], .agg [I b.2.sign, eInts (dg b.2.natAbs)]] (.agg [I (a.2 * b.2).sign, eInts (dg (a.2 * b.2).natAbs)]) [] := wideMul_ok (by have := fa.2.len; omega) (by have := fb.2.len; omega)
  have f1 : Fw (k + m) (a.1 * b.2) := fa.1.mul fb.2
  have f2 : Fw (k + m) (b.1 * a.2) := (fb.1.mul fa.2).mono (by omega)
  have A : FnOK Try.prog 82 [.agg [I (a.1 * b.2).sign, eInts (dg (a.1 * b.2).natAbs)], .agg [I (b.1 * a.2).sign, eInts (dg (b.1 * a.2).natAbs)]] (.agg [I (a.1 * b.2 + b.1 * a.2).sign, eInts (dg (a.1 * b.2 + b.1 * a.2).natAbs)]) [] := wideAdd_ok (by have := f1.len; omega) (by have := f2.len; omega)
  have M : FnOK Try.prog 45 [.agg [I (a.1 * b.2 + b.1 * a.2).sign, eInts (dg (a.1 * b.2 + b.1 * a.2).natAbs)], .agg [I (a.2 * b.2).sign, eInts (dg (a.2 * b.2).natAbs)]] (eR (rtM (a.1 * b.2 + b.1 * a.2) (a.2 * b.2))) [] := ratioMake_ok (Int.mul_ne_zero ha hb) (k := k + m + 1) (by omega) (f1.add f2) ((fa.2.mul fb.2).mono (by omega))
  generalize rtM (a.1 * b.2 + b.1 * a.2) (a.2 * b.2) = r at *
  refine fn_i hmix hT Try.f49 (by kernel_rfl) rfl (by kernel_rfl) ?_
  with_reducible conv => whnf
  repeat' ((first | (with_reducible refine branch_t ?_) | (with_reducible refine branch_f ?_) | (with_reducible refine branch_nt ?_) | (with_reducible refine branch_nf ?_) | (with_reducible refine branch_dec (fun _ => ?_) (fun _ => ?_)) | (with_reducible refine branch_ndec (fun _ => ?_) (fun _ => ?_)) | (with_reducible refine branch_bool (fun _ => ?_) (fun _ => ?_)) | (with_reducible refine arith_64 (by omega) ?_) | (with_reducible refine ob_i (by omega) (fun _ => ?_)) | (with_reducible refine ob_i (by unfold room; omega) (fun _ => ?_)) | (with_reducible refine ob_i (by (try simp only [toN_eq, Int.toNat_natCast] at *); (try dsimp only [toN] at *); omega) (fun _ => ?_)) | (with_reducible refine arith_64 (by (try simp only [toN_eq, Int.toNat_natCast] at *); (try dsimp only [toN] at *); omega) ?_) | (with_reducible refine ob_k rfl ?_) | ((with_reducible refine ob_k ?_ ?_); focus kernel_rfl) | (refine yield_i hmix hT rfl hL efr eps eag ebd rfl (by kernel_rfl) ?_) | (apply call_u M1) | (apply call_u M2) | (apply call_u M3) | (apply call_u A) | (apply call_u M) | (apply call_l (first_ok (l := [_, _]) (Nat.le_of_ble_eq_true rfl)) (.cons (vm_lit _ rfl rfl (.cons (vm_int rfl) (.cons (vm_int rfl) .nil))) .nil)) | (apply call_l (first_ok (l := [_, _, _]) (Nat.le_of_ble_eq_true rfl)) (.cons (vm_lit _ rfl rfl (.cons (vm_int rfl) (.cons (vm_int rfl) (.cons (vm_int rfl) .nil)))) .nil)) | (apply call_l (first_ok (l := [_, _, _, _]) (Nat.le_of_ble_eq_true rfl)) (.cons (vm_lit _ rfl rfl (.cons (vm_int rfl) (.cons (vm_int rfl) (.cons (vm_int rfl) (.cons (vm_int rfl) .nil))))) .nil))) <;> (try (exfalso; omega; done)) <;> (with_reducible conv => whnf))
  exact ret0 vm_p
theorem ratioSub_ok {a b : Int × Int} (ha : a.2 ≠ 0) (hb : b.2 ≠ 0) {k m : Nat} (hk : k + m ≤ 80) (fa : Fw k a.1 ∧ Fw k a.2) (fb : Fw m b.1 ∧ Fw m b.2) : FnOK Try.prog 20 [eR a, eR b] (eR (rtM (a.1 * b.2 + -b.1 * a.2) (a.2 * b.2))) [] := by
  have N := ratioNeg_ok (a := b)
  have A := ratioAdd_ok (a := a) (b := (-b.1, b.2)) ha hb hk fa ⟨fb.1.neg, fb.2⟩
  dsimp only at A
  generalize rtM (a.1 * b.2 + -b.1 * a.2) (a.2 * b.2) = r at *
  refine fn_i hmix hT Try.f20 (by kernel_rfl) rfl (by kernel_rfl) ?_
  with_reducible conv => whnf
  repeat' ((first | (with_reducible refine branch_t ?_) | (with_reducible refine branch_f ?_) | (with_reducible refine branch_nt ?_) | (with_reducible refine branch_nf ?_) | (with_reducible refine branch_dec (fun _ => ?_) (fun _ => ?_)) | (with_reducible refine branch_ndec (fun _ => ?_) (fun _ => ?_)) | (with_reducible refine branch_bool (fun _ => ?_) (fun _ => ?_)) | (with_reducible refine arith_64 (by omega) ?_) | (with_reducible refine ob_i (by omega) (fun _ => ?_)) | (with_reducible refine ob_i (by unfold room; omega) (fun _ => ?_)) | (with_reducible refine ob_i (by (try simp only [toN_eq, Int.toNat_natCast] at *); (try dsimp only [toN] at *); omega) (fun _ => ?_)) | (with_reducible refine arith_64 (by (try simp only [toN_eq, Int.toNat_natCast] at *); (try dsimp only [toN] at *); omega) ?_) | (with_reducible refine ob_k rfl ?_) | ((with_reducible refine ob_k ?_ ?_); focus kernel_rfl) | (refine yield_i hmix hT rfl hL efr eps eag ebd rfl (by kernel_rfl) ?_) | (apply call_u N) | (apply call_u A) | (apply call_l (first_ok (l := [_, _]) (Nat.le_of_ble_eq_true rfl)) (.cons (vm_lit _ rfl rfl (.cons (vm_int rfl) (.cons (vm_int rfl) .nil))) .nil)) | (apply call_l (first_ok (l := [_, _, _]) (Nat.le_of_ble_eq_true rfl)) (.cons (vm_lit _ rfl rfl (.cons (vm_int rfl) (.cons (vm_int rfl) (.cons (vm_int rfl) .nil)))) .nil)) | (apply call_l (first_ok (l := [_, _, _, _]) (Nat.le_of_ble_eq_true rfl)) (.cons (vm_lit _ rfl rfl (.cons (vm_int rfl) (.cons (vm_int rfl) (.cons (vm_int rfl) (.cons (vm_int rfl) .nil))))) .nil))) <;> (try (exfalso; omega; done)) <;> (with_reducible conv => whnf))
  exact ret0 vm_p
theorem ratioDiv_ok {a b : Int × Int} (ha : a.2 ≠ 0) (hb : b.1 ≠ 0) {k m : Nat} (hk : k + m ≤ 90) (fa : Fw k a.1 ∧ Fw k a.2) (fb : Fw m b.1 ∧ Fw m b.2) : FnOK Try.prog 22 [eR a, eR b] (eR (rtM (a.1 * b.2) (a.2 * b.1))) [] := by
  have M1 : FnOK Try.prog 44 [.agg [I a.1.sign, eInts (dg a.1.natAbs)], .agg [I b.2.sign, eInts (dg b.2.natAbs)]] (.agg [I (a.1 * b.2).sign, eInts (dg (a.1 * b.2).natAbs)]) [] := wideMul_ok (by have := fa.1.len; omega) (by have := fb.2.len; omega)
  have M2 : FnOK Try.prog 44 [.agg [I a.2.sign, eInts (dg a.2.natAbs)], .agg [I b.1.sign, eInts (dg b.1.natAbs)]] (.agg [I (a.2 * b.1).sign, eInts (dg (a.2 * b.1).natAbs)]) [] := wideMul_ok (by have := fa.2.len; omega) (by have := fb.1.len; omega)
  have M : FnOK Try.prog 45 [.agg [I (a.1 * b.2).sign, eInts (dg (a.1 * b.2).natAbs)], .agg [I (a.2 * b.1).sign, eInts (dg (a.2 * b.1).natAbs)]] (eR (rtM (a.1 * b.2) (a.2 * b.1))) [] := ratioMake_ok (Int.mul_ne_zero ha hb) (k := k + m) hk (fa.1.mul fb.2) (fa.2.mul fb.1)
  generalize rtM (a.1 * b.2) (a.2 * b.1) = r at *
  refine fn_i hmix hT Try.f22 (by kernel_rfl) rfl (by kernel_rfl) ?_
  with_reducible conv => whnf
  repeat' ((first | (with_reducible refine branch_t ?_) | (with_reducible refine branch_f ?_) | (with_reducible refine branch_nt ?_) | (with_reducible refine branch_nf ?_) | (with_reducible refine branch_dec (fun _ => ?_) (fun _ => ?_)) | (with_reducible refine branch_ndec (fun _ => ?_) (fun _ => ?_)) | (with_reducible refine branch_bool (fun _ => ?_) (fun _ => ?_)) | (with_reducible refine arith_64 (by omega) ?_) | (with_reducible refine ob_i (by omega) (fun _ => ?_)) | (with_reducible refine ob_i (by unfold room; omega) (fun _ => ?_)) | (with_reducible refine ob_i (by (try simp only [toN_eq, Int.toNat_natCast] at *); (try dsimp only [toN] at *); omega) (fun _ => ?_)) | (with_reducible refine arith_64 (by (try simp only [toN_eq, Int.toNat_natCast] at *); (try dsimp only [toN] at *); omega) ?_) | (with_reducible refine ob_k rfl ?_) | ((with_reducible refine ob_k ?_ ?_); focus kernel_rfl) | (refine yield_i hmix hT rfl hL efr eps eag ebd rfl (by kernel_rfl) ?_) | (apply call_u M1) | (apply call_u M2) | (apply call_u M) | (apply call_l (first_ok (l := [_, _]) (Nat.le_of_ble_eq_true rfl)) (.cons (vm_lit _ rfl rfl (.cons (vm_int rfl) (.cons (vm_int rfl) .nil))) .nil)) | (apply call_l (first_ok (l := [_, _, _]) (Nat.le_of_ble_eq_true rfl)) (.cons (vm_lit _ rfl rfl (.cons (vm_int rfl) (.cons (vm_int rfl) (.cons (vm_int rfl) .nil)))) .nil)) | (apply call_l (first_ok (l := [_, _, _, _]) (Nat.le_of_ble_eq_true rfl)) (.cons (vm_lit _ rfl rfl (.cons (vm_int rfl) (.cons (vm_int rfl) (.cons (vm_int rfl) (.cons (vm_int rfl) .nil))))) .nil))) <;> (try (exfalso; omega; done)) <;> (with_reducible conv => whnf))
  exact ret0 vm_p
/-! ### What they stand for -/
theorem Eqv.whole (n : Int) : Eqv (n, 1) n 1 := ⟨by show (0 : Int) < 1; decide, rfl⟩
theorem Eqv.sub1 {b : Int × Int} {m k : Int} (h : Eqv b m k) : Eqv (rtM ((1, 1).1 * b.2 + -b.1 * (1, 1).2) ((1, 1).2 * b.2)) (k - m) k := by
  have p := h.pos
  have e : ((1, 1).1 * b.2 + -b.1 * (1, 1).2 : Int) = b.2 - b.1 := by dsimp only; omega
  have e2 : ((1, 1).2 * b.2 : Int) = b.2 := by dsimp only; omega
  rw [e, e2]
  obtain ⟨r1, r2⟩ := rtM_rep (x := b.2 - b.1) (y := b.2) (by omega)
  refine ⟨r1, ?_⟩
  have q := h.eq
  generalize rtM (b.2 - b.1) b.2 = r at *
  have : r.1 * k * b.2 = (k - m) * r.2 * b.2 := by
    rw [Int.mul_right_comm, r2, Int.sub_mul, Int.sub_mul, Int.sub_mul, Int.sub_mul, show m * r.2 * b.2 = m * b.2 * r.2 by ac_rfl, ← q]
    congr 1 <;> ac_rfl
  exact Int.eq_of_mul_eq_mul_right (by omega) this
theorem Eqv.div {a b : Int × Int} {n d m k : Int} (h : Eqv a n d) (h2 : Eqv b m k) (hb : 0 < b.1) (hm : 0 < m) : Eqv (rtM (a.1 * b.2) (a.2 * b.1)) (n * k) (d * m) := by
  have p := Int.mul_pos h.pos hb
  obtain ⟨r1, r2⟩ := rtM_rep (x := a.1 * b.2) (y := a.2 * b.1) (by omega)
  refine ⟨r1, ?_⟩
  generalize rtM (a.1 * b.2) (a.2 * b.1) = r at *
  have e : a.1 * b.2 * (d * m) = n * k * (a.2 * b.1) := by
    rw [show a.1 * b.2 * (d * m) = a.1 * d * (m * b.2) by ac_rfl, h.eq, ← h2.eq]
    ac_rfl
  have : r.1 * (d * m) * (a.2 * b.1) = n * k * r.2 * (a.2 * b.1) := by
    rw [Int.mul_right_comm, r2, show n * k * r.2 * (a.2 * b.1) = n * k * (a.2 * b.1) * r.2 by ac_rfl, ← e]
    ac_rfl
  exact Int.eq_of_mul_eq_mul_right (by omega) this
/-! ### Legs -/
theorem rootLo_sq {num den : Int} (h : 0 ≤ num) (hd : 0 < den) : rootLo num den * rootLo num den * den ≤ num := by
  have q := Int.ediv_nonneg h (show 0 ≤ den by omega)
  have r := (rt_spec q).2.1
  have e := Int.mul_ediv_add_emod num den
  have e2 := Int.emod_nonneg num (show den ≠ 0 by omega)
  have m : rt (num / den) * rt (num / den) * den ≤ num / den * den := Int.mul_le_mul_of_nonneg_right r (by omega)
  rw [Int.mul_comm] at e
  unfold rootLo
  omega
theorem rootHi_sq {num den : Int} (h : 0 ≤ num) (hd : 0 < den) : num ≤ rootHi num den * rootHi num den * den := by
  have q := Int.ediv_nonneg h (show 0 ≤ den by omega)
  obtain ⟨r0, r1, r2⟩ := rt_spec q
  have e := Int.mul_ediv_add_emod num den
  have e2 := Int.emod_lt_of_pos num hd
  rw [Int.mul_comm] at e
  unfold rootHi
  split
  · rename_i c
    rw [c.2]; omega
  · have m : (num / den + 1) * den ≤ (rt (num / den) + 1) * (rt (num / den) + 1) * den := Int.mul_le_mul_of_nonneg_right (by omega) (by omega)
    rw [Int.add_mul] at m
    omega
theorem rootHi_zero {den : Int} : rootHi 0 den = 0 := by
  have : rt 0 = 0 := rt_uniq (by omega) (by omega) (by omega)
  unfold rootHi
  rw [Int.zero_ediv, this, if_pos (by simp)]
theorem leg_zero {t F d q : Int} : (legE t F 0 d q).2 = 0 := by
  unfold legE legNum
  simp [rootHi_zero]
/-- The square of a leg, and the square of its thickness times the sine square over the cosine square. -/
theorem leg_sq {F n d q t sn sd : Int} (hF : 0 < F) (hn : 0 ≤ n) (hl : 0 < leftE F n d q) (hs : sn * (d * (F - q)) = n * F * sd) (h0 : 0 ≤ sn) (h1 : sn < sd) :
    (legE t F n d q).1 * (legE t F n d q).1 * (sd * (sd - sn)) ≤ 100 * t * (100 * t) * (sn * sd) ∧ 100 * t * (100 * t) * (sn * sd) ≤ (legE t F n d q).2 * (legE t F n d q).2 * (sd * (sd - sn)) := by
  have nn : 0 ≤ legNum t F n := by
    unfold legNum
    have : 0 ≤ 100 * t * (100 * t) := by
      rcases Int.le_total 0 (100 * t) with k | k
      · exact Int.mul_nonneg k k
      · exact Int.mul_nonneg_of_nonpos_of_nonpos k k
    exact Int.mul_nonneg (Int.mul_nonneg this hn) (by omega)
  have a := rootLo_sq nn hl
  have b := rootHi_sq nn hl
  have D : 0 ≤ sd * (sd - sn) := Int.mul_nonneg (by omega) (by omega)
  have key : (sd - sn) * (n * F) = sn * leftE F n d q := by
    unfold leftE
    rw [Int.sub_mul, Int.mul_sub, hs]
    congr 1
    ac_rfl
  have e : legNum t F n * (sd * (sd - sn)) = 100 * t * (100 * t) * (sn * sd) * leftE F n d q := by
    unfold legNum
    rw [show 100 * t * (100 * t) * n * F * (sd * (sd - sn)) = 100 * t * (100 * t) * sd * ((sd - sn) * (n * F)) by ac_rfl, key]
    ac_rfl
  have c1 := Int.mul_le_mul_of_nonneg_right a D
  have c2 := Int.mul_le_mul_of_nonneg_right b D
  rw [e] at c1 c2
  unfold legE
  dsimp only
  generalize rootLo (legNum t F n) (leftE F n d q) = lo at *
  generalize rootHi (legNum t F n) (leftE F n d q) = hi at *
  constructor
  · refine Int.le_of_mul_le_mul_right ?_ hl
    rw [show lo * lo * (sd * (sd - sn)) * leftE F n d q = lo * lo * leftE F n d q * (sd * (sd - sn)) by ac_rfl]
    exact c1
  · refine Int.le_of_mul_le_mul_right ?_ hl
    rw [show hi * hi * (sd * (sd - sn)) * leftE F n d q = hi * hi * leftE F n d q * (sd * (sd - sn)) by ac_rfl]
    exact c2
/-! ### Sums of legs in free space -/
theorem sq_root_le {x y : Int} (hx : 0 ≤ x) (hy : 0 ≤ y) (h : x * x ≤ y * y) : x ≤ y := (sq_le hx hy).1 h
theorem cross_le {a b A B p q : Int} (h1 : 0 ≤ a ∧ 0 ≤ b) (h2 : 0 ≤ A ∧ 0 ≤ B) (hp : 0 ≤ p ∧ 0 ≤ q) (ha : a * a * p ≤ A * A * q) (hb : b * b * p ≤ B * B * q) : a * b * p ≤ A * B * q := by
  refine sq_root_le (Int.mul_nonneg (Int.mul_nonneg h1.1 h1.2) hp.1) (Int.mul_nonneg (Int.mul_nonneg h2.1 h2.2) hp.2) ?_
  rw [show a * b * p * (a * b * p) = a * a * p * (b * b * p) by ac_rfl, show A * B * q * (A * B * q) = A * A * q * (B * B * q) by ac_rfl]
  exact Int.mul_le_mul ha hb (Int.mul_nonneg (Int.mul_nonneg h1.2 h1.2) hp.1) (Int.mul_nonneg (Int.mul_nonneg h2.1 h2.1) hp.2)
theorem add_le {a b A B p q : Int} (h1 : 0 ≤ a ∧ 0 ≤ b) (h2 : 0 ≤ A ∧ 0 ≤ B) (hp : 0 ≤ p ∧ 0 ≤ q) (ha : a * a * p ≤ A * A * q) (hb : b * b * p ≤ B * B * q) : (a + b) * (a + b) * p ≤ (A + B) * (A + B) * q := by
  have c := cross_le h1 h2 hp ha hb
  have e1 : (a + b) * (a + b) * p = a * a * p + 2 * (a * b * p) + b * b * p := by grind
  have e2 : (A + B) * (A + B) * q = A * A * q + 2 * (A * B * q) + B * B * q := by grind
  rw [e1, e2]
  omega
end Go.Proofs.Ytdfcedndkplabaa
