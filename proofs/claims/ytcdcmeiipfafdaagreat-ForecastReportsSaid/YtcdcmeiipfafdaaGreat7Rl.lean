/-
  Chapter 7: the law ForecastReports (by contract).
  Conditions: none.
-/
import Derived.Test.YtcdcmeiipfafdaaGreat7Rk
namespace Go.Proofs.YtcdcmeiipfafdaaGreat
open Go.RowKit Fx
theorem scE_op {t : Tb} {l : List Rp} (h : opE t l ≠ 0) : scE t l = opE t l := if_pos h
theorem scE_gap {t : Tb} {l : List Rp} (h : opE t l = 0) : scE t l = gapE t l := if_neg fun c => c h
theorem first_l {a b : Int} (h : a ≠ 0) : firstErr [a, b] = a := by
  rw [firstErr_hit [a, b] 0 (fun i hi => absurd hi (by omega)) (by simp) h]
  rfl
theorem first_r {b : Int} : firstErr [0, b] = b := by
  by_cases h : b = 0
  · subst h; rfl
  · rw [firstErr_hit [0, b] 1 (fun i hi => by obtain rfl : i = 0 := (by omega); rfl) (by simp) h]
    rfl
set_option maxHeartbeats 16000000 in
set_option maxRecDepth 100000 in
theorem reports_ok {t : Tb} {l : List Rp} {w : Int} (AW : FnOK Tryz.prog 5 [] (B true) []) (ht : t.hs.length ≤ 9223372036854775807) (hl : l.length ≤ 9223372036854775807) : FnOK Tryz.prog 3 [eTb t, eRps l, I w] (B true) [] := by
  by_cases few : FewT t
  case neg =>
    have FY := few_no ht few
    refine fn_i hmix hT Tryz.f3 (by kernel_rfl) rfl (by kernel_rfl) ?_
    with_reducible conv => whnf
    repeat' ((first | (with_reducible refine branch_t ?_) | (with_reducible refine branch_f ?_) | (with_reducible refine branch_nt ?_) | (with_reducible refine branch_nf ?_) | (with_reducible refine branch_dec (fun _ => ?_) (fun _ => ?_)) | (with_reducible refine branch_ndec (fun _ => ?_) (fun _ => ?_)) | (with_reducible refine branch_bool (fun _ => ?_) (fun _ => ?_)) | (with_reducible refine arith_64 (by omega) ?_) | (with_reducible refine ob_i (by omega) (fun _ => ?_)) | (with_reducible refine ob_i (by unfold room; omega) (fun _ => ?_)) | (with_reducible refine ob_i (by (try simp only [toN_eq, Int.toNat_natCast] at *); (try dsimp only [toN] at *); omega) (fun _ => ?_)) | (with_reducible refine arith_64 (by (try simp only [toN_eq, Int.toNat_natCast] at *); (try dsimp only [toN] at *); omega) ?_) | (with_reducible refine ob_k rfl ?_) | ((with_reducible refine ob_k ?_ ?_); focus kernel_rfl) | (refine yield_i hmix hT rfl hL efr eps eag ebd rfl (by kernel_rfl) ?_) | (apply call_u AW) | (apply call_u FY) | (apply call_l (first_ok (l := [_, _]) (Nat.le_of_ble_eq_true rfl)) (.cons (vm_lit _ rfl rfl (.cons (vm_int rfl) (.cons (vm_int rfl) .nil))) .nil)) | (apply call_l (first_ok (l := [_, _, _]) (Nat.le_of_ble_eq_true rfl)) (.cons (vm_lit _ rfl rfl (.cons (vm_int rfl) (.cons (vm_int rfl) (.cons (vm_int rfl) .nil)))) .nil)) | (apply call_l (first_ok (l := [_, _, _, _]) (Nat.le_of_ble_eq_true rfl)) (.cons (vm_lit _ rfl rfl (.cons (vm_int rfl) (.cons (vm_int rfl) (.cons (vm_int rfl) (.cons (vm_int rfl) .nil))))) .nil))) <;> (try (exfalso; omega; done)) <;> (with_reducible conv => whnf))
    exact ret0 vm_p
  have FY := few_yes few
  have FW := fewReports_ok hl
  by_cases c2 : l.length ≤ 102
  case neg =>
    rw [decide_eq_false c2] at FW
    refine fn_i hmix hT Tryz.f3 (by kernel_rfl) rfl (by kernel_rfl) ?_
    with_reducible conv => whnf
    repeat' ((first | (with_reducible refine branch_t ?_) | (with_reducible refine branch_f ?_) | (with_reducible refine branch_nt ?_) | (with_reducible refine branch_nf ?_) | (with_reducible refine branch_dec (fun _ => ?_) (fun _ => ?_)) | (with_reducible refine branch_ndec (fun _ => ?_) (fun _ => ?_)) | (with_reducible refine branch_bool (fun _ => ?_) (fun _ => ?_)) | (with_reducible refine arith_64 (by omega) ?_) | (with_reducible refine ob_i (by omega) (fun _ => ?_)) | (with_reducible refine ob_i (by unfold room; omega) (fun _ => ?_)) | (with_reducible refine ob_i (by (try simp only [toN_eq, Int.toNat_natCast] at *); (try dsimp only [toN] at *); omega) (fun _ => ?_)) | (with_reducible refine arith_64 (by (try simp only [toN_eq, Int.toNat_natCast] at *); (try dsimp only [toN] at *); omega) ?_) | (with_reducible refine ob_k rfl ?_) | ((with_reducible refine ob_k ?_ ?_); focus kernel_rfl) | (refine yield_i hmix hT rfl hL efr eps eag ebd rfl (by kernel_rfl) ?_) | (apply call_u AW) | (apply call_u FY) | (apply call_u FW) | (apply call_l (first_ok (l := [_, _]) (Nat.le_of_ble_eq_true rfl)) (.cons (vm_lit _ rfl rfl (.cons (vm_int rfl) (.cons (vm_int rfl) .nil))) .nil)) | (apply call_l (first_ok (l := [_, _, _]) (Nat.le_of_ble_eq_true rfl)) (.cons (vm_lit _ rfl rfl (.cons (vm_int rfl) (.cons (vm_int rfl) (.cons (vm_int rfl) .nil)))) .nil)) | (apply call_l (first_ok (l := [_, _, _, _]) (Nat.le_of_ble_eq_true rfl)) (.cons (vm_lit _ rfl rfl (.cons (vm_int rfl) (.cons (vm_int rfl) (.cons (vm_int rfl) (.cons (vm_int rfl) .nil))))) .nil))) <;> (try (exfalso; omega; done)) <;> (with_reducible conv => whnf))
    exact ret0 vm_p
  rw [decide_eq_true c2] at FW
  have CT := copyTable_ok few
  have CR := copyReports_ok (l := l) (by omega)
  have TE := tableErr_ok few
  have RE := rReportsErr_ok (t := t) (l := l) (by have := few.f; omega) hl
  have ST := sameT_ok tb0_few
  by_cases e0 : opE t l = 0
  case neg =>
    have BL := blend_bad (w := w) few hl (first_l e0) e0
    have CA := calOf_err few hl (by rw [scE_op e0]; exact e0)
    have SC := scoreOf_err few hl (first_l (a := scE t l) (by rw [scE_op e0]; exact e0)) (by rw [scE_op e0]; exact e0)
    rw [scE_op e0] at CA SC
    by_cases et : tbE t = 0
    · have eo : opE t l = rpsE t.fr.length l := if_neg fun c => c et
      rw [eo] at BL CA SC e0
      rw [et] at TE
      generalize rpsE t.fr.length l = z at *
      refine fn_i hmix hT Tryz.f3 (by kernel_rfl) rfl (by kernel_rfl) ?_
      with_reducible conv => whnf
      repeat' ((first | (with_reducible refine branch_t ?_) | (with_reducible refine branch_f ?_) | (with_reducible refine branch_nt ?_) | (with_reducible refine branch_nf ?_) | (with_reducible refine branch_dec (fun _ => ?_) (fun _ => ?_)) | (with_reducible refine branch_ndec (fun _ => ?_) (fun _ => ?_)) | (with_reducible refine branch_bool (fun _ => ?_) (fun _ => ?_)) | (with_reducible refine arith_64 (by omega) ?_) | (with_reducible refine ob_i (by omega) (fun _ => ?_)) | (with_reducible refine ob_i (by unfold room; omega) (fun _ => ?_)) | (with_reducible refine ob_i (by (try simp only [toN_eq, Int.toNat_natCast] at *); (try dsimp only [toN] at *); omega) (fun _ => ?_)) | (with_reducible refine arith_64 (by (try simp only [toN_eq, Int.toNat_natCast] at *); (try dsimp only [toN] at *); omega) ?_) | (with_reducible refine ob_k rfl ?_) | ((with_reducible refine ob_k ?_ ?_); focus kernel_rfl) | (refine yield_i hmix hT rfl hL efr eps eag ebd rfl (by kernel_rfl) ?_) | (apply call_u AW) | (apply call_u FY) | (apply call_u FW) | (apply call_u CT) | (apply call_u CR) | (apply call_u BL) | (apply call_u CA) | (apply call_u SC) | (apply call_u TE) | (apply call_u RE) | (refine call_i ST (.cons vm_p (.cons vm_tb0 .nil)) (pureS_no _) (rv_pure IsPure.h) ?_) | (refine gen_eq2 rfl rfl rfl rfl (by kernel_rfl) (by kernel_rfl) (fun _ => ?_) (fun _ => ?_)) | (refine gen_ne2 rfl rfl rfl rfl (by kernel_rfl) (by kernel_rfl) (fun _ => ?_) (fun _ => ?_)) | (refine gen_eqA rfl rfl rfl rfl rfl (by kernel_rfl) (by kernel_rfl) (fun _ => ?_) (fun h => absurd rfl h)) | (refine gen_neA rfl rfl rfl rfl rfl (by kernel_rfl) (by kernel_rfl) (fun _ => ?_) (fun h => absurd rfl h)) | (apply call_l (first_ok (l := [_, _]) (Nat.le_of_ble_eq_true rfl)) (.cons (vm_lit _ rfl rfl (.cons (vm_int rfl) (.cons (vm_int rfl) .nil))) .nil)) | (apply call_l (first_ok (l := [_, _, _]) (Nat.le_of_ble_eq_true rfl)) (.cons (vm_lit _ rfl rfl (.cons (vm_int rfl) (.cons (vm_int rfl) (.cons (vm_int rfl) .nil)))) .nil)) | (apply call_l (first_ok (l := [_, _, _, _]) (Nat.le_of_ble_eq_true rfl)) (.cons (vm_lit _ rfl rfl (.cons (vm_int rfl) (.cons (vm_int rfl) (.cons (vm_int rfl) (.cons (vm_int rfl) .nil))))) .nil))) <;> (try (exfalso; omega; done)) <;> (with_reducible conv => whnf))
      all_goals exact ret0 vm_p
    · have eo : opE t l = tbE t := if_pos et
      rw [eo] at BL CA SC e0
      generalize tbE t = z at *
      refine fn_i hmix hT Tryz.f3 (by kernel_rfl) rfl (by kernel_rfl) ?_
      with_reducible conv => whnf
      repeat' ((first | (with_reducible refine branch_t ?_) | (with_reducible refine branch_f ?_) | (with_reducible refine branch_nt ?_) | (with_reducible refine branch_nf ?_) | (with_reducible refine branch_dec (fun _ => ?_) (fun _ => ?_)) | (with_reducible refine branch_ndec (fun _ => ?_) (fun _ => ?_)) | (with_reducible refine branch_bool (fun _ => ?_) (fun _ => ?_)) | (with_reducible refine arith_64 (by omega) ?_) | (with_reducible refine ob_i (by omega) (fun _ => ?_)) | (with_reducible refine ob_i (by unfold room; omega) (fun _ => ?_)) | (with_reducible refine ob_i (by (try simp only [toN_eq, Int.toNat_natCast] at *); (try dsimp only [toN] at *); omega) (fun _ => ?_)) | (with_reducible refine arith_64 (by (try simp only [toN_eq, Int.toNat_natCast] at *); (try dsimp only [toN] at *); omega) ?_) | (with_reducible refine ob_k rfl ?_) | ((with_reducible refine ob_k ?_ ?_); focus kernel_rfl) | (refine yield_i hmix hT rfl hL efr eps eag ebd rfl (by kernel_rfl) ?_) | (apply call_u AW) | (apply call_u FY) | (apply call_u FW) | (apply call_u CT) | (apply call_u CR) | (apply call_u BL) | (apply call_u CA) | (apply call_u SC) | (apply call_u TE) | (apply call_u RE) | (refine call_i ST (.cons vm_p (.cons vm_tb0 .nil)) (pureS_no _) (rv_pure IsPure.h) ?_) | (refine gen_eq2 rfl rfl rfl rfl (by kernel_rfl) (by kernel_rfl) (fun _ => ?_) (fun _ => ?_)) | (refine gen_ne2 rfl rfl rfl rfl (by kernel_rfl) (by kernel_rfl) (fun _ => ?_) (fun _ => ?_)) | (refine gen_eqA rfl rfl rfl rfl rfl (by kernel_rfl) (by kernel_rfl) (fun _ => ?_) (fun h => absurd rfl h)) | (refine gen_neA rfl rfl rfl rfl rfl (by kernel_rfl) (by kernel_rfl) (fun _ => ?_) (fun h => absurd rfl h)) | (apply call_l (first_ok (l := [_, _]) (Nat.le_of_ble_eq_true rfl)) (.cons (vm_lit _ rfl rfl (.cons (vm_int rfl) (.cons (vm_int rfl) .nil))) .nil)) | (apply call_l (first_ok (l := [_, _, _]) (Nat.le_of_ble_eq_true rfl)) (.cons (vm_lit _ rfl rfl (.cons (vm_int rfl) (.cons (vm_int rfl) (.cons (vm_int rfl) .nil)))) .nil)) | (apply call_l (first_ok (l := [_, _, _, _]) (Nat.le_of_ble_eq_true rfl)) (.cons (vm_lit _ rfl rfl (.cons (vm_int rfl) (.cons (vm_int rfl) (.cons (vm_int rfl) (.cons (vm_int rfl) .nil))))) .nil))) <;> (try (exfalso; omega; done)) <;> (with_reducible conv => whnf))
      all_goals exact ret0 vm_p
  obtain ⟨et, er⟩ := opE_val e0
  have v := tb_val et
  obtain ⟨hl1, hr⟩ := rps_val er
  rw [et] at TE
  rw [er] at RE
  have WI := bWithin_ok (n := w) (lo := 1) (hi := 10)
  have GE := rGapErr_ok (l := l) v hl
  rw [show gpE t l = gapE t l from if_neg fun c => c er] at GE
  -- the table
  obtain ⟨X, c, fx, BL, RB, hq⟩ : ∃ (X : Tb) (c : Int), FewT X ∧ FnOK Tryz.prog 8 [eTb t, eRps l, I w] (.tup [eTb X, I c]) [] ∧ ((1 ≤ w ∧ w ≤ 10) → FnOK Tryz.prog 17 [eTb t, eRps l, I w] (.tup [eTb X, I c]) []) ∧ (¬ (1 ≤ w ∧ w ≤ 10) → X = tb0 ∧ c = 2) := by
    by_cases hw : 1 ≤ w ∧ w ≤ 10
    · obtain ⟨X, c, h1, h2, h3⟩ := blend_same e0 hw
      exact ⟨X, c, h1, h2, fun _ => h3, fun k => absurd hw k⟩
    · refine ⟨tb0, 2, tb0_few, blend_bad few hl ?_ (by decide), fun k => absurd k hw, fun _ => ⟨rfl, rfl⟩⟩
      rw [e0, decide_eq_false hw]
      exact first_r
  have SX := sameT_ok fx
  by_cases g : gapE t l = 0
  case neg =>
    have CA := calOf_err few hl (by rw [scE_gap e0]; exact g)
    have SC := scoreOf_err few hl (first_l (a := scE t l) (by rw [scE_gap e0]; exact g)) (by rw [scE_gap e0]; exact g)
    rw [scE_gap e0] at CA SC
    generalize gapE t l = z at *
    by_cases hw : 1 ≤ w ∧ w ≤ 10
    · have RB := RB hw
      rw [decide_eq_true hw] at WI
      clear hq
      refine fn_i hmix hT Tryz.f3 (by kernel_rfl) rfl (by kernel_rfl) ?_
      with_reducible conv => whnf
      repeat' ((first | (with_reducible refine branch_t ?_) | (with_reducible refine branch_f ?_) | (with_reducible refine branch_nt ?_) | (with_reducible refine branch_nf ?_) | (with_reducible refine branch_dec (fun _ => ?_) (fun _ => ?_)) | (with_reducible refine branch_ndec (fun _ => ?_) (fun _ => ?_)) | (with_reducible refine branch_bool (fun _ => ?_) (fun _ => ?_)) | (with_reducible refine arith_64 (by omega) ?_) | (with_reducible refine ob_i (by omega) (fun _ => ?_)) | (with_reducible refine ob_i (by unfold room; omega) (fun _ => ?_)) | (with_reducible refine ob_i (by (try simp only [toN_eq, Int.toNat_natCast] at *); (try dsimp only [toN] at *); omega) (fun _ => ?_)) | (with_reducible refine arith_64 (by (try simp only [toN_eq, Int.toNat_natCast] at *); (try dsimp only [toN] at *); omega) ?_) | (with_reducible refine ob_k rfl ?_) | ((with_reducible refine ob_k ?_ ?_); focus kernel_rfl) | (refine yield_i hmix hT rfl hL efr eps eag ebd rfl (by kernel_rfl) ?_) | (apply call_u AW) | (apply call_u FY) | (apply call_u FW) | (apply call_u CT) | (apply call_u CR) | (apply call_u BL) | (apply call_u CA) | (apply call_u SC) | (apply call_u TE) | (apply call_u RE) | (apply call_u WI) | (apply call_u RB) | (apply call_u SX) | (apply call_u GE) | (refine gen_eq2 rfl rfl rfl rfl (by kernel_rfl) (by kernel_rfl) (fun _ => ?_) (fun _ => ?_)) | (refine gen_ne2 rfl rfl rfl rfl (by kernel_rfl) (by kernel_rfl) (fun _ => ?_) (fun _ => ?_)) | (refine gen_eqA rfl rfl rfl rfl rfl (by kernel_rfl) (by kernel_rfl) (fun _ => ?_) (fun h => absurd rfl h)) | (refine gen_neA rfl rfl rfl rfl rfl (by kernel_rfl) (by kernel_rfl) (fun _ => ?_) (fun h => absurd rfl h)) | (apply call_l (first_ok (l := [_, _]) (Nat.le_of_ble_eq_true rfl)) (.cons (vm_lit _ rfl rfl (.cons (vm_int rfl) (.cons (vm_int rfl) .nil))) .nil)) | (apply call_l (first_ok (l := [_, _, _]) (Nat.le_of_ble_eq_true rfl)) (.cons (vm_lit _ rfl rfl (.cons (vm_int rfl) (.cons (vm_int rfl) (.cons (vm_int rfl) .nil)))) .nil)) | (apply call_l (first_ok (l := [_, _, _, _]) (Nat.le_of_ble_eq_true rfl)) (.cons (vm_lit _ rfl rfl (.cons (vm_int rfl) (.cons (vm_int rfl) (.cons (vm_int rfl) (.cons (vm_int rfl) .nil))))) .nil))) <;> (try (exfalso; omega; done)) <;> (with_reducible conv => whnf))
      all_goals exact ret0 vm_p
    · obtain ⟨rfl, rfl⟩ := hq hw
      rw [decide_eq_false hw] at WI
      clear RB
      refine fn_i hmix hT Tryz.f3 (by kernel_rfl) rfl (by kernel_rfl) ?_
      with_reducible conv => whnf
      repeat' ((first | (with_reducible refine branch_t ?_) | (with_reducible refine branch_f ?_) | (with_reducible refine branch_nt ?_) | (with_reducible refine branch_nf ?_) | (with_reducible refine branch_dec (fun _ => ?_) (fun _ => ?_)) | (with_reducible refine branch_ndec (fun _ => ?_) (fun _ => ?_)) | (with_reducible refine branch_bool (fun _ => ?_) (fun _ => ?_)) | (with_reducible refine arith_64 (by omega) ?_) | (with_reducible refine ob_i (by omega) (fun _ => ?_)) | (with_reducible refine ob_i (by unfold room; omega) (fun _ => ?_)) | (with_reducible refine ob_i (by (try simp only [toN_eq, Int.toNat_natCast] at *); (try dsimp only [toN] at *); omega) (fun _ => ?_)) | (with_reducible refine arith_64 (by (try simp only [toN_eq, Int.toNat_natCast] at *); (try dsimp only [toN] at *); omega) ?_) | (with_reducible refine ob_k rfl ?_) | ((with_reducible refine ob_k ?_ ?_); focus kernel_rfl) | (refine yield_i hmix hT rfl hL efr eps eag ebd rfl (by kernel_rfl) ?_) | (apply call_u AW) | (apply call_u FY) | (apply call_u FW) | (apply call_u CT) | (apply call_u CR) | (apply call_u BL) | (apply call_u CA) | (apply call_u SC) | (apply call_u TE) | (apply call_u RE) | (apply call_u WI) | (refine call_i ST (.cons vm_p (.cons vm_tb0 .nil)) (pureS_no _) (rv_pure IsPure.h) ?_) | (apply call_u GE) | (refine gen_eq2 rfl rfl rfl rfl (by kernel_rfl) (by kernel_rfl) (fun _ => ?_) (fun _ => ?_)) | (refine gen_ne2 rfl rfl rfl rfl (by kernel_rfl) (by kernel_rfl) (fun _ => ?_) (fun _ => ?_)) | (refine gen_eqA rfl rfl rfl rfl rfl (by kernel_rfl) (by kernel_rfl) (fun _ => ?_) (fun h => absurd rfl h)) | (refine gen_neA rfl rfl rfl rfl rfl (by kernel_rfl) (by kernel_rfl) (fun _ => ?_) (fun h => absurd rfl h)) | (apply call_l (first_ok (l := [_, _]) (Nat.le_of_ble_eq_true rfl)) (.cons (vm_lit _ rfl rfl (.cons (vm_int rfl) (.cons (vm_int rfl) .nil))) .nil)) | (apply call_l (first_ok (l := [_, _, _]) (Nat.le_of_ble_eq_true rfl)) (.cons (vm_lit _ rfl rfl (.cons (vm_int rfl) (.cons (vm_int rfl) (.cons (vm_int rfl) .nil)))) .nil)) | (apply call_l (first_ok (l := [_, _, _, _]) (Nat.le_of_ble_eq_true rfl)) (.cons (vm_lit _ rfl rfl (.cons (vm_int rfl) (.cons (vm_int rfl) (.cons (vm_int rfl) (.cons (vm_int rfl) .nil))))) .nil))) <;> (try (exfalso; omega; done)) <;> (with_reducible conv => whnf))
      all_goals exact ret0 vm_p
  have hg : ∀ i, i < l.length → (cR t (l.getD i rp0)).2 ≠ 0 := by
    rcases gap_cases t l l.length (Nat.le_refl _) with h | ⟨b, b1, b2, b3⟩
    · exact h
    · exact absurd (gapE_hit b1 b2 b3) (by rw [g]; decide)
  have se : scE t l = 0 := by rw [scE_gap e0, g]
  have CA := calOf_good few se
  have RC := rCal_ok v hl1 hr hg
  rw [g] at GE
  by_cases n0 : l.length = 0
  · have SC := scoreOf_err (e := 12) few hl (by rw [se, n0]; exact first_r) (by decide)
    by_cases hw : 1 ≤ w ∧ w ≤ 10
    · have RB := RB hw
      rw [decide_eq_true hw] at WI
      clear hq
      refine fn_i hmix hT Tryz.f3 (by kernel_rfl) rfl (by kernel_rfl) ?_
      with_reducible conv => whnf
      repeat' ((first | (with_reducible refine branch_t ?_) | (with_reducible refine branch_f ?_) | (with_reducible refine branch_nt ?_) | (with_reducible refine branch_nf ?_) | (with_reducible refine branch_dec (fun _ => ?_) (fun _ => ?_)) | (with_reducible refine branch_ndec (fun _ => ?_) (fun _ => ?_)) | (with_reducible refine branch_bool (fun _ => ?_) (fun _ => ?_)) | (with_reducible refine arith_64 (by omega) ?_) | (with_reducible refine ob_i (by omega) (fun _ => ?_)) | (with_reducible refine ob_i (by unfold room; omega) (fun _ => ?_)) | (with_reducible refine ob_i (by (try simp only [toN_eq, Int.toNat_natCast] at *); (try dsimp only [toN] at *); omega) (fun _ => ?_)) | (with_reducible refine arith_64 (by (try simp only [toN_eq, Int.toNat_natCast] at *); (try dsimp only [toN] at *); omega) ?_) | (with_reducible refine ob_k rfl ?_) | ((with_reducible refine ob_k ?_ ?_); focus kernel_rfl) | (refine yield_i hmix hT rfl hL efr eps eag ebd rfl (by kernel_rfl) ?_) | (apply call_u AW) | (apply call_u FY) | (apply call_u FW) | (apply call_u CT) | (apply call_u CR) | (apply call_u BL) | (apply call_u CA) | (apply call_u SC) | (apply call_u TE) | (apply call_u RE) | (apply call_u WI) | (apply call_u RB) | (apply call_u SX) | (apply call_u GE) | (apply call_u RC) | (refine gen_eq2 rfl rfl rfl rfl (by kernel_rfl) (by kernel_rfl) (fun _ => ?_) (fun _ => ?_)) | (refine gen_ne2 rfl rfl rfl rfl (by kernel_rfl) (by kernel_rfl) (fun _ => ?_) (fun _ => ?_)) | (refine gen_eqA rfl rfl rfl rfl rfl (by kernel_rfl) (by kernel_rfl) (fun _ => ?_) (fun h => absurd rfl h)) | (refine gen_neA rfl rfl rfl rfl rfl (by kernel_rfl) (by kernel_rfl) (fun _ => ?_) (fun h => absurd rfl h)) | (apply call_l (first_ok (l := [_, _]) (Nat.le_of_ble_eq_true rfl)) (.cons (vm_lit _ rfl rfl (.cons (vm_int rfl) (.cons (vm_int rfl) .nil))) .nil)) | (apply call_l (first_ok (l := [_, _, _]) (Nat.le_of_ble_eq_true rfl)) (.cons (vm_lit _ rfl rfl (.cons (vm_int rfl) (.cons (vm_int rfl) (.cons (vm_int rfl) .nil)))) .nil)) | (apply call_l (first_ok (l := [_, _, _, _]) (Nat.le_of_ble_eq_true rfl)) (.cons (vm_lit _ rfl rfl (.cons (vm_int rfl) (.cons (vm_int rfl) (.cons (vm_int rfl) (.cons (vm_int rfl) .nil))))) .nil))) <;> (try (exfalso; omega; done)) <;> (with_reducible conv => whnf))
      all_goals exact ret0 vm_p
    · obtain ⟨rfl, rfl⟩ := hq hw
      rw [decide_eq_false hw] at WI
      clear RB
      refine fn_i hmix hT Tryz.f3 (by kernel_rfl) rfl (by kernel_rfl) ?_
      with_reducible conv => whnf
      repeat' ((first | (with_reducible refine branch_t ?_) | (with_reducible refine branch_f ?_) | (with_reducible refine branch_nt ?_) | (with_reducible refine branch_nf ?_) | (with_reducible refine branch_dec (fun _ => ?_) (fun _ => ?_)) | (with_reducible refine branch_ndec (fun _ => ?_) (fun _ => ?_)) | (with_reducible refine branch_bool (fun _ => ?_) (fun _ => ?_)) | (with_reducible refine arith_64 (by omega) ?_) | (with_reducible refine ob_i (by omega) (fun _ => ?_)) | (with_reducible refine ob_i (by unfold room; omega) (fun _ => ?_)) | (with_reducible refine ob_i (by (try simp only [toN_eq, Int.toNat_natCast] at *); (try dsimp only [toN] at *); omega) (fun _ => ?_)) | (with_reducible refine arith_64 (by (try simp only [toN_eq, Int.toNat_natCast] at *); (try dsimp only [toN] at *); omega) ?_) | (with_reducible refine ob_k rfl ?_) | ((with_reducible refine ob_k ?_ ?_); focus kernel_rfl) | (refine yield_i hmix hT rfl hL efr eps eag ebd rfl (by kernel_rfl) ?_) | (apply call_u AW) | (apply call_u FY) | (apply call_u FW) | (apply call_u CT) | (apply call_u CR) | (apply call_u BL) | (apply call_u CA) | (apply call_u SC) | (apply call_u TE) | (apply call_u RE) | (apply call_u WI) | (refine call_i ST (.cons vm_p (.cons vm_tb0 .nil)) (pureS_no _) (rv_pure IsPure.h) ?_) | (apply call_u GE) | (apply call_u RC) | (refine gen_eq2 rfl rfl rfl rfl (by kernel_rfl) (by kernel_rfl) (fun _ => ?_) (fun _ => ?_)) | (refine gen_ne2 rfl rfl rfl rfl (by kernel_rfl) (by kernel_rfl) (fun _ => ?_) (fun _ => ?_)) | (refine gen_eqA rfl rfl rfl rfl rfl (by kernel_rfl) (by kernel_rfl) (fun _ => ?_) (fun h => absurd rfl h)) | (refine gen_neA rfl rfl rfl rfl rfl (by kernel_rfl) (by kernel_rfl) (fun _ => ?_) (fun h => absurd rfl h)) | (apply call_l (first_ok (l := [_, _]) (Nat.le_of_ble_eq_true rfl)) (.cons (vm_lit _ rfl rfl (.cons (vm_int rfl) (.cons (vm_int rfl) .nil))) .nil)) | (apply call_l (first_ok (l := [_, _, _]) (Nat.le_of_ble_eq_true rfl)) (.cons (vm_lit _ rfl rfl (.cons (vm_int rfl) (.cons (vm_int rfl) (.cons (vm_int rfl) .nil)))) .nil)) | (apply call_l (first_ok (l := [_, _, _, _]) (Nat.le_of_ble_eq_true rfl)) (.cons (vm_lit _ rfl rfl (.cons (vm_int rfl) (.cons (vm_int rfl) (.cons (vm_int rfl) (.cons (vm_int rfl) .nil))))) .nil))) <;> (try (exfalso; omega; done)) <;> (with_reducible conv => whnf))
      all_goals exact ret0 vm_p
  · have SC := scoreOf_good few se (by omega)
    have RS := rScore_ok v ⟨by omega, hl1⟩ hr hg
    by_cases hw : 1 ≤ w ∧ w ≤ 10
    · have RB := RB hw
      rw [decide_eq_true hw] at WI
      clear hq
      refine fn_i hmix hT Tryz.f3 (by kernel_rfl) rfl (by kernel_rfl) ?_
      with_reducible conv => whnf
      repeat' ((first | (with_reducible refine branch_t ?_) | (with_reducible refine branch_f ?_) | (with_reducible refine branch_nt ?_) | (with_reducible refine branch_nf ?_) | (with_reducible refine branch_dec (fun _ => ?_) (fun _ => ?_)) | (with_reducible refine branch_ndec (fun _ => ?_) (fun _ => ?_)) | (with_reducible refine branch_bool (fun _ => ?_) (fun _ => ?_)) | (with_reducible refine arith_64 (by omega) ?_) | (with_reducible refine ob_i (by omega) (fun _ => ?_)) | (with_reducible refine ob_i (by unfold room; omega) (fun _ => ?_)) | (with_reducible refine ob_i (by (try simp only [toN_eq, Int.toNat_natCast] at *); (try dsimp only [toN] at *); omega) (fun _ => ?_)) | (with_reducible refine arith_64 (by (try simp only [toN_eq, Int.toNat_natCast] at *); (try dsimp only [toN] at *); omega) ?_) | (with_reducible refine ob_k rfl ?_) | ((with_reducible refine ob_k ?_ ?_); focus kernel_rfl) | (refine yield_i hmix hT rfl hL efr eps eag ebd rfl (by kernel_rfl) ?_) | (apply call_u AW) | (apply call_u FY) | (apply call_u FW) | (apply call_u CT) | (apply call_u CR) | (apply call_u BL) | (apply call_u CA) | (apply call_u SC) | (apply call_u TE) | (apply call_u RE) | (apply call_u WI) | (apply call_u RB) | (apply call_u SX) | (apply call_u GE) | (apply call_u RC) | (apply call_u RS) | (refine gen_eq2 rfl rfl rfl rfl (by kernel_rfl) (by kernel_rfl) (fun _ => ?_) (fun _ => ?_)) | (refine gen_ne2 rfl rfl rfl rfl (by kernel_rfl) (by kernel_rfl) (fun _ => ?_) (fun _ => ?_)) | (refine gen_eqA rfl rfl rfl rfl rfl (by kernel_rfl) (by kernel_rfl) (fun _ => ?_) (fun h => absurd rfl h)) | (refine gen_neA rfl rfl rfl rfl rfl (by kernel_rfl) (by kernel_rfl) (fun _ => ?_) (fun h => absurd rfl h)) | (apply call_l (first_ok (l := [_, _]) (Nat.le_of_ble_eq_true rfl)) (.cons (vm_lit _ rfl rfl (.cons (vm_int rfl) (.cons (vm_int rfl) .nil))) .nil)) | (apply call_l (first_ok (l := [_, _, _]) (Nat.le_of_ble_eq_true rfl)) (.cons (vm_lit _ rfl rfl (.cons (vm_int rfl) (.cons (vm_int rfl) (.cons (vm_int rfl) .nil)))) .nil)) | (apply call_l (first_ok (l := [_, _, _, _]) (Nat.le_of_ble_eq_true rfl)) (.cons (vm_lit _ rfl rfl (.cons (vm_int rfl) (.cons (vm_int rfl) (.cons (vm_int rfl) (.cons (vm_int rfl) .nil))))) .nil))) <;> (try (exfalso; omega; done)) <;> (with_reducible conv => whnf))
      all_goals exact ret0 vm_p
    · obtain ⟨rfl, rfl⟩ := hq hw
      rw [decide_eq_false hw] at WI
      clear RB
      refine fn_i hmix hT Tryz.f3 (by kernel_rfl) rfl (by kernel_rfl) ?_
      with_reducible conv => whnf
      repeat' ((first | (with_reducible refine branch_t ?_) | (with_reducible refine branch_f ?_) | (with_reducible refine branch_nt ?_) | (with_reducible refine branch_nf ?_) | (with_reducible refine branch_dec (fun _ => ?_) (fun _ => ?_)) | (with_reducible refine branch_ndec (fun _ => ?_) (fun _ => ?_)) | (with_reducible refine branch_bool (fun _ => ?_) (fun _ => ?_)) | (with_reducible refine arith_64 (by omega) ?_) | (with_reducible refine ob_i (by omega) (fun _ => ?_)) | (with_reducible refine ob_i (by unfold room; omega) (fun _ => ?_)) | (with_reducible refine ob_i (by (try simp only [toN_eq, Int.toNat_natCast] at *); (try dsimp only [toN] at *); omega) (fun _ => ?_)) | (with_reducible refine arith_64 (by (try simp only [toN_eq, Int.toNat_natCast] at *); (try dsimp only [toN] at *); omega) ?_) | (with_reducible refine ob_k rfl ?_) | ((with_reducible refine ob_k ?_ ?_); focus kernel_rfl) | (refine yield_i hmix hT rfl hL efr eps eag ebd rfl (by kernel_rfl) ?_) | (apply call_u AW) | (apply call_u FY) | (apply call_u FW) | (apply call_u CT) | (apply call_u CR) | (apply call_u BL) | (apply call_u CA) | (apply call_u SC) | (apply call_u TE) | (apply call_u RE) | (apply call_u WI) | (refine call_i ST (.cons vm_p (.cons vm_tb0 .nil)) (pureS_no _) (rv_pure IsPure.h) ?_) | (apply call_u GE) | (apply call_u RC) | (apply call_u RS) | (refine gen_eq2 rfl rfl rfl rfl (by kernel_rfl) (by kernel_rfl) (fun _ => ?_) (fun _ => ?_)) | (refine gen_ne2 rfl rfl rfl rfl (by kernel_rfl) (by kernel_rfl) (fun _ => ?_) (fun _ => ?_)) | (refine gen_eqA rfl rfl rfl rfl rfl (by kernel_rfl) (by kernel_rfl) (fun _ => ?_) (fun h => absurd rfl h)) | (refine gen_neA rfl rfl rfl rfl rfl (by kernel_rfl) (by kernel_rfl) (fun _ => ?_) (fun h => absurd rfl h)) | (apply call_l (first_ok (l := [_, _]) (Nat.le_of_ble_eq_true rfl)) (.cons (vm_lit _ rfl rfl (.cons (vm_int rfl) (.cons (vm_int rfl) .nil))) .nil)) | (apply call_l (first_ok (l := [_, _, _]) (Nat.le_of_ble_eq_true rfl)) (.cons (vm_lit _ rfl rfl (.cons (vm_int rfl) (.cons (vm_int rfl) (.cons (vm_int rfl) .nil)))) .nil)) | (apply call_l (first_ok (l := [_, _, _, _]) (Nat.le_of_ble_eq_true rfl)) (.cons (vm_lit _ rfl rfl (.cons (vm_int rfl) (.cons (vm_int rfl) (.cons (vm_int rfl) (.cons (vm_int rfl) .nil))))) .nil))) <;> (try (exfalso; omega; done)) <;> (with_reducible conv => whnf))
      all_goals exact ret0 vm_p
end Go.Proofs.YtcdcmeiipfafdaaGreat
