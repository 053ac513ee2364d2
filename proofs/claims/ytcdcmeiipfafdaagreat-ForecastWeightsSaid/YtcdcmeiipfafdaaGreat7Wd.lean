/-
  Chapter 7: the law ForecastWeights (by contract).
  Conditions: none.
-/
import Derived.Test.YtcdcmeiipfafdaaGreat7Wa
import Derived.Test.YtcdcmeiipfafdaaGreat7Wc
import Derived.Test.YtcdcmeiipfafdaaGreat7Rk
namespace Go.Proofs.YtcdcmeiipfafdaaGreat
open Go.RowKit Fx
theorem rev_atR {l : List Rp} {j : Nat} (h : j < l.length) : l.reverse.getD j rp0 = l.getD (l.length - 1 - j) rp0 := by
  rw [List.getD_eq_getElem?_getD, List.getD_eq_getElem?_getD, List.getElem?_reverse h]
theorem vm_takeR {S : Vw} {l : List Rp} {k : Nat} {n : Nat} (hk : k ≤ l.length) (hn : n = k) {o : Nat} (ho : o = 0) : vm S (.sl 4 n fun j => eRp (l.getD (o + j) rp0)) (eRps (l.take k)) := by
  subst hn ho
  refine vm_sl (by rw [List.length_take]; omega) fun i hi => ?_
  rw [List.length_take] at hi
  rw [Nat.zero_add, show (l.take n).getD i rp0 = l.getD i rp0 by rw [List.getD_eq_getElem?_getD, List.getD_eq_getElem?_getD, List.getElem?_take, if_pos (by omega)]]
  exact vm_p
theorem vm_dropR {S : Vw} {l : List Rp} {k n o : Nat} (hk : k ≤ l.length) (hn : n = l.length - k) (ho : o = k) : vm S (.sl 4 n fun j => eRp (l.getD (o + j) rp0)) (eRps (l.drop k)) := by
  subst hn ho
  refine vm_sl (by rw [List.length_drop]) fun i hi => ?_
  rw [show (l.drop o).getD i rp0 = l.getD (o + i) rp0 by rw [List.getD_eq_getElem?_getD, List.getD_eq_getElem?_getD, List.getElem?_drop]]
  exact vm_p
theorem blend_good {t : Tb} {l : List Rp} {w : Int} (e : opE t l = 0) (hw : 1 ≤ w ∧ w ≤ 10) (h : inLim t l w l.length) : FnOK Tryz.prog 8 [eTb t, eRps l, I w] (.tup [eTb (blTb t l w), I 0]) [] := by
  obtain ⟨ht, hz⟩ := opE_val e
  have v := tb_val ht
  obtain ⟨hl, hr⟩ := rps_val hz
  exact (blendedO_ok (k := l.length) v e hw (Nat.le_refl _) (lim_all v hr hw.1 (Nat.le_refl _) h) (fun k => absurd k (Nat.lt_irrefl _)) (fun _ => ⟨rfl, rfl⟩) (fun k => absurd k (Nat.lt_irrefl _))).freeze own_fr
theorem blend_big {t : Tb} {l : List Rp} {w : Int} (e : opE t l = 0) (hw : 1 ≤ w ∧ w ≤ 10) (h : ¬ inLim t l w l.length) : FnOK Tryz.prog 8 [eTb t, eRps l, I w] (.tup [eTb tb0, I 8]) [] := by
  obtain ⟨ht, hz⟩ := opE_val e
  have v := tb_val ht
  obtain ⟨hl, hr⟩ := rps_val hz
  rcases lim_first (l := l) (w := w) v l.length (Nat.le_refl _) with h' | ⟨b, b1, b2, b3⟩
  · exact absurd h' h
  · exact (blendedO_ok (k := b) v e hw (by omega) (lim_all v hr hw.1 (by omega) b2) (fun _ => lim_hit (hr b b1) b2 b3) (fun k => by omega) (fun _ => ⟨rfl, rfl⟩)).freeze tup_tb0
theorem opE_ok {t : Tb} {l : List Rp} (h1 : tbE t = 0) (h2 : rpsE t.fr.length l = 0) : opE t l = 0 := by
  unfold opE
  rw [if_neg (fun c => c h1), h2]
theorem far_sq {t : Tb} {r : Rp} (v : TbV t) (h : rpE t.fr.length r = 0) (h0 : (cR t r).2 ≠ 0) : 0 ≤ r.w * farV t r * farV t r ∧ r.w * farV t r * farV t r ≤ r.w * 1000000 := by
  have rv := rp_val h
  have q := far_in v h h0
  have s0 : 0 ≤ farV t r * farV t r := by
    rcases Int.le_total 0 (farV t r) with k | k
    · exact Int.mul_nonneg k k
    · exact Int.mul_nonneg_of_nonpos_of_nonpos k k
  have s1 : farV t r * farV t r ≤ 1000 * 1000 := by
    rcases Int.le_total 0 (farV t r) with k | k
    · exact Int.mul_le_mul q.2 q.2 k (by omega)
    · have : farV t r * farV t r = -farV t r * -farV t r := by rw [Int.neg_mul, Int.mul_neg, Int.neg_neg]
      rw [this]
      exact Int.mul_le_mul (by omega) (by omega) (by omega) (by omega)
  rw [Int.mul_assoc]
  exact ⟨Int.mul_nonneg (by omega) s0, Int.mul_le_mul_of_nonneg_left (by omega) (by omega)⟩
theorem score_le {t : Tb} {l : List Rp} (v : TbV t) (hr : ∀ r ∈ l, rpE t.fr.length r = 0) (hg : ∀ r ∈ l, (cR t r).2 ≠ 0) : scS t l l.length ≤ scW l l.length * 1000000 := by
  rw [scS_all, scW_all]
  have : smR (fun r => r.w) l * 1000000 = smR (fun r => r.w * 1000000) l := by
    clear hr hg
    induction l with
    | nil => rfl
    | cons r l ih => show (r.w + _) * _ = r.w * _ + _; rw [Int.add_mul, ih]
  rw [this]
  exact smR_le fun r h => (far_sq v (hr r h) (hg r h)).2
theorem scW_pos {n : Nat} {l : List Rp} (hr : ∀ r ∈ l, rpE n r = 0) (h0 : 0 < l.length) : 0 < scW l l.length := by
  rw [scW_all]
  cases l with
  | nil => simp at h0
  | cons r l =>
    have a := rp_val (hr r (by simp))
    have b := smR_nn (f := fun r => r.w) (l := l) fun x hx => by have := rp_val (hr x (by simp [hx])); omega
    show 0 < r.w + smR (fun r => r.w) l
    omega
set_option maxHeartbeats 16000000 in
set_option maxRecDepth 100000 in
theorem weights_ok {t : Tb} {l : List Rp} {a b : Int} (AW : FnOK Tryz.prog 5 [] (B true) []) (ht : t.hs.length ≤ 9223372036854775807) (hl : l.length ≤ 9223372036854775807) (hb : -9223372036854775808 ≤ b ∧ b ≤ 9223372036854775807) : FnOK Tryz.prog 4 [eTb t, eRps l, .agg [I a, I b]] (B true) [] := by
  by_cases few : FewT t
  case neg =>
    have FY := few_no ht few
    refine fn_i hmix hT Tryz.f4 (by kernel_rfl) rfl (by kernel_rfl) ?_
    with_reducible conv => whnf
    repeat' ((first | (with_reducible refine branch_t ?_) | (with_reducible refine branch_f ?_) | (with_reducible refine branch_nt ?_) | (with_reducible refine branch_nf ?_) | (with_reducible refine branch_dec (fun _ => ?_) (fun _ => ?_)) | (with_reducible refine branch_ndec (fun _ => ?_) (fun _ => ?_)) | (with_reducible refine branch_bool (fun _ => ?_) (fun _ => ?_)) | (with_reducible refine arith_64 (by omega) ?_) | (with_reducible refine ob_i (by omega) (fun _ => ?_)) | (with_reducible refine ob_i (by unfold room; omega) (fun _ => ?_)) | (with_reducible refine ob_i (by (try simp only [toN_eq, Int.toNat_natCast] at *); (try dsimp only [toN] at *); omega) (fun _ => ?_)) | (with_reducible refine arith_64 (by (try simp only [toN_eq, Int.toNat_natCast] at *); (try dsimp only [toN] at *); omega) ?_) | (with_reducible refine ob_k rfl ?_) | ((with_reducible refine ob_k ?_ ?_); focus kernel_rfl) | (refine yield_i hmix hT rfl hL efr eps eag ebd rfl (by kernel_rfl) ?_) | (apply call_u AW) | (apply call_u FY) | (apply call_l (first_ok (l := [_, _]) (Nat.le_of_ble_eq_true rfl)) (.cons (vm_lit _ rfl rfl (.cons (vm_int rfl) (.cons (vm_int rfl) .nil))) .nil)) | (apply call_l (first_ok (l := [_, _, _]) (Nat.le_of_ble_eq_true rfl)) (.cons (vm_lit _ rfl rfl (.cons (vm_int rfl) (.cons (vm_int rfl) (.cons (vm_int rfl) .nil)))) .nil)) | (apply call_l (first_ok (l := [_, _, _, _]) (Nat.le_of_ble_eq_true rfl)) (.cons (vm_lit _ rfl rfl (.cons (vm_int rfl) (.cons (vm_int rfl) (.cons (vm_int rfl) (.cons (vm_int rfl) .nil))))) .nil))) <;> (try (exfalso; omega; done)) <;> (with_reducible conv => whnf))
    exact ret0 vm_p
  have FY := few_yes few
  by_cases n0 : l.length = 0
  · refine fn_i hmix hT Tryz.f4 (by kernel_rfl) rfl (by kernel_rfl) ?_
    with_reducible conv => whnf
    repeat' ((first | (with_reducible refine branch_t ?_) | (with_reducible refine branch_f ?_) | (with_reducible refine branch_nt ?_) | (with_reducible refine branch_nf ?_) | (with_reducible refine branch_dec (fun _ => ?_) (fun _ => ?_)) | (with_reducible refine branch_ndec (fun _ => ?_) (fun _ => ?_)) | (with_reducible refine branch_bool (fun _ => ?_) (fun _ => ?_)) | (with_reducible refine arith_64 (by omega) ?_) | (with_reducible refine ob_i (by omega) (fun _ => ?_)) | (with_reducible refine ob_i (by unfold room; omega) (fun _ => ?_)) | (with_reducible refine ob_i (by (try simp only [toN_eq, Int.toNat_natCast] at *); (try dsimp only [toN] at *); omega) (fun _ => ?_)) | (with_reducible refine arith_64 (by (try simp only [toN_eq, Int.toNat_natCast] at *); (try dsimp only [toN] at *); omega) ?_) | (with_reducible refine ob_k rfl ?_) | ((with_reducible refine ob_k ?_ ?_); focus kernel_rfl) | (refine yield_i hmix hT rfl hL efr eps eag ebd rfl (by kernel_rfl) ?_) | (apply call_u AW) | (apply call_u FY) | (apply call_l (first_ok (l := [_, _]) (Nat.le_of_ble_eq_true rfl)) (.cons (vm_lit _ rfl rfl (.cons (vm_int rfl) (.cons (vm_int rfl) .nil))) .nil)) | (apply call_l (first_ok (l := [_, _, _]) (Nat.le_of_ble_eq_true rfl)) (.cons (vm_lit _ rfl rfl (.cons (vm_int rfl) (.cons (vm_int rfl) (.cons (vm_int rfl) .nil)))) .nil)) | (apply call_l (first_ok (l := [_, _, _, _]) (Nat.le_of_ble_eq_true rfl)) (.cons (vm_lit _ rfl rfl (.cons (vm_int rfl) (.cons (vm_int rfl) (.cons (vm_int rfl) (.cons (vm_int rfl) .nil))))) .nil))) <;> (try (exfalso; omega; done)) <;> (with_reducible conv => whnf))
    exact ret0 vm_p
  by_cases n40 : 40 < l.length
  · refine fn_i hmix hT Tryz.f4 (by kernel_rfl) rfl (by kernel_rfl) ?_
    with_reducible conv => whnf
    repeat' ((first | (with_reducible refine branch_t ?_) | (with_reducible refine branch_f ?_) | (with_reducible refine branch_nt ?_) | (with_reducible refine branch_nf ?_) | (with_reducible refine branch_dec (fun _ => ?_) (fun _ => ?_)) | (with_reducible refine branch_ndec (fun _ => ?_) (fun _ => ?_)) | (with_reducible refine branch_bool (fun _ => ?_) (fun _ => ?_)) | (with_reducible refine arith_64 (by omega) ?_) | (with_reducible refine ob_i (by omega) (fun _ => ?_)) | (with_reducible refine ob_i (by unfold room; omega) (fun _ => ?_)) | (with_reducible refine ob_i (by (try simp only [toN_eq, Int.toNat_natCast] at *); (try dsimp only [toN] at *); omega) (fun _ => ?_)) | (with_reducible refine arith_64 (by (try simp only [toN_eq, Int.toNat_natCast] at *); (try dsimp only [toN] at *); omega) ?_) | (with_reducible refine ob_k rfl ?_) | ((with_reducible refine ob_k ?_ ?_); focus kernel_rfl) | (refine yield_i hmix hT rfl hL efr eps eag ebd rfl (by kernel_rfl) ?_) | (apply call_u AW) | (apply call_u FY) | (apply call_l (first_ok (l := [_, _]) (Nat.le_of_ble_eq_true rfl)) (.cons (vm_lit _ rfl rfl (.cons (vm_int rfl) (.cons (vm_int rfl) .nil))) .nil)) | (apply call_l (first_ok (l := [_, _, _]) (Nat.le_of_ble_eq_true rfl)) (.cons (vm_lit _ rfl rfl (.cons (vm_int rfl) (.cons (vm_int rfl) (.cons (vm_int rfl) .nil)))) .nil)) | (apply call_l (first_ok (l := [_, _, _, _]) (Nat.le_of_ble_eq_true rfl)) (.cons (vm_lit _ rfl rfl (.cons (vm_int rfl) (.cons (vm_int rfl) (.cons (vm_int rfl) (.cons (vm_int rfl) .nil))))) .nil))) <;> (try (exfalso; omega; done)) <;> (with_reducible conv => whnf))
    exact ret0 vm_p
  have TE := tableErr_ok few
  by_cases et : tbE t = 0
  case neg =>
    generalize tbE t = z at *
    refine fn_i hmix hT Tryz.f4 (by kernel_rfl) rfl (by kernel_rfl) ?_
    with_reducible conv => whnf
    repeat' ((first | (with_reducible refine branch_t ?_) | (with_reducible refine branch_f ?_) | (with_reducible refine branch_nt ?_) | (with_reducible refine branch_nf ?_) | (with_reducible refine branch_dec (fun _ => ?_) (fun _ => ?_)) | (with_reducible refine branch_ndec (fun _ => ?_) (fun _ => ?_)) | (with_reducible refine branch_bool (fun _ => ?_) (fun _ => ?_)) | (with_reducible refine arith_64 (by omega) ?_) | (with_reducible refine ob_i (by omega) (fun _ => ?_)) | (with_reducible refine ob_i (by unfold room; omega) (fun _ => ?_)) | (with_reducible refine ob_i (by (try simp only [toN_eq, Int.toNat_natCast] at *); (try dsimp only [toN] at *); omega) (fun _ => ?_)) | (with_reducible refine arith_64 (by (try simp only [toN_eq, Int.toNat_natCast] at *); (try dsimp only [toN] at *); omega) ?_) | (with_reducible refine ob_k rfl ?_) | ((with_reducible refine ob_k ?_ ?_); focus kernel_rfl) | (refine yield_i hmix hT rfl hL efr eps eag ebd rfl (by kernel_rfl) ?_) | (apply call_u AW) | (apply call_u FY) | (apply call_u TE) | (apply call_l (first_ok (l := [_, _]) (Nat.le_of_ble_eq_true rfl)) (.cons (vm_lit _ rfl rfl (.cons (vm_int rfl) (.cons (vm_int rfl) .nil))) .nil)) | (apply call_l (first_ok (l := [_, _, _]) (Nat.le_of_ble_eq_true rfl)) (.cons (vm_lit _ rfl rfl (.cons (vm_int rfl) (.cons (vm_int rfl) (.cons (vm_int rfl) .nil)))) .nil)) | (apply call_l (first_ok (l := [_, _, _, _]) (Nat.le_of_ble_eq_true rfl)) (.cons (vm_lit _ rfl rfl (.cons (vm_int rfl) (.cons (vm_int rfl) (.cons (vm_int rfl) (.cons (vm_int rfl) .nil))))) .nil))) <;> (try (exfalso; omega; done)) <;> (with_reducible conv => whnf))
    exact ret0 vm_p
  have RE := rReportsErr_ok (t := t) (l := l) (by have := few.f; omega) hl
  rw [et] at TE
  by_cases er : rpsE t.fr.length l = 0
  case neg =>
    generalize rpsE t.fr.length l = z at *
    refine fn_i hmix hT Tryz.f4 (by kernel_rfl) rfl (by kernel_rfl) ?_
    with_reducible conv => whnf
    repeat' ((first | (with_reducible refine branch_t ?_) | (with_reducible refine branch_f ?_) | (with_reducible refine branch_nt ?_) | (with_reducible refine branch_nf ?_) | (with_reducible refine branch_dec (fun _ => ?_) (fun _ => ?_)) | (with_reducible refine branch_ndec (fun _ => ?_) (fun _ => ?_)) | (with_reducible refine branch_bool (fun _ => ?_) (fun _ => ?_)) | (with_reducible refine arith_64 (by omega) ?_) | (with_reducible refine ob_i (by omega) (fun _ => ?_)) | (with_reducible refine ob_i (by unfold room; omega) (fun _ => ?_)) | (with_reducible refine ob_i (by (try simp only [toN_eq, Int.toNat_natCast] at *); (try dsimp only [toN] at *); omega) (fun _ => ?_)) | (with_reducible refine arith_64 (by (try simp only [toN_eq, Int.toNat_natCast] at *); (try dsimp only [toN] at *); omega) ?_) | (with_reducible refine ob_k rfl ?_) | ((with_reducible refine ob_k ?_ ?_); focus kernel_rfl) | (refine yield_i hmix hT rfl hL efr eps eag ebd rfl (by kernel_rfl) ?_) | (apply call_u AW) | (apply call_u FY) | (apply call_u TE) | (apply call_u RE) | (apply call_l (first_ok (l := [_, _]) (Nat.le_of_ble_eq_true rfl)) (.cons (vm_lit _ rfl rfl (.cons (vm_int rfl) (.cons (vm_int rfl) .nil))) .nil)) | (apply call_l (first_ok (l := [_, _, _]) (Nat.le_of_ble_eq_true rfl)) (.cons (vm_lit _ rfl rfl (.cons (vm_int rfl) (.cons (vm_int rfl) (.cons (vm_int rfl) .nil)))) .nil)) | (apply call_l (first_ok (l := [_, _, _, _]) (Nat.le_of_ble_eq_true rfl)) (.cons (vm_lit _ rfl rfl (.cons (vm_int rfl) (.cons (vm_int rfl) (.cons (vm_int rfl) (.cons (vm_int rfl) .nil))))) .nil))) <;> (try (exfalso; omega; done)) <;> (with_reducible conv => whnf))
    exact ret0 vm_p
  rw [er] at RE
  have WI := bWithin_ok (n := a) (lo := 1) (hi := 10)
  by_cases hw : 1 ≤ a ∧ a ≤ 10
  case neg =>
    rw [decide_eq_false hw] at WI
    refine fn_i hmix hT Tryz.f4 (by kernel_rfl) rfl (by kernel_rfl) ?_
    with_reducible conv => whnf
    repeat' ((first | (with_reducible refine branch_t ?_) | (with_reducible refine branch_f ?_) | (with_reducible refine branch_nt ?_) | (with_reducible refine branch_nf ?_) | (with_reducible refine branch_dec (fun _ => ?_) (fun _ => ?_)) | (with_reducible refine branch_ndec (fun _ => ?_) (fun _ => ?_)) | (with_reducible refine branch_bool (fun _ => ?_) (fun _ => ?_)) | (with_reducible refine arith_64 (by omega) ?_) | (with_reducible refine ob_i (by omega) (fun _ => ?_)) | (with_reducible refine ob_i (by unfold room; omega) (fun _ => ?_)) | (with_reducible refine ob_i (by (try simp only [toN_eq, Int.toNat_natCast] at *); (try dsimp only [toN] at *); omega) (fun _ => ?_)) | (with_reducible refine arith_64 (by (try simp only [toN_eq, Int.toNat_natCast] at *); (try dsimp only [toN] at *); omega) ?_) | (with_reducible refine ob_k rfl ?_) | ((with_reducible refine ob_k ?_ ?_); focus kernel_rfl) | (refine yield_i hmix hT rfl hL efr eps eag ebd rfl (by kernel_rfl) ?_) | (apply call_u AW) | (apply call_u FY) | (apply call_u TE) | (apply call_u RE) | (apply call_u WI) | (apply call_l (first_ok (l := [_, _]) (Nat.le_of_ble_eq_true rfl)) (.cons (vm_lit _ rfl rfl (.cons (vm_int rfl) (.cons (vm_int rfl) .nil))) .nil)) | (apply call_l (first_ok (l := [_, _, _]) (Nat.le_of_ble_eq_true rfl)) (.cons (vm_lit _ rfl rfl (.cons (vm_int rfl) (.cons (vm_int rfl) (.cons (vm_int rfl) .nil)))) .nil)) | (apply call_l (first_ok (l := [_, _, _, _]) (Nat.le_of_ble_eq_true rfl)) (.cons (vm_lit _ rfl rfl (.cons (vm_int rfl) (.cons (vm_int rfl) (.cons (vm_int rfl) (.cons (vm_int rfl) .nil))))) .nil))) <;> (try (exfalso; omega; done)) <;> (with_reducible conv => whnf))
    exact ret0 vm_p
  rw [decide_eq_true hw] at WI
  have e0 : opE t l = 0 := opE_ok et er
  have v := tb_val et
  obtain ⟨hl1, hr⟩ := rps_val er
  have hm := rpE_all hr
  have mr : ∀ r ∈ l.reverse, rpE t.fr.length r = 0 := fun r h => hm r (List.mem_reverse.1 h)
  have hf : freqsE t.fr = 0 := (tb_zero et).1
  have lr : l.reverse.length = l.length := List.length_reverse
  have e1 : opE t l.reverse = 0 := opE_ok et (rpsE_ok mr (by omega))
  have CT := copyTable_ok few
  have CR := copyReports_ok (l := l) (by omega)
  have CB := copyReports_ok (l := l.reverse) (by omega)
  have sb : ∀ j : Nat, j ≤ l.length → (0 ≤ smR (fun r => r.w) (l.reverse.take j) ∧ smR (fun r => r.w) (l.reverse.take j) ≤ j * 10) ∧ 0 ≤ smR hW (l.reverse.take j) ∧ smR hW (l.reverse.take j) ≤ j * 10 := fun j => by
    induction j with
    | zero => intro _; simp [smR]
    | succ j ih =>
      intro hj
      have ih := ih (by omega)
      have rv := rp_val (mr _ (mem_getR (l := l.reverse) (i := j) (by omega)))
      rw [smR_take (by omega), smR_take (by omega)]
      have : 0 ≤ hW (l.reverse.getD j rp0) ∧ hW (l.reverse.getD j rp0) ≤ (l.reverse.getD j rp0).w := by unfold hW; split <;> omega
      omega
  refine fn_i hmix hT Tryz.f4 (by kernel_rfl) rfl (by kernel_rfl) ?_
  with_reducible conv => whnf
  repeat' ((first | (with_reducible refine branch_t ?_) | (with_reducible refine branch_f ?_) | (with_reducible refine branch_nt ?_) | (with_reducible refine branch_nf ?_) | (with_reducible refine branch_dec (fun _ => ?_) (fun _ => ?_)) | (with_reducible refine branch_ndec (fun _ => ?_) (fun _ => ?_)) | (with_reducible refine branch_bool (fun _ => ?_) (fun _ => ?_)) | (with_reducible refine arith_64 (by omega) ?_) | (with_reducible refine ob_i (by omega) (fun _ => ?_)) | (with_reducible refine ob_i (by unfold room; omega) (fun _ => ?_)) | (with_reducible refine ob_i (by (try simp only [toN_eq, Int.toNat_natCast] at *); (try dsimp only [toN] at *); omega) (fun _ => ?_)) | (with_reducible refine arith_64 (by (try simp only [toN_eq, Int.toNat_natCast] at *); (try dsimp only [toN] at *); omega) ?_) | (with_reducible refine ob_k rfl ?_) | ((with_reducible refine ob_k ?_ ?_); focus kernel_rfl) | (refine yield_i hmix hT rfl hL efr eps eag ebd rfl (by kernel_rfl) ?_) | (apply call_u AW) | (apply call_u FY) | (apply call_u TE) | (apply call_u RE) | (apply call_u WI) | (apply call_l (first_ok (l := [_, _]) (Nat.le_of_ble_eq_true rfl)) (.cons (vm_lit _ rfl rfl (.cons (vm_int rfl) (.cons (vm_int rfl) .nil))) .nil)) | (apply call_l (first_ok (l := [_, _, _]) (Nat.le_of_ble_eq_true rfl)) (.cons (vm_lit _ rfl rfl (.cons (vm_int rfl) (.cons (vm_int rfl) (.cons (vm_int rfl) .nil)))) .nil)) | (apply call_l (first_ok (l := [_, _, _, _]) (Nat.le_of_ble_eq_true rfl)) (.cons (vm_lit _ rfl rfl (.cons (vm_int rfl) (.cons (vm_int rfl) (.cons (vm_int rfl) (.cons (vm_int rfl) .nil))))) .nil))) <;> (try (exfalso; omega; done)) <;> (with_reducible conv => whnf))
  refine loop_x hmix hT (fun j : Nat => ([(1, eRps l), (3, .ptr 0 0), (5, .ptr 1 0), (7, .own 2 4 0 j), (8, I (smR (fun r => r.w) (l.reverse.take j))), (9, I (smR hW (l.reverse.take j))), (10, I ((l.length : Int) - 1 - j))], ⟨3, [(2, .row 4 j (fun i => eRp (l.reverse.getD i rp0)) 55), (1, .cells [I a, I b] 53), (0, .cells [eInts t.fr, eHs t.hs] 25)]⟩)) (fun j => j ≤ l.length) (fun j => l.length - j) 0 (by omega) ?_ ?_
  · refine ⟨[(2, none)], rfl, ?_, ?_⟩ <;> repeat' (first | exact trivial | exact vm_p | exact vm_ptr rfl rfl rfl | exact vm_yld rfl rfl | exact vm_own rfl rfl rfl rfl | exact vm_own rfl rfl (by omega) (by omega) | exact vm_int (by omega) | exact vm_nil rfl | exact sbm_cells vmL_p | exact sbm_row rfl (fun _ _ => vm_p) | refine ⟨⟨_, rfl, ?_⟩, ?_⟩ | refine ⟨⟨_, _, _, rfl⟩, ?_⟩ | (refine sbm_loop ?_; rw [efr]) | refine sbm_cells ?_ | refine vmL.cons ?_ ?_ | exact vmL.nil | refine vm_own rfl rfl rfl ?_)
  intro j hj
  by_cases hj2 : j < l.length
  · have tj : toN ((l.length : Int) - 1 - j) = l.length - 1 - j := by rw [toN_eq]; omega
    have ej : l.reverse.getD j rp0 = l.getD (toN ((l.length : Int) - 1 - j)) rp0 := by rw [rev_atR hj2, tj]
    have s1 := smR_take (f := fun r => r.w) (l := l.reverse) (i := j) (by omega)
    have s2 := smR_take (f := hW) (l := l.reverse) (i := j) (by omega)
    have rv := rp_val (mr _ (mem_getR (l := l.reverse) (i := j) (by omega)))
    have sj := sb j hj
    have hy : (l.reverse.getD j rp0).heard = true → hW (l.reverse.getD j rp0) = (l.reverse.getD j rp0).w := fun h => if_pos h
    have hn : (l.reverse.getD j rp0).heard = false → hW (l.reverse.getD j rp0) = 0 := fun h => if_neg (by rw [h]; decide)
    rw [ej] at s1 s2 rv hy hn
    clear sb hm mr hr
    with_reducible conv => whnf
    repeat' ((first | (with_reducible refine branch_t ?_) | (with_reducible refine branch_f ?_) | (with_reducible refine branch_nt ?_) | (with_reducible refine branch_nf ?_) | (with_reducible refine branch_dec (fun _ => ?_) (fun _ => ?_)) | (with_reducible refine branch_ndec (fun _ => ?_) (fun _ => ?_)) | (with_reducible refine branch_bool (fun _ => ?_) (fun _ => ?_)) | (with_reducible refine arith_64 (by omega) ?_) | (with_reducible refine ob_i (by omega) (fun _ => ?_)) | (with_reducible refine ob_i (by unfold room; omega) (fun _ => ?_)) | (with_reducible refine ob_i (by (try simp only [toN_eq, Int.toNat_natCast] at *); (try dsimp only [toN] at *); omega) (fun _ => ?_)) | (with_reducible refine arith_64 (by (try simp only [toN_eq, Int.toNat_natCast] at *); (try dsimp only [toN] at *); omega) ?_) | (with_reducible refine ob_k rfl ?_) | ((with_reducible refine ob_k ?_ ?_); focus kernel_rfl) | (refine yield_i hmix hT rfl hL efr eps eag ebd rfl (by kernel_rfl) ?_)  | (apply call_l (first_ok (l := [_, _]) (Nat.le_of_ble_eq_true rfl)) (.cons (vm_lit _ rfl rfl (.cons (vm_int rfl) (.cons (vm_int rfl) .nil))) .nil)) | (apply call_l (first_ok (l := [_, _, _]) (Nat.le_of_ble_eq_true rfl)) (.cons (vm_lit _ rfl rfl (.cons (vm_int rfl) (.cons (vm_int rfl) (.cons (vm_int rfl) .nil)))) .nil)) | (apply call_l (first_ok (l := [_, _, _, _]) (Nat.le_of_ble_eq_true rfl)) (.cons (vm_lit _ rfl rfl (.cons (vm_int rfl) (.cons (vm_int rfl) (.cons (vm_int rfl) (.cons (vm_int rfl) .nil))))) .nil))) <;> (try (exfalso; omega; done)) <;> (with_reducible conv => whnf))
    · have hy := hy (by assumption)
      refine ⟨j + 1, by omega, by omega, ?_⟩
      refine ⟨[(2, some 4)], rfl, ?_, ?_⟩ <;> repeat' (first | exact trivial | exact vm_p | exact vm_ptr rfl rfl rfl | exact vm_yld rfl rfl | exact vm_own rfl rfl rfl rfl | exact vm_own rfl rfl (by omega) (by omega) | exact vm_int (by omega) | exact vm_nil rfl | exact sbm_cells vmL_p | exact sbm_row rfl (fun _ _ => vm_p) | refine ⟨⟨_, rfl, ?_⟩, ?_⟩ | refine ⟨⟨_, _, _, rfl⟩, ?_⟩ | (refine sbm_loop ?_; rw [efr]) | refine sbm_cells ?_ | refine vmL.cons ?_ ?_ | exact vmL.nil | refine vm_own rfl rfl rfl ?_)
      refine sbm_row rfl fun i hi => vm_snoc (e' := fun i => eRp (l.reverse.getD i rp0)) hi (fun _ _ => vm_p) ?_
      dsimp only
      rw [ej]
      exact vm_p
    · have hn := hn (by assumption)
      refine ⟨j + 1, by omega, by omega, ?_⟩
      refine ⟨[(2, some 4)], rfl, ?_, ?_⟩ <;> repeat' (first | exact trivial | exact vm_p | exact vm_ptr rfl rfl rfl | exact vm_yld rfl rfl | exact vm_own rfl rfl rfl rfl | exact vm_own rfl rfl (by omega) (by omega) | exact vm_int (by omega) | exact vm_nil rfl | exact sbm_cells vmL_p | exact sbm_row rfl (fun _ _ => vm_p) | refine ⟨⟨_, rfl, ?_⟩, ?_⟩ | refine ⟨⟨_, _, _, rfl⟩, ?_⟩ | (refine sbm_loop ?_; rw [efr]) | refine sbm_cells ?_ | refine vmL.cons ?_ ?_ | exact vmL.nil | refine vm_own rfl rfl rfl ?_)
      refine sbm_row rfl fun i hi => vm_snoc (e' := fun i => eRp (l.reverse.getD i rp0)) hi (fun _ _ => vm_p) ?_
      dsimp only
      rw [ej]
      exact vm_p
  obtain rfl : j = l.length := by omega
  have sj := sb l.length (Nat.le_refl _)
  have t1 : l.reverse.take l.length = l.reverse := by rw [← lr]; exact List.take_length
  with_reducible conv => whnf
  repeat' ((first | (with_reducible refine branch_t ?_) | (with_reducible refine branch_f ?_) | (with_reducible refine branch_nt ?_) | (with_reducible refine branch_nf ?_) | (with_reducible refine branch_dec (fun _ => ?_) (fun _ => ?_)) | (with_reducible refine branch_ndec (fun _ => ?_) (fun _ => ?_)) | (with_reducible refine branch_bool (fun _ => ?_) (fun _ => ?_)) | (with_reducible refine arith_64 (by omega) ?_) | (with_reducible refine ob_i (by omega) (fun _ => ?_)) | (with_reducible refine ob_i (by unfold room; omega) (fun _ => ?_)) | (with_reducible refine ob_i (by (try simp only [toN_eq, Int.toNat_natCast] at *); (try dsimp only [toN] at *); omega) (fun _ => ?_)) | (with_reducible refine arith_64 (by (try simp only [toN_eq, Int.toNat_natCast] at *); (try dsimp only [toN] at *); omega) ?_) | (with_reducible refine ob_k rfl ?_) | ((with_reducible refine ob_k ?_ ?_); focus kernel_rfl) | (refine yield_i hmix hT rfl hL efr eps eag ebd rfl (by kernel_rfl) ?_)  | (apply call_l (first_ok (l := [_, _]) (Nat.le_of_ble_eq_true rfl)) (.cons (vm_lit _ rfl rfl (.cons (vm_int rfl) (.cons (vm_int rfl) .nil))) .nil)) | (apply call_l (first_ok (l := [_, _, _]) (Nat.le_of_ble_eq_true rfl)) (.cons (vm_lit _ rfl rfl (.cons (vm_int rfl) (.cons (vm_int rfl) (.cons (vm_int rfl) .nil)))) .nil)) | (apply call_l (first_ok (l := [_, _, _, _]) (Nat.le_of_ble_eq_true rfl)) (.cons (vm_lit _ rfl rfl (.cons (vm_int rfl) (.cons (vm_int rfl) (.cons (vm_int rfl) (.cons (vm_int rfl) .nil))))) .nil))) <;> (try (exfalso; omega; done)) <;> (with_reducible conv => whnf))
  clear sb
  refine ⟨([(1, eRps l), (3, .ptr 0 0), (5, .ptr 1 0), (7, eRps l.reverse), (8, I (smR (fun r => r.w) l)), (9, I (smR hW l))], ⟨2, [(1, .cells [I a, I b] 53), (0, .cells [eInts t.fr, eHs t.hs] 25)]⟩), ?_, ?_⟩
  · refine ⟨[], rfl, ?_, ?_⟩
    · exact ⟨⟨_, rfl, vm_p⟩, ⟨_, rfl, vm_ptr rfl rfl rfl⟩, ⟨_, rfl, vm_ptr rfl rfl rfl⟩, ⟨_, rfl, vm_fr rfl rfl lr.symm (Nat.le_refl _) fun _ _ => vm_p⟩, ⟨_, rfl, vm_int (by rw [t1, smR_rev])⟩, ⟨_, rfl, vm_int (by rw [t1, smR_rev])⟩, trivial⟩
    · exact ⟨⟨_, rfl, sbm_cells vmL_p⟩, ⟨_, rfl, sbm_cells vmL_p⟩, trivial⟩
  rw [t1, smR_rev, smR_rev] at sj
  have sS : scW l l.length = smR (fun r => r.w) l := scW_all
  have bin5 : (∀ r ∈ l, (cR t r).2 ≠ 0) → smR (bnT t 0) l + smR (bnT t 1) l + smR (bnT t 2) l + smR (bnT t 3) l + smR (bnT t 4) l = smR (fun r => r.w) l ∧ smR (bnU t 0) l + smR (bnU t 1) l + smR (bnU t 2) l + smR (bnU t 3) l + smR (bnU t 4) l = smR hW l := fun hg => five_bins fun r h => (bin_in v (hm r h) (hg r h)).1
  have SX0 := sameT_ok tb0_few
  obtain ⟨k, hk, ek⟩ : ∃ k : Nat, k ≤ l.length ∧ b % ((l.length : Int) + 1) = k := by
    have h1 := Int.emod_nonneg b (show (l.length : Int) + 1 ≠ 0 by omega)
    have h2 := Int.emod_lt_of_pos b (show (0 : Int) < (l.length : Int) + 1 by omega)
    exact ⟨(b % ((l.length : Int) + 1)).toNat, by omega, by omega⟩
  have tk : toN (k : Int) = k := toN_nat k
  have tl : toN (l.length : Int) = l.length := toN_nat _
  have MD := mod_ok (n := b) (b := (l.length : Int) + 1) hb (by omega)
  rw [ek] at MD
  have gl : scE t l = gapE t l := scE_gap e0
  have gr : scE t l.reverse = gapE t l := by rw [scE_gap e1, gap_rev]
  have ge := gap_all (t := t) (l := l)
  clear RE TE FY WI AW
  by_cases hG : inLim t l a l.length
  · have B1 := blend_good e0 hw hG
    have B2 := blend_good e1 hw (inLim_rev.2 hG)
    rw [blTb_rev] at B2
    have SX := sameT_ok (blTb_few (l := l) (w := a) v)
    have kl : (l.take k).length = k := by rw [List.length_take]; omega
    have et2 : opE t (l.take k) = 0 := opE_ok et (rpsE_ok (fun r h => hm r (List.mem_of_mem_take h)) (by omega))
    have rt := rpE_idx (n := t.fr.length) (l := l.take k) fun r h => hm r (List.mem_of_mem_take h)
    have lt : inLim t (l.take k) a (l.take k).length := fun h hh c hc => by
      rw [blT_all, ← blT_sum k hk]
      exact (lim_all v hr hw.1 (Nat.le_refl _) hG k hk h hh c hc).2
    have B3 := blend_good et2 hw lt
    have fM := blTb_few (l := l.take k) (w := a) v
    have FM := few_yes fM
    have tM : tbE (blTb t (l.take k) a) = 0 := (bl_tbE v hf rt hw.1).2 lt
    have TM := tableErr_ok fM
    rw [tM] at TM
    have CM := copyTable_ok fM
    have dr : ∀ r ∈ l.drop k, rpE (blTb t (l.take k) a).fr.length r = 0 := fun r h => hm r (List.mem_of_mem_drop h)
    have ed : opE (blTb t (l.take k) a) (l.drop k) = 0 := opE_ok tM (rpsE_ok dr (by rw [List.length_drop]; omega))
    have jn : l.take k ++ l.drop k = l := List.take_append_drop k l
    have ld : inLim (blTb t (l.take k) a) (l.drop k) a (l.drop k).length := fun h hh c hc => by
      have hc' : c < t.fr.length := hc
      have := hG h hh c hc'
      rw [blT_all] at this ⊢
      rw [blTb_at hh (by rw [blTb_len hh]; exact hc'), blT_all]
      rw [← jn, smR_app, smR_app] at this
      dsimp only at this ⊢
      omega
    have B4 := blend_good ed hw ld
    rw [blTb_part, jn] at B4
    have CK := copyReports_ok (l := l.take k) (by omega)
    have CD := copyReports_ok (l := l.drop k) (by rw [List.length_drop]; omega)
    clear rt dr lt ld hG ed et2 tM fM e1 e0
    generalize blTb t l a = X at *
    generalize blTb t (l.take k) a = M at *
    by_cases hg : ∀ r ∈ l, (cR t r).2 ≠ 0
    case neg =>
      rw [if_neg hg] at ge
      have s1 := gl.trans ge
      have s2 := gr.trans ge
      clear bin5
      have CA := calOf_err few hl (by rw [s1]; decide)
      have CA2 := calOf_err (l := l.reverse) few (by omega) (by rw [s2]; decide)
      have SC := scoreOf_err few hl (first_l (a := scE t l) (by rw [s1]; decide)) (by rw [s1]; decide)
      have SC2 := scoreOf_err (l := l.reverse) few (by omega) (first_l (a := scE t l.reverse) (by rw [s2]; decide)) (by rw [s2]; decide)
      rw [s1] at CA SC
      rw [s2] at CA2 SC2
      with_reducible conv => whnf
      repeat' ((first | (with_reducible refine branch_t ?_) | (with_reducible refine branch_f ?_) | (with_reducible refine branch_nt ?_) | (with_reducible refine branch_nf ?_) | (with_reducible refine branch_dec (fun _ => ?_) (fun _ => ?_)) | (with_reducible refine branch_ndec (fun _ => ?_) (fun _ => ?_)) | (with_reducible refine branch_bool (fun _ => ?_) (fun _ => ?_)) | (with_reducible refine arith_64 (by omega) ?_) | (with_reducible refine ob_i (by omega) (fun _ => ?_)) | (with_reducible refine ob_i (by unfold room; omega) (fun _ => ?_)) | (with_reducible refine ob_i (by (try simp only [toN_eq, Int.toNat_natCast] at *); (try dsimp only [toN] at *); omega) (fun _ => ?_)) | (with_reducible refine arith_64 (by (try simp only [toN_eq, Int.toNat_natCast] at *); (try dsimp only [toN] at *); omega) ?_) | (with_reducible refine ob_k rfl ?_) | ((with_reducible refine ob_k ?_ ?_); focus kernel_rfl) | (refine yield_i hmix hT rfl hL efr eps eag ebd rfl (by kernel_rfl) ?_) | (apply call_u B1) | (apply call_u B2) | (apply call_u SX) | (apply call_u MD) | (refine call_i CK (.cons (vm_takeR hk (by rw [tk]; rfl) rfl) .nil) (pureS_no _) (rv_pure IsPure.h) ?_) | (refine call_i CD (.cons (vm_dropR hk (by rw [tk, tl]) (by rw [tk])) .nil) (pureS_no _) (rv_pure IsPure.h) ?_) | (apply call_u B3) | (apply call_u FM) | (apply call_u TM) | (apply call_u CM) | (apply call_u B4) | (apply call_u CT) | (apply call_u CR) | (apply call_u CB) | (apply call_u CA) | (apply call_u CA2) | (apply call_u SC) | (apply call_u SC2) | (refine gen_eq2 rfl rfl rfl rfl (by kernel_rfl) (by kernel_rfl) (fun _ => ?_) (fun _ => ?_)) | (refine gen_ne2 rfl rfl rfl rfl (by kernel_rfl) (by kernel_rfl) (fun _ => ?_) (fun _ => ?_)) | (refine gen_eqA rfl rfl rfl rfl rfl (by kernel_rfl) (by kernel_rfl) (fun _ => ?_) (fun h => absurd rfl h)) | (refine gen_neA rfl rfl rfl rfl rfl (by kernel_rfl) (by kernel_rfl) (fun _ => ?_) (fun h => absurd rfl h)) | (apply call_l (first_ok (l := [_, _]) (Nat.le_of_ble_eq_true rfl)) (.cons (vm_lit _ rfl rfl (.cons (vm_int rfl) (.cons (vm_int rfl) .nil))) .nil)) | (apply call_l (first_ok (l := [_, _, _]) (Nat.le_of_ble_eq_true rfl)) (.cons (vm_lit _ rfl rfl (.cons (vm_int rfl) (.cons (vm_int rfl) (.cons (vm_int rfl) .nil)))) .nil)) | (apply call_l (first_ok (l := [_, _, _, _]) (Nat.le_of_ble_eq_true rfl)) (.cons (vm_lit _ rfl rfl (.cons (vm_int rfl) (.cons (vm_int rfl) (.cons (vm_int rfl) (.cons (vm_int rfl) .nil))))) .nil))) <;> (try (exfalso; omega; done)) <;> (with_reducible conv => whnf))
      all_goals exact ret0 vm_p
    · rw [if_pos hg] at ge
      have s1 := gl.trans ge
      have s2 := gr.trans ge
      have CA := calOf_good few s1
      have CA2 := calOf_good few s2
      have SC := scoreOf_good few s1 (by omega)
      have SC2 := scoreOf_good few s2 (by omega)
      rw [calC_rev] at CA2
      rw [show scS t l.reverse l.reverse.length = scS t l l.length by rw [scS_all, scS_all, smR_rev], show scW l.reverse l.reverse.length = scW l l.length by rw [scW_all, scW_all, smR_rev]] at SC2
      obtain ⟨v1, v2⟩ := bin5 hg
      have c0 := cal_bd (t := t) hr 0 l.length (Nat.le_refl _)
      have c1 := cal_bd (t := t) hr 1 l.length (Nat.le_refl _)
      have c2 := cal_bd (t := t) hr 2 l.length (Nat.le_refl _)
      have c3 := cal_bd (t := t) hr 3 l.length (Nat.le_refl _)
      have c4 := cal_bd (t := t) hr 4 l.length (Nat.le_refl _)
      have q : ∀ b, smR (bnT t b) l = (calT t l l.length b).2 ∧ smR (bnU t b) l = (calT t l l.length b).1 := fun b => by rw [cal_all]; exact ⟨rfl, rfl⟩
      rw [(q 0).1, (q 1).1, (q 2).1, (q 3).1, (q 4).1] at v1
      rw [(q 0).2, (q 1).2, (q 2).2, (q 3).2, (q 4).2] at v2
      have wp := scW_pos hm (by omega)
      have sd := sc_bd v hr (fun i hi => hg _ (mem_getR hi)) l.length (Nat.le_refl _)
      have sl := score_le v hm hg
      obtain ⟨gg, g0, _, z1, z2, z3, z4⟩ := low_split (n := scS t l l.length) wp
      have lz := low_size (n := scS t l l.length) wp
      have lz2 := lz.2.1 (by omega)
      have lz1 := lz.1
      have sl2 : (low (scS t l l.length) (scW l l.length)).1 ≤ (low (scS t l l.length) (scW l l.length)).2 * 1000000 := by
        refine Int.le_of_mul_le_mul_left (a := gg) ?_ g0
        rw [← Int.mul_assoc, ← z1, ← z2]
        exact sl
      clear q lz sl z1 z2 g0 hg
      generalize low (scS t l l.length) (scW l l.length) = fr at *
      have LO := isLowest_ok (a := fr) (by omega) (by omega)
      rw [decide_eq_true ⟨z3, z4⟩] at LO
      have SM := isSmall_ok (a := fr)
      rw [decide_eq_true (show (-1000000000 ≤ fr.1 ∧ fr.1 ≤ 1000000000) ∧ 1 ≤ fr.2 ∧ fr.2 ≤ 1000000000 by omega)] at SM
      have CP := bCompare_ok (n := fr.1) (d := fr.2) (m := 1000000) (k := 1) (by omega) (by omega) (by omega) (by omega)
      have cp : sg3 (fr.1 * 1) (1000000 * fr.2) ≤ 0 := by unfold sg3; grind
      clear bin5
      with_reducible conv => whnf
      repeat' ((first | (with_reducible refine branch_t ?_) | (with_reducible refine branch_f ?_) | (with_reducible refine branch_nt ?_) | (with_reducible refine branch_nf ?_) | (with_reducible refine branch_dec (fun _ => ?_) (fun _ => ?_)) | (with_reducible refine branch_ndec (fun _ => ?_) (fun _ => ?_)) | (with_reducible refine branch_bool (fun _ => ?_) (fun _ => ?_)) | (with_reducible refine arith_64 (by omega) ?_) | (with_reducible refine ob_i (by omega) (fun _ => ?_)) | (with_reducible refine ob_i (by unfold room; omega) (fun _ => ?_)) | (with_reducible refine ob_i (by (try simp only [toN_eq, Int.toNat_natCast] at *); (try dsimp only [toN] at *); omega) (fun _ => ?_)) | (with_reducible refine arith_64 (by (try simp only [toN_eq, Int.toNat_natCast] at *); (try dsimp only [toN] at *); omega) ?_) | (with_reducible refine ob_k rfl ?_) | ((with_reducible refine ob_k ?_ ?_); focus kernel_rfl) | (refine yield_i hmix hT rfl hL efr eps eag ebd rfl (by kernel_rfl) ?_) | (apply call_u B1) | (apply call_u B2) | (apply call_u SX) | (apply call_u MD) | (refine call_i CK (.cons (vm_takeR hk (by rw [tk]; rfl) rfl) .nil) (pureS_no _) (rv_pure IsPure.h) ?_) | (refine call_i CD (.cons (vm_dropR hk (by rw [tk, tl]) (by rw [tk])) .nil) (pureS_no _) (rv_pure IsPure.h) ?_) | (apply call_u B3) | (apply call_u FM) | (apply call_u TM) | (apply call_u CM) | (apply call_u B4) | (apply call_u CT) | (apply call_u CR) | (apply call_u CB) | (apply call_u CA) | (apply call_u CA2) | (apply call_u SC) | (apply call_u SC2) | (refine gen_eq2 rfl rfl rfl rfl (by kernel_rfl) (by kernel_rfl) (fun _ => ?_) (fun _ => ?_)) | (refine gen_ne2 rfl rfl rfl rfl (by kernel_rfl) (by kernel_rfl) (fun _ => ?_) (fun _ => ?_)) | (refine gen_eqA rfl rfl rfl rfl rfl (by kernel_rfl) (by kernel_rfl) (fun _ => ?_) (fun h => absurd rfl h)) | (refine gen_neA rfl rfl rfl rfl rfl (by kernel_rfl) (by kernel_rfl) (fun _ => ?_) (fun h => absurd rfl h)) | (apply call_l (first_ok (l := [_, _]) (Nat.le_of_ble_eq_true rfl)) (.cons (vm_lit _ rfl rfl (.cons (vm_int rfl) (.cons (vm_int rfl) .nil))) .nil)) | (apply call_l (first_ok (l := [_, _, _]) (Nat.le_of_ble_eq_true rfl)) (.cons (vm_lit _ rfl rfl (.cons (vm_int rfl) (.cons (vm_int rfl) (.cons (vm_int rfl) .nil)))) .nil)) | (apply call_l (first_ok (l := [_, _, _, _]) (Nat.le_of_ble_eq_true rfl)) (.cons (vm_lit _ rfl rfl (.cons (vm_int rfl) (.cons (vm_int rfl) (.cons (vm_int rfl) (.cons (vm_int rfl) .nil))))) .nil))) <;> (try (exfalso; omega; done)) <;> (with_reducible conv => whnf))
      refine loop_u hmix hT [(), (), (), (), (), ()] ?_
      with_reducible conv => whnf
      repeat' ((first | (with_reducible refine arith_l 0 (by decide) (by decide) ?_) | (with_reducible refine arith_l 1 (by decide) (by decide) ?_) | (with_reducible refine arith_l 2 (by decide) (by decide) ?_) | (with_reducible refine arith_l 3 (by decide) (by decide) ?_) | (with_reducible refine arith_l 4 (by decide) (by decide) ?_) | (with_reducible refine branch_t ?_) | (with_reducible refine branch_f ?_) | (with_reducible refine branch_nt ?_) | (with_reducible refine branch_nf ?_) | (with_reducible refine branch_dec (fun _ => ?_) (fun _ => ?_)) | (with_reducible refine branch_ndec (fun _ => ?_) (fun _ => ?_)) | (with_reducible refine branch_bool (fun _ => ?_) (fun _ => ?_)) | (with_reducible refine arith_64 (by omega) ?_) | (with_reducible refine ob_i (by omega) (fun _ => ?_)) | (with_reducible refine ob_i (by unfold room; omega) (fun _ => ?_)) | (with_reducible refine ob_i (by (try simp only [toN_eq, Int.toNat_natCast] at *); (try dsimp only [toN] at *); omega) (fun _ => ?_)) | (with_reducible refine arith_64 (by (try simp only [toN_eq, Int.toNat_natCast] at *); (try dsimp only [toN] at *); omega) ?_) | (with_reducible refine ob_k rfl ?_) | ((with_reducible refine ob_k ?_ ?_); focus kernel_rfl) | (refine yield_i hmix hT rfl hL efr eps eag ebd rfl (by kernel_rfl) ?_) | (apply call_u bWithin_ok) | (apply call_u LO) | (apply call_u SM) | (apply call_u CP) | (with_reducible refine arith_l 5 (by decide) (by decide) ?_) | (apply call_l (first_ok (l := [_, _]) (Nat.le_of_ble_eq_true rfl)) (.cons (vm_lit _ rfl rfl (.cons (vm_int rfl) (.cons (vm_int rfl) .nil))) .nil)) | (apply call_l (first_ok (l := [_, _, _]) (Nat.le_of_ble_eq_true rfl)) (.cons (vm_lit _ rfl rfl (.cons (vm_int rfl) (.cons (vm_int rfl) (.cons (vm_int rfl) .nil)))) .nil)) | (apply call_l (first_ok (l := [_, _, _, _]) (Nat.le_of_ble_eq_true rfl)) (.cons (vm_lit _ rfl rfl (.cons (vm_int rfl) (.cons (vm_int rfl) (.cons (vm_int rfl) (.cons (vm_int rfl) .nil))))) .nil))) <;> (try (exfalso; omega; done)) <;> (with_reducible conv => whnf))
      all_goals first | exact ret0 vm_p | exact ret0 (vm_bool (decide_eq_true (by omega)))
  · have B1 := blend_big e0 hw hG
    have B2 := blend_big e1 hw (fun h => hG (inLim_rev.1 h))
    clear hG e0 e1 MD
    by_cases hg : ∀ r ∈ l, (cR t r).2 ≠ 0
    case neg =>
      rw [if_neg hg] at ge
      have s1 := gl.trans ge
      have s2 := gr.trans ge
      clear bin5
      have CA := calOf_err few hl (by rw [s1]; decide)
      have CA2 := calOf_err (l := l.reverse) few (by omega) (by rw [s2]; decide)
      have SC := scoreOf_err few hl (first_l (a := scE t l) (by rw [s1]; decide)) (by rw [s1]; decide)
      have SC2 := scoreOf_err (l := l.reverse) few (by omega) (first_l (a := scE t l.reverse) (by rw [s2]; decide)) (by rw [s2]; decide)
      rw [s1] at CA SC
      rw [s2] at CA2 SC2
      with_reducible conv => whnf
      repeat' ((first | (with_reducible refine branch_t ?_) | (with_reducible refine branch_f ?_) | (with_reducible refine branch_nt ?_) | (with_reducible refine branch_nf ?_) | (with_reducible refine branch_dec (fun _ => ?_) (fun _ => ?_)) | (with_reducible refine branch_ndec (fun _ => ?_) (fun _ => ?_)) | (with_reducible refine branch_bool (fun _ => ?_) (fun _ => ?_)) | (with_reducible refine arith_64 (by omega) ?_) | (with_reducible refine ob_i (by omega) (fun _ => ?_)) | (with_reducible refine ob_i (by unfold room; omega) (fun _ => ?_)) | (with_reducible refine ob_i (by (try simp only [toN_eq, Int.toNat_natCast] at *); (try dsimp only [toN] at *); omega) (fun _ => ?_)) | (with_reducible refine arith_64 (by (try simp only [toN_eq, Int.toNat_natCast] at *); (try dsimp only [toN] at *); omega) ?_) | (with_reducible refine ob_k rfl ?_) | ((with_reducible refine ob_k ?_ ?_); focus kernel_rfl) | (refine yield_i hmix hT rfl hL efr eps eag ebd rfl (by kernel_rfl) ?_) | (apply call_u B1) | (apply call_u B2) | (apply call_u SX0) | (apply call_u CT) | (apply call_u CR) | (apply call_u CB) | (apply call_u CA) | (apply call_u CA2) | (apply call_u SC) | (apply call_u SC2) | (refine gen_eq2 rfl rfl rfl rfl (by kernel_rfl) (by kernel_rfl) (fun _ => ?_) (fun _ => ?_)) | (refine gen_ne2 rfl rfl rfl rfl (by kernel_rfl) (by kernel_rfl) (fun _ => ?_) (fun _ => ?_)) | (refine gen_eqA rfl rfl rfl rfl rfl (by kernel_rfl) (by kernel_rfl) (fun _ => ?_) (fun h => absurd rfl h)) | (refine gen_neA rfl rfl rfl rfl rfl (by kernel_rfl) (by kernel_rfl) (fun _ => ?_) (fun h => absurd rfl h)) | (apply call_l (first_ok (l := [_, _]) (Nat.le_of_ble_eq_true rfl)) (.cons (vm_lit _ rfl rfl (.cons (vm_int rfl) (.cons (vm_int rfl) .nil))) .nil)) | (apply call_l (first_ok (l := [_, _, _]) (Nat.le_of_ble_eq_true rfl)) (.cons (vm_lit _ rfl rfl (.cons (vm_int rfl) (.cons (vm_int rfl) (.cons (vm_int rfl) .nil)))) .nil)) | (apply call_l (first_ok (l := [_, _, _, _]) (Nat.le_of_ble_eq_true rfl)) (.cons (vm_lit _ rfl rfl (.cons (vm_int rfl) (.cons (vm_int rfl) (.cons (vm_int rfl) (.cons (vm_int rfl) .nil))))) .nil))) <;> (try (exfalso; omega; done)) <;> (with_reducible conv => whnf))
      all_goals exact ret0 vm_p
    · rw [if_pos hg] at ge
      have s1 := gl.trans ge
      have s2 := gr.trans ge
      have CA := calOf_good few s1
      have CA2 := calOf_good few s2
      have SC := scoreOf_good few s1 (by omega)
      have SC2 := scoreOf_good few s2 (by omega)
      rw [calC_rev] at CA2
      rw [show scS t l.reverse l.reverse.length = scS t l l.length by rw [scS_all, scS_all, smR_rev], show scW l.reverse l.reverse.length = scW l l.length by rw [scW_all, scW_all, smR_rev]] at SC2
      obtain ⟨v1, v2⟩ := bin5 hg
      have c0 := cal_bd (t := t) hr 0 l.length (Nat.le_refl _)
      have c1 := cal_bd (t := t) hr 1 l.length (Nat.le_refl _)
      have c2 := cal_bd (t := t) hr 2 l.length (Nat.le_refl _)
      have c3 := cal_bd (t := t) hr 3 l.length (Nat.le_refl _)
      have c4 := cal_bd (t := t) hr 4 l.length (Nat.le_refl _)
      have q : ∀ b, smR (bnT t b) l = (calT t l l.length b).2 ∧ smR (bnU t b) l = (calT t l l.length b).1 := fun b => by rw [cal_all]; exact ⟨rfl, rfl⟩
      rw [(q 0).1, (q 1).1, (q 2).1, (q 3).1, (q 4).1] at v1
      rw [(q 0).2, (q 1).2, (q 2).2, (q 3).2, (q 4).2] at v2
      have wp := scW_pos hm (by omega)
      have sd := sc_bd v hr (fun i hi => hg _ (mem_getR hi)) l.length (Nat.le_refl _)
      have sl := score_le v hm hg
      obtain ⟨gg, g0, _, z1, z2, z3, z4⟩ := low_split (n := scS t l l.length) wp
      have lz := low_size (n := scS t l l.length) wp
      have lz2 := lz.2.1 (by omega)
      have lz1 := lz.1
      have sl2 : (low (scS t l l.length) (scW l l.length)).1 ≤ (low (scS t l l.length) (scW l l.length)).2 * 1000000 := by
        refine Int.le_of_mul_le_mul_left (a := gg) ?_ g0
        rw [← Int.mul_assoc, ← z1, ← z2]
        exact sl
      clear q lz sl z1 z2 g0 hg
      generalize low (scS t l l.length) (scW l l.length) = fr at *
      have LO := isLowest_ok (a := fr) (by omega) (by omega)
      rw [decide_eq_true ⟨z3, z4⟩] at LO
      have SM := isSmall_ok (a := fr)
      rw [decide_eq_true (show (-1000000000 ≤ fr.1 ∧ fr.1 ≤ 1000000000) ∧ 1 ≤ fr.2 ∧ fr.2 ≤ 1000000000 by omega)] at SM
      have CP := bCompare_ok (n := fr.1) (d := fr.2) (m := 1000000) (k := 1) (by omega) (by omega) (by omega) (by omega)
      have cp : sg3 (fr.1 * 1) (1000000 * fr.2) ≤ 0 := by unfold sg3; grind
      clear bin5
      with_reducible conv => whnf
      repeat' ((first | (with_reducible refine branch_t ?_) | (with_reducible refine branch_f ?_) | (with_reducible refine branch_nt ?_) | (with_reducible refine branch_nf ?_) | (with_reducible refine branch_dec (fun _ => ?_) (fun _ => ?_)) | (with_reducible refine branch_ndec (fun _ => ?_) (fun _ => ?_)) | (with_reducible refine branch_bool (fun _ => ?_) (fun _ => ?_)) | (with_reducible refine arith_64 (by omega) ?_) | (with_reducible refine ob_i (by omega) (fun _ => ?_)) | (with_reducible refine ob_i (by unfold room; omega) (fun _ => ?_)) | (with_reducible refine ob_i (by (try simp only [toN_eq, Int.toNat_natCast] at *); (try dsimp only [toN] at *); omega) (fun _ => ?_)) | (with_reducible refine arith_64 (by (try simp only [toN_eq, Int.toNat_natCast] at *); (try dsimp only [toN] at *); omega) ?_) | (with_reducible refine ob_k rfl ?_) | ((with_reducible refine ob_k ?_ ?_); focus kernel_rfl) | (refine yield_i hmix hT rfl hL efr eps eag ebd rfl (by kernel_rfl) ?_) | (apply call_u B1) | (apply call_u B2) | (apply call_u SX0) | (apply call_u CT) | (apply call_u CR) | (apply call_u CB) | (apply call_u CA) | (apply call_u CA2) | (apply call_u SC) | (apply call_u SC2) | (refine gen_eq2 rfl rfl rfl rfl (by kernel_rfl) (by kernel_rfl) (fun _ => ?_) (fun _ => ?_)) | (refine gen_ne2 rfl rfl rfl rfl (by kernel_rfl) (by kernel_rfl) (fun _ => ?_) (fun _ => ?_)) | (refine gen_eqA rfl rfl rfl rfl rfl (by kernel_rfl) (by kernel_rfl) (fun _ => ?_) (fun h => absurd rfl h)) | (refine gen_neA rfl rfl rfl rfl rfl (by kernel_rfl) (by kernel_rfl) (fun _ => ?_) (fun h => absurd rfl h)) | (apply call_l (first_ok (l := [_, _]) (Nat.le_of_ble_eq_true rfl)) (.cons (vm_lit _ rfl rfl (.cons (vm_int rfl) (.cons (vm_int rfl) .nil))) .nil)) | (apply call_l (first_ok (l := [_, _, _]) (Nat.le_of_ble_eq_true rfl)) (.cons (vm_lit _ rfl rfl (.cons (vm_int rfl) (.cons (vm_int rfl) (.cons (vm_int rfl) .nil)))) .nil)) | (apply call_l (first_ok (l := [_, _, _, _]) (Nat.le_of_ble_eq_true rfl)) (.cons (vm_lit _ rfl rfl (.cons (vm_int rfl) (.cons (vm_int rfl) (.cons (vm_int rfl) (.cons (vm_int rfl) .nil))))) .nil))) <;> (try (exfalso; omega; done)) <;> (with_reducible conv => whnf))
      refine loop_u hmix hT [(), (), (), (), (), ()] ?_
      with_reducible conv => whnf
      repeat' ((first | (with_reducible refine arith_l 0 (by decide) (by decide) ?_) | (with_reducible refine arith_l 1 (by decide) (by decide) ?_) | (with_reducible refine arith_l 2 (by decide) (by decide) ?_) | (with_reducible refine arith_l 3 (by decide) (by decide) ?_) | (with_reducible refine arith_l 4 (by decide) (by decide) ?_) | (with_reducible refine branch_t ?_) | (with_reducible refine branch_f ?_) | (with_reducible refine branch_nt ?_) | (with_reducible refine branch_nf ?_) | (with_reducible refine branch_dec (fun _ => ?_) (fun _ => ?_)) | (with_reducible refine branch_ndec (fun _ => ?_) (fun _ => ?_)) | (with_reducible refine branch_bool (fun _ => ?_) (fun _ => ?_)) | (with_reducible refine arith_64 (by omega) ?_) | (with_reducible refine ob_i (by omega) (fun _ => ?_)) | (with_reducible refine ob_i (by unfold room; omega) (fun _ => ?_)) | (with_reducible refine ob_i (by (try simp only [toN_eq, Int.toNat_natCast] at *); (try dsimp only [toN] at *); omega) (fun _ => ?_)) | (with_reducible refine arith_64 (by (try simp only [toN_eq, Int.toNat_natCast] at *); (try dsimp only [toN] at *); omega) ?_) | (with_reducible refine ob_k rfl ?_) | ((with_reducible refine ob_k ?_ ?_); focus kernel_rfl) | (refine yield_i hmix hT rfl hL efr eps eag ebd rfl (by kernel_rfl) ?_) | (apply call_u bWithin_ok) | (apply call_u LO) | (apply call_u SM) | (apply call_u CP) | (with_reducible refine arith_l 5 (by decide) (by decide) ?_) | (apply call_l (first_ok (l := [_, _]) (Nat.le_of_ble_eq_true rfl)) (.cons (vm_lit _ rfl rfl (.cons (vm_int rfl) (.cons (vm_int rfl) .nil))) .nil)) | (apply call_l (first_ok (l := [_, _, _]) (Nat.le_of_ble_eq_true rfl)) (.cons (vm_lit _ rfl rfl (.cons (vm_int rfl) (.cons (vm_int rfl) (.cons (vm_int rfl) .nil)))) .nil)) | (apply call_l (first_ok (l := [_, _, _, _]) (Nat.le_of_ble_eq_true rfl)) (.cons (vm_lit _ rfl rfl (.cons (vm_int rfl) (.cons (vm_int rfl) (.cons (vm_int rfl) (.cons (vm_int rfl) .nil))))) .nil))) <;> (try (exfalso; omega; done)) <;> (with_reducible conv => whnf))
      all_goals first | exact ret0 vm_p | exact ret0 (vm_bool (decide_eq_true (by omega)))
end Go.Proofs.YtcdcmeiipfafdaaGreat
