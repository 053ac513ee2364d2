/-
  Chapter 5: numbers of any size: divided, rounded down; greatest common divisors (by contract).
  Conditions: none.
-/
import Derived.Test.Ytdfcedndkplabaa5Wc
namespace Go.Proofs.Ytdfcedndkplabaa
open Go.RowKit Fx Wd
theorem dg_len_k {n k : Nat} (h : (n : Int) < 1000000000 ^ k) : (dg n).length ≤ k := by
  by_cases z : n = 0
  · subst z; rw [dg_zero]; simp
  · apply Classical.byContradiction
    intro c
    have := dg_ge z
    have := pow_le (i := k) (j := (dg n).length - 1) (by omega)
    omega
theorem dg_k {n k : Nat} (h : (dg n).length ≤ k) : (n : Int) < 1000000000 ^ k := by
  have := dg_lt n
  have := pow_le h
  omega
/-- A number with few digits. -/
def Fw (k : Nat) (z : Int) : Prop := (z.natAbs : Int) < 1000000000 ^ k
theorem Fw.len {k : Nat} {z : Int} (h : Fw k z) : (dg z.natAbs).length ≤ k := dg_len_k h
theorem Fw.mono {k m : Nat} {z : Int} (h : Fw k z) (hk : k ≤ m) : Fw m z := by
  have := pow_le hk
  unfold Fw at *
  omega
theorem Fw.le {k : Nat} {z w : Int} (h : Fw k z) (hw : w.natAbs ≤ z.natAbs) : Fw k w := by unfold Fw at *; omega
theorem Fw.mul {k m : Nat} {z w : Int} (h : Fw k z) (h2 : Fw m w) : Fw (k + m) (z * w) := by
  unfold Fw at *
  rw [Int.natAbs_mul, Int.pow_add]
  push_cast
  have p := pow_pos' m
  have a : (z.natAbs : Int) * w.natAbs ≤ z.natAbs * 1000000000 ^ m := Int.mul_le_mul_of_nonneg_left (by omega) (by omega)
  have b : (z.natAbs : Int) * 1000000000 ^ m < 1000000000 ^ k * 1000000000 ^ m := Int.mul_lt_mul_of_pos_right h p
  omega
theorem Fw.add {k : Nat} {z w : Int} (h : Fw k z) (h2 : Fw k w) : Fw (k + 1) (z + w) := by
  unfold Fw at *
  rw [Int.pow_succ]
  omega
theorem Fw.neg {k : Nat} {z : Int} (h : Fw k z) : Fw k (-z) := by unfold Fw at *; rw [Int.natAbs_neg]; exact h
theorem Fw.sub {k : Nat} {z w : Int} (h : Fw k z) (h2 : Fw k w) : Fw (k + 1) (z - w) := by
  have := h.add h2.neg
  rw [show z + -w = z - w by omega] at this
  exact this
theorem Fw.small {z : Int} (h : z.natAbs < 1000000000) : Fw 1 z := by unfold Fw; rw [Int.pow_succ, Int.pow_zero]; omega
theorem Fw.int {z : Int} (h : -9223372036854775808 ≤ z ∧ z ≤ 9223372036854775808) : Fw 3 z := by
  unfold Fw
  rw [show (1000000000 : Int) ^ 3 = 1000000000000000000000000000 by decide]
  omega
/-- The quotient so far: the j lowest digits are still to come. -/
structure FlI (a : List Int) (y : Int) (j : Nat) (Q : List Int) (R : Nat) : Prop where
  n : Q.length = a.length
  d : Dg Q
  r : (R : Int) < y
  v : wv (a.drop j) = wv (Q.drop j) * y + R
theorem FlI.step {a Q : List Int} {y : Int} {j R : Nat} {lo : Int} (h : FlI a y j Q R) (_hy : 0 < y) (hj : 0 < j) (hl : j ≤ a.length) (h0 : 0 ≤ lo ∧ lo < 1000000000) {L : Nat} (hL : (L : Int) = a.getD (j - 1) 0 + 1000000000 * R) (h1 : y * lo ≤ L) (h2 : L < y * (lo + 1)) : FlI a y (j - 1) (Q.set (j - 1) lo) (L - y * lo).toNat := by
  have e : ((L - y * lo).toNat : Int) = L - y * lo := by omega
  refine ⟨by simpa using h.n, h.d.set _ h0, by rw [e, Int.mul_add] at *; omega, ?_⟩
  have v := h.v
  have hn := h.n
  rw [wv_drop (l := a) (i := j - 1) (by omega), wv_drop (l := Q.set (j - 1) lo) (i := j - 1) (by rw [List.length_set]; omega), getD_set_at (by omega), show j - 1 + 1 = j by omega, e, v]
  rw [show (Q.set (j - 1) lo).drop j = Q.drop j by rw [List.drop_set, if_pos (by omega)]]
  rw [Int.add_mul, Int.mul_comm lo y, Int.mul_add, Int.mul_assoc]
  omega
theorem floor_end {x y q R : Int} (hy : 0 < y) (h : (x.natAbs : Int) = q * y + R) (h0 : 0 ≤ R) (h1 : R < y) : (0 ≤ x → x / y = q) ∧ (x < 0 → R = 0 → x / y = -q) ∧ (x < 0 → 0 < R → x / y = -q - 1) := by
  refine ⟨fun hx => ?_, fun hx hr => ?_, fun hx hr => ?_⟩
  · rw [show x = R + q * y by omega, Int.add_mul_ediv_right _ _ (by omega), Int.ediv_eq_zero_of_lt h0 h1]; omega
  · rw [show x = 0 + -q * y by rw [Int.neg_mul]; omega, Int.add_mul_ediv_right _ _ (by omega)]; simp
  · rw [show x = (y - R) + (-q - 1) * y by rw [Int.sub_mul, Int.neg_mul]; omega, Int.add_mul_ediv_right _ _ (by omega), Int.ediv_eq_zero_of_lt (by omega) (by omega)]; omega
theorem vm_front {S : Vw} {x : Int} {l : List Int} {i : Nat} : vm S (appF 1 (litF [I x]) (fun i => I (l.getD i 0)) i) (I ((x :: l).getD i 0)) := by
  cases i with
  | zero => rw [appF_lt (by omega)]; exact vm_p
  | succ i =>
    rw [appF_ge (by omega), Nat.add_sub_cancel]
    exact vm_p
set_option maxHeartbeats 8000000 in
set_option maxRecDepth 100000 in
theorem wideFloor_ok {x y : Int} (hy : 0 < y) {k : Nat} (hk : k ≤ 200) (fx : Fw k x) (fy : Fw k y) : FnOK Try.prog 79 [eW x, eW y] (eW (x / y)) [] := by
  have sx := sign_cases x
  have da := dg_in x.natAbs
  have va := dg_val x.natAbs
  have la := fx.len
  by_cases x0 : x = 0
  · subst x0
    rw [Int.zero_ediv]
    show FnOK Try.prog 79 [.agg [I 0, eInts (dg 0)], .agg [I y.sign, eInts (dg y.natAbs)]] (.agg [I 0, eInts (dg 0)]) []
    have z : (dg 0).length = 0 := by rw [dg_zero]; rfl
    generalize y.sign = s at *
    generalize dg y.natAbs = l at *
    generalize dg 0 = k at *
    refine fn_i hmix hT Try.f79 (by kernel_rfl) rfl (by kernel_rfl) ?_
    with_reducible conv => whnf
    repeat' ((first | (with_reducible refine branch_t ?_) | (with_reducible refine branch_f ?_) | (with_reducible refine branch_nt ?_) | (with_reducible refine branch_nf ?_) | (with_reducible refine branch_dec (fun _ => ?_) (fun _ => ?_)) | (with_reducible refine branch_ndec (fun _ => ?_) (fun _ => ?_)) | (with_reducible refine branch_bool (fun _ => ?_) (fun _ => ?_)) | (with_reducible refine arith_64 (by omega) ?_) | (with_reducible refine ob_i (by omega) (fun _ => ?_)) | (with_reducible refine ob_i (by unfold room; omega) (fun _ => ?_)) | (with_reducible refine ob_i (by (try simp only [] at *); (try dsimp only [toN] at *); omega) (fun _ => ?_)) | (with_reducible refine arith_64 (by (try simp only [] at *); (try dsimp only [toN] at *); omega) ?_) | (with_reducible refine ob_k rfl ?_) | ((with_reducible refine ob_k ?_ ?_); focus kernel_rfl) | (refine yield_i hmix hT rfl hL efr eps eag ebd rfl (by kernel_rfl) ?_)  | (apply call_l (first_ok (l := [_, _]) (Nat.le_of_ble_eq_true rfl)) (.cons (vm_lit _ rfl rfl (.cons (vm_int rfl) (.cons (vm_int rfl) .nil))) .nil)) | (apply call_l (first_ok (l := [_, _, _]) (Nat.le_of_ble_eq_true rfl)) (.cons (vm_lit _ rfl rfl (.cons (vm_int rfl) (.cons (vm_int rfl) (.cons (vm_int rfl) .nil)))) .nil)) | (apply call_l (first_ok (l := [_, _, _, _]) (Nat.le_of_ble_eq_true rfl)) (.cons (vm_lit _ rfl rfl (.cons (vm_int rfl) (.cons (vm_int rfl) (.cons (vm_int rfl) (.cons (vm_int rfl) .nil))))) .nil))) <;> (try (exfalso; omega; done)) <;> (with_reducible conv => whnf))
    exact ret0 (vm_agg (.cons vm_p (.cons (vm_nilsl z) .nil)))
  have wy : wv (dg y.natAbs) = y := by rw [dg_val]; omega
  have WO := wideOf_ok (s := 1) (l := dg y.natAbs) (z := y) (dg_in _) (by have := fy.len; omega) (by rw [wy]; omega) (.inl rfl)
  have ly := fy.len
  -- the quotient, made a number
  have FIN : ∀ Q R, FlI (dg x.natAbs) y 0 Q R → FnOK Try.prog 75 [I x.sign, eInts Q] (.agg [I (x.sign * wv Q).sign, eInts (dg (x.sign * wv Q).natAbs)]) [] := fun Q R h => wideOf_ok (s := x.sign) (l := Q) (z := x.sign * wv Q) h.d (by have := h.n; omega) rfl (by omega)
  have FIX : ∀ Q R, FlI (dg x.natAbs) y 0 Q R → (0 ≤ x → x / y = x.sign * wv Q) ∧ (x < 0 → R = 0 → x / y = x.sign * wv Q) ∧ (x < 0 → 0 < R → x / y = x.sign * wv Q - 1) ∧ Fw k (x.sign * wv Q) := fun Q R h => by
    have v := h.v
    rw [List.drop_zero, List.drop_zero, va] at v
    obtain ⟨f1, f2, f3⟩ := floor_end hy v (by omega) h.r
    have q0 := wv_nn h.d
    have q1 : wv Q ≤ wv Q * y := by
      have : wv Q * 1 ≤ wv Q * y := Int.mul_le_mul_of_nonneg_left (by omega) q0
      omega
    refine ⟨fun hx => ?_, fun hx hr => ?_, fun hx hr => ?_, fx.le ?_⟩
    · rw [f1 hx, show x.sign = 1 by omega, Int.one_mul]
    · rw [f2 hx (by omega), show x.sign = -1 by omega, Int.neg_one_mul]
    · rw [f3 hx (by omega), show x.sign = -1 by omega, Int.neg_one_mul]
    · rcases sx with ⟨_, e⟩ | ⟨_, e⟩ | ⟨_, e⟩ <;> rw [e] <;> omega
  have fy2 : Fw (k + 1) y := fy.mono (by omega)
  have SEARCH : ∀ (L : Nat), (dg L).length ≤ k + 2 → ∀ m : Int, 0 ≤ m → m < 1000000000 → FnOK Try.prog 51 [I m] (eW m) [] ∧ FnOK Try.prog 44 [eW y, eW m] (eW (y * m)) [] ∧ FnOK Try.prog 94 [eD (y * m).natAbs, eD L] (I (sgn (y * m) L)) [] ∧ (y * m ≤ L → FnOK Try.prog 95 [eD L, eD (y * m).natAbs] (eD (L - y * m).toNat) []) := fun L hL m h0 h1 => by
    have fm : Fw 1 m := Fw.small (by omega)
    have lym := (fy.mul fm).len
    have nn : 0 ≤ y * m := Int.mul_nonneg (by omega) h0
    have an : ((y * m).natAbs : Int) = y * m := by omega
    refine ⟨bWideOf_ok (by omega), wideMul_ok (by omega) (by have := fm.len; omega), ?_, fun hle => ?_⟩
    · have := cmpDigits_ok (a := (y * m).natAbs) (b := L) (by omega) (by omega)
      rw [an] at this
      exact this
    · exact subDigits_ok (a := dg L) (b := dg (y * m).natAbs) (dg_in _) (dg_in _) (by omega) (dg_len_le (by omega)) (by rw [dg_val, dg_val]; omega) (by rw [dg_val, dg_val, an])
  clear wy
  show FnOK Try.prog 79 [.agg [I x.sign, eInts (dg x.natAbs)], .agg [I y.sign, eInts (dg y.natAbs)]] (.agg [I (x / y).sign, eInts (dg (x / y).natAbs)]) []
  have hsx : x.sign ≠ 0 := by omega
  have hs0 : x.sign < 0 → x < 0 := fun h => by omega
  have hs1 : ¬ x.sign < 0 → 0 ≤ x := fun h => by omega
  obtain ⟨a, ea⟩ : ∃ a, a = dg x.natAbs := ⟨_, rfl⟩
  rw [← ea] at da va la FIN FIX
  rw [← ea]
  have va' : wv a = x.natAbs := va
  clear va
  refine fn_i hmix hT Try.f79 (by kernel_rfl) rfl (by kernel_rfl) ?_
  with_reducible conv => whnf
  repeat' ((first | (with_reducible refine branch_t ?_) | (with_reducible refine branch_f ?_) | (with_reducible refine branch_nt ?_) | (with_reducible refine branch_nf ?_) | (with_reducible refine branch_dec (fun _ => ?_) (fun _ => ?_)) | (with_reducible refine branch_ndec (fun _ => ?_) (fun _ => ?_)) | (with_reducible refine branch_bool (fun _ => ?_) (fun _ => ?_)) | (with_reducible refine arith_64 (by omega) ?_) | (with_reducible refine ob_i (by omega) (fun _ => ?_)) | (with_reducible refine ob_i (by unfold room; omega) (fun _ => ?_)) | (with_reducible refine ob_i (by (try simp only [toN_eq, Int.toNat_natCast] at *); (try dsimp only [toN] at *); omega) (fun _ => ?_)) | (with_reducible refine arith_64 (by (try simp only [toN_eq, Int.toNat_natCast] at *); (try dsimp only [toN] at *); omega) ?_) | (with_reducible refine ob_k rfl ?_) | ((with_reducible refine ob_k ?_ ?_); focus kernel_rfl) | (refine yield_i hmix hT rfl hL efr eps eag ebd rfl (by kernel_rfl) ?_)  | (apply call_l (first_ok (l := [_, _]) (Nat.le_of_ble_eq_true rfl)) (.cons (vm_lit _ rfl rfl (.cons (vm_int rfl) (.cons (vm_int rfl) .nil))) .nil)) | (apply call_l (first_ok (l := [_, _, _]) (Nat.le_of_ble_eq_true rfl)) (.cons (vm_lit _ rfl rfl (.cons (vm_int rfl) (.cons (vm_int rfl) (.cons (vm_int rfl) .nil)))) .nil)) | (apply call_l (first_ok (l := [_, _, _, _]) (Nat.le_of_ble_eq_true rfl)) (.cons (vm_lit _ rfl rfl (.cons (vm_int rfl) (.cons (vm_int rfl) (.cons (vm_int rfl) (.cons (vm_int rfl) .nil))))) .nil))) <;> (try (exfalso; omega; done)) <;> (with_reducible conv => whnf))
  refine loop_i hmix hT (fun (z : Nat × List Int × Nat) => match z with | (j, Q, R) => ([(2, .ptr 0 0), (3, .ptr 1 0), (4, .ptr 2 0), (5, .own 3 1 0 a.length), (6, eD R), (7, I ((j : Int) - 1))], ⟨4, [(3, .row 1 a.length (fun i => I (Q.getD i 0)) 3), (2, .cells [I 0, .sc (.slice none 0 0)] 46), (1, .cells [I y.sign, eInts (dg y.natAbs)] 46), (0, .cells [I x.sign, eInts a] 46)]⟩)) (fun z => z.1 ≤ a.length ∧ FlI a y z.1 z.2.1 z.2.2) (fun z => z.1) (a.length, List.replicate a.length 0, 0) ⟨by dsimp only; omega, by dsimp only; exact ⟨by simp, fun d hd => by rw [List.eq_of_mem_replicate hd]; omega, by omega, by rw [List.drop_length, List.drop_eq_nil_of_le (by simp)]; simp [wv]⟩⟩ ?_ ?_
  · refine ⟨[], rfl, ⟨⟨_, rfl, vm_ptr rfl rfl rfl⟩, ⟨_, rfl, vm_ptr rfl rfl rfl⟩, ⟨_, rfl, vm_ptr rfl rfl rfl⟩, ⟨_, rfl, vm_own rfl rfl rfl (by rw [toN_eq]; omega)⟩, ⟨_, rfl, vm_fr rfl rfl (dg_len_zero.2 rfl).symm (Nat.le_refl _) fun i hi => absurd hi (by rw [dg_len_zero.2 rfl]; omega)⟩, ⟨_, rfl, vm_int rfl⟩, trivial⟩, ⟨⟨_, rfl, sbm_row (by rw [toN_eq]; omega) fun j hj => ?_⟩, ⟨_, rfl, sbm_cells vmL_p⟩, ⟨_, rfl, sbm_cells vmL_p⟩, ⟨_, rfl, sbm_cells vmL_p⟩, trivial⟩⟩
    rw [show (List.replicate a.length (0 : Int)).getD j 0 = 0 by rw [List.getD_eq_getElem?_getD, List.getElem?_replicate]; split <;> rfl]
    exact vm_p
  rintro ⟨j, Q, R⟩ ⟨hj, hI⟩
  dsimp only at hj hI
  have hn := hI.n
  by_cases c : 0 < j
  · have tj : toN ((j : Int) - 1) = j - 1 := by rw [toN_eq]; omega
    have aj := da.at (j - 1)
    have lR : (dg R).length ≤ k := dg_len_k (by have := hI.r; unfold Fw at fy; omega)
    obtain ⟨L, eL⟩ : ∃ L : Nat, (L : Int) = a.getD (j - 1) 0 + 1000000000 * R := ⟨(a.getD (j - 1) 0 + 1000000000 * R).toNat, by omega⟩
    have lL : (dg L).length ≤ k + 2 := dg_len_k (by
      have r := hI.r
      unfold Fw at fy
      rw [Int.pow_succ, Int.pow_succ]
      omega)
    have T := trimmed_ok (l := a.getD (toN ((j : Int) - 1)) 0 :: dg R) (n := L) (Dg.cons (by rw [tj]; exact aj) (dg_in R)) (by simp; omega) (by show (_ + 1000000000 * wv (dg R)).toNat = L; rw [dg_val, tj]; omega)
    have SR := SEARCH L lL
    have step := fun lo => hI.step (lo := lo) hy c hj
    have big : (L : Int) < y * 1000000000 := by have := hI.r; omega
    clear FIN FIX SEARCH
    with_reducible conv => whnf
    repeat' ((first | (with_reducible refine branch_t ?_) | (with_reducible refine branch_f ?_) | (with_reducible refine branch_nt ?_) | (with_reducible refine branch_nf ?_) | (with_reducible refine branch_dec (fun _ => ?_) (fun _ => ?_)) | (with_reducible refine branch_ndec (fun _ => ?_) (fun _ => ?_)) | (with_reducible refine branch_bool (fun _ => ?_) (fun _ => ?_)) | (with_reducible refine arith_64 (by omega) ?_) | (with_reducible refine ob_i (by omega) (fun _ => ?_)) | (with_reducible refine ob_i (by unfold room; omega) (fun _ => ?_)) | (with_reducible refine ob_i (by (try simp only [toN_eq] at *); (try dsimp only [toN] at *); omega) (fun _ => ?_)) | (with_reducible refine arith_64 (by (try simp only [toN_eq] at *); (try dsimp only [toN] at *); omega) ?_) | (with_reducible refine ob_k rfl ?_) | ((with_reducible refine ob_k ?_ ?_); focus kernel_rfl) | (refine yield_i hmix hT rfl hL efr eps eag ebd rfl (by kernel_rfl) ?_) | (refine call_z 5 T rfl rfl (.cons (vm_fr rfl rfl (by simp; omega) (by omega) fun _ _ => vm_front) .nil) (pureS_no _) (rv_pure IsPure.h) ?_) | (apply call_l (first_ok (l := [_, _]) (Nat.le_of_ble_eq_true rfl)) (.cons (vm_lit _ rfl rfl (.cons (vm_int rfl) (.cons (vm_int rfl) .nil))) .nil)) | (apply call_l (first_ok (l := [_, _, _]) (Nat.le_of_ble_eq_true rfl)) (.cons (vm_lit _ rfl rfl (.cons (vm_int rfl) (.cons (vm_int rfl) (.cons (vm_int rfl) .nil)))) .nil)) | (apply call_l (first_ok (l := [_, _, _, _]) (Nat.le_of_ble_eq_true rfl)) (.cons (vm_lit _ rfl rfl (.cons (vm_int rfl) (.cons (vm_int rfl) (.cons (vm_int rfl) (.cons (vm_int rfl) .nil))))) .nil))) <;> (try (exfalso; omega; done)) <;> (with_reducible conv => whnf))
    refine loop_i hmix hT (fun (z : Int × Int) => match z with | (lo, hi) => ([(2, .ptr 0 0), (3, .ptr 1 0), (4, .ptr 2 0), (5, .own 3 1 0 a.length), (6, eD L), (7, I ((j : Int) - 1)), (8, I lo), (9, I hi)], ⟨4, [(3, .row 1 a.length (fun i => I (Q.getD i 0)) 3), (2, .cells [I 0, .sc (.slice none 0 0)] 46), (1, .cells [I y.sign, eInts (dg y.natAbs)] 46), (0, .cells [I x.sign, eInts a] 46)]⟩)) (fun z => (0 ≤ z.1 ∧ z.1 ≤ z.2 ∧ z.2 < 1000000000) ∧ y * z.1 ≤ L ∧ (L : Int) < y * (z.2 + 1)) (fun z => (z.2 - z.1).toNat) ((0 : Int), (999999999 : Int)) ⟨by dsimp only; omega, by dsimp only; rw [Int.mul_zero]; omega, by dsimp only; exact big⟩ ?_ ?_
    · refine ⟨[], rfl, ?_, ?_⟩ <;> repeat' (first | exact trivial | exact vm_p | exact vm_ptr rfl rfl rfl | exact vm_yld rfl rfl | exact vm_own rfl rfl rfl rfl | exact vm_own rfl rfl (by omega) (by omega) | exact vm_int (by omega) | exact vm_nil rfl | exact sbm_cells vmL_p | exact sbm_row rfl (fun _ _ => vm_p) | refine ⟨⟨_, rfl, ?_⟩, ?_⟩ | refine ⟨⟨_, _, _, rfl⟩, ?_⟩ | (refine sbm_loop ?_; rw [efr]) | refine sbm_cells ?_ | refine vmL.cons ?_ ?_ | exact vmL.nil | refine vm_own rfl rfl rfl ?_)
    rintro ⟨lo, hi⟩ ⟨h1, h2, h3⟩
    dsimp only at h1 h2 h3
    by_cases c2 : lo < hi
    · have tm : (lo + hi + 1).tdiv 2 = (lo + hi + 1) / 2 := Int.tdiv_eq_ediv_of_nonneg (by omega)
      have bm : lo < (lo + hi + 1).tdiv 2 ∧ (lo + hi + 1).tdiv 2 ≤ hi := by rw [tm]; omega
      obtain ⟨s1, s2, s3, _⟩ := SR ((lo + hi + 1).tdiv 2) (by omega) (by omega)
      clear tm SR step
      by_cases q : y * (lo + hi + 1).tdiv 2 ≤ L
      · have sg : sgn (y * (lo + hi + 1).tdiv 2) L ≤ 0 := by unfold sgn; grind
        with_reducible conv => whnf
        repeat' ((first | (with_reducible refine branch_t ?_) | (with_reducible refine branch_f ?_) | (with_reducible refine branch_nt ?_) | (with_reducible refine branch_nf ?_) | (with_reducible refine branch_dec (fun _ => ?_) (fun _ => ?_)) | (with_reducible refine branch_ndec (fun _ => ?_) (fun _ => ?_)) | (with_reducible refine branch_bool (fun _ => ?_) (fun _ => ?_)) | (with_reducible refine arith_64 (by omega) ?_) | (with_reducible refine ob_i (by omega) (fun _ => ?_)) | (with_reducible refine ob_i (by unfold room; omega) (fun _ => ?_)) | (with_reducible refine ob_i (by (try simp only [toN_eq] at *); (try dsimp only [toN] at *); omega) (fun _ => ?_)) | (with_reducible refine arith_64 (by (try simp only [toN_eq] at *); (try dsimp only [toN] at *); omega) ?_) | (with_reducible refine ob_k rfl ?_) | ((with_reducible refine ob_k ?_ ?_); focus kernel_rfl) | (refine yield_i hmix hT rfl hL efr eps eag ebd rfl (by kernel_rfl) ?_) | (apply call_u WO) | (apply call_u s1) | (apply call_u s2) | (apply call_u s3) | (apply call_l (first_ok (l := [_, _]) (Nat.le_of_ble_eq_true rfl)) (.cons (vm_lit _ rfl rfl (.cons (vm_int rfl) (.cons (vm_int rfl) .nil))) .nil)) | (apply call_l (first_ok (l := [_, _, _]) (Nat.le_of_ble_eq_true rfl)) (.cons (vm_lit _ rfl rfl (.cons (vm_int rfl) (.cons (vm_int rfl) (.cons (vm_int rfl) .nil)))) .nil)) | (apply call_l (first_ok (l := [_, _, _, _]) (Nat.le_of_ble_eq_true rfl)) (.cons (vm_lit _ rfl rfl (.cons (vm_int rfl) (.cons (vm_int rfl) (.cons (vm_int rfl) (.cons (vm_int rfl) .nil))))) .nil))) <;> (try (exfalso; omega; done)) <;> (with_reducible conv => whnf))
        refine ⟨((lo + hi + 1).tdiv 2, hi), ⟨by dsimp only; omega, q, h3⟩, by dsimp only; omega, ?_⟩
        refine ⟨[], rfl, ?_, ?_⟩ <;> repeat' (first | exact trivial | exact vm_p | exact vm_ptr rfl rfl rfl | exact vm_yld rfl rfl | exact vm_own rfl rfl rfl rfl | exact vm_own rfl rfl (by omega) (by omega) | exact vm_int (by omega) | exact vm_nil rfl | exact sbm_cells vmL_p | exact sbm_row rfl (fun _ _ => vm_p) | refine ⟨⟨_, rfl, ?_⟩, ?_⟩ | refine ⟨⟨_, _, _, rfl⟩, ?_⟩ | (refine sbm_loop ?_; rw [efr]) | refine sbm_cells ?_ | refine vmL.cons ?_ ?_ | exact vmL.nil | refine vm_own rfl rfl rfl ?_)
      · have sg : 0 < sgn (y * (lo + hi + 1).tdiv 2) L := by unfold sgn; grind
        with_reducible conv => whnf
        repeat' ((first | (with_reducible refine branch_t ?_) | (with_reducible refine branch_f ?_) | (with_reducible refine branch_nt ?_) | (with_reducible refine branch_nf ?_) | (with_reducible refine branch_dec (fun _ => ?_) (fun _ => ?_)) | (with_reducible refine branch_ndec (fun _ => ?_) (fun _ => ?_)) | (with_reducible refine branch_bool (fun _ => ?_) (fun _ => ?_)) | (with_reducible refine arith_64 (by omega) ?_) | (with_reducible refine ob_i (by omega) (fun _ => ?_)) | (with_reducible refine ob_i (by unfold room; omega) (fun _ => ?_)) | (with_reducible refine ob_i (by (try simp only [toN_eq] at *); (try dsimp only [toN] at *); omega) (fun _ => ?_)) | (with_reducible refine arith_64 (by (try simp only [toN_eq] at *); (try dsimp only [toN] at *); omega) ?_) | (with_reducible refine ob_k rfl ?_) | ((with_reducible refine ob_k ?_ ?_); focus kernel_rfl) | (refine yield_i hmix hT rfl hL efr eps eag ebd rfl (by kernel_rfl) ?_) | (apply call_u WO) | (apply call_u s1) | (apply call_u s2) | (apply call_u s3) | (apply call_l (first_ok (l := [_, _]) (Nat.le_of_ble_eq_true rfl)) (.cons (vm_lit _ rfl rfl (.cons (vm_int rfl) (.cons (vm_int rfl) .nil))) .nil)) | (apply call_l (first_ok (l := [_, _, _]) (Nat.le_of_ble_eq_true rfl)) (.cons (vm_lit _ rfl rfl (.cons (vm_int rfl) (.cons (vm_int rfl) (.cons (vm_int rfl) .nil)))) .nil)) | (apply call_l (first_ok (l := [_, _, _, _]) (Nat.le_of_ble_eq_true rfl)) (.cons (vm_lit _ rfl rfl (.cons (vm_int rfl) (.cons (vm_int rfl) (.cons (vm_int rfl) (.cons (vm_int rfl) .nil))))) .nil))) <;> (try (exfalso; omega; done)) <;> (with_reducible conv => whnf))
        refine ⟨(lo, (lo + hi + 1).tdiv 2 - 1), ⟨by dsimp only; omega, h2, by dsimp only; rw [show (lo + hi + 1).tdiv 2 - 1 + 1 = (lo + hi + 1).tdiv 2 by omega]; omega⟩, by dsimp only; omega, ?_⟩
        refine ⟨[], rfl, ?_, ?_⟩ <;> repeat' (first | exact trivial | exact vm_p | exact vm_ptr rfl rfl rfl | exact vm_yld rfl rfl | exact vm_own rfl rfl rfl rfl | exact vm_own rfl rfl (by omega) (by omega) | exact vm_int (by omega) | exact vm_nil rfl | exact sbm_cells vmL_p | exact sbm_row rfl (fun _ _ => vm_p) | refine ⟨⟨_, rfl, ?_⟩, ?_⟩ | refine ⟨⟨_, _, _, rfl⟩, ?_⟩ | (refine sbm_loop ?_; rw [efr]) | refine sbm_cells ?_ | refine vmL.cons ?_ ?_ | exact vmL.nil | refine vm_own rfl rfl rfl ?_)
    · have e : lo = hi := by omega
      subst e
      obtain ⟨s1, s2, _, s4⟩ := SR lo (by omega) (by omega)
      have s4 := s4 h2
      have st := step lo ⟨h1.1, by omega⟩ eL h2 h3
      have tk : 0 + toN ((j : Int) - 1) = j - 1 := by rw [tj]; omega
      clear SR step
      with_reducible conv => whnf
      repeat' ((first | (with_reducible refine branch_t ?_) | (with_reducible refine branch_f ?_) | (with_reducible refine branch_nt ?_) | (with_reducible refine branch_nf ?_) | (with_reducible refine branch_dec (fun _ => ?_) (fun _ => ?_)) | (with_reducible refine branch_ndec (fun _ => ?_) (fun _ => ?_)) | (with_reducible refine branch_bool (fun _ => ?_) (fun _ => ?_)) | (with_reducible refine arith_64 (by omega) ?_) | (with_reducible refine ob_i (by omega) (fun _ => ?_)) | (with_reducible refine ob_i (by unfold room; omega) (fun _ => ?_)) | (with_reducible refine ob_i (by (try simp only [toN_eq] at *); (try dsimp only [toN] at *); omega) (fun _ => ?_)) | (with_reducible refine arith_64 (by (try simp only [toN_eq] at *); (try dsimp only [toN] at *); omega) ?_) | (with_reducible refine ob_k rfl ?_) | ((with_reducible refine ob_k ?_ ?_); focus kernel_rfl) | (refine yield_i hmix hT rfl hL efr eps eag ebd rfl (by kernel_rfl) ?_) | (apply call_u WO) | (apply call_u s1) | (apply call_u s2) | (apply call_u s4) | (apply call_l (first_ok (l := [_, _]) (Nat.le_of_ble_eq_true rfl)) (.cons (vm_lit _ rfl rfl (.cons (vm_int rfl) (.cons (vm_int rfl) .nil))) .nil)) | (apply call_l (first_ok (l := [_, _, _]) (Nat.le_of_ble_eq_true rfl)) (.cons (vm_lit _ rfl rfl (.cons (vm_int rfl) (.cons (vm_int rfl) (.cons (vm_int rfl) .nil)))) .nil)) | (apply call_l (first_ok (l := [_, _, _, _]) (Nat.le_of_ble_eq_true rfl)) (.cons (vm_lit _ rfl rfl (.cons (vm_int rfl) (.cons (vm_int rfl) (.cons (vm_int rfl) (.cons (vm_int rfl) .nil))))) .nil))) <;> (try (exfalso; omega; done)) <;> (with_reducible conv => whnf))
      refine ⟨(j - 1, _, _), ⟨by dsimp only; omega, st⟩, by dsimp only; omega, ?_⟩
      refine ⟨[], rfl, ⟨⟨_, rfl, vm_ptr rfl rfl rfl⟩, ⟨_, rfl, vm_ptr rfl rfl rfl⟩, ⟨_, rfl, vm_ptr rfl rfl rfl⟩, ⟨_, rfl, vm_own rfl rfl rfl rfl⟩, ⟨_, rfl, vm_p⟩, ⟨_, rfl, vm_int (by omega)⟩, trivial⟩, ⟨⟨_, rfl, row_set tk (by omega) rfl⟩, ⟨_, rfl, sbm_cells vmL_p⟩, ⟨_, rfl, sbm_cells vmL_p⟩, ⟨_, rfl, sbm_cells vmL_p⟩, trivial⟩⟩
  · have ej : j = 0 := by omega
    subst ej
    have F := FIN Q R hI
    obtain ⟨f1, f2, f3, f4⟩ := FIX Q R hI
    have W1 : FnOK Try.prog 51 [I 1] (.agg [I (1 : Int).sign, eInts (dg (1 : Int).natAbs)]) [] := bWideOf_ok (n := 1) (by omega)
    have SB : FnOK Try.prog 74 [.agg [I (x.sign * wv Q).sign, eInts (dg (x.sign * wv Q).natAbs)], .agg [I (1 : Int).sign, eInts (dg (1 : Int).natAbs)]] (.agg [I (x.sign * wv Q - 1).sign, eInts (dg (x.sign * wv Q - 1).natAbs)]) [] := wideSub_ok (x := x.sign * wv Q) (y := 1) (by have := f4.len; omega) (by have := (Fw.small (z := 1) (by decide)).len; omega)
    have lr : (dg R).length = 0 ↔ R = 0 := dg_len_zero
    by_cases neg : x.sign < 0
    · have f2 := f2 (hs0 neg)
      have f3 := f3 (hs0 neg)
      clear f1 f4 FIN FIX SEARCH
      by_cases r0 : R = 0
      · have f2 := f2 r0
        rw [f2]
        with_reducible conv => whnf
        repeat' ((first | (with_reducible refine branch_t ?_) | (with_reducible refine branch_f ?_) | (with_reducible refine branch_nt ?_) | (with_reducible refine branch_nf ?_) | (with_reducible refine branch_dec (fun _ => ?_) (fun _ => ?_)) | (with_reducible refine branch_ndec (fun _ => ?_) (fun _ => ?_)) | (with_reducible refine branch_bool (fun _ => ?_) (fun _ => ?_)) | (with_reducible refine arith_64 (by omega) ?_) | (with_reducible refine ob_i (by omega) (fun _ => ?_)) | (with_reducible refine ob_i (by unfold room; omega) (fun _ => ?_)) | (with_reducible refine ob_i (by (try simp only [toN_eq, Int.toNat_natCast] at *); (try dsimp only [toN] at *); omega) (fun _ => ?_)) | (with_reducible refine arith_64 (by (try simp only [toN_eq, Int.toNat_natCast] at *); (try dsimp only [toN] at *); omega) ?_) | (with_reducible refine ob_k rfl ?_) | ((with_reducible refine ob_k ?_ ?_); focus kernel_rfl) | (refine yield_i hmix hT rfl hL efr eps eag ebd rfl (by kernel_rfl) ?_) | (refine call_z 3 F rfl rfl (.cons vm_p (.cons (vm_fr rfl rfl hn.symm (Nat.le_refl _) fun _ _ => vm_p) .nil)) (pureS_no _) (rv_pure IsPure.h) ?_) | (apply call_u W1) | (apply call_u SB) | (apply call_l (first_ok (l := [_, _]) (Nat.le_of_ble_eq_true rfl)) (.cons (vm_lit _ rfl rfl (.cons (vm_int rfl) (.cons (vm_int rfl) .nil))) .nil)) | (apply call_l (first_ok (l := [_, _, _]) (Nat.le_of_ble_eq_true rfl)) (.cons (vm_lit _ rfl rfl (.cons (vm_int rfl) (.cons (vm_int rfl) (.cons (vm_int rfl) .nil)))) .nil)) | (apply call_l (first_ok (l := [_, _, _, _]) (Nat.le_of_ble_eq_true rfl)) (.cons (vm_lit _ rfl rfl (.cons (vm_int rfl) (.cons (vm_int rfl) (.cons (vm_int rfl) (.cons (vm_int rfl) .nil))))) .nil))) <;> (try (exfalso; omega; done)) <;> (with_reducible conv => whnf))
        exact ret0 vm_p
      · have f3 := f3 (by omega)
        rw [f3]
        with_reducible conv => whnf
        repeat' ((first | (with_reducible refine branch_t ?_) | (with_reducible refine branch_f ?_) | (with_reducible refine branch_nt ?_) | (with_reducible refine branch_nf ?_) | (with_reducible refine branch_dec (fun _ => ?_) (fun _ => ?_)) | (with_reducible refine branch_ndec (fun _ => ?_) (fun _ => ?_)) | (with_reducible refine branch_bool (fun _ => ?_) (fun _ => ?_)) | (with_reducible refine arith_64 (by omega) ?_) | (with_reducible refine ob_i (by omega) (fun _ => ?_)) | (with_reducible refine ob_i (by unfold room; omega) (fun _ => ?_)) | (with_reducible refine ob_i (by (try simp only [] at *); (try dsimp only [toN] at *); omega) (fun _ => ?_)) | (with_reducible refine arith_64 (by (try simp only [toN_eq, Int.toNat_natCast] at *); (try dsimp only [toN] at *); omega) ?_) | (with_reducible refine ob_k rfl ?_) | ((with_reducible refine ob_k ?_ ?_); focus kernel_rfl) | (refine yield_i hmix hT rfl hL efr eps eag ebd rfl (by kernel_rfl) ?_) | (refine call_z 3 F rfl rfl (.cons vm_p (.cons (vm_fr rfl rfl hn.symm (Nat.le_refl _) fun _ _ => vm_p) .nil)) (pureS_no _) (rv_pure IsPure.h) ?_) | (apply call_u W1) | (apply call_u SB) | (apply call_l (first_ok (l := [_, _]) (Nat.le_of_ble_eq_true rfl)) (.cons (vm_lit _ rfl rfl (.cons (vm_int rfl) (.cons (vm_int rfl) .nil))) .nil)) | (apply call_l (first_ok (l := [_, _, _]) (Nat.le_of_ble_eq_true rfl)) (.cons (vm_lit _ rfl rfl (.cons (vm_int rfl) (.cons (vm_int rfl) (.cons (vm_int rfl) .nil)))) .nil)) | (apply call_l (first_ok (l := [_, _, _, _]) (Nat.le_of_ble_eq_true rfl)) (.cons (vm_lit _ rfl rfl (.cons (vm_int rfl) (.cons (vm_int rfl) (.cons (vm_int rfl) (.cons (vm_int rfl) .nil))))) .nil))) <;> (try (exfalso; omega; done)) <;> (with_reducible conv => whnf))
        exact ret0 vm_p
    · have f1 := f1 (hs1 neg)
      clear f2 f3 f4 FIN FIX SEARCH
      rw [f1]
      with_reducible conv => whnf
      repeat' ((first | (with_reducible refine branch_t ?_) | (with_reducible refine branch_f ?_) | (with_reducible refine branch_nt ?_) | (with_reducible refine branch_nf ?_) | (with_reducible refine branch_dec (fun _ => ?_) (fun _ => ?_)) | (with_reducible refine branch_ndec (fun _ => ?_) (fun _ => ?_)) | (with_reducible refine branch_bool (fun _ => ?_) (fun _ => ?_)) | (with_reducible refine arith_64 (by omega) ?_) | (with_reducible refine ob_i (by omega) (fun _ => ?_)) | (with_reducible refine ob_i (by unfold room; omega) (fun _ => ?_)) | (with_reducible refine ob_i (by (try simp only [toN_eq, Int.toNat_natCast] at *); (try dsimp only [toN] at *); omega) (fun _ => ?_)) | (with_reducible refine arith_64 (by (try simp only [toN_eq, Int.toNat_natCast] at *); (try dsimp only [toN] at *); omega) ?_) | (with_reducible refine ob_k rfl ?_) | ((with_reducible refine ob_k ?_ ?_); focus kernel_rfl) | (refine yield_i hmix hT rfl hL efr eps eag ebd rfl (by kernel_rfl) ?_) | (refine call_z 3 F rfl rfl (.cons vm_p (.cons (vm_fr rfl rfl hn.symm (Nat.le_refl _) fun _ _ => vm_p) .nil)) (pureS_no _) (rv_pure IsPure.h) ?_) | (apply call_u W1) | (apply call_u SB) | (apply call_l (first_ok (l := [_, _]) (Nat.le_of_ble_eq_true rfl)) (.cons (vm_lit _ rfl rfl (.cons (vm_int rfl) (.cons (vm_int rfl) .nil))) .nil)) | (apply call_l (first_ok (l := [_, _, _]) (Nat.le_of_ble_eq_true rfl)) (.cons (vm_lit _ rfl rfl (.cons (vm_int rfl) (.cons (vm_int rfl) (.cons (vm_int rfl) .nil)))) .nil)) | (apply call_l (first_ok (l := [_, _, _, _]) (Nat.le_of_ble_eq_true rfl)) (.cons (vm_lit _ rfl rfl (.cons (vm_int rfl) (.cons (vm_int rfl) (.cons (vm_int rfl) (.cons (vm_int rfl) .nil))))) .nil))) <;> (try (exfalso; omega; done)) <;> (with_reducible conv => whnf))
      exact ret0 vm_p
theorem wideSize_ok {x : Int} : FnOK Try.prog 93 [eW x] (eW (x.natAbs : Int)) [] := by
  have N := wideNeg_ok (x := x)
  have sx := sign_cases x
  by_cases h : x < 0
  · rw [show (x.natAbs : Int) = -x by omega]
    have N : FnOK Try.prog 77 [.agg [I x.sign, eInts (dg x.natAbs)]] (.agg [I (-x).sign, eInts (dg (-x).natAbs)]) [] := N
    show FnOK Try.prog 93 [.agg [I x.sign, eInts (dg x.natAbs)]] (.agg [I (-x).sign, eInts (dg (-x).natAbs)]) []
    have hs : x.sign < 0 := by omega
    generalize (-x).sign = r1 at *
    generalize dg (-x).natAbs = r2 at *
    generalize x.sign = s at *
    generalize dg x.natAbs = l at *
    refine fn_i hmix hT Try.f93 (by kernel_rfl) rfl (by kernel_rfl) ?_
    with_reducible conv => whnf
    repeat' ((first | (with_reducible refine branch_t ?_) | (with_reducible refine branch_f ?_) | (with_reducible refine branch_nt ?_) | (with_reducible refine branch_nf ?_) | (with_reducible refine branch_dec (fun _ => ?_) (fun _ => ?_)) | (with_reducible refine branch_ndec (fun _ => ?_) (fun _ => ?_)) | (with_reducible refine branch_bool (fun _ => ?_) (fun _ => ?_)) | (with_reducible refine arith_64 (by omega) ?_) | (with_reducible refine ob_i (by omega) (fun _ => ?_)) | (with_reducible refine ob_i (by unfold room; omega) (fun _ => ?_)) | (with_reducible refine ob_i (by (try simp only [toN_eq, Int.toNat_natCast] at *); (try dsimp only [toN] at *); omega) (fun _ => ?_)) | (with_reducible refine arith_64 (by (try simp only [toN_eq, Int.toNat_natCast] at *); (try dsimp only [toN] at *); omega) ?_) | (with_reducible refine ob_k rfl ?_) | ((with_reducible refine ob_k ?_ ?_); focus kernel_rfl) | (refine yield_i hmix hT rfl hL efr eps eag ebd rfl (by kernel_rfl) ?_) | (apply call_u N) | (apply call_l (first_ok (l := [_, _]) (Nat.le_of_ble_eq_true rfl)) (.cons (vm_lit _ rfl rfl (.cons (vm_int rfl) (.cons (vm_int rfl) .nil))) .nil)) | (apply call_l (first_ok (l := [_, _, _]) (Nat.le_of_ble_eq_true rfl)) (.cons (vm_lit _ rfl rfl (.cons (vm_int rfl) (.cons (vm_int rfl) (.cons (vm_int rfl) .nil)))) .nil)) | (apply call_l (first_ok (l := [_, _, _, _]) (Nat.le_of_ble_eq_true rfl)) (.cons (vm_lit _ rfl rfl (.cons (vm_int rfl) (.cons (vm_int rfl) (.cons (vm_int rfl) (.cons (vm_int rfl) .nil))))) .nil))) <;> (try (exfalso; omega; done)) <;> (with_reducible conv => whnf))
    exact ret0 vm_p
  · rw [show (x.natAbs : Int) = x by omega]
    show FnOK Try.prog 93 [.agg [I x.sign, eInts (dg x.natAbs)]] (.agg [I x.sign, eInts (dg x.natAbs)]) []
    have hs : ¬ x.sign < 0 := by omega
    generalize x.sign = s at *
    generalize dg x.natAbs = l at *
    refine fn_i hmix hT Try.f93 (by kernel_rfl) rfl (by kernel_rfl) ?_
    with_reducible conv => whnf
    repeat' ((first | (with_reducible refine branch_t ?_) | (with_reducible refine branch_f ?_) | (with_reducible refine branch_nt ?_) | (with_reducible refine branch_nf ?_) | (with_reducible refine branch_dec (fun _ => ?_) (fun _ => ?_)) | (with_reducible refine branch_ndec (fun _ => ?_) (fun _ => ?_)) | (with_reducible refine branch_bool (fun _ => ?_) (fun _ => ?_)) | (with_reducible refine arith_64 (by omega) ?_) | (with_reducible refine ob_i (by omega) (fun _ => ?_)) | (with_reducible refine ob_i (by unfold room; omega) (fun _ => ?_)) | (with_reducible refine ob_i (by (try simp only [toN_eq, Int.toNat_natCast] at *); (try dsimp only [toN] at *); omega) (fun _ => ?_)) | (with_reducible refine arith_64 (by (try simp only [toN_eq, Int.toNat_natCast] at *); (try dsimp only [toN] at *); omega) ?_) | (with_reducible refine ob_k rfl ?_) | ((with_reducible refine ob_k ?_ ?_); focus kernel_rfl) | (refine yield_i hmix hT rfl hL efr eps eag ebd rfl (by kernel_rfl) ?_)  | (apply call_l (first_ok (l := [_, _]) (Nat.le_of_ble_eq_true rfl)) (.cons (vm_lit _ rfl rfl (.cons (vm_int rfl) (.cons (vm_int rfl) .nil))) .nil)) | (apply call_l (first_ok (l := [_, _, _]) (Nat.le_of_ble_eq_true rfl)) (.cons (vm_lit _ rfl rfl (.cons (vm_int rfl) (.cons (vm_int rfl) (.cons (vm_int rfl) .nil)))) .nil)) | (apply call_l (first_ok (l := [_, _, _, _]) (Nat.le_of_ble_eq_true rfl)) (.cons (vm_lit _ rfl rfl (.cons (vm_int rfl) (.cons (vm_int rfl) (.cons (vm_int rfl) (.cons (vm_int rfl) .nil))))) .nil))) <;> (try (exfalso; omega; done)) <;> (with_reducible conv => whnf))
    exact ret0 vm_p
theorem wideGcd_ok {x y : Int} {k : Nat} (hk : k ≤ 100) (fx : Fw k x) (fy : Fw k y) : FnOK Try.prog 78 [eW x, eW y] (eW (Int.gcd x y : Int)) [] := by
  have SX := wideSize_ok (x := x)
  have SY := wideSize_ok (x := y)
  obtain ⟨G, eG⟩ : ∃ G : Nat, G = Int.gcd x y := ⟨_, rfl⟩
  have g0 : Nat.gcd x.natAbs y.natAbs = G := by rw [eG]; rfl
  have fx : ((x.natAbs : Nat) : Int) < 1000000000 ^ k := fx
  have fy : ((y.natAbs : Nat) : Int) < 1000000000 ^ k := fy
  rw [← eG]
  show FnOK Try.prog 78 [.agg [I x.sign, eInts (dg x.natAbs)], .agg [I y.sign, eInts (dg y.natAbs)]] (.agg [I (G : Int).sign, eInts (dg (G : Int).natAbs)]) []
  have SX : FnOK Try.prog 93 [.agg [I x.sign, eInts (dg x.natAbs)]] (.agg [I (x.natAbs : Int).sign, eInts (dg (x.natAbs : Int).natAbs)]) [] := SX
  have SY : FnOK Try.prog 93 [.agg [I y.sign, eInts (dg y.natAbs)]] (.agg [I (y.natAbs : Int).sign, eInts (dg (y.natAbs : Int).natAbs)]) [] := SY
  clear eG
  generalize x.natAbs = a at *
  generalize y.natAbs = b at *
  refine fn_i hmix hT Try.f78 (by kernel_rfl) rfl (by kernel_rfl) ?_
  with_reducible conv => whnf
  repeat' ((first | (with_reducible refine branch_t ?_) | (with_reducible refine branch_f ?_) | (with_reducible refine branch_nt ?_) | (with_reducible refine branch_nf ?_) | (with_reducible refine branch_dec (fun _ => ?_) (fun _ => ?_)) | (with_reducible refine branch_ndec (fun _ => ?_) (fun _ => ?_)) | (with_reducible refine branch_bool (fun _ => ?_) (fun _ => ?_)) | (with_reducible refine arith_64 (by omega) ?_) | (with_reducible refine ob_i (by omega) (fun _ => ?_)) | (with_reducible refine ob_i (by unfold room; omega) (fun _ => ?_)) | (with_reducible refine ob_i (by (try simp only [] at *); (try dsimp only [toN] at *); omega) (fun _ => ?_)) | (with_reducible refine arith_64 (by (try simp only [toN_eq, Int.toNat_natCast] at *); (try dsimp only [toN] at *); omega) ?_) | (with_reducible refine ob_k rfl ?_) | ((with_reducible refine ob_k ?_ ?_); focus kernel_rfl) | (refine yield_i hmix hT rfl hL efr eps eag ebd rfl (by kernel_rfl) ?_) | (apply call_u SX) | (apply call_u SY) | (apply call_l (first_ok (l := [_, _]) (Nat.le_of_ble_eq_true rfl)) (.cons (vm_lit _ rfl rfl (.cons (vm_int rfl) (.cons (vm_int rfl) .nil))) .nil)) | (apply call_l (first_ok (l := [_, _, _]) (Nat.le_of_ble_eq_true rfl)) (.cons (vm_lit _ rfl rfl (.cons (vm_int rfl) (.cons (vm_int rfl) (.cons (vm_int rfl) .nil)))) .nil)) | (apply call_l (first_ok (l := [_, _, _, _]) (Nat.le_of_ble_eq_true rfl)) (.cons (vm_lit _ rfl rfl (.cons (vm_int rfl) (.cons (vm_int rfl) (.cons (vm_int rfl) (.cons (vm_int rfl) .nil))))) .nil))) <;> (try (exfalso; omega; done)) <;> (with_reducible conv => whnf))
  refine loop_i hmix hT (fun (z : Nat × Nat) => match z with | (a, b) => ([(2, .ptr 0 0), (3, .ptr 1 0), (4, .ptr 2 0)], ⟨3, [(2, .cells [I 0, .sc (.slice none 0 0)] 46), (1, .cells [I (b : Int).sign, eInts (dg (b : Int).natAbs)] 46), (0, .cells [I (a : Int).sign, eInts (dg (a : Int).natAbs)] 46)]⟩)) (fun z => ((z.1 : Int) < 1000000000 ^ k ∧ (z.2 : Int) < 1000000000 ^ k) ∧ Nat.gcd z.1 z.2 = G) (fun z => z.2) (a, b) ⟨⟨fx, fy⟩, g0⟩ ?_ ?_
  · refine ⟨[], rfl, ?_, ?_⟩ <;> repeat' (first | exact trivial | exact vm_p | exact vm_ptr rfl rfl rfl | exact vm_yld rfl rfl | exact vm_own rfl rfl rfl rfl | exact vm_own rfl rfl (by omega) (by omega) | exact vm_int (by omega) | exact vm_nil rfl | exact sbm_cells vmL_p | exact sbm_row rfl (fun _ _ => vm_p) | refine ⟨⟨_, rfl, ?_⟩, ?_⟩ | refine ⟨⟨_, _, _, rfl⟩, ?_⟩ | (refine sbm_loop ?_; rw [efr]) | refine sbm_cells ?_ | refine vmL.cons ?_ ?_ | exact vmL.nil | refine vm_own rfl rfl rfl ?_)
  clear fx fy g0 SX SY
  rintro ⟨a, b⟩ ⟨⟨h1, h2⟩, h3⟩
  dsimp only at h1 h2 h3
  have SG : FnOK Try.prog 76 [.agg [I (b : Int).sign, eInts (dg (b : Int).natAbs)]] (I (b : Int).sign) [] := wideSign_ok (x := (b : Int))
  have sb := sign_cases (b : Int)
  by_cases c : b = 0
  · subst c
    rw [Nat.gcd_zero_right] at h3
    subst h3
    have e0 : ((0 : Nat) : Int).sign = 0 := rfl
    with_reducible conv => whnf
    repeat' ((first | (with_reducible refine branch_t ?_) | (with_reducible refine branch_f ?_) | (with_reducible refine branch_nt ?_) | (with_reducible refine branch_nf ?_) | (with_reducible refine branch_dec (fun _ => ?_) (fun _ => ?_)) | (with_reducible refine branch_ndec (fun _ => ?_) (fun _ => ?_)) | (with_reducible refine branch_bool (fun _ => ?_) (fun _ => ?_)) | (with_reducible refine arith_64 (by omega) ?_) | (with_reducible refine ob_i (by omega) (fun _ => ?_)) | (with_reducible refine ob_i (by unfold room; omega) (fun _ => ?_)) | (with_reducible refine ob_i (by (try simp only [toN_eq, Int.toNat_natCast] at *); (try dsimp only [toN] at *); omega) (fun _ => ?_)) | (with_reducible refine arith_64 (by (try simp only [toN_eq, Int.toNat_natCast] at *); (try dsimp only [toN] at *); omega) ?_) | (with_reducible refine ob_k rfl ?_) | ((with_reducible refine ob_k ?_ ?_); focus kernel_rfl) | (refine yield_i hmix hT rfl hL efr eps eag ebd rfl (by kernel_rfl) ?_) | (apply call_u SG) | (apply call_l (first_ok (l := [_, _]) (Nat.le_of_ble_eq_true rfl)) (.cons (vm_lit _ rfl rfl (.cons (vm_int rfl) (.cons (vm_int rfl) .nil))) .nil)) | (apply call_l (first_ok (l := [_, _, _]) (Nat.le_of_ble_eq_true rfl)) (.cons (vm_lit _ rfl rfl (.cons (vm_int rfl) (.cons (vm_int rfl) (.cons (vm_int rfl) .nil)))) .nil)) | (apply call_l (first_ok (l := [_, _, _, _]) (Nat.le_of_ble_eq_true rfl)) (.cons (vm_lit _ rfl rfl (.cons (vm_int rfl) (.cons (vm_int rfl) (.cons (vm_int rfl) (.cons (vm_int rfl) .nil))))) .nil))) <;> (try (exfalso; omega; done)) <;> (with_reducible conv => whnf))
    exact ret0 vm_p
  · have fa : Fw k (a : Int) := h1
    have fb : Fw k (b : Int) := h2
    have hs : (b : Int).sign ≠ 0 := by omega
    have fq : Fw k ((a : Int) / b) := fa.le (by
      have : (a : Int) / b ≤ a := Int.ediv_le_self _ (by omega)
      have : 0 ≤ (a : Int) / b := Int.ediv_nonneg (by omega) (by omega)
      omega)
    have e := Int.mul_ediv_add_emod (a : Int) b
    have e1 := Int.emod_nonneg (a : Int) (show (b : Int) ≠ 0 by omega)
    have e2 := Int.emod_lt_of_pos (a : Int) (show (0 : Int) < b by omega)
    rw [Int.mul_comm] at e
    have er : (a : Int) - (a : Int) / b * b = ((a % b : Nat) : Int) := by rw [Int.natCast_emod]; omega
    have FL : FnOK Try.prog 79 [.agg [I (a : Int).sign, eInts (dg (a : Int).natAbs)], .agg [I (b : Int).sign, eInts (dg (b : Int).natAbs)]] (.agg [I ((a : Int) / b).sign, eInts (dg ((a : Int) / b).natAbs)]) [] := wideFloor_ok (x := a) (y := b) (by omega) (by omega) fa fb
    have ML : FnOK Try.prog 44 [.agg [I ((a : Int) / b).sign, eInts (dg ((a : Int) / b).natAbs)], .agg [I (b : Int).sign, eInts (dg (b : Int).natAbs)]] (.agg [I ((a : Int) / b * b).sign, eInts (dg ((a : Int) / b * b).natAbs)]) [] := wideMul_ok (x := (a : Int) / b) (y := b) (by have := fq.len; omega) (by have := fb.len; omega)
    have SB : FnOK Try.prog 74 [.agg [I (a : Int).sign, eInts (dg (a : Int).natAbs)], .agg [I ((a : Int) / b * b).sign, eInts (dg ((a : Int) / b * b).natAbs)]] (.agg [I ((a % b : Nat) : Int).sign, eInts (dg ((a % b : Nat) : Int).natAbs)]) [] := by
      have := wideSub_ok (x := (a : Int)) (y := (a : Int) / b * b) (by have := fa.len; omega) (by have := (fq.mul fb).len; omega)
      rw [er] at this
      exact this
    have ml : a % b < b := Nat.mod_lt _ (by omega)
    have g2 : Nat.gcd b (a % b) = G := by rw [← h3, Nat.gcd_comm a b, Nat.gcd_rec b a, Nat.gcd_comm]
    clear e e1 e2 er fa fb fq
    with_reducible conv => whnf
    repeat' ((first | (with_reducible refine branch_t ?_) | (with_reducible refine branch_f ?_) | (with_reducible refine branch_nt ?_) | (with_reducible refine branch_nf ?_) | (with_reducible refine branch_dec (fun _ => ?_) (fun _ => ?_)) | (with_reducible refine branch_ndec (fun _ => ?_) (fun _ => ?_)) | (with_reducible refine branch_bool (fun _ => ?_) (fun _ => ?_)) | (with_reducible refine arith_64 (by omega) ?_) | (with_reducible refine ob_i (by omega) (fun _ => ?_)) | (with_reducible refine ob_i (by unfold room; omega) (fun _ => ?_)) | (with_reducible refine ob_i (by (try simp only [] at *); (try dsimp only [toN] at *); omega) (fun _ => ?_)) | (with_reducible refine arith_64 (by (try simp only [toN_eq, Int.toNat_natCast] at *); (try dsimp only [toN] at *); omega) ?_) | (with_reducible refine ob_k rfl ?_) | ((with_reducible refine ob_k ?_ ?_); focus kernel_rfl) | (refine yield_i hmix hT rfl hL efr eps eag ebd rfl (by kernel_rfl) ?_) | (apply call_u SG) | (apply call_u FL) | (apply call_u ML) | (apply call_u SB) | (apply call_l (first_ok (l := [_, _]) (Nat.le_of_ble_eq_true rfl)) (.cons (vm_lit _ rfl rfl (.cons (vm_int rfl) (.cons (vm_int rfl) .nil))) .nil)) | (apply call_l (first_ok (l := [_, _, _]) (Nat.le_of_ble_eq_true rfl)) (.cons (vm_lit _ rfl rfl (.cons (vm_int rfl) (.cons (vm_int rfl) (.cons (vm_int rfl) .nil)))) .nil)) | (apply call_l (first_ok (l := [_, _, _, _]) (Nat.le_of_ble_eq_true rfl)) (.cons (vm_lit _ rfl rfl (.cons (vm_int rfl) (.cons (vm_int rfl) (.cons (vm_int rfl) (.cons (vm_int rfl) .nil))))) .nil))) <;> (try (exfalso; omega; done)) <;> (with_reducible conv => whnf))
    refine ⟨(b, a % b), ⟨⟨h2, by dsimp only; omega⟩, g2⟩, by dsimp only; exact ml, ?_⟩
    refine ⟨[], rfl, ?_, ?_⟩ <;> repeat' (first | exact trivial | exact vm_p | exact vm_ptr rfl rfl rfl | exact vm_yld rfl rfl | exact vm_own rfl rfl rfl rfl | exact vm_own rfl rfl (by omega) (by omega) | exact vm_int (by omega) | exact vm_nil rfl | exact sbm_cells vmL_p | exact sbm_row rfl (fun _ _ => vm_p) | refine ⟨⟨_, rfl, ?_⟩, ?_⟩ | refine ⟨⟨_, _, _, rfl⟩, ?_⟩ | (refine sbm_loop ?_; rw [efr]) | refine sbm_cells ?_ | refine vmL.cons ?_ ?_ | exact vmL.nil | refine vm_own rfl rfl rfl ?_)
end Go.Proofs.Ytdfcedndkplabaa
