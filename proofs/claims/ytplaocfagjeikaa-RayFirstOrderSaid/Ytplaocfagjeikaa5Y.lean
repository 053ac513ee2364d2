/-
  Chapter 5: the law RaySecant (by contract).
  Conditions: none.
-/
import Derived.Test.Ytplaocfagjeikaa5F
import Derived.Test.Ytplaocfagjeikaa5I
namespace Go.Proofs.Ytplaocfagjeikaa
open Go.RowKit Fx
/-! ### Plain -/
theorem left_mx {l : List (Int × Int)} {F n d : Int} (hd : 0 < d) (hF : 0 < leftE F n d 0) : ∀ k, leftE F n d (mxK l k) ≤ 0 ↔ ∃ i, i < k ∧ leftE F n d (l.getD i (0, 0)).2 ≤ 0
  | 0 => ⟨fun h => by rw [mxK] at h; omega, fun ⟨i, h, _⟩ => by omega⟩
  | k + 1 => by
    have ih := left_mx (l := l) hd hF k
    rw [mxK]
    have mono : ∀ u v : Int, u ≤ v → leftE F n d v ≤ leftE F n d u := fun u v h => by
      have := Int.mul_le_mul_of_nonneg_left (show F - v ≤ F - u by omega) (show 0 ≤ d by omega)
      unfold leftE; omega
    constructor
    · intro h
      rcases Int.le_total (mxK l k) (l.getD k (0, 0)).2 with h2 | h2
      · rw [show max (mxK l k) (l.getD k (0, 0)).2 = (l.getD k (0, 0)).2 by omega] at h
        exact ⟨k, by omega, h⟩
      · rw [show max (mxK l k) (l.getD k (0, 0)).2 = mxK l k by omega] at h
        obtain ⟨i, h3, h4⟩ := ih.1 h
        exact ⟨i, by omega, h4⟩
    · rintro ⟨i, h1, h2⟩
      by_cases e : i = k
      · subst e
        have := mono _ _ (show (l.getD i (0, 0)).2 ≤ max (mxK l i) (l.getD i (0, 0)).2 by omega)
        omega
      · have h3 := ih.2 ⟨i, by omega, h2⟩
        have := mono _ _ (show mxK l k ≤ max (mxK l k) (l.getD k (0, 0)).2 by omega)
        omega
theorem apex_sec {s : Sky} {f n d : Int} (v : s.Val) (fv : 1 ≤ f ∧ f ≤ 3000) (lv : LaunchV n d) : apexL (f * f) n d s.sl = s.sl.length ↔ ¬ f ≤ secE s n d := by
  have sv := shotV fv lv
  have h0 := lv.n0; have h1 := lv.nd
  have si := sec_iff v lv (f := f) (by omega) (by omega)
  have lm := left_mx (l := s.sl) (show 0 < d by omega) (left_zero sv) s.sl.length
  have le := apexL_le (F := f * f) (n := n) (d := d) s.sl
  have e : leftE (f * f) n d (mxK s.sl s.sl.length) = f * f * (d - n) - sqM s * d := by unfold leftE sqM; grind
  have si2 : f ≤ secE s n d ↔ ∃ i, i < s.sl.length ∧ leftE (f * f) n d (s.sl.getD i (0, 0)).2 ≤ 0 := by
    rw [si, ← lm, e]; omega
  rw [si2]
  constructor
  · rintro ha ⟨i, h2, h3⟩
    have := apexL_below (F := f * f) (n := n) (d := d) s.sl i (by omega)
    omega
  · intro h
    rcases Nat.lt_or_ge (apexL (f * f) n d s.sl) s.sl.length with h2 | h2
    · exact absurd ⟨_, h2, apexL_at s.sl h2⟩ h
    · omega
theorem sec_mono {s : Sky} {n d n' d' : Int} (v : s.Val) (l : LaunchV n d) (l' : LaunchV n' d') (h : n * d' ≤ n' * d) : secE s n d ≤ secE s n' d' := by
  have b := sec_bd v l
  have q := sqM_bd v
  have := l.n0; have := l.nd; have := l'.n0; have := l'.nd
  refine (sec_iff v l' b.1 b.2).2 ?_
  have h1 := (sec_iff v l b.1 b.2).1 (Int.le_refl _)
  generalize secE s n d = m at *
  have m2 : 0 ≤ m * m := Int.mul_nonneg b.1 b.1
  have h2 : (d' - n') * d ≤ (d - n) * d' := by
    have : (d' - n') * d = d * d' - n' * d := by grind
    have : (d - n) * d' = d * d' - n * d' := by grind
    omega
  have h3 := Int.mul_le_mul_of_nonneg_left h2 m2
  have h4 := Int.mul_le_mul_of_nonneg_right h1 (show 0 ≤ d' by omega)
  have e1 : m * m * ((d' - n') * d) = (m * m * (d' - n')) * d := by grind
  have e2 : m * m * ((d - n) * d') = m * m * (d - n) * d' := by grind
  have e3 : sqM s * d * d' = sqM s * d' * d := by grind
  exact Int.le_of_mul_le_mul_right (show m * m * (d' - n') * d ≤ sqM s * d' * d by omega) (show 0 < d by omega)
theorem launch_vert : LaunchV 0 1 := ⟨by omega, by omega, by omega, by decide⟩
theorem sec_vert {s : Sky} (v : s.Val) : secE s 0 1 = rt (sqM s) := by
  have q := sqM_bd v
  unfold secE
  rw [Int.one_mul, show (1 : Int) - 0 = 1 by omega, Int.ediv_one]
  have r := rt_spec q.1
  have : rt (sqM s) ≤ 3000 := by
    rcases Int.lt_or_le 3000 (rt (sqM s)) with h | h
    · have := Int.mul_le_mul (show 3001 ≤ rt (sqM s) by omega) (show 3001 ≤ rt (sqM s) by omega) (by omega) (by omega)
      omega
    · exact h
  omega
/-! ### The law -/
def askF (f m : Int) (i : Nat) : Int := if i = 0 then f else if i = 1 then m else m + 1
set_option maxHeartbeats 4000000 in
set_option maxRecDepth 100000 in
theorem raySecant_ok {s : Sky} {f n d n' d' : Int} (hs : s.sl.length ≤ 9223372036854775807) (h1 : -9223372036854775808 ≤ n ∧ n ≤ 9223372036854775807) (h2 : -9223372036854775808 ≤ d ∧ d ≤ 9223372036854775807) (h3 : -9223372036854775808 ≤ n' ∧ n' ≤ 9223372036854775807) (h4 : -9223372036854775808 ≤ d' ∧ d' ≤ 9223372036854775807) : FnOK Try.prog 8 [eSky s, I f, .agg [I n, I d, I n', I d']] (B true) [] := by
  by_cases hf : s.sl.length ≤ 14
  case neg =>
    refine fn_i hmix hT Try.f8 (by kernel_rfl) rfl (by kernel_rfl) ?_
    with_reducible conv => whnf
    repeat' ((first | (with_reducible refine branch_t ?_) | (with_reducible refine branch_f ?_) | (with_reducible refine branch_nt ?_) | (with_reducible refine branch_nf ?_) | (with_reducible refine branch_dec (fun _ => ?_) (fun _ => ?_)) | (with_reducible refine branch_ndec (fun _ => ?_) (fun _ => ?_)) | (with_reducible refine branch_bool (fun _ => ?_) (fun _ => ?_)) | (with_reducible refine arith_64 (by omega) ?_) | (with_reducible refine ob_i (by omega) (fun _ => ?_)) | (with_reducible refine ob_i (by unfold room; omega) (fun _ => ?_)) | (with_reducible refine ob_i (by (try simp only [toN_eq, Int.toNat_natCast] at *); (try dsimp only [toN] at *); omega) (fun _ => ?_)) | (with_reducible refine arith_64 (by (try simp only [toN_eq, Int.toNat_natCast] at *); (try dsimp only [toN] at *); omega) ?_) | (with_reducible refine ob_k rfl ?_) | ((with_reducible refine ob_k ?_ ?_); focus kernel_rfl) | (refine yield_i hmix hT rfl hL efr eps eag ebd rfl (by kernel_rfl) ?_) | (apply call_u awake_fn) | (apply call_u few_ok) | (apply call_l (first_ok (l := [_, _]) (Nat.le_of_ble_eq_true rfl)) (.cons (vm_lit _ rfl rfl (.cons (vm_int rfl) (.cons (vm_int rfl) .nil))) .nil)) | (apply call_l (first_ok (l := [_, _, _]) (Nat.le_of_ble_eq_true rfl)) (.cons (vm_lit _ rfl rfl (.cons (vm_int rfl) (.cons (vm_int rfl) (.cons (vm_int rfl) .nil)))) .nil)) | (apply call_l (first_ok (l := [_, _, _, _]) (Nat.le_of_ble_eq_true rfl)) (.cons (vm_lit _ rfl rfl (.cons (vm_int rfl) (.cons (vm_int rfl) (.cons (vm_int rfl) (.cons (vm_int rfl) .nil))))) .nil))) <;> (try (exfalso; omega; done)) <;> (with_reducible conv => whnf))
    exact ret0 vm_p
  have RE : FnOK Try.prog 54 [eSky s, I f, .agg [I n, I d]] (I (rayE s f n d)) [] := refRayErr_ok (l := (n, d)) hs h1 h2
  have LE : FnOK Try.prog 52 [.agg [I n', I d']] (I (launchE n' d')) [] := refLaunchErr_ok (l := (n', d')) h3 h4
  by_cases z1 : rayE s f n d = 0
  case neg =>
    refine fn_i hmix hT Try.f8 (by kernel_rfl) rfl (by kernel_rfl) ?_
    with_reducible conv => whnf
    repeat' ((first | (with_reducible refine branch_t ?_) | (with_reducible refine branch_f ?_) | (with_reducible refine branch_nt ?_) | (with_reducible refine branch_nf ?_) | (with_reducible refine branch_dec (fun _ => ?_) (fun _ => ?_)) | (with_reducible refine branch_ndec (fun _ => ?_) (fun _ => ?_)) | (with_reducible refine branch_bool (fun _ => ?_) (fun _ => ?_)) | (with_reducible refine arith_64 (by omega) ?_) | (with_reducible refine ob_i (by omega) (fun _ => ?_)) | (with_reducible refine ob_i (by unfold room; omega) (fun _ => ?_)) | (with_reducible refine ob_i (by (try simp only [toN_eq, Int.toNat_natCast] at *); (try dsimp only [toN] at *); omega) (fun _ => ?_)) | (with_reducible refine arith_64 (by (try simp only [toN_eq, Int.toNat_natCast] at *); (try dsimp only [toN] at *); omega) ?_) | (with_reducible refine ob_k rfl ?_) | ((with_reducible refine ob_k ?_ ?_); focus kernel_rfl) | (refine yield_i hmix hT rfl hL efr eps eag ebd rfl (by kernel_rfl) ?_) | (apply call_u awake_fn) | (apply call_u few_ok) | (apply call_u RE) | (apply call_l (first_ok (l := [_, _]) (Nat.le_of_ble_eq_true rfl)) (.cons (vm_lit _ rfl rfl (.cons (vm_int rfl) (.cons (vm_int rfl) .nil))) .nil)) | (apply call_l (first_ok (l := [_, _, _]) (Nat.le_of_ble_eq_true rfl)) (.cons (vm_lit _ rfl rfl (.cons (vm_int rfl) (.cons (vm_int rfl) (.cons (vm_int rfl) .nil)))) .nil)) | (apply call_l (first_ok (l := [_, _, _, _]) (Nat.le_of_ble_eq_true rfl)) (.cons (vm_lit _ rfl rfl (.cons (vm_int rfl) (.cons (vm_int rfl) (.cons (vm_int rfl) (.cons (vm_int rfl) .nil))))) .nil))) <;> (try (exfalso; omega; done)) <;> (with_reducible conv => whnf))
    exact ret0 vm_p
  by_cases z2 : launchE n' d' = 0
  case neg =>
    refine fn_i hmix hT Try.f8 (by kernel_rfl) rfl (by kernel_rfl) ?_
    with_reducible conv => whnf
    repeat' ((first | (with_reducible refine branch_t ?_) | (with_reducible refine branch_f ?_) | (with_reducible refine branch_nt ?_) | (with_reducible refine branch_nf ?_) | (with_reducible refine branch_dec (fun _ => ?_) (fun _ => ?_)) | (with_reducible refine branch_ndec (fun _ => ?_) (fun _ => ?_)) | (with_reducible refine branch_bool (fun _ => ?_) (fun _ => ?_)) | (with_reducible refine arith_64 (by omega) ?_) | (with_reducible refine ob_i (by omega) (fun _ => ?_)) | (with_reducible refine ob_i (by unfold room; omega) (fun _ => ?_)) | (with_reducible refine ob_i (by (try simp only [toN_eq, Int.toNat_natCast] at *); (try dsimp only [toN] at *); omega) (fun _ => ?_)) | (with_reducible refine arith_64 (by (try simp only [toN_eq, Int.toNat_natCast] at *); (try dsimp only [toN] at *); omega) ?_) | (with_reducible refine ob_k rfl ?_) | ((with_reducible refine ob_k ?_ ?_); focus kernel_rfl) | (refine yield_i hmix hT rfl hL efr eps eag ebd rfl (by kernel_rfl) ?_) | (apply call_u awake_fn) | (apply call_u few_ok) | (apply call_u RE) | (apply call_u LE) | (apply call_l (first_ok (l := [_, _]) (Nat.le_of_ble_eq_true rfl)) (.cons (vm_lit _ rfl rfl (.cons (vm_int rfl) (.cons (vm_int rfl) .nil))) .nil)) | (apply call_l (first_ok (l := [_, _, _]) (Nat.le_of_ble_eq_true rfl)) (.cons (vm_lit _ rfl rfl (.cons (vm_int rfl) (.cons (vm_int rfl) (.cons (vm_int rfl) .nil)))) .nil)) | (apply call_l (first_ok (l := [_, _, _, _]) (Nat.le_of_ble_eq_true rfl)) (.cons (vm_lit _ rfl rfl (.cons (vm_int rfl) (.cons (vm_int rfl) (.cons (vm_int rfl) (.cons (vm_int rfl) .nil))))) .nil))) <;> (try (exfalso; omega; done)) <;> (with_reducible conv => whnf))
    exact ret0 vm_p
  obtain ⟨v, fv, lv⟩ := rayE_zero z1
  have lv' := launch_val z2
  have ls := lv.n0; have lt := lv.nd; have lu := lv.d1
  have ls' := lv'.n0; have lt' := lv'.nd; have lu' := lv'.d1
  have p1 := prod_bd (a := n) (b := d') (A := 100) (B := 100) (by omega) (by omega)
  have p2 := prod_bd (a := n') (b := d) (A := 100) (B := 100) (by omega) (by omega)
  have C : FnOK Try.prog 55 [.agg [I n, I d], .agg [I n', I d']] (I (sgn (n * d') (n' * d))) [] := cmp_ok (a := (n, d)) (b := (n', d')) (by dsimp only; omega) (by dsimp only; omega)
  rw [z1] at RE
  rw [z2] at LE
  by_cases c : n * d' ≤ n' * d
  case neg =>
    have e : sgn (n * d') (n' * d) = 1 := by unfold sgn; rw [if_neg (by omega), if_pos (by omega)]
    rw [e] at C
    refine fn_i hmix hT Try.f8 (by kernel_rfl) rfl (by kernel_rfl) ?_
    with_reducible conv => whnf
    repeat' ((first | (with_reducible refine branch_t ?_) | (with_reducible refine branch_f ?_) | (with_reducible refine branch_nt ?_) | (with_reducible refine branch_nf ?_) | (with_reducible refine branch_dec (fun _ => ?_) (fun _ => ?_)) | (with_reducible refine branch_ndec (fun _ => ?_) (fun _ => ?_)) | (with_reducible refine branch_bool (fun _ => ?_) (fun _ => ?_)) | (with_reducible refine arith_64 (by omega) ?_) | (with_reducible refine ob_i (by omega) (fun _ => ?_)) | (with_reducible refine ob_i (by unfold room; omega) (fun _ => ?_)) | (with_reducible refine ob_i (by (try simp only [toN_eq, Int.toNat_natCast] at *); (try dsimp only [toN] at *); omega) (fun _ => ?_)) | (with_reducible refine arith_64 (by (try simp only [toN_eq, Int.toNat_natCast] at *); (try dsimp only [toN] at *); omega) ?_) | (with_reducible refine ob_k rfl ?_) | ((with_reducible refine ob_k ?_ ?_); focus kernel_rfl) | (refine yield_i hmix hT rfl hL efr eps eag ebd rfl (by kernel_rfl) ?_) | (apply call_u awake_fn) | (apply call_u few_ok) | (apply call_u RE) | (apply call_u LE) | (apply call_u C) | (apply call_l (first_ok (l := [_, _]) (Nat.le_of_ble_eq_true rfl)) (.cons (vm_lit _ rfl rfl (.cons (vm_int rfl) (.cons (vm_int rfl) .nil))) .nil)) | (apply call_l (first_ok (l := [_, _, _]) (Nat.le_of_ble_eq_true rfl)) (.cons (vm_lit _ rfl rfl (.cons (vm_int rfl) (.cons (vm_int rfl) (.cons (vm_int rfl) .nil)))) .nil)) | (apply call_l (first_ok (l := [_, _, _, _]) (Nat.le_of_ble_eq_true rfl)) (.cons (vm_lit _ rfl rfl (.cons (vm_int rfl) (.cons (vm_int rfl) (.cons (vm_int rfl) (.cons (vm_int rfl) .nil))))) .nil))) <;> (try (exfalso; omega; done)) <;> (with_reducible conv => whnf))
    exact ret0 vm_p
  have e : sgn (n * d') (n' * d) ≤ 0 := by unfold sgn; split <;> (try split) <;> omega
  have z0 : skyE s = 0 := by unfold rayE at z1; grind
  have S1 : FnOK Try.prog 47 [eSky s, .agg [I n, I d]] (.tup [I (secE s n d), I 0]) [] := secantOf_good (l := (n, d)) (by unfold secErr; rw [if_neg (by omega)]; exact val_launch lv)
  have S2 : FnOK Try.prog 47 [eSky s, .agg [I n', I d']] (.tup [I (secE s n' d'), I 0]) [] := secantOf_good (l := (n', d')) (by unfold secErr; rw [if_neg (by omega)]; exact val_launch lv')
  have S3 : FnOK Try.prog 47 [eSky s, .agg [I 0, I 1]] (.tup [I (secE s 0 1), I 0]) [] := secantOf_good (l := (0, 1)) (by unfold secErr; rw [if_neg (by omega)]; exact val_launch launch_vert)
  have CR := criticalOf_ok hs
  rw [show critP s = (rt (sqM s), 0) by unfold critP; rw [if_neg (by omega)]] at CR
  have m1 := sec_mono v lv lv' c
  have m2 := sec_mono v launch_vert lv (by omega)
  have m3 := sec_vert v
  rw [m3] at S3 m2
  have b1 := sec_bd v lv
  have b2 := sec_bd v lv'
  have AG : ∀ a, freqE a = 0 → rayE s a n d = 0 := fun a ha => by unfold rayE shotE; rw [if_neg (by omega), if_neg (by omega)]; exact val_launch lv
  have AS := fun a (ha : freqE a = 0) => apex_sec v (freq_val ha) lv
  clear z1 z2 z0 h1 h2 h3 h4
  generalize secE s n d = m at *
  generalize secE s n' d' = m' at *
  refine fn_i hmix hT Try.f8 (by kernel_rfl) rfl (by kernel_rfl) ?_
  with_reducible conv => whnf
  repeat' ((first | (with_reducible refine branch_t ?_) | (with_reducible refine branch_f ?_) | (with_reducible refine branch_nt ?_) | (with_reducible refine branch_nf ?_) | (with_reducible refine branch_dec (fun _ => ?_) (fun _ => ?_)) | (with_reducible refine branch_ndec (fun _ => ?_) (fun _ => ?_)) | (with_reducible refine branch_bool (fun _ => ?_) (fun _ => ?_)) | (with_reducible refine arith_64 (by omega) ?_) | (with_reducible refine ob_i (by omega) (fun _ => ?_)) | (with_reducible refine ob_i (by unfold room; omega) (fun _ => ?_)) | (with_reducible refine ob_i (by (try simp only [] at *); (try dsimp only [toN] at *); omega) (fun _ => ?_)) | (with_reducible refine arith_64 (by (try simp only [] at *); (try dsimp only [toN] at *); omega) ?_) | (with_reducible refine ob_k rfl ?_) | ((with_reducible refine ob_k ?_ ?_); focus kernel_rfl) | (refine yield_i hmix hT rfl hL efr eps eag ebd rfl (by kernel_rfl) ?_) | (apply call_u awake_fn) | (apply call_u few_ok) | (apply call_u RE) | (apply call_u LE) | (apply call_u C) | (apply call_u (copySky_ok (s := s) (by omega))) | (apply call_u S1) | (apply call_u S2) | (apply call_u S3) | (apply call_u CR) | (apply call_u bWithin_ok) | (apply call_l (first_ok (l := [_, _]) (Nat.le_of_ble_eq_true rfl)) (.cons (vm_lit _ rfl rfl (.cons (vm_int rfl) (.cons (vm_int rfl) .nil))) .nil)) | (apply call_l (first_ok (l := [_, _, _]) (Nat.le_of_ble_eq_true rfl)) (.cons (vm_lit _ rfl rfl (.cons (vm_int rfl) (.cons (vm_int rfl) (.cons (vm_int rfl) .nil)))) .nil)) | (apply call_l (first_ok (l := [_, _, _, _]) (Nat.le_of_ble_eq_true rfl)) (.cons (vm_lit _ rfl rfl (.cons (vm_int rfl) (.cons (vm_int rfl) (.cons (vm_int rfl) (.cons (vm_int rfl) .nil))))) .nil))) <;> (try (exfalso; omega; done)) <;> (with_reducible conv => whnf))
  refine loop_i hmix hT (fun k : Nat => ([(3, .ptr 0 0), (5, .ptr 1 0), (7, I m), (15, .own 2 1 0 3), (16, I k)], ⟨3, [(2, .row 1 3 (fun i => I (askF f m i)) 3), (1, .cells [I n, I d, I n', I d'] 95), (0, .cells [I s.h, eSlabs s.sl] 24)]⟩)) (fun k => k ≤ 3) (fun k => 3 - k) 0 (by omega) ?_ ?_
  · refine ⟨[], rfl, ?_, ?_⟩ <;> repeat' (first | exact trivial | exact vm_p | exact vm_ptr rfl rfl rfl | exact vm_yld rfl rfl | exact vm_own rfl rfl rfl rfl | exact vm_own rfl rfl (by omega) (by omega) | exact vm_int (by omega) | exact vm_nil rfl | exact sbm_cells vmL_p | exact sbm_row rfl (fun _ _ => vm_p) | refine ⟨⟨_, rfl, ?_⟩, ?_⟩ | refine ⟨⟨_, _, _, rfl⟩, ?_⟩ | (refine sbm_loop ?_; rw [efr]) | refine sbm_cells ?_ | refine vmL.cons ?_ ?_ | exact vmL.nil | refine vm_own rfl rfl rfl ?_)
    refine sbm_row rfl fun i hi => ?_
    rcases (show i = 0 ∨ i = 1 ∨ i = 2 by omega) with rfl | rfl | rfl <;> exact vm_int rfl
  intro k hk
  by_cases hk2 : k < 3
  case neg =>
    with_reducible conv => whnf
    repeat' ((first | (with_reducible refine branch_t ?_) | (with_reducible refine branch_f ?_) | (with_reducible refine branch_nt ?_) | (with_reducible refine branch_nf ?_) | (with_reducible refine branch_dec (fun _ => ?_) (fun _ => ?_)) | (with_reducible refine branch_ndec (fun _ => ?_) (fun _ => ?_)) | (with_reducible refine branch_bool (fun _ => ?_) (fun _ => ?_)) | (with_reducible refine arith_64 (by omega) ?_) | (with_reducible refine ob_i (by omega) (fun _ => ?_)) | (with_reducible refine ob_i (by unfold room; omega) (fun _ => ?_)) | (with_reducible refine ob_i (by (try simp only [] at *); (try dsimp only [toN] at *); omega) (fun _ => ?_)) | (with_reducible refine arith_64 (by (try simp only [] at *); (try dsimp only [toN] at *); omega) ?_) | (with_reducible refine ob_k rfl ?_) | ((with_reducible refine ob_k ?_ ?_); focus kernel_rfl) | (refine yield_i hmix hT rfl hL efr eps eag ebd rfl (by kernel_rfl) ?_)  | (apply call_l (first_ok (l := [_, _]) (Nat.le_of_ble_eq_true rfl)) (.cons (vm_lit _ rfl rfl (.cons (vm_int rfl) (.cons (vm_int rfl) .nil))) .nil)) | (apply call_l (first_ok (l := [_, _, _]) (Nat.le_of_ble_eq_true rfl)) (.cons (vm_lit _ rfl rfl (.cons (vm_int rfl) (.cons (vm_int rfl) (.cons (vm_int rfl) .nil)))) .nil)) | (apply call_l (first_ok (l := [_, _, _, _]) (Nat.le_of_ble_eq_true rfl)) (.cons (vm_lit _ rfl rfl (.cons (vm_int rfl) (.cons (vm_int rfl) (.cons (vm_int rfl) (.cons (vm_int rfl) .nil))))) .nil))) <;> (try (exfalso; omega; done)) <;> (with_reducible conv => whnf))
    exact ret0 vm_p
  by_cases hz : freqE (askF f m (0 + toN (k : Int))) = 0
  case neg =>
    with_reducible conv => whnf
    repeat' ((first | (with_reducible refine branch_t ?_) | (with_reducible refine branch_f ?_) | (with_reducible refine branch_nt ?_) | (with_reducible refine branch_nf ?_) | (with_reducible refine branch_dec (fun _ => ?_) (fun _ => ?_)) | (with_reducible refine branch_ndec (fun _ => ?_) (fun _ => ?_)) | (with_reducible refine branch_bool (fun _ => ?_) (fun _ => ?_)) | (with_reducible refine arith_64 (by omega) ?_) | (with_reducible refine ob_i (by omega) (fun _ => ?_)) | (with_reducible refine ob_i (by unfold room; omega) (fun _ => ?_)) | (with_reducible refine ob_i (by (try simp only [] at *); (try dsimp only [toN] at *); omega) (fun _ => ?_)) | (with_reducible refine arith_64 (by (try simp only [] at *); (try dsimp only [toN] at *); omega) ?_) | (with_reducible refine ob_k rfl ?_) | ((with_reducible refine ob_k ?_ ?_); focus kernel_rfl) | (refine yield_i hmix hT rfl hL efr eps eag ebd rfl (by kernel_rfl) ?_) | (apply call_u refFreqErr_ok) | (apply call_l (first_ok (l := [_, _]) (Nat.le_of_ble_eq_true rfl)) (.cons (vm_lit _ rfl rfl (.cons (vm_int rfl) (.cons (vm_int rfl) .nil))) .nil)) | (apply call_l (first_ok (l := [_, _, _]) (Nat.le_of_ble_eq_true rfl)) (.cons (vm_lit _ rfl rfl (.cons (vm_int rfl) (.cons (vm_int rfl) (.cons (vm_int rfl) .nil)))) .nil)) | (apply call_l (first_ok (l := [_, _, _, _]) (Nat.le_of_ble_eq_true rfl)) (.cons (vm_lit _ rfl rfl (.cons (vm_int rfl) (.cons (vm_int rfl) (.cons (vm_int rfl) (.cons (vm_int rfl) .nil))))) .nil))) <;> (try (exfalso; omega; done)) <;> (with_reducible conv => whnf))
    refine ⟨k + 1, by omega, by omega, ?_⟩
    refine ⟨[], rfl, ?_, ?_⟩ <;> repeat' (first | exact trivial | exact vm_p | exact vm_ptr rfl rfl rfl | exact vm_yld rfl rfl | exact vm_own rfl rfl rfl rfl | exact vm_own rfl rfl (by omega) (by omega) | exact vm_int (by omega) | exact vm_nil rfl | exact sbm_cells vmL_p | exact sbm_row rfl (fun _ _ => vm_p) | refine ⟨⟨_, rfl, ?_⟩, ?_⟩ | refine ⟨⟨_, _, _, rfl⟩, ?_⟩ | (refine sbm_loop ?_; rw [efr]) | refine sbm_cells ?_ | refine vmL.cons ?_ ?_ | exact vmL.nil | refine vm_own rfl rfl rfl ?_)
  have FE := refFreqErr_ok (f := askF f m (0 + toN (k : Int)))
  have ag := AG _ hz
  have az := AS _ hz
  rw [hz] at FE
  by_cases ha : askF f m (0 + toN (k : Int)) ≤ m
  · have ne : ¬ apexL (askF f m (0 + toN (k : Int)) * askF f m (0 + toN (k : Int))) n d s.sl = s.sl.length := fun h => (az.1 h) ha
    have A : FnOK Try.prog 56 [eSky s, I (askF f m (0 + toN (k : Int))), .agg [I n, I d]] _ [] := apexOf_some (l := (n, d)) ag ne
    have G : FnOK Try.prog 42 [eSky s, I (askF f m (0 + toN (k : Int))), .agg [I n, I d]] _ [] := groundOf_good (l := (n, d)) ag
    rw [if_neg ne] at G
    clear az ne
    with_reducible conv => whnf
    repeat' ((first | (with_reducible refine branch_t ?_) | (with_reducible refine branch_f ?_) | (with_reducible refine branch_nt ?_) | (with_reducible refine branch_nf ?_) | (with_reducible refine branch_dec (fun _ => ?_) (fun _ => ?_)) | (with_reducible refine branch_ndec (fun _ => ?_) (fun _ => ?_)) | (with_reducible refine branch_bool (fun _ => ?_) (fun _ => ?_)) | (with_reducible refine arith_64 (by omega) ?_) | (with_reducible refine ob_i (by omega) (fun _ => ?_)) | (with_reducible refine ob_i (by unfold room; omega) (fun _ => ?_)) | (with_reducible refine ob_i (by (try simp only [] at *); (try dsimp only [toN] at *); omega) (fun _ => ?_)) | (with_reducible refine arith_64 (by (try simp only [] at *); (try dsimp only [toN] at *); omega) ?_) | (with_reducible refine ob_k rfl ?_) | ((with_reducible refine ob_k ?_ ?_); focus kernel_rfl) | (refine yield_i hmix hT rfl hL efr eps eag ebd rfl (by kernel_rfl) ?_) | (apply call_u FE) | (apply call_u (copySky_ok (s := s) (by omega))) | (apply call_u A) | (apply call_u G) | (refine gen_neB rfl rfl rfl (by kernel_rfl) (by kernel_rfl) (by kernel_rfl) (fun _ => ?_) (fun h => absurd (by first | exact (decide_eq_true ha).symm | rfl) h)) | (apply call_l (first_ok (l := [_, _]) (Nat.le_of_ble_eq_true rfl)) (.cons (vm_lit _ rfl rfl (.cons (vm_int rfl) (.cons (vm_int rfl) .nil))) .nil)) | (apply call_l (first_ok (l := [_, _, _]) (Nat.le_of_ble_eq_true rfl)) (.cons (vm_lit _ rfl rfl (.cons (vm_int rfl) (.cons (vm_int rfl) (.cons (vm_int rfl) .nil)))) .nil)) | (apply call_l (first_ok (l := [_, _, _, _]) (Nat.le_of_ble_eq_true rfl)) (.cons (vm_lit _ rfl rfl (.cons (vm_int rfl) (.cons (vm_int rfl) (.cons (vm_int rfl) (.cons (vm_int rfl) .nil))))) .nil))) <;> (try (exfalso; omega; done)) <;> (with_reducible conv => whnf))
    refine ⟨k + 1, by omega, by omega, ?_⟩
    refine ⟨[], rfl, ?_, ?_⟩ <;> repeat' (first | exact trivial | exact vm_p | exact vm_ptr rfl rfl rfl | exact vm_yld rfl rfl | exact vm_own rfl rfl rfl rfl | exact vm_own rfl rfl (by omega) (by omega) | exact vm_int (by omega) | exact vm_nil rfl | exact sbm_cells vmL_p | exact sbm_row rfl (fun _ _ => vm_p) | refine ⟨⟨_, rfl, ?_⟩, ?_⟩ | refine ⟨⟨_, _, _, rfl⟩, ?_⟩ | (refine sbm_loop ?_; rw [efr]) | refine sbm_cells ?_ | refine vmL.cons ?_ ?_ | exact vmL.nil | refine vm_own rfl rfl rfl ?_)
  · have eq : apexL (askF f m (0 + toN (k : Int)) * askF f m (0 + toN (k : Int))) n d s.sl = s.sl.length := az.2 ha
    have A : FnOK Try.prog 56 [eSky s, I (askF f m (0 + toN (k : Int))), .agg [I n, I d]] _ [] := apexOf_none (l := (n, d)) ag eq
    have G : FnOK Try.prog 42 [eSky s, I (askF f m (0 + toN (k : Int))), .agg [I n, I d]] _ [] := groundOf_good (l := (n, d)) ag
    rw [if_pos eq] at G
    clear az eq
    with_reducible conv => whnf
    repeat' ((first | (with_reducible refine branch_t ?_) | (with_reducible refine branch_f ?_) | (with_reducible refine branch_nt ?_) | (with_reducible refine branch_nf ?_) | (with_reducible refine branch_dec (fun _ => ?_) (fun _ => ?_)) | (with_reducible refine branch_ndec (fun _ => ?_) (fun _ => ?_)) | (with_reducible refine branch_bool (fun _ => ?_) (fun _ => ?_)) | (with_reducible refine arith_64 (by omega) ?_) | (with_reducible refine ob_i (by omega) (fun _ => ?_)) | (with_reducible refine ob_i (by unfold room; omega) (fun _ => ?_)) | (with_reducible refine ob_i (by (try simp only [] at *); (try dsimp only [toN] at *); omega) (fun _ => ?_)) | (with_reducible refine arith_64 (by (try simp only [] at *); (try dsimp only [toN] at *); omega) ?_) | (with_reducible refine ob_k rfl ?_) | ((with_reducible refine ob_k ?_ ?_); focus kernel_rfl) | (refine yield_i hmix hT rfl hL efr eps eag ebd rfl (by kernel_rfl) ?_) | (apply call_u FE) | (apply call_u (copySky_ok (s := s) (by omega))) | (apply call_u A) | (apply call_u G) | (refine gen_neB rfl rfl rfl (by kernel_rfl) (by kernel_rfl) (by kernel_rfl) (fun _ => ?_) (fun h => absurd (by first | exact (decide_eq_false ha).symm | rfl) h)) | (apply call_l (first_ok (l := [_, _]) (Nat.le_of_ble_eq_true rfl)) (.cons (vm_lit _ rfl rfl (.cons (vm_int rfl) (.cons (vm_int rfl) .nil))) .nil)) | (apply call_l (first_ok (l := [_, _, _]) (Nat.le_of_ble_eq_true rfl)) (.cons (vm_lit _ rfl rfl (.cons (vm_int rfl) (.cons (vm_int rfl) (.cons (vm_int rfl) .nil)))) .nil)) | (apply call_l (first_ok (l := [_, _, _, _]) (Nat.le_of_ble_eq_true rfl)) (.cons (vm_lit _ rfl rfl (.cons (vm_int rfl) (.cons (vm_int rfl) (.cons (vm_int rfl) (.cons (vm_int rfl) .nil))))) .nil))) <;> (try (exfalso; omega; done)) <;> (with_reducible conv => whnf))
    refine ⟨k + 1, by omega, by omega, ?_⟩
    refine ⟨[], rfl, ?_, ?_⟩ <;> repeat' (first | exact trivial | exact vm_p | exact vm_ptr rfl rfl rfl | exact vm_yld rfl rfl | exact vm_own rfl rfl rfl rfl | exact vm_own rfl rfl (by omega) (by omega) | exact vm_int (by omega) | exact vm_nil rfl | exact sbm_cells vmL_p | exact sbm_row rfl (fun _ _ => vm_p) | refine ⟨⟨_, rfl, ?_⟩, ?_⟩ | refine ⟨⟨_, _, _, rfl⟩, ?_⟩ | (refine sbm_loop ?_; rw [efr]) | refine sbm_cells ?_ | refine vmL.cons ?_ ?_ | exact vmL.nil | refine vm_own rfl rfl rfl ?_)
end Go.Proofs.Ytplaocfagjeikaa
