/-
  Chapter 5: the law RaySnell (by contract).
  Conditions: none.
-/
import Derived.Test.Ytdfcedndkplabaa5We
import Derived.Test.Ytdfcedndkplabaa5K
namespace Go.Proofs.Ytdfcedndkplabaa
open Go.RowKit Fx Wd
/-- A fraction of numbers of any size that equals n / d. -/
structure Eqv (p : Int × Int) (n d : Int) : Prop where
  pos : 0 < p.2
  eq : p.1 * d = n * p.2
theorem Eqv.of {n d : Int} (h : d ≠ 0) : Eqv (rtM n d) n d := ⟨(rtM_rep h).1, (rtM_rep h).2⟩
theorem Eqv.mul {a b : Int × Int} {n d m k : Int} (h : Eqv a n d) (h2 : Eqv b m k) : Eqv (rtM (a.1 * b.1) (a.2 * b.2)) (n * m) (d * k) := by
  have p := Int.mul_pos h.pos h2.pos
  obtain ⟨r1, r2⟩ := rtM_rep (x := a.1 * b.1) (y := a.2 * b.2) (by omega)
  refine ⟨r1, ?_⟩
  have e : a.1 * b.1 * (d * k) = n * m * (a.2 * b.2) := by
    rw [show a.1 * b.1 * (d * k) = a.1 * d * (b.1 * k) by ac_rfl, h.eq, h2.eq]
    ac_rfl
  have : (rtM (a.1 * b.1) (a.2 * b.2)).1 * (d * k) * (a.2 * b.2) = n * m * (rtM (a.1 * b.1) (a.2 * b.2)).2 * (a.2 * b.2) := by
    rw [Int.mul_right_comm, r2, show n * m * (rtM (a.1 * b.1) (a.2 * b.2)).2 * (a.2 * b.2) = n * m * (a.2 * b.2) * (rtM (a.1 * b.1) (a.2 * b.2)).2 by ac_rfl, ← e]
    ac_rfl
  exact Int.eq_of_mul_eq_mul_right (by omega) this
theorem sign_pos {x : Int} (h : 0 < x) : x.sign = 1 := Int.sign_eq_one_of_pos h
theorem Eqv.cmp {a b : Int × Int} {n d m k : Int} (h : Eqv a n d) (h2 : Eqv b m k) (hd : 0 < d) (hk : 0 < k) : (a.1 * b.2 - b.1 * a.2).sign = (n * k - m * d).sign := by
  have e : (a.1 * b.2 - b.1 * a.2) * (d * k) = (n * k - m * d) * (a.2 * b.2) := by
    rw [Int.sub_mul, Int.sub_mul, show a.1 * b.2 * (d * k) = a.1 * d * (b.2 * k) by ac_rfl, show b.1 * a.2 * (d * k) = b.1 * k * (a.2 * d) by ac_rfl, h.eq, h2.eq]
    congr 1 <;> ac_rfl
  have := congrArg Int.sign e
  rw [Int.sign_mul, Int.sign_mul (n * k - m * d), sign_pos (Int.mul_pos hd hk), sign_pos (Int.mul_pos h.pos h2.pos), Int.mul_one, Int.mul_one] at this
  exact this
theorem right_ok {a : Int × Int} (h1 : 0 < a.2 ∧ Int.gcd a.1 a.2 = 1) (h2 : (-1000000000 ≤ a.1 ∧ a.1 ≤ 1000000000) ∧ 1 ≤ a.2 ∧ a.2 ≤ 1000000000) : FnOK Try.prog 12 [eFrac a] (B true) [] := by
  have L := isLowest_ok (a := a) (by omega) (by omega)
  have S := isSmall_ok (a := a)
  rw [decide_eq_true h1] at L
  rw [decide_eq_true h2] at S
  refine fn_i hmix hT Try.f12 (by kernel_rfl) rfl (by kernel_rfl) ?_
  with_reducible conv => whnf
  repeat' ((first | (with_reducible refine branch_t ?_) | (with_reducible refine branch_f ?_) | (with_reducible refine branch_nt ?_) | (with_reducible refine branch_nf ?_) | (with_reducible refine branch_dec (fun _ => ?_) (fun _ => ?_)) | (with_reducible refine branch_ndec (fun _ => ?_) (fun _ => ?_)) | (with_reducible refine branch_bool (fun _ => ?_) (fun _ => ?_)) | (with_reducible refine arith_64 (by omega) ?_) | (with_reducible refine ob_i (by omega) (fun _ => ?_)) | (with_reducible refine ob_i (by unfold room; omega) (fun _ => ?_)) | (with_reducible refine ob_i (by (try simp only [toN_eq, Int.toNat_natCast] at *); (try dsimp only [toN] at *); omega) (fun _ => ?_)) | (with_reducible refine arith_64 (by (try simp only [toN_eq, Int.toNat_natCast] at *); (try dsimp only [toN] at *); omega) ?_) | (with_reducible refine ob_k rfl ?_) | ((with_reducible refine ob_k ?_ ?_); focus kernel_rfl) | (refine yield_i hmix hT rfl hL efr eps eag ebd rfl (by kernel_rfl) ?_) | (apply call_u L) | (apply call_u S) | (apply call_l (first_ok (l := [_, _]) (Nat.le_of_ble_eq_true rfl)) (.cons (vm_lit _ rfl rfl (.cons (vm_int rfl) (.cons (vm_int rfl) .nil))) .nil)) | (apply call_l (first_ok (l := [_, _, _]) (Nat.le_of_ble_eq_true rfl)) (.cons (vm_lit _ rfl rfl (.cons (vm_int rfl) (.cons (vm_int rfl) (.cons (vm_int rfl) .nil)))) .nil)) | (apply call_l (first_ok (l := [_, _, _, _]) (Nat.le_of_ble_eq_true rfl)) (.cons (vm_lit _ rfl rfl (.cons (vm_int rfl) (.cons (vm_int rfl) (.cons (vm_int rfl) (.cons (vm_int rfl) .nil))))) .nil))) <;> (try (exfalso; omega; done)) <;> (with_reducible conv => whnf))
  exact ret0 vm_p
theorem low_one' {n d : Int} (h : 0 < d) : 0 < (low n d).2 ∧ Int.gcd (low n d).1 (low n d).2 = 1 := by
  obtain ⟨_, _, _, _, _, p, g⟩ := low_split (n := n) h
  exact ⟨p, g⟩
theorem low_rep {n d : Int} (h : 0 < d) : (low n d).1 * d = n * (low n d).2 := by
  obtain ⟨g, _, _, e1, e2, _, _⟩ := low_split (n := n) h
  generalize low n d = p at *
  rw [e1, e2]
  ac_rfl
/-- The index square times the sine square is the launch. -/
theorem snell {F n d q : Int} (hF : 0 < F) (hd : 0 < d) (hp : 0 < F - q) : (low (F - q) F).1 * (low (n * F) (d * (F - q))).1 * d = n * ((low (F - q) F).2 * (low (n * F) (d * (F - q))).2) := by
  have dp : 0 < d * (F - q) := Int.mul_pos hd hp
  have a := low_rep (n := F - q) hF
  have b := low_rep (n := n * F) dp
  generalize low (n * F) (d * (F - q)) = y at *
  generalize low (F - q) F = x at *
  have : x.1 * y.1 * d * (F * (d * (F - q))) = n * (x.2 * y.2) * (F * (d * (F - q))) := by
    rw [show x.1 * y.1 * d * (F * (d * (F - q))) = x.1 * F * (y.1 * (d * (F - q))) * d by ac_rfl, a, b]
    ac_rfl
  exact Int.eq_of_mul_eq_mul_right (by have := Int.mul_pos hF dp; omega) this
theorem bord_step (s : Sky) (k : Nat) : bordK s (k + 1) = bordK s k + (s.sl.getD k (0, 0)).1 := rfl
set_option maxHeartbeats 8000000 in
set_option maxRecDepth 100000 in
theorem raySnell_ok {s : Sky} {f : Int} {l : Int × Int} (hs : s.sl.length ≤ 9223372036854775807) (h1 : -9223372036854775808 ≤ l.1 ∧ l.1 ≤ 9223372036854775807) (h2 : -9223372036854775808 ≤ l.2 ∧ l.2 ≤ 9223372036854775807) : FnOK Try.prog 3 [eSky s, I f, eFrac l] (B true) [] := by
  by_cases hf : s.sl.length ≤ 14
  case neg =>
    refine fn_i hmix hT Try.f3 (by kernel_rfl) rfl (by kernel_rfl) ?_
    with_reducible conv => whnf
    repeat' ((first | (with_reducible refine branch_t ?_) | (with_reducible refine branch_f ?_) | (with_reducible refine branch_nt ?_) | (with_reducible refine branch_nf ?_) | (with_reducible refine branch_dec (fun _ => ?_) (fun _ => ?_)) | (with_reducible refine branch_ndec (fun _ => ?_) (fun _ => ?_)) | (with_reducible refine branch_bool (fun _ => ?_) (fun _ => ?_)) | (with_reducible refine arith_64 (by omega) ?_) | (with_reducible refine ob_i (by omega) (fun _ => ?_)) | (with_reducible refine ob_i (by unfold room; omega) (fun _ => ?_)) | (with_reducible refine ob_i (by (try simp only [toN_eq, Int.toNat_natCast] at *); (try dsimp only [toN] at *); omega) (fun _ => ?_)) | (with_reducible refine arith_64 (by (try simp only [toN_eq, Int.toNat_natCast] at *); (try dsimp only [toN] at *); omega) ?_) | (with_reducible refine ob_k rfl ?_) | ((with_reducible refine ob_k ?_ ?_); focus kernel_rfl) | (refine yield_i hmix hT rfl hL efr eps eag ebd rfl (by kernel_rfl) ?_) | (apply call_u awake_fn) | (apply call_u few_ok) | (apply call_l (first_ok (l := [_, _]) (Nat.le_of_ble_eq_true rfl)) (.cons (vm_lit _ rfl rfl (.cons (vm_int rfl) (.cons (vm_int rfl) .nil))) .nil)) | (apply call_l (first_ok (l := [_, _, _]) (Nat.le_of_ble_eq_true rfl)) (.cons (vm_lit _ rfl rfl (.cons (vm_int rfl) (.cons (vm_int rfl) (.cons (vm_int rfl) .nil)))) .nil)) | (apply call_l (first_ok (l := [_, _, _, _]) (Nat.le_of_ble_eq_true rfl)) (.cons (vm_lit _ rfl rfl (.cons (vm_int rfl) (.cons (vm_int rfl) (.cons (vm_int rfl) (.cons (vm_int rfl) .nil))))) .nil))) <;> (try (exfalso; omega; done)) <;> (with_reducible conv => whnf))
    exact ret0 vm_p
  have RE := refRayErr_ok (f := f) hs h1 h2
  by_cases h : rayE s f l.1 l.2 = 0
  case neg =>
    refine fn_i hmix hT Try.f3 (by kernel_rfl) rfl (by kernel_rfl) ?_
    with_reducible conv => whnf
    repeat' ((first | (with_reducible refine branch_t ?_) | (with_reducible refine branch_f ?_) | (with_reducible refine branch_nt ?_) | (with_reducible refine branch_nf ?_) | (with_reducible refine branch_dec (fun _ => ?_) (fun _ => ?_)) | (with_reducible refine branch_ndec (fun _ => ?_) (fun _ => ?_)) | (with_reducible refine branch_bool (fun _ => ?_) (fun _ => ?_)) | (with_reducible refine arith_64 (by omega) ?_) | (with_reducible refine ob_i (by omega) (fun _ => ?_)) | (with_reducible refine ob_i (by unfold room; omega) (fun _ => ?_)) | (with_reducible refine ob_i (by (try simp only [toN_eq, Int.toNat_natCast] at *); (try dsimp only [toN] at *); omega) (fun _ => ?_)) | (with_reducible refine arith_64 (by (try simp only [toN_eq, Int.toNat_natCast] at *); (try dsimp only [toN] at *); omega) ?_) | (with_reducible refine ob_k rfl ?_) | ((with_reducible refine ob_k ?_ ?_); focus kernel_rfl) | (refine yield_i hmix hT rfl hL efr eps eag ebd rfl (by kernel_rfl) ?_) | (apply call_u awake_fn) | (apply call_u few_ok) | (apply call_u RE) | (apply call_l (first_ok (l := [_, _]) (Nat.le_of_ble_eq_true rfl)) (.cons (vm_lit _ rfl rfl (.cons (vm_int rfl) (.cons (vm_int rfl) .nil))) .nil)) | (apply call_l (first_ok (l := [_, _, _]) (Nat.le_of_ble_eq_true rfl)) (.cons (vm_lit _ rfl rfl (.cons (vm_int rfl) (.cons (vm_int rfl) (.cons (vm_int rfl) .nil)))) .nil)) | (apply call_l (first_ok (l := [_, _, _, _]) (Nat.le_of_ble_eq_true rfl)) (.cons (vm_lit _ rfl rfl (.cons (vm_int rfl) (.cons (vm_int rfl) (.cons (vm_int rfl) (.cons (vm_int rfl) .nil))))) .nil))) <;> (try (exfalso; omega; done)) <;> (with_reducible conv => whnf))
    all_goals exact ret0 vm_p
  rw [h] at RE
  obtain ⟨v, fv, lv⟩ := rayE_zero h
  have sv := shotV fv lv
  have al := apexL_le (F := f * f) (n := l.1) (d := l.2) s.sl
  have sl := sinL_len s (f * f) l.1 l.2
  have il := ixL_len s f
  have n1 := v.n1
  have hz : ixE s f = 0 := by
    unfold rayE shotE at h
    unfold ixE
    grind
  have NI := indexesOf_good hz
  have A := sinesOf_good h
  have sF := sq_bd fv
  have ln0 := lv.n0
  have lnd := lv.nd
  have ld1 := lv.d1
  have FL := ratioFrom_ok (f := l) h1 h2 (by omega)
  have eL : Eqv (rtM l.1 l.2) l.1 l.2 := .of (by omega)
  have WH := whole_ok (n := 1)
  have fLw : Fw 1 (rtM l.1 l.2).1 ∧ Fw 1 (rtM l.1 l.2).2 := rtM_fw (by omega) (Fw.small (by omega)) (Fw.small (by omega))
  -- what holds below the apex
  have below : ∀ i, i < apexL (f * f) l.1 l.2 s.sl → FnOK Try.prog 12 [eFrac ((ixL s f).getD i (0, 0))] (B true) [] ∧ FnOK Try.prog 12 [eFrac ((sinL s (f * f) l.1 l.2).getD i (0, 0))] (B true) [] ∧ FnOK Try.prog 13 [eFrac ((sinL s (f * f) l.1 l.2).getD i (0, 0)), eFrac (1, 1)] (I (-1)) [] ∧ FnOK Try.prog 13 [eFrac ((ixL s f).getD i (0, 0)), eFrac l] (I 1) [] ∧ ∃ ra rb r : Int × Int, FnOK Try.prog 17 [eFrac ((ixL s f).getD i (0, 0))] (eR ra) [] ∧ FnOK Try.prog 17 [eFrac ((sinL s (f * f) l.1 l.2).getD i (0, 0))] (eR rb) [] ∧ FnOK Try.prog 16 [eR ra, eR rb] (eR r) [] ∧ FnOK Try.prog 15 [eR r, eR (rtM l.1 l.2)] (I 0) [] := fun i hi => by
    have hq := v.q i (by omega)
    have hl := apexL_below s.sl i hi
    have ll := left_lt sv hl
    have lb := left_bd sv hq
    rw [ixL_at (by omega), sinL_at hi]
    generalize (s.sl.getD i (0, 0)).2 = q at *
    have pF : 0 < f * f := by omega
    have sn := snell pF (show 0 < l.2 by omega) ll.2 (n := l.1)
    have np := low_parts (F := f * f) (q := q) sF hq
    have nl := low_one' (n := f * f - q) pF
    have dl := low_one' (n := l.1 * (f * f)) ll.1
    have ds := low_size (n := l.1 * (f * f)) ll.1
    have dlt := low_lt (n := l.1 * (f * f)) ll.1 (by unfold leftE at hl; omega)
    have cl := cmp_left (q := q) sv
    have cn : ¬ (low (f * f - q) (f * f)).1 * l.2 ≤ l.1 * (low (f * f - q) (f * f)).2 := fun k => by have := cl.1 k; omega
    clear cl
    generalize low (f * f - q) (f * f) = N at *
    generalize low (l.1 * (f * f)) (l.2 * (f * f - q)) = S at *
    have p1 := Go.Proofs.Ytdfcedndkplabaa.prod_bd (a := N.1) (b := l.2) (A := 9000000) (B := 100) (by omega) (by omega)
    have p2 := Go.Proofs.Ytdfcedndkplabaa.prod_bd (a := l.1) (b := N.2) (A := 100) (B := 9000000) (by omega) (by omega)
    have C1 := cmp_ok (a := S) (b := (1, 1)) (by dsimp only; omega) (by dsimp only; omega)
    have C2 := cmp_ok (a := N) (b := l) (by omega) (by omega)
    rw [show sgn (S.1 * (1, 1).2) ((1, 1).1 * S.2) = -1 by unfold sgn; dsimp only; rw [if_pos (by omega)]] at C1
    rw [show sgn (N.1 * l.2) (l.1 * N.2) = 1 by unfold sgn; rw [if_neg (by omega), if_pos (by omega)]] at C2
    have w1 : Fw 1 (rtM N.1 N.2).1 ∧ Fw 1 (rtM N.1 N.2).2 := rtM_fw (by omega) (Fw.small (by omega)) (Fw.small (by omega))
    have w2 : Fw 1 (rtM S.1 S.2).1 ∧ Fw 1 (rtM S.1 S.2).2 := rtM_fw (by omega) (Fw.small (by omega)) (Fw.small (by omega))
    have q1 : Eqv (rtM N.1 N.2) N.1 N.2 := .of (by omega)
    have q2 : Eqv (rtM S.1 S.2) S.1 S.2 := .of (by omega)
    have q3 := q1.mul q2
    have z1 := q1.pos
    have z2 := q2.pos
    have z3 := Int.mul_pos z1 z2
    refine ⟨right_ok nl (by omega), right_ok dl (by omega), C1, C2, rtM N.1 N.2, rtM S.1 S.2, _, ratioFrom_ok (by omega) (by omega) (by omega), ratioFrom_ok (by omega) (by omega) (by omega), ratioMul_ok (k := 1) (m := 1) (by omega) (by omega) (by omega) w1 w2, ?_⟩
    have w3 : Fw (1 + 1) (rtM ((rtM N.1 N.2).1 * (rtM S.1 S.2).1) ((rtM N.1 N.2).2 * (rtM S.1 S.2).2)).1 ∧ Fw (1 + 1) (rtM ((rtM N.1 N.2).1 * (rtM S.1 S.2).1) ((rtM N.1 N.2).2 * (rtM S.1 S.2).2)).2 := rtM_fw (by omega) (w1.1.mul w2.1) (w1.2.mul w2.2)
    have C := ratioCmp_ok (k := 1 + 1) (m := 1) (by omega) w3 fLw
    rw [q3.cmp eL (Int.mul_pos (by omega) (by omega)) (by omega), sn, Int.sub_self] at C
    exact C
  -- the apex itself
  have CS := copySky_ok (s := s) (by omega)
  have at_ : apexL (f * f) l.1 l.2 s.sl < s.sl.length → FnOK Try.prog 12 [eFrac ((ixL s f).getD (toN ((apexL (f * f) l.1 l.2 s.sl : Nat) : Int)) (0, 0))] (B true) [] ∧ ∃ c : Int, c ≤ 0 ∧ FnOK Try.prog 13 [eFrac ((ixL s f).getD (toN ((apexL (f * f) l.1 l.2 s.sl : Nat) : Int)) (0, 0)), eFrac l] (I c) [] := fun hi => by
    have hq := v.q _ hi
    have hl := apexL_at s.sl hi
    rw [toN_nat, ixL_at hi]
    generalize (s.sl.getD (apexL (f * f) l.1 l.2 s.sl) (0, 0)).2 = q at *
    have pF : 0 < f * f := by omega
    have np := low_parts (F := f * f) (q := q) sF hq
    have nl := low_one' (n := f * f - q) pF
    have cl := (cmp_left (q := q) sv).2 hl
    generalize low (f * f - q) (f * f) = N at *
    have p1 := Go.Proofs.Ytdfcedndkplabaa.prod_bd (a := N.1) (b := l.2) (A := 9000000) (B := 100) (by omega) (by omega)
    have p2 := Go.Proofs.Ytdfcedndkplabaa.prod_bd (a := l.1) (b := N.2) (A := 100) (B := 9000000) (by omega) (by omega)
    exact ⟨right_ok nl (by omega), _, by unfold sgn; grind, cmp_ok (a := N) (b := l) (by omega) (by omega)⟩
  obtain ⟨rf, a1, a2, B1, t1, t2, heq⟩ : ∃ (rf : Bool) (a1 a2 : Int), FnOK Try.prog 11 [eSky s, I f, eFrac l] (.tup [.agg [B rf, I a1, I a2], I 0]) [] ∧ (rf = true → apexL (f * f) l.1 l.2 s.sl < s.sl.length ∧ a1 = apexL (f * f) l.1 l.2 s.sl ∧ a2 = bordK s (apexL (f * f) l.1 l.2 s.sl)) ∧ (rf = false → a1 = 0 ∧ a2 = 0) ∧ rf = decide (((sinL s (f * f) l.1 l.2).length : Int) < ((ixL s f).length : Int)) := by
    by_cases ha : apexL (f * f) l.1 l.2 s.sl = s.sl.length
    · exact ⟨false, 0, 0, apexOf_none h ha, fun k => (by cases k), fun _ => ⟨rfl, rfl⟩, (decide_eq_false (by rw [sl, il]; omega)).symm⟩
    · exact ⟨true, _, _, apexOf_some h ha, fun _ => ⟨by omega, rfl, rfl⟩, fun k => (by cases k), (decide_eq_true (by rw [sl, il]; omega)).symm⟩
  have bb := fun k hk => bord_bd v.fine k hk
  refine fn_i hmix hT Try.f3 (by kernel_rfl) rfl (by kernel_rfl) ?_
  with_reducible conv => whnf
  repeat' ((first | (with_reducible refine branch_t ?_) | (with_reducible refine branch_f ?_) | (with_reducible refine branch_nt ?_) | (with_reducible refine branch_nf ?_) | (with_reducible refine branch_dec (fun _ => ?_) (fun _ => ?_)) | (with_reducible refine branch_ndec (fun _ => ?_) (fun _ => ?_)) | (with_reducible refine branch_bool (fun _ => ?_) (fun _ => ?_)) | (with_reducible refine arith_64 (by omega) ?_) | (with_reducible refine ob_i (by omega) (fun _ => ?_)) | (with_reducible refine ob_i (by unfold room; omega) (fun _ => ?_)) | (with_reducible refine ob_i (by (try simp only [] at *); (try dsimp only [toN] at *); omega) (fun _ => ?_)) | (with_reducible refine arith_64 (by (try simp only [toN_eq, Int.toNat_natCast] at *); (try dsimp only [toN] at *); omega) ?_) | (with_reducible refine ob_k rfl ?_) | ((with_reducible refine ob_k ?_ ?_); focus kernel_rfl) | (refine yield_i hmix hT rfl hL efr eps eag ebd rfl (by kernel_rfl) ?_) | (apply call_u awake_fn) | (apply call_u few_ok) | (apply call_u CS) | (apply call_u NI) | (apply call_u A) | (apply call_u B1) | (apply call_u RE) | (refine gen_neB rfl rfl rfl (by kernel_rfl) (by kernel_rfl) (by kernel_rfl) (fun _ => ?_) (fun h => absurd heq h)) | (apply call_l (first_ok (l := [_, _]) (Nat.le_of_ble_eq_true rfl)) (.cons (vm_lit _ rfl rfl (.cons (vm_int rfl) (.cons (vm_int rfl) .nil))) .nil)) | (apply call_l (first_ok (l := [_, _, _]) (Nat.le_of_ble_eq_true rfl)) (.cons (vm_lit _ rfl rfl (.cons (vm_int rfl) (.cons (vm_int rfl) (.cons (vm_int rfl) .nil)))) .nil)) | (apply call_l (first_ok (l := [_, _, _, _]) (Nat.le_of_ble_eq_true rfl)) (.cons (vm_lit _ rfl rfl (.cons (vm_int rfl) (.cons (vm_int rfl) (.cons (vm_int rfl) (.cons (vm_int rfl) .nil))))) .nil))) <;> (try (exfalso; omega; done)) <;> (with_reducible conv => whnf))
  clear heq B1 NI A RE
  refine loop_i hmix hT (fun i : Nat => ([(3, .ptr 0 0), (5, .ptr 1 0), (7, eSlabs (ixL s f)), (9, eSlabs (sinL s (f * f) l.1 l.2)), (11, .ptr 2 0), (13, I (bordK s i)), (14, I i)], ⟨3, [(2, .cells [B rf, I a1, I a2] 37), (1, .cells [I l.1, I l.2] 26), (0, .cells [I s.h, eSlabs s.sl] 24)]⟩)) (fun i => i ≤ (sinL s (f * f) l.1 l.2).length) (fun i => (sinL s (f * f) l.1 l.2).length - i) (0 : Nat) (by omega) ?_ ?_
  · refine ⟨[], rfl, ?_, ?_⟩ <;> repeat' (first | exact trivial | exact vm_p | exact vm_ptr rfl rfl rfl | exact vm_yld rfl rfl | exact vm_own rfl rfl rfl rfl | exact vm_own rfl rfl (by omega) (by omega) | exact vm_int (by omega) | exact vm_nil rfl | exact sbm_cells vmL_p | exact sbm_row rfl (fun _ _ => vm_p) | refine ⟨⟨_, rfl, ?_⟩, ?_⟩ | refine ⟨⟨_, _, _, rfl⟩, ?_⟩ | (refine sbm_loop ?_; rw [efr]) | refine sbm_cells ?_ | refine vmL.cons ?_ ?_ | exact vmL.nil | refine vm_own rfl rfl rfl ?_)
  intro i hi
  by_cases c : i < (sinL s (f * f) l.1 l.2).length
  · obtain ⟨b1, b2, b3, b4, ra, rb, r, b5, b6, b7, b8⟩ := below i (by omega)
    have ti : toN (i : Int) = i := toN_nat i
    have ei : (ixL s f).getD i (0, 0) = (ixL s f).getD (toN (i : Int)) (0, 0) := by rw [ti]
    have es : (sinL s (f * f) l.1 l.2).getD i (0, 0) = (sinL s (f * f) l.1 l.2).getD (toN (i : Int)) (0, 0) := by rw [ti]
    rw [ei] at b1 b4 b5
    rw [es] at b2 b3 b6
    have bi := bb i (by omega)
    have vt := v.t i (by omega)
    have et : s.sl.getD i (0, 0) = s.sl.getD (toN (i : Int)) (0, 0) := by rw [ti]
    have st := bord_step s i
    rw [et] at vt st
    clear below at_ t1 t2 bb ei es et
    with_reducible conv => whnf
    repeat' ((first | (with_reducible refine branch_t ?_) | (with_reducible refine branch_f ?_) | (with_reducible refine branch_nt ?_) | (with_reducible refine branch_nf ?_) | (with_reducible refine branch_dec (fun _ => ?_) (fun _ => ?_)) | (with_reducible refine branch_ndec (fun _ => ?_) (fun _ => ?_)) | (with_reducible refine branch_bool (fun _ => ?_) (fun _ => ?_)) | (with_reducible refine arith_64 (by omega) ?_) | (with_reducible refine ob_i (by omega) (fun _ => ?_)) | (with_reducible refine ob_i (by unfold room; omega) (fun _ => ?_)) | (with_reducible refine ob_i (by (try simp only [] at *); (try dsimp only [toN] at *); omega) (fun _ => ?_)) | (with_reducible refine arith_64 (by (try simp only [] at *); (try dsimp only [toN] at *); omega) ?_) | (with_reducible refine ob_k rfl ?_) | ((with_reducible refine ob_k ?_ ?_); focus kernel_rfl) | (refine yield_i hmix hT rfl hL efr eps eag ebd rfl (by kernel_rfl) ?_) | (apply call_u b1) | (apply call_u b2) | (apply call_u WH) | (apply call_u b3) | (apply call_u b4) | (apply call_u b5) | (apply call_u b6) | (apply call_u b7) | (apply call_u FL) | (apply call_u b8) | (apply call_l (first_ok (l := [_, _]) (Nat.le_of_ble_eq_true rfl)) (.cons (vm_lit _ rfl rfl (.cons (vm_int rfl) (.cons (vm_int rfl) .nil))) .nil)) | (apply call_l (first_ok (l := [_, _, _]) (Nat.le_of_ble_eq_true rfl)) (.cons (vm_lit _ rfl rfl (.cons (vm_int rfl) (.cons (vm_int rfl) (.cons (vm_int rfl) .nil)))) .nil)) | (apply call_l (first_ok (l := [_, _, _, _]) (Nat.le_of_ble_eq_true rfl)) (.cons (vm_lit _ rfl rfl (.cons (vm_int rfl) (.cons (vm_int rfl) (.cons (vm_int rfl) (.cons (vm_int rfl) .nil))))) .nil))) <;> (try (exfalso; omega; done)) <;> (with_reducible conv => whnf))
    refine ⟨i + 1, by omega, by omega, ?_⟩
    refine ⟨[], rfl, ?_, ?_⟩ <;> repeat' (first | exact trivial | exact vm_p | exact vm_ptr rfl rfl rfl | exact vm_yld rfl rfl | exact vm_own rfl rfl rfl rfl | exact vm_own rfl rfl (by omega) (by omega) | exact vm_int (by omega) | exact vm_nil rfl | exact sbm_cells vmL_p | exact sbm_row rfl (fun _ _ => vm_p) | refine ⟨⟨_, rfl, ?_⟩, ?_⟩ | refine ⟨⟨_, _, _, rfl⟩, ?_⟩ | (refine sbm_loop ?_; rw [efr]) | refine sbm_cells ?_ | refine vmL.cons ?_ ?_ | exact vmL.nil | refine vm_own rfl rfl rfl ?_)
  · have ei : i = apexL (f * f) l.1 l.2 s.sl := by omega
    clear below bb
    cases rf with
    | false =>
      obtain ⟨rfl, rfl⟩ := t2 rfl
      clear t1 t2 at_
      with_reducible conv => whnf
      repeat' ((first | (with_reducible refine branch_t ?_) | (with_reducible refine branch_f ?_) | (with_reducible refine branch_nt ?_) | (with_reducible refine branch_nf ?_) | (with_reducible refine branch_dec (fun _ => ?_) (fun _ => ?_)) | (with_reducible refine branch_ndec (fun _ => ?_) (fun _ => ?_)) | (with_reducible refine branch_bool (fun _ => ?_) (fun _ => ?_)) | (with_reducible refine arith_64 (by omega) ?_) | (with_reducible refine ob_i (by omega) (fun _ => ?_)) | (with_reducible refine ob_i (by unfold room; omega) (fun _ => ?_)) | (with_reducible refine ob_i (by (try simp only [] at *); (try dsimp only [toN] at *); omega) (fun _ => ?_)) | (with_reducible refine arith_64 (by (try simp only [] at *); (try dsimp only [toN] at *); omega) ?_) | (with_reducible refine ob_k rfl ?_) | ((with_reducible refine ob_k ?_ ?_); focus kernel_rfl) | (refine yield_i hmix hT rfl hL efr eps eag ebd rfl (by kernel_rfl) ?_) | (refine gen_eq2 rfl rfl rfl rfl (by kernel_rfl) (by kernel_rfl) (fun _ => ?_) (fun _ => ?_)) | (refine gen_ne2 rfl rfl rfl rfl (by kernel_rfl) (by kernel_rfl) (fun _ => ?_) (fun _ => ?_)) | (refine gen_eq3 rfl rfl rfl rfl (by kernel_rfl) (by kernel_rfl) (fun _ => ?_) (fun _ => ?_)) | (refine gen_ne3 rfl rfl rfl rfl (by kernel_rfl) (by kernel_rfl) (fun _ => ?_) (fun _ => ?_)) | (refine gen_eqBii rfl rfl rfl rfl (by kernel_rfl) (by kernel_rfl) (fun _ => ?_) (fun _ => ?_)) | (refine gen_neBii rfl rfl rfl rfl (by kernel_rfl) (by kernel_rfl) (fun _ => ?_) (fun _ => ?_)) | (refine gen_eq4 rfl rfl rfl rfl (by kernel_rfl) (by kernel_rfl) (fun _ => ?_) (fun _ => ?_)) | (refine gen_ne4 rfl rfl rfl rfl (by kernel_rfl) (by kernel_rfl) (fun _ => ?_) (fun _ => ?_)) | (apply call_l (first_ok (l := [_, _]) (Nat.le_of_ble_eq_true rfl)) (.cons (vm_lit _ rfl rfl (.cons (vm_int rfl) (.cons (vm_int rfl) .nil))) .nil)) | (apply call_l (first_ok (l := [_, _, _]) (Nat.le_of_ble_eq_true rfl)) (.cons (vm_lit _ rfl rfl (.cons (vm_int rfl) (.cons (vm_int rfl) (.cons (vm_int rfl) .nil)))) .nil)) | (apply call_l (first_ok (l := [_, _, _, _]) (Nat.le_of_ble_eq_true rfl)) (.cons (vm_lit _ rfl rfl (.cons (vm_int rfl) (.cons (vm_int rfl) (.cons (vm_int rfl) (.cons (vm_int rfl) .nil))))) .nil))) <;> (try (exfalso; omega; done)) <;> (with_reducible conv => whnf))
      all_goals exact ret0 vm_p
    | true =>
      obtain ⟨t3, t4, t5⟩ := t1 rfl
      obtain ⟨c1, cc, c0, c2⟩ := at_ t3
      subst ei
      subst t4 t5
      clear t1 t2 at_
      with_reducible conv => whnf
      repeat' ((first | (with_reducible refine branch_t ?_) | (with_reducible refine branch_f ?_) | (with_reducible refine branch_nt ?_) | (with_reducible refine branch_nf ?_) | (with_reducible refine branch_dec (fun _ => ?_) (fun _ => ?_)) | (with_reducible refine branch_ndec (fun _ => ?_) (fun _ => ?_)) | (with_reducible refine branch_bool (fun _ => ?_) (fun _ => ?_)) | (with_reducible refine arith_64 (by omega) ?_) | (with_reducible refine ob_i (by omega) (fun _ => ?_)) | (with_reducible refine ob_i (by unfold room; omega) (fun _ => ?_)) | (with_reducible refine ob_i (by (try simp only [] at *); (try dsimp only [toN] at *); omega) (fun _ => ?_)) | (with_reducible refine arith_64 (by (try simp only [] at *); (try dsimp only [toN] at *); omega) ?_) | (with_reducible refine ob_k rfl ?_) | ((with_reducible refine ob_k ?_ ?_); focus kernel_rfl) | (refine yield_i hmix hT rfl hL efr eps eag ebd rfl (by kernel_rfl) ?_) | (apply call_u c1) | (apply call_u c2) | (apply call_l (first_ok (l := [_, _]) (Nat.le_of_ble_eq_true rfl)) (.cons (vm_lit _ rfl rfl (.cons (vm_int rfl) (.cons (vm_int rfl) .nil))) .nil)) | (apply call_l (first_ok (l := [_, _, _]) (Nat.le_of_ble_eq_true rfl)) (.cons (vm_lit _ rfl rfl (.cons (vm_int rfl) (.cons (vm_int rfl) (.cons (vm_int rfl) .nil)))) .nil)) | (apply call_l (first_ok (l := [_, _, _, _]) (Nat.le_of_ble_eq_true rfl)) (.cons (vm_lit _ rfl rfl (.cons (vm_int rfl) (.cons (vm_int rfl) (.cons (vm_int rfl) (.cons (vm_int rfl) .nil))))) .nil))) <;> (try (exfalso; omega; done)) <;> (with_reducible conv => whnf))
      all_goals first | exact ret0 vm_p | exact ret0 (vm_bool (by simp; try omega))
end Go.Proofs.Ytdfcedndkplabaa
