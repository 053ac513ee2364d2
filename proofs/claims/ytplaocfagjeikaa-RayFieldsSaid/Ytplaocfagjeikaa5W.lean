/-
  Chapter 5: fields, spans of index squares, reflections with a field (by contract).
  Conditions: none.
-/
import Derived.Test.YtplaocfagjeikaaFs2
import Derived.Test.Ytplaocfagjeikaa5J
namespace Go.Proofs.Ytplaocfagjeikaa
open Go.RowKit Fx
/-! ### Plain -/
theorem firstF4 {a b c d : Int} : firstErr [a, b, c, d] = if a ≠ 0 then a else if b ≠ 0 then b else if c ≠ 0 then c else d := by
  simp only [firstErr]; grind
theorem firstF5 {a b c d e : Int} : firstErr [a, b, c, d, e] = if a ≠ 0 then a else if b ≠ 0 then b else if c ≠ 0 then c else if d ≠ 0 then d else e := by
  simp only [firstErr]; grind
structure Fld where
  g : Int
  lo : Int
  hi : Int
@[reducible] def eFld (x : Fld) : V := .agg [I x.g, I x.lo, I x.hi]
def fieldE (x : Fld) : Int := if ¬ (0 ≤ x.g ∧ x.g ≤ 300) ∨ ¬ (-100 ≤ x.lo ∧ x.lo ≤ 100) ∨ ¬ (-100 ≤ x.hi ∧ x.hi ≤ 100) then 2 else if x.hi < x.lo then 9 else 0
def slowE (f : Int) (x : Fld) : Int := if f ≤ x.g then 22 else 0
structure Fld.Val (x : Fld) : Prop where
  g0 : 0 ≤ x.g
  g1 : x.g ≤ 300
  l0 : -100 ≤ x.lo
  h1 : x.hi ≤ 100
  lh : x.lo ≤ x.hi
theorem fld_val {x : Fld} (h : fieldE x = 0) : x.Val := by
  unfold fieldE at h
  split at h
  · cases h
  split at h
  · cases h
  exact ⟨by omega, by omega, by omega, by omega, by omega⟩
theorem slow_val {f : Int} {x : Fld} (h : slowE f x = 0) : x.g < f := by
  unfold slowE at h
  split at h
  · cases h
  · omega
def scE (f g a : Int) : Int := f * (100 * f - a * g)
theorem sc_parts {f g a : Int} (_fv : 1 ≤ f ∧ f ≤ 3000) (hg : 0 ≤ g ∧ g ≤ 300) (ha : -100 ≤ a ∧ a ≤ 100) : -30000 ≤ a * g ∧ a * g ≤ 30000 := by
  have := prod_bd (a := a) (b := g) (A := 100) (B := 300) (by omega) (by omega)
  omega
theorem sc_bd {f g a : Int} (fv : 1 ≤ f ∧ f ≤ 3000) (hg : 0 ≤ g ∧ g ≤ 300) (ha : -100 ≤ a ∧ a ≤ 100) (h : g < f) : 1 ≤ scE f g a ∧ scE f g a ≤ 990000000 := by
  have p := sc_parts fv hg ha
  have q : a * g ≤ 100 * g := Int.mul_le_mul_of_nonneg_right ha.2 hg.1
  have r1 := Int.mul_le_mul (show 1 ≤ f by omega) (show 1 ≤ 100 * f - a * g by omega) (by omega) (by omega)
  have r2 := Int.mul_le_mul (show f ≤ 3000 by omega) (show 100 * f - a * g ≤ 330000 by omega) (by omega) (by omega)
  unfold scE
  omega
@[reducible] def eSpan (p : (Int × Int) × (Int × Int)) : V := .agg [I p.1.1, I p.1.2, I p.2.1, I p.2.2]
@[reducible] def eSpans (l : List ((Int × Int) × (Int × Int))) : V := .sl 4 l.length fun i => eSpan (l.getD i ((0, 0), (0, 0)))
def spanE (D D' q : Int) : (Int × Int) × (Int × Int) := (low (D - 100 * q) D, low (D' - 100 * q) D')
def spL (s : Sky) (f : Int) (x : Fld) : List ((Int × Int) × (Int × Int)) := s.sl.map fun p => spanE (scE f x.g x.hi) (scE f x.g x.lo) p.2
theorem spL_len (s : Sky) (f : Int) (x : Fld) : (spL s f x).length = s.sl.length := by unfold spL; simp
theorem spL_at {s : Sky} {f : Int} {x : Fld} {k : Nat} (h : k < s.sl.length) : (spL s f x).getD k ((0, 0), (0, 0)) = spanE (scE f x.g x.hi) (scE f x.g x.lo) (s.sl.getD k (0, 0)).2 := by
  unfold spL
  rw [List.getD_eq_getElem?_getD, List.getElem?_map, List.getD_eq_getElem?_getD, List.getElem?_eq_getElem h]; rfl
def spErr (s : Sky) (f : Int) (x : Fld) : Int := if skyE s ≠ 0 then skyE s else if freqE f ≠ 0 then freqE f else if fieldE x ≠ 0 then fieldE x else slowE f x
def rfErr (s : Sky) (x : Fld) (f n d : Int) : Int := if skyE s ≠ 0 then skyE s else if fieldE x ≠ 0 then fieldE x else if freqE f ≠ 0 then freqE f else if launchE n d ≠ 0 then launchE n d else slowE f x
/-- Whether a ray is reflected with a component. -/
def refB (s : Sky) (f g n d a : Int) : Bool := decide (d * (scE f g a - 100 * sqM s) ≤ n * scE f g a)
def reflE (s : Sky) (f n d : Int) (x : Fld) : Int := if refB s f x.g n d x.lo = true then if refB s f x.g n d x.hi = true then 2 else 1 else if refB s f x.g n d x.hi = true then 1 else 0
def anyK (s : Sky) (D n d : Int) : Nat → Bool
  | 0 => false
  | k + 1 => anyK s D n d k || decide ((D - 100 * (s.sl.getD k (0, 0)).2) * d ≤ n * D)
theorem any_iff {s : Sky} {D n d : Int} (hD : 1 ≤ D) (h0 : 0 ≤ n) (h1 : n < d) : ∀ k, anyK s D n d k = decide (d * (D - 100 * mxK s.sl k) ≤ n * D)
  | 0 => by
    have : n * D < d * D := Int.mul_lt_mul_of_pos_right h1 (by omega)
    rw [anyK, mxK, decide_eq_false]
    rw [show D - 100 * 0 = D by omega]; omega
  | k + 1 => by
    have ih := any_iff hD h0 h1 (s := s) k
    rw [anyK, ih, mxK]
    generalize mxK s.sl k = a
    generalize (s.sl.getD k (0, 0)).2 = b
    rw [Int.mul_comm _ d]
    have mono : ∀ u v : Int, u ≤ v → d * (D - 100 * v) ≤ d * (D - 100 * u) := fun u v h => Int.mul_le_mul_of_nonneg_left (by omega) (by omega)
    rcases Int.le_total a b with h | h
    · rw [show max a b = b by omega]
      have := mono a b h
      by_cases c : d * (D - 100 * b) ≤ n * D
      · rw [decide_eq_true c, Bool.or_true]
      · rw [decide_eq_false c, decide_eq_false (show ¬ d * (D - 100 * a) ≤ n * D by omega)]; rfl
    · rw [show max a b = a by omega]
      have := mono b a h
      by_cases c : d * (D - 100 * a) ≤ n * D
      · rw [decide_eq_true c, Bool.true_or]
      · rw [decide_eq_false c, decide_eq_false (show ¬ d * (D - 100 * b) ≤ n * D by omega)]; rfl
theorem any_ref {s : Sky} {f g n d a : Int} (hD : 1 ≤ scE f g a) (h0 : 0 ≤ n) (h1 : n < d) : anyK s (scE f g a) n d s.sl.length = refB s f g n d a := any_iff hD h0 h1 _
/-! ### Contracts -/
theorem isEnd2_ok {n : Int} : FnOK Try.prog 97 [I n] (B (decide (-100 ≤ n ∧ n ≤ 100))) [] := by
  refine fn_i hmix hT Try.f97 (by kernel_rfl) rfl (by kernel_rfl) ?_
  with_reducible conv => whnf
  repeat' ((first | (with_reducible refine branch_t ?_) | (with_reducible refine branch_f ?_) | (with_reducible refine branch_nt ?_) | (with_reducible refine branch_nf ?_) | (with_reducible refine branch_dec (fun _ => ?_) (fun _ => ?_)) | (with_reducible refine branch_ndec (fun _ => ?_) (fun _ => ?_)) | (with_reducible refine branch_bool (fun _ => ?_) (fun _ => ?_)) | (with_reducible refine arith_64 (by omega) ?_) | (with_reducible refine ob_i (by omega) (fun _ => ?_)) | (with_reducible refine ob_i (by unfold room; omega) (fun _ => ?_)) | (with_reducible refine ob_i (by (try simp only [toN_eq, Int.toNat_natCast] at *); (try dsimp only [toN] at *); omega) (fun _ => ?_)) | (with_reducible refine arith_64 (by (try simp only [toN_eq, Int.toNat_natCast] at *); (try dsimp only [toN] at *); omega) ?_) | (with_reducible refine ob_k rfl ?_) | ((with_reducible refine ob_k ?_ ?_); focus kernel_rfl) | (refine yield_i hmix hT rfl hL efr eps eag ebd rfl (by kernel_rfl) ?_) | (apply call_u within_ok) | (apply call_l (first_ok (l := [_, _]) (Nat.le_of_ble_eq_true rfl)) (.cons (vm_lit _ rfl rfl (.cons (vm_int rfl) (.cons (vm_int rfl) .nil))) .nil)) | (apply call_l (first_ok (l := [_, _, _]) (Nat.le_of_ble_eq_true rfl)) (.cons (vm_lit _ rfl rfl (.cons (vm_int rfl) (.cons (vm_int rfl) (.cons (vm_int rfl) .nil)))) .nil)) | (apply call_l (first_ok (l := [_, _, _, _]) (Nat.le_of_ble_eq_true rfl)) (.cons (vm_lit _ rfl rfl (.cons (vm_int rfl) (.cons (vm_int rfl) (.cons (vm_int rfl) (.cons (vm_int rfl) .nil))))) .nil))) <;> (try (exfalso; omega; done)) <;> (with_reducible conv => whnf))
  exact ret0 vm_p
theorem checkField_ok {x : Fld} : FnOK Try.prog 28 [eFld x] (I (fieldE x)) [] := by
  refine fn_i hmix hT Try.f28 (by kernel_rfl) rfl (by kernel_rfl) ?_
  with_reducible conv => whnf
  repeat' ((first | (with_reducible refine branch_t ?_) | (with_reducible refine branch_f ?_) | (with_reducible refine branch_nt ?_) | (with_reducible refine branch_nf ?_) | (with_reducible refine branch_dec (fun _ => ?_) (fun _ => ?_)) | (with_reducible refine branch_ndec (fun _ => ?_) (fun _ => ?_)) | (with_reducible refine branch_bool (fun _ => ?_) (fun _ => ?_)) | (with_reducible refine arith_64 (by omega) ?_) | (with_reducible refine ob_i (by omega) (fun _ => ?_)) | (with_reducible refine ob_i (by unfold room; omega) (fun _ => ?_)) | (with_reducible refine ob_i (by (try simp only [] at *); (try dsimp only [toN] at *); omega) (fun _ => ?_)) | (with_reducible refine arith_64 (by (try simp only [toN_eq, Int.toNat_natCast] at *); (try dsimp only [toN] at *); omega) ?_) | (with_reducible refine ob_k rfl ?_) | ((with_reducible refine ob_k ?_ ?_); focus kernel_rfl) | (refine yield_i hmix hT rfl hL efr eps eag ebd rfl (by kernel_rfl) ?_) | (apply call_u within_ok) | (apply call_u isEnd2_ok) | (apply call_u unless_ok) | (apply call_l (first_ok (l := [_, _]) (Nat.le_of_ble_eq_true rfl)) (.cons (vm_lit _ rfl rfl (.cons (vm_int rfl) (.cons (vm_int rfl) .nil))) .nil)) | (apply call_l (first_ok (l := [_, _]) (Nat.le_of_ble_eq_true rfl)) (.cons (vm_lit _ rfl rfl (.cons (vm_int rfl) (.cons (vm_int rfl) .nil))) .nil)) | (apply call_l (first_ok (l := [_, _, _]) (Nat.le_of_ble_eq_true rfl)) (.cons (vm_lit _ rfl rfl (.cons (vm_int rfl) (.cons (vm_int rfl) (.cons (vm_int rfl) .nil)))) .nil)) | (apply call_l (first_ok (l := [_, _, _, _]) (Nat.le_of_ble_eq_true rfl)) (.cons (vm_lit _ rfl rfl (.cons (vm_int rfl) (.cons (vm_int rfl) (.cons (vm_int rfl) (.cons (vm_int rfl) .nil))))) .nil))) <;> (try (exfalso; omega; done)) <;> (with_reducible conv => whnf))
  all_goals exact ret0 (vm_int (by rw [first_two]; unfold fieldE; grind))
theorem refFieldErr_ok {x : Fld} : FnOK Try.prog 27 [eFld x] (I (fieldE x)) [] := by
  refine fn_i hmix hT Try.f27 (by kernel_rfl) rfl (by kernel_rfl) ?_
  with_reducible conv => whnf
  repeat' ((first | (with_reducible refine branch_t ?_) | (with_reducible refine branch_f ?_) | (with_reducible refine branch_nt ?_) | (with_reducible refine branch_nf ?_) | (with_reducible refine branch_dec (fun _ => ?_) (fun _ => ?_)) | (with_reducible refine branch_ndec (fun _ => ?_) (fun _ => ?_)) | (with_reducible refine branch_bool (fun _ => ?_) (fun _ => ?_)) | (with_reducible refine arith_64 (by omega) ?_) | (with_reducible refine ob_i (by omega) (fun _ => ?_)) | (with_reducible refine ob_i (by unfold room; omega) (fun _ => ?_)) | (with_reducible refine ob_i (by (try simp only [toN_eq, Int.toNat_natCast] at *); (try dsimp only [toN] at *); omega) (fun _ => ?_)) | (with_reducible refine arith_64 (by (try simp only [toN_eq, Int.toNat_natCast] at *); (try dsimp only [toN] at *); omega) ?_) | (with_reducible refine ob_k rfl ?_) | ((with_reducible refine ob_k ?_ ?_); focus kernel_rfl) | (refine yield_i hmix hT rfl hL efr eps eag ebd rfl (by kernel_rfl) ?_) | (apply call_u bWithin_ok) | (apply call_l (first_ok (l := [_, _]) (Nat.le_of_ble_eq_true rfl)) (.cons (vm_lit _ rfl rfl (.cons (vm_int rfl) (.cons (vm_int rfl) .nil))) .nil)) | (apply call_l (first_ok (l := [_, _, _]) (Nat.le_of_ble_eq_true rfl)) (.cons (vm_lit _ rfl rfl (.cons (vm_int rfl) (.cons (vm_int rfl) (.cons (vm_int rfl) .nil)))) .nil)) | (apply call_l (first_ok (l := [_, _, _, _]) (Nat.le_of_ble_eq_true rfl)) (.cons (vm_lit _ rfl rfl (.cons (vm_int rfl) (.cons (vm_int rfl) (.cons (vm_int rfl) (.cons (vm_int rfl) .nil))))) .nil))) <;> (try (exfalso; omega; done)) <;> (with_reducible conv => whnf))
  all_goals exact ret0 (vm_int (by unfold fieldE; grind))
theorem refSlowErr_ok {f : Int} {x : Fld} : FnOK Try.prog 29 [I f, eFld x] (I (slowE f x)) [] := by
  refine fn_i hmix hT Try.f29 (by kernel_rfl) rfl (by kernel_rfl) ?_
  with_reducible conv => whnf
  repeat' ((first | (with_reducible refine branch_t ?_) | (with_reducible refine branch_f ?_) | (with_reducible refine branch_nt ?_) | (with_reducible refine branch_nf ?_) | (with_reducible refine branch_dec (fun _ => ?_) (fun _ => ?_)) | (with_reducible refine branch_ndec (fun _ => ?_) (fun _ => ?_)) | (with_reducible refine branch_bool (fun _ => ?_) (fun _ => ?_)) | (with_reducible refine arith_64 (by omega) ?_) | (with_reducible refine ob_i (by omega) (fun _ => ?_)) | (with_reducible refine ob_i (by unfold room; omega) (fun _ => ?_)) | (with_reducible refine ob_i (by (try simp only [toN_eq, Int.toNat_natCast] at *); (try dsimp only [toN] at *); omega) (fun _ => ?_)) | (with_reducible refine arith_64 (by (try simp only [toN_eq, Int.toNat_natCast] at *); (try dsimp only [toN] at *); omega) ?_) | (with_reducible refine ob_k rfl ?_) | ((with_reducible refine ob_k ?_ ?_); focus kernel_rfl) | (refine yield_i hmix hT rfl hL efr eps eag ebd rfl (by kernel_rfl) ?_)  | (apply call_l (first_ok (l := [_, _]) (Nat.le_of_ble_eq_true rfl)) (.cons (vm_lit _ rfl rfl (.cons (vm_int rfl) (.cons (vm_int rfl) .nil))) .nil)) | (apply call_l (first_ok (l := [_, _, _]) (Nat.le_of_ble_eq_true rfl)) (.cons (vm_lit _ rfl rfl (.cons (vm_int rfl) (.cons (vm_int rfl) (.cons (vm_int rfl) .nil)))) .nil)) | (apply call_l (first_ok (l := [_, _, _, _]) (Nat.le_of_ble_eq_true rfl)) (.cons (vm_lit _ rfl rfl (.cons (vm_int rfl) (.cons (vm_int rfl) (.cons (vm_int rfl) (.cons (vm_int rfl) .nil))))) .nil))) <;> (try (exfalso; omega; done)) <;> (with_reducible conv => whnf))
  all_goals exact ret0 (vm_int (by unfold slowE; grind))
theorem scale_ok {f g a : Int} (fv : 1 ≤ f ∧ f ≤ 3000) (hg : 0 ≤ g ∧ g ≤ 300) (ha : -100 ≤ a ∧ a ≤ 100) (h : g < f) : FnOK Try.prog 93 [I f, I g, I a] (I (scE f g a)) [] := by
  have p := sc_parts fv hg ha
  have b := sc_bd fv hg ha h
  unfold scE at *
  refine fn_i hmix hT Try.f93 (by kernel_rfl) rfl (by kernel_rfl) ?_
  with_reducible conv => whnf
  repeat' ((first | (with_reducible refine branch_t ?_) | (with_reducible refine branch_f ?_) | (with_reducible refine branch_nt ?_) | (with_reducible refine branch_nf ?_) | (with_reducible refine branch_dec (fun _ => ?_) (fun _ => ?_)) | (with_reducible refine branch_ndec (fun _ => ?_) (fun _ => ?_)) | (with_reducible refine branch_bool (fun _ => ?_) (fun _ => ?_)) | (with_reducible refine arith_64 (by omega) ?_) | (with_reducible refine ob_i (by omega) (fun _ => ?_)) | (with_reducible refine ob_i (by unfold room; omega) (fun _ => ?_)) | (with_reducible refine ob_i (by (try simp only [toN_eq, Int.toNat_natCast] at *); (try dsimp only [toN] at *); omega) (fun _ => ?_)) | (with_reducible refine arith_64 (by (try simp only [toN_eq, Int.toNat_natCast] at *); (try dsimp only [toN] at *); omega) ?_) | (with_reducible refine ob_k rfl ?_) | ((with_reducible refine ob_k ?_ ?_); focus kernel_rfl) | (refine yield_i hmix hT rfl hL efr eps eag ebd rfl (by kernel_rfl) ?_)  | (apply call_l (first_ok (l := [_, _]) (Nat.le_of_ble_eq_true rfl)) (.cons (vm_lit _ rfl rfl (.cons (vm_int rfl) (.cons (vm_int rfl) .nil))) .nil)) | (apply call_l (first_ok (l := [_, _, _]) (Nat.le_of_ble_eq_true rfl)) (.cons (vm_lit _ rfl rfl (.cons (vm_int rfl) (.cons (vm_int rfl) (.cons (vm_int rfl) .nil)))) .nil)) | (apply call_l (first_ok (l := [_, _, _, _]) (Nat.le_of_ble_eq_true rfl)) (.cons (vm_lit _ rfl rfl (.cons (vm_int rfl) (.cons (vm_int rfl) (.cons (vm_int rfl) (.cons (vm_int rfl) .nil))))) .nil))) <;> (try (exfalso; omega; done)) <;> (with_reducible conv => whnf))
  exact ret0 vm_p
theorem slow_if {f : Int} {x : Fld} : (if decide (x.g < f) = true then (0 : Int) else 22) = slowE f x := by
  unfold slowE; grind
theorem indexSpans_bad {s : Sky} {f : Int} {x : Fld} (hs : s.sl.length ≤ 9223372036854775807) (h : spErr s f x ≠ 0) : FnOK Try.prog 25 [eSky s, I f, eFld x] (.tup [eSpans [], I (spErr s f x)]) [] := by
  have F := first_ok (l := [skyE s, freqE f, fieldE x, if decide (x.g < f) = true then 0 else 22]) (by simp)
  rw [show firstErr [skyE s, freqE f, fieldE x, if decide (x.g < f) = true then 0 else 22] = spErr s f x by rw [slow_if]; exact firstF4] at F
  refine fn_i hmix hT Try.f25 (by kernel_rfl) rfl (by kernel_rfl) ?_
  with_reducible conv => whnf
  repeat' ((first | (with_reducible refine branch_t ?_) | (with_reducible refine branch_f ?_) | (with_reducible refine branch_nt ?_) | (with_reducible refine branch_nf ?_) | (with_reducible refine branch_dec (fun _ => ?_) (fun _ => ?_)) | (with_reducible refine branch_ndec (fun _ => ?_) (fun _ => ?_)) | (with_reducible refine branch_bool (fun _ => ?_) (fun _ => ?_)) | (with_reducible refine arith_64 (by omega) ?_) | (with_reducible refine ob_i (by omega) (fun _ => ?_)) | (with_reducible refine ob_i (by unfold room; omega) (fun _ => ?_)) | (with_reducible refine ob_i (by (try simp only [] at *); (try dsimp only [toN] at *); omega) (fun _ => ?_)) | (with_reducible refine arith_64 (by (try simp only [toN_eq, Int.toNat_natCast] at *); (try dsimp only [toN] at *); omega) ?_) | (with_reducible refine ob_k rfl ?_) | ((with_reducible refine ob_k ?_ ?_); focus kernel_rfl) | (refine yield_i hmix hT rfl hL efr eps eag ebd rfl (by kernel_rfl) ?_) | (apply call_u (skyErr_ok hs)) | (apply call_u freqErr_ok) | (apply call_u checkField_ok) | (apply call_u unless_ok) | (apply call_l F (.cons (vm_lit _ rfl rfl (.cons (vm_int rfl) (.cons (vm_int rfl) (.cons (vm_int rfl) (.cons (vm_int rfl) .nil))))) .nil)) | (apply call_l (first_ok (l := [_, _]) (Nat.le_of_ble_eq_true rfl)) (.cons (vm_lit _ rfl rfl (.cons (vm_int rfl) (.cons (vm_int rfl) .nil))) .nil)) | (apply call_l (first_ok (l := [_, _, _]) (Nat.le_of_ble_eq_true rfl)) (.cons (vm_lit _ rfl rfl (.cons (vm_int rfl) (.cons (vm_int rfl) (.cons (vm_int rfl) .nil)))) .nil)) | (apply call_l (first_ok (l := [_, _, _, _]) (Nat.le_of_ble_eq_true rfl)) (.cons (vm_lit _ rfl rfl (.cons (vm_int rfl) (.cons (vm_int rfl) (.cons (vm_int rfl) (.cons (vm_int rfl) .nil))))) .nil))) <;> (try (exfalso; omega; done)) <;> (with_reducible conv => whnf))
  exact ret0 (vm_tup (.cons (vm_nilsl rfl) (.cons vm_p .nil)))
set_option maxHeartbeats 4000000 in
theorem indexSpans_good {s : Sky} {f : Int} {x : Fld} (h : spErr s f x = 0) : FnOK Try.prog 25 [eSky s, I f, eFld x] (.tup [eSpans (spL s f x), I 0]) [] := by
  have z : skyE s = 0 ∧ freqE f = 0 ∧ fieldE x = 0 ∧ slowE f x = 0 := by unfold spErr at h; grind
  have v := sky_val z.1
  have fv := freq_val z.2.1
  have xv := fld_val z.2.2.1
  have sv := slow_val z.2.2.2
  have n1 := v.n1
  have F := first_ok (l := [skyE s, freqE f, fieldE x, if decide (x.g < f) = true then 0 else 22]) (by simp)
  rw [show firstErr [skyE s, freqE f, fieldE x, if decide (x.g < f) = true then 0 else 22] = spErr s f x by rw [slow_if]; exact firstF4, h] at F
  have x1 := xv.g0; have x2 := xv.g1; have x3 := xv.l0; have x4 := xv.h1; have x5 := xv.lh
  have b1 := sc_bd (a := x.hi) fv (by omega) (by omega) sv
  have b2 := sc_bd (a := x.lo) fv (by omega) (by omega) sv
  have S1 := scale_ok (a := x.hi) fv (g := x.g) (by omega) (by omega) sv
  have S2 := scale_ok (a := x.lo) fv (g := x.g) (by omega) (by omega) sv
  clear z h
  refine fn_i hmix hT Try.f25 (by kernel_rfl) rfl (by kernel_rfl) ?_
  with_reducible conv => whnf
  repeat' ((first | (with_reducible refine branch_t ?_) | (with_reducible refine branch_f ?_) | (with_reducible refine branch_nt ?_) | (with_reducible refine branch_nf ?_) | (with_reducible refine branch_dec (fun _ => ?_) (fun _ => ?_)) | (with_reducible refine branch_ndec (fun _ => ?_) (fun _ => ?_)) | (with_reducible refine branch_bool (fun _ => ?_) (fun _ => ?_)) | (with_reducible refine arith_64 (by omega) ?_) | (with_reducible refine ob_i (by omega) (fun _ => ?_)) | (with_reducible refine ob_i (by unfold room; omega) (fun _ => ?_)) | (with_reducible refine ob_i (by (try simp only [] at *); (try dsimp only [toN] at *); omega) (fun _ => ?_)) | (with_reducible refine arith_64 (by (try simp only [toN_eq, Int.toNat_natCast] at *); (try dsimp only [toN] at *); omega) ?_) | (with_reducible refine ob_k rfl ?_) | ((with_reducible refine ob_k ?_ ?_); focus kernel_rfl) | (refine yield_i hmix hT rfl hL efr eps eag ebd rfl (by kernel_rfl) ?_) | (apply call_u (skyErr_ok (s := s) (by omega))) | (apply call_u freqErr_ok) | (apply call_u checkField_ok) | (apply call_u unless_ok) | (apply call_l F (.cons (vm_lit _ rfl rfl (.cons (vm_int rfl) (.cons (vm_int rfl) (.cons (vm_int rfl) (.cons (vm_int rfl) .nil))))) .nil)) | (apply call_u S1) | (apply call_u S2) | (apply call_l (first_ok (l := [_, _]) (Nat.le_of_ble_eq_true rfl)) (.cons (vm_lit _ rfl rfl (.cons (vm_int rfl) (.cons (vm_int rfl) .nil))) .nil)) | (apply call_l (first_ok (l := [_, _, _]) (Nat.le_of_ble_eq_true rfl)) (.cons (vm_lit _ rfl rfl (.cons (vm_int rfl) (.cons (vm_int rfl) (.cons (vm_int rfl) .nil)))) .nil)) | (apply call_l (first_ok (l := [_, _, _, _]) (Nat.le_of_ble_eq_true rfl)) (.cons (vm_lit _ rfl rfl (.cons (vm_int rfl) (.cons (vm_int rfl) (.cons (vm_int rfl) (.cons (vm_int rfl) .nil))))) .nil))) <;> (try (exfalso; omega; done)) <;> (with_reducible conv => whnf))
  refine loop_i hmix hT (fun k : Nat => ([(9, I (scE f x.g x.hi)), (10, I (scE f x.g x.lo)), (11, .own 0 4 0 k), (46, eSlabs s.sl), (47, I s.sl.length), (48, I k)], ⟨1, [(0, .row 4 k (fun i => eSpan ((spL s f x).getD i ((0, 0), (0, 0)))) 115)]⟩)) (fun k => k ≤ s.sl.length) (fun k => s.sl.length - k) 0 (by omega) ?_ ?_
  · refine ⟨[(0, none)], rfl, ?_, ?_⟩ <;> repeat' (first | exact trivial | exact vm_p | exact vm_ptr rfl rfl rfl | exact vm_yld rfl rfl | exact vm_own rfl rfl rfl rfl | exact vm_own rfl rfl (by omega) (by omega) | exact vm_int (by omega) | exact vm_nil rfl | exact sbm_cells vmL_p | exact sbm_row rfl (fun _ _ => vm_p) | refine ⟨⟨_, rfl, ?_⟩, ?_⟩ | refine ⟨⟨_, _, _, rfl⟩, ?_⟩ | (refine sbm_loop ?_; rw [efr]) | refine sbm_cells ?_ | refine vmL.cons ?_ ?_ | exact vmL.nil | refine vm_own rfl rfl rfl ?_)
  intro k hk
  by_cases hk2 : k < s.sl.length
  · have hq := v.q k hk2
    have tq : (s.sl.getD (toN (k : Int)) (0, 0)) = s.sl.getD k (0, 0) := by rw [toN_eq]; rfl
    rw [← tq] at hq
    have FR1 := fraction_ok (a := scE f x.g x.hi - 100 * (s.sl.getD (toN (k : Int)) (0, 0)).2) (b := scE f x.g x.hi) (by omega) (by omega)
    have FR2 := fraction_ok (a := scE f x.g x.lo - 100 * (s.sl.getD (toN (k : Int)) (0, 0)).2) (b := scE f x.g x.lo) (by omega) (by omega)
    with_reducible conv => whnf
    repeat' ((first | (with_reducible refine branch_t ?_) | (with_reducible refine branch_f ?_) | (with_reducible refine branch_nt ?_) | (with_reducible refine branch_nf ?_) | (with_reducible refine branch_dec (fun _ => ?_) (fun _ => ?_)) | (with_reducible refine branch_ndec (fun _ => ?_) (fun _ => ?_)) | (with_reducible refine branch_bool (fun _ => ?_) (fun _ => ?_)) | (with_reducible refine arith_64 (by omega) ?_) | (with_reducible refine ob_i (by omega) (fun _ => ?_)) | (with_reducible refine ob_i (by unfold room; omega) (fun _ => ?_)) | (with_reducible refine ob_i (by (try simp only [] at *); (try dsimp only [toN] at *); omega) (fun _ => ?_)) | (with_reducible refine arith_64 (by (try simp only [] at *); (try dsimp only [toN] at *); omega) ?_) | (with_reducible refine ob_k rfl ?_) | ((with_reducible refine ob_k ?_ ?_); focus kernel_rfl) | (refine yield_i hmix hT rfl hL efr eps eag ebd rfl (by kernel_rfl) ?_) | (apply call_u FR1) | (apply call_u FR2) | (apply call_l (first_ok (l := [_, _]) (Nat.le_of_ble_eq_true rfl)) (.cons (vm_lit _ rfl rfl (.cons (vm_int rfl) (.cons (vm_int rfl) .nil))) .nil)) | (apply call_l (first_ok (l := [_, _, _]) (Nat.le_of_ble_eq_true rfl)) (.cons (vm_lit _ rfl rfl (.cons (vm_int rfl) (.cons (vm_int rfl) (.cons (vm_int rfl) .nil)))) .nil)) | (apply call_l (first_ok (l := [_, _, _, _]) (Nat.le_of_ble_eq_true rfl)) (.cons (vm_lit _ rfl rfl (.cons (vm_int rfl) (.cons (vm_int rfl) (.cons (vm_int rfl) (.cons (vm_int rfl) .nil))))) .nil))) <;> (try (exfalso; omega; done)) <;> (with_reducible conv => whnf))
    refine ⟨k + 1, by omega, by omega, ?_⟩
    refine ⟨[(0, some 3)], rfl, ?_, ?_⟩ <;> repeat' (first | exact trivial | exact vm_p | exact vm_ptr rfl rfl rfl | exact vm_yld rfl rfl | exact vm_own rfl rfl rfl rfl | exact vm_own rfl rfl (by omega) (by omega) | exact vm_int (by omega) | exact vm_nil rfl | exact sbm_cells vmL_p | exact sbm_row rfl (fun _ _ => vm_p) | refine ⟨⟨_, rfl, ?_⟩, ?_⟩ | refine ⟨⟨_, _, _, rfl⟩, ?_⟩ | (refine sbm_loop ?_; rw [efr]) | refine sbm_cells ?_ | refine vmL.cons ?_ ?_ | exact vmL.nil | refine vm_own rfl rfl rfl ?_)
    refine sbm_row rfl fun i hi => vm_snoc (e' := fun i => eSpan ((spL s f x).getD i ((0, 0), (0, 0)))) hi (fun _ _ => vm_p) ?_
    dsimp only
    rw [spL_at hk2, ← tq]
    exact vm_p
  · obtain rfl : k = s.sl.length := by omega
    with_reducible conv => whnf
    repeat' ((first | (with_reducible refine branch_t ?_) | (with_reducible refine branch_f ?_) | (with_reducible refine branch_nt ?_) | (with_reducible refine branch_nf ?_) | (with_reducible refine branch_dec (fun _ => ?_) (fun _ => ?_)) | (with_reducible refine branch_ndec (fun _ => ?_) (fun _ => ?_)) | (with_reducible refine branch_bool (fun _ => ?_) (fun _ => ?_)) | (with_reducible refine arith_64 (by omega) ?_) | (with_reducible refine ob_i (by omega) (fun _ => ?_)) | (with_reducible refine ob_i (by unfold room; omega) (fun _ => ?_)) | (with_reducible refine ob_i (by (try simp only [toN_eq, Int.toNat_natCast] at *); (try dsimp only [toN] at *); omega) (fun _ => ?_)) | (with_reducible refine arith_64 (by (try simp only [toN_eq, Int.toNat_natCast] at *); (try dsimp only [toN] at *); omega) ?_) | (with_reducible refine ob_k rfl ?_) | ((with_reducible refine ob_k ?_ ?_); focus kernel_rfl) | (refine yield_i hmix hT rfl hL efr eps eag ebd rfl (by kernel_rfl) ?_)  | (apply call_l (first_ok (l := [_, _]) (Nat.le_of_ble_eq_true rfl)) (.cons (vm_lit _ rfl rfl (.cons (vm_int rfl) (.cons (vm_int rfl) .nil))) .nil)) | (apply call_l (first_ok (l := [_, _, _]) (Nat.le_of_ble_eq_true rfl)) (.cons (vm_lit _ rfl rfl (.cons (vm_int rfl) (.cons (vm_int rfl) (.cons (vm_int rfl) .nil)))) .nil)) | (apply call_l (first_ok (l := [_, _, _, _]) (Nat.le_of_ble_eq_true rfl)) (.cons (vm_lit _ rfl rfl (.cons (vm_int rfl) (.cons (vm_int rfl) (.cons (vm_int rfl) (.cons (vm_int rfl) .nil))))) .nil))) <;> (try (exfalso; omega; done)) <;> (with_reducible conv => whnf))
    refine ret0 (vm_tup (.cons (vm_fr rfl rfl (spL_len s f x).symm (Nat.le_refl _) fun _ _ => vm_p) (.cons vm_p .nil)))
theorem refIndex_ok {f q : Int} {x : Fld} {a : Int} (fv : 1 ≤ f ∧ f ≤ 3000) (xv : x.Val) (ha : -100 ≤ a ∧ a ≤ 100) (h : x.g < f) (hq : 0 ≤ q ∧ q ≤ 9000000) : FnOK Try.prog 98 [I q, I f, eFld x, I a] (eFrac (low (scE f x.g a - 100 * q) (scE f x.g a))) [] := by
  have x1 := xv.g0; have x2 := xv.g1
  have b := sc_bd fv ⟨x1, x2⟩ ha h
  have sb := sq_bd fv
  have p1 := prod_bd (a := a) (b := f) (A := 100) (B := 3000) (by omega) (by omega)
  have p2 := prod_bd (a := a * f) (b := x.g) (A := 300000) (B := 300) (by omega) (by omega)
  have e : scE f x.g a = 100 * f * f - a * f * x.g := by unfold scE; grind
  have e2 : 100 * f * f = 100 * (f * f) := by grind
  have L := lowest_ok (a := scE f x.g a - 100 * q) (b := scE f x.g a) (by omega) (by omega)
  rw [e] at L b ⊢
  refine fn_i hmix hT Try.f98 (by kernel_rfl) rfl (by kernel_rfl) ?_
  with_reducible conv => whnf
  repeat' ((first | (with_reducible refine branch_t ?_) | (with_reducible refine branch_f ?_) | (with_reducible refine branch_nt ?_) | (with_reducible refine branch_nf ?_) | (with_reducible refine branch_dec (fun _ => ?_) (fun _ => ?_)) | (with_reducible refine branch_ndec (fun _ => ?_) (fun _ => ?_)) | (with_reducible refine branch_bool (fun _ => ?_) (fun _ => ?_)) | (with_reducible refine arith_64 (by omega) ?_) | (with_reducible refine ob_i (by omega) (fun _ => ?_)) | (with_reducible refine ob_i (by unfold room; omega) (fun _ => ?_)) | (with_reducible refine ob_i (by (try simp only [toN_eq, Int.toNat_natCast] at *); (try dsimp only [toN] at *); omega) (fun _ => ?_)) | (with_reducible refine arith_64 (by (try simp only [toN_eq, Int.toNat_natCast] at *); (try dsimp only [toN] at *); omega) ?_) | (with_reducible refine ob_k rfl ?_) | ((with_reducible refine ob_k ?_ ?_); focus kernel_rfl) | (refine yield_i hmix hT rfl hL efr eps eag ebd rfl (by kernel_rfl) ?_) | (apply call_u L) | (apply call_l (first_ok (l := [_, _]) (Nat.le_of_ble_eq_true rfl)) (.cons (vm_lit _ rfl rfl (.cons (vm_int rfl) (.cons (vm_int rfl) .nil))) .nil)) | (apply call_l (first_ok (l := [_, _, _]) (Nat.le_of_ble_eq_true rfl)) (.cons (vm_lit _ rfl rfl (.cons (vm_int rfl) (.cons (vm_int rfl) (.cons (vm_int rfl) .nil)))) .nil)) | (apply call_l (first_ok (l := [_, _, _, _]) (Nat.le_of_ble_eq_true rfl)) (.cons (vm_lit _ rfl rfl (.cons (vm_int rfl) (.cons (vm_int rfl) (.cons (vm_int rfl) (.cons (vm_int rfl) .nil))))) .nil))) <;> (try (exfalso; omega; done)) <;> (with_reducible conv => whnf))
  exact ret0 vm_p
set_option maxHeartbeats 4000000 in
theorem refSpans_ok {s : Sky} {f : Int} {x : Fld} (v : s.Val) (fv : 1 ≤ f ∧ f ≤ 3000) (xv : x.Val) (sv : x.g < f) : FnOK Try.prog 31 [eSky s, I f, eFld x] (eSpans (spL s f x)) [] := by
  have n1 := v.n1
  have x3 := xv.l0; have x4 := xv.h1; have x5 := xv.lh
  refine fn_i hmix hT Try.f31 (by kernel_rfl) rfl (by kernel_rfl) ?_
  with_reducible conv => whnf
  repeat' ((first | (with_reducible refine branch_t ?_) | (with_reducible refine branch_f ?_) | (with_reducible refine branch_nt ?_) | (with_reducible refine branch_nf ?_) | (with_reducible refine branch_dec (fun _ => ?_) (fun _ => ?_)) | (with_reducible refine branch_ndec (fun _ => ?_) (fun _ => ?_)) | (with_reducible refine branch_bool (fun _ => ?_) (fun _ => ?_)) | (with_reducible refine arith_64 (by omega) ?_) | (with_reducible refine ob_i (by omega) (fun _ => ?_)) | (with_reducible refine ob_i (by unfold room; omega) (fun _ => ?_)) | (with_reducible refine ob_i (by (try simp only [toN_eq, Int.toNat_natCast] at *); (try dsimp only [toN] at *); omega) (fun _ => ?_)) | (with_reducible refine arith_64 (by (try simp only [toN_eq, Int.toNat_natCast] at *); (try dsimp only [toN] at *); omega) ?_) | (with_reducible refine ob_k rfl ?_) | ((with_reducible refine ob_k ?_ ?_); focus kernel_rfl) | (refine yield_i hmix hT rfl hL efr eps eag ebd rfl (by kernel_rfl) ?_)  | (apply call_l (first_ok (l := [_, _]) (Nat.le_of_ble_eq_true rfl)) (.cons (vm_lit _ rfl rfl (.cons (vm_int rfl) (.cons (vm_int rfl) .nil))) .nil)) | (apply call_l (first_ok (l := [_, _, _]) (Nat.le_of_ble_eq_true rfl)) (.cons (vm_lit _ rfl rfl (.cons (vm_int rfl) (.cons (vm_int rfl) (.cons (vm_int rfl) .nil)))) .nil)) | (apply call_l (first_ok (l := [_, _, _, _]) (Nat.le_of_ble_eq_true rfl)) (.cons (vm_lit _ rfl rfl (.cons (vm_int rfl) (.cons (vm_int rfl) (.cons (vm_int rfl) (.cons (vm_int rfl) .nil))))) .nil))) <;> (try (exfalso; omega; done)) <;> (with_reducible conv => whnf))
  refine loop_i hmix hT (fun k : Nat => ([(1, I f), (3, .ptr 0 0), (5, .ptr 1 0), (7, .own 2 4 0 k), (8, I k)], ⟨3, [(2, .row 4 k (fun i => eSpan ((spL s f x).getD i ((0, 0), (0, 0)))) 115), (1, .cells [I x.g, I x.lo, I x.hi] 48), (0, .cells [I s.h, eSlabs s.sl] 24)]⟩)) (fun k => k ≤ s.sl.length) (fun k => s.sl.length - k) 0 (by omega) ?_ ?_
  · refine ⟨[(2, none)], rfl, ?_, ?_⟩ <;> repeat' (first | exact trivial | exact vm_p | exact vm_ptr rfl rfl rfl | exact vm_yld rfl rfl | exact vm_own rfl rfl rfl rfl | exact vm_own rfl rfl (by omega) (by omega) | exact vm_int (by omega) | exact vm_nil rfl | exact sbm_cells vmL_p | exact sbm_row rfl (fun _ _ => vm_p) | refine ⟨⟨_, rfl, ?_⟩, ?_⟩ | refine ⟨⟨_, _, _, rfl⟩, ?_⟩ | (refine sbm_loop ?_; rw [efr]) | refine sbm_cells ?_ | refine vmL.cons ?_ ?_ | exact vmL.nil | refine vm_own rfl rfl rfl ?_)
  intro k hk
  by_cases hk2 : k < s.sl.length
  · have hq := v.q k hk2
    have tq : (s.sl.getD (toN (k : Int)) (0, 0)) = s.sl.getD k (0, 0) := by rw [toN_eq]; rfl
    rw [← tq] at hq
    have FR1 := refIndex_ok (a := x.hi) fv xv (by omega) sv hq
    have FR2 := refIndex_ok (a := x.lo) fv xv (by omega) sv hq
    with_reducible conv => whnf
    repeat' ((first | (with_reducible refine branch_t ?_) | (with_reducible refine branch_f ?_) | (with_reducible refine branch_nt ?_) | (with_reducible refine branch_nf ?_) | (with_reducible refine branch_dec (fun _ => ?_) (fun _ => ?_)) | (with_reducible refine branch_ndec (fun _ => ?_) (fun _ => ?_)) | (with_reducible refine branch_bool (fun _ => ?_) (fun _ => ?_)) | (with_reducible refine arith_64 (by omega) ?_) | (with_reducible refine ob_i (by omega) (fun _ => ?_)) | (with_reducible refine ob_i (by unfold room; omega) (fun _ => ?_)) | (with_reducible refine ob_i (by (try simp only [] at *); (try dsimp only [toN] at *); omega) (fun _ => ?_)) | (with_reducible refine arith_64 (by (try simp only [] at *); (try dsimp only [toN] at *); omega) ?_) | (with_reducible refine ob_k rfl ?_) | ((with_reducible refine ob_k ?_ ?_); focus kernel_rfl) | (refine yield_i hmix hT rfl hL efr eps eag ebd rfl (by kernel_rfl) ?_) | (apply call_u FR1) | (apply call_u FR2) | (apply call_l (first_ok (l := [_, _]) (Nat.le_of_ble_eq_true rfl)) (.cons (vm_lit _ rfl rfl (.cons (vm_int rfl) (.cons (vm_int rfl) .nil))) .nil)) | (apply call_l (first_ok (l := [_, _, _]) (Nat.le_of_ble_eq_true rfl)) (.cons (vm_lit _ rfl rfl (.cons (vm_int rfl) (.cons (vm_int rfl) (.cons (vm_int rfl) .nil)))) .nil)) | (apply call_l (first_ok (l := [_, _, _, _]) (Nat.le_of_ble_eq_true rfl)) (.cons (vm_lit _ rfl rfl (.cons (vm_int rfl) (.cons (vm_int rfl) (.cons (vm_int rfl) (.cons (vm_int rfl) .nil))))) .nil))) <;> (try (exfalso; omega; done)) <;> (with_reducible conv => whnf))
    refine ⟨k + 1, by omega, by omega, ?_⟩
    refine ⟨[(2, some 4)], rfl, ?_, ?_⟩ <;> repeat' (first | exact trivial | exact vm_p | exact vm_ptr rfl rfl rfl | exact vm_yld rfl rfl | exact vm_own rfl rfl rfl rfl | exact vm_own rfl rfl (by omega) (by omega) | exact vm_int (by omega) | exact vm_nil rfl | exact sbm_cells vmL_p | exact sbm_row rfl (fun _ _ => vm_p) | refine ⟨⟨_, rfl, ?_⟩, ?_⟩ | refine ⟨⟨_, _, _, rfl⟩, ?_⟩ | (refine sbm_loop ?_; rw [efr]) | refine sbm_cells ?_ | refine vmL.cons ?_ ?_ | exact vmL.nil | refine vm_own rfl rfl rfl ?_)
    refine sbm_row rfl fun i hi => vm_snoc (e' := fun i => eSpan ((spL s f x).getD i ((0, 0), (0, 0)))) hi (fun _ _ => vm_p) ?_
    dsimp only
    rw [spL_at hk2, ← tq]
    exact vm_p
  · obtain rfl : k = s.sl.length := by omega
    with_reducible conv => whnf
    repeat' ((first | (with_reducible refine branch_t ?_) | (with_reducible refine branch_f ?_) | (with_reducible refine branch_nt ?_) | (with_reducible refine branch_nf ?_) | (with_reducible refine branch_dec (fun _ => ?_) (fun _ => ?_)) | (with_reducible refine branch_ndec (fun _ => ?_) (fun _ => ?_)) | (with_reducible refine branch_bool (fun _ => ?_) (fun _ => ?_)) | (with_reducible refine arith_64 (by omega) ?_) | (with_reducible refine ob_i (by omega) (fun _ => ?_)) | (with_reducible refine ob_i (by unfold room; omega) (fun _ => ?_)) | (with_reducible refine ob_i (by (try simp only [toN_eq, Int.toNat_natCast] at *); (try dsimp only [toN] at *); omega) (fun _ => ?_)) | (with_reducible refine arith_64 (by (try simp only [toN_eq, Int.toNat_natCast] at *); (try dsimp only [toN] at *); omega) ?_) | (with_reducible refine ob_k rfl ?_) | ((with_reducible refine ob_k ?_ ?_); focus kernel_rfl) | (refine yield_i hmix hT rfl hL efr eps eag ebd rfl (by kernel_rfl) ?_)  | (apply call_l (first_ok (l := [_, _]) (Nat.le_of_ble_eq_true rfl)) (.cons (vm_lit _ rfl rfl (.cons (vm_int rfl) (.cons (vm_int rfl) .nil))) .nil)) | (apply call_l (first_ok (l := [_, _, _]) (Nat.le_of_ble_eq_true rfl)) (.cons (vm_lit _ rfl rfl (.cons (vm_int rfl) (.cons (vm_int rfl) (.cons (vm_int rfl) .nil)))) .nil)) | (apply call_l (first_ok (l := [_, _, _, _]) (Nat.le_of_ble_eq_true rfl)) (.cons (vm_lit _ rfl rfl (.cons (vm_int rfl) (.cons (vm_int rfl) (.cons (vm_int rfl) (.cons (vm_int rfl) .nil))))) .nil))) <;> (try (exfalso; omega; done)) <;> (with_reducible conv => whnf))
    refine ret0 (vm_fr rfl rfl (spL_len s f x).symm (Nat.le_refl _) fun _ _ => vm_p)
set_option maxRecDepth 100000 in
theorem sameSpans_ok {l : List ((Int × Int) × (Int × Int))} (hl : l.length ≤ 100000) : FnOK Try.prog 30 [eSpans l, eSpans l] (B true) [] := by
  refine fn_i hmix hT Try.f30 (by kernel_rfl) rfl (by kernel_rfl) ?_
  with_reducible conv => whnf
  repeat' ((first | (with_reducible refine branch_t ?_) | (with_reducible refine branch_f ?_) | (with_reducible refine branch_nt ?_) | (with_reducible refine branch_nf ?_) | (with_reducible refine branch_dec (fun _ => ?_) (fun _ => ?_)) | (with_reducible refine branch_ndec (fun _ => ?_) (fun _ => ?_)) | (with_reducible refine branch_bool (fun _ => ?_) (fun _ => ?_)) | (with_reducible refine arith_64 (by omega) ?_) | (with_reducible refine ob_i (by omega) (fun _ => ?_)) | (with_reducible refine ob_i (by unfold room; omega) (fun _ => ?_)) | (with_reducible refine ob_i (by (try simp only [toN_eq, Int.toNat_natCast] at *); (try dsimp only [toN] at *); omega) (fun _ => ?_)) | (with_reducible refine arith_64 (by (try simp only [toN_eq, Int.toNat_natCast] at *); (try dsimp only [toN] at *); omega) ?_) | (with_reducible refine ob_k rfl ?_) | ((with_reducible refine ob_k ?_ ?_); focus kernel_rfl) | (refine yield_i hmix hT rfl hL efr eps eag ebd rfl (by kernel_rfl) ?_)  | (apply call_l (first_ok (l := [_, _]) (Nat.le_of_ble_eq_true rfl)) (.cons (vm_lit _ rfl rfl (.cons (vm_int rfl) (.cons (vm_int rfl) .nil))) .nil)) | (apply call_l (first_ok (l := [_, _, _]) (Nat.le_of_ble_eq_true rfl)) (.cons (vm_lit _ rfl rfl (.cons (vm_int rfl) (.cons (vm_int rfl) (.cons (vm_int rfl) .nil)))) .nil)) | (apply call_l (first_ok (l := [_, _, _, _]) (Nat.le_of_ble_eq_true rfl)) (.cons (vm_lit _ rfl rfl (.cons (vm_int rfl) (.cons (vm_int rfl) (.cons (vm_int rfl) (.cons (vm_int rfl) .nil))))) .nil))) <;> (try (exfalso; omega; done)) <;> (with_reducible conv => whnf))
  refine loop_i hmix hT (fun k : Nat => ([(0, eSpans l), (1, eSpans l), (5, I k)], ⟨0, []⟩)) (fun k => k ≤ l.length) (fun k => l.length - k) 0 (by omega) ?_ ?_
  · refine ⟨[], rfl, ?_, ?_⟩ <;> repeat' (first | exact trivial | exact vm_p | exact vm_ptr rfl rfl rfl | exact vm_yld rfl rfl | exact vm_own rfl rfl rfl rfl | exact vm_own rfl rfl (by omega) (by omega) | exact vm_int (by omega) | exact vm_nil rfl | exact sbm_cells vmL_p | exact sbm_row rfl (fun _ _ => vm_p) | refine ⟨⟨_, rfl, ?_⟩, ?_⟩ | refine ⟨⟨_, _, _, rfl⟩, ?_⟩ | (refine sbm_loop ?_; rw [efr]) | refine sbm_cells ?_ | refine vmL.cons ?_ ?_ | exact vmL.nil | refine vm_own rfl rfl rfl ?_)
  intro k hk
  by_cases h : k < l.length
  · with_reducible conv => whnf
    repeat' ((first | (with_reducible refine branch_t ?_) | (with_reducible refine branch_f ?_) | (with_reducible refine branch_nt ?_) | (with_reducible refine branch_nf ?_) | (with_reducible refine branch_dec (fun _ => ?_) (fun _ => ?_)) | (with_reducible refine branch_ndec (fun _ => ?_) (fun _ => ?_)) | (with_reducible refine branch_bool (fun _ => ?_) (fun _ => ?_)) | (with_reducible refine arith_64 (by omega) ?_) | (with_reducible refine ob_i (by omega) (fun _ => ?_)) | (with_reducible refine ob_i (by unfold room; omega) (fun _ => ?_)) | (with_reducible refine ob_i (by (try simp only [] at *); (try dsimp only [toN] at *); omega) (fun _ => ?_)) | (with_reducible refine arith_64 (by (try simp only [] at *); (try dsimp only [toN] at *); omega) ?_) | (with_reducible refine ob_k rfl ?_) | ((with_reducible refine ob_k ?_ ?_); focus kernel_rfl) | (refine yield_i hmix hT rfl hL efr eps eag ebd rfl (by kernel_rfl) ?_) | (refine gen_eq2 rfl rfl rfl rfl (by kernel_rfl) (by kernel_rfl) (fun _ => ?_) (fun _ => ?_)) | (refine gen_ne2 rfl rfl rfl rfl (by kernel_rfl) (by kernel_rfl) (fun _ => ?_) (fun _ => ?_)) | (refine gen_eq3 rfl rfl rfl rfl (by kernel_rfl) (by kernel_rfl) (fun _ => ?_) (fun _ => ?_)) | (refine gen_ne3 rfl rfl rfl rfl (by kernel_rfl) (by kernel_rfl) (fun _ => ?_) (fun _ => ?_)) | (refine gen_eqBii rfl rfl rfl rfl (by kernel_rfl) (by kernel_rfl) (fun _ => ?_) (fun _ => ?_)) | (refine gen_neBii rfl rfl rfl rfl (by kernel_rfl) (by kernel_rfl) (fun _ => ?_) (fun _ => ?_)) | (refine gen_eq4 rfl rfl rfl rfl (by kernel_rfl) (by kernel_rfl) (fun _ => ?_) (fun _ => ?_)) | (refine gen_ne4 rfl rfl rfl rfl (by kernel_rfl) (by kernel_rfl) (fun _ => ?_) (fun _ => ?_)) | (apply call_l (first_ok (l := [_, _]) (Nat.le_of_ble_eq_true rfl)) (.cons (vm_lit _ rfl rfl (.cons (vm_int rfl) (.cons (vm_int rfl) .nil))) .nil)) | (apply call_l (first_ok (l := [_, _, _]) (Nat.le_of_ble_eq_true rfl)) (.cons (vm_lit _ rfl rfl (.cons (vm_int rfl) (.cons (vm_int rfl) (.cons (vm_int rfl) .nil)))) .nil)) | (apply call_l (first_ok (l := [_, _, _, _]) (Nat.le_of_ble_eq_true rfl)) (.cons (vm_lit _ rfl rfl (.cons (vm_int rfl) (.cons (vm_int rfl) (.cons (vm_int rfl) (.cons (vm_int rfl) .nil))))) .nil))) <;> (try (exfalso; omega; done)) <;> (with_reducible conv => whnf))
    refine ⟨k + 1, by omega, by omega, ?_⟩
    refine ⟨[], rfl, ?_, ?_⟩ <;> repeat' (first | exact trivial | exact vm_p | exact vm_ptr rfl rfl rfl | exact vm_yld rfl rfl | exact vm_own rfl rfl rfl rfl | exact vm_own rfl rfl (by omega) (by omega) | exact vm_int (by omega) | exact vm_nil rfl | exact sbm_cells vmL_p | exact sbm_row rfl (fun _ _ => vm_p) | refine ⟨⟨_, rfl, ?_⟩, ?_⟩ | refine ⟨⟨_, _, _, rfl⟩, ?_⟩ | (refine sbm_loop ?_; rw [efr]) | refine sbm_cells ?_ | refine vmL.cons ?_ ?_ | exact vmL.nil | refine vm_own rfl rfl rfl ?_)
  · with_reducible conv => whnf
    repeat' ((first | (with_reducible refine branch_t ?_) | (with_reducible refine branch_f ?_) | (with_reducible refine branch_nt ?_) | (with_reducible refine branch_nf ?_) | (with_reducible refine branch_dec (fun _ => ?_) (fun _ => ?_)) | (with_reducible refine branch_ndec (fun _ => ?_) (fun _ => ?_)) | (with_reducible refine branch_bool (fun _ => ?_) (fun _ => ?_)) | (with_reducible refine arith_64 (by omega) ?_) | (with_reducible refine ob_i (by omega) (fun _ => ?_)) | (with_reducible refine ob_i (by unfold room; omega) (fun _ => ?_)) | (with_reducible refine ob_i (by (try simp only [toN_eq, Int.toNat_natCast] at *); (try dsimp only [toN] at *); omega) (fun _ => ?_)) | (with_reducible refine arith_64 (by (try simp only [toN_eq, Int.toNat_natCast] at *); (try dsimp only [toN] at *); omega) ?_) | (with_reducible refine ob_k rfl ?_) | ((with_reducible refine ob_k ?_ ?_); focus kernel_rfl) | (refine yield_i hmix hT rfl hL efr eps eag ebd rfl (by kernel_rfl) ?_)  | (apply call_l (first_ok (l := [_, _]) (Nat.le_of_ble_eq_true rfl)) (.cons (vm_lit _ rfl rfl (.cons (vm_int rfl) (.cons (vm_int rfl) .nil))) .nil)) | (apply call_l (first_ok (l := [_, _, _]) (Nat.le_of_ble_eq_true rfl)) (.cons (vm_lit _ rfl rfl (.cons (vm_int rfl) (.cons (vm_int rfl) (.cons (vm_int rfl) .nil)))) .nil)) | (apply call_l (first_ok (l := [_, _, _, _]) (Nat.le_of_ble_eq_true rfl)) (.cons (vm_lit _ rfl rfl (.cons (vm_int rfl) (.cons (vm_int rfl) (.cons (vm_int rfl) (.cons (vm_int rfl) .nil))))) .nil))) <;> (try (exfalso; omega; done)) <;> (with_reducible conv => whnf))
    exact ret0 vm_p
/-! ### Reflections -/
theorem ref_bd {s : Sky} {D n d : Int} (v : s.Val) (hD : 1 ≤ D ∧ D ≤ 990000000) (h0 : 0 ≤ n) (h1 : n < d) (h2 : d ≤ 100) : (-100000000000 ≤ d * (D - 100 * sqM s) ∧ d * (D - 100 * sqM s) ≤ 100000000000) ∧ 0 ≤ n * D ∧ n * D ≤ 100000000000 := by
  have b := sqM_bd v
  have p1 := prod_bd (a := d) (b := D - 100 * sqM s) (A := 100) (B := 1000000000) (by omega) (by omega)
  have p2 := prod_bd (a := n) (b := D) (A := 100) (B := 990000000) (by omega) (by omega)
  have p3 := Int.mul_nonneg h0 (show 0 ≤ D by omega)
  omega
theorem reflects_ok {s : Sky} {f g lo hi n d a : Int} (v : s.Val) (fv : 1 ≤ f ∧ f ≤ 3000) (hg : 0 ≤ g ∧ g ≤ 300) (ha : -100 ≤ a ∧ a ≤ 100) (h : g < f) (lv : LaunchV n d) : FnOK Try.prog 95 [I a, .pv [I f, I n, I d] 0, .pv [I g, I lo, I hi] 0, .pv [I s.h, eSlabs s.sl] 0] (B (refB s f g n d a)) [] := by
  have b := sc_bd fv hg ha h
  have q := sqM_bd v
  have r := ref_bd v b lv.n0 lv.nd lv.d1
  refine fn_i hmix hT Try.f95 (by kernel_rfl) rfl (by kernel_rfl) ?_
  with_reducible conv => whnf
  repeat' ((first | (with_reducible refine branch_t ?_) | (with_reducible refine branch_f ?_) | (with_reducible refine branch_nt ?_) | (with_reducible refine branch_nf ?_) | (with_reducible refine branch_dec (fun _ => ?_) (fun _ => ?_)) | (with_reducible refine branch_ndec (fun _ => ?_) (fun _ => ?_)) | (with_reducible refine branch_bool (fun _ => ?_) (fun _ => ?_)) | (with_reducible refine arith_64 (by omega) ?_) | (with_reducible refine ob_i (by omega) (fun _ => ?_)) | (with_reducible refine ob_i (by unfold room; omega) (fun _ => ?_)) | (with_reducible refine ob_i (by (try simp only [] at *); (try dsimp only [toN] at *); omega) (fun _ => ?_)) | (with_reducible refine arith_64 (by (try simp only [toN_eq, Int.toNat_natCast] at *); (try dsimp only [toN] at *); omega) ?_) | (with_reducible refine ob_k rfl ?_) | ((with_reducible refine ob_k ?_ ?_); focus kernel_rfl) | (refine yield_i hmix hT rfl hL efr eps eag ebd rfl (by kernel_rfl) ?_) | (apply call_u (scale_ok fv hg ha h)) | (apply call_u (square_ok v)) | (apply call_l (first_ok (l := [_, _]) (Nat.le_of_ble_eq_true rfl)) (.cons (vm_lit _ rfl rfl (.cons (vm_int rfl) (.cons (vm_int rfl) .nil))) .nil)) | (apply call_l (first_ok (l := [_, _, _]) (Nat.le_of_ble_eq_true rfl)) (.cons (vm_lit _ rfl rfl (.cons (vm_int rfl) (.cons (vm_int rfl) (.cons (vm_int rfl) .nil)))) .nil)) | (apply call_l (first_ok (l := [_, _, _, _]) (Nat.le_of_ble_eq_true rfl)) (.cons (vm_lit _ rfl rfl (.cons (vm_int rfl) (.cons (vm_int rfl) (.cons (vm_int rfl) (.cons (vm_int rfl) .nil))))) .nil))) <;> (try (exfalso; omega; done)) <;> (with_reducible conv => whnf))
  exact ret0 vm_p
theorem first_ref {s : Sky} {x : Fld} {f n d : Int} : firstErr [skyE s, fieldE x, freqE f, launchE n d, if decide (x.g < f) = true then 0 else 22] = rfErr s x f n d := by
  rw [slow_if, firstF5]; rfl
theorem reflectsWith_bad {s : Sky} {x : Fld} {f n d : Int} (hs : s.sl.length ≤ 9223372036854775807) (h1 : -9223372036854775808 ≤ n ∧ n ≤ 9223372036854775807) (h2 : -9223372036854775808 ≤ d ∧ d ≤ 9223372036854775807) (h : rfErr s x f n d ≠ 0) : FnOK Try.prog 26 [eSky s, eFld x, .agg [I f, I n, I d]] (.tup [I 0, I (rfErr s x f n d)]) [] := by
  have F := first_ok (l := [skyE s, fieldE x, freqE f, launchE n d, if decide (x.g < f) = true then 0 else 22]) (by simp)
  rw [first_ref] at F
  have LE := launchErr_ok (l := (n, d)) h1 h2
  refine fn_i hmix hT Try.f26 (by kernel_rfl) rfl (by kernel_rfl) ?_
  with_reducible conv => whnf
  repeat' ((first | (with_reducible refine branch_t ?_) | (with_reducible refine branch_f ?_) | (with_reducible refine branch_nt ?_) | (with_reducible refine branch_nf ?_) | (with_reducible refine branch_dec (fun _ => ?_) (fun _ => ?_)) | (with_reducible refine branch_ndec (fun _ => ?_) (fun _ => ?_)) | (with_reducible refine branch_bool (fun _ => ?_) (fun _ => ?_)) | (with_reducible refine arith_64 (by omega) ?_) | (with_reducible refine ob_i (by omega) (fun _ => ?_)) | (with_reducible refine ob_i (by unfold room; omega) (fun _ => ?_)) | (with_reducible refine ob_i (by (try simp only [] at *); (try dsimp only [toN] at *); omega) (fun _ => ?_)) | (with_reducible refine arith_64 (by (try simp only [] at *); (try dsimp only [toN] at *); omega) ?_) | (with_reducible refine ob_k rfl ?_) | ((with_reducible refine ob_k ?_ ?_); focus kernel_rfl) | (refine yield_i hmix hT rfl hL efr eps eag ebd rfl (by kernel_rfl) ?_) | (apply call_u (skyErr_ok hs)) | (apply call_u freqErr_ok) | (apply call_u checkField_ok) | (apply call_u LE) | (apply call_u unless_ok) | (apply call_l F (.cons (vm_lit _ rfl rfl (.cons (vm_int rfl) (.cons (vm_int rfl) (.cons (vm_int rfl) (.cons (vm_int rfl) (.cons (vm_int rfl) .nil)))))) .nil)) | (apply call_l (first_ok (l := [_, _]) (Nat.le_of_ble_eq_true rfl)) (.cons (vm_lit _ rfl rfl (.cons (vm_int rfl) (.cons (vm_int rfl) .nil))) .nil)) | (apply call_l (first_ok (l := [_, _, _]) (Nat.le_of_ble_eq_true rfl)) (.cons (vm_lit _ rfl rfl (.cons (vm_int rfl) (.cons (vm_int rfl) (.cons (vm_int rfl) .nil)))) .nil)) | (apply call_l (first_ok (l := [_, _, _, _]) (Nat.le_of_ble_eq_true rfl)) (.cons (vm_lit _ rfl rfl (.cons (vm_int rfl) (.cons (vm_int rfl) (.cons (vm_int rfl) (.cons (vm_int rfl) .nil))))) .nil))) <;> (try (exfalso; omega; done)) <;> (with_reducible conv => whnf))
  exact ret0 vm_p
set_option maxHeartbeats 4000000 in
theorem reflectsWith_good {s : Sky} {x : Fld} {f n d : Int} (h : rfErr s x f n d = 0) : FnOK Try.prog 26 [eSky s, eFld x, .agg [I f, I n, I d]] (.tup [I (reflE s f n d x), I 0]) [] := by
  have z : skyE s = 0 ∧ fieldE x = 0 ∧ freqE f = 0 ∧ launchE n d = 0 ∧ slowE f x = 0 := by unfold rfErr at h; grind
  have v := sky_val z.1
  have xv := fld_val z.2.1
  have fv := freq_val z.2.2.1
  have lv := launch_val z.2.2.2.1
  have sv := slow_val z.2.2.2.2
  have n1 := v.n1
  have F := first_ok (l := [skyE s, fieldE x, freqE f, launchE n d, if decide (x.g < f) = true then 0 else 22]) (by simp)
  rw [first_ref, h] at F
  have x1 := xv.g0; have x2 := xv.g1; have x3 := xv.l0; have x4 := xv.h1; have x5 := xv.lh
  have l1 := lv.n0; have l2 := lv.nd; have l3 := lv.d1
  have LE := launchErr_ok (l := (n, d)) (by dsimp only; omega) (by dsimp only; omega)
  have R1 := reflects_ok (a := x.lo) (lo := x.lo) (hi := x.hi) v fv (g := x.g) (by omega) (by omega) sv lv
  have R2 := reflects_ok (a := x.hi) (lo := x.lo) (hi := x.hi) v fv (g := x.g) (by omega) (by omega) sv lv
  clear z h
  rw [show reflE s f n d x = if refB s f x.g n d x.lo = true then if refB s f x.g n d x.hi = true then 2 else 1 else if refB s f x.g n d x.hi = true then 1 else 0 from rfl]
  generalize refB s f x.g n d x.hi = u1 at *
  generalize refB s f x.g n d x.lo = u2 at *
  cases u1 <;> cases u2
  all_goals
   refine fn_i hmix hT Try.f26 (by kernel_rfl) rfl (by kernel_rfl) ?_
   with_reducible conv => whnf
   repeat' ((first | (with_reducible refine branch_t ?_) | (with_reducible refine branch_f ?_) | (with_reducible refine branch_nt ?_) | (with_reducible refine branch_nf ?_) | (with_reducible refine branch_dec (fun _ => ?_) (fun _ => ?_)) | (with_reducible refine branch_ndec (fun _ => ?_) (fun _ => ?_)) | (with_reducible refine branch_bool (fun _ => ?_) (fun _ => ?_)) | (with_reducible refine arith_64 (by omega) ?_) | (with_reducible refine ob_i (by omega) (fun _ => ?_)) | (with_reducible refine ob_i (by unfold room; omega) (fun _ => ?_)) | (with_reducible refine ob_i (by (try simp only [] at *); (try dsimp only [toN] at *); omega) (fun _ => ?_)) | (with_reducible refine arith_64 (by (try simp only [] at *); (try dsimp only [toN] at *); omega) ?_) | (with_reducible refine ob_k rfl ?_) | ((with_reducible refine ob_k ?_ ?_); focus kernel_rfl) | (refine yield_i hmix hT rfl hL efr eps eag ebd rfl (by kernel_rfl) ?_) | (apply call_u (skyErr_ok (s := s) (by omega))) | (apply call_u freqErr_ok) | (apply call_u checkField_ok) | (apply call_u LE) | (apply call_u unless_ok) | (apply call_l F (.cons (vm_lit _ rfl rfl (.cons (vm_int rfl) (.cons (vm_int rfl) (.cons (vm_int rfl) (.cons (vm_int rfl) (.cons (vm_int rfl) .nil)))))) .nil)) | (apply call_l R1 (.cons vm_p (.cons (vm_frzp trivial rfl kept_no rfl rfl vmL_p) (.cons (vm_frzp trivial rfl kept_no rfl rfl vmL_p) (.cons (vm_frzp trivial rfl kept_no rfl rfl vmL_p) .nil))))) | (apply call_l R2 (.cons vm_p (.cons (vm_frzp trivial rfl kept_no rfl rfl vmL_p) (.cons (vm_frzp trivial rfl kept_no rfl rfl vmL_p) (.cons (vm_frzp trivial rfl kept_no rfl rfl vmL_p) .nil))))) | (apply call_l (first_ok (l := [_, _]) (Nat.le_of_ble_eq_true rfl)) (.cons (vm_lit _ rfl rfl (.cons (vm_int rfl) (.cons (vm_int rfl) .nil))) .nil)) | (apply call_l (first_ok (l := [_, _, _]) (Nat.le_of_ble_eq_true rfl)) (.cons (vm_lit _ rfl rfl (.cons (vm_int rfl) (.cons (vm_int rfl) (.cons (vm_int rfl) .nil)))) .nil)) | (apply call_l (first_ok (l := [_, _, _, _]) (Nat.le_of_ble_eq_true rfl)) (.cons (vm_lit _ rfl rfl (.cons (vm_int rfl) (.cons (vm_int rfl) (.cons (vm_int rfl) (.cons (vm_int rfl) .nil))))) .nil))) <;> (try (exfalso; omega; done)) <;> (with_reducible conv => whnf))
   exact ret0 (vm_tup (.cons (vm_int (by simp)) (.cons vm_p .nil)))
theorem cmp_low {a D n d : Int} (hD : 1 ≤ D) (lv : LaunchV n d) : sgn ((low a D).1 * d) (n * (low a D).2) ≤ 0 ↔ a * d ≤ n * D := by
  have := lv.n0; have := lv.nd
  have e := low_le (n := a) (d := D) (m := n) (k := d) (by omega) (by omega)
  rw [low_self (show 0 < d by omega) lv.g] at e
  rw [← e]
  unfold sgn
  dsimp only
  split
  · omega
  · split <;> omega
theorem low_bd {D q : Int} (hD : 1 ≤ D ∧ D ≤ 990000000) (hq : 0 ≤ q ∧ q ≤ 9000000) : (-990000000 ≤ (low (D - 100 * q) D).1 ∧ (low (D - 100 * q) D).1 ≤ 990000000) ∧ 1 ≤ (low (D - 100 * q) D).2 ∧ (low (D - 100 * q) D).2 ≤ 990000000 := by
  have s := low_size (n := D - 100 * q) (d := D) (by omega)
  obtain ⟨g, _, _, _, _, p, _⟩ := low_split (n := D - 100 * q) (d := D) (by omega)
  omega
set_option maxHeartbeats 4000000 in
theorem refReflected_ok {s : Sky} {x : Fld} {f n d : Int} (v : s.Val) (fv : 1 ≤ f ∧ f ≤ 3000) (xv : x.Val) (sv : x.g < f) (lv : LaunchV n d) : FnOK Try.prog 33 [eSky s, eFld x, I f, .agg [I n, I d]] (I (reflE s f n d x)) [] := by
  have n1 := v.n1
  have x1 := xv.g0; have x2 := xv.g1; have x3 := xv.l0; have x4 := xv.h1; have x5 := xv.lh
  have l1 := lv.n0; have l2 := lv.nd; have l3 := lv.d1
  have b1 := sc_bd (a := x.hi) fv (g := x.g) (by omega) (by omega) sv
  have b2 := sc_bd (a := x.lo) fv (g := x.g) (by omega) (by omega) sv
  have LL := spL_len s f x
  refine fn_i hmix hT Try.f33 (by kernel_rfl) rfl (by kernel_rfl) ?_
  with_reducible conv => whnf
  repeat' ((first | (with_reducible refine branch_t ?_) | (with_reducible refine branch_f ?_) | (with_reducible refine branch_nt ?_) | (with_reducible refine branch_nf ?_) | (with_reducible refine branch_dec (fun _ => ?_) (fun _ => ?_)) | (with_reducible refine branch_ndec (fun _ => ?_) (fun _ => ?_)) | (with_reducible refine branch_bool (fun _ => ?_) (fun _ => ?_)) | (with_reducible refine arith_64 (by omega) ?_) | (with_reducible refine ob_i (by omega) (fun _ => ?_)) | (with_reducible refine ob_i (by unfold room; omega) (fun _ => ?_)) | (with_reducible refine ob_i (by (try simp only [toN_eq, Int.toNat_natCast] at *); (try dsimp only [toN] at *); omega) (fun _ => ?_)) | (with_reducible refine arith_64 (by (try simp only [toN_eq, Int.toNat_natCast] at *); (try dsimp only [toN] at *); omega) ?_) | (with_reducible refine ob_k rfl ?_) | ((with_reducible refine ob_k ?_ ?_); focus kernel_rfl) | (refine yield_i hmix hT rfl hL efr eps eag ebd rfl (by kernel_rfl) ?_) | (apply call_u (refSpans_ok v fv xv sv)) | (apply call_l (first_ok (l := [_, _]) (Nat.le_of_ble_eq_true rfl)) (.cons (vm_lit _ rfl rfl (.cons (vm_int rfl) (.cons (vm_int rfl) .nil))) .nil)) | (apply call_l (first_ok (l := [_, _, _]) (Nat.le_of_ble_eq_true rfl)) (.cons (vm_lit _ rfl rfl (.cons (vm_int rfl) (.cons (vm_int rfl) (.cons (vm_int rfl) .nil)))) .nil)) | (apply call_l (first_ok (l := [_, _, _, _]) (Nat.le_of_ble_eq_true rfl)) (.cons (vm_lit _ rfl rfl (.cons (vm_int rfl) (.cons (vm_int rfl) (.cons (vm_int rfl) (.cons (vm_int rfl) .nil))))) .nil))) <;> (try (exfalso; omega; done)) <;> (with_reducible conv => whnf))
  refine loop_i hmix hT (fun k : Nat => ([(7, .ptr 0 0), (9, eSpans (spL s f x)), (10, B (anyK s (scE f x.g x.hi) n d k)), (11, B (anyK s (scE f x.g x.lo) n d k)), (12, I k)], ⟨1, [(0, .cells [I n, I d] 29)]⟩)) (fun k => k ≤ s.sl.length) (fun k => s.sl.length - k) 0 (by omega) ?_ ?_
  · refine ⟨[(0, some 2)], rfl, ?_, ?_⟩ <;> repeat' (first | exact trivial | exact vm_p | exact vm_ptr rfl rfl rfl | exact vm_yld rfl rfl | exact vm_own rfl rfl rfl rfl | exact vm_own rfl rfl (by omega) (by omega) | exact vm_int (by omega) | exact vm_nil rfl | exact sbm_cells vmL_p | exact sbm_row rfl (fun _ _ => vm_p) | refine ⟨⟨_, rfl, ?_⟩, ?_⟩ | refine ⟨⟨_, _, _, rfl⟩, ?_⟩ | (refine sbm_loop ?_; rw [efr]) | refine sbm_cells ?_ | refine vmL.cons ?_ ?_ | exact vmL.nil | refine vm_own rfl rfl rfl ?_)
  intro k hk
  by_cases hk2 : k < s.sl.length
  · have tq : ((spL s f x).getD (toN (k : Int)) ((0, 0), (0, 0))) = spanE (scE f x.g x.hi) (scE f x.g x.lo) (s.sl.getD k (0, 0)).2 := by rw [toN_eq]; exact spL_at hk2
    have hq := v.q k hk2
    have y1 := low_bd b1 hq
    have y2 := low_bd b2 hq
    have c1 := cmp_low (a := scE f x.g x.hi - 100 * (s.sl.getD k (0, 0)).2) b1.1 lv
    have c2 := cmp_low (a := scE f x.g x.lo - 100 * (s.sl.getD k (0, 0)).2) b2.1 lv
    have f1 : ((spL s f x).getD (toN (k : Int)) ((0, 0), (0, 0))).1 = low (scE f x.g x.hi - 100 * (s.sl.getD k (0, 0)).2) (scE f x.g x.hi) := by rw [tq]; rfl
    have f2 : ((spL s f x).getD (toN (k : Int)) ((0, 0), (0, 0))).2 = low (scE f x.g x.lo - 100 * (s.sl.getD k (0, 0)).2) (scE f x.g x.lo) := by rw [tq]; rfl
    rw [← f1] at y1 c1
    rw [← f2] at y2 c2
    have e1 : anyK s (scE f x.g x.hi) n d (k + 1) = (anyK s (scE f x.g x.hi) n d k || decide (sgn (((spL s f x).getD (toN (k : Int)) ((0, 0), (0, 0))).1.1 * d) (n * ((spL s f x).getD (toN (k : Int)) ((0, 0), (0, 0))).1.2) ≤ 0)) := by
      rw [anyK, decide_eq_decide.2 c1]
    have e2 : anyK s (scE f x.g x.lo) n d (k + 1) = (anyK s (scE f x.g x.lo) n d k || decide (sgn (((spL s f x).getD (toN (k : Int)) ((0, 0), (0, 0))).2.1 * d) (n * ((spL s f x).getD (toN (k : Int)) ((0, 0), (0, 0))).2.2) ≤ 0)) := by
      rw [anyK, decide_eq_decide.2 c2]
    have p1 := prod_bd (a := ((spL s f x).getD (toN (k : Int)) ((0, 0), (0, 0))).1.1) (b := d) (A := 990000000) (B := 100) y1.1 (by omega)
    have p2 := prod_bd (a := n) (b := ((spL s f x).getD (toN (k : Int)) ((0, 0), (0, 0))).1.2) (A := 100) (B := 990000000) (by omega) (by omega)
    have p3 := prod_bd (a := ((spL s f x).getD (toN (k : Int)) ((0, 0), (0, 0))).2.1) (b := d) (A := 990000000) (B := 100) y2.1 (by omega)
    have p4 := prod_bd (a := n) (b := ((spL s f x).getD (toN (k : Int)) ((0, 0), (0, 0))).2.2) (A := 100) (B := 990000000) (by omega) (by omega)
    have C1 := cmp_ok (a := ((spL s f x).getD (toN (k : Int)) ((0, 0), (0, 0))).1) (b := (n, d)) (by dsimp only; omega) (by dsimp only; omega)
    have C2 := cmp_ok (a := ((spL s f x).getD (toN (k : Int)) ((0, 0), (0, 0))).2) (b := (n, d)) (by dsimp only; omega) (by dsimp only; omega)
    clear f1 f2 tq c1 c2
    generalize anyK s (scE f x.g x.hi) n d k = u1 at *
    generalize anyK s (scE f x.g x.lo) n d k = u2 at *
    cases u1 <;> cases u2
    all_goals
      with_reducible conv => whnf
      repeat' ((first | (with_reducible refine branch_t ?_) | (with_reducible refine branch_f ?_) | (with_reducible refine branch_nt ?_) | (with_reducible refine branch_nf ?_) | (with_reducible refine branch_dec (fun _ => ?_) (fun _ => ?_)) | (with_reducible refine branch_ndec (fun _ => ?_) (fun _ => ?_)) | (with_reducible refine branch_bool (fun _ => ?_) (fun _ => ?_)) | (with_reducible refine arith_64 (by omega) ?_) | (with_reducible refine ob_i (by omega) (fun _ => ?_)) | (with_reducible refine ob_i (by unfold room; omega) (fun _ => ?_)) | (with_reducible refine ob_i (by (try simp only [] at *); (try dsimp only [toN] at *); omega) (fun _ => ?_)) | (with_reducible refine arith_64 (by (try simp only [] at *); (try dsimp only [toN] at *); omega) ?_) | (with_reducible refine ob_k rfl ?_) | ((with_reducible refine ob_k ?_ ?_); focus kernel_rfl) | (refine yield_i hmix hT rfl hL efr eps eag ebd rfl (by kernel_rfl) ?_) | (apply call_u C1) | (apply call_u C2) | (apply call_l (first_ok (l := [_, _]) (Nat.le_of_ble_eq_true rfl)) (.cons (vm_lit _ rfl rfl (.cons (vm_int rfl) (.cons (vm_int rfl) .nil))) .nil)) | (apply call_l (first_ok (l := [_, _, _]) (Nat.le_of_ble_eq_true rfl)) (.cons (vm_lit _ rfl rfl (.cons (vm_int rfl) (.cons (vm_int rfl) (.cons (vm_int rfl) .nil)))) .nil)) | (apply call_l (first_ok (l := [_, _, _, _]) (Nat.le_of_ble_eq_true rfl)) (.cons (vm_lit _ rfl rfl (.cons (vm_int rfl) (.cons (vm_int rfl) (.cons (vm_int rfl) (.cons (vm_int rfl) .nil))))) .nil))) <;> (try (exfalso; omega; done)) <;> (with_reducible conv => whnf))
      refine ⟨k + 1, by omega, by omega, ?_⟩
      rw [e1, e2]
      refine ⟨[], rfl, ?_, ?_⟩ <;> repeat' (first | exact trivial | exact vm_p | exact vm_ptr rfl rfl rfl | exact vm_yld rfl rfl | exact vm_own rfl rfl rfl rfl | exact vm_own rfl rfl (by omega) (by omega) | exact vm_int (by omega) | exact vm_nil rfl | exact sbm_cells vmL_p | exact sbm_row rfl (fun _ _ => vm_p) | refine ⟨⟨_, rfl, ?_⟩, ?_⟩ | refine ⟨⟨_, _, _, rfl⟩, ?_⟩ | (refine sbm_loop ?_; rw [efr]) | refine sbm_cells ?_ | refine vmL.cons ?_ ?_ | exact vmL.nil | refine vm_own rfl rfl rfl ?_)
      all_goals exact vm_bool (by simp)
  · obtain rfl : k = s.sl.length := by omega
    have r1 := any_ref (s := s) (f := f) (g := x.g) (a := x.hi) (n := n) (d := d) b1.1 l1 l2
    have r2 := any_ref (s := s) (f := f) (g := x.g) (a := x.lo) (n := n) (d := d) b2.1 l1 l2
    have e : reflE s f n d x = if refB s f x.g n d x.lo = true then if refB s f x.g n d x.hi = true then 2 else 1 else if refB s f x.g n d x.hi = true then 1 else 0 := rfl
    rw [r1, r2, e]
    clear r1 r2 e
    generalize refB s f x.g n d x.hi = u1
    generalize refB s f x.g n d x.lo = u2
    cases u1 <;> cases u2
    all_goals
      with_reducible conv => whnf
      repeat' ((first | (with_reducible refine branch_t ?_) | (with_reducible refine branch_f ?_) | (with_reducible refine branch_nt ?_) | (with_reducible refine branch_nf ?_) | (with_reducible refine branch_dec (fun _ => ?_) (fun _ => ?_)) | (with_reducible refine branch_ndec (fun _ => ?_) (fun _ => ?_)) | (with_reducible refine branch_bool (fun _ => ?_) (fun _ => ?_)) | (with_reducible refine arith_64 (by omega) ?_) | (with_reducible refine ob_i (by omega) (fun _ => ?_)) | (with_reducible refine ob_i (by unfold room; omega) (fun _ => ?_)) | (with_reducible refine ob_i (by (try simp only [toN_eq, Int.toNat_natCast] at *); (try dsimp only [toN] at *); omega) (fun _ => ?_)) | (with_reducible refine arith_64 (by (try simp only [toN_eq, Int.toNat_natCast] at *); (try dsimp only [toN] at *); omega) ?_) | (with_reducible refine ob_k rfl ?_) | ((with_reducible refine ob_k ?_ ?_); focus kernel_rfl) | (refine yield_i hmix hT rfl hL efr eps eag ebd rfl (by kernel_rfl) ?_)  | (apply call_l (first_ok (l := [_, _]) (Nat.le_of_ble_eq_true rfl)) (.cons (vm_lit _ rfl rfl (.cons (vm_int rfl) (.cons (vm_int rfl) .nil))) .nil)) | (apply call_l (first_ok (l := [_, _, _]) (Nat.le_of_ble_eq_true rfl)) (.cons (vm_lit _ rfl rfl (.cons (vm_int rfl) (.cons (vm_int rfl) (.cons (vm_int rfl) .nil)))) .nil)) | (apply call_l (first_ok (l := [_, _, _, _]) (Nat.le_of_ble_eq_true rfl)) (.cons (vm_lit _ rfl rfl (.cons (vm_int rfl) (.cons (vm_int rfl) (.cons (vm_int rfl) (.cons (vm_int rfl) .nil))))) .nil))) <;> (try (exfalso; omega; done)) <;> (with_reducible conv => whnf))
      exact ret0 (vm_int (by simp))
end Go.Proofs.Ytplaocfagjeikaa
