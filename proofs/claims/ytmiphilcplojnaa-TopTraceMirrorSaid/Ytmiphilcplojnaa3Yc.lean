/-
  Chapter 3, the law TopTraceMirror: small callees (by contract).
  Conditions: none.
-/
import Derived.Test.Ytmiphilcplojnaa3Z
import Derived.Test.Ytmiphilcplojnaa3Yb
import Derived.Test.YtmiphilcplojnaaShown
namespace Go.Proofs.Ytmiphilcplojnaa
open Go.RowKit Fx
theorem shown_fn : FnOK Try.prog 43 [] (B true) [] := FnOK.of_calls (enters_of (fn := Try.f43) (by kernel_rfl) (by kernel_rfl) rfl) shown_ok
/-- The remainder that is not negative. -/
def modE (a n : Int) : Int := if a.tmod n < 0 then a.tmod n + n else a.tmod n
theorem modE_bd {a n : Int} (h : 0 < n) : 0 ≤ modE a n ∧ modE a n < n := by
  unfold modE
  have h1 := Int.tmod_lt_of_pos a h
  have h2 := Int.lt_tmod_of_pos a h
  split <;> omega
theorem mod_ok {a n : Int} (h : 0 < n ∧ n ≤ 1000) : FnOK Try.prog 50 [I a, I n] (I (modE a n)) [] := by
  have h1 := Int.tmod_lt_of_pos a h.1
  have h2 := Int.lt_tmod_of_pos a h.1
  refine fn_i hmix hT Try.f50 (by kernel_rfl) rfl (by kernel_rfl) ?_
  with_reducible conv => whnf
  repeat' ((first | (with_reducible refine branch_t ?_) | (with_reducible refine branch_f ?_) | (with_reducible refine branch_nt ?_) | (with_reducible refine branch_nf ?_) | (with_reducible refine branch_dec (fun _ => ?_) (fun _ => ?_)) | (with_reducible refine branch_ndec (fun _ => ?_) (fun _ => ?_)) | (with_reducible refine branch_bool (fun _ => ?_) (fun _ => ?_)) | (with_reducible refine arith_64 (by omega) ?_) | (with_reducible refine ob_i (by omega) (fun _ => ?_)) | (with_reducible refine ob_i (by unfold room; omega) (fun _ => ?_)) | (with_reducible refine ob_i (by (try simp only [toN_eq, Int.toNat_natCast] at *); (try dsimp only [toN] at *); omega) (fun _ => ?_)) | (with_reducible refine arith_64 (by (try simp only [toN_eq, Int.toNat_natCast] at *); (try dsimp only [toN] at *); omega) ?_) | (with_reducible refine ob_k rfl ?_) | ((with_reducible refine ob_k ?_ ?_); focus kernel_rfl) | (refine yield_i hmix hT rfl hL efr eps eag ebd rfl (by kernel_rfl) ?_)  | (apply call_l (first_ok (l := [_, _]) (Nat.le_of_ble_eq_true rfl)) (.cons (vm_lit _ rfl rfl (.cons (vm_int rfl) (.cons (vm_int rfl) .nil))) .nil)) | (apply call_l (first_ok (l := [_, _, _]) (Nat.le_of_ble_eq_true rfl)) (.cons (vm_lit _ rfl rfl (.cons (vm_int rfl) (.cons (vm_int rfl) (.cons (vm_int rfl) .nil)))) .nil)) | (apply call_l (first_ok (l := [_, _, _, _]) (Nat.le_of_ble_eq_true rfl)) (.cons (vm_lit _ rfl rfl (.cons (vm_int rfl) (.cons (vm_int rfl) (.cons (vm_int rfl) (.cons (vm_int rfl) .nil))))) .nil))) <;> (try (exfalso; omega; done)) <;> (with_reducible conv => whnf))
  · exact ret0 (vm_int (if_pos (by assumption)).symm)
  · exact ret0 (vm_int (if_neg (by assumption)).symm)
end Go.Proofs.Ytmiphilcplojnaa
