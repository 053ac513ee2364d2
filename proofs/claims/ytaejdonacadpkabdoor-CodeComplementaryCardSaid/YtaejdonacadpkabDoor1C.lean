/-
  Chapter 1: frames (by contract).
  Conditions: none.
-/
import Derived.Test.YtaejdonacadpkabDoor1B
namespace Go.Proofs.YtaejdonacadpkabDoor
open Go.RowKit Fx
theorem isPart_ok {p : Int × Int} {m : Int} (h : -9223372036854775807 ≤ m ∧ m ≤ 9223372036854775807) : FnOK Tryd.prog 62 [eP p, I m] (B (decide (-m ≤ p.1 ∧ p.1 ≤ m ∧ -m ≤ p.2 ∧ p.2 ≤ m))) [] := by
  refine fn_i hmix hT Tryd.f62 (by kernel_rfl) rfl (by kernel_rfl) ?_
  with_reducible conv => whnf
  repeat' ((first | (with_reducible refine branch_t ?_) | (with_reducible refine branch_f ?_) | (with_reducible refine branch_nt ?_) | (with_reducible refine branch_nf ?_) | (with_reducible refine branch_dec (fun _ => ?_) (fun _ => ?_)) | (with_reducible refine branch_ndec (fun _ => ?_) (fun _ => ?_)) | (with_reducible refine branch_bool (fun _ => ?_) (fun _ => ?_)) | (with_reducible refine arith_64 (by omega) ?_) | (with_reducible refine ob_i (by omega) (fun _ => ?_)) | (with_reducible refine ob_i (by unfold room; omega) (fun _ => ?_)) | (with_reducible refine ob_i (by (try simp only [toN_eq, Int.toNat_natCast] at *); (try dsimp only [toN] at *); omega) (fun _ => ?_)) | (with_reducible refine arith_64 (by (try simp only [toN_eq, Int.toNat_natCast] at *); (try dsimp only [toN] at *); omega) ?_) | (with_reducible refine ob_k rfl ?_) | ((with_reducible refine ob_k ?_ ?_); focus kernel_rfl) | (refine yield_i hmix hT rfl hL efr eps eag ebd rfl (by kernel_rfl) ?_) | (apply call_u bWithin_ok) | (apply call_l (first_ok (l := [_, _]) (Nat.le_of_ble_eq_true rfl)) (.cons (vm_lit _ rfl rfl (.cons (vm_int rfl) (.cons (vm_int rfl) .nil))) .nil)) | (apply call_l (first_ok (l := [_, _, _]) (Nat.le_of_ble_eq_true rfl)) (.cons (vm_lit _ rfl rfl (.cons (vm_int rfl) (.cons (vm_int rfl) (.cons (vm_int rfl) .nil)))) .nil)) | (apply call_l (first_ok (l := [_, _, _, _]) (Nat.le_of_ble_eq_true rfl)) (.cons (vm_lit _ rfl rfl (.cons (vm_int rfl) (.cons (vm_int rfl) (.cons (vm_int rfl) (.cons (vm_int rfl) .nil))))) .nil))) <;> (try (exfalso; omega; done)) <;> (with_reducible conv => whnf))
  all_goals exact ret0 (vm_bool (by grind))
end Go.Proofs.YtaejdonacadpkabDoor
