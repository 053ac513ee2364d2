/-
  Chapter 5: the document's rays (by contract).
  Conditions: none.
-/
import Derived.Test.Ytdfcedndkplabaa5G
import Derived.Test.Ytdfcedndkplabaa5H
namespace Go.Proofs.Ytdfcedndkplabaa
open Go.RowKit Fx
theorem low_parts {F q : Int} (hF : 1 ≤ F ∧ F ≤ 9000000) (hq : 0 ≤ q ∧ q ≤ 9000000) : (-9000000 ≤ (low (F - q) F).1 ∧ (low (F - q) F).1 ≤ 9000000) ∧ 1 ≤ (low (F - q) F).2 ∧ (low (F - q) F).2 ≤ 9000000 := by
  have s := low_size (n := F - q) (d := F) (by omega)
  obtain ⟨g, g0, e1, e2, p⟩ := red F q (by omega)
  omega
theorem whole_ok {n : Int} : FnOK Try.prog 14 [I n] (eFrac (n, 1)) [] := by
  refine fn_i hmix hT Try.f14 (by kernel_rfl) rfl (by kernel_rfl) ?_
  with_reducible conv => whnf
  repeat' ((first | (with_reducible refine branch_t ?_) | (with_reducible refine branch_f ?_) | (with_reducible refine branch_nt ?_) | (with_reducible refine branch_nf ?_) | (with_reducible refine branch_dec (fun _ => ?_) (fun _ => ?_)) | (with_reducible refine branch_ndec (fun _ => ?_) (fun _ => ?_)) | (with_reducible refine branch_bool (fun _ => ?_) (fun _ => ?_)) | (with_reducible refine arith_64 (by omega) ?_) | (with_reducible refine ob_i (by omega) (fun _ => ?_)) | (with_reducible refine ob_i (by unfold room; omega) (fun _ => ?_)) | (with_reducible refine ob_i (by (try simp only [toN_eq, Int.toNat_natCast] at *); (try dsimp only [toN] at *); omega) (fun _ => ?_)) | (with_reducible refine arith_64 (by (try simp only [toN_eq, Int.toNat_natCast] at *); (try dsimp only [toN] at *); omega) ?_) | (with_reducible refine ob_k rfl ?_) | ((with_reducible refine ob_k ?_ ?_); focus kernel_rfl) | (refine yield_i hmix hT rfl hL efr eps eag ebd rfl (by kernel_rfl) ?_)  | (apply call_l (first_ok (l := [_, _]) (Nat.le_of_ble_eq_true rfl)) (.cons (vm_lit _ rfl rfl (.cons (vm_int rfl) (.cons (vm_int rfl) .nil))) .nil)) | (apply call_l (first_ok (l := [_, _, _]) (Nat.le_of_ble_eq_true rfl)) (.cons (vm_lit _ rfl rfl (.cons (vm_int rfl) (.cons (vm_int rfl) (.cons (vm_int rfl) .nil)))) .nil)) | (apply call_l (first_ok (l := [_, _, _, _]) (Nat.le_of_ble_eq_true rfl)) (.cons (vm_lit _ rfl rfl (.cons (vm_int rfl) (.cons (vm_int rfl) (.cons (vm_int rfl) (.cons (vm_int rfl) .nil))))) .nil))) <;> (try (exfalso; omega; done)) <;> (with_reducible conv => whnf))
  exact ret0 vm_p
theorem upK_bd {g : Nat → Int × Int} {m : Nat} (hg : ∀ i, i < m → (0 ≤ (g i).1 ∧ (g i).1 ≤ 2000000000) ∧ 0 ≤ (g i).2 ∧ (g i).2 ≤ 2000000000) : ∀ k, k ≤ m → (0 ≤ (upK g k).1 ∧ (upK g k).1 ≤ 2000000000 * k) ∧ 0 ≤ (upK g k).2 ∧ (upK g k).2 ≤ 2000000000 * k
  | 0, _ => by simp [upK]
  | k + 1, hk => by
    have ih := upK_bd hg k (by omega)
    have := hg k (by omega)
    simp only [upK]; omega
theorem legL_bd {s : Sky} {F n d : Int} (sv : s.Fine) (v : ShotV F n d) : ∀ i, i < apexL F n d s.sl + 1 → (0 ≤ ((legL s F n d).getD i (0, 0)).1 ∧ ((legL s F n d).getD i (0, 0)).1 ≤ 2000000000) ∧ 0 ≤ ((legL s F n d).getD i (0, 0)).2 ∧ ((legL s F n d).getD i (0, 0)).2 ≤ 2000000000 := fun i hi => by
  have := legAt_bd sv v (k := i) (by omega)
  rw [legL_at hi]; omega
end Go.Proofs.Ytdfcedndkplabaa
