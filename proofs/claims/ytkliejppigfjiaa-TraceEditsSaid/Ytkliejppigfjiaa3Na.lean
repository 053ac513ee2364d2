/-
  Chapter 3: names (the document's function and the program's, by contract).
  Conditions: none.
-/
import Derived.Test.Ytkliejppigfjiaa3D
import Derived.Test.YtkliejppigfjiaaFb
namespace Go.Proofs.Ytkliejppigfjiaa
open Go.RowKit Fx
/-! ### Plain -/
def okAt (s : ByteArray) (i : Nat) : Prop := ((97 ≤ sb s i ∧ sb s i ≤ 122) ∨ (65 ≤ sb s i ∧ sb s i ≤ 90)) ∨ (i ≠ 0 ∧ (sb s i = 45 ∨ (48 ≤ sb s i ∧ sb s i ≤ 57)))
instance (s : ByteArray) (i : Nat) : Decidable (okAt s i) := by unfold okAt; infer_instance
def nameB (s : ByteArray) : Bool := decide (1 ≤ s.size ∧ s.size ≤ 12 ∧ ∀ i, i < s.size → okAt s i)
theorem nameB_t {s : ByteArray} (h1 : 1 ≤ s.size ∧ s.size ≤ 12) (h : ∀ i, i < s.size → okAt s i) : nameB s = true := by
  unfold nameB; exact decide_eq_true ⟨h1.1, h1.2, h⟩
theorem nameB_len {s : ByteArray} (h : ¬ (1 ≤ s.size ∧ s.size ≤ 12)) : nameB s = false := by
  unfold nameB; exact decide_eq_false fun e => h ⟨e.1, e.2.1⟩
theorem nameB_at {s : ByteArray} {i : Nat} (hi : i < s.size) (h : ¬ okAt s i) : nameB s = false := by
  unfold nameB; exact decide_eq_false fun e => h (e.2.2 i hi)
/-! ### The document's -/
set_option maxHeartbeats 4000000 in
theorem rIsName_ok {s : ByteArray} (hs : s.size ≤ 1000) : FnOK Try.prog 31 [Sg s] (B (nameB s)) [] := by
  refine fn_i hmix hT Try.f31 (by kernel_rfl) rfl (by kernel_rfl) ?_
  with_reducible conv => whnf
  repeat' ((first | (with_reducible refine branch_t ?_) | (with_reducible refine branch_f ?_) | (with_reducible refine branch_nt ?_) | (with_reducible refine branch_nf ?_) | (with_reducible refine branch_dec (fun _ => ?_) (fun _ => ?_)) | (with_reducible refine branch_ndec (fun _ => ?_) (fun _ => ?_)) | (with_reducible refine branch_bool (fun _ => ?_) (fun _ => ?_)) | (with_reducible refine arith_64 (by omega) ?_) | (with_reducible refine ob_i (by omega) (fun _ => ?_)) | (with_reducible refine ob_i (by unfold room; omega) (fun _ => ?_)) | (with_reducible refine ob_i (by (try simp only [toN_eq, Int.toNat_natCast] at *); (try dsimp only [toN] at *); omega) (fun _ => ?_)) | (with_reducible refine arith_64 (by (try simp only [toN_eq, Int.toNat_natCast] at *); (try dsimp only [toN] at *); omega) ?_) | (with_reducible refine ob_k rfl ?_) | ((with_reducible refine ob_k ?_ ?_); focus kernel_rfl) | (refine yield_i hmix hT rfl hL efr eps eag ebd rfl (by kernel_rfl) ?_) | (refine gen_lenS rfl rfl (by kernel_rfl) ?_) | (refine gen_ixS rfl rfl rfl (by kernel_rfl) (by first | omega | ((try simp only [toN_eq, Int.toNat_natCast] at *); (try dsimp only [toN] at *); omega)) ?_) | (refine gen_eqS rfl rfl rfl ?_) | (refine gen_neS rfl rfl rfl ?_) | (refine gen_convB rfl rfl (by kernel_rfl) (by kernel_rfl) ?_) | (apply call_l (first_ok (l := [_, _]) (Nat.le_of_ble_eq_true rfl)) (.cons (vm_lit _ rfl rfl (.cons (vm_int rfl) (.cons (vm_int rfl) .nil))) .nil)) | (apply call_l (first_ok (l := [_, _, _]) (Nat.le_of_ble_eq_true rfl)) (.cons (vm_lit _ rfl rfl (.cons (vm_int rfl) (.cons (vm_int rfl) (.cons (vm_int rfl) .nil)))) .nil)) | (apply call_l (first_ok (l := [_, _, _, _]) (Nat.le_of_ble_eq_true rfl)) (.cons (vm_lit _ rfl rfl (.cons (vm_int rfl) (.cons (vm_int rfl) (.cons (vm_int rfl) (.cons (vm_int rfl) .nil))))) .nil))) <;> (try (exfalso; omega; done)) <;> (with_reducible conv => whnf))
  · exact ret0 (vm_bool (nameB_len (by omega)).symm)
  · exact ret0 (vm_bool (nameB_len (by omega)).symm)
  refine loop_i hmix hT (fun k : Nat => ([(0, Sg s), (3, I k)], ⟨0, []⟩)) (fun k => k ≤ s.size ∧ ∀ i, i < k → okAt s i) (fun k => s.size - k) 0 ⟨by omega, fun i hi => by omega⟩ ?_ ?_
  · refine ⟨[], rfl, ⟨⟨_, rfl, vm_p⟩, ⟨_, rfl, vm_p⟩, trivial⟩, trivial⟩
  intro k ⟨hk1, hk2⟩
  have sbk := sb_b s k
  with_reducible conv => whnf
  repeat' ((first | (with_reducible refine branch_t ?_) | (with_reducible refine branch_f ?_) | (with_reducible refine branch_nt ?_) | (with_reducible refine branch_nf ?_) | (with_reducible refine branch_dec (fun _ => ?_) (fun _ => ?_)) | (with_reducible refine branch_ndec (fun _ => ?_) (fun _ => ?_)) | (with_reducible refine branch_bool (fun _ => ?_) (fun _ => ?_)) | (with_reducible refine arith_64 (by omega) ?_) | (with_reducible refine ob_i (by omega) (fun _ => ?_)) | (with_reducible refine ob_i (by unfold room; omega) (fun _ => ?_)) | (with_reducible refine ob_i (by (try simp only [toN_eq, Int.toNat_natCast] at *); (try dsimp only [toN] at *); omega) (fun _ => ?_)) | (with_reducible refine arith_64 (by (try simp only [toN_eq, Int.toNat_natCast] at *); (try dsimp only [toN] at *); omega) ?_) | (with_reducible refine ob_k rfl ?_) | ((with_reducible refine ob_k ?_ ?_); focus kernel_rfl) | (refine yield_i hmix hT rfl hL efr eps eag ebd rfl (by kernel_rfl) ?_) | (refine gen_lenS rfl rfl (by kernel_rfl) ?_) | (refine gen_ixS rfl rfl rfl (by kernel_rfl) (by first | omega | ((try simp only [toN_eq, Int.toNat_natCast] at *); (try dsimp only [toN] at *); omega)) ?_) | (refine gen_eqS rfl rfl rfl ?_) | (refine gen_neS rfl rfl rfl ?_) | (refine gen_convB rfl rfl (by kernel_rfl) (by kernel_rfl) ?_) | (apply call_l (first_ok (l := [_, _]) (Nat.le_of_ble_eq_true rfl)) (.cons (vm_lit _ rfl rfl (.cons (vm_int rfl) (.cons (vm_int rfl) .nil))) .nil)) | (apply call_l (first_ok (l := [_, _, _]) (Nat.le_of_ble_eq_true rfl)) (.cons (vm_lit _ rfl rfl (.cons (vm_int rfl) (.cons (vm_int rfl) (.cons (vm_int rfl) .nil)))) .nil)) | (apply call_l (first_ok (l := [_, _, _, _]) (Nat.le_of_ble_eq_true rfl)) (.cons (vm_lit _ rfl rfl (.cons (vm_int rfl) (.cons (vm_int rfl) (.cons (vm_int rfl) (.cons (vm_int rfl) .nil))))) .nil))) <;> (try (exfalso; omega; done)) <;> (with_reducible conv => whnf))
  all_goals ((try simp only [] at *); (try dsimp only [toN] at *))
  all_goals first
    | (refine ⟨k + 1, ⟨by omega, fun i hi => ?_⟩, by omega, [], rfl, ⟨⟨_, rfl, vm_p⟩, ⟨_, rfl, vm_p⟩, trivial⟩, trivial⟩
       rcases Nat.lt_or_ge i k with h | h
       · exact hk2 i h
       · obtain rfl : i = k := by omega
         unfold okAt; omega)
    | exact ret0 (vm_bool (nameB_at (i := k) (by omega) (by unfold okAt; omega)).symm)
    | exact ret0 (vm_bool (nameB_t (by omega) (fun i hi => hk2 i (by omega))).symm)
/-! ### The program's -/
set_option maxHeartbeats 4000000 in
theorem pIsName_ok {s : ByteArray} (hs : s.size ≤ 1000) : FnOK Try.prog 66 [Sg s] (B (nameB s)) [] := by
  refine fn_i hmix hT Try.f66 (by kernel_rfl) rfl (by kernel_rfl) ?_
  with_reducible conv => whnf
  repeat' ((first | (with_reducible refine ob_bys (by kernel_rfl) ?_) | (with_reducible refine ob_map (by kernel_rfl) ?_) | (with_reducible refine ob_ifc (by kernel_rfl) ?_) | (with_reducible refine branch_t ?_) | (with_reducible refine branch_f ?_) | (with_reducible refine branch_nt ?_) | (with_reducible refine branch_nf ?_) | (with_reducible refine branch_dec (fun _ => ?_) (fun _ => ?_)) | (with_reducible refine branch_ndec (fun _ => ?_) (fun _ => ?_)) | (with_reducible refine branch_bool (fun _ => ?_) (fun _ => ?_)) | (with_reducible refine arith_64 (by omega) ?_) | (with_reducible refine ob_i (by omega) (fun _ => ?_)) | (with_reducible refine ob_i (by unfold room; omega) (fun _ => ?_)) | (with_reducible refine ob_i (by (try simp only [toN_eq, Int.toNat_natCast] at *); (try dsimp only [toN] at *); omega) (fun _ => ?_)) | (with_reducible refine arith_64 (by (try simp only [toN_eq, Int.toNat_natCast] at *); (try dsimp only [toN] at *); omega) ?_) | (with_reducible refine ob_k rfl ?_) | ((with_reducible refine ob_k ?_ ?_); focus kernel_rfl) | (refine yield_i hmix hT rfl hL efr eps eag ebd rfl (by kernel_rfl) ?_) | (refine gen_lenS rfl rfl (by kernel_rfl) ?_) | (refine gen_ixS rfl rfl rfl (by kernel_rfl) (by first | omega | ((try simp only [toN_eq, Int.toNat_natCast] at *); (try dsimp only [toN] at *); omega)) ?_) | (refine gen_eqS rfl rfl rfl ?_) | (refine gen_neS rfl rfl rfl ?_) | (refine gen_convB rfl rfl (by kernel_rfl) (by kernel_rfl) ?_) | (apply call_l (first_ok (l := [_, _]) (Nat.le_of_ble_eq_true rfl)) (.cons (vm_lit _ rfl rfl (.cons (vm_int rfl) (.cons (vm_int rfl) .nil))) .nil)) | (apply call_l (first_ok (l := [_, _, _]) (Nat.le_of_ble_eq_true rfl)) (.cons (vm_lit _ rfl rfl (.cons (vm_int rfl) (.cons (vm_int rfl) (.cons (vm_int rfl) .nil)))) .nil)) | (apply call_l (first_ok (l := [_, _, _, _]) (Nat.le_of_ble_eq_true rfl)) (.cons (vm_lit _ rfl rfl (.cons (vm_int rfl) (.cons (vm_int rfl) (.cons (vm_int rfl) (.cons (vm_int rfl) .nil))))) .nil))) <;> (try (exfalso; omega; done)) <;> (with_reducible conv => whnf))
  refine loop_i hmix hT (fun k : Nat => ([(0, Sg s), (7, .sl 1 s.size fun i => U8 (sb s i)), (8, I s.size), (9, I k)], ⟨0, []⟩)) (fun k => k ≤ s.size ∧ ∀ i, i < k → okAt s i) (fun k => s.size - k) 0 ⟨by omega, fun i hi => by omega⟩ ?_ ?_
  · refine ⟨[], rfl, ⟨⟨_, rfl, vm_p⟩, ⟨_, rfl, vm_p⟩, ⟨_, rfl, vm_p⟩, ⟨_, rfl, vm_p⟩, trivial⟩, trivial⟩
  intro k ⟨hk1, hk2⟩
  have sbk := sb_b s k
  with_reducible conv => whnf
  repeat' ((first | (with_reducible refine ob_bys (by kernel_rfl) ?_) | (with_reducible refine ob_map (by kernel_rfl) ?_) | (with_reducible refine ob_ifc (by kernel_rfl) ?_) | (with_reducible refine branch_t ?_) | (with_reducible refine branch_f ?_) | (with_reducible refine branch_nt ?_) | (with_reducible refine branch_nf ?_) | (with_reducible refine branch_dec (fun _ => ?_) (fun _ => ?_)) | (with_reducible refine branch_ndec (fun _ => ?_) (fun _ => ?_)) | (with_reducible refine branch_bool (fun _ => ?_) (fun _ => ?_)) | (with_reducible refine arith_64 (by omega) ?_) | (with_reducible refine ob_i (by omega) (fun _ => ?_)) | (with_reducible refine ob_i (by unfold room; omega) (fun _ => ?_)) | (with_reducible refine ob_i (by (try simp only [toN_eq, Int.toNat_natCast] at *); (try dsimp only [toN] at *); omega) (fun _ => ?_)) | (with_reducible refine arith_64 (by (try simp only [toN_eq, Int.toNat_natCast] at *); (try dsimp only [toN] at *); omega) ?_) | (with_reducible refine ob_k rfl ?_) | ((with_reducible refine ob_k ?_ ?_); focus kernel_rfl) | (refine yield_i hmix hT rfl hL efr eps eag ebd rfl (by kernel_rfl) ?_) | (refine gen_lenS rfl rfl (by kernel_rfl) ?_) | (refine gen_ixS rfl rfl rfl (by kernel_rfl) (by first | omega | ((try simp only [toN_eq, Int.toNat_natCast] at *); (try dsimp only [toN] at *); omega)) ?_) | (refine gen_eqS rfl rfl rfl ?_) | (refine gen_neS rfl rfl rfl ?_) | (refine gen_convB rfl rfl (by kernel_rfl) (by kernel_rfl) ?_) | (apply call_u within_ok) | (apply call_l (first_ok (l := [_, _]) (Nat.le_of_ble_eq_true rfl)) (.cons (vm_lit _ rfl rfl (.cons (vm_int rfl) (.cons (vm_int rfl) .nil))) .nil)) | (apply call_l (first_ok (l := [_, _, _]) (Nat.le_of_ble_eq_true rfl)) (.cons (vm_lit _ rfl rfl (.cons (vm_int rfl) (.cons (vm_int rfl) (.cons (vm_int rfl) .nil)))) .nil)) | (apply call_l (first_ok (l := [_, _, _, _]) (Nat.le_of_ble_eq_true rfl)) (.cons (vm_lit _ rfl rfl (.cons (vm_int rfl) (.cons (vm_int rfl) (.cons (vm_int rfl) (.cons (vm_int rfl) .nil))))) .nil))) <;> (try (exfalso; omega; done)) <;> (with_reducible conv => whnf))
  all_goals ((try simp only [] at *); (try dsimp only [toN] at *))
  all_goals first
    | (refine ⟨k + 1, ⟨by omega, fun i hi => ?_⟩, by omega, [], rfl, ⟨⟨_, rfl, vm_p⟩, ⟨_, rfl, vm_p⟩, ⟨_, rfl, vm_p⟩, ⟨_, rfl, vm_p⟩, trivial⟩, trivial⟩
       rcases Nat.lt_or_ge i k with h | h
       · exact hk2 i h
       · obtain rfl : i = k := by omega
         unfold okAt; omega)
    | exact ret0 (vm_bool (nameB_at (i := k) (by omega) (by unfold okAt; omega)).symm)
    | (refine ret0 (vm_bool ?_)
       by_cases h : 1 ≤ s.size ∧ s.size ≤ 12
       · rw [nameB_t h fun i hi => hk2 i (by omega)]; exact decide_eq_true (by omega)
       · rw [nameB_len h]; exact decide_eq_false (by omega))
end Go.Proofs.Ytkliejppigfjiaa
