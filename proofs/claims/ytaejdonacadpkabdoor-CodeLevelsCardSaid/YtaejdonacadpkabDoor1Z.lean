/-
  Chapter 1: lines that are combined; the law of it (by contract).
  Conditions: none.
-/
import Derived.Test.YtaejdonacadpkabDoor1Y
import Derived.Test.YtaejdonacadpkabDoor1M
namespace Go.Proofs.YtaejdonacadpkabDoor
open Go.RowKit Fx
def cbV (a b : Ln) (i : Nat) : Int × Int := ((a.vs.getD i (0, 0)).1 + (b.vs.getD i (0, 0)).1, (a.vs.getD i (0, 0)).2 + (b.vs.getD i (0, 0)).2)
def cbM (a b : Ln) (i : Nat) : Int := a.ms.getD i 0 + b.ms.getD i 0
def cbL (a b : Ln) : Ln := ⟨(List.range a.vs.length).map (cbV a b), (List.range a.vs.length).map (cbM a b)⟩
def cbI (a b : Ln) (i : Nat) : Bool := valB (cbV a b i) (cbM a b i)
def cbE (a b : Ln) : Int := if lnE a ≠ 0 then lnE a else if lnE b ≠ 0 then lnE b else if a.vs.length = b.vs.length then 0 else 13
theorem cb_bd {a : Ln} (v : a.Val) {i : Nat} (h : i < a.vs.length) : ((-1000000000 ≤ (a.vs.getD i (0, 0)).1 ∧ (a.vs.getD i (0, 0)).1 ≤ 1000000000) ∧ (-1000000000 ≤ (a.vs.getD i (0, 0)).2 ∧ (a.vs.getD i (0, 0)).2 ≤ 1000000000)) ∧ (0 ≤ a.ms.getD i 0 ∧ a.ms.getD i 0 ≤ 64) := by
  have := valB_iff.1 (v.a i h)
  exact ⟨⟨this.1, this.2.1⟩, this.2.2⟩
@[reducible] def stB (a b : Ln) (k : Nat) : SW := ⟨6, [(5, .row 1 k (fun i => I (cbM a b i)) 3), (4, .row 2 k (fun i => eP (cbV a b i)) 78), (3, .cells [.own 4 2 0 k, .own 5 1 0 k] 43), (2, .cells [.sc (.slice none 0 0), .sc (.slice none 0 0)] 43), (1, .cells [ePs b.vs, eInts b.ms] 43), (0, .cells [ePs a.vs, eInts a.ms] 43)]⟩
/-! ### The document's own -/
/-! ### The law -/
theorem first_false {p : Nat → Bool} : ∀ n : Nat, (∀ i, i < n → p i = true) ∨ ∃ j, j < n ∧ p j = false ∧ ∀ i, i < j → p i = true
  | 0 => .inl fun i h => by omega
  | n + 1 => by
    rcases first_false (p := p) n with h | ⟨j, h1, h2, h3⟩
    · cases e : p n with
      | true =>
        refine .inl fun i hi => ?_
        by_cases q : i = n
        · subst q; exact e
        · exact h i (by omega)
      | false => exact .inr ⟨n, by omega, e, h⟩
    · exact .inr ⟨j, by omega, h2, h3⟩
theorem fewLine_ok {l : Ln} (_h1 : l.vs.length ≤ 9223372036854775807) (_h2 : l.ms.length ≤ 9223372036854775807) : FnOK Tryd.prog 20 [eL l] (B (decide (l.vs.length ≤ 70 ∧ l.ms.length ≤ 70))) [] := by
  refine fn_i hmix hT Tryd.f20 (by kernel_rfl) rfl (by kernel_rfl) ?_
  with_reducible conv => whnf
  repeat' ((first | (with_reducible refine branch_t ?_) | (with_reducible refine branch_f ?_) | (with_reducible refine branch_nt ?_) | (with_reducible refine branch_nf ?_) | (with_reducible refine branch_dec (fun _ => ?_) (fun _ => ?_)) | (with_reducible refine branch_ndec (fun _ => ?_) (fun _ => ?_)) | (with_reducible refine branch_bool (fun _ => ?_) (fun _ => ?_)) | (with_reducible refine arith_64 (by omega) ?_) | (with_reducible refine ob_i (by omega) (fun _ => ?_)) | (with_reducible refine ob_i (by unfold room; omega) (fun _ => ?_)) | (with_reducible refine ob_i (by (try simp only [toN_eq, Int.toNat_natCast] at *); (try dsimp only [toN] at *); omega) (fun _ => ?_)) | (with_reducible refine arith_64 (by (try simp only [toN_eq, Int.toNat_natCast] at *); (try dsimp only [toN] at *); omega) ?_) | (with_reducible refine ob_k rfl ?_) | ((with_reducible refine ob_k ?_ ?_); focus kernel_rfl) | (refine yield_i hmix hT rfl hL efr eps eag ebd rfl (by kernel_rfl) ?_)  | (apply call_l (first_ok (l := [_, _]) (Nat.le_of_ble_eq_true rfl)) (.cons (vm_lit _ rfl rfl (.cons (vm_int rfl) (.cons (vm_int rfl) .nil))) .nil)) | (apply call_l (first_ok (l := [_, _, _]) (Nat.le_of_ble_eq_true rfl)) (.cons (vm_lit _ rfl rfl (.cons (vm_int rfl) (.cons (vm_int rfl) (.cons (vm_int rfl) .nil)))) .nil)) | (apply call_l (first_ok (l := [_, _, _, _]) (Nat.le_of_ble_eq_true rfl)) (.cons (vm_lit _ rfl rfl (.cons (vm_int rfl) (.cons (vm_int rfl) (.cons (vm_int rfl) (.cons (vm_int rfl) .nil))))) .nil))) <;> (try (exfalso; omega; done)) <;> (with_reducible conv => whnf))
  all_goals exact ret0 (vm_bool (by grind))
theorem copyLine_ok {l : Ln} (h1 : l.vs.length ≤ 70) (h2 : l.ms.length ≤ 70) : FnOK Tryd.prog 22 [eL l] (eL l) [] := by
  have G := copyGausses_ok (l := l.vs) (by omega)
  have N := copyInts_ok (l := l.ms) (by omega)
  refine fn_i hmix hT Tryd.f22 (by kernel_rfl) rfl (by kernel_rfl) ?_
  with_reducible conv => whnf
  repeat' ((first | (with_reducible refine branch_t ?_) | (with_reducible refine branch_f ?_) | (with_reducible refine branch_nt ?_) | (with_reducible refine branch_nf ?_) | (with_reducible refine branch_dec (fun _ => ?_) (fun _ => ?_)) | (with_reducible refine branch_ndec (fun _ => ?_) (fun _ => ?_)) | (with_reducible refine branch_bool (fun _ => ?_) (fun _ => ?_)) | (with_reducible refine arith_64 (by omega) ?_) | (with_reducible refine ob_i (by omega) (fun _ => ?_)) | (with_reducible refine ob_i (by unfold room; omega) (fun _ => ?_)) | (with_reducible refine ob_i (by (try simp only [] at *); (try dsimp only [toN] at *); omega) (fun _ => ?_)) | (with_reducible refine arith_64 (by (try simp only [toN_eq, Int.toNat_natCast] at *); (try dsimp only [toN] at *); omega) ?_) | (with_reducible refine ob_k rfl ?_) | ((with_reducible refine ob_k ?_ ?_); focus kernel_rfl) | (refine yield_i hmix hT rfl hL efr eps eag ebd rfl (by kernel_rfl) ?_) | (apply call_u G) | (apply call_u N) | (apply call_l (first_ok (l := [_, _]) (Nat.le_of_ble_eq_true rfl)) (.cons (vm_lit _ rfl rfl (.cons (vm_int rfl) (.cons (vm_int rfl) .nil))) .nil)) | (apply call_l (first_ok (l := [_, _, _]) (Nat.le_of_ble_eq_true rfl)) (.cons (vm_lit _ rfl rfl (.cons (vm_int rfl) (.cons (vm_int rfl) (.cons (vm_int rfl) .nil)))) .nil)) | (apply call_l (first_ok (l := [_, _, _, _]) (Nat.le_of_ble_eq_true rfl)) (.cons (vm_lit _ rfl rfl (.cons (vm_int rfl) (.cons (vm_int rfl) (.cons (vm_int rfl) (.cons (vm_int rfl) .nil))))) .nil))) <;> (try (exfalso; omega; done)) <;> (with_reducible conv => whnf))
  exact ret0 vm_p
theorem cbL_len (a b : Ln) : (cbL a b).vs.length = a.vs.length ∧ (cbL a b).ms.length = a.vs.length := by simp [cbL]
end Go.Proofs.YtaejdonacadpkabDoor
