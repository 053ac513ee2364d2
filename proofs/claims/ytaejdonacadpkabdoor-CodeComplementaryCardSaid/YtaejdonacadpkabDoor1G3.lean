/-
  Chapter 1: pairs of codes, doubled and interleaved pairs (by contract).
  Conditions: none.
-/
import Derived.Test.YtaejdonacadpkabDoor1C4
import Derived.Test.YtaejdonacadpkabDoor1G2
import Derived.Test.YtaejdonacadpkabDoor1Q
namespace Go.Proofs.YtaejdonacadpkabDoor
open Go.RowKit Fx
/-! ### Pairs and their errors -/
def prE (a b : List Int) : Int := if codeE a ≠ 0 then codeE a else if codeE b ≠ 0 then codeE b else if decide ((a.length : Int) = b.length) = true then 0 else 10
theorem prE_first {a b : List Int} : firstErr [codeE a, codeE b, if decide ((a.length : Int) = b.length) = true then 0 else 10] = prE a b := first_three
def pkE (a b : List Int) : Int := if prE a b ≠ 0 then prE a b else if clV a b = 0 then 0 else 13
def pkV (a b : List Int) : Int := if prE a b ≠ 0 then 0 else clV a b
theorem pr_val {a b : List Int} (h : prE a b = 0) : codeE a = 0 ∧ codeE b = 0 ∧ a.length = b.length := by
  unfold prE at h
  split at h
  · rename_i c; exact absurd h c
  · rename_i c
    split at h
    · rename_i d; exact absurd h d
    · rename_i d
      split at h
      · rename_i e
        have := of_decide_eq_true e
        exact ⟨Decidable.not_not.1 c, Decidable.not_not.1 d, by omega⟩
      · cases h
theorem cCheckPair_ok {a b : List Int} (h1 : a.length ≤ 9223372036854775807) (h2 : b.length ≤ 9223372036854775807) : FnOK Tryd.prog 8 [ePr a b] (.tup [I (pkV a b), I (pkE a b)]) [] := by
  have CA := checkCode_ok (c := a) h1
  have CB := checkCode_ok (c := b) h2
  have F := first_ok (l := [codeE a, codeE b, if decide ((a.length : Int) = b.length) = true then 0 else 10]) (by simp)
  rw [prE_first] at F
  unfold pkV pkE
  by_cases e : prE a b = 0
  case neg =>
    rw [if_pos e, if_pos e]
    generalize prE a b = z at *
    generalize codeE a = x at *
    generalize codeE b = y at *
    refine fn_i hmix hT Tryd.f8 (by kernel_rfl) rfl (by kernel_rfl) ?_
    with_reducible conv => whnf
    repeat' ((first | (with_reducible refine branch_t ?_) | (with_reducible refine branch_f ?_) | (with_reducible refine branch_nt ?_) | (with_reducible refine branch_nf ?_) | (with_reducible refine branch_dec (fun _ => ?_) (fun _ => ?_)) | (with_reducible refine branch_ndec (fun _ => ?_) (fun _ => ?_)) | (with_reducible refine branch_bool (fun _ => ?_) (fun _ => ?_)) | (with_reducible refine arith_64 (by omega) ?_) | (with_reducible refine ob_i (by omega) (fun _ => ?_)) | (with_reducible refine ob_i (by unfold room; omega) (fun _ => ?_)) | (with_reducible refine ob_i (by (try simp only [] at *); (try dsimp only [toN] at *); omega) (fun _ => ?_)) | (with_reducible refine arith_64 (by (try simp only [toN_eq, Int.toNat_natCast] at *); (try dsimp only [toN] at *); omega) ?_) | (with_reducible refine ob_k rfl ?_) | ((with_reducible refine ob_k ?_ ?_); focus kernel_rfl) | (refine yield_i hmix hT rfl hL efr eps eag ebd rfl (by kernel_rfl) ?_) | (apply call_u CA) | (apply call_u CB) | (apply call_u unless_ok) | (apply call_l F (.cons (vm_lit _ rfl rfl (.cons (vm_int rfl) (.cons (vm_int rfl) (.cons (vm_int rfl) .nil)))) .nil)) | (apply call_l (first_ok (l := [_, _]) (Nat.le_of_ble_eq_true rfl)) (.cons (vm_lit _ rfl rfl (.cons (vm_int rfl) (.cons (vm_int rfl) .nil))) .nil)) | (apply call_l (first_ok (l := [_, _, _]) (Nat.le_of_ble_eq_true rfl)) (.cons (vm_lit _ rfl rfl (.cons (vm_int rfl) (.cons (vm_int rfl) (.cons (vm_int rfl) .nil)))) .nil)) | (apply call_l (first_ok (l := [_, _, _, _]) (Nat.le_of_ble_eq_true rfl)) (.cons (vm_lit _ rfl rfl (.cons (vm_int rfl) (.cons (vm_int rfl) (.cons (vm_int rfl) (.cons (vm_int rfl) .nil))))) .nil))) <;> (try (exfalso; omega; done)) <;> (with_reducible conv => whnf))
    exact ret0 vm_p
  obtain ⟨ea, eb, el⟩ := pr_val e
  obtain ⟨pa, a0, a1⟩ := codeE_pm ea
  obtain ⟨pb, b0, b1⟩ := codeE_pm eb
  have K := clash_ok pa pb (by omega) a0 el.symm
  rw [e] at F ⊢
  rw [if_neg (fun c => c rfl), if_neg (fun c => c rfl)]
  generalize clV a b = v at *
  by_cases c : v = 0
  · rw [if_pos c]
    subst c
    generalize codeE a = x at *
    generalize codeE b = y at *
    refine fn_i hmix hT Tryd.f8 (by kernel_rfl) rfl (by kernel_rfl) ?_
    with_reducible conv => whnf
    repeat' ((first | (with_reducible refine branch_t ?_) | (with_reducible refine branch_f ?_) | (with_reducible refine branch_nt ?_) | (with_reducible refine branch_nf ?_) | (with_reducible refine branch_dec (fun _ => ?_) (fun _ => ?_)) | (with_reducible refine branch_ndec (fun _ => ?_) (fun _ => ?_)) | (with_reducible refine branch_bool (fun _ => ?_) (fun _ => ?_)) | (with_reducible refine arith_64 (by omega) ?_) | (with_reducible refine ob_i (by omega) (fun _ => ?_)) | (with_reducible refine ob_i (by unfold room; omega) (fun _ => ?_)) | (with_reducible refine ob_i (by (try simp only [] at *); (try dsimp only [toN] at *); omega) (fun _ => ?_)) | (with_reducible refine arith_64 (by (try simp only [toN_eq, Int.toNat_natCast] at *); (try dsimp only [toN] at *); omega) ?_) | (with_reducible refine ob_k rfl ?_) | ((with_reducible refine ob_k ?_ ?_); focus kernel_rfl) | (refine yield_i hmix hT rfl hL efr eps eag ebd rfl (by kernel_rfl) ?_) | (apply call_u CA) | (apply call_u CB) | (apply call_u unless_ok) | (apply call_u K) | (apply call_l F (.cons (vm_lit _ rfl rfl (.cons (vm_int rfl) (.cons (vm_int rfl) (.cons (vm_int rfl) .nil)))) .nil)) | (apply call_l (first_ok (l := [_, _]) (Nat.le_of_ble_eq_true rfl)) (.cons (vm_lit _ rfl rfl (.cons (vm_int rfl) (.cons (vm_int rfl) .nil))) .nil)) | (apply call_l (first_ok (l := [_, _, _]) (Nat.le_of_ble_eq_true rfl)) (.cons (vm_lit _ rfl rfl (.cons (vm_int rfl) (.cons (vm_int rfl) (.cons (vm_int rfl) .nil)))) .nil)) | (apply call_l (first_ok (l := [_, _, _, _]) (Nat.le_of_ble_eq_true rfl)) (.cons (vm_lit _ rfl rfl (.cons (vm_int rfl) (.cons (vm_int rfl) (.cons (vm_int rfl) (.cons (vm_int rfl) .nil))))) .nil))) <;> (try (exfalso; omega; done)) <;> (with_reducible conv => whnf))
    exact ret0 vm_p
  · rw [if_neg c]
    have U := unless_ok (b := decide (v = 0)) (e := 13)
    rw [decide_eq_false c] at U
    generalize codeE a = x at *
    generalize codeE b = y at *
    refine fn_i hmix hT Tryd.f8 (by kernel_rfl) rfl (by kernel_rfl) ?_
    with_reducible conv => whnf
    repeat' ((first | (with_reducible refine branch_t ?_) | (with_reducible refine branch_f ?_) | (with_reducible refine branch_nt ?_) | (with_reducible refine branch_nf ?_) | (with_reducible refine branch_dec (fun _ => ?_) (fun _ => ?_)) | (with_reducible refine branch_ndec (fun _ => ?_) (fun _ => ?_)) | (with_reducible refine branch_bool (fun _ => ?_) (fun _ => ?_)) | (with_reducible refine arith_64 (by omega) ?_) | (with_reducible refine ob_i (by omega) (fun _ => ?_)) | (with_reducible refine ob_i (by unfold room; omega) (fun _ => ?_)) | (with_reducible refine ob_i (by (try simp only [] at *); (try dsimp only [toN] at *); omega) (fun _ => ?_)) | (with_reducible refine arith_64 (by (try simp only [toN_eq, Int.toNat_natCast] at *); (try dsimp only [toN] at *); omega) ?_) | (with_reducible refine ob_k rfl ?_) | ((with_reducible refine ob_k ?_ ?_); focus kernel_rfl) | (refine yield_i hmix hT rfl hL efr eps eag ebd rfl (by kernel_rfl) ?_) | (apply call_u CA) | (apply call_u CB) | (apply call_u unless_ok) | (apply call_u K) | (apply call_l F (.cons (vm_lit _ rfl rfl (.cons (vm_int rfl) (.cons (vm_int rfl) (.cons (vm_int rfl) .nil)))) .nil)) | (apply call_l (first_ok (l := [_, _]) (Nat.le_of_ble_eq_true rfl)) (.cons (vm_lit _ rfl rfl (.cons (vm_int rfl) (.cons (vm_int rfl) .nil))) .nil)) | (apply call_l (first_ok (l := [_, _, _]) (Nat.le_of_ble_eq_true rfl)) (.cons (vm_lit _ rfl rfl (.cons (vm_int rfl) (.cons (vm_int rfl) (.cons (vm_int rfl) .nil)))) .nil)) | (apply call_l (first_ok (l := [_, _, _, _]) (Nat.le_of_ble_eq_true rfl)) (.cons (vm_lit _ rfl rfl (.cons (vm_int rfl) (.cons (vm_int rfl) (.cons (vm_int rfl) (.cons (vm_int rfl) .nil))))) .nil))) <;> (try (exfalso; omega; done)) <;> (with_reducible conv => whnf))
    exact ret0 (vm_tup (.cons vm_p (.cons (vm_int (by rw [decide_eq_false c]; rfl)) .nil)))
theorem rCheckPair_all {a b : List Int} (h1 : a.length ≤ 9223372036854775807) (h2 : b.length ≤ 9223372036854775807) : FnOK Tryd.prog 12 [ePr a b] (.tup [I (pkV a b), I (pkE a b)]) [] := by
  have CA := refCheckCode_ok (c := a) h1
  have CB := refCheckCode_ok (c := b) h2
  unfold pkV pkE
  by_cases ea : codeE a = 0
  case neg =>
    have e : prE a b = codeE a := if_pos ea
    rw [e, if_pos ea, if_pos ea]
    generalize codeE a = x at *
    refine fn_i hmix hT Tryd.f12 (by kernel_rfl) rfl (by kernel_rfl) ?_
    with_reducible conv => whnf
    repeat' ((first | (with_reducible refine branch_t ?_) | (with_reducible refine branch_f ?_) | (with_reducible refine branch_nt ?_) | (with_reducible refine branch_nf ?_) | (with_reducible refine branch_dec (fun _ => ?_) (fun _ => ?_)) | (with_reducible refine branch_ndec (fun _ => ?_) (fun _ => ?_)) | (with_reducible refine branch_bool (fun _ => ?_) (fun _ => ?_)) | (with_reducible refine arith_64 (by omega) ?_) | (with_reducible refine ob_i (by omega) (fun _ => ?_)) | (with_reducible refine ob_i (by unfold room; omega) (fun _ => ?_)) | (with_reducible refine ob_i (by (try simp only [toN_eq, Int.toNat_natCast] at *); (try dsimp only [toN] at *); omega) (fun _ => ?_)) | (with_reducible refine arith_64 (by (try simp only [toN_eq, Int.toNat_natCast] at *); (try dsimp only [toN] at *); omega) ?_) | (with_reducible refine ob_k rfl ?_) | ((with_reducible refine ob_k ?_ ?_); focus kernel_rfl) | (refine yield_i hmix hT rfl hL efr eps eag ebd rfl (by kernel_rfl) ?_) | (apply call_u CA) | (apply call_u CB) | (apply call_l (first_ok (l := [_, _]) (Nat.le_of_ble_eq_true rfl)) (.cons (vm_lit _ rfl rfl (.cons (vm_int rfl) (.cons (vm_int rfl) .nil))) .nil)) | (apply call_l (first_ok (l := [_, _, _]) (Nat.le_of_ble_eq_true rfl)) (.cons (vm_lit _ rfl rfl (.cons (vm_int rfl) (.cons (vm_int rfl) (.cons (vm_int rfl) .nil)))) .nil)) | (apply call_l (first_ok (l := [_, _, _, _]) (Nat.le_of_ble_eq_true rfl)) (.cons (vm_lit _ rfl rfl (.cons (vm_int rfl) (.cons (vm_int rfl) (.cons (vm_int rfl) (.cons (vm_int rfl) .nil))))) .nil))) <;> (try (exfalso; omega; done)) <;> (with_reducible conv => whnf))
    exact ret0 vm_p
  by_cases eb : codeE b = 0
  case neg =>
    have e : prE a b = codeE b := by unfold prE; rw [if_neg (fun c => c ea), if_pos eb]
    rw [e, if_pos eb, if_pos eb]
    rw [ea] at CA
    generalize codeE b = x at *
    refine fn_i hmix hT Tryd.f12 (by kernel_rfl) rfl (by kernel_rfl) ?_
    with_reducible conv => whnf
    repeat' ((first | (with_reducible refine branch_t ?_) | (with_reducible refine branch_f ?_) | (with_reducible refine branch_nt ?_) | (with_reducible refine branch_nf ?_) | (with_reducible refine branch_dec (fun _ => ?_) (fun _ => ?_)) | (with_reducible refine branch_ndec (fun _ => ?_) (fun _ => ?_)) | (with_reducible refine branch_bool (fun _ => ?_) (fun _ => ?_)) | (with_reducible refine arith_64 (by omega) ?_) | (with_reducible refine ob_i (by omega) (fun _ => ?_)) | (with_reducible refine ob_i (by unfold room; omega) (fun _ => ?_)) | (with_reducible refine ob_i (by (try simp only [toN_eq, Int.toNat_natCast] at *); (try dsimp only [toN] at *); omega) (fun _ => ?_)) | (with_reducible refine arith_64 (by (try simp only [toN_eq, Int.toNat_natCast] at *); (try dsimp only [toN] at *); omega) ?_) | (with_reducible refine ob_k rfl ?_) | ((with_reducible refine ob_k ?_ ?_); focus kernel_rfl) | (refine yield_i hmix hT rfl hL efr eps eag ebd rfl (by kernel_rfl) ?_) | (apply call_u CA) | (apply call_u CB) | (apply call_l (first_ok (l := [_, _]) (Nat.le_of_ble_eq_true rfl)) (.cons (vm_lit _ rfl rfl (.cons (vm_int rfl) (.cons (vm_int rfl) .nil))) .nil)) | (apply call_l (first_ok (l := [_, _, _]) (Nat.le_of_ble_eq_true rfl)) (.cons (vm_lit _ rfl rfl (.cons (vm_int rfl) (.cons (vm_int rfl) (.cons (vm_int rfl) .nil)))) .nil)) | (apply call_l (first_ok (l := [_, _, _, _]) (Nat.le_of_ble_eq_true rfl)) (.cons (vm_lit _ rfl rfl (.cons (vm_int rfl) (.cons (vm_int rfl) (.cons (vm_int rfl) (.cons (vm_int rfl) .nil))))) .nil))) <;> (try (exfalso; omega; done)) <;> (with_reducible conv => whnf))
    exact ret0 vm_p
  have e : prE a b = if decide ((a.length : Int) = b.length) = true then 0 else 10 := by unfold prE; rw [if_neg (fun c => c ea), if_neg (fun c => c eb)]
  by_cases el : a.length = b.length
  case neg =>
    rw [decide_eq_false (by omega)] at e
    rw [e]
    rw [ea] at CA
    rw [eb] at CB
    refine fn_i hmix hT Tryd.f12 (by kernel_rfl) rfl (by kernel_rfl) ?_
    with_reducible conv => whnf
    repeat' ((first | (with_reducible refine branch_t ?_) | (with_reducible refine branch_f ?_) | (with_reducible refine branch_nt ?_) | (with_reducible refine branch_nf ?_) | (with_reducible refine branch_dec (fun _ => ?_) (fun _ => ?_)) | (with_reducible refine branch_ndec (fun _ => ?_) (fun _ => ?_)) | (with_reducible refine branch_bool (fun _ => ?_) (fun _ => ?_)) | (with_reducible refine arith_64 (by omega) ?_) | (with_reducible refine ob_i (by omega) (fun _ => ?_)) | (with_reducible refine ob_i (by unfold room; omega) (fun _ => ?_)) | (with_reducible refine ob_i (by (try simp only [toN_eq, Int.toNat_natCast] at *); (try dsimp only [toN] at *); omega) (fun _ => ?_)) | (with_reducible refine arith_64 (by (try simp only [toN_eq, Int.toNat_natCast] at *); (try dsimp only [toN] at *); omega) ?_) | (with_reducible refine ob_k rfl ?_) | ((with_reducible refine ob_k ?_ ?_); focus kernel_rfl) | (refine yield_i hmix hT rfl hL efr eps eag ebd rfl (by kernel_rfl) ?_) | (apply call_u CA) | (apply call_u CB) | (apply call_l (first_ok (l := [_, _]) (Nat.le_of_ble_eq_true rfl)) (.cons (vm_lit _ rfl rfl (.cons (vm_int rfl) (.cons (vm_int rfl) .nil))) .nil)) | (apply call_l (first_ok (l := [_, _, _]) (Nat.le_of_ble_eq_true rfl)) (.cons (vm_lit _ rfl rfl (.cons (vm_int rfl) (.cons (vm_int rfl) (.cons (vm_int rfl) .nil)))) .nil)) | (apply call_l (first_ok (l := [_, _, _, _]) (Nat.le_of_ble_eq_true rfl)) (.cons (vm_lit _ rfl rfl (.cons (vm_int rfl) (.cons (vm_int rfl) (.cons (vm_int rfl) (.cons (vm_int rfl) .nil))))) .nil))) <;> (try (exfalso; omega; done)) <;> (with_reducible conv => whnf))
    exact ret0 vm_p
  rw [decide_eq_true (by omega)] at e
  rw [e]
  exact checkPair_ok ea eb el
def grE (a b : List Int) : Int := if pkE a b ≠ 0 then pkE a b else if decide (2 * (a.length : Int) ≤ 32) = true then 0 else 8
@[reducible] def zPr : V := .agg [.sc (.slice none 0 0), .sc (.slice none 0 0)]
theorem grown_bad {a b : List Int} {OF : Nat} (h1 : a.length ≤ 34) (h2 : b.length ≤ 34) (h : grE a b ≠ 0) : FnOK Tryd.prog 45 [ePr a b, .fn OF []] (.tup [zPr, I (grE a b)]) [] := by
  have C := cCheckPair_ok (a := a) (b := b) (by omega) (by omega)
  have F := first_ok (l := [pkE a b, if decide (2 * (a.length : Int) ≤ 32) = true then 0 else 8]) (by simp)
  rw [first_two] at F
  change FnOK _ _ _ (I (grE a b)) [] at F
  generalize grE a b = z at *
  generalize pkE a b = x at *
  generalize pkV a b = y at *
  refine fn_i hmix hT Tryd.f45 (by kernel_rfl) rfl (by kernel_rfl) ?_
  with_reducible conv => whnf
  repeat' ((first | (with_reducible refine branch_t ?_) | (with_reducible refine branch_f ?_) | (with_reducible refine branch_nt ?_) | (with_reducible refine branch_nf ?_) | (with_reducible refine branch_dec (fun _ => ?_) (fun _ => ?_)) | (with_reducible refine branch_ndec (fun _ => ?_) (fun _ => ?_)) | (with_reducible refine branch_bool (fun _ => ?_) (fun _ => ?_)) | (with_reducible refine arith_64 (by omega) ?_) | (with_reducible refine ob_i (by omega) (fun _ => ?_)) | (with_reducible refine ob_i (by unfold room; omega) (fun _ => ?_)) | (with_reducible refine ob_i (by (try simp only [toN_eq, Int.toNat_natCast] at *); (try dsimp only [toN] at *); omega) (fun _ => ?_)) | (with_reducible refine arith_64 (by (try simp only [toN_eq, Int.toNat_natCast] at *); (try dsimp only [toN] at *); omega) ?_) | (with_reducible refine ob_k rfl ?_) | ((with_reducible refine ob_k ?_ ?_); focus kernel_rfl) | (refine yield_i hmix hT rfl hL efr eps eag ebd rfl (by kernel_rfl) ?_) | (apply call_u C) | (apply call_u unless_ok) | (apply call_l F (.cons (vm_lit _ rfl rfl (.cons (vm_int rfl) (.cons (vm_int rfl) .nil))) .nil)) | (apply call_l (first_ok (l := [_, _]) (Nat.le_of_ble_eq_true rfl)) (.cons (vm_lit _ rfl rfl (.cons (vm_int rfl) (.cons (vm_int rfl) .nil))) .nil)) | (apply call_l (first_ok (l := [_, _, _]) (Nat.le_of_ble_eq_true rfl)) (.cons (vm_lit _ rfl rfl (.cons (vm_int rfl) (.cons (vm_int rfl) (.cons (vm_int rfl) .nil)))) .nil)) | (apply call_l (first_ok (l := [_, _, _, _]) (Nat.le_of_ble_eq_true rfl)) (.cons (vm_lit _ rfl rfl (.cons (vm_int rfl) (.cons (vm_int rfl) (.cons (vm_int rfl) (.cons (vm_int rfl) .nil))))) .nil))) <;> (try (exfalso; omega; done)) <;> (with_reducible conv => whnf))
  exact ret0 vm_p
/-! ### Opposite codes -/
def negL (b : List Int) : List Int := b.map fun x => -x
theorem negL_len (b : List Int) : (negL b).length = b.length := by simp [negL]
theorem negL_at (b : List Int) (i : Nat) : (negL b).getD i 0 = -(b.getD i 0) := by
  unfold negL
  by_cases h : i < b.length
  · simp [List.getD_eq_getElem?_getD, h]
  · simp [List.getD_eq_getElem?_getD, List.getElem?_eq_none (by omega : b.length ≤ i)]
def oppF (b : List Int) (k i : Nat) : Int := if i < k then -(b.getD i 0) else b.getD i 0
theorem oppF_bd {b : List Int} (pb : pm b) (k i : Nat) : -1 ≤ oppF b k i ∧ oppF b k i ≤ 1 := by
  have := pb i
  unfold oppF
  split <;> omega
theorem row_one {S : Vw} {e0 e' : Nat → V} {a sz n : Nat} {v : V} {ty : TypeId} (b : Nat) (h : a = b) (k0 : vm S v (e' b)) (ke : ∀ i, i ≠ b → vm S (e0 i) (e' i)) : sbm S (.row sz n (setF e0 a v) ty) (.row sz n e' ty) := by
  subst h
  refine sbm_row rfl fun i _ => ?_
  by_cases c : i = a
  · rw [c, setF_at]; exact k0
  · rw [setF_ne c]; exact ke i c
theorem opposite_ok {b : List Int} (pb : pm b) (h0 : 0 < b.length) (hl : b.length ≤ 100) : FnOK Tryd.prog 77 [eInts b] (eInts (negL b)) [] := by
  have CL := clone_ok (l := b) h0 (by omega)
  refine fn_i hmix hT Tryd.f77 (by kernel_rfl) rfl (by kernel_rfl) ?_
  with_reducible conv => whnf
  repeat' ((first | (with_reducible refine branch_t ?_) | (with_reducible refine branch_f ?_) | (with_reducible refine branch_nt ?_) | (with_reducible refine branch_nf ?_) | (with_reducible refine branch_dec (fun _ => ?_) (fun _ => ?_)) | (with_reducible refine branch_ndec (fun _ => ?_) (fun _ => ?_)) | (with_reducible refine branch_bool (fun _ => ?_) (fun _ => ?_)) | (with_reducible refine arith_64 (by omega) ?_) | (with_reducible refine ob_i (by omega) (fun _ => ?_)) | (with_reducible refine ob_i (by unfold room; omega) (fun _ => ?_)) | (with_reducible refine ob_i (by (try simp only [toN_eq, Int.toNat_natCast] at *); (try dsimp only [toN] at *); omega) (fun _ => ?_)) | (with_reducible refine arith_64 (by (try simp only [toN_eq, Int.toNat_natCast] at *); (try dsimp only [toN] at *); omega) ?_) | (with_reducible refine ob_k rfl ?_) | ((with_reducible refine ob_k ?_ ?_); focus kernel_rfl) | (refine yield_i hmix hT rfl hL efr eps eag ebd rfl (by kernel_rfl) ?_) | (refine call_p CL (.cons vm_p .nil) pureI rv_own ?_) | (apply call_l (first_ok (l := [_, _]) (Nat.le_of_ble_eq_true rfl)) (.cons (vm_lit _ rfl rfl (.cons (vm_int rfl) (.cons (vm_int rfl) .nil))) .nil)) | (apply call_l (first_ok (l := [_, _, _]) (Nat.le_of_ble_eq_true rfl)) (.cons (vm_lit _ rfl rfl (.cons (vm_int rfl) (.cons (vm_int rfl) (.cons (vm_int rfl) .nil)))) .nil)) | (apply call_l (first_ok (l := [_, _, _, _]) (Nat.le_of_ble_eq_true rfl)) (.cons (vm_lit _ rfl rfl (.cons (vm_int rfl) (.cons (vm_int rfl) (.cons (vm_int rfl) (.cons (vm_int rfl) .nil))))) .nil))) <;> (try (exfalso; omega; done)) <;> (with_reducible conv => whnf))
  refine loop_i hmix hT (fun k : Nat => ([(3, .own 0 1 0 b.length), (8, I b.length), (9, I k)], ⟨1, [(0, .row 1 b.length (fun i => I (oppF b k i)) 3)]⟩)) (fun k => k ≤ b.length) (fun k => b.length - k) (0 : Nat) (by omega) ?_ ?_
  · refine ⟨[], rfl, ?_, ?_⟩ <;> repeat' (first | exact trivial | exact vm_p | exact vm_ptr rfl rfl rfl | exact vm_yld rfl rfl | exact vm_own rfl rfl rfl rfl | exact vm_own rfl rfl (by omega) (by omega) | exact vm_int (by omega) | exact vm_nil rfl | exact sbm_cells vmL_p | exact sbm_row rfl (fun _ _ => vm_p) | refine ⟨⟨_, rfl, ?_⟩, ?_⟩ | refine ⟨⟨_, _, _, rfl⟩, ?_⟩ | (refine sbm_loop ?_; rw [efr]) | refine sbm_cells ?_ | refine vmL.cons ?_ ?_ | exact vmL.nil | refine vm_own rfl rfl rfl ?_)
  intro k hk
  by_cases c : k < b.length
  · have tk : 0 + toN (k : Int) = k := by rw [toN_nat, Nat.zero_add]
    have ob := oppF_bd pb k (0 + toN (k : Int))
    with_reducible conv => whnf
    repeat' ((first | (with_reducible refine branch_t ?_) | (with_reducible refine branch_f ?_) | (with_reducible refine branch_nt ?_) | (with_reducible refine branch_nf ?_) | (with_reducible refine branch_dec (fun _ => ?_) (fun _ => ?_)) | (with_reducible refine branch_ndec (fun _ => ?_) (fun _ => ?_)) | (with_reducible refine branch_bool (fun _ => ?_) (fun _ => ?_)) | (with_reducible refine arith_64 (by omega) ?_) | (with_reducible refine ob_i (by omega) (fun _ => ?_)) | (with_reducible refine ob_i (by unfold room; omega) (fun _ => ?_)) | (with_reducible refine ob_i (by (try simp only [toN_eq, Int.toNat_natCast] at *); (try dsimp only [toN] at *); omega) (fun _ => ?_)) | (with_reducible refine arith_64 (by (try simp only [toN_eq, Int.toNat_natCast] at *); (try dsimp only [toN] at *); omega) ?_) | (with_reducible refine ob_k rfl ?_) | ((with_reducible refine ob_k ?_ ?_); focus kernel_rfl) | (refine yield_i hmix hT rfl hL efr eps eag ebd rfl (by kernel_rfl) ?_)  | (apply call_l (first_ok (l := [_, _]) (Nat.le_of_ble_eq_true rfl)) (.cons (vm_lit _ rfl rfl (.cons (vm_int rfl) (.cons (vm_int rfl) .nil))) .nil)) | (apply call_l (first_ok (l := [_, _, _]) (Nat.le_of_ble_eq_true rfl)) (.cons (vm_lit _ rfl rfl (.cons (vm_int rfl) (.cons (vm_int rfl) (.cons (vm_int rfl) .nil)))) .nil)) | (apply call_l (first_ok (l := [_, _, _, _]) (Nat.le_of_ble_eq_true rfl)) (.cons (vm_lit _ rfl rfl (.cons (vm_int rfl) (.cons (vm_int rfl) (.cons (vm_int rfl) (.cons (vm_int rfl) .nil))))) .nil))) <;> (try (exfalso; omega; done)) <;> (with_reducible conv => whnf))
    refine ⟨k + 1, by omega, by omega, ?_⟩
    refine ⟨[], rfl, ?_, ?_⟩ <;> repeat' (first | exact trivial | exact vm_p | exact vm_ptr rfl rfl rfl | exact vm_yld rfl rfl | exact vm_own rfl rfl rfl rfl | exact vm_own rfl rfl (by omega) (by omega) | exact vm_int (by omega) | exact vm_nil rfl | exact sbm_cells vmL_p | exact sbm_row rfl (fun _ _ => vm_p) | refine ⟨⟨_, rfl, ?_⟩, ?_⟩ | refine ⟨⟨_, _, _, rfl⟩, ?_⟩ | (refine sbm_loop ?_; rw [efr]) | refine sbm_cells ?_ | refine vmL.cons ?_ ?_ | exact vmL.nil | refine vm_own rfl rfl rfl ?_)
    refine row_one k tk (vm_int ?_) fun i hi => vm_int ?_
    · rw [tk]; unfold oppF; rw [if_neg (by omega), if_pos (by omega)]; omega
    · unfold oppF
      by_cases d : i < k
      · rw [if_pos d, if_pos (by omega)]
      · rw [if_neg d, if_neg (by omega)]
  · obtain rfl : k = b.length := by omega
    with_reducible conv => whnf
    repeat' ((first | (with_reducible refine branch_t ?_) | (with_reducible refine branch_f ?_) | (with_reducible refine branch_nt ?_) | (with_reducible refine branch_nf ?_) | (with_reducible refine branch_dec (fun _ => ?_) (fun _ => ?_)) | (with_reducible refine branch_ndec (fun _ => ?_) (fun _ => ?_)) | (with_reducible refine branch_bool (fun _ => ?_) (fun _ => ?_)) | (with_reducible refine arith_64 (by omega) ?_) | (with_reducible refine ob_i (by omega) (fun _ => ?_)) | (with_reducible refine ob_i (by unfold room; omega) (fun _ => ?_)) | (with_reducible refine ob_i (by (try simp only [toN_eq, Int.toNat_natCast] at *); (try dsimp only [toN] at *); omega) (fun _ => ?_)) | (with_reducible refine arith_64 (by (try simp only [toN_eq, Int.toNat_natCast] at *); (try dsimp only [toN] at *); omega) ?_) | (with_reducible refine ob_k rfl ?_) | ((with_reducible refine ob_k ?_ ?_); focus kernel_rfl) | (refine yield_i hmix hT rfl hL efr eps eag ebd rfl (by kernel_rfl) ?_)  | (apply call_l (first_ok (l := [_, _]) (Nat.le_of_ble_eq_true rfl)) (.cons (vm_lit _ rfl rfl (.cons (vm_int rfl) (.cons (vm_int rfl) .nil))) .nil)) | (apply call_l (first_ok (l := [_, _, _]) (Nat.le_of_ble_eq_true rfl)) (.cons (vm_lit _ rfl rfl (.cons (vm_int rfl) (.cons (vm_int rfl) (.cons (vm_int rfl) .nil)))) .nil)) | (apply call_l (first_ok (l := [_, _, _, _]) (Nat.le_of_ble_eq_true rfl)) (.cons (vm_lit _ rfl rfl (.cons (vm_int rfl) (.cons (vm_int rfl) (.cons (vm_int rfl) (.cons (vm_int rfl) .nil))))) .nil))) <;> (try (exfalso; omega; done)) <;> (with_reducible conv => whnf))
    refine ret0 (vm_frz trivial rfl kept_no (negL_len b).symm (by omega) fun i hi => vm_int ?_)
    rw [negL_len] at hi
    rw [Nat.zero_add, negL_at]
    exact if_pos hi
theorem rOpposite_ok {b : List Int} (pb : pm b) (hl : b.length ≤ 100) : FnOK Tryd.prog 17 [eInts b] (eInts (negL b)) [] := by
  refine fn_i hmix hT Tryd.f17 (by kernel_rfl) rfl (by kernel_rfl) ?_
  with_reducible conv => whnf
  repeat' ((first | (with_reducible refine branch_t ?_) | (with_reducible refine branch_f ?_) | (with_reducible refine branch_nt ?_) | (with_reducible refine branch_nf ?_) | (with_reducible refine branch_dec (fun _ => ?_) (fun _ => ?_)) | (with_reducible refine branch_ndec (fun _ => ?_) (fun _ => ?_)) | (with_reducible refine branch_bool (fun _ => ?_) (fun _ => ?_)) | (with_reducible refine arith_64 (by omega) ?_) | (with_reducible refine ob_i (by omega) (fun _ => ?_)) | (with_reducible refine ob_i (by unfold room; omega) (fun _ => ?_)) | (with_reducible refine ob_i (by (try simp only [toN_eq, Int.toNat_natCast] at *); (try dsimp only [toN] at *); omega) (fun _ => ?_)) | (with_reducible refine arith_64 (by (try simp only [toN_eq, Int.toNat_natCast] at *); (try dsimp only [toN] at *); omega) ?_) | (with_reducible refine ob_k rfl ?_) | ((with_reducible refine ob_k ?_ ?_); focus kernel_rfl) | (refine yield_i hmix hT rfl hL efr eps eag ebd rfl (by kernel_rfl) ?_)  | (apply call_l (first_ok (l := [_, _]) (Nat.le_of_ble_eq_true rfl)) (.cons (vm_lit _ rfl rfl (.cons (vm_int rfl) (.cons (vm_int rfl) .nil))) .nil)) | (apply call_l (first_ok (l := [_, _, _]) (Nat.le_of_ble_eq_true rfl)) (.cons (vm_lit _ rfl rfl (.cons (vm_int rfl) (.cons (vm_int rfl) (.cons (vm_int rfl) .nil)))) .nil)) | (apply call_l (first_ok (l := [_, _, _, _]) (Nat.le_of_ble_eq_true rfl)) (.cons (vm_lit _ rfl rfl (.cons (vm_int rfl) (.cons (vm_int rfl) (.cons (vm_int rfl) (.cons (vm_int rfl) .nil))))) .nil))) <;> (try (exfalso; omega; done)) <;> (with_reducible conv => whnf))
  refine loop_i hmix hT (fun k : Nat => ([(0, eInts b), (3, .own 0 1 0 k), (4, I k)], ⟨1, [(0, .row 1 k (fun i => I ((negL b).getD i 0)) 3)]⟩)) (fun k => k ≤ b.length) (fun k => b.length - k) (0 : Nat) (by omega) ?_ ?_
  · refine ⟨[(0, none)], rfl, ?_, ?_⟩ <;> repeat' (first | exact trivial | exact vm_p | exact vm_ptr rfl rfl rfl | exact vm_yld rfl rfl | exact vm_own rfl rfl rfl rfl | exact vm_own rfl rfl (by omega) (by omega) | exact vm_int (by omega) | exact vm_nil rfl | exact sbm_cells vmL_p | exact sbm_row rfl (fun _ _ => vm_p) | refine ⟨⟨_, rfl, ?_⟩, ?_⟩ | refine ⟨⟨_, _, _, rfl⟩, ?_⟩ | (refine sbm_loop ?_; rw [efr]) | refine sbm_cells ?_ | refine vmL.cons ?_ ?_ | exact vmL.nil | refine vm_own rfl rfl rfl ?_)
  intro k hk
  by_cases c : k < b.length
  · have ob := pb (toN (k : Int))
    with_reducible conv => whnf
    repeat' ((first | (with_reducible refine branch_t ?_) | (with_reducible refine branch_f ?_) | (with_reducible refine branch_nt ?_) | (with_reducible refine branch_nf ?_) | (with_reducible refine branch_dec (fun _ => ?_) (fun _ => ?_)) | (with_reducible refine branch_ndec (fun _ => ?_) (fun _ => ?_)) | (with_reducible refine branch_bool (fun _ => ?_) (fun _ => ?_)) | (with_reducible refine arith_64 (by omega) ?_) | (with_reducible refine ob_i (by omega) (fun _ => ?_)) | (with_reducible refine ob_i (by unfold room; omega) (fun _ => ?_)) | (with_reducible refine ob_i (by (try simp only [] at *); (try dsimp only [toN] at *); omega) (fun _ => ?_)) | (with_reducible refine arith_64 (by (try simp only [] at *); (try dsimp only [toN] at *); omega) ?_) | (with_reducible refine ob_k rfl ?_) | ((with_reducible refine ob_k ?_ ?_); focus kernel_rfl) | (refine yield_i hmix hT rfl hL efr eps eag ebd rfl (by kernel_rfl) ?_)  | (apply call_l (first_ok (l := [_, _]) (Nat.le_of_ble_eq_true rfl)) (.cons (vm_lit _ rfl rfl (.cons (vm_int rfl) (.cons (vm_int rfl) .nil))) .nil)) | (apply call_l (first_ok (l := [_, _, _]) (Nat.le_of_ble_eq_true rfl)) (.cons (vm_lit _ rfl rfl (.cons (vm_int rfl) (.cons (vm_int rfl) (.cons (vm_int rfl) .nil)))) .nil)) | (apply call_l (first_ok (l := [_, _, _, _]) (Nat.le_of_ble_eq_true rfl)) (.cons (vm_lit _ rfl rfl (.cons (vm_int rfl) (.cons (vm_int rfl) (.cons (vm_int rfl) (.cons (vm_int rfl) .nil))))) .nil))) <;> (try (exfalso; omega; done)) <;> (with_reducible conv => whnf))
    refine ⟨k + 1, by omega, by omega, ?_⟩
    refine ⟨[(0, some 2)], rfl, ?_, ?_⟩ <;> repeat' (first | exact trivial | exact vm_p | exact vm_ptr rfl rfl rfl | exact vm_yld rfl rfl | exact vm_own rfl rfl rfl rfl | exact vm_own rfl rfl (by omega) (by omega) | exact vm_int (by omega) | exact vm_nil rfl | exact sbm_cells vmL_p | exact sbm_row rfl (fun _ _ => vm_p) | refine ⟨⟨_, rfl, ?_⟩, ?_⟩ | refine ⟨⟨_, _, _, rfl⟩, ?_⟩ | (refine sbm_loop ?_; rw [efr]) | refine sbm_cells ?_ | refine vmL.cons ?_ ?_ | exact vmL.nil | refine vm_own rfl rfl rfl ?_)
    refine sbm_row rfl fun q hq => vm_snoc (e' := fun i => I ((negL b).getD i 0)) hq (fun _ _ => vm_p) (vm_int ?_)
    rw [negL_at, toN_nat]; omega
  · obtain rfl : k = b.length := by omega
    with_reducible conv => whnf
    repeat' ((first | (with_reducible refine branch_t ?_) | (with_reducible refine branch_f ?_) | (with_reducible refine branch_nt ?_) | (with_reducible refine branch_nf ?_) | (with_reducible refine branch_dec (fun _ => ?_) (fun _ => ?_)) | (with_reducible refine branch_ndec (fun _ => ?_) (fun _ => ?_)) | (with_reducible refine branch_bool (fun _ => ?_) (fun _ => ?_)) | (with_reducible refine arith_64 (by omega) ?_) | (with_reducible refine ob_i (by omega) (fun _ => ?_)) | (with_reducible refine ob_i (by unfold room; omega) (fun _ => ?_)) | (with_reducible refine ob_i (by (try simp only [toN_eq, Int.toNat_natCast] at *); (try dsimp only [toN] at *); omega) (fun _ => ?_)) | (with_reducible refine arith_64 (by (try simp only [toN_eq, Int.toNat_natCast] at *); (try dsimp only [toN] at *); omega) ?_) | (with_reducible refine ob_k rfl ?_) | ((with_reducible refine ob_k ?_ ?_); focus kernel_rfl) | (refine yield_i hmix hT rfl hL efr eps eag ebd rfl (by kernel_rfl) ?_)  | (apply call_l (first_ok (l := [_, _]) (Nat.le_of_ble_eq_true rfl)) (.cons (vm_lit _ rfl rfl (.cons (vm_int rfl) (.cons (vm_int rfl) .nil))) .nil)) | (apply call_l (first_ok (l := [_, _, _]) (Nat.le_of_ble_eq_true rfl)) (.cons (vm_lit _ rfl rfl (.cons (vm_int rfl) (.cons (vm_int rfl) (.cons (vm_int rfl) .nil)))) .nil)) | (apply call_l (first_ok (l := [_, _, _, _]) (Nat.le_of_ble_eq_true rfl)) (.cons (vm_lit _ rfl rfl (.cons (vm_int rfl) (.cons (vm_int rfl) (.cons (vm_int rfl) (.cons (vm_int rfl) .nil))))) .nil))) <;> (try (exfalso; omega; done)) <;> (with_reducible conv => whnf))
    exact ret0 (vm_frz trivial rfl kept_no (negL_len b).symm (by omega) fun i hi => vm_int (by rw [Nat.zero_add]))
/-! ### Interleaved codes -/
def ilK (a b : List Int) : Nat → List Int
  | 0 => []
  | k + 1 => ilK a b k ++ [a.getD k 0, b.getD k 0]
theorem ilK_len (a b : List Int) : ∀ k, (ilK a b k).length = 2 * k
  | 0 => rfl
  | k + 1 => by rw [ilK, List.length_append, ilK_len a b k]; rfl
theorem row_app {S : Vw} {l r : List Int} {n : Nat} {t : TypeId} (hn : n = (l ++ r).length) {e2 : Nat → V} (h : ∀ i, i < r.length → vm S (e2 i) (I (r.getD i 0))) : sbm S (.row 1 n (appF l.length (fun i => I (l.getD i 0)) e2) t) (.row 1 (l ++ r).length (fun i => I ((l ++ r).getD i 0)) t) := by
  refine sbm_row hn fun i hi => ?_
  rw [List.length_append] at hi
  rw [app_at]
  unfold appF
  by_cases c : i < l.length
  · rw [if_pos c, if_pos c]; exact vm_p
  · rw [if_neg c, if_neg c]; exact h _ (by omega)
theorem il_two {S : Vw} {x y x' y' : Int} (h1 : x = x') (h2 : y = y') : ∀ i, i < [x', y'].length → vm S (litF [I x, I y] i) (I ([x', y'].getD i 0)) := fun i hi => by
  subst h1; subst h2
  match i, hi with
  | 0, _ => exact vm_p
  | 1, _ => exact vm_p
  | n + 2, h => exact absurd h (by simp)
theorem inter1_ok {a b : List Int} (ha : a.length ≤ 100) (hb : b.length = a.length) : FnOK Tryd.prog 48 [eInts a, eInts b] (eInts (ilK a b a.length)) [] := by
  have il := ilK_len a b
  refine fn_i hmix hT Tryd.f48 (by kernel_rfl) rfl (by kernel_rfl) ?_
  with_reducible conv => whnf
  repeat' ((first | (with_reducible refine branch_t ?_) | (with_reducible refine branch_f ?_) | (with_reducible refine branch_nt ?_) | (with_reducible refine branch_nf ?_) | (with_reducible refine branch_dec (fun _ => ?_) (fun _ => ?_)) | (with_reducible refine branch_ndec (fun _ => ?_) (fun _ => ?_)) | (with_reducible refine branch_bool (fun _ => ?_) (fun _ => ?_)) | (with_reducible refine arith_64 (by omega) ?_) | (with_reducible refine ob_i (by omega) (fun _ => ?_)) | (with_reducible refine ob_i (by unfold room; omega) (fun _ => ?_)) | (with_reducible refine ob_i (by (try simp only [toN_eq, Int.toNat_natCast] at *); (try dsimp only [toN] at *); omega) (fun _ => ?_)) | (with_reducible refine arith_64 (by (try simp only [toN_eq, Int.toNat_natCast] at *); (try dsimp only [toN] at *); omega) ?_) | (with_reducible refine ob_k rfl ?_) | ((with_reducible refine ob_k ?_ ?_); focus kernel_rfl) | (refine yield_i hmix hT rfl hL efr eps eag ebd rfl (by kernel_rfl) ?_)  | (apply call_l (first_ok (l := [_, _]) (Nat.le_of_ble_eq_true rfl)) (.cons (vm_lit _ rfl rfl (.cons (vm_int rfl) (.cons (vm_int rfl) .nil))) .nil)) | (apply call_l (first_ok (l := [_, _, _]) (Nat.le_of_ble_eq_true rfl)) (.cons (vm_lit _ rfl rfl (.cons (vm_int rfl) (.cons (vm_int rfl) (.cons (vm_int rfl) .nil)))) .nil)) | (apply call_l (first_ok (l := [_, _, _, _]) (Nat.le_of_ble_eq_true rfl)) (.cons (vm_lit _ rfl rfl (.cons (vm_int rfl) (.cons (vm_int rfl) (.cons (vm_int rfl) (.cons (vm_int rfl) .nil))))) .nil))) <;> (try (exfalso; omega; done)) <;> (with_reducible conv => whnf))
  refine loop_i hmix hT (fun k : Nat => ([(0, eInts a), (1, eInts b), (5, .own 0 1 0 (ilK a b k).length), (8, I a.length), (9, I k)], ⟨1, [(0, .row 1 (ilK a b k).length (fun i => I ((ilK a b k).getD i 0)) 3)]⟩)) (fun k => k ≤ a.length) (fun k => a.length - k) (0 : Nat) (by omega) ?_ ?_
  · refine ⟨[(0, none)], rfl, ?_, ?_⟩ <;> repeat' (first | exact trivial | exact vm_p | exact vm_ptr rfl rfl rfl | exact vm_yld rfl rfl | exact vm_own rfl rfl rfl rfl | exact vm_own rfl rfl (by omega) (by omega) | exact vm_int (by omega) | exact vm_nil rfl | exact sbm_cells vmL_p | exact sbm_row rfl (fun _ _ => vm_p) | refine ⟨⟨_, rfl, ?_⟩, ?_⟩ | refine ⟨⟨_, _, _, rfl⟩, ?_⟩ | (refine sbm_loop ?_; rw [efr]) | refine sbm_cells ?_ | refine vmL.cons ?_ ?_ | exact vmL.nil | refine vm_own rfl rfl rfl ?_)
  intro k hk
  have ik := il k
  by_cases c : k < a.length
  · with_reducible conv => whnf
    repeat' ((first | (with_reducible refine branch_t ?_) | (with_reducible refine branch_f ?_) | (with_reducible refine branch_nt ?_) | (with_reducible refine branch_nf ?_) | (with_reducible refine branch_dec (fun _ => ?_) (fun _ => ?_)) | (with_reducible refine branch_ndec (fun _ => ?_) (fun _ => ?_)) | (with_reducible refine branch_bool (fun _ => ?_) (fun _ => ?_)) | (with_reducible refine arith_64 (by omega) ?_) | (with_reducible refine ob_i (by omega) (fun _ => ?_)) | (with_reducible refine ob_i (by unfold room; omega) (fun _ => ?_)) | (with_reducible refine ob_i (by (try simp only [] at *); (try dsimp only [toN] at *); omega) (fun _ => ?_)) | (with_reducible refine arith_64 (by (try simp only [] at *); (try dsimp only [toN] at *); omega) ?_) | (with_reducible refine ob_k rfl ?_) | ((with_reducible refine ob_k ?_ ?_); focus kernel_rfl) | (refine yield_i hmix hT rfl hL efr eps eag ebd rfl (by kernel_rfl) ?_)  | (apply call_l (first_ok (l := [_, _]) (Nat.le_of_ble_eq_true rfl)) (.cons (vm_lit _ rfl rfl (.cons (vm_int rfl) (.cons (vm_int rfl) .nil))) .nil)) | (apply call_l (first_ok (l := [_, _, _]) (Nat.le_of_ble_eq_true rfl)) (.cons (vm_lit _ rfl rfl (.cons (vm_int rfl) (.cons (vm_int rfl) (.cons (vm_int rfl) .nil)))) .nil)) | (apply call_l (first_ok (l := [_, _, _, _]) (Nat.le_of_ble_eq_true rfl)) (.cons (vm_lit _ rfl rfl (.cons (vm_int rfl) (.cons (vm_int rfl) (.cons (vm_int rfl) (.cons (vm_int rfl) .nil))))) .nil))) <;> (try (exfalso; omega; done)) <;> (with_reducible conv => whnf))
    refine ⟨k + 1, by omega, by omega, ?_⟩
    rw [show ilK a b (k + 1) = ilK a b k ++ [a.getD k 0, b.getD k 0] from rfl]
    refine ⟨[(0, some 2)], rfl, ?_, ?_⟩ <;> repeat' (first | exact trivial | exact vm_p | exact vm_ptr rfl rfl rfl | exact vm_yld rfl rfl | exact vm_own rfl rfl rfl rfl | exact vm_own rfl rfl (by omega) (by omega) | exact vm_int (by omega) | exact vm_nil rfl | exact sbm_cells vmL_p | exact sbm_row rfl (fun _ _ => vm_p) | refine ⟨⟨_, rfl, ?_⟩, ?_⟩ | refine ⟨⟨_, _, _, rfl⟩, ?_⟩ | (refine sbm_loop ?_; rw [efr]) | refine sbm_cells ?_ | refine vmL.cons ?_ ?_ | exact vmL.nil | refine vm_own rfl rfl rfl ?_)
    all_goals first | (rw [List.length_append]; rfl) | exact row_app (by rw [List.length_append]; rfl) (il_two (by rw [toN_nat]) (by rw [toN_nat]))
  · obtain rfl : k = a.length := by omega
    with_reducible conv => whnf
    repeat' ((first | (with_reducible refine branch_t ?_) | (with_reducible refine branch_f ?_) | (with_reducible refine branch_nt ?_) | (with_reducible refine branch_nf ?_) | (with_reducible refine branch_dec (fun _ => ?_) (fun _ => ?_)) | (with_reducible refine branch_ndec (fun _ => ?_) (fun _ => ?_)) | (with_reducible refine branch_bool (fun _ => ?_) (fun _ => ?_)) | (with_reducible refine arith_64 (by omega) ?_) | (with_reducible refine ob_i (by omega) (fun _ => ?_)) | (with_reducible refine ob_i (by unfold room; omega) (fun _ => ?_)) | (with_reducible refine ob_i (by (try simp only [toN_eq, Int.toNat_natCast] at *); (try dsimp only [toN] at *); omega) (fun _ => ?_)) | (with_reducible refine arith_64 (by (try simp only [toN_eq, Int.toNat_natCast] at *); (try dsimp only [toN] at *); omega) ?_) | (with_reducible refine ob_k rfl ?_) | ((with_reducible refine ob_k ?_ ?_); focus kernel_rfl) | (refine yield_i hmix hT rfl hL efr eps eag ebd rfl (by kernel_rfl) ?_)  | (apply call_l (first_ok (l := [_, _]) (Nat.le_of_ble_eq_true rfl)) (.cons (vm_lit _ rfl rfl (.cons (vm_int rfl) (.cons (vm_int rfl) .nil))) .nil)) | (apply call_l (first_ok (l := [_, _, _]) (Nat.le_of_ble_eq_true rfl)) (.cons (vm_lit _ rfl rfl (.cons (vm_int rfl) (.cons (vm_int rfl) (.cons (vm_int rfl) .nil)))) .nil)) | (apply call_l (first_ok (l := [_, _, _, _]) (Nat.le_of_ble_eq_true rfl)) (.cons (vm_lit _ rfl rfl (.cons (vm_int rfl) (.cons (vm_int rfl) (.cons (vm_int rfl) (.cons (vm_int rfl) .nil))))) .nil))) <;> (try (exfalso; omega; done)) <;> (with_reducible conv => whnf))
    exact ret0 (vm_frz trivial rfl kept_no rfl (by omega) fun i hi => vm_int (by rw [Nat.zero_add]))
theorem doub1_ok {a b : List Int} (ha : 0 < a.length ∧ a.length ≤ 100) (hb : b.length ≤ 100) : FnOK Tryd.prog 46 [eInts a, eInts b] (eInts (a ++ b)) [] := by
  have C := concat_ok ha hb
  refine fn_i hmix hT Tryd.f46 (by kernel_rfl) rfl (by kernel_rfl) ?_
  with_reducible conv => whnf
  repeat' ((first | (with_reducible refine branch_t ?_) | (with_reducible refine branch_f ?_) | (with_reducible refine branch_nt ?_) | (with_reducible refine branch_nf ?_) | (with_reducible refine branch_dec (fun _ => ?_) (fun _ => ?_)) | (with_reducible refine branch_ndec (fun _ => ?_) (fun _ => ?_)) | (with_reducible refine branch_bool (fun _ => ?_) (fun _ => ?_)) | (with_reducible refine arith_64 (by omega) ?_) | (with_reducible refine ob_i (by omega) (fun _ => ?_)) | (with_reducible refine ob_i (by unfold room; omega) (fun _ => ?_)) | (with_reducible refine ob_i (by (try simp only [toN_eq, Int.toNat_natCast] at *); (try dsimp only [toN] at *); omega) (fun _ => ?_)) | (with_reducible refine arith_64 (by (try simp only [toN_eq, Int.toNat_natCast] at *); (try dsimp only [toN] at *); omega) ?_) | (with_reducible refine ob_k rfl ?_) | ((with_reducible refine ob_k ?_ ?_); focus kernel_rfl) | (refine yield_i hmix hT rfl hL efr eps eag ebd rfl (by kernel_rfl) ?_)  | (apply call_l (first_ok (l := [_, _]) (Nat.le_of_ble_eq_true rfl)) (.cons (vm_lit _ rfl rfl (.cons (vm_int rfl) (.cons (vm_int rfl) .nil))) .nil)) | (apply call_l (first_ok (l := [_, _, _]) (Nat.le_of_ble_eq_true rfl)) (.cons (vm_lit _ rfl rfl (.cons (vm_int rfl) (.cons (vm_int rfl) (.cons (vm_int rfl) .nil)))) .nil)) | (apply call_l (first_ok (l := [_, _, _, _]) (Nat.le_of_ble_eq_true rfl)) (.cons (vm_lit _ rfl rfl (.cons (vm_int rfl) (.cons (vm_int rfl) (.cons (vm_int rfl) (.cons (vm_int rfl) .nil))))) .nil))) <;> (try (exfalso; omega; done)) <;> (with_reducible conv => whnf))
  refine call_p C (.cons (vm_lend rfl rfl (Nat.le_refl _) fun i hi => match i, hi with | 0, _ => vm_p | 1, _ => vm_p | n + 2, h => absurd h (by omega)) .nil) pureI rv_own ?_
  with_reducible conv => whnf
  repeat' ((first | (with_reducible refine branch_t ?_) | (with_reducible refine branch_f ?_) | (with_reducible refine branch_nt ?_) | (with_reducible refine branch_nf ?_) | (with_reducible refine branch_dec (fun _ => ?_) (fun _ => ?_)) | (with_reducible refine branch_ndec (fun _ => ?_) (fun _ => ?_)) | (with_reducible refine branch_bool (fun _ => ?_) (fun _ => ?_)) | (with_reducible refine arith_64 (by omega) ?_) | (with_reducible refine ob_i (by omega) (fun _ => ?_)) | (with_reducible refine ob_i (by unfold room; omega) (fun _ => ?_)) | (with_reducible refine ob_i (by (try simp only [toN_eq, Int.toNat_natCast] at *); (try dsimp only [toN] at *); omega) (fun _ => ?_)) | (with_reducible refine arith_64 (by (try simp only [toN_eq, Int.toNat_natCast] at *); (try dsimp only [toN] at *); omega) ?_) | (with_reducible refine ob_k rfl ?_) | ((with_reducible refine ob_k ?_ ?_); focus kernel_rfl) | (refine yield_i hmix hT rfl hL efr eps eag ebd rfl (by kernel_rfl) ?_)  | (apply call_l (first_ok (l := [_, _]) (Nat.le_of_ble_eq_true rfl)) (.cons (vm_lit _ rfl rfl (.cons (vm_int rfl) (.cons (vm_int rfl) .nil))) .nil)) | (apply call_l (first_ok (l := [_, _, _]) (Nat.le_of_ble_eq_true rfl)) (.cons (vm_lit _ rfl rfl (.cons (vm_int rfl) (.cons (vm_int rfl) (.cons (vm_int rfl) .nil)))) .nil)) | (apply call_l (first_ok (l := [_, _, _, _]) (Nat.le_of_ble_eq_true rfl)) (.cons (vm_lit _ rfl rfl (.cons (vm_int rfl) (.cons (vm_int rfl) (.cons (vm_int rfl) (.cons (vm_int rfl) .nil))))) .nil))) <;> (try (exfalso; omega; done)) <;> (with_reducible conv => whnf))
  exact ret0 (vm_frz trivial rfl kept_no rfl (by omega) fun i hi => vm_int (by rw [Nat.zero_add]))
theorem grown_good {a b x y : List Int} {OF : Nat} (h1 : a.length ≤ 34) (h2 : b.length ≤ 34) (h : grE a b = 0) (O1 : FnOK Tryd.prog OF [eInts a, eInts b] (eInts x) []) (O2 : FnOK Tryd.prog OF [eInts a, eInts (negL b)] (eInts y) []) (OP : FnOK Tryd.prog 77 [eInts b] (eInts (negL b)) []) : FnOK Tryd.prog 45 [ePr a b, .fn OF []] (.tup [ePr x y, I 0]) [] := by
  have C := cCheckPair_ok (a := a) (b := b) (by omega) (by omega)
  have F := first_ok (l := [pkE a b, if decide (2 * (a.length : Int) ≤ 32) = true then 0 else 8]) (by simp)
  rw [first_two] at F
  change FnOK _ _ _ (I (grE a b)) [] at F
  rw [h] at F
  generalize pkE a b = z at *
  generalize pkV a b = w at *
  refine fn_i hmix hT Tryd.f45 (by kernel_rfl) rfl (by kernel_rfl) ?_
  with_reducible conv => whnf
  repeat' ((first | (with_reducible refine branch_t ?_) | (with_reducible refine branch_f ?_) | (with_reducible refine branch_nt ?_) | (with_reducible refine branch_nf ?_) | (with_reducible refine branch_dec (fun _ => ?_) (fun _ => ?_)) | (with_reducible refine branch_ndec (fun _ => ?_) (fun _ => ?_)) | (with_reducible refine branch_bool (fun _ => ?_) (fun _ => ?_)) | (with_reducible refine arith_64 (by omega) ?_) | (with_reducible refine ob_i (by omega) (fun _ => ?_)) | (with_reducible refine ob_i (by unfold room; omega) (fun _ => ?_)) | (with_reducible refine ob_i (by (try simp only [] at *); (try dsimp only [toN] at *); omega) (fun _ => ?_)) | (with_reducible refine arith_64 (by (try simp only [toN_eq, Int.toNat_natCast] at *); (try dsimp only [toN] at *); omega) ?_) | (with_reducible refine ob_k rfl ?_) | ((with_reducible refine ob_k ?_ ?_); focus kernel_rfl) | (refine yield_i hmix hT rfl hL efr eps eag ebd rfl (by kernel_rfl) ?_) | (apply call_u C) | (apply call_u unless_ok) | (apply call_u O1) | (apply call_u O2) | (apply call_u OP) | (apply call_l F (.cons (vm_lit _ rfl rfl (.cons (vm_int rfl) (.cons (vm_int rfl) .nil))) .nil)) | (apply call_l (first_ok (l := [_, _]) (Nat.le_of_ble_eq_true rfl)) (.cons (vm_lit _ rfl rfl (.cons (vm_int rfl) (.cons (vm_int rfl) .nil))) .nil)) | (apply call_l (first_ok (l := [_, _, _]) (Nat.le_of_ble_eq_true rfl)) (.cons (vm_lit _ rfl rfl (.cons (vm_int rfl) (.cons (vm_int rfl) (.cons (vm_int rfl) .nil)))) .nil)) | (apply call_l (first_ok (l := [_, _, _, _]) (Nat.le_of_ble_eq_true rfl)) (.cons (vm_lit _ rfl rfl (.cons (vm_int rfl) (.cons (vm_int rfl) (.cons (vm_int rfl) (.cons (vm_int rfl) .nil))))) .nil))) <;> (try (exfalso; omega; done)) <;> (with_reducible conv => whnf))
  exact ret0 vm_p
end Go.Proofs.YtaejdonacadpkabDoor
