/-
  Chapter 3: edits: what is valid, copies (the document's functions and the program's, by contract).
  Conditions: none.
-/
import Derived.Test.Ytkliejppigfjiaa3Na
namespace Go.Proofs.Ytkliejppigfjiaa
open Go.RowKit Fx
structure Ed where
  no : Int
  kd : Int
  co : Int
  ro : Int
  by_ : ByteArray
def edD : Ed := ⟨0, 0, 0, 0, ⟨#[]⟩⟩
@[reducible] def eEd (e : Ed) : V := .agg [I e.no, I e.kd, I e.co, I e.ro, Sg e.by_]
@[reducible] def eEdsK (l : List Ed) (k : Nat) : V := .sl 5 k fun i => eEd (l.getD i edD)
@[reducible] def eEds (l : List Ed) : V := .sl 5 l.length fun i => eEd (l.getD i edD)
/-! ### Plain -/
def nmE (e : Ed) : Int := if nameB e.by_ = true then 0 else 4
def alE (e : Ed) : Int :=
  if ¬ (1 ≤ e.no ∧ e.no ≤ 1000000) then 2 else if e.kd = 0 then (if ¬ ((0 ≤ e.co ∧ e.co ≤ 9) ∧ 0 ≤ e.ro ∧ e.ro ≤ 11) then 2 else 0)
  else if e.kd = 1 then (if ¬ (0 ≤ e.co ∧ e.co ≤ 9) then 2 else if e.ro ≠ 0 then 3 else 0) else if e.kd = 2 then (if e.co ≠ 0 then 3 else 0) else 15
def edE (kn : Bool) (e : Ed) : Int := if alE e ≠ 0 then alE e else if e.kd = 2 ∧ kn = false then 6 else nmE e
def knB (l : List Ed) (k : Nat) (a : Int) : Bool := decide (∃ j, j < k ∧ (l.getD j edD).no = a)
theorem knB_zero {l : List Ed} {a : Int} : knB l 0 a = false := by
  unfold knB; exact decide_eq_false fun ⟨j, h, _⟩ => by omega
theorem knB_succ {l : List Ed} {k : Nat} {a : Int} : knB l (k + 1) a = if a = (l.getD k edD).no then true else knB l k a := by
  split
  · rename_i h; unfold knB; exact decide_eq_true ⟨k, by omega, h.symm⟩
  · rename_i h
    unfold knB
    refine decide_eq_decide.2 ⟨fun ⟨j, h1, h2⟩ => ⟨j, ?_, h2⟩, fun ⟨j, h1, h2⟩ => ⟨j, by omega, h2⟩⟩
    rcases Nat.lt_or_ge j k with h3 | h3
    · exact h3
    · obtain rfl : j = k := by omega
      exact (h h2.symm).elim
theorem least_of {p : Nat → Prop} (h : ∃ j, p j) : ∃ j, p j ∧ ∀ i, i < j → ¬ p i := by
  obtain ⟨j, hj⟩ := h
  induction j using Nat.strongRecOn with
  | _ j ih =>
    by_cases h : ∃ i, i < j ∧ p i
    · obtain ⟨i, h1, h2⟩ := h; exact ih i h1 h2
    · exact ⟨j, hj, fun i hi hp => h ⟨i, hi, hp⟩⟩
def fullE (l : List Ed) (k : Nat) (e : Ed) : Int := if edE (knB l k e.ro) e ≠ 0 then edE (knB l k e.ro) e else if 0 < k ∧ e.no ≤ (l.getD (k - 1) edD).no then 9 else 0
def ciN (f : Nat → Int) : Nat → Nat → Int × Int
  | 0, _ => (0, 0)
  | n + 1, s => if f s ≠ 0 then ((s : Int), f s) else ciN f n (s + 1)
theorem ciN_hit {f : Nat → Int} : ∀ (n s k : Nat), (∀ i, s ≤ i → i < k → f i = 0) → s ≤ k → k < s + n → f k ≠ 0 → ciN f n s = ((k : Int), f k)
  | 0, s, k, _, h1, h2, _ => by omega
  | n + 1, s, k, h0, h1, h2, h3 => by
    unfold ciN
    rcases Nat.eq_or_lt_of_le h1 with rfl | h
    · rw [if_pos h3]
    · rw [if_neg (by simp [h0 s (Nat.le_refl _) h])]
      exact ciN_hit n (s + 1) k (fun i hi => h0 i (by omega)) (by omega) (by omega) h3
theorem ciN_none {f : Nat → Int} : ∀ (n s : Nat), (∀ i, s ≤ i → i < s + n → f i = 0) → ciN f n s = (0, 0)
  | 0, s, _ => rfl
  | n + 1, s, h => by
    unfold ciN
    rw [if_neg (by simp [h s (Nat.le_refl _) (by omega)])]
    exact ciN_none n (s + 1) fun i h1 h2 => h i (by omega) (by omega)
theorem ciN_zero {f : Nat → Int} : ∀ (n s : Nat), (ciN f n s).2 = 0 → ∀ i, s ≤ i → i < s + n → f i = 0
  | 0, s, _, i, h1, h2 => by omega
  | n + 1, s, h, i, h1, h2 => by
    unfold ciN at h
    split at h
    · rename_i hf; exact (hf h).elim
    · rename_i hf
      rcases Nat.eq_or_lt_of_le h1 with rfl | h3
      · exact Decidable.byContradiction hf
      · exact ciN_zero n (s + 1) h i (by omega) (by omega)
def chkEds (l : List Ed) : Int × Int := if 20 < l.length then (0, 8) else ciN (fun i => fullE l i (l.getD i edD)) l.length 0
/-! ### The document's -/
theorem copyEdits_ok {l : List Ed} (hl : l.length ≤ 100000) : FnOK Try.prog 24 [eEds l] (eEds l) [] := by
  refine fn_i hmix hT Try.f24 (by kernel_rfl) rfl (by kernel_rfl) ?_
  with_reducible conv => whnf
  repeat' ((first | (with_reducible refine branch_t ?_) | (with_reducible refine branch_f ?_) | (with_reducible refine branch_nt ?_) | (with_reducible refine branch_nf ?_) | (with_reducible refine branch_dec (fun _ => ?_) (fun _ => ?_)) | (with_reducible refine branch_ndec (fun _ => ?_) (fun _ => ?_)) | (with_reducible refine branch_bool (fun _ => ?_) (fun _ => ?_)) | (with_reducible refine arith_64 (by omega) ?_) | (with_reducible refine ob_i (by omega) (fun _ => ?_)) | (with_reducible refine ob_i (by unfold room; omega) (fun _ => ?_)) | ((with_reducible refine ob_k ?_ ?_); focus kernel_rfl) ) <;> (try (exfalso; omega; done)) <;> (with_reducible conv => whnf))
  refine ret0 (vm_fr rfl rfl (by simp) (Nat.le_refl _) fun i hi => ?_)
  rw [appF_ge (by omega), Nat.sub_zero]
  exact vm_p
theorem fewEdits_ok {l : List Ed} (hl : l.length ≤ 9223372036854775807) : FnOK Try.prog 22 [eEds l] (B (decide (l.length ≤ 22 ∧ ∀ i, i < l.length → (l.getD i edD).by_.size ≤ 20))) [] := by
  by_cases h0 : 22 < l.length
  · rw [decide_eq_false (by omega)]
    refine fn_i hmix hT Try.f22 (by kernel_rfl) rfl (by kernel_rfl) ?_
    with_reducible conv => whnf
    repeat' ((first | (with_reducible refine branch_t ?_) | (with_reducible refine branch_f ?_) | (with_reducible refine branch_nt ?_) | (with_reducible refine branch_nf ?_) | (with_reducible refine branch_dec (fun _ => ?_) (fun _ => ?_)) | (with_reducible refine branch_ndec (fun _ => ?_) (fun _ => ?_)) | (with_reducible refine branch_bool (fun _ => ?_) (fun _ => ?_)) | (with_reducible refine arith_64 (by omega) ?_) | (with_reducible refine ob_i (by omega) (fun _ => ?_)) | (with_reducible refine ob_i (by unfold room; omega) (fun _ => ?_)) | (with_reducible refine ob_i (by (try simp only [toN_eq, Int.toNat_natCast] at *); (try dsimp only [toN] at *); omega) (fun _ => ?_)) | (with_reducible refine arith_64 (by (try simp only [toN_eq, Int.toNat_natCast] at *); (try dsimp only [toN] at *); omega) ?_) | (with_reducible refine ob_k rfl ?_) | ((with_reducible refine ob_k ?_ ?_); focus kernel_rfl) | (refine yield_i hmix hT rfl hL efr eps eag ebd rfl (by kernel_rfl) ?_)  | (apply call_l (first_ok (l := [_, _]) (Nat.le_of_ble_eq_true rfl)) (.cons (vm_lit _ rfl rfl (.cons (vm_int rfl) (.cons (vm_int rfl) .nil))) .nil)) | (apply call_l (first_ok (l := [_, _, _]) (Nat.le_of_ble_eq_true rfl)) (.cons (vm_lit _ rfl rfl (.cons (vm_int rfl) (.cons (vm_int rfl) (.cons (vm_int rfl) .nil)))) .nil)) | (apply call_l (first_ok (l := [_, _, _, _]) (Nat.le_of_ble_eq_true rfl)) (.cons (vm_lit _ rfl rfl (.cons (vm_int rfl) (.cons (vm_int rfl) (.cons (vm_int rfl) (.cons (vm_int rfl) .nil))))) .nil))) <;> (try (exfalso; omega; done)) <;> (with_reducible conv => whnf))
    exact ret0 vm_p
  refine fn_i hmix hT Try.f22 (by kernel_rfl) rfl (by kernel_rfl) ?_
  with_reducible conv => whnf
  repeat' ((first | (with_reducible refine branch_t ?_) | (with_reducible refine branch_f ?_) | (with_reducible refine branch_nt ?_) | (with_reducible refine branch_nf ?_) | (with_reducible refine branch_dec (fun _ => ?_) (fun _ => ?_)) | (with_reducible refine branch_ndec (fun _ => ?_) (fun _ => ?_)) | (with_reducible refine branch_bool (fun _ => ?_) (fun _ => ?_)) | (with_reducible refine arith_64 (by omega) ?_) | (with_reducible refine ob_i (by omega) (fun _ => ?_)) | (with_reducible refine ob_i (by unfold room; omega) (fun _ => ?_)) | (with_reducible refine ob_i (by (try simp only [toN_eq, Int.toNat_natCast] at *); (try dsimp only [toN] at *); omega) (fun _ => ?_)) | (with_reducible refine arith_64 (by (try simp only [toN_eq, Int.toNat_natCast] at *); (try dsimp only [toN] at *); omega) ?_) | (with_reducible refine ob_k rfl ?_) | ((with_reducible refine ob_k ?_ ?_); focus kernel_rfl) | (refine yield_i hmix hT rfl hL efr eps eag ebd rfl (by kernel_rfl) ?_)  | (apply call_l (first_ok (l := [_, _]) (Nat.le_of_ble_eq_true rfl)) (.cons (vm_lit _ rfl rfl (.cons (vm_int rfl) (.cons (vm_int rfl) .nil))) .nil)) | (apply call_l (first_ok (l := [_, _, _]) (Nat.le_of_ble_eq_true rfl)) (.cons (vm_lit _ rfl rfl (.cons (vm_int rfl) (.cons (vm_int rfl) (.cons (vm_int rfl) .nil)))) .nil)) | (apply call_l (first_ok (l := [_, _, _, _]) (Nat.le_of_ble_eq_true rfl)) (.cons (vm_lit _ rfl rfl (.cons (vm_int rfl) (.cons (vm_int rfl) (.cons (vm_int rfl) (.cons (vm_int rfl) .nil))))) .nil))) <;> (try (exfalso; omega; done)) <;> (with_reducible conv => whnf))
  refine loop_i hmix hT (fun k : Nat => ([(0, eEds l), (3, I k)], ⟨0, []⟩)) (fun k => k ≤ l.length ∧ ∀ i, i < k → (l.getD i edD).by_.size ≤ 20) (fun k => l.length - k) 0 ⟨by omega, fun i hi => by omega⟩ ?_ ?_
  · refine ⟨[], rfl, ⟨⟨_, rfl, vm_p⟩, ⟨_, rfl, vm_p⟩, trivial⟩, trivial⟩
  intro k ⟨hk1, hk2⟩
  with_reducible conv => whnf
  repeat' ((first | (with_reducible refine branch_t ?_) | (with_reducible refine branch_f ?_) | (with_reducible refine branch_nt ?_) | (with_reducible refine branch_nf ?_) | (with_reducible refine branch_dec (fun _ => ?_) (fun _ => ?_)) | (with_reducible refine branch_ndec (fun _ => ?_) (fun _ => ?_)) | (with_reducible refine branch_bool (fun _ => ?_) (fun _ => ?_)) | (with_reducible refine arith_64 (by omega) ?_) | (with_reducible refine ob_i (by omega) (fun _ => ?_)) | (with_reducible refine ob_i (by unfold room; omega) (fun _ => ?_)) | (with_reducible refine ob_i (by (try simp only [toN_eq, Int.toNat_natCast] at *); (try dsimp only [toN] at *); omega) (fun _ => ?_)) | (with_reducible refine arith_64 (by (try simp only [toN_eq, Int.toNat_natCast] at *); (try dsimp only [toN] at *); omega) ?_) | (with_reducible refine ob_k rfl ?_) | ((with_reducible refine ob_k ?_ ?_); focus kernel_rfl) | (refine yield_i hmix hT rfl hL efr eps eag ebd rfl (by kernel_rfl) ?_) | (refine gen_lenS rfl rfl (by kernel_rfl) ?_) | (refine gen_ixS rfl rfl rfl (by kernel_rfl) (by first | omega | ((try simp only [toN_eq, Int.toNat_natCast] at *); (try dsimp only [toN] at *); omega)) ?_) | (refine gen_eqS rfl rfl rfl ?_) | (refine gen_neS rfl rfl rfl ?_) | (refine gen_convB rfl rfl (by kernel_rfl) (by kernel_rfl) ?_) | (apply call_l (first_ok (l := [_, _]) (Nat.le_of_ble_eq_true rfl)) (.cons (vm_lit _ rfl rfl (.cons (vm_int rfl) (.cons (vm_int rfl) .nil))) .nil)) | (apply call_l (first_ok (l := [_, _, _]) (Nat.le_of_ble_eq_true rfl)) (.cons (vm_lit _ rfl rfl (.cons (vm_int rfl) (.cons (vm_int rfl) (.cons (vm_int rfl) .nil)))) .nil)) | (apply call_l (first_ok (l := [_, _, _, _]) (Nat.le_of_ble_eq_true rfl)) (.cons (vm_lit _ rfl rfl (.cons (vm_int rfl) (.cons (vm_int rfl) (.cons (vm_int rfl) (.cons (vm_int rfl) .nil))))) .nil))) <;> (try (exfalso; omega; done)) <;> (with_reducible conv => whnf))
  · ((try simp only [] at *); (try dsimp only [toN] at *))
    refine ret0 (vm_bool (decide_eq_false ?_).symm)
    intro h
    have := h.2 k (by omega)
    omega
  · ((try simp only [] at *); (try dsimp only [toN] at *))
    refine ⟨k + 1, ⟨by omega, fun i hi => ?_⟩, by omega, [], rfl, ⟨⟨_, rfl, vm_p⟩, ⟨_, rfl, vm_p⟩, trivial⟩, trivial⟩
    rcases Nat.lt_or_ge i k with h | h
    · exact hk2 i h
    · obtain rfl : i = k := by omega
      omega
  · exact ret0 (vm_bool (decide_eq_true ⟨by omega, fun i hi => hk2 i (by omega)⟩).symm)
theorem find_ok {l : List Ed} {k : Nat} {a : Int} (hl : k ≤ 100000) : ∃ n : Int, (n < 0 ↔ knB l k a = false) ∧ FnOK Try.prog 72 [eEdsK l k, I a] (I n) [] := by
  by_cases hk : knB l k a = true
  · have hk' := hk
    unfold knB at hk'
    have hex : ∃ j, j < k ∧ (l.getD j edD).no = a := of_decide_eq_true hk'
    obtain ⟨j, ⟨j1, j2⟩, j3⟩ : ∃ j, (j < k ∧ (l.getD j edD).no = a) ∧ ∀ i, i < j → (l.getD i edD).no ≠ a := by
      obtain ⟨j, h1, h2⟩ := least_of hex
      exact ⟨j, h1, fun i hi h => h2 i hi ⟨by omega, h⟩⟩
    refine ⟨(j : Int), by rw [hk]; simp, ?_⟩
    refine fn_i hmix hT Try.f72 (by kernel_rfl) rfl (by kernel_rfl) ?_
    with_reducible conv => whnf
    refine loop_i hmix hT (fun i : Nat => ([(0, eEdsK l k), (1, I a), (5, I i)], ⟨0, []⟩)) (fun i => i ≤ j) (fun i => j - i) 0 (by omega) ?_ ?_
    · refine ⟨[], rfl, ⟨⟨_, rfl, vm_p⟩, ⟨_, rfl, vm_p⟩, ⟨_, rfl, vm_p⟩, trivial⟩, trivial⟩
    intro i hi
    with_reducible conv => whnf
    repeat' ((first | (with_reducible refine branch_t ?_) | (with_reducible refine branch_f ?_) | (with_reducible refine branch_nt ?_) | (with_reducible refine branch_nf ?_) | (with_reducible refine branch_dec (fun _ => ?_) (fun _ => ?_)) | (with_reducible refine branch_ndec (fun _ => ?_) (fun _ => ?_)) | (with_reducible refine branch_bool (fun _ => ?_) (fun _ => ?_)) | (with_reducible refine arith_64 (by omega) ?_) | (with_reducible refine ob_i (by omega) (fun _ => ?_)) | (with_reducible refine ob_i (by unfold room; omega) (fun _ => ?_)) | (with_reducible refine ob_i (by (try simp only [toN_eq, Int.toNat_natCast] at *); (try dsimp only [toN] at *); omega) (fun _ => ?_)) | (with_reducible refine arith_64 (by (try simp only [toN_eq, Int.toNat_natCast] at *); (try dsimp only [toN] at *); omega) ?_) | (with_reducible refine ob_k rfl ?_) | ((with_reducible refine ob_k ?_ ?_); focus kernel_rfl) | (refine yield_i hmix hT rfl hL efr eps eag ebd rfl (by kernel_rfl) ?_)  | (apply call_l (first_ok (l := [_, _]) (Nat.le_of_ble_eq_true rfl)) (.cons (vm_lit _ rfl rfl (.cons (vm_int rfl) (.cons (vm_int rfl) .nil))) .nil)) | (apply call_l (first_ok (l := [_, _, _]) (Nat.le_of_ble_eq_true rfl)) (.cons (vm_lit _ rfl rfl (.cons (vm_int rfl) (.cons (vm_int rfl) (.cons (vm_int rfl) .nil)))) .nil)) | (apply call_l (first_ok (l := [_, _, _, _]) (Nat.le_of_ble_eq_true rfl)) (.cons (vm_lit _ rfl rfl (.cons (vm_int rfl) (.cons (vm_int rfl) (.cons (vm_int rfl) (.cons (vm_int rfl) .nil))))) .nil))) <;> (try (exfalso; omega; done)) <;> (with_reducible conv => whnf))
    · ((try simp only [] at *); (try dsimp only [toN] at *))
      obtain rfl : i = j := by
        rcases Nat.lt_or_ge i j with h | h
        · exact (j3 i h (by assumption)).elim
        · omega
      exact ret0 vm_p
    · ((try simp only [] at *); (try dsimp only [toN] at *))
      have : i ≠ j := by rintro rfl; contradiction
      refine ⟨i + 1, by omega, by omega, [], rfl, ⟨⟨_, rfl, vm_p⟩, ⟨_, rfl, vm_p⟩, ⟨_, rfl, vm_p⟩, trivial⟩, trivial⟩
  · have hk0 : knB l k a = false := by simpa using hk
    have hno : ∀ j, j < k → (l.getD j edD).no ≠ a := fun j h1 h2 => by
      unfold knB at hk0
      exact of_decide_eq_false hk0 ⟨j, h1, h2⟩
    refine ⟨-1, by rw [hk0]; simp, ?_⟩
    refine fn_i hmix hT Try.f72 (by kernel_rfl) rfl (by kernel_rfl) ?_
    with_reducible conv => whnf
    refine loop_i hmix hT (fun i : Nat => ([(0, eEdsK l k), (1, I a), (5, I i)], ⟨0, []⟩)) (fun i => i ≤ k) (fun i => k - i) 0 (by omega) ?_ ?_
    · refine ⟨[], rfl, ⟨⟨_, rfl, vm_p⟩, ⟨_, rfl, vm_p⟩, ⟨_, rfl, vm_p⟩, trivial⟩, trivial⟩
    intro i hi
    have hni := hno i
    with_reducible conv => whnf
    repeat' ((first | (with_reducible refine branch_t ?_) | (with_reducible refine branch_f ?_) | (with_reducible refine branch_nt ?_) | (with_reducible refine branch_nf ?_) | (with_reducible refine branch_dec (fun _ => ?_) (fun _ => ?_)) | (with_reducible refine branch_ndec (fun _ => ?_) (fun _ => ?_)) | (with_reducible refine branch_bool (fun _ => ?_) (fun _ => ?_)) | (with_reducible refine arith_64 (by omega) ?_) | (with_reducible refine ob_i (by omega) (fun _ => ?_)) | (with_reducible refine ob_i (by unfold room; omega) (fun _ => ?_)) | (with_reducible refine ob_i (by (try simp only [toN_eq, Int.toNat_natCast] at *); (try dsimp only [toN] at *); omega) (fun _ => ?_)) | (with_reducible refine arith_64 (by (try simp only [toN_eq, Int.toNat_natCast] at *); (try dsimp only [toN] at *); omega) ?_) | (with_reducible refine ob_k rfl ?_) | ((with_reducible refine ob_k ?_ ?_); focus kernel_rfl) | (refine yield_i hmix hT rfl hL efr eps eag ebd rfl (by kernel_rfl) ?_)  | (apply call_l (first_ok (l := [_, _]) (Nat.le_of_ble_eq_true rfl)) (.cons (vm_lit _ rfl rfl (.cons (vm_int rfl) (.cons (vm_int rfl) .nil))) .nil)) | (apply call_l (first_ok (l := [_, _, _]) (Nat.le_of_ble_eq_true rfl)) (.cons (vm_lit _ rfl rfl (.cons (vm_int rfl) (.cons (vm_int rfl) (.cons (vm_int rfl) .nil)))) .nil)) | (apply call_l (first_ok (l := [_, _, _, _]) (Nat.le_of_ble_eq_true rfl)) (.cons (vm_lit _ rfl rfl (.cons (vm_int rfl) (.cons (vm_int rfl) (.cons (vm_int rfl) (.cons (vm_int rfl) .nil))))) .nil))) <;> (try (exfalso; omega; done)) <;> (with_reducible conv => whnf))
    · ((try simp only [] at *); (try dsimp only [toN] at *))
      exact (hni (by omega) (by assumption)).elim
    · ((try simp only [] at *); (try dsimp only [toN] at *))
      refine ⟨i + 1, by omega, by omega, [], rfl, ⟨⟨_, rfl, vm_p⟩, ⟨_, rfl, vm_p⟩, ⟨_, rfl, vm_p⟩, trivial⟩, trivial⟩
    · exact ret0 vm_p
def aloneErr (e : Ed) : Int := if alE e ≠ 0 then alE e else nmE e
theorem rAloneErr_ok {e : Ed} (hs : e.by_.size ≤ 1000) : FnOK Try.prog 98 [eEd e] (I (aloneErr e)) [] := by
  refine fn_i hmix hT Try.f98 (by kernel_rfl) rfl (by kernel_rfl) ?_
  with_reducible conv => whnf
  repeat' ((first | (with_reducible refine branch_t ?_) | (with_reducible refine branch_f ?_) | (with_reducible refine branch_nt ?_) | (with_reducible refine branch_nf ?_) | (with_reducible refine branch_dec (fun _ => ?_) (fun _ => ?_)) | (with_reducible refine branch_ndec (fun _ => ?_) (fun _ => ?_)) | (with_reducible refine branch_bool (fun _ => ?_) (fun _ => ?_)) | (with_reducible refine arith_64 (by omega) ?_) | (with_reducible refine ob_i (by omega) (fun _ => ?_)) | (with_reducible refine ob_i (by unfold room; omega) (fun _ => ?_)) | (with_reducible refine ob_i (by (try simp only [toN_eq, Int.toNat_natCast] at *); (try dsimp only [toN] at *); omega) (fun _ => ?_)) | (with_reducible refine arith_64 (by (try simp only [toN_eq, Int.toNat_natCast] at *); (try dsimp only [toN] at *); omega) ?_) | (with_reducible refine ob_k rfl ?_) | ((with_reducible refine ob_k ?_ ?_); focus kernel_rfl) | (refine yield_i hmix hT rfl hL efr eps eag ebd rfl (by kernel_rfl) ?_) | (apply call_u bWithin_ok) | (apply call_u (rIsName_ok hs)) | (apply call_l (first_ok (l := [_, _]) (Nat.le_of_ble_eq_true rfl)) (.cons (vm_lit _ rfl rfl (.cons (vm_int rfl) (.cons (vm_int rfl) .nil))) .nil)) | (apply call_l (first_ok (l := [_, _, _]) (Nat.le_of_ble_eq_true rfl)) (.cons (vm_lit _ rfl rfl (.cons (vm_int rfl) (.cons (vm_int rfl) (.cons (vm_int rfl) .nil)))) .nil)) | (apply call_l (first_ok (l := [_, _, _, _]) (Nat.le_of_ble_eq_true rfl)) (.cons (vm_lit _ rfl rfl (.cons (vm_int rfl) (.cons (vm_int rfl) (.cons (vm_int rfl) (.cons (vm_int rfl) .nil))))) .nil))) <;> (try (exfalso; omega; done)) <;> (with_reducible conv => whnf))
  all_goals
    refine ret0 (vm_int ?_)
    unfold aloneErr alE nmE
    grind
theorem rEditErr_ok {l : List Ed} {k : Nat} {e : Ed} (hl : k ≤ 100000) (hs : e.by_.size ≤ 1000) : FnOK Try.prog 62 [eEdsK l k, eEd e] (I (fullE l k e)) [] := by
  obtain ⟨n, hn, FI⟩ := find_ok (l := l) (k := k) (a := e.ro) hl
  have al4 : alE e ≠ 4 := by unfold alE; split; omega; split; split <;> omega; split; split; omega; split <;> omega; split; split <;> omega; omega
  have ek : ((k : Int) - 1).toNat = k - 1 := by omega
  have es : aloneErr e = if alE e ≠ 0 then alE e else if nameB e.by_ = true then 0 else 4 := rfl
  have ef : fullE l k e = if (if alE e ≠ 0 then alE e else if e.kd = 2 ∧ knB l k e.ro = false then 6 else if nameB e.by_ = true then 0 else 4) ≠ 0 then (if alE e ≠ 0 then alE e else if e.kd = 2 ∧ knB l k e.ro = false then 6 else if nameB e.by_ = true then 0 else 4) else if 0 < k ∧ e.no ≤ (l.getD (k - 1) edD).no then 9 else 0 := rfl
  refine fn_i hmix hT Try.f62 (by kernel_rfl) rfl (by kernel_rfl) ?_
  with_reducible conv => whnf
  repeat' ((first | (with_reducible refine branch_t ?_) | (with_reducible refine branch_f ?_) | (with_reducible refine branch_nt ?_) | (with_reducible refine branch_nf ?_) | (with_reducible refine branch_dec (fun _ => ?_) (fun _ => ?_)) | (with_reducible refine branch_ndec (fun _ => ?_) (fun _ => ?_)) | (with_reducible refine branch_bool (fun _ => ?_) (fun _ => ?_)) | (with_reducible refine arith_64 (by omega) ?_) | (with_reducible refine ob_i (by omega) (fun _ => ?_)) | (with_reducible refine ob_i (by unfold room; omega) (fun _ => ?_)) | (with_reducible refine ob_i (by (try simp only [toN_eq] at *); (try dsimp only [toN] at *); omega) (fun _ => ?_)) | (with_reducible refine arith_64 (by (try simp only [toN_eq] at *); (try dsimp only [toN] at *); omega) ?_) | (with_reducible refine ob_k rfl ?_) | ((with_reducible refine ob_k ?_ ?_); focus kernel_rfl) | (refine yield_i hmix hT rfl hL efr eps eag ebd rfl (by kernel_rfl) ?_) | (apply call_u (rAloneErr_ok hs)) | (apply call_u (rIsName_ok hs)) | (apply call_u FI) | (apply call_l (first_ok (l := [_, _]) (Nat.le_of_ble_eq_true rfl)) (.cons (vm_lit _ rfl rfl (.cons (vm_int rfl) (.cons (vm_int rfl) .nil))) .nil)) | (apply call_l (first_ok (l := [_, _, _]) (Nat.le_of_ble_eq_true rfl)) (.cons (vm_lit _ rfl rfl (.cons (vm_int rfl) (.cons (vm_int rfl) (.cons (vm_int rfl) .nil)))) .nil)) | (apply call_l (first_ok (l := [_, _, _, _]) (Nat.le_of_ble_eq_true rfl)) (.cons (vm_lit _ rfl rfl (.cons (vm_int rfl) (.cons (vm_int rfl) (.cons (vm_int rfl) (.cons (vm_int rfl) .nil))))) .nil))) <;> (try (exfalso; omega; done)) <;> (with_reducible conv => whnf))
  all_goals
    (try simp only [toN_eq, ek] at *)
    refine ret0 (vm_int ?_)
    grind
theorem rCheckEdits_ok {l : List Ed} (hl : l.length ≤ 100000) (hs : ∀ i, i < l.length → (l.getD i edD).by_.size ≤ 1000) : FnOK Try.prog 26 [eEds l] (.tup [I (chkEds l).1, I (chkEds l).2]) [] := by
  by_cases h0 : 20 < l.length
  · have e0 : chkEds l = (0, 8) := by unfold chkEds; rw [if_pos h0]
    rw [e0]
    refine fn_i hmix hT Try.f26 (by kernel_rfl) rfl (by kernel_rfl) ?_
    with_reducible conv => whnf
    repeat' ((first | (with_reducible refine branch_t ?_) | (with_reducible refine branch_f ?_) | (with_reducible refine branch_nt ?_) | (with_reducible refine branch_nf ?_) | (with_reducible refine branch_dec (fun _ => ?_) (fun _ => ?_)) | (with_reducible refine branch_ndec (fun _ => ?_) (fun _ => ?_)) | (with_reducible refine branch_bool (fun _ => ?_) (fun _ => ?_)) | (with_reducible refine arith_64 (by omega) ?_) | (with_reducible refine ob_i (by omega) (fun _ => ?_)) | (with_reducible refine ob_i (by unfold room; omega) (fun _ => ?_)) | (with_reducible refine ob_i (by (try simp only [toN_eq, Int.toNat_natCast] at *); (try dsimp only [toN] at *); omega) (fun _ => ?_)) | (with_reducible refine arith_64 (by (try simp only [toN_eq, Int.toNat_natCast] at *); (try dsimp only [toN] at *); omega) ?_) | (with_reducible refine ob_k rfl ?_) | ((with_reducible refine ob_k ?_ ?_); focus kernel_rfl) | (refine yield_i hmix hT rfl hL efr eps eag ebd rfl (by kernel_rfl) ?_)  | (apply call_l (first_ok (l := [_, _]) (Nat.le_of_ble_eq_true rfl)) (.cons (vm_lit _ rfl rfl (.cons (vm_int rfl) (.cons (vm_int rfl) .nil))) .nil)) | (apply call_l (first_ok (l := [_, _, _]) (Nat.le_of_ble_eq_true rfl)) (.cons (vm_lit _ rfl rfl (.cons (vm_int rfl) (.cons (vm_int rfl) (.cons (vm_int rfl) .nil)))) .nil)) | (apply call_l (first_ok (l := [_, _, _, _]) (Nat.le_of_ble_eq_true rfl)) (.cons (vm_lit _ rfl rfl (.cons (vm_int rfl) (.cons (vm_int rfl) (.cons (vm_int rfl) (.cons (vm_int rfl) .nil))))) .nil))) <;> (try (exfalso; omega; done)) <;> (with_reducible conv => whnf))
    exact ret0 vm_p
  have e0 : chkEds l = ciN (fun i => fullE l i (l.getD i edD)) l.length 0 := by unfold chkEds; rw [if_neg h0]
  rw [e0]
  refine fn_i hmix hT Try.f26 (by kernel_rfl) rfl (by kernel_rfl) ?_
  with_reducible conv => whnf
  repeat' ((first | (with_reducible refine branch_t ?_) | (with_reducible refine branch_f ?_) | (with_reducible refine branch_nt ?_) | (with_reducible refine branch_nf ?_) | (with_reducible refine branch_dec (fun _ => ?_) (fun _ => ?_)) | (with_reducible refine branch_ndec (fun _ => ?_) (fun _ => ?_)) | (with_reducible refine branch_bool (fun _ => ?_) (fun _ => ?_)) | (with_reducible refine arith_64 (by omega) ?_) | (with_reducible refine ob_i (by omega) (fun _ => ?_)) | (with_reducible refine ob_i (by unfold room; omega) (fun _ => ?_)) | (with_reducible refine ob_i (by (try simp only [toN_eq, Int.toNat_natCast] at *); (try dsimp only [toN] at *); omega) (fun _ => ?_)) | (with_reducible refine arith_64 (by (try simp only [toN_eq, Int.toNat_natCast] at *); (try dsimp only [toN] at *); omega) ?_) | (with_reducible refine ob_k rfl ?_) | ((with_reducible refine ob_k ?_ ?_); focus kernel_rfl) | (refine yield_i hmix hT rfl hL efr eps eag ebd rfl (by kernel_rfl) ?_)  | (apply call_l (first_ok (l := [_, _]) (Nat.le_of_ble_eq_true rfl)) (.cons (vm_lit _ rfl rfl (.cons (vm_int rfl) (.cons (vm_int rfl) .nil))) .nil)) | (apply call_l (first_ok (l := [_, _, _]) (Nat.le_of_ble_eq_true rfl)) (.cons (vm_lit _ rfl rfl (.cons (vm_int rfl) (.cons (vm_int rfl) (.cons (vm_int rfl) .nil)))) .nil)) | (apply call_l (first_ok (l := [_, _, _, _]) (Nat.le_of_ble_eq_true rfl)) (.cons (vm_lit _ rfl rfl (.cons (vm_int rfl) (.cons (vm_int rfl) (.cons (vm_int rfl) (.cons (vm_int rfl) .nil))))) .nil))) <;> (try (exfalso; omega; done)) <;> (with_reducible conv => whnf))
  refine loop_i hmix hT (fun k : Nat => ([(0, eEds l), (4, I k)], ⟨0, []⟩)) (fun k => k ≤ l.length ∧ ∀ i, i < k → fullE l i (l.getD i edD) = 0) (fun k => l.length - k) 0 ⟨by omega, fun i hi => by omega⟩ ?_ ?_
  · refine ⟨[], rfl, ⟨⟨_, rfl, vm_p⟩, ⟨_, rfl, vm_p⟩, trivial⟩, trivial⟩
  intro k ⟨hk1, hk2⟩
  have hsk := hs k
  with_reducible conv => whnf
  repeat' ((first | (with_reducible refine branch_t ?_) | (with_reducible refine branch_f ?_) | (with_reducible refine branch_nt ?_) | (with_reducible refine branch_nf ?_) | (with_reducible refine branch_dec (fun _ => ?_) (fun _ => ?_)) | (with_reducible refine branch_ndec (fun _ => ?_) (fun _ => ?_)) | (with_reducible refine branch_bool (fun _ => ?_) (fun _ => ?_)) | (with_reducible refine arith_64 (by omega) ?_) | (with_reducible refine ob_i (by omega) (fun _ => ?_)) | (with_reducible refine ob_i (by unfold room; omega) (fun _ => ?_)) | (with_reducible refine ob_i (by (try simp only [toN_eq, Int.toNat_natCast] at *); (try dsimp only [toN] at *); omega) (fun _ => ?_)) | (with_reducible refine arith_64 (by (try simp only [toN_eq, Int.toNat_natCast] at *); (try dsimp only [toN] at *); omega) ?_) | (with_reducible refine ob_k rfl ?_) | ((with_reducible refine ob_k ?_ ?_); focus kernel_rfl) | (refine yield_i hmix hT rfl hL efr eps eag ebd rfl (by kernel_rfl) ?_)  | (apply call_l (first_ok (l := [_, _]) (Nat.le_of_ble_eq_true rfl)) (.cons (vm_lit _ rfl rfl (.cons (vm_int rfl) (.cons (vm_int rfl) .nil))) .nil)) | (apply call_l (first_ok (l := [_, _, _]) (Nat.le_of_ble_eq_true rfl)) (.cons (vm_lit _ rfl rfl (.cons (vm_int rfl) (.cons (vm_int rfl) (.cons (vm_int rfl) .nil)))) .nil)) | (apply call_l (first_ok (l := [_, _, _, _]) (Nat.le_of_ble_eq_true rfl)) (.cons (vm_lit _ rfl rfl (.cons (vm_int rfl) (.cons (vm_int rfl) (.cons (vm_int rfl) (.cons (vm_int rfl) .nil))))) .nil))) <;> (try (exfalso; omega; done)) <;> (with_reducible conv => whnf))
  · refine call_l (rEditErr_ok (l := l) (k := k) (e := l.getD k edD) (by omega) (hsk (by omega))) (.cons (vm_sl ?_ fun i hi => ?_) (.cons ?_ .nil)) ?_
    · first | rfl | omega | (simp only [toN_eq]; omega)
    · show vm _ (eEd (l.getD (0 + i) edD)) _
      rw [Nat.zero_add]; exact vm_p
    · simp only []; exact vm_p
    with_reducible conv => whnf
    repeat' ((first | (with_reducible refine branch_t ?_) | (with_reducible refine branch_f ?_) | (with_reducible refine branch_nt ?_) | (with_reducible refine branch_nf ?_) | (with_reducible refine branch_dec (fun _ => ?_) (fun _ => ?_)) | (with_reducible refine branch_ndec (fun _ => ?_) (fun _ => ?_)) | (with_reducible refine branch_bool (fun _ => ?_) (fun _ => ?_)) | (with_reducible refine arith_64 (by omega) ?_) | (with_reducible refine ob_i (by omega) (fun _ => ?_)) | (with_reducible refine ob_i (by unfold room; omega) (fun _ => ?_)) | (with_reducible refine ob_i (by (try simp only [] at *); (try dsimp only [toN] at *); omega) (fun _ => ?_)) | (with_reducible refine arith_64 (by (try simp only [toN_eq, Int.toNat_natCast] at *); (try dsimp only [toN] at *); omega) ?_) | (with_reducible refine ob_k rfl ?_) | ((with_reducible refine ob_k ?_ ?_); focus kernel_rfl) | (refine yield_i hmix hT rfl hL efr eps eag ebd rfl (by kernel_rfl) ?_)  | (apply call_l (first_ok (l := [_, _]) (Nat.le_of_ble_eq_true rfl)) (.cons (vm_lit _ rfl rfl (.cons (vm_int rfl) (.cons (vm_int rfl) .nil))) .nil)) | (apply call_l (first_ok (l := [_, _, _]) (Nat.le_of_ble_eq_true rfl)) (.cons (vm_lit _ rfl rfl (.cons (vm_int rfl) (.cons (vm_int rfl) (.cons (vm_int rfl) .nil)))) .nil)) | (apply call_l (first_ok (l := [_, _, _, _]) (Nat.le_of_ble_eq_true rfl)) (.cons (vm_lit _ rfl rfl (.cons (vm_int rfl) (.cons (vm_int rfl) (.cons (vm_int rfl) (.cons (vm_int rfl) .nil))))) .nil))) <;> (try (exfalso; omega; done)) <;> (with_reducible conv => whnf))
    · refine ret0 (vm_tup (.cons (vm_int ?_) (.cons (vm_int ?_) .nil)))
      · rw [ciN_hit l.length 0 k (fun i _ hi => hk2 i hi) (by omega) (by omega) (by assumption)]
      · rw [ciN_hit l.length 0 k (fun i _ hi => hk2 i hi) (by omega) (by omega) (by assumption)]
    · refine ⟨k + 1, ⟨by omega, fun i hi => ?_⟩, by omega, [], rfl, ⟨⟨_, rfl, vm_p⟩, ⟨_, rfl, vm_p⟩, trivial⟩, trivial⟩
      rcases Nat.lt_or_ge i k with h | h
      · exact hk2 i h
      · obtain rfl : i = k := by omega
        omega
  · rw [ciN_none l.length 0 fun i _ hi => hk2 i (by omega)]
    exact ret0 vm_p
theorem rEditsErr_ok {l : List Ed} (hl : l.length ≤ 100000) (hs : ∀ i, i < l.length → (l.getD i edD).by_.size ≤ 1000) : FnOK Try.prog 34 [eEds l] (I (chkEds l).2) [] := by
  refine fn_i hmix hT Try.f34 (by kernel_rfl) rfl (by kernel_rfl) ?_
  with_reducible conv => whnf
  repeat' ((first | (with_reducible refine branch_t ?_) | (with_reducible refine branch_f ?_) | (with_reducible refine branch_nt ?_) | (with_reducible refine branch_nf ?_) | (with_reducible refine branch_dec (fun _ => ?_) (fun _ => ?_)) | (with_reducible refine branch_ndec (fun _ => ?_) (fun _ => ?_)) | (with_reducible refine branch_bool (fun _ => ?_) (fun _ => ?_)) | (with_reducible refine arith_64 (by omega) ?_) | (with_reducible refine ob_i (by omega) (fun _ => ?_)) | (with_reducible refine ob_i (by unfold room; omega) (fun _ => ?_)) | (with_reducible refine ob_i (by (try simp only [toN_eq, Int.toNat_natCast] at *); (try dsimp only [toN] at *); omega) (fun _ => ?_)) | (with_reducible refine arith_64 (by (try simp only [toN_eq, Int.toNat_natCast] at *); (try dsimp only [toN] at *); omega) ?_) | (with_reducible refine ob_k rfl ?_) | ((with_reducible refine ob_k ?_ ?_); focus kernel_rfl) | (refine yield_i hmix hT rfl hL efr eps eag ebd rfl (by kernel_rfl) ?_) | (apply call_u (rCheckEdits_ok hl hs)) | (apply call_l (first_ok (l := [_, _]) (Nat.le_of_ble_eq_true rfl)) (.cons (vm_lit _ rfl rfl (.cons (vm_int rfl) (.cons (vm_int rfl) .nil))) .nil)) | (apply call_l (first_ok (l := [_, _, _]) (Nat.le_of_ble_eq_true rfl)) (.cons (vm_lit _ rfl rfl (.cons (vm_int rfl) (.cons (vm_int rfl) (.cons (vm_int rfl) .nil)))) .nil)) | (apply call_l (first_ok (l := [_, _, _, _]) (Nat.le_of_ble_eq_true rfl)) (.cons (vm_lit _ rfl rfl (.cons (vm_int rfl) (.cons (vm_int rfl) (.cons (vm_int rfl) (.cons (vm_int rfl) .nil))))) .nil))) <;> (try (exfalso; omega; done)) <;> (with_reducible conv => whnf))
  exact ret0 vm_p
end Go.Proofs.Ytkliejppigfjiaa
