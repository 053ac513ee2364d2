/-
  Chapter 3: ionograms: what is valid, copies, frequencies (the document's functions and the program's, by contract).
  Conditions: none.
-/
import Derived.Test.Ytkliejppigfjiaa3Tbl
import Derived.Test.YtkliejppigfjiaaFr
namespace Go.Proofs.Ytkliejppigfjiaa
open Go.RowKit Fx
@[reducible] def eCell (c : Int × Int) : V := .agg [I c.1, I c.2]
@[reducible] def eCol (l : List (Int × Int)) : V := .sl 2 l.length (fun i => eCell (l.getD i (0, 0)))
@[reducible] def eCols (l : List (List (Int × Int))) : V := .sl 1 l.length fun i => eCol (l.getD i [])
structure Gram where
  first : Int
  step : Int
  cols : List (List (Int × Int))
@[reducible] def eGram (g : Gram) : V := .agg [I g.first, I g.step, eCols g.cols]
/-- No slice is longer than any can be. -/
structure Gram.Ok (g : Gram) : Prop where
  cols : g.cols.length ≤ 9223372036854775807
  rows : ∀ i, (g.cols.getD i []).length ≤ 9223372036854775807

/-! ### Plain -/
def fewB (g : Gram) : Bool := decide (g.cols.length ≤ 12 ∧ ∀ i, i < g.cols.length → (g.cols.getD i []).length ≤ 14)
def cellErr (c : Int × Int) : Int := if ¬ (0 ≤ c.1 ∧ c.1 ≤ 255) then 2 else if ¬ (0 ≤ c.2 ∧ c.2 ≤ 3) then 15 else 0
def firstErr : List Int → Int
  | [] => 0
  | e :: l => if e ≠ 0 then e else firstErr l
def findErr {α : Type} (f : α → Int) : List α → Int → Int × Int
  | [], _ => (0, 0)
  | x :: l, k => if f x ≠ 0 then (k, f x) else findErr f l (k + 1)
def columnErr (l : List (Int × Int)) (rows : Int) : Int := if l.length = 0 ∨ (l.length : Int) ≠ rows then 10 else if 12 < l.length then 8 else (findErr cellErr l 0).2
def checkGram (g : Gram) : Int × Int :=
  if ¬ (1 ≤ g.first ∧ g.first ≤ 3000) ∨ ¬ (1 ≤ g.step ∧ g.step ≤ 3000) then (0, 2) else if g.cols.length = 0 then (0, 10) else if 10 < g.cols.length then (0, 8)
  else findErr (fun c => columnErr c (g.cols.getD 0 []).length) g.cols 0
theorem findErr_hit {α : Type} (f : α → Int) (d : α) : ∀ (l : List α) (k : Nat) (s : Int), (∀ i, i < k → f (l.getD i d) = 0) → k < l.length → f (l.getD k d) ≠ 0 → findErr f l s = (s + k, f (l.getD k d))
  | [], k, s, _, h, _ => by simp at h
  | x :: l, 0, s, _, _, h => by
    have h' : f x ≠ 0 := by simpa using h
    simp [findErr, h']
  | x :: l, k + 1, s, h0, h1, h2 => by
    have hx : f x = 0 := by simpa using h0 0 (by omega)
    have := findErr_hit f d l k (s + 1) (fun i hi => by simpa using h0 (i + 1) (by omega)) (by simpa using h1) (by simpa using h2)
    simp only [findErr, hx, ne_eq, not_true_eq_false, if_false, this]
    simp; omega
theorem findErr_none {α : Type} (f : α → Int) (d : α) : ∀ (l : List α) (s : Int), (∀ i, i < l.length → f (l.getD i d) = 0) → findErr f l s = (0, 0)
  | [], s, _ => rfl
  | x :: l, s, h => by
    have hx : f x = 0 := by simpa using h 0 (by simp)
    simp only [findErr, hx, ne_eq, not_true_eq_false, if_false]
    exact findErr_none f d l (s + 1) fun i hi => by simpa using h (i + 1) (by simpa using hi)
theorem firstErr_hit : ∀ (l : List Int) (k : Nat), (∀ i, i < k → l.getD i 0 = 0) → k < l.length → l.getD k 0 ≠ 0 → firstErr l = l.getD k 0
  | [], k, _, h, _ => by simp at h
  | x :: l, 0, _, _, h => by
    have h' : x ≠ 0 := by simpa using h
    simp [firstErr, h']
  | x :: l, k + 1, h0, h1, h2 => by
    have hx : x = 0 := by simpa using h0 0 (by omega)
    have := firstErr_hit l k (fun i hi => by simpa using h0 (i + 1) (by omega)) (by simpa using h1) (by simpa using h2)
    simp only [firstErr, hx, ne_eq, not_true_eq_false, if_false, this]
    simp
theorem firstErr_none : ∀ (l : List Int), (∀ i, i < l.length → l.getD i 0 = 0) → firstErr l = 0
  | [], _ => rfl
  | x :: l, h => by
    have hx : x = 0 := by simpa using h 0 (by simp)
    simp only [firstErr, hx, ne_eq, not_true_eq_false, if_false]
    exact firstErr_none l fun i hi => by simpa using h (i + 1) (by simpa using hi)

/-! ### Small functions -/
theorem within_ok {n lo hi : Int} : FnOK Try.prog 47 [I n, I lo, I hi] (B (decide (lo ≤ n ∧ n ≤ hi))) [] := by
  refine fn_i hmix hT Try.f47 (by kernel_rfl) rfl (by kernel_rfl) ?_
  with_reducible conv => whnf
  repeat' ((first | (with_reducible refine branch_t ?_) | (with_reducible refine branch_f ?_) | (with_reducible refine branch_nt ?_) | (with_reducible refine branch_nf ?_) | (with_reducible refine branch_dec (fun _ => ?_) (fun _ => ?_)) | (with_reducible refine branch_ndec (fun _ => ?_) (fun _ => ?_)) | (with_reducible refine branch_bool (fun _ => ?_) (fun _ => ?_)) | (with_reducible refine arith_64 (by omega) ?_) | (with_reducible refine ob_i (by omega) (fun _ => ?_)) | (with_reducible refine ob_i (by unfold room; omega) (fun _ => ?_)) | ((with_reducible refine ob_k ?_ ?_); focus kernel_rfl) ) <;> (try (exfalso; omega; done)) <;> (with_reducible conv => whnf))
  all_goals exact ret0 (vm_bool (by simp; omega))
theorem bWithin_ok {n lo hi : Int} : FnOK Try.prog 20 [I n, I lo, I hi] (B (decide (lo ≤ n ∧ n ≤ hi))) [] := by
  refine fn_i hmix hT Try.f20 (by kernel_rfl) rfl (by kernel_rfl) ?_
  with_reducible conv => whnf
  repeat' ((first | (with_reducible refine branch_t ?_) | (with_reducible refine branch_f ?_) | (with_reducible refine branch_nt ?_) | (with_reducible refine branch_nf ?_) | (with_reducible refine branch_dec (fun _ => ?_) (fun _ => ?_)) | (with_reducible refine branch_ndec (fun _ => ?_) (fun _ => ?_)) | (with_reducible refine branch_bool (fun _ => ?_) (fun _ => ?_)) | (with_reducible refine arith_64 (by omega) ?_) | (with_reducible refine ob_i (by omega) (fun _ => ?_)) | (with_reducible refine ob_i (by unfold room; omega) (fun _ => ?_)) | ((with_reducible refine ob_k ?_ ?_); focus kernel_rfl) ) <;> (try (exfalso; omega; done)) <;> (with_reducible conv => whnf))
  all_goals exact ret0 (vm_bool (by simp; omega))
theorem unless_ok {b : Bool} {e : Int} : FnOK Try.prog 50 [B b, I e] (I (if b = true then 0 else e)) [] := by
  refine fn_i hmix hT Try.f50 (by kernel_rfl) rfl (by kernel_rfl) ?_
  with_reducible conv => whnf
  repeat' ((first | (with_reducible refine branch_t ?_) | (with_reducible refine branch_f ?_) | (with_reducible refine branch_nt ?_) | (with_reducible refine branch_nf ?_) | (with_reducible refine branch_dec (fun _ => ?_) (fun _ => ?_)) | (with_reducible refine branch_ndec (fun _ => ?_) (fun _ => ?_)) | (with_reducible refine branch_bool (fun _ => ?_) (fun _ => ?_)) | (with_reducible refine arith_64 (by omega) ?_) | (with_reducible refine ob_i (by omega) (fun _ => ?_)) | (with_reducible refine ob_i (by unfold room; omega) (fun _ => ?_)) | ((with_reducible refine ob_k ?_ ?_); focus kernel_rfl) ) <;> (try (exfalso; omega; done)) <;> (with_reducible conv => whnf))
  all_goals exact ret0 (vm_int (by simp [*]))
theorem isAmplitude_ok {n : Int} : FnOK Try.prog 104 [I n] (B (decide (0 ≤ n ∧ n ≤ 255))) [] := by
  refine fn_i hmix hT Try.f104 (by kernel_rfl) rfl (by kernel_rfl) ?_
  with_reducible conv => whnf
  repeat' ((first | (with_reducible refine branch_t ?_) | (with_reducible refine branch_f ?_) | (with_reducible refine branch_nt ?_) | (with_reducible refine branch_nf ?_) | (with_reducible refine branch_dec (fun _ => ?_) (fun _ => ?_)) | (with_reducible refine branch_ndec (fun _ => ?_) (fun _ => ?_)) | (with_reducible refine branch_bool (fun _ => ?_) (fun _ => ?_)) | (with_reducible refine arith_64 (by omega) ?_) | (with_reducible refine ob_i (by omega) (fun _ => ?_)) | (with_reducible refine ob_i (by unfold room; omega) (fun _ => ?_)) | ((with_reducible refine ob_k ?_ ?_); focus kernel_rfl) | (apply call_u within_ok)) <;> (try (exfalso; omega; done)) <;> (with_reducible conv => whnf))
  exact ret0 (vm_bool rfl)
theorem isTag_ok {n : Int} : FnOK Try.prog 118 [I n] (B (decide (0 ≤ n ∧ n ≤ 3))) [] := by
  refine fn_i hmix hT Try.f118 (by kernel_rfl) rfl (by kernel_rfl) ?_
  with_reducible conv => whnf
  repeat' ((first | (with_reducible refine branch_t ?_) | (with_reducible refine branch_f ?_) | (with_reducible refine branch_nt ?_) | (with_reducible refine branch_nf ?_) | (with_reducible refine branch_dec (fun _ => ?_) (fun _ => ?_)) | (with_reducible refine branch_ndec (fun _ => ?_) (fun _ => ?_)) | (with_reducible refine branch_bool (fun _ => ?_) (fun _ => ?_)) | (with_reducible refine arith_64 (by omega) ?_) | (with_reducible refine ob_i (by omega) (fun _ => ?_)) | (with_reducible refine ob_i (by unfold room; omega) (fun _ => ?_)) | ((with_reducible refine ob_k ?_ ?_); focus kernel_rfl) | (apply call_u within_ok)) <;> (try (exfalso; omega; done)) <;> (with_reducible conv => whnf))
  exact ret0 (vm_bool rfl)
theorem isFreq_ok {n : Int} : FnOK Try.prog 117 [I n] (B (decide (1 ≤ n ∧ n ≤ 3000))) [] := by
  refine fn_i hmix hT Try.f117 (by kernel_rfl) rfl (by kernel_rfl) ?_
  with_reducible conv => whnf
  repeat' ((first | (with_reducible refine branch_t ?_) | (with_reducible refine branch_f ?_) | (with_reducible refine branch_nt ?_) | (with_reducible refine branch_nf ?_) | (with_reducible refine branch_dec (fun _ => ?_) (fun _ => ?_)) | (with_reducible refine branch_ndec (fun _ => ?_) (fun _ => ?_)) | (with_reducible refine branch_bool (fun _ => ?_) (fun _ => ?_)) | (with_reducible refine arith_64 (by omega) ?_) | (with_reducible refine ob_i (by omega) (fun _ => ?_)) | (with_reducible refine ob_i (by unfold room; omega) (fun _ => ?_)) | ((with_reducible refine ob_k ?_ ?_); focus kernel_rfl) | (apply call_u within_ok)) <;> (try (exfalso; omega; done)) <;> (with_reducible conv => whnf))
  exact ret0 (vm_bool rfl)
theorem first_ok {l : List Int} (hl : l.length ≤ 100) : FnOK Try.prog 44 [eInts l] (I (firstErr l)) [] := by
  refine fn_i hmix hT Try.f44 (by kernel_rfl) rfl (by kernel_rfl) ?_
  with_reducible conv => whnf
  refine loop_i hmix hT (fun k : Nat => ([(5, eInts l), (6, I l.length), (7, I k)], ⟨0, []⟩)) (fun k => k ≤ l.length ∧ ∀ i, i < k → l.getD i 0 = 0) (fun k => l.length - k) 0 ⟨by omega, by omega⟩ ?_ ?_
  · exact ⟨[], rfl, ⟨⟨_, rfl, vm_p⟩, ⟨_, rfl, vm_int rfl⟩, ⟨_, rfl, vm_int rfl⟩, trivial⟩, trivial⟩
  · rintro k ⟨hk1, hk2⟩
    with_reducible conv => whnf
    repeat' ((first | (with_reducible refine branch_t ?_) | (with_reducible refine branch_f ?_) | (with_reducible refine branch_nt ?_) | (with_reducible refine branch_nf ?_) | (with_reducible refine branch_dec (fun _ => ?_) (fun _ => ?_)) | (with_reducible refine branch_ndec (fun _ => ?_) (fun _ => ?_)) | (with_reducible refine branch_bool (fun _ => ?_) (fun _ => ?_)) | (with_reducible refine arith_64 (by omega) ?_) | (with_reducible refine ob_i (by omega) (fun _ => ?_)) | (with_reducible refine ob_i (by unfold room; omega) (fun _ => ?_)) | ((with_reducible refine ob_k ?_ ?_); focus kernel_rfl) ) <;> (try (exfalso; omega; done)) <;> (with_reducible conv => whnf))
    all_goals simp only [] at *
    · exact ret0 (vm_int (firstErr_hit l k hk2 (by omega) (by assumption)).symm)
    · refine ⟨k + 1, ⟨by omega, fun i hi => ?_⟩, by omega, [], rfl, ⟨⟨_, rfl, vm_p⟩, ⟨_, rfl, vm_int rfl⟩, ⟨_, rfl, vm_int (by omega)⟩, trivial⟩, trivial⟩
      by_cases h : i = k
      · subst h; simp_all
      · exact hk2 i (by omega)
    · exact ret0 (vm_int (firstErr_none l fun i hi => hk2 i (by omega)).symm)
end Go.Proofs.Ytkliejppigfjiaa
