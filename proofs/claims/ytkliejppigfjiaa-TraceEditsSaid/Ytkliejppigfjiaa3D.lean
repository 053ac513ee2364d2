/-
  Chapter 3: traces: what is valid, copies (the document's functions and the program's, by contract).
  Conditions: none.
-/
import Derived.Test.Ytkliejppigfjiaa3C
namespace Go.Proofs.Ytkliejppigfjiaa
open Go.RowKit Fx
structure Path where
  fr : Int
  rows : List Int
@[reducible] def ePath (p : Path) : V := .agg [I p.fr, eInts p.rows]
/-! ### Plain -/
def findIx {α : Type} (p : α → Bool) : List α → Nat → Int
  | [], _ => -1
  | x :: l, k => if p x then k else findIx p l (k + 1)
theorem findIx_hit {α : Type} (p : α → Bool) (d : α) : ∀ (l : List α) (k s : Nat), (∀ i, i < k → p (l.getD i d) = false) → k < l.length → p (l.getD k d) = true → findIx p l s = (s + k : Nat)
  | [], k, s, _, h, _ => by simp at h
  | x :: l, 0, s, _, _, h => by
    have h' : p x = true := by simpa using h
    simp [findIx, h']
  | x :: l, k + 1, s, h0, h1, h2 => by
    have hx : p x = false := by simpa using h0 0 (by omega)
    have := findIx_hit p d l k (s + 1) (fun i hi => by simpa using h0 (i + 1) (by omega)) (by simpa using h1) (by simpa using h2)
    simp only [findIx, hx, this]
    simp; omega
theorem findIx_none {α : Type} (p : α → Bool) (d : α) : ∀ (l : List α) (s : Nat), (∀ i, i < l.length → p (l.getD i d) = false) → findIx p l s = -1
  | [], s, _ => rfl
  | x :: l, s, h => by
    have hx : p x = false := by simpa using h 0 (by simp)
    simp only [findIx, hx]
    exact findIx_none p d l (s + 1) fun i hi => by simpa using h (i + 1) (by simpa using hi)
theorem findErr_ix {α : Type} (f : α → Int) (p : α → Bool) (e : Int) (he : e ≠ 0) (h : ∀ x, f x = if p x then e else 0) : ∀ (l : List α) (s : Nat), findErr f l s = if findIx p l s < 0 then (0, 0) else (findIx p l s, e)
  | [], s => rfl
  | x :: l, s => by
    have ih := findErr_ix f p e he h l (s + 1)
    simp only [findErr, findIx, h x]
    rw [show ((s + 1 : Nat) : Int) = (s : Int) + 1 by omega] at ih
    by_cases hx : p x = true
    · simp [hx, he]
    · simp [hx, ih]
def rowsN (g : Gram) : Nat := (g.cols.getD 0 []).length
def rowE (r n : Int) : Int := if ¬ (-1 ≤ n ∧ n ≤ r - 1) then 2 else 0
def checkPath (g : Gram) (p : Path) : Int × Int := if ¬ (0 ≤ p.fr ∧ p.fr ≤ (g.cols.length : Int) - 1) then (0, 6) else if p.rows.length = 0 then (0, 10) else if (g.cols.length : Int) - p.fr < p.rows.length then (0, 8) else findErr (rowE (rowsN g)) p.rows 0
def gramE (g : Gram) : Int := (checkGram g).2
def pathE (g : Gram) (p : Path) : Int := (checkPath g p).2
def openPathE (g : Gram) (p : Path) : Int := if gramE g ≠ 0 then gramE g else pathE g p
/-- What a valid ionogram is. -/
structure Gram.Val (g : Gram) : Prop where
  f1 : 1 ≤ g.first ∧ g.first ≤ 3000
  s1 : 1 ≤ g.step ∧ g.step ≤ 3000
  c0 : 0 < g.cols.length
  c1 : g.cols.length ≤ 10
  r0 : 0 < rowsN g
  r1 : rowsN g ≤ 12
  rows : ∀ i, i < g.cols.length → (g.cols.getD i []).length = rowsN g
  amp : ∀ i j, i < g.cols.length → j < rowsN g → 0 ≤ ((g.cols.getD i []).getD j (0, 0)).1 ∧ ((g.cols.getD i []).getD j (0, 0)).1 ≤ 255
theorem findErr_z {α : Type} (f : α → Int) (d : α) : ∀ (l : List α) (s : Int), (findErr f l s).2 = 0 → ∀ i, i < l.length → f (l.getD i d) = 0
  | [], _, _, i, h => by simp at h
  | x :: l, s, h, i, hi => by
    by_cases hx : f x = 0
    · simp only [findErr, hx, ne_eq, not_true_eq_false, if_false] at h
      cases i with
      | zero => simpa using hx
      | succ i => simpa using findErr_z f d l (s + 1) h i (by simpa using hi)
    · simp only [findErr, hx, ne_eq, not_false_eq_true, if_true] at h
theorem gram_val {g : Gram} (h : gramE g = 0) : g.Val := by
  obtain ⟨f1, f2, f3, f4⟩ := checkGram_facts h
  have h1 : (findErr (fun c => columnErr c (g.cols.getD 0 []).length) g.cols 0).2 = 0 := by
    unfold gramE checkGram at h
    rw [if_neg (by omega), if_neg (by omega), if_neg (by omega)] at h
    exact h
  have h2 := findErr_z _ [] g.cols 0 h1
  have h3 : ∀ i, i < g.cols.length → (g.cols.getD i []).length = rowsN g ∧ 0 < (g.cols.getD i []).length ∧ (g.cols.getD i []).length ≤ 12 ∧ (findErr cellErr (g.cols.getD i []) 0).2 = 0 := fun i hi => by
    have := h2 i hi
    unfold columnErr at this
    split at this
    · simp at this
    · split at this
      · simp at this
      · unfold rowsN
        exact ⟨by omega, by omega, by omega, this⟩
  refine ⟨f1, f2, f3, f4, (h3 0 f3).2.1, (h3 0 f3).2.2.1, fun i hi => (h3 i hi).1, fun i j hi hj => ?_⟩
  have := findErr_z cellErr (0, 0) _ 0 (h3 i hi).2.2.2 j (by rw [(h3 i hi).1]; exact hj)
  unfold cellErr at this
  split at this
  · simp at this
  · omega
structure Path.Val (g : Gram) (p : Path) : Prop where
  fr : 0 ≤ p.fr
  n0 : 0 < p.rows.length
  n1 : p.fr + p.rows.length ≤ g.cols.length
  rows : ∀ i, i < p.rows.length → -1 ≤ p.rows.getD i 0 ∧ p.rows.getD i 0 ≤ rowsN g - 1
theorem path_val {g : Gram} {p : Path} (h : pathE g p = 0) : p.Val g := by
  unfold pathE checkPath at h
  split at h
  · simp at h
  · split at h
    · simp at h
    · split at h
      · simp at h
      · refine ⟨by omega, by omega, by omega, fun i hi => ?_⟩
        have := findErr_z _ 0 p.rows 0 h i hi
        unfold rowE at this
        split at this
        · simp at this
        · omega
/-! ### The document's -/
theorem rGramErr_ok {g : Gram} (hg : g.Ok) : FnOK Try.prog 52 [eGram g] (I (gramE g)) [] := by
  refine fn_i hmix hT Try.f52 (by kernel_rfl) rfl (by kernel_rfl) ?_
  with_reducible conv => whnf
  repeat' ((first | (with_reducible refine branch_t ?_) | (with_reducible refine branch_f ?_) | (with_reducible refine branch_nt ?_) | (with_reducible refine branch_nf ?_) | (with_reducible refine branch_dec (fun _ => ?_) (fun _ => ?_)) | (with_reducible refine branch_ndec (fun _ => ?_) (fun _ => ?_)) | (with_reducible refine branch_bool (fun _ => ?_) (fun _ => ?_)) | (with_reducible refine arith_64 (by omega) ?_) | (with_reducible refine ob_i (by omega) (fun _ => ?_)) | (with_reducible refine ob_i (by unfold room; omega) (fun _ => ?_)) | ((with_reducible refine ob_k ?_ ?_); focus kernel_rfl) | (apply call_u (refCheckGram_ok hg))) <;> (try (exfalso; omega; done)) <;> (with_reducible conv => whnf))
  exact ret0 (vm_int rfl)
theorem rRows_ok {g : Gram} (h : 0 < g.cols.length) : FnOK Try.prog 63 [eGram g] (I (rowsN g)) [] := by
  refine fn_i hmix hT Try.f63 (by kernel_rfl) rfl (by kernel_rfl) ?_
  with_reducible conv => whnf
  repeat' ((first | (with_reducible refine branch_t ?_) | (with_reducible refine branch_f ?_) | (with_reducible refine branch_nt ?_) | (with_reducible refine branch_nf ?_) | (with_reducible refine branch_dec (fun _ => ?_) (fun _ => ?_)) | (with_reducible refine branch_ndec (fun _ => ?_) (fun _ => ?_)) | (with_reducible refine branch_bool (fun _ => ?_) (fun _ => ?_)) | (with_reducible refine arith_64 (by omega) ?_) | (with_reducible refine ob_i (by omega) (fun _ => ?_)) | (with_reducible refine ob_i (by unfold room; omega) (fun _ => ?_)) | ((with_reducible refine ob_k ?_ ?_); focus kernel_rfl) ) <;> (try (exfalso; omega; done)) <;> (with_reducible conv => whnf))
  exact ret0 (vm_int rfl)
theorem rCheckPath_ok {g : Gram} {p : Path} (hg : g.Ok) (hp : p.rows.length ≤ 9223372036854775807) (hv : g.Val) (hf : -9223372036854775808 ≤ p.fr ∧ p.fr ≤ 9223372036854775807) : FnOK Try.prog 53 [eGram g, ePath p] (.tup [I (checkPath g p).1, I (checkPath g p).2]) [] := by
  obtain ⟨h1, h2⟩ := hg
  have v1 := hv.c0
  have v2 := hv.c1
  have v3 := hv.r1
  refine fn_i hmix hT Try.f53 (by kernel_rfl) rfl (by kernel_rfl) ?_
  with_reducible conv => whnf
  repeat' ((first | (with_reducible refine branch_t ?_) | (with_reducible refine branch_f ?_) | (with_reducible refine branch_nt ?_) | (with_reducible refine branch_nf ?_) | (with_reducible refine branch_dec (fun _ => ?_) (fun _ => ?_)) | (with_reducible refine branch_ndec (fun _ => ?_) (fun _ => ?_)) | (with_reducible refine branch_bool (fun _ => ?_) (fun _ => ?_)) | (with_reducible refine arith_64 (by omega) ?_) | (with_reducible refine ob_i (by omega) (fun _ => ?_)) | (with_reducible refine ob_i (by unfold room; omega) (fun _ => ?_)) | ((with_reducible refine ob_k ?_ ?_); focus kernel_rfl) | (apply call_u bWithin_ok)) <;> (try (exfalso; omega; done)) <;> (with_reducible conv => whnf))
  · exact ret0 (vm_pair (by unfold checkPath; rw [if_pos (by assumption)]))
  · exact ret0 (vm_pair (by unfold checkPath; rw [if_neg (by omega), if_pos (by omega)]))
  · exact ret0 (vm_pair (by unfold checkPath; rw [if_neg (by omega), if_neg (by omega), if_pos (by omega)]))
  have e0 : checkPath g p = findErr (rowE (rowsN g)) p.rows 0 := by unfold checkPath; rw [if_neg (by omega), if_neg (by omega), if_neg (by omega)]
  refine loop_i hmix hT (fun k : Nat => ([(2, .ptr 0 0), (3, .ptr 1 0), (6, I k)], ⟨2, [(1, .cells [I p.fr, eInts p.rows] 27), (0, .cells [I g.first, I g.step, eCols g.cols] 24)]⟩)) (fun k => k ≤ p.rows.length ∧ ∀ i, i < k → rowE (rowsN g) (p.rows.getD i 0) = 0) (fun k => p.rows.length - k) 0 ⟨by omega, by omega⟩ ?_ ?_
  · refine ⟨[], rfl, ?_, ?_⟩ <;> repeat' (first | exact trivial | exact vm_p | exact vm_ptr rfl rfl rfl | exact vm_own rfl rfl (by omega) (by omega) | exact vm_int (by omega) | exact sbm_cells vmL_p | refine ⟨⟨_, rfl, ?_⟩, ?_⟩ | refine sbm_cells ?_ | exact vmL.nil | refine vmL.cons ?_ ?_)
  rintro k ⟨hk1, hk2⟩
  with_reducible conv => whnf
  repeat' ((first | (with_reducible refine branch_t ?_) | (with_reducible refine branch_f ?_) | (with_reducible refine branch_nt ?_) | (with_reducible refine branch_nf ?_) | (with_reducible refine branch_dec (fun _ => ?_) (fun _ => ?_)) | (with_reducible refine branch_ndec (fun _ => ?_) (fun _ => ?_)) | (with_reducible refine branch_bool (fun _ => ?_) (fun _ => ?_)) | (with_reducible refine arith_64 (by omega) ?_) | (with_reducible refine ob_i (by omega) (fun _ => ?_)) | (with_reducible refine ob_i (by unfold room; omega) (fun _ => ?_)) | ((with_reducible refine ob_k ?_ ?_); focus kernel_rfl) | (apply call_u bWithin_ok) | (apply call_u (rRows_ok v1))) <;> (try (exfalso; omega; done)) <;> (with_reducible conv => whnf))
  all_goals dsimp only [toN] at *
  · have hc : rowE (rowsN g) (p.rows.getD k 0) = 2 := by unfold rowE; rw [if_pos (by assumption)]
    exact ret0 (vm_pair (by rw [e0, findErr_hit (rowE (rowsN g)) 0 p.rows k 0 hk2 (by omega) (by rw [hc]; decide), hc]; simp))
  · have hc : rowE (rowsN g) (p.rows.getD k 0) = 0 := by unfold rowE; rw [if_neg (fun h => h (by assumption))]
    refine ⟨k + 1, ⟨by omega, fun i hi => ?_⟩, by omega, ?_⟩
    · by_cases h : i = k
      · subst h; exact hc
      · exact hk2 i (by omega)
    · refine ⟨[], rfl, ?_, ?_⟩ <;> repeat' (first | exact trivial | exact vm_p | exact vm_ptr rfl rfl rfl | exact vm_own rfl rfl (by omega) (by omega) | exact vm_int (by omega) | exact sbm_cells vmL_p | refine ⟨⟨_, rfl, ?_⟩, ?_⟩ | refine sbm_cells ?_ | exact vmL.nil | refine vmL.cons ?_ ?_)
  · exact ret0 (vm_pair (by rw [e0, findErr_none (rowE (rowsN g)) 0 p.rows 0 fun i hi => hk2 i (by omega)]))
theorem rPathErr_ok {g : Gram} {p : Path} (hg : g.Ok) (hp : p.rows.length ≤ 9223372036854775807) (hv : g.Val) (hf : -9223372036854775808 ≤ p.fr ∧ p.fr ≤ 9223372036854775807) : FnOK Try.prog 19 [eGram g, ePath p] (I (pathE g p)) [] := by
  refine fn_i hmix hT Try.f19 (by kernel_rfl) rfl (by kernel_rfl) ?_
  with_reducible conv => whnf
  repeat' ((first | (with_reducible refine branch_t ?_) | (with_reducible refine branch_f ?_) | (with_reducible refine branch_nt ?_) | (with_reducible refine branch_nf ?_) | (with_reducible refine branch_dec (fun _ => ?_) (fun _ => ?_)) | (with_reducible refine branch_ndec (fun _ => ?_) (fun _ => ?_)) | (with_reducible refine branch_bool (fun _ => ?_) (fun _ => ?_)) | (with_reducible refine arith_64 (by omega) ?_) | (with_reducible refine ob_i (by omega) (fun _ => ?_)) | (with_reducible refine ob_i (by unfold room; omega) (fun _ => ?_)) | ((with_reducible refine ob_k ?_ ?_); focus kernel_rfl) | (apply call_u (rCheckPath_ok hg hp hv hf))) <;> (try (exfalso; omega; done)) <;> (with_reducible conv => whnf))
  exact ret0 (vm_int rfl)
theorem lPathErr_ok {g : Gram} {p : Path} (hg : g.Ok) (hp : p.rows.length ≤ 9223372036854775807) (hf : -9223372036854775808 ≤ p.fr ∧ p.fr ≤ 9223372036854775807) : FnOK Try.prog 16 [eGram g, ePath p] (I (openPathE g p)) [] := by
  have hv := @gram_val g
  refine fn_i hmix hT Try.f16 (by kernel_rfl) rfl (by kernel_rfl) ?_
  with_reducible conv => whnf
  repeat' ((first | (with_reducible refine branch_t ?_) | (with_reducible refine branch_f ?_) | (with_reducible refine branch_nt ?_) | (with_reducible refine branch_nf ?_) | (with_reducible refine branch_dec (fun _ => ?_) (fun _ => ?_)) | (with_reducible refine branch_ndec (fun _ => ?_) (fun _ => ?_)) | (with_reducible refine branch_bool (fun _ => ?_) (fun _ => ?_)) | (with_reducible refine arith_64 (by omega) ?_) | (with_reducible refine ob_i (by omega) (fun _ => ?_)) | (with_reducible refine ob_i (by unfold room; omega) (fun _ => ?_)) | ((with_reducible refine ob_k ?_ ?_); focus kernel_rfl) | (apply call_u (rGramErr_ok hg)) | (apply call_u (rPathErr_ok hg hp (hv (by omega)) hf))) <;> (try (exfalso; omega; done)) <;> (with_reducible conv => whnf))
  all_goals exact ret0 (vm_int (by unfold openPathE; simp [*]))
theorem copyInts_ok {l : List Int} (hl : l.length ≤ 100000) : FnOK Try.prog 48 [eInts l] (eInts l) [] := by
  refine fn_i hmix hT Try.f48 (by kernel_rfl) rfl (by kernel_rfl) ?_
  with_reducible conv => whnf
  repeat' ((first | (with_reducible refine branch_t ?_) | (with_reducible refine branch_f ?_) | (with_reducible refine branch_nt ?_) | (with_reducible refine branch_nf ?_) | (with_reducible refine branch_dec (fun _ => ?_) (fun _ => ?_)) | (with_reducible refine branch_ndec (fun _ => ?_) (fun _ => ?_)) | (with_reducible refine branch_bool (fun _ => ?_) (fun _ => ?_)) | (with_reducible refine arith_64 (by omega) ?_) | (with_reducible refine ob_i (by omega) (fun _ => ?_)) | (with_reducible refine ob_i (by unfold room; omega) (fun _ => ?_)) | ((with_reducible refine ob_k ?_ ?_); focus kernel_rfl) ) <;> (try (exfalso; omega; done)) <;> (with_reducible conv => whnf))
  refine ret0 (vm_fr rfl rfl (by simp) (Nat.le_refl _) fun i hi => ?_)
  rw [appF_ge (by omega), Nat.sub_zero]
  exact vm_p
theorem copyPath_ok {p : Path} (hl : p.rows.length ≤ 100000) : FnOK Try.prog 12 [ePath p] (ePath p) [] := by
  refine fn_i hmix hT Try.f12 (by kernel_rfl) rfl (by kernel_rfl) ?_
  with_reducible conv => whnf
  repeat' ((first | (with_reducible refine branch_t ?_) | (with_reducible refine branch_f ?_) | (with_reducible refine branch_nt ?_) | (with_reducible refine branch_nf ?_) | (with_reducible refine branch_dec (fun _ => ?_) (fun _ => ?_)) | (with_reducible refine branch_ndec (fun _ => ?_) (fun _ => ?_)) | (with_reducible refine branch_bool (fun _ => ?_) (fun _ => ?_)) | (with_reducible refine arith_64 (by omega) ?_) | (with_reducible refine ob_i (by omega) (fun _ => ?_)) | (with_reducible refine ob_i (by unfold room; omega) (fun _ => ?_)) | ((with_reducible refine ob_k ?_ ?_); focus kernel_rfl) | (apply call_u (copyInts_ok hl))) <;> (try (exfalso; omega; done)) <;> (with_reducible conv => whnf))
  exact ret0 vm_p
theorem short_ok {p : Path} : FnOK Try.prog 9 [ePath p] (B (decide (p.rows.length ≤ 12))) [] := by
  refine fn_i hmix hT Try.f9 (by kernel_rfl) rfl (by kernel_rfl) ?_
  with_reducible conv => whnf
  repeat' ((first | (with_reducible refine branch_t ?_) | (with_reducible refine branch_f ?_) | (with_reducible refine branch_nt ?_) | (with_reducible refine branch_nf ?_) | (with_reducible refine branch_dec (fun _ => ?_) (fun _ => ?_)) | (with_reducible refine branch_ndec (fun _ => ?_) (fun _ => ?_)) | (with_reducible refine branch_bool (fun _ => ?_) (fun _ => ?_)) | (with_reducible refine arith_64 (by omega) ?_) | (with_reducible refine ob_i (by omega) (fun _ => ?_)) | (with_reducible refine ob_i (by unfold room; omega) (fun _ => ?_)) | ((with_reducible refine ob_k ?_ ?_); focus kernel_rfl) ) <;> (try (exfalso; omega; done)) <;> (with_reducible conv => whnf))
  exact ret0 (vm_bool (by simp; omega))
/-! ### The program's -/
theorem hasRow_ok {g : Gram} {n : Int} (h : 0 < g.cols.length) (h2 : rowsN g ≤ 1000) : FnOK Try.prog 59 [eGram g, I n] (B (decide (0 ≤ n ∧ n ≤ (rowsN g : Int) - 1))) [] := by
  unfold rowsN at *
  refine fn_i hmix hT Try.f59 (by kernel_rfl) rfl (by kernel_rfl) ?_
  with_reducible conv => whnf
  repeat' ((first | (with_reducible refine branch_t ?_) | (with_reducible refine branch_f ?_) | (with_reducible refine branch_nt ?_) | (with_reducible refine branch_nf ?_) | (with_reducible refine branch_dec (fun _ => ?_) (fun _ => ?_)) | (with_reducible refine branch_ndec (fun _ => ?_) (fun _ => ?_)) | (with_reducible refine branch_bool (fun _ => ?_) (fun _ => ?_)) | (with_reducible refine arith_64 (by omega) ?_) | (with_reducible refine ob_i (by omega) (fun _ => ?_)) | (with_reducible refine ob_i (by unfold room; omega) (fun _ => ?_)) | ((with_reducible refine ob_k ?_ ?_); focus kernel_rfl) | (apply call_u (rows_ok h)) | (apply call_u within_ok)) <;> (try (exfalso; omega; done)) <;> (with_reducible conv => whnf))
  exact ret0 (vm_bool rfl)
theorem indexFunc_ok {l : List Int} {fid : Nat} {caps : List V} {p : Int → Bool} (hl : l.length ≤ 9223372036854775807) [IsPureL caps] (hf : ∀ x, FnOK Try.prog fid (I x :: caps) (B (p x)) []) : FnOK Try.prog 119 [eInts l, .fn fid caps] (I (findIx p l 0)) [] := by
  refine fn_i hmix hT Try.f119 (by kernel_rfl) rfl (by kernel_rfl) ?_
  with_reducible conv => whnf
  refine loop_i hmix hT (fun k : Nat => ([(0, eInts l), (1, .fn fid caps), (7, I l.length), (8, I k)], ⟨0, []⟩)) (fun k => k ≤ l.length ∧ ∀ i, i < k → p (l.getD i 0) = false) (fun k => l.length - k) 0 ⟨by omega, by omega⟩ ?_ ?_
  · refine ⟨[], rfl, ?_, ?_⟩ <;> repeat' (first | exact trivial | exact vm_p | exact vm_ptr rfl rfl rfl | exact vm_own rfl rfl (by omega) (by omega) | exact vm_int (by omega) | exact sbm_cells vmL_p | refine ⟨⟨_, rfl, ?_⟩, ?_⟩ | refine sbm_cells ?_ | exact vmL.nil | refine vmL.cons ?_ ?_)
  rintro k ⟨hk1, hk2⟩
  with_reducible conv => whnf
  repeat' ((first | (with_reducible refine branch_t ?_) | (with_reducible refine branch_f ?_) | (with_reducible refine branch_nt ?_) | (with_reducible refine branch_nf ?_) | (with_reducible refine branch_dec (fun _ => ?_) (fun _ => ?_)) | (with_reducible refine branch_ndec (fun _ => ?_) (fun _ => ?_)) | (with_reducible refine branch_bool (fun _ => ?_) (fun _ => ?_)) | (with_reducible refine arith_64 (by omega) ?_) | (with_reducible refine ob_i (by omega) (fun _ => ?_)) | (with_reducible refine ob_i (by unfold room; omega) (fun _ => ?_)) | ((with_reducible refine ob_k ?_ ?_); focus kernel_rfl) | (apply call_u (hf _))) <;> (try (exfalso; omega; done)) <;> (with_reducible conv => whnf))
  all_goals dsimp only [toN] at *
  · exact ret0 (vm_int (by rw [findIx_hit p 0 l k 0 hk2 (by omega) (by assumption)]; simp))
  · refine ⟨k + 1, ⟨by omega, fun i hi => ?_⟩, by omega, ?_⟩
    · by_cases h : i = k
      · subst h; assumption
      · exact hk2 i (by omega)
    · refine ⟨[], rfl, ?_, ?_⟩ <;> repeat' (first | exact trivial | exact vm_p | exact vm_ptr rfl rfl rfl | exact vm_own rfl rfl (by omega) (by omega) | exact vm_int (by omega) | exact sbm_cells vmL_p | refine ⟨⟨_, rfl, ?_⟩, ?_⟩ | refine sbm_cells ?_ | exact vmL.nil | refine vmL.cons ?_ ?_)
  · exact ret0 (vm_int (by rw [findIx_none p 0 l 0 fun i hi => hk2 i (by omega)]))
def oddRow (r n : Int) : Bool := !decide (n = -1) && !decide (0 ≤ n ∧ n ≤ r - 1)
theorem checkPath1_ok {g : Gram} {n : Int} (h : 0 < g.cols.length) (h2 : rowsN g ≤ 1000) : FnOK Try.prog 120 [I n, .pv [I g.first, I g.step, eCols g.cols] 0] (B (oddRow (rowsN g) n)) [] := by
  refine fn_i hmix hT Try.f120 (by kernel_rfl) rfl (by kernel_rfl) ?_
  with_reducible conv => whnf
  repeat' ((first | (with_reducible refine branch_t ?_) | (with_reducible refine branch_f ?_) | (with_reducible refine branch_nt ?_) | (with_reducible refine branch_nf ?_) | (with_reducible refine branch_dec (fun _ => ?_) (fun _ => ?_)) | (with_reducible refine branch_ndec (fun _ => ?_) (fun _ => ?_)) | (with_reducible refine branch_bool (fun _ => ?_) (fun _ => ?_)) | (with_reducible refine arith_64 (by omega) ?_) | (with_reducible refine ob_i (by omega) (fun _ => ?_)) | (with_reducible refine ob_i (by unfold room; omega) (fun _ => ?_)) | ((with_reducible refine ob_k ?_ ?_); focus kernel_rfl) | (apply call_u (hasRow_ok h h2))) <;> (try (exfalso; omega; done)) <;> (with_reducible conv => whnf))
  all_goals exact ret0 (vm_bool (by unfold oddRow; simp [*]))
theorem wrapI {n : Int} (h : -9223372036854775808 ≤ n ∧ n ≤ 9223372036854775807) : IntKind.wrap .i64 n = n := wrap_in (by simpa [IntKind.min, IntKind.max, IntKind.bits, IntKind.signed] using h)
def pathPre (g : Gram) (p : Path) : Int := if ¬ (0 ≤ p.fr ∧ p.fr ≤ (g.cols.length : Int) - 1) then 6 else if p.rows.length = 0 then 10 else if (g.cols.length : Int) - p.fr < p.rows.length then 8 else 0
theorem pathPre_eq {g : Gram} {p : Path} (h : g.cols.length ≤ 10) : firstErr [if decide (0 ≤ p.fr ∧ p.fr ≤ (g.cols.length : Int) - 1) = true then 0 else 6, if decide (0 < (p.rows.length : Int)) = true then 0 else 10,
    if decide ((p.rows.length : Int) ≤ IntKind.i64.wrap ((g.cols.length : Int) - p.fr)) = true then 0 else 8] = pathPre g p := by
  unfold pathPre
  by_cases h1 : 0 ≤ p.fr ∧ p.fr ≤ (g.cols.length : Int) - 1
  · rw [wrapI (by omega)]
    simp only [firstErr]
    grind
  · simp only [firstErr]
    grind
theorem checkPath_pre {g : Gram} {p : Path} (h : pathPre g p ≠ 0) : checkPath g p = (0, pathPre g p) := by
  unfold checkPath; unfold pathPre at *; grind
theorem checkPath_rows {g : Gram} {p : Path} (h : pathPre g p = 0) : checkPath g p = findErr (rowE (rowsN g)) p.rows 0 := by
  unfold checkPath; unfold pathPre at *; grind
theorem mCheckPath_ok {g : Gram} {p : Path} (hg : g.Ok) (hp : p.rows.length ≤ 9223372036854775807) (hv : g.Val) : FnOK Try.prog 108 [eGram g, ePath p] (.tup [I (checkPath g p).1, I (checkPath g p).2]) [] := by
  have v1 := hv.c0
  have v2 := hv.c1
  have v3 := hv.r1
  have e0 := pathPre_eq (p := p) v2
  refine fn_i hmix hT Try.f108 (by kernel_rfl) rfl (by kernel_rfl) ?_
  with_reducible conv => whnf
  repeat' ((first | (with_reducible refine branch_t ?_) | (with_reducible refine branch_f ?_) | (with_reducible refine branch_nt ?_) | (with_reducible refine branch_nf ?_) | (with_reducible refine branch_dec (fun _ => ?_) (fun _ => ?_)) | (with_reducible refine branch_ndec (fun _ => ?_) (fun _ => ?_)) | (with_reducible refine branch_bool (fun _ => ?_) (fun _ => ?_)) | (with_reducible refine arith_64 (by omega) ?_) | (with_reducible refine ob_i (by omega) (fun _ => ?_)) | (with_reducible refine ob_i (by unfold room; omega) (fun _ => ?_)) | (with_reducible refine ob_i (by (try simp only [] at *); (try dsimp only [toN] at *); omega) (fun _ => ?_)) | (with_reducible refine arith_64 (by (try simp only [toN_eq, Int.toNat_natCast] at *); (try dsimp only [toN] at *); omega) ?_) | (with_reducible refine ob_k rfl ?_) | ((with_reducible refine ob_k ?_ ?_); focus kernel_rfl) | (refine yield_i hmix hT rfl hL efr eps eag ebd rfl (by kernel_rfl) ?_) | (apply call_u (hasColumn_ok hg)) | (apply call_u unless_ok) | (with_reducible refine arith_w ?_) | (apply call_l (indexFunc_ok hp (fun x => checkPath1_ok (g := g) v1 (by omega))) (.cons vm_p (.cons (vm_fn (.cons (vm_frzp trivial rfl kept_no rfl rfl vmL_p) .nil)) .nil))) | (apply call_l (first_ok (l := [_, _]) (Nat.le_of_ble_eq_true rfl)) (.cons (vm_lit _ rfl rfl (.cons (vm_int rfl) (.cons (vm_int rfl) .nil))) .nil)) | (apply call_l (first_ok (l := [_, _, _]) (Nat.le_of_ble_eq_true rfl)) (.cons (vm_lit _ rfl rfl (.cons (vm_int rfl) (.cons (vm_int rfl) (.cons (vm_int rfl) .nil)))) .nil)) | (apply call_l (first_ok (l := [_, _, _, _]) (Nat.le_of_ble_eq_true rfl)) (.cons (vm_lit _ rfl rfl (.cons (vm_int rfl) (.cons (vm_int rfl) (.cons (vm_int rfl) (.cons (vm_int rfl) .nil))))) .nil))) <;> (try (exfalso; omega; done)) <;> (with_reducible conv => whnf))
  · rename_i h
    rw [e0] at h ⊢
    exact ret0 (vm_pair (checkPath_pre h).symm)
  · rename_i h
    rw [e0] at h
    refine ret0 (vm_pair ?_)
    have e1 := findErr_ix (rowE (rowsN g)) (oddRow (rowsN g)) 2 (by decide) (fun x => by unfold rowE oddRow; grind) p.rows 0
    rw [checkPath_rows (by omega), show ((0 : Int)) = ((0 : Nat) : Int) from rfl, e1]
    grind
theorem gPathErr_ok {g : Gram} {p : Path} (hg : g.Ok) (hp : p.rows.length ≤ 9223372036854775807) (hv : g.Val) : FnOK Try.prog 86 [eGram g, ePath p] (I (pathE g p)) [] := by
  refine fn_i hmix hT Try.f86 (by kernel_rfl) rfl (by kernel_rfl) ?_
  with_reducible conv => whnf
  repeat' ((first | (with_reducible refine branch_t ?_) | (with_reducible refine branch_f ?_) | (with_reducible refine branch_nt ?_) | (with_reducible refine branch_nf ?_) | (with_reducible refine branch_dec (fun _ => ?_) (fun _ => ?_)) | (with_reducible refine branch_ndec (fun _ => ?_) (fun _ => ?_)) | (with_reducible refine branch_bool (fun _ => ?_) (fun _ => ?_)) | (with_reducible refine arith_64 (by omega) ?_) | (with_reducible refine ob_i (by omega) (fun _ => ?_)) | (with_reducible refine ob_i (by unfold room; omega) (fun _ => ?_)) | ((with_reducible refine ob_k ?_ ?_); focus kernel_rfl) | (apply call_u (mCheckPath_ok hg hp hv))) <;> (try (exfalso; omega; done)) <;> (with_reducible conv => whnf))
  exact ret0 (vm_int rfl)
theorem openPath_ok {g : Gram} {p : Path} (hg : g.Ok) (hp : p.rows.length ≤ 9223372036854775807) : FnOK Try.prog 43 [eGram g, ePath p] (.tup [eGram g, I (openPathE g p)]) [] := by
  have hv := @gram_val g
  have e1 : (checkGram g).2 = gramE g := rfl
  refine fn_i hmix hT Try.f43 (by kernel_rfl) rfl (by kernel_rfl) ?_
  with_reducible conv => whnf
  repeat' ((first | (with_reducible refine branch_t ?_) | (with_reducible refine branch_f ?_) | (with_reducible refine branch_nt ?_) | (with_reducible refine branch_nf ?_) | (with_reducible refine branch_dec (fun _ => ?_) (fun _ => ?_)) | (with_reducible refine branch_ndec (fun _ => ?_) (fun _ => ?_)) | (with_reducible refine branch_bool (fun _ => ?_) (fun _ => ?_)) | (with_reducible refine arith_64 (by omega) ?_) | (with_reducible refine ob_i (by omega) (fun _ => ?_)) | (with_reducible refine ob_i (by unfold room; omega) (fun _ => ?_)) | ((with_reducible refine ob_k ?_ ?_); focus kernel_rfl) | (apply call_u (open_ok hg)) | (apply call_u (gPathErr_ok hg hp (hv (by omega))))) <;> (try (exfalso; omega; done)) <;> (with_reducible conv => whnf))
  all_goals exact ret0 (vm_tup (.cons vm_p (.cons (vm_int (by unfold openPathE; simp_all)) .nil)))
theorem points_ok {p : Path} : FnOK Try.prog 46 [ePath p] (.fn 90 [.pv [I p.fr, eInts p.rows] 0]) [] := by
  refine fn_i hmix hT Try.f46 (by kernel_rfl) rfl (by kernel_rfl) ?_
  with_reducible conv => whnf
  repeat' ((first | (with_reducible refine branch_t ?_) | (with_reducible refine branch_f ?_) | (with_reducible refine branch_nt ?_) | (with_reducible refine branch_nf ?_) | (with_reducible refine branch_dec (fun _ => ?_) (fun _ => ?_)) | (with_reducible refine branch_ndec (fun _ => ?_) (fun _ => ?_)) | (with_reducible refine branch_bool (fun _ => ?_) (fun _ => ?_)) | (with_reducible refine arith_64 (by omega) ?_) | (with_reducible refine ob_i (by omega) (fun _ => ?_)) | (with_reducible refine ob_i (by unfold room; omega) (fun _ => ?_)) | ((with_reducible refine ob_k ?_ ?_); focus kernel_rfl) ) <;> (try (exfalso; omega; done)) <;> (with_reducible conv => whnf))
  exact ret0 (vm_fn (.cons (vm_frzp trivial rfl kept_no rfl rfl vmL_p) .nil))
end Go.Proofs.Ytkliejppigfjiaa
