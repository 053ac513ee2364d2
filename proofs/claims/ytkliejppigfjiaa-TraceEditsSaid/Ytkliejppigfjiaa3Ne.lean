/-
  Chapter 3: the corrected trace (the document's functions, by contract).
  Conditions: none.
-/
import Derived.Test.Ytkliejppigfjiaa3Nd
namespace Go.Proofs.Ytkliejppigfjiaa
open Go.RowKit Fx
set_option maxRecDepth 100000 in
theorem standing_ok {l : List Ed} (hl : l.length ≤ 100000) : ∀ d i, i < l.length → l.length - i ≤ d → FnOK Try.prog 65 [eEds l, I (i : Int)] (B (stB l i)) []
  | 0, i, h1, h2 => by omega
  | d + 1, i, h1, h2 => by
    have ih := fun j (h3 : i < j) (h4 : j < l.length) => standing_ok hl d j h4 (by omega)
    refine fn_i hmix hT Try.f65 (by kernel_rfl) rfl (by kernel_rfl) ?_
    with_reducible conv => whnf
    repeat' ((first | (with_reducible refine branch_t ?_) | (with_reducible refine branch_f ?_) | (with_reducible refine branch_nt ?_) | (with_reducible refine branch_nf ?_) | (with_reducible refine branch_dec (fun _ => ?_) (fun _ => ?_)) | (with_reducible refine branch_ndec (fun _ => ?_) (fun _ => ?_)) | (with_reducible refine branch_bool (fun _ => ?_) (fun _ => ?_)) | (with_reducible refine arith_64 (by omega) ?_) | (with_reducible refine ob_i (by omega) (fun _ => ?_)) | (with_reducible refine ob_i (by unfold room; omega) (fun _ => ?_)) | (with_reducible refine ob_i (by (try simp only [toN_eq, Int.toNat_natCast] at *); (try dsimp only [toN] at *); omega) (fun _ => ?_)) | (with_reducible refine arith_64 (by (try simp only [toN_eq, Int.toNat_natCast] at *); (try dsimp only [toN] at *); omega) ?_) | (with_reducible refine ob_k rfl ?_) | ((with_reducible refine ob_k ?_ ?_); focus kernel_rfl) | (refine yield_i hmix hT rfl hL efr eps eag ebd rfl (by kernel_rfl) ?_)  | (apply call_l (first_ok (l := [_, _]) (Nat.le_of_ble_eq_true rfl)) (.cons (vm_lit _ rfl rfl (.cons (vm_int rfl) (.cons (vm_int rfl) .nil))) .nil)) | (apply call_l (first_ok (l := [_, _, _]) (Nat.le_of_ble_eq_true rfl)) (.cons (vm_lit _ rfl rfl (.cons (vm_int rfl) (.cons (vm_int rfl) (.cons (vm_int rfl) .nil)))) .nil)) | (apply call_l (first_ok (l := [_, _, _, _]) (Nat.le_of_ble_eq_true rfl)) (.cons (vm_lit _ rfl rfl (.cons (vm_int rfl) (.cons (vm_int rfl) (.cons (vm_int rfl) (.cons (vm_int rfl) .nil))))) .nil))) <;> (try (exfalso; omega; done)) <;> (with_reducible conv => whnf))
    refine loop_i hmix hT (fun j : Nat => ([(0, eEds l), (1, I (i : Int)), (5, I (j : Int))], ⟨0, []⟩)) (fun j => i ≤ j ∧ j < l.length ∧ ∀ k, j < k → k < l.length → ¬ ((l.getD k edD).kd = 2 ∧ (l.getD k edD).ro = (l.getD i edD).no ∧ stB l k = true)) (fun j => j - i) (l.length - 1) ⟨by omega, by omega, fun k h3 h4 => by omega⟩ ?_ ?_
    · refine ⟨[], rfl, ⟨⟨_, rfl, vm_p⟩, ⟨_, rfl, vm_p⟩, ⟨_, rfl, vm_int (by omega)⟩, trivial⟩, trivial⟩
    intro j ⟨hj1, hj2, hj3⟩
    by_cases hij : i < j
    · have IH := ih j hij hj2
      with_reducible conv => whnf
      repeat' ((first | (with_reducible refine branch_t ?_) | (with_reducible refine branch_f ?_) | (with_reducible refine branch_nt ?_) | (with_reducible refine branch_nf ?_) | (with_reducible refine branch_dec (fun _ => ?_) (fun _ => ?_)) | (with_reducible refine branch_ndec (fun _ => ?_) (fun _ => ?_)) | (with_reducible refine branch_bool (fun _ => ?_) (fun _ => ?_)) | (with_reducible refine arith_64 (by omega) ?_) | (with_reducible refine ob_i (by omega) (fun _ => ?_)) | (with_reducible refine ob_i (by unfold room; omega) (fun _ => ?_)) | (with_reducible refine ob_i (by (try simp only [] at *); (try dsimp only [toN] at *); omega) (fun _ => ?_)) | (with_reducible refine arith_64 (by (try simp only [toN_eq, Int.toNat_natCast] at *); (try dsimp only [toN] at *); omega) ?_) | (with_reducible refine ob_k rfl ?_) | ((with_reducible refine ob_k ?_ ?_); focus kernel_rfl) | (refine yield_i hmix hT rfl hL efr eps eag ebd rfl (by kernel_rfl) ?_) | (apply call_u IH) | (apply call_l (first_ok (l := [_, _]) (Nat.le_of_ble_eq_true rfl)) (.cons (vm_lit _ rfl rfl (.cons (vm_int rfl) (.cons (vm_int rfl) .nil))) .nil)) | (apply call_l (first_ok (l := [_, _, _]) (Nat.le_of_ble_eq_true rfl)) (.cons (vm_lit _ rfl rfl (.cons (vm_int rfl) (.cons (vm_int rfl) (.cons (vm_int rfl) .nil)))) .nil)) | (apply call_l (first_ok (l := [_, _, _, _]) (Nat.le_of_ble_eq_true rfl)) (.cons (vm_lit _ rfl rfl (.cons (vm_int rfl) (.cons (vm_int rfl) (.cons (vm_int rfl) (.cons (vm_int rfl) .nil))))) .nil))) <;> (try (exfalso; omega; done)) <;> (with_reducible conv => whnf))
      all_goals ((try simp only [] at *); (try dsimp only [toN] at *))
      · refine ret0 (vm_bool (stB_false hij hj2 ?_ ?_ ?_).symm) <;> assumption
      all_goals
        refine ⟨j - 1, ⟨by omega, by omega, fun k h3 h4 => ?_⟩, by omega, [], rfl, ⟨⟨_, rfl, vm_p⟩, ⟨_, rfl, vm_p⟩, ⟨_, rfl, vm_int (by omega)⟩, trivial⟩, trivial⟩
        by_cases e : k = j
        · subst e; grind
        · exact hj3 k (by omega) h4
    · obtain rfl : i = j := by omega
      with_reducible conv => whnf
      repeat' ((first | (with_reducible refine branch_t ?_) | (with_reducible refine branch_f ?_) | (with_reducible refine branch_nt ?_) | (with_reducible refine branch_nf ?_) | (with_reducible refine branch_dec (fun _ => ?_) (fun _ => ?_)) | (with_reducible refine branch_ndec (fun _ => ?_) (fun _ => ?_)) | (with_reducible refine branch_bool (fun _ => ?_) (fun _ => ?_)) | (with_reducible refine arith_64 (by omega) ?_) | (with_reducible refine ob_i (by omega) (fun _ => ?_)) | (with_reducible refine ob_i (by unfold room; omega) (fun _ => ?_)) | (with_reducible refine ob_i (by (try simp only [toN_eq, Int.toNat_natCast] at *); (try dsimp only [toN] at *); omega) (fun _ => ?_)) | (with_reducible refine arith_64 (by (try simp only [toN_eq, Int.toNat_natCast] at *); (try dsimp only [toN] at *); omega) ?_) | (with_reducible refine ob_k rfl ?_) | ((with_reducible refine ob_k ?_ ?_); focus kernel_rfl) | (refine yield_i hmix hT rfl hL efr eps eag ebd rfl (by kernel_rfl) ?_)  | (apply call_l (first_ok (l := [_, _]) (Nat.le_of_ble_eq_true rfl)) (.cons (vm_lit _ rfl rfl (.cons (vm_int rfl) (.cons (vm_int rfl) .nil))) .nil)) | (apply call_l (first_ok (l := [_, _, _]) (Nat.le_of_ble_eq_true rfl)) (.cons (vm_lit _ rfl rfl (.cons (vm_int rfl) (.cons (vm_int rfl) (.cons (vm_int rfl) .nil)))) .nil)) | (apply call_l (first_ok (l := [_, _, _, _]) (Nat.le_of_ble_eq_true rfl)) (.cons (vm_lit _ rfl rfl (.cons (vm_int rfl) (.cons (vm_int rfl) (.cons (vm_int rfl) (.cons (vm_int rfl) .nil))))) .nil))) <;> (try (exfalso; omega; done)) <;> (with_reducible conv => whnf))
      exact ret0 (vm_bool (stB_true h1 hj3).symm)
/-- An edit lies in the trace. -/
def fitB (g : Gram) (p : Path) (e : Ed) : Prop := e.kd = 2 ∨ ((0 ≤ e.co - p.fr ∧ e.co - p.fr ≤ (p.rows.length : Int) - 1) ∧ ¬ (e.kd = 0 ∧ rowsN g ≤ e.ro))
instance (g : Gram) (p : Path) (e : Ed) : Decidable (fitB g p e) := by unfold fitB; infer_instance
def fitE (g : Gram) (p : Path) (l : List Ed) : Int := if ∀ i, i < l.length → fitB g p (l.getD i edD) then 0 else 6
theorem fitErr_ok {g : Gram} {p : Path} {l : List Ed} (h : 0 < g.cols.length) (hp : p.rows.length ≤ 1000) (hl : l.length ≤ 100000) (pf : 0 ≤ p.fr ∧ p.fr ≤ 1000) (hc : ∀ i, i < l.length → (l.getD i edD).kd ≠ 2 → 0 ≤ (l.getD i edD).co ∧ (l.getD i edD).co ≤ 1000) : FnOK Try.prog 27 [eGram g, ePath p, eEds l] (I (fitE g p l)) [] := by
  refine fn_i hmix hT Try.f27 (by kernel_rfl) rfl (by kernel_rfl) ?_
  with_reducible conv => whnf
  refine loop_i hmix hT (fun k : Nat => ([(2, eEds l), (3, .ptr 0 0), (4, .ptr 1 0), (7, I k)], ⟨2, [(1, .cells [I p.fr, eInts p.rows] 27), (0, .cells [I g.first, I g.step, eCols g.cols] 24)]⟩)) (fun k => k ≤ l.length ∧ ∀ i, i < k → fitB g p (l.getD i edD)) (fun k => l.length - k) 0 ⟨by omega, fun i hi => by omega⟩ ?_ ?_
  · refine ⟨[], rfl, ⟨⟨_, rfl, vm_p⟩, ⟨_, rfl, vm_ptr rfl rfl rfl⟩, ⟨_, rfl, vm_ptr rfl rfl rfl⟩, ⟨_, rfl, vm_p⟩, trivial⟩, ⟨⟨_, rfl, sbm_cells vmL_p⟩, ⟨_, rfl, sbm_cells vmL_p⟩, trivial⟩⟩
  intro k ⟨hk1, hk2⟩
  have hck := hc k
  have tk : toN (k : Int) = k := toN_nat k
  by_cases c : k < l.length
  · with_reducible conv => whnf
    repeat' ((first | (with_reducible refine branch_t ?_) | (with_reducible refine branch_f ?_) | (with_reducible refine branch_nt ?_) | (with_reducible refine branch_nf ?_) | (with_reducible refine branch_dec (fun _ => ?_) (fun _ => ?_)) | (with_reducible refine branch_ndec (fun _ => ?_) (fun _ => ?_)) | (with_reducible refine branch_bool (fun _ => ?_) (fun _ => ?_)) | (with_reducible refine arith_64 (by omega) ?_) | (with_reducible refine ob_i (by omega) (fun _ => ?_)) | (with_reducible refine ob_i (by unfold room; omega) (fun _ => ?_)) | (with_reducible refine ob_i (by (try simp only [] at *); (try dsimp only [toN] at *); omega) (fun _ => ?_)) | (with_reducible refine arith_64 (by (try simp only [] at *); (try dsimp only [toN] at *); omega) ?_) | (with_reducible refine ob_k rfl ?_) | ((with_reducible refine ob_k ?_ ?_); focus kernel_rfl) | (refine yield_i hmix hT rfl hL efr eps eag ebd rfl (by kernel_rfl) ?_) | (apply call_u bWithin_ok) | (apply call_u (rRows_ok h)) | (apply call_l (first_ok (l := [_, _]) (Nat.le_of_ble_eq_true rfl)) (.cons (vm_lit _ rfl rfl (.cons (vm_int rfl) (.cons (vm_int rfl) .nil))) .nil)) | (apply call_l (first_ok (l := [_, _, _]) (Nat.le_of_ble_eq_true rfl)) (.cons (vm_lit _ rfl rfl (.cons (vm_int rfl) (.cons (vm_int rfl) (.cons (vm_int rfl) .nil)))) .nil)) | (apply call_l (first_ok (l := [_, _, _, _]) (Nat.le_of_ble_eq_true rfl)) (.cons (vm_lit _ rfl rfl (.cons (vm_int rfl) (.cons (vm_int rfl) (.cons (vm_int rfl) (.cons (vm_int rfl) .nil))))) .nil))) <;> (try (exfalso; omega; done)) <;> (with_reducible conv => whnf))
    all_goals (simp only [tk] at *)
    all_goals first
      | (refine ⟨k + 1, ⟨by omega, fun i hi => ?_⟩, by omega, [], rfl, ⟨⟨_, rfl, vm_p⟩, ⟨_, rfl, vm_ptr rfl rfl rfl⟩, ⟨_, rfl, vm_ptr rfl rfl rfl⟩, ⟨_, rfl, vm_p⟩, trivial⟩, ⟨⟨_, rfl, sbm_cells vmL_p⟩, ⟨_, rfl, sbm_cells vmL_p⟩, trivial⟩⟩
         rcases Nat.lt_or_ge i k with h3 | h3
         · exact hk2 i h3
         · obtain rfl : i = k := by omega
           unfold fitB; omega)
      | (have nf : ¬ fitB g p (l.getD k edD) := by unfold fitB; omega
         have e6 : fitE g p l = 6 := by unfold fitE; exact if_neg fun a => nf (a k c)
         rw [e6]
         exact ret0 vm_p)
  · with_reducible conv => whnf
    repeat' ((first | (with_reducible refine branch_t ?_) | (with_reducible refine branch_f ?_) | (with_reducible refine branch_nt ?_) | (with_reducible refine branch_nf ?_) | (with_reducible refine branch_dec (fun _ => ?_) (fun _ => ?_)) | (with_reducible refine branch_ndec (fun _ => ?_) (fun _ => ?_)) | (with_reducible refine branch_bool (fun _ => ?_) (fun _ => ?_)) | (with_reducible refine arith_64 (by omega) ?_) | (with_reducible refine ob_i (by omega) (fun _ => ?_)) | (with_reducible refine ob_i (by unfold room; omega) (fun _ => ?_)) | (with_reducible refine ob_i (by (try simp only [] at *); (try dsimp only [toN] at *); omega) (fun _ => ?_)) | (with_reducible refine arith_64 (by (try simp only [] at *); (try dsimp only [toN] at *); omega) ?_) | (with_reducible refine ob_k rfl ?_) | ((with_reducible refine ob_k ?_ ?_); focus kernel_rfl) | (refine yield_i hmix hT rfl hL efr eps eag ebd rfl (by kernel_rfl) ?_)  | (apply call_l (first_ok (l := [_, _]) (Nat.le_of_ble_eq_true rfl)) (.cons (vm_lit _ rfl rfl (.cons (vm_int rfl) (.cons (vm_int rfl) .nil))) .nil)) | (apply call_l (first_ok (l := [_, _, _]) (Nat.le_of_ble_eq_true rfl)) (.cons (vm_lit _ rfl rfl (.cons (vm_int rfl) (.cons (vm_int rfl) (.cons (vm_int rfl) .nil)))) .nil)) | (apply call_l (first_ok (l := [_, _, _, _]) (Nat.le_of_ble_eq_true rfl)) (.cons (vm_lit _ rfl rfl (.cons (vm_int rfl) (.cons (vm_int rfl) (.cons (vm_int rfl) (.cons (vm_int rfl) .nil))))) .nil))) <;> (try (exfalso; omega; done)) <;> (with_reducible conv => whnf))
    have e0 : fitE g p l = 0 := by unfold fitE; exact if_pos fun i hi => hk2 i (by omega)
    rw [e0]
    exact ret0 vm_p
theorem copyIntsO_ok {l : List Int} (hl : l.length ≤ 100000) : FnOK Try.prog 48 [eInts l] (.own 0 1 0 l.length) [.row 1 l.length (fun i => I (l.getD i 0)) 3] := by
  refine fn_i hmix hT Try.f48 (by kernel_rfl) rfl (by kernel_rfl) ?_
  with_reducible conv => whnf
  repeat' ((first | (with_reducible refine branch_t ?_) | (with_reducible refine branch_f ?_) | (with_reducible refine branch_nt ?_) | (with_reducible refine branch_nf ?_) | (with_reducible refine branch_dec (fun _ => ?_) (fun _ => ?_)) | (with_reducible refine branch_ndec (fun _ => ?_) (fun _ => ?_)) | (with_reducible refine branch_bool (fun _ => ?_) (fun _ => ?_)) | (with_reducible refine arith_64 (by omega) ?_) | (with_reducible refine ob_i (by omega) (fun _ => ?_)) | (with_reducible refine ob_i (by unfold room; omega) (fun _ => ?_)) | ((with_reducible refine ob_k ?_ ?_); focus kernel_rfl) ) <;> (try (exfalso; omega; done)) <;> (with_reducible conv => whnf))
  refine ⟨⟨[(0, some 1)], rfl, vm_own rfl rfl rfl (by omega), ⟨⟨_, rfl, sbm_row (by omega) fun i hi => ?_⟩, trivial⟩⟩⟩
  rw [appF_ge (by omega), Nat.sub_zero]
  exact vm_p
theorem pureI {n : Nat} {f : Nat → Int} {ty : TypeId} : ∀ s ∈ [SB.row 1 n (fun i => I (f i)) ty], PureS False s := fun s hs => by
  simp only [List.mem_singleton] at hs
  subst hs
  exact fun i hi => .inr IsPlain.h
theorem copyPathO_ok {p : Path} (hl : p.rows.length ≤ 100000) : FnOK Try.prog 12 [ePath p] (.agg [I p.fr, .own 0 1 0 p.rows.length]) [.row 1 p.rows.length (fun i => I (p.rows.getD i 0)) 3] := by
  refine fn_i hmix hT Try.f12 (by kernel_rfl) rfl (by kernel_rfl) ?_
  with_reducible conv => whnf
  repeat' ((first | (with_reducible refine branch_t ?_) | (with_reducible refine branch_f ?_) | (with_reducible refine branch_nt ?_) | (with_reducible refine branch_nf ?_) | (with_reducible refine branch_dec (fun _ => ?_) (fun _ => ?_)) | (with_reducible refine branch_ndec (fun _ => ?_) (fun _ => ?_)) | (with_reducible refine branch_bool (fun _ => ?_) (fun _ => ?_)) | (with_reducible refine arith_64 (by omega) ?_) | (with_reducible refine ob_i (by omega) (fun _ => ?_)) | (with_reducible refine ob_i (by unfold room; omega) (fun _ => ?_)) | ((with_reducible refine ob_k ?_ ?_); focus kernel_rfl) | (refine call_p (copyIntsO_ok hl) (.cons vm_p .nil) pureI rv_own ?_)) <;> (try (exfalso; omega; done)) <;> (with_reducible conv => whnf))
  exact ⟨⟨[(0, some 2)], rfl, vm_agg (.cons vm_p (.cons (vm_own rfl rfl rfl rfl) .nil)), ⟨⟨_, rfl, sbm_row rfl fun _ _ => vm_p⟩, trivial⟩⟩⟩
theorem row_set {S : Vw} {O : List Int} {p q : Nat} {x y : Int} {n : Nat} {ty : TypeId} (hp : p = q) (hq : q < O.length) (hx : x = y) : sbm S (.row 1 n (setF (fun j => I (O.getD j 0)) p (I x)) ty) (.row 1 n (fun j => I ((O.set q y).getD j 0)) ty) := by
  subst hp hx
  refine sbm_row rfl fun j _ => ?_
  rw [getD_set hq]
  by_cases c : j = p
  · subst c
    rw [setF_at, if_pos rfl]; exact vm_p
  · rw [if_neg c]
    show vm S (if j = p then _ else _) _
    rw [if_neg c]; exact vm_p
theorem fwR_yes {l : List Ed} {fr : Int} {rs : List Int} {k : Nat} (h1 : (l.getD k edD).kd ≠ 2) (h2 : stB l k = true) : fwR l fr rs (k + 1) = (fwR l fr rs k).set ((l.getD k edD).co - fr).toNat (edV (l.getD k edD)) := by
  have : actB l k = true := by unfold actB; rw [h2]; simpa using h1
  simp only [fwR, this, if_true]
theorem fwR_no {l : List Ed} {fr : Int} {rs : List Int} {k : Nat} (h : (l.getD k edD).kd = 2 ∨ stB l k = false) : fwR l fr rs (k + 1) = fwR l fr rs k := by
  have : actB l k = false := by
    unfold actB
    rcases h with h | h
    · rw [h]; simp
    · rw [h]; rfl
  simp only [fwR, this, Bool.false_eq_true, if_false]
set_option maxHeartbeats 4000000 in
theorem rCorrected_ok {p : Path} {l : List Ed} (hp : p.rows.length ≤ 1000) (hl : l.length ≤ 100000) (_pf : 0 ≤ p.fr ∧ p.fr ≤ 1000) (hf : fits l p.fr p.rows.length) (hk : ∀ i, i < l.length → 0 ≤ (l.getD i edD).kd ∧ (l.getD i edD).kd ≤ 2) : FnOK Try.prog 29 [ePath p, eEds l] (ePath ⟨p.fr, fwR l p.fr p.rows l.length⟩) [] := by
  refine fn_i hmix hT Try.f29 (by kernel_rfl) rfl (by kernel_rfl) ?_
  with_reducible conv => whnf
  repeat' ((first | (with_reducible refine branch_t ?_) | (with_reducible refine branch_f ?_) | (with_reducible refine branch_nt ?_) | (with_reducible refine branch_nf ?_) | (with_reducible refine branch_dec (fun _ => ?_) (fun _ => ?_)) | (with_reducible refine branch_ndec (fun _ => ?_) (fun _ => ?_)) | (with_reducible refine branch_bool (fun _ => ?_) (fun _ => ?_)) | (with_reducible refine arith_64 (by omega) ?_) | (with_reducible refine ob_i (by omega) (fun _ => ?_)) | (with_reducible refine ob_i (by unfold room; omega) (fun _ => ?_)) | (with_reducible refine ob_i (by (try simp only [toN_eq, Int.toNat_natCast] at *); (try dsimp only [toN] at *); omega) (fun _ => ?_)) | (with_reducible refine arith_64 (by (try simp only [toN_eq, Int.toNat_natCast] at *); (try dsimp only [toN] at *); omega) ?_) | (with_reducible refine ob_k rfl ?_) | ((with_reducible refine ob_k ?_ ?_); focus kernel_rfl) | (refine yield_i hmix hT rfl hL efr eps eag ebd rfl (by kernel_rfl) ?_) | (refine call_p (copyPathO_ok (by omega)) (.cons vm_p .nil) pureI (rv_agg (.cons (rv_plain IsPlain.h) (.cons rv_own .nil))) ?_) | (apply call_l (first_ok (l := [_, _]) (Nat.le_of_ble_eq_true rfl)) (.cons (vm_lit _ rfl rfl (.cons (vm_int rfl) (.cons (vm_int rfl) .nil))) .nil)) | (apply call_l (first_ok (l := [_, _, _]) (Nat.le_of_ble_eq_true rfl)) (.cons (vm_lit _ rfl rfl (.cons (vm_int rfl) (.cons (vm_int rfl) (.cons (vm_int rfl) .nil)))) .nil)) | (apply call_l (first_ok (l := [_, _, _, _]) (Nat.le_of_ble_eq_true rfl)) (.cons (vm_lit _ rfl rfl (.cons (vm_int rfl) (.cons (vm_int rfl) (.cons (vm_int rfl) (.cons (vm_int rfl) .nil))))) .nil))) <;> (try (exfalso; omega; done)) <;> (with_reducible conv => whnf))
  refine loop_i hmix hT (fun k : Nat => ([(1, eEds l), (2, .ptr 0 0), (4, .ptr 1 0), (5, .ptr 3 0), (6, I k)], ⟨4, [(3, .cells [I p.fr, .own 2 1 0 p.rows.length] 27), (2, .row 1 p.rows.length (fun i => I ((fwR l p.fr p.rows k).getD i 0)) 3), (1, .cells [I 0, .sc (.slice none 0 0)] 27), (0, .cells [I p.fr, eInts p.rows] 27)]⟩)) (fun k => k ≤ l.length) (fun k => l.length - k) 0 (by omega) ?_ ?_
  · exact ⟨[], rfl, ⟨⟨_, rfl, vm_p⟩, ⟨_, rfl, vm_ptr rfl rfl rfl⟩, ⟨_, rfl, vm_ptr rfl rfl rfl⟩, ⟨_, rfl, vm_ptr rfl rfl rfl⟩, ⟨_, rfl, vm_p⟩, trivial⟩, ⟨⟨_, rfl, sbm_cells (.cons vm_p (.cons (vm_own rfl rfl rfl rfl) .nil))⟩, ⟨_, rfl, sbm_row rfl fun _ _ => vm_p⟩, ⟨_, rfl, sbm_cells vmL_p⟩, ⟨_, rfl, sbm_cells vmL_p⟩, trivial⟩⟩
  intro k hk1
  have hck := hf k
  have hkk := hk k
  have ST := standing_ok (l := l) hl l.length k
  have tk : toN (k : Int) = k := toN_nat k
  have fl := fwR_len (l := l) (fr := p.fr) (rs := p.rows) k
  by_cases c : k < l.length
  · have ST := ST c (by omega)
    have hkk := hkk c
    with_reducible conv => whnf
    repeat' ((first | (with_reducible refine branch_t ?_) | (with_reducible refine branch_f ?_) | (with_reducible refine branch_nt ?_) | (with_reducible refine branch_nf ?_) | (with_reducible refine branch_dec (fun _ => ?_) (fun _ => ?_)) | (with_reducible refine branch_ndec (fun _ => ?_) (fun _ => ?_)) | (with_reducible refine branch_bool (fun _ => ?_) (fun _ => ?_)) | (with_reducible refine arith_64 (by omega) ?_) | (with_reducible refine ob_i (by omega) (fun _ => ?_)) | (with_reducible refine ob_i (by unfold room; omega) (fun _ => ?_)) | (with_reducible refine ob_i (by (try simp only [toN_eq] at *); (try dsimp only [toN] at *); omega) (fun _ => ?_)) | (with_reducible refine arith_64 (by (try simp only [toN_eq] at *); (try dsimp only [toN] at *); omega) ?_) | (with_reducible refine ob_k rfl ?_) | ((with_reducible refine ob_k ?_ ?_); focus kernel_rfl) | (refine yield_i hmix hT rfl hL efr eps eag ebd rfl (by kernel_rfl) ?_) | (apply call_u ST) | (apply call_l (first_ok (l := [_, _]) (Nat.le_of_ble_eq_true rfl)) (.cons (vm_lit _ rfl rfl (.cons (vm_int rfl) (.cons (vm_int rfl) .nil))) .nil)) | (apply call_l (first_ok (l := [_, _, _]) (Nat.le_of_ble_eq_true rfl)) (.cons (vm_lit _ rfl rfl (.cons (vm_int rfl) (.cons (vm_int rfl) (.cons (vm_int rfl) .nil)))) .nil)) | (apply call_l (first_ok (l := [_, _, _, _]) (Nat.le_of_ble_eq_true rfl)) (.cons (vm_lit _ rfl rfl (.cons (vm_int rfl) (.cons (vm_int rfl) (.cons (vm_int rfl) (.cons (vm_int rfl) .nil))))) .nil))) <;> (try (exfalso; omega; done)) <;> (with_reducible conv => whnf))
    · rename_i h1
      rw [tk] at h1
      refine ⟨k + 1, by omega, by omega, [], rfl, ?_⟩
      rw [fwR_no (.inl h1)]
      exact ⟨⟨⟨_, rfl, vm_p⟩, ⟨_, rfl, vm_ptr rfl rfl rfl⟩, ⟨_, rfl, vm_ptr rfl rfl rfl⟩, ⟨_, rfl, vm_ptr rfl rfl rfl⟩, ⟨_, rfl, vm_p⟩, trivial⟩, ⟨⟨_, rfl, sbm_cells (.cons vm_p (.cons (vm_own rfl rfl rfl rfl) .nil))⟩, ⟨_, rfl, sbm_row rfl fun _ _ => vm_p⟩, ⟨_, rfl, sbm_cells vmL_p⟩, ⟨_, rfl, sbm_cells vmL_p⟩, trivial⟩⟩
    · rename_i h2
      refine ⟨k + 1, by omega, by omega, [], rfl, ?_⟩
      rw [fwR_no (.inr (by simpa using h2))]
      exact ⟨⟨⟨_, rfl, vm_p⟩, ⟨_, rfl, vm_ptr rfl rfl rfl⟩, ⟨_, rfl, vm_ptr rfl rfl rfl⟩, ⟨_, rfl, vm_ptr rfl rfl rfl⟩, ⟨_, rfl, vm_p⟩, trivial⟩, ⟨⟨_, rfl, sbm_cells (.cons vm_p (.cons (vm_own rfl rfl rfl rfl) .nil))⟩, ⟨_, rfl, sbm_row rfl fun _ _ => vm_p⟩, ⟨_, rfl, sbm_cells vmL_p⟩, ⟨_, rfl, sbm_cells vmL_p⟩, trivial⟩⟩
    all_goals
      (try simp only [tk] at *)
      have h1 : (l.getD k edD).kd ≠ 2 := by assumption
      have h2 : stB l k = true := by
        have : (!stB l k) = false := by assumption
        simpa using this
      have hc2 := hck c h1
      refine ⟨k + 1, by omega, by omega, [], rfl, ?_⟩
      rw [fwR_yes h1 h2]
      refine ⟨⟨⟨_, rfl, vm_p⟩, ⟨_, rfl, vm_ptr rfl rfl rfl⟩, ⟨_, rfl, vm_ptr rfl rfl rfl⟩, ⟨_, rfl, vm_ptr rfl rfl rfl⟩, ⟨_, rfl, vm_p⟩, trivial⟩, ⟨⟨_, rfl, sbm_cells (.cons vm_p (.cons (vm_own rfl rfl rfl rfl) .nil))⟩, ⟨_, rfl, row_set (by rw [toN_eq]; omega) (by omega) ?_⟩, ⟨_, rfl, sbm_cells vmL_p⟩, ⟨_, rfl, sbm_cells vmL_p⟩, trivial⟩⟩
      unfold edV
      first
        | (rw [if_neg (by omega)])
        | (rw [if_pos (by omega)])
  · with_reducible conv => whnf
    repeat' ((first | (with_reducible refine branch_t ?_) | (with_reducible refine branch_f ?_) | (with_reducible refine branch_nt ?_) | (with_reducible refine branch_nf ?_) | (with_reducible refine branch_dec (fun _ => ?_) (fun _ => ?_)) | (with_reducible refine branch_ndec (fun _ => ?_) (fun _ => ?_)) | (with_reducible refine branch_bool (fun _ => ?_) (fun _ => ?_)) | (with_reducible refine arith_64 (by omega) ?_) | (with_reducible refine ob_i (by omega) (fun _ => ?_)) | (with_reducible refine ob_i (by unfold room; omega) (fun _ => ?_)) | (with_reducible refine ob_i (by (try simp only [] at *); (try dsimp only [toN] at *); omega) (fun _ => ?_)) | (with_reducible refine arith_64 (by (try simp only [] at *); (try dsimp only [toN] at *); omega) ?_) | (with_reducible refine ob_k rfl ?_) | ((with_reducible refine ob_k ?_ ?_); focus kernel_rfl) | (refine yield_i hmix hT rfl hL efr eps eag ebd rfl (by kernel_rfl) ?_)  | (apply call_l (first_ok (l := [_, _]) (Nat.le_of_ble_eq_true rfl)) (.cons (vm_lit _ rfl rfl (.cons (vm_int rfl) (.cons (vm_int rfl) .nil))) .nil)) | (apply call_l (first_ok (l := [_, _, _]) (Nat.le_of_ble_eq_true rfl)) (.cons (vm_lit _ rfl rfl (.cons (vm_int rfl) (.cons (vm_int rfl) (.cons (vm_int rfl) .nil)))) .nil)) | (apply call_l (first_ok (l := [_, _, _, _]) (Nat.le_of_ble_eq_true rfl)) (.cons (vm_lit _ rfl rfl (.cons (vm_int rfl) (.cons (vm_int rfl) (.cons (vm_int rfl) (.cons (vm_int rfl) .nil))))) .nil))) <;> (try (exfalso; omega; done)) <;> (with_reducible conv => whnf))
    obtain rfl : k = l.length := by omega
    have fl : p.rows.length = (fwR l p.fr p.rows l.length).length := fl.symm
    exact ret0 (vm_agg (.cons vm_p (.cons (vm_fr rfl rfl fl (Nat.le_refl _) fun i hi => vm_p) .nil)))
end Go.Proofs.Ytkliejppigfjiaa
