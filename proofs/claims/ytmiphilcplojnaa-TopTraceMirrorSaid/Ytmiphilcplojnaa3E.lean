/-
  Chapter 3: traces: points, where a trace is seen (the document's functions and the program's, by contract).
  Conditions: none.
-/
import Derived.Test.Ytmiphilcplojnaa3D
namespace Go.Proofs.Ytmiphilcplojnaa
open Go.RowKit Fx
theorem sbm_snoc {S : Vw} {α : Type} {f : α → V} {d : α} {l : List α} {v : α} {x : V} {sz : Nat} {t : TypeId} [h : ∀ a, IsPure (f a)] (hx : vm S x (f v)) :
    sbm S (.row sz (l.length + 1) (appF l.length (fun i => f (l.getD i d)) (litF [x])) t) (.row sz (l ++ [v]).length (fun i => f ((l ++ [v]).getD i d)) t) := by
  refine sbm_row (by simp) fun i hi => ?_
  rw [List.length_append] at hi
  refine vm_snoc (e' := fun i => f ((l ++ [v]).getD i d)) hi (fun j hj => ?_) ?_
  · have : (l ++ [v]).getD j d = l.getD j d := by
      rw [List.getD_eq_getElem?_getD, List.getD_eq_getElem?_getD, List.getElem?_append_left hj]
    show vm S _ (f ((l ++ [v]).getD j d))
    rw [this]; exact vm_p
  · have : (l ++ [v]).getD l.length d = v := by
      rw [List.getD_eq_getElem?_getD, List.getElem?_append_right (Nat.le_refl _)]; simp
    show vm S _ (f ((l ++ [v]).getD l.length d))
    rw [this]; exact hx
/-! ### Plain -/
def amp (g : Gram) (c r : Int) : Int := ((g.cols.getD c.toNat []).getD r.toNat (0, 0)).1
def seenB (g : Gram) (p : Path) (th : Int) (i : Nat) : Bool := decide (0 ≤ p.rows.getD i 0) && decide (th ≤ amp g (p.fr + i) (p.rows.getD i 0))
def seenK (g : Gram) (p : Path) (th : Int) : Nat → List Int
  | 0 => []
  | k + 1 => if seenB g p th k = true then seenK g p th k ++ [p.fr + k] else seenK g p th k
theorem seenK_len (g : Gram) (p : Path) (th : Int) : ∀ k, (seenK g p th k).length ≤ k
  | 0 => Nat.le_refl _
  | k + 1 => by
    have := seenK_len g p th k
    simp only [seenK]
    split
    · simp; omega
    · omega
theorem seenK_yes {g : Gram} {p : Path} {th : Int} {k : Nat} (h1 : 0 ≤ p.rows.getD k 0) (h2 : th ≤ ((g.cols.getD (p.fr + k).toNat []).getD (p.rows.getD k 0).toNat (0, 0)).1) : seenK g p th (k + 1) = seenK g p th k ++ [p.fr + k] := by
  have : seenB g p th k = true := by unfold seenB amp; simp only [Bool.and_eq_true, decide_eq_true_eq]; exact ⟨h1, h2⟩
  simp only [seenK, this, if_true]
theorem seenK_no {g : Gram} {p : Path} {th : Int} {k : Nat} (h : ¬ (0 ≤ p.rows.getD k 0 ∧ th ≤ ((g.cols.getD (p.fr + k).toNat []).getD (p.rows.getD k 0).toNat (0, 0)).1)) : seenK g p th (k + 1) = seenK g p th k := by
  have : seenB g p th k = false := by
    cases e : seenB g p th k with
    | false => rfl
    | true => unfold seenB amp at e; simp only [Bool.and_eq_true, decide_eq_true_eq] at e; exact (h e).elim
  simp only [seenK, this, Bool.false_eq_true, if_false]
theorem rSeenIn_ok {g : Gram} {p : Path} {th : Int} (hv : g.Val) (pv : p.Val g) : FnOK Try.prog 24 [eGram g, ePath p, I th] (eInts (seenK g p th p.rows.length)) [] := by
  have v1 := hv.c0
  have v2 := hv.c1
  have v3 := hv.r1
  have p1 := pv.fr
  have p3 := pv.n1
  refine fn_i hmix hT Try.f24 (by kernel_rfl) rfl (by kernel_rfl) ?_
  with_reducible conv => whnf
  refine loop_i hmix hT (fun k : Nat => ([(2, I th), (3, .ptr 0 0), (4, .ptr 1 0), (7, .own 2 1 0 (seenK g p th k).length), (8, I k)], ⟨3, [(2, .row 1 (seenK g p th k).length (fun i => I ((seenK g p th k).getD i 0)) 3), (1, .cells [I p.fr, eInts p.rows] 27), (0, .cells [I g.first, I g.step, eCols g.cols] 24)]⟩)) (fun k => k ≤ p.rows.length) (fun k => p.rows.length - k) 0 (by omega) ?_ ?_
  · refine ⟨[(2, none)], rfl, ⟨⟨_, rfl, vm_p⟩, ⟨_, rfl, vm_ptr rfl rfl rfl⟩, ⟨_, rfl, vm_ptr rfl rfl rfl⟩, ⟨_, rfl, vm_nil rfl⟩, ⟨_, rfl, vm_p⟩, trivial⟩, ⟨⟨_, _, _, rfl⟩, ⟨_, rfl, sbm_cells vmL_p⟩, ⟨_, rfl, sbm_cells vmL_p⟩, trivial⟩⟩
  intro k hk1
  have r1 := pv.rows k
  have r2 := hv.rows (p.fr + k).toNat
  have ln := seenK_len g p th k
  with_reducible conv => whnf
  repeat' ((first | (with_reducible refine branch_t ?_) | (with_reducible refine branch_f ?_) | (with_reducible refine branch_nt ?_) | (with_reducible refine branch_nf ?_) | (with_reducible refine branch_dec (fun _ => ?_) (fun _ => ?_)) | (with_reducible refine branch_ndec (fun _ => ?_) (fun _ => ?_)) | (with_reducible refine branch_bool (fun _ => ?_) (fun _ => ?_)) | (with_reducible refine arith_64 (by omega) ?_) | (with_reducible refine ob_i (by omega) (fun _ => ?_)) | (with_reducible refine ob_i (by unfold room; omega) (fun _ => ?_)) | (with_reducible refine ob_i (by (try simp only [toN_eq] at *); (try dsimp only [toN] at *); omega) (fun _ => ?_)) | (with_reducible refine arith_64 (by (try simp only [toN_eq] at *); (try dsimp only [toN] at *); omega) ?_) | (with_reducible refine ob_k rfl ?_) | ((with_reducible refine ob_k ?_ ?_); focus kernel_rfl) | (refine yield_i hmix hT rfl hL efr eps eag ebd rfl (by kernel_rfl) ?_)  | (apply call_l (first_ok (l := [_, _]) (Nat.le_of_ble_eq_true rfl)) (.cons (vm_lit _ rfl rfl (.cons (vm_int rfl) (.cons (vm_int rfl) .nil))) .nil)) | (apply call_l (first_ok (l := [_, _, _]) (Nat.le_of_ble_eq_true rfl)) (.cons (vm_lit _ rfl rfl (.cons (vm_int rfl) (.cons (vm_int rfl) (.cons (vm_int rfl) .nil)))) .nil)) | (apply call_l (first_ok (l := [_, _, _, _]) (Nat.le_of_ble_eq_true rfl)) (.cons (vm_lit _ rfl rfl (.cons (vm_int rfl) (.cons (vm_int rfl) (.cons (vm_int rfl) (.cons (vm_int rfl) .nil))))) .nil))) <;> (try (exfalso; omega; done)) <;> (with_reducible conv => whnf))
  · ((try simp only [toN_eq] at *); (try dsimp only [toN] at *))
    refine ⟨k + 1, by omega, by omega, [(2, some 4)], rfl, ⟨⟨_, rfl, vm_p⟩, ⟨_, rfl, vm_ptr rfl rfl rfl⟩, ⟨_, rfl, vm_ptr rfl rfl rfl⟩, ⟨_, rfl, vm_own rfl rfl rfl ?_⟩, ⟨_, rfl, vm_p⟩, trivial⟩, ⟨⟨_, rfl, ?_⟩, ⟨_, rfl, sbm_cells vmL_p⟩, ⟨_, rfl, sbm_cells vmL_p⟩, trivial⟩⟩
    · rw [seenK_yes (by assumption) (by assumption)]; simp
    · rw [seenK_yes (by assumption) (by assumption)]; exact sbm_snoc vm_p
  · ((try simp only [toN_eq] at *); (try dsimp only [toN] at *))
    refine ⟨k + 1, by omega, by omega, [], rfl, ?_, ?_⟩ <;> rw [seenK_no (by omega)]
    · exact ⟨⟨_, rfl, vm_p⟩, ⟨_, rfl, vm_ptr rfl rfl rfl⟩, ⟨_, rfl, vm_ptr rfl rfl rfl⟩, ⟨_, rfl, vm_own rfl rfl rfl rfl⟩, ⟨_, rfl, vm_p⟩, trivial⟩
    · exact ⟨⟨_, rfl, sbm_row rfl fun _ _ => vm_p⟩, ⟨_, rfl, sbm_cells vmL_p⟩, ⟨_, rfl, sbm_cells vmL_p⟩, trivial⟩
  · ((try simp only [] at *); (try dsimp only [toN] at *))
    refine ⟨k + 1, by omega, by omega, [], rfl, ?_, ?_⟩ <;> rw [seenK_no (by omega)]
    · exact ⟨⟨_, rfl, vm_p⟩, ⟨_, rfl, vm_ptr rfl rfl rfl⟩, ⟨_, rfl, vm_ptr rfl rfl rfl⟩, ⟨_, rfl, vm_own rfl rfl rfl rfl⟩, ⟨_, rfl, vm_p⟩, trivial⟩
    · exact ⟨⟨_, rfl, sbm_row rfl fun _ _ => vm_p⟩, ⟨_, rfl, sbm_cells vmL_p⟩, ⟨_, rfl, sbm_cells vmL_p⟩, trivial⟩
  · obtain rfl : k = p.rows.length := by omega
    exact ret0 (vm_fr rfl rfl rfl (Nat.le_refl _) fun i hi => vm_p)
def seenE (g : Gram) (p : Path) (th : Int) : Int := if openPathE g p ≠ 0 then openPathE g p else if ¬ (0 ≤ th ∧ th ≤ 255) then 2 else 0
def seenL (g : Gram) (p : Path) (th : Int) : List Int := if seenE g p th ≠ 0 then [] else seenK g p th p.rows.length
theorem openPath_val {g : Gram} {p : Path} (h : openPathE g p = 0) : g.Val ∧ p.Val g := by
  unfold openPathE at h
  split at h
  · contradiction
  · exact ⟨gram_val (by omega), path_val h⟩
theorem pSeenIn_ok {g : Gram} {p : Path} {th : Int} (hg : g.Ok) (hp : p.rows.length ≤ 9223372036854775807) : FnOK Try.prog 16 [eGram g, ePath p, I th] (.tup [eInts (seenL g p th), I (seenE g p th)]) [] := by
  have e0 : firstErr [openPathE g p, if decide (0 ≤ th ∧ th ≤ 255) = true then 0 else 2] = seenE g p th := by
    unfold seenE; simp only [firstErr]; grind
  have ov := @openPath_val g p
  refine fn_i hmix hT Try.f16 (by kernel_rfl) rfl (by kernel_rfl) ?_
  with_reducible conv => whnf
  repeat' ((first | (with_reducible refine branch_t ?_) | (with_reducible refine branch_f ?_) | (with_reducible refine branch_nt ?_) | (with_reducible refine branch_nf ?_) | (with_reducible refine branch_dec (fun _ => ?_) (fun _ => ?_)) | (with_reducible refine branch_ndec (fun _ => ?_) (fun _ => ?_)) | (with_reducible refine branch_bool (fun _ => ?_) (fun _ => ?_)) | (with_reducible refine arith_64 (by omega) ?_) | (with_reducible refine ob_i (by omega) (fun _ => ?_)) | (with_reducible refine ob_i (by unfold room; omega) (fun _ => ?_)) | (with_reducible refine ob_i (by (try simp only [toN_eq, Int.toNat_natCast] at *); (try dsimp only [toN] at *); omega) (fun _ => ?_)) | (with_reducible refine arith_64 (by (try simp only [toN_eq, Int.toNat_natCast] at *); (try dsimp only [toN] at *); omega) ?_) | (with_reducible refine ob_k rfl ?_) | ((with_reducible refine ob_k ?_ ?_); focus kernel_rfl) | (refine yield_i hmix hT rfl hL efr eps eag ebd rfl (by kernel_rfl) ?_) | (apply call_u (openPath_ok hg hp)) | (apply call_u isAmplitude_ok) | (apply call_u unless_ok) | (apply call_u points_ok) | (apply call_l (first_ok (l := [_, _]) (Nat.le_of_ble_eq_true rfl)) (.cons (vm_lit _ rfl rfl (.cons (vm_int rfl) (.cons (vm_int rfl) .nil))) .nil)) | (apply call_l (first_ok (l := [_, _, _]) (Nat.le_of_ble_eq_true rfl)) (.cons (vm_lit _ rfl rfl (.cons (vm_int rfl) (.cons (vm_int rfl) (.cons (vm_int rfl) .nil)))) .nil)) | (apply call_l (first_ok (l := [_, _, _, _]) (Nat.le_of_ble_eq_true rfl)) (.cons (vm_lit _ rfl rfl (.cons (vm_int rfl) (.cons (vm_int rfl) (.cons (vm_int rfl) (.cons (vm_int rfl) .nil))))) .nil))) <;> (try (exfalso; omega; done)) <;> (with_reducible conv => whnf))
  · rename_i h
    rw [e0] at h ⊢
    exact ret0 (vm_tup (.cons (vm_nilsl (by unfold seenL; rw [if_pos h]; rfl)) (.cons vm_p .nil)))
  rename_i h
  rw [e0] at h
  have hz : seenE g p th = 0 := by omega
  obtain ⟨hv, pv⟩ := ov (by unfold seenE at hz; grind)
  have v1 := hv.c0
  have v2 := hv.c1
  have v3 := hv.r1
  have p1 := pv.fr
  have p3 := pv.n1
  refine range_i hmix hT rfl Try.f106 (by kernel_rfl) rfl (by kernel_rfl) 0 [5, 6, 7, 8, 10] (by kernel_rfl) ?_
  intro L efr eps eag ebd etok hL
  with_reducible conv => whnf
  refine loop_i hmix hT (fun k : Nat => ([(0, .yld 6), (1, .pv [I p.fr, eInts p.rows] 0), (6, eInts p.rows), (7, I p.rows.length), (8, I k)], ⟨8, [(6, .loop L .ready), (7, .row 1 (seenK g p th k).length (fun i => I ((seenK g p th k).getD i 0)) 3), (5, .cells [.own 7 1 0 (seenK g p th k).length] 25), (3, .cells [I g.first, I g.step, eCols g.cols] 129), (2, .cells [I th] 3)]⟩)) (fun k => k ≤ p.rows.length) (fun k => p.rows.length - k) 0 (by omega) ?_ ?_
  · refine ⟨[(7, none)], rfl, ⟨⟨_, rfl, vm_yld rfl rfl⟩, ⟨_, rfl, vm_p⟩, ⟨_, rfl, vm_p⟩, ⟨_, rfl, vm_p⟩, ⟨_, rfl, vm_p⟩, trivial⟩, ⟨⟨_, rfl, sbm_loop ?_⟩, ⟨_, _, _, rfl⟩, ⟨_, rfl, sbm_cells (.cons (vm_nil rfl) .nil)⟩, ⟨_, rfl, sbm_cells vmL_p⟩, ⟨_, rfl, sbm_cells vmL_p⟩, trivial⟩⟩
    rw [efr]
    exact ⟨⟨_, rfl, vm_ptr rfl rfl rfl⟩, ⟨_, rfl, vm_p⟩, ⟨_, rfl, vm_p⟩, ⟨_, rfl, vm_ptr rfl rfl rfl⟩, ⟨_, rfl, vm_ptr rfl rfl rfl⟩, trivial⟩
  intro k hk1
  have r1 := pv.rows k
  have r2 := hv.rows (p.fr + k).toNat
  have ln := seenK_len g p th k
  with_reducible conv => whnf
  repeat' ((first | (with_reducible refine branch_t ?_) | (with_reducible refine branch_f ?_) | (with_reducible refine branch_nt ?_) | (with_reducible refine branch_nf ?_) | (with_reducible refine branch_dec (fun _ => ?_) (fun _ => ?_)) | (with_reducible refine branch_ndec (fun _ => ?_) (fun _ => ?_)) | (with_reducible refine branch_bool (fun _ => ?_) (fun _ => ?_)) | (with_reducible refine arith_64 (by omega) ?_) | (with_reducible refine ob_i (by omega) (fun _ => ?_)) | (with_reducible refine ob_i (by unfold room; omega) (fun _ => ?_)) | (with_reducible refine ob_i (by (try simp only [toN_eq] at *); (try dsimp only [toN] at *); omega) (fun _ => ?_)) | (with_reducible refine arith_64 (by (try simp only [toN_eq] at *); (try dsimp only [toN] at *); omega) ?_) | (with_reducible refine ob_k rfl ?_) | ((with_reducible refine ob_k ?_ ?_); focus kernel_rfl) | (refine yield_i hmix hT rfl hL efr eps eag ebd rfl (by kernel_rfl) ?_)  | (apply call_l (first_ok (l := [_, _]) (Nat.le_of_ble_eq_true rfl)) (.cons (vm_lit _ rfl rfl (.cons (vm_int rfl) (.cons (vm_int rfl) .nil))) .nil)) | (apply call_l (first_ok (l := [_, _, _]) (Nat.le_of_ble_eq_true rfl)) (.cons (vm_lit _ rfl rfl (.cons (vm_int rfl) (.cons (vm_int rfl) (.cons (vm_int rfl) .nil)))) .nil)) | (apply call_l (first_ok (l := [_, _, _, _]) (Nat.le_of_ble_eq_true rfl)) (.cons (vm_lit _ rfl rfl (.cons (vm_int rfl) (.cons (vm_int rfl) (.cons (vm_int rfl) (.cons (vm_int rfl) .nil))))) .nil))) <;> (try (exfalso; omega; done)) <;> (with_reducible conv => whnf))
  · ((try simp only [toN_eq] at *); (try dsimp only [toN] at *))
    refine ⟨k + 1, by omega, by omega, [(7, some 9)], rfl, ⟨⟨_, rfl, vm_yld rfl rfl⟩, ⟨_, rfl, vm_p⟩, ⟨_, rfl, vm_p⟩, ⟨_, rfl, vm_p⟩, ⟨_, rfl, vm_p⟩, trivial⟩, ⟨⟨_, rfl, sbm_loop ?_⟩, ⟨_, rfl, ?_⟩, ⟨_, rfl, sbm_cells (.cons (vm_own rfl rfl rfl ?_) .nil)⟩, ⟨_, rfl, sbm_cells vmL_p⟩, ⟨_, rfl, sbm_cells vmL_p⟩, trivial⟩⟩
    · rw [efr]
      exact ⟨⟨_, rfl, vm_ptr rfl rfl rfl⟩, ⟨_, rfl, vm_p⟩, ⟨_, rfl, vm_p⟩, ⟨_, rfl, vm_ptr rfl rfl rfl⟩, ⟨_, rfl, vm_ptr rfl rfl rfl⟩, trivial⟩
    · rw [seenK_yes (by omega) (by assumption)]; exact sbm_snoc vm_p
    · rw [seenK_yes (by omega) (by assumption)]; simp
  · ((try simp only [toN_eq] at *); (try dsimp only [toN] at *))
    refine ⟨k + 1, by omega, by omega, [], rfl, ?_, ?_⟩ <;> rw [seenK_no (by omega)]
    · exact ⟨⟨_, rfl, vm_yld rfl rfl⟩, ⟨_, rfl, vm_p⟩, ⟨_, rfl, vm_p⟩, ⟨_, rfl, vm_p⟩, ⟨_, rfl, vm_p⟩, trivial⟩
    · refine ⟨⟨_, rfl, sbm_loop ?_⟩, ⟨_, rfl, sbm_row rfl fun _ _ => vm_p⟩, ⟨_, rfl, sbm_cells (.cons (vm_own rfl rfl rfl rfl) .nil)⟩, ⟨_, rfl, sbm_cells vmL_p⟩, ⟨_, rfl, sbm_cells vmL_p⟩, trivial⟩
      rw [efr]
      exact ⟨⟨_, rfl, vm_ptr rfl rfl rfl⟩, ⟨_, rfl, vm_p⟩, ⟨_, rfl, vm_p⟩, ⟨_, rfl, vm_ptr rfl rfl rfl⟩, ⟨_, rfl, vm_ptr rfl rfl rfl⟩, trivial⟩
  · ((try simp only [] at *); (try dsimp only [toN] at *))
    refine ⟨k + 1, by omega, by omega, [], rfl, ?_, ?_⟩ <;> rw [seenK_no (by omega)]
    · exact ⟨⟨_, rfl, vm_yld rfl rfl⟩, ⟨_, rfl, vm_p⟩, ⟨_, rfl, vm_p⟩, ⟨_, rfl, vm_p⟩, ⟨_, rfl, vm_p⟩, trivial⟩
    · refine ⟨⟨_, rfl, sbm_loop ?_⟩, ⟨_, rfl, sbm_row rfl fun _ _ => vm_p⟩, ⟨_, rfl, sbm_cells (.cons (vm_own rfl rfl rfl rfl) .nil)⟩, ⟨_, rfl, sbm_cells vmL_p⟩, ⟨_, rfl, sbm_cells vmL_p⟩, trivial⟩
      rw [efr]
      exact ⟨⟨_, rfl, vm_ptr rfl rfl rfl⟩, ⟨_, rfl, vm_p⟩, ⟨_, rfl, vm_p⟩, ⟨_, rfl, vm_ptr rfl rfl rfl⟩, ⟨_, rfl, vm_ptr rfl rfl rfl⟩, trivial⟩
  · obtain rfl : k = p.rows.length := by omega
    have eL : seenL g p th = seenK g p th p.rows.length := by unfold seenL; rw [if_neg (by omega)]
    rw [eL, hz]
    exact ret0 (vm_tup (.cons (vm_fr rfl rfl rfl (Nat.le_refl _) fun i hi => vm_p) (.cons vm_p .nil)))
/-! ### Points -/
abbrev Pt := Int × Int × Int
@[reducible] def ePt (x : Pt) : V := .agg [I x.1, I x.2.1, I x.2.2]
@[reducible] def ePts (l : List Pt) : V := .sl 3 l.length fun i => ePt (l.getD i (0, 0, 0))
def ptOf (g : Gram) (p : Path) (k : Nat) : Pt := (g.first + (p.fr + k) * g.step, p.rows.getD k 0, p.rows.getD k 0 + 1)
def ptsK (g : Gram) (p : Path) : Nat → List Pt
  | 0 => []
  | k + 1 => if 0 ≤ p.rows.getD k 0 then ptsK g p k ++ [ptOf g p k] else ptsK g p k
theorem ptsK_len (g : Gram) (p : Path) : ∀ k, (ptsK g p k).length ≤ k
  | 0 => Nat.le_refl _
  | k + 1 => by
    have := ptsK_len g p k
    simp only [ptsK]
    split
    · simp; omega
    · omega
theorem rPointsOf_ok {g : Gram} {p : Path} (hv : g.Val) (pv : p.Val g) : FnOK Try.prog 42 [eGram g, ePath p] (ePts (ptsK g p p.rows.length)) [] := by
  have v1 := hv.c0
  have v2 := hv.c1
  have v3 := hv.r1
  have v4 := hv.f1
  have v5 := hv.s1
  have p1 := pv.fr
  have p3 := pv.n1
  refine fn_i hmix hT Try.f42 (by kernel_rfl) rfl (by kernel_rfl) ?_
  with_reducible conv => whnf
  refine loop_i hmix hT (fun k : Nat => ([(2, .ptr 0 0), (3, .ptr 1 0), (5, .own 2 3 0 (ptsK g p k).length), (6, I k)], ⟨3, [(2, .row 3 (ptsK g p k).length (fun i => ePt ((ptsK g p k).getD i (0, 0, 0))) 80), (1, .cells [I p.fr, eInts p.rows] 27), (0, .cells [I g.first, I g.step, eCols g.cols] 24)]⟩)) (fun k => k ≤ p.rows.length) (fun k => p.rows.length - k) 0 (by omega) ?_ ?_
  · refine ⟨[(2, none)], rfl, ⟨⟨_, rfl, vm_ptr rfl rfl rfl⟩, ⟨_, rfl, vm_ptr rfl rfl rfl⟩, ⟨_, rfl, vm_nil rfl⟩, ⟨_, rfl, vm_p⟩, trivial⟩, ⟨⟨_, _, _, rfl⟩, ⟨_, rfl, sbm_cells vmL_p⟩, ⟨_, rfl, sbm_cells vmL_p⟩, trivial⟩⟩
  intro k hk1
  have r1 := pv.rows k
  have ln := ptsK_len g p k
  with_reducible conv => whnf
  repeat' ((first | (with_reducible refine branch_t ?_) | (with_reducible refine branch_f ?_) | (with_reducible refine branch_nt ?_) | (with_reducible refine branch_nf ?_) | (with_reducible refine branch_dec (fun _ => ?_) (fun _ => ?_)) | (with_reducible refine branch_ndec (fun _ => ?_) (fun _ => ?_)) | (with_reducible refine branch_bool (fun _ => ?_) (fun _ => ?_)) | (with_reducible refine arith_64 (by omega) ?_) | (with_reducible refine ob_i (by omega) (fun _ => ?_)) | (with_reducible refine ob_i (by unfold room; omega) (fun _ => ?_)) | (with_reducible refine ob_i (by (try simp only [] at *); (try dsimp only [toN] at *); omega) (fun _ => ?_)) | (with_reducible refine arith_64 (by (try simp only [] at *); (try dsimp only [toN] at *); omega) ?_) | (with_reducible refine ob_k rfl ?_) | ((with_reducible refine ob_k ?_ ?_); focus kernel_rfl) | (refine yield_i hmix hT rfl hL efr eps eag ebd rfl (by kernel_rfl) ?_) | (apply call_u (refFrequency_ok (g := g) (n := p.fr + k) (by omega) (by omega) (by omega))) | (apply call_l (first_ok (l := [_, _]) (Nat.le_of_ble_eq_true rfl)) (.cons (vm_lit _ rfl rfl (.cons (vm_int rfl) (.cons (vm_int rfl) .nil))) .nil)) | (apply call_l (first_ok (l := [_, _, _]) (Nat.le_of_ble_eq_true rfl)) (.cons (vm_lit _ rfl rfl (.cons (vm_int rfl) (.cons (vm_int rfl) (.cons (vm_int rfl) .nil)))) .nil)) | (apply call_l (first_ok (l := [_, _, _, _]) (Nat.le_of_ble_eq_true rfl)) (.cons (vm_lit _ rfl rfl (.cons (vm_int rfl) (.cons (vm_int rfl) (.cons (vm_int rfl) (.cons (vm_int rfl) .nil))))) .nil))) <;> (try (exfalso; omega; done)) <;> (with_reducible conv => whnf))
  · ((try simp only [] at *); (try dsimp only [toN] at *))
    have e1 : ptsK g p (k + 1) = ptsK g p k ++ [ptOf g p k] := by simp only [ptsK]; rw [if_pos (by omega)]
    refine ⟨k + 1, by omega, by omega, [(2, some 4)], rfl, ⟨⟨_, rfl, vm_ptr rfl rfl rfl⟩, ⟨_, rfl, vm_ptr rfl rfl rfl⟩, ⟨_, rfl, vm_own rfl rfl rfl ?_⟩, ⟨_, rfl, vm_p⟩, trivial⟩, ⟨⟨_, rfl, ?_⟩, ⟨_, rfl, sbm_cells vmL_p⟩, ⟨_, rfl, sbm_cells vmL_p⟩, trivial⟩⟩
    · rw [e1]; simp
    · rw [e1]; exact sbm_snoc vm_p
  · ((try simp only [] at *); (try dsimp only [toN] at *))
    have e1 : ptsK g p (k + 1) = ptsK g p k := by simp only [ptsK]; rw [if_neg (by omega)]
    refine ⟨k + 1, by omega, by omega, [], rfl, ?_, ?_⟩ <;> rw [e1]
    · exact ⟨⟨_, rfl, vm_ptr rfl rfl rfl⟩, ⟨_, rfl, vm_ptr rfl rfl rfl⟩, ⟨_, rfl, vm_own rfl rfl rfl rfl⟩, ⟨_, rfl, vm_p⟩, trivial⟩
    · exact ⟨⟨_, rfl, sbm_row rfl fun _ _ => vm_p⟩, ⟨_, rfl, sbm_cells vmL_p⟩, ⟨_, rfl, sbm_cells vmL_p⟩, trivial⟩
  · obtain rfl : k = p.rows.length := by omega
    exact ret0 (vm_fr rfl rfl rfl (Nat.le_refl _) fun i hi => vm_p)
theorem pPointsOf_ok {g : Gram} {p : Path} (hg : g.Ok) (hp : p.rows.length ≤ 9223372036854775807) : FnOK Try.prog 37 [eGram g, ePath p] (.tup [ePts (if openPathE g p ≠ 0 then [] else ptsK g p p.rows.length), I (openPathE g p)]) [] := by
  have ov := @openPath_val g p
  refine fn_i hmix hT Try.f37 (by kernel_rfl) rfl (by kernel_rfl) ?_
  with_reducible conv => whnf
  repeat' ((first | (with_reducible refine branch_t ?_) | (with_reducible refine branch_f ?_) | (with_reducible refine branch_nt ?_) | (with_reducible refine branch_nf ?_) | (with_reducible refine branch_dec (fun _ => ?_) (fun _ => ?_)) | (with_reducible refine branch_ndec (fun _ => ?_) (fun _ => ?_)) | (with_reducible refine branch_bool (fun _ => ?_) (fun _ => ?_)) | (with_reducible refine arith_64 (by omega) ?_) | (with_reducible refine ob_i (by omega) (fun _ => ?_)) | (with_reducible refine ob_i (by unfold room; omega) (fun _ => ?_)) | (with_reducible refine ob_i (by (try simp only [toN_eq, Int.toNat_natCast] at *); (try dsimp only [toN] at *); omega) (fun _ => ?_)) | (with_reducible refine arith_64 (by (try simp only [toN_eq, Int.toNat_natCast] at *); (try dsimp only [toN] at *); omega) ?_) | (with_reducible refine ob_k rfl ?_) | ((with_reducible refine ob_k ?_ ?_); focus kernel_rfl) | (refine yield_i hmix hT rfl hL efr eps eag ebd rfl (by kernel_rfl) ?_) | (apply call_u (openPath_ok hg hp)) | (apply call_u points_ok) | (apply call_l (first_ok (l := [_, _]) (Nat.le_of_ble_eq_true rfl)) (.cons (vm_lit _ rfl rfl (.cons (vm_int rfl) (.cons (vm_int rfl) .nil))) .nil)) | (apply call_l (first_ok (l := [_, _, _]) (Nat.le_of_ble_eq_true rfl)) (.cons (vm_lit _ rfl rfl (.cons (vm_int rfl) (.cons (vm_int rfl) (.cons (vm_int rfl) .nil)))) .nil)) | (apply call_l (first_ok (l := [_, _, _, _]) (Nat.le_of_ble_eq_true rfl)) (.cons (vm_lit _ rfl rfl (.cons (vm_int rfl) (.cons (vm_int rfl) (.cons (vm_int rfl) (.cons (vm_int rfl) .nil))))) .nil))) <;> (try (exfalso; omega; done)) <;> (with_reducible conv => whnf))
  · exact ret0 (vm_tup (.cons (vm_nilsl (by rw [if_pos (by assumption)]; rfl)) (.cons vm_p .nil)))
  rename_i h
  have hz : openPathE g p = 0 := by omega
  obtain ⟨hv, pv⟩ := ov hz
  have v1 := hv.c0
  have v2 := hv.c1
  have v3 := hv.r1
  have v4 := hv.f1
  have v5 := hv.s1
  have p1 := pv.fr
  have p3 := pv.n1
  refine range_i hmix hT rfl Try.f106 (by kernel_rfl) rfl (by kernel_rfl) 0 [4, 5, 6, 8] (by kernel_rfl) ?_
  intro L efr eps eag ebd etok hL
  with_reducible conv => whnf
  refine loop_i hmix hT (fun k : Nat => ([(0, .yld 4), (1, .pv [I p.fr, eInts p.rows] 0), (6, eInts p.rows), (7, I p.rows.length), (8, I k)], ⟨6, [(4, .loop L .ready), (5, .row 3 (ptsK g p k).length (fun i => ePt ((ptsK g p k).getD i (0, 0, 0))) 80), (3, .cells [.own 5 3 0 (ptsK g p k).length] 71), (2, .cells [I g.first, I g.step, eCols g.cols] 129)]⟩)) (fun k => k ≤ p.rows.length) (fun k => p.rows.length - k) 0 (by omega) ?_ ?_
  · refine ⟨[(5, none)], rfl, ⟨⟨_, rfl, vm_yld rfl rfl⟩, ⟨_, rfl, vm_p⟩, ⟨_, rfl, vm_p⟩, ⟨_, rfl, vm_p⟩, ⟨_, rfl, vm_p⟩, trivial⟩, ⟨⟨_, rfl, sbm_loop ?_⟩, ⟨_, _, _, rfl⟩, ⟨_, rfl, sbm_cells (.cons (vm_nil rfl) .nil)⟩, ⟨_, rfl, sbm_cells vmL_p⟩, trivial⟩⟩
    rw [efr]
    exact ⟨⟨_, rfl, vm_p⟩, ⟨_, rfl, vm_p⟩, ⟨_, rfl, vm_ptr rfl rfl rfl⟩, ⟨_, rfl, vm_ptr rfl rfl rfl⟩, trivial⟩
  intro k hk1
  have r1 := pv.rows k
  have ln := ptsK_len g p k
  with_reducible conv => whnf
  repeat' ((first | (with_reducible refine branch_t ?_) | (with_reducible refine branch_f ?_) | (with_reducible refine branch_nt ?_) | (with_reducible refine branch_nf ?_) | (with_reducible refine branch_dec (fun _ => ?_) (fun _ => ?_)) | (with_reducible refine branch_ndec (fun _ => ?_) (fun _ => ?_)) | (with_reducible refine branch_bool (fun _ => ?_) (fun _ => ?_)) | (with_reducible refine arith_64 (by omega) ?_) | (with_reducible refine ob_i (by omega) (fun _ => ?_)) | (with_reducible refine ob_i (by unfold room; omega) (fun _ => ?_)) | (with_reducible refine ob_i (by (try simp only [] at *); (try dsimp only [toN] at *); omega) (fun _ => ?_)) | (with_reducible refine arith_64 (by (try simp only [] at *); (try dsimp only [toN] at *); omega) ?_) | (with_reducible refine ob_k rfl ?_) | ((with_reducible refine ob_k ?_ ?_); focus kernel_rfl) | (refine yield_i hmix hT rfl hL efr eps eag ebd rfl (by kernel_rfl) ?_) | (apply call_u (frequency_ok (g := g) (n := p.fr + k) (by omega) (by omega) (by omega))) | (apply call_l (first_ok (l := [_, _]) (Nat.le_of_ble_eq_true rfl)) (.cons (vm_lit _ rfl rfl (.cons (vm_int rfl) (.cons (vm_int rfl) .nil))) .nil)) | (apply call_l (first_ok (l := [_, _, _]) (Nat.le_of_ble_eq_true rfl)) (.cons (vm_lit _ rfl rfl (.cons (vm_int rfl) (.cons (vm_int rfl) (.cons (vm_int rfl) .nil)))) .nil)) | (apply call_l (first_ok (l := [_, _, _, _]) (Nat.le_of_ble_eq_true rfl)) (.cons (vm_lit _ rfl rfl (.cons (vm_int rfl) (.cons (vm_int rfl) (.cons (vm_int rfl) (.cons (vm_int rfl) .nil))))) .nil))) <;> (try (exfalso; omega; done)) <;> (with_reducible conv => whnf))
  · ((try simp only [] at *); (try dsimp only [toN] at *))
    have e1 : ptsK g p (k + 1) = ptsK g p k ++ [ptOf g p k] := by simp only [ptsK]; rw [if_pos (by omega)]
    refine ⟨k + 1, by omega, by omega, [(5, some 7)], rfl, ⟨⟨_, rfl, vm_yld rfl rfl⟩, ⟨_, rfl, vm_p⟩, ⟨_, rfl, vm_p⟩, ⟨_, rfl, vm_p⟩, ⟨_, rfl, vm_p⟩, trivial⟩, ⟨⟨_, rfl, sbm_loop ?_⟩, ⟨_, rfl, ?_⟩, ⟨_, rfl, sbm_cells (.cons (vm_own rfl rfl rfl ?_) .nil)⟩, ⟨_, rfl, sbm_cells vmL_p⟩, trivial⟩⟩
    · rw [efr]
      exact ⟨⟨_, rfl, vm_p⟩, ⟨_, rfl, vm_p⟩, ⟨_, rfl, vm_ptr rfl rfl rfl⟩, ⟨_, rfl, vm_ptr rfl rfl rfl⟩, trivial⟩
    · rw [e1]; exact sbm_snoc vm_p
    · rw [e1]; simp
  · ((try simp only [] at *); (try dsimp only [toN] at *))
    have e1 : ptsK g p (k + 1) = ptsK g p k := by simp only [ptsK]; rw [if_neg (by omega)]
    refine ⟨k + 1, by omega, by omega, [], rfl, ?_, ?_⟩ <;> rw [e1]
    · exact ⟨⟨_, rfl, vm_yld rfl rfl⟩, ⟨_, rfl, vm_p⟩, ⟨_, rfl, vm_p⟩, ⟨_, rfl, vm_p⟩, ⟨_, rfl, vm_p⟩, trivial⟩
    · refine ⟨⟨_, rfl, sbm_loop ?_⟩, ⟨_, rfl, sbm_row rfl fun _ _ => vm_p⟩, ⟨_, rfl, sbm_cells (.cons (vm_own rfl rfl rfl rfl) .nil)⟩, ⟨_, rfl, sbm_cells vmL_p⟩, trivial⟩
      rw [efr]
      exact ⟨⟨_, rfl, vm_p⟩, ⟨_, rfl, vm_p⟩, ⟨_, rfl, vm_ptr rfl rfl rfl⟩, ⟨_, rfl, vm_ptr rfl rfl rfl⟩, trivial⟩
  · obtain rfl : k = p.rows.length := by omega
    rw [if_neg h, hz]
    exact ret0 (vm_tup (.cons (vm_fr rfl rfl rfl (Nat.le_refl _) fun i hi => vm_p) (.cons vm_p .nil)))
end Go.Proofs.Ytmiphilcplojnaa
