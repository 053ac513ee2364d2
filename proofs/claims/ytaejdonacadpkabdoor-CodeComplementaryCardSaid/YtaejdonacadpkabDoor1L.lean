/-
  Chapter 1: waves, and frames that are compressed (by contract).
  Conditions: none.
-/
import Derived.Test.YtaejdonacadpkabDoor1G
import Derived.Test.YtaejdonacadpkabDoor1I
namespace Go.Proofs.YtaejdonacadpkabDoor
open Go.RowKit Fx
/-! ### Waves -/
def q4 : List (Int × Int) := [(1, 0), (0, 1), (-1, 0), (0, -1)]
def isU (p : Int × Int) : Bool := decide (p ∈ q4)
theorem isU_cases {p : Int × Int} (h : isU p = true) : p = (1, 0) ∨ p = (0, 1) ∨ p = (-1, 0) ∨ p = (0, -1) := by
  have := of_decide_eq_true h
  simpa [q4] using this
def waveE (w : List (Int × Int)) : Int := if w.length = 0 then 10 else if 32 < w.length then 8 else if w.all isU = true then 0 else 3
theorem wave_val {w : List (Int × Int)} (h : waveE w = 0) : 0 < w.length ∧ w.length ≤ 32 ∧ ∀ i, i < w.length → isU (w.getD i (0, 0)) = true := by
  unfold waveE at h
  split at h
  · cases h
  split at h
  · cases h
  split at h
  · rename_i a
    refine ⟨by omega, by omega, fun i hi => ?_⟩
    have := List.all_eq_true.1 a w[i] (List.getElem_mem hi)
    simpa [List.getD_eq_getElem?_getD, hi] using this
  · cases h
set_option maxRecDepth 100000 in
theorem indexG_ok {l : List (Int × Int)} {p : Int × Int} (hl : l.length ≤ 1000) : FnOK Tryd.prog 96 [ePs l, eP p] (I (findIx (fun x => decide (p = x)) l 0)) [] := by
  refine fn_i hmix hT Tryd.f96 (by kernel_rfl) rfl (by kernel_rfl) ?_
  with_reducible conv => whnf
  repeat' ((first | (with_reducible refine branch_t ?_) | (with_reducible refine branch_f ?_) | (with_reducible refine branch_nt ?_) | (with_reducible refine branch_nf ?_) | (with_reducible refine branch_dec (fun _ => ?_) (fun _ => ?_)) | (with_reducible refine branch_ndec (fun _ => ?_) (fun _ => ?_)) | (with_reducible refine branch_bool (fun _ => ?_) (fun _ => ?_)) | (with_reducible refine arith_64 (by omega) ?_) | (with_reducible refine ob_i (by omega) (fun _ => ?_)) | (with_reducible refine ob_i (by unfold room; omega) (fun _ => ?_)) | (with_reducible refine ob_i (by (try simp only [toN_eq, Int.toNat_natCast] at *); (try dsimp only [toN] at *); omega) (fun _ => ?_)) | (with_reducible refine arith_64 (by (try simp only [toN_eq, Int.toNat_natCast] at *); (try dsimp only [toN] at *); omega) ?_) | (with_reducible refine ob_k rfl ?_) | ((with_reducible refine ob_k ?_ ?_); focus kernel_rfl) | (refine yield_i hmix hT rfl hL efr eps eag ebd rfl (by kernel_rfl) ?_)  | (apply call_l (first_ok (l := [_, _]) (Nat.le_of_ble_eq_true rfl)) (.cons (vm_lit _ rfl rfl (.cons (vm_int rfl) (.cons (vm_int rfl) .nil))) .nil)) | (apply call_l (first_ok (l := [_, _, _]) (Nat.le_of_ble_eq_true rfl)) (.cons (vm_lit _ rfl rfl (.cons (vm_int rfl) (.cons (vm_int rfl) (.cons (vm_int rfl) .nil)))) .nil)) | (apply call_l (first_ok (l := [_, _, _, _]) (Nat.le_of_ble_eq_true rfl)) (.cons (vm_lit _ rfl rfl (.cons (vm_int rfl) (.cons (vm_int rfl) (.cons (vm_int rfl) (.cons (vm_int rfl) .nil))))) .nil))) <;> (try (exfalso; omega; done)) <;> (with_reducible conv => whnf))
  refine loop_i hmix hT (fun k : Nat => ([(0, ePs l), (3, .ptr 0 0), (7, I l.length), (8, I k)], ⟨1, [(0, .cells [I p.1, I p.2] 78)]⟩)) (fun k => k ≤ l.length ∧ ∀ i, i < k → decide (p = l.getD i (0, 0)) = false) (fun k => l.length - k) 0 ⟨by omega, by omega⟩ ?_ ?_
  · refine ⟨[], rfl, ?_, ?_⟩ <;> repeat' (first | exact trivial | exact vm_p | exact vm_ptr rfl rfl rfl | exact vm_yld rfl rfl | exact vm_own rfl rfl rfl rfl | exact vm_own rfl rfl (by omega) (by omega) | exact vm_int (by omega) | exact vm_nil rfl | exact sbm_cells vmL_p | exact sbm_row rfl (fun _ _ => vm_p) | refine ⟨⟨_, rfl, ?_⟩, ?_⟩ | refine ⟨⟨_, _, _, rfl⟩, ?_⟩ | (refine sbm_loop ?_; rw [efr]) | refine sbm_cells ?_ | refine vmL.cons ?_ ?_ | exact vmL.nil | refine vm_own rfl rfl rfl ?_)
  rintro k ⟨hk1, hk2⟩
  by_cases h : k < l.length
  · have t1 : toN (k : Int) = k := toN_nat k
    with_reducible conv => whnf
    repeat' ((first | (with_reducible refine branch_t ?_) | (with_reducible refine branch_f ?_) | (with_reducible refine branch_nt ?_) | (with_reducible refine branch_nf ?_) | (with_reducible refine branch_dec (fun _ => ?_) (fun _ => ?_)) | (with_reducible refine branch_ndec (fun _ => ?_) (fun _ => ?_)) | (with_reducible refine branch_bool (fun _ => ?_) (fun _ => ?_)) | (with_reducible refine arith_64 (by omega) ?_) | (with_reducible refine ob_i (by omega) (fun _ => ?_)) | (with_reducible refine ob_i (by unfold room; omega) (fun _ => ?_)) | (with_reducible refine ob_i (by (try simp only [] at *); (try dsimp only [toN] at *); omega) (fun _ => ?_)) | (with_reducible refine arith_64 (by (try simp only [] at *); (try dsimp only [toN] at *); omega) ?_) | (with_reducible refine ob_k rfl ?_) | ((with_reducible refine ob_k ?_ ?_); focus kernel_rfl) | (refine yield_i hmix hT rfl hL efr eps eag ebd rfl (by kernel_rfl) ?_) | (refine gen_eq2 rfl rfl rfl rfl (by kernel_rfl) (by kernel_rfl) (fun _ => ?_) (fun _ => ?_)) | (refine gen_ne2 rfl rfl rfl rfl (by kernel_rfl) (by kernel_rfl) (fun _ => ?_) (fun _ => ?_)) | (apply call_l (first_ok (l := [_, _]) (Nat.le_of_ble_eq_true rfl)) (.cons (vm_lit _ rfl rfl (.cons (vm_int rfl) (.cons (vm_int rfl) .nil))) .nil)) | (apply call_l (first_ok (l := [_, _, _]) (Nat.le_of_ble_eq_true rfl)) (.cons (vm_lit _ rfl rfl (.cons (vm_int rfl) (.cons (vm_int rfl) (.cons (vm_int rfl) .nil)))) .nil)) | (apply call_l (first_ok (l := [_, _, _, _]) (Nat.le_of_ble_eq_true rfl)) (.cons (vm_lit _ rfl rfl (.cons (vm_int rfl) (.cons (vm_int rfl) (.cons (vm_int rfl) (.cons (vm_int rfl) .nil))))) .nil))) <;> (try (exfalso; omega; done)) <;> (with_reducible conv => whnf))
    all_goals rename_i hh
    · have e : p = l.getD k (0, 0) := by rw [t1] at hh; exact Prod.ext hh.1 hh.2
      exact ret0 (vm_int (by rw [findIx_hit (fun x => decide (p = x)) (0, 0) l k 0 hk2 h (decide_eq_true e)]; simp))
    · refine ⟨k + 1, ⟨by omega, fun i hi => ?_⟩, by omega, ?_⟩
      · by_cases e : i = k
        · subst e
          refine decide_eq_false fun e2 => hh ?_
          rw [t1, ← e2]
          exact ⟨rfl, rfl⟩
        · exact hk2 i (by omega)
      · refine ⟨[], rfl, ?_, ?_⟩ <;> repeat' (first | exact trivial | exact vm_p | exact vm_ptr rfl rfl rfl | exact vm_yld rfl rfl | exact vm_own rfl rfl rfl rfl | exact vm_own rfl rfl (by omega) (by omega) | exact vm_int (by omega) | exact vm_nil rfl | exact sbm_cells vmL_p | exact sbm_row rfl (fun _ _ => vm_p) | refine ⟨⟨_, rfl, ?_⟩, ?_⟩ | refine ⟨⟨_, _, _, rfl⟩, ?_⟩ | (refine sbm_loop ?_; rw [efr]) | refine sbm_cells ?_ | refine vmL.cons ?_ ?_ | exact vmL.nil | refine vm_own rfl rfl rfl ?_)
  · with_reducible conv => whnf
    repeat' ((first | (with_reducible refine branch_t ?_) | (with_reducible refine branch_f ?_) | (with_reducible refine branch_nt ?_) | (with_reducible refine branch_nf ?_) | (with_reducible refine branch_dec (fun _ => ?_) (fun _ => ?_)) | (with_reducible refine branch_ndec (fun _ => ?_) (fun _ => ?_)) | (with_reducible refine branch_bool (fun _ => ?_) (fun _ => ?_)) | (with_reducible refine arith_64 (by omega) ?_) | (with_reducible refine ob_i (by omega) (fun _ => ?_)) | (with_reducible refine ob_i (by unfold room; omega) (fun _ => ?_)) | (with_reducible refine ob_i (by (try simp only [toN_eq, Int.toNat_natCast] at *); (try dsimp only [toN] at *); omega) (fun _ => ?_)) | (with_reducible refine arith_64 (by (try simp only [toN_eq, Int.toNat_natCast] at *); (try dsimp only [toN] at *); omega) ?_) | (with_reducible refine ob_k rfl ?_) | ((with_reducible refine ob_k ?_ ?_); focus kernel_rfl) | (refine yield_i hmix hT rfl hL efr eps eag ebd rfl (by kernel_rfl) ?_)  | (apply call_l (first_ok (l := [_, _]) (Nat.le_of_ble_eq_true rfl)) (.cons (vm_lit _ rfl rfl (.cons (vm_int rfl) (.cons (vm_int rfl) .nil))) .nil)) | (apply call_l (first_ok (l := [_, _, _]) (Nat.le_of_ble_eq_true rfl)) (.cons (vm_lit _ rfl rfl (.cons (vm_int rfl) (.cons (vm_int rfl) (.cons (vm_int rfl) .nil)))) .nil)) | (apply call_l (first_ok (l := [_, _, _, _]) (Nat.le_of_ble_eq_true rfl)) (.cons (vm_lit _ rfl rfl (.cons (vm_int rfl) (.cons (vm_int rfl) (.cons (vm_int rfl) (.cons (vm_int rfl) .nil))))) .nil))) <;> (try (exfalso; omega; done)) <;> (with_reducible conv => whnf))
    exact ret0 (vm_int (by rw [findIx_none (fun x => decide (p = x)) (0, 0) l 0 fun i hi => hk2 i (by omega)]))
theorem containsG_ok {l : List (Int × Int)} {p : Int × Int} (hl : l.length ≤ 1000) : FnOK Tryd.prog 87 [ePs l, eP p] (B (decide (0 ≤ findIx (fun x => decide (p = x)) l 0))) [] := by
  refine fn_i hmix hT Tryd.f87 (by kernel_rfl) rfl (by kernel_rfl) ?_
  with_reducible conv => whnf
  repeat' ((first | (with_reducible refine branch_t ?_) | (with_reducible refine branch_f ?_) | (with_reducible refine branch_nt ?_) | (with_reducible refine branch_nf ?_) | (with_reducible refine branch_dec (fun _ => ?_) (fun _ => ?_)) | (with_reducible refine branch_ndec (fun _ => ?_) (fun _ => ?_)) | (with_reducible refine branch_bool (fun _ => ?_) (fun _ => ?_)) | (with_reducible refine arith_64 (by omega) ?_) | (with_reducible refine ob_i (by omega) (fun _ => ?_)) | (with_reducible refine ob_i (by unfold room; omega) (fun _ => ?_)) | (with_reducible refine ob_i (by (try simp only [toN_eq, Int.toNat_natCast] at *); (try dsimp only [toN] at *); omega) (fun _ => ?_)) | (with_reducible refine arith_64 (by (try simp only [toN_eq, Int.toNat_natCast] at *); (try dsimp only [toN] at *); omega) ?_) | (with_reducible refine ob_k rfl ?_) | ((with_reducible refine ob_k ?_ ?_); focus kernel_rfl) | (refine yield_i hmix hT rfl hL efr eps eag ebd rfl (by kernel_rfl) ?_) | (apply call_u (indexG_ok hl)) | (apply call_l (first_ok (l := [_, _]) (Nat.le_of_ble_eq_true rfl)) (.cons (vm_lit _ rfl rfl (.cons (vm_int rfl) (.cons (vm_int rfl) .nil))) .nil)) | (apply call_l (first_ok (l := [_, _, _]) (Nat.le_of_ble_eq_true rfl)) (.cons (vm_lit _ rfl rfl (.cons (vm_int rfl) (.cons (vm_int rfl) (.cons (vm_int rfl) .nil)))) .nil)) | (apply call_l (first_ok (l := [_, _, _, _]) (Nat.le_of_ble_eq_true rfl)) (.cons (vm_lit _ rfl rfl (.cons (vm_int rfl) (.cons (vm_int rfl) (.cons (vm_int rfl) (.cons (vm_int rfl) .nil))))) .nil))) <;> (try (exfalso; omega; done)) <;> (with_reducible conv => whnf))
  exact ret0 vm_p
theorem findIx_mem {p : Int × Int} : ∀ (l : List (Int × Int)) (s : Nat), decide (0 ≤ findIx (fun x => decide (p = x)) l s) = decide (p ∈ l)
  | [], s => by simp [findIx]
  | x :: l, s => by
    by_cases c : p = x
    · subst c; simp [findIx]
    · have := findIx_mem (p := p) l (s + 1)
      rw [findIx, if_neg (by simp [c]), this]
      simp [c]
theorem waveErr1_ok {p : Int × Int} : FnOK Tryd.prog 86 [eP p] (B (isU p)) [] := by
  have C := containsG_ok (l := q4) (p := p) (by decide)
  rw [findIx_mem] at C
  refine fn_i hmix hT Tryd.f86 (by kernel_rfl) rfl (by kernel_rfl) ?_
  with_reducible conv => whnf
  repeat' ((first | (with_reducible refine branch_t ?_) | (with_reducible refine branch_f ?_) | (with_reducible refine branch_nt ?_) | (with_reducible refine branch_nf ?_) | (with_reducible refine branch_dec (fun _ => ?_) (fun _ => ?_)) | (with_reducible refine branch_ndec (fun _ => ?_) (fun _ => ?_)) | (with_reducible refine branch_bool (fun _ => ?_) (fun _ => ?_)) | (with_reducible refine arith_64 (by omega) ?_) | (with_reducible refine ob_i (by omega) (fun _ => ?_)) | (with_reducible refine ob_i (by unfold room; omega) (fun _ => ?_)) | (with_reducible refine ob_i (by (try simp only [] at *); (try dsimp only [toN] at *); omega) (fun _ => ?_)) | (with_reducible refine arith_64 (by (try simp only [toN_eq, Int.toNat_natCast] at *); (try dsimp only [toN] at *); omega) ?_) | (with_reducible refine ob_k rfl ?_) | ((with_reducible refine ob_k ?_ ?_); focus kernel_rfl) | (refine yield_i hmix hT rfl hL efr eps eag ebd rfl (by kernel_rfl) ?_) | (refine call_i C (.cons (vm_sl rfl fun i hi => ?_) (.cons vm_p .nil)) (pureS_no _) (rv_pure pure_sc) ?_) | (apply call_l (first_ok (l := [_, _]) (Nat.le_of_ble_eq_true rfl)) (.cons (vm_lit _ rfl rfl (.cons (vm_int rfl) (.cons (vm_int rfl) .nil))) .nil)) | (apply call_l (first_ok (l := [_, _, _]) (Nat.le_of_ble_eq_true rfl)) (.cons (vm_lit _ rfl rfl (.cons (vm_int rfl) (.cons (vm_int rfl) (.cons (vm_int rfl) .nil)))) .nil)) | (apply call_l (first_ok (l := [_, _, _, _]) (Nat.le_of_ble_eq_true rfl)) (.cons (vm_lit _ rfl rfl (.cons (vm_int rfl) (.cons (vm_int rfl) (.cons (vm_int rfl) (.cons (vm_int rfl) .nil))))) .nil))) <;> (try (exfalso; omega; done)) <;> (with_reducible conv => whnf))
  · match i, hi with
    | 0, _ => exact (vm_p : vm _ (eP (1, 0)) (eP (1, 0)))
    | 1, _ => exact (vm_p : vm _ (eP (0, 1)) (eP (0, 1)))
    | 2, _ => exact (vm_p : vm _ (eP (-1, 0)) (eP (-1, 0)))
    | 3, _ => exact (vm_p : vm _ (eP (0, -1)) (eP (0, -1)))
    | i + 4, hi => exact absurd hi (by simp [q4])
  · exact ret0 vm_p
theorem waveErr_ok {w : List (Int × Int)} (hl : w.length ≤ 9223372036854775807) : FnOK Tryd.prog 70 [ePs w] (I (waveE w)) [] := by
  have A := allG_ok (e := 3) hl (fun x => waveErr1_ok (p := x))
  have F := first_ok (l := [if decide ((0 : Int) < w.length) = true then 0 else 10, if decide ((w.length : Int) ≤ 32) = true then 0 else 8, if w.all isU = true then 0 else 3]) (by simp)
  have e : firstErr [if decide ((0 : Int) < w.length) = true then 0 else 10, if decide ((w.length : Int) ≤ 32) = true then 0 else 8, if w.all isU = true then 0 else 3] = waveE w := by
    rw [first_three]; unfold waveE; grind
  rw [e] at F
  refine fn_i hmix hT Tryd.f70 (by kernel_rfl) rfl (by kernel_rfl) ?_
  with_reducible conv => whnf
  repeat' ((first | (with_reducible refine branch_t ?_) | (with_reducible refine branch_f ?_) | (with_reducible refine branch_nt ?_) | (with_reducible refine branch_nf ?_) | (with_reducible refine branch_dec (fun _ => ?_) (fun _ => ?_)) | (with_reducible refine branch_ndec (fun _ => ?_) (fun _ => ?_)) | (with_reducible refine branch_bool (fun _ => ?_) (fun _ => ?_)) | (with_reducible refine arith_64 (by omega) ?_) | (with_reducible refine ob_i (by omega) (fun _ => ?_)) | (with_reducible refine ob_i (by unfold room; omega) (fun _ => ?_)) | (with_reducible refine ob_i (by (try simp only [toN_eq, Int.toNat_natCast] at *); (try dsimp only [toN] at *); omega) (fun _ => ?_)) | (with_reducible refine arith_64 (by (try simp only [toN_eq, Int.toNat_natCast] at *); (try dsimp only [toN] at *); omega) ?_) | (with_reducible refine ob_k rfl ?_) | ((with_reducible refine ob_k ?_ ?_); focus kernel_rfl) | (refine yield_i hmix hT rfl hL efr eps eag ebd rfl (by kernel_rfl) ?_) | (apply call_u unless_ok) | (apply call_u A) | (apply call_l F (.cons (vm_lit _ rfl rfl (.cons (vm_int rfl) (.cons (vm_int rfl) (.cons (vm_int rfl) .nil)))) .nil)) | (apply call_l (first_ok (l := [_, _]) (Nat.le_of_ble_eq_true rfl)) (.cons (vm_lit _ rfl rfl (.cons (vm_int rfl) (.cons (vm_int rfl) .nil))) .nil)) | (apply call_l (first_ok (l := [_, _, _]) (Nat.le_of_ble_eq_true rfl)) (.cons (vm_lit _ rfl rfl (.cons (vm_int rfl) (.cons (vm_int rfl) (.cons (vm_int rfl) .nil)))) .nil)) | (apply call_l (first_ok (l := [_, _, _, _]) (Nat.le_of_ble_eq_true rfl)) (.cons (vm_lit _ rfl rfl (.cons (vm_int rfl) (.cons (vm_int rfl) (.cons (vm_int rfl) (.cons (vm_int rfl) .nil))))) .nil))) <;> (try (exfalso; omega; done)) <;> (with_reducible conv => whnf))
  exact ret0 vm_p
@[reducible] def eCj (p : Int × Int) : V := .sc (.complex .f32 (FloatKind.f32.nearest p.1) (Op.negFloat .f32 (FloatKind.f32.nearest p.2)))
@[reducible] def eCjs (w : List (Int × Int)) : V := .sl 1 w.length fun i => eCj (w.getD i (0, 0))
set_option maxRecDepth 100000 in
theorem conjugates_ok {w : List (Int × Int)} (hl : w.length ≤ 1000) : FnOK Tryd.prog 71 [ePs w] (eCjs w) [] := by
  refine fn_i hmix hT Tryd.f71 (by kernel_rfl) rfl (by kernel_rfl) ?_
  with_reducible conv => whnf
  repeat' ((first | (with_reducible refine branch_t ?_) | (with_reducible refine branch_f ?_) | (with_reducible refine branch_nt ?_) | (with_reducible refine branch_nf ?_) | (with_reducible refine branch_dec (fun _ => ?_) (fun _ => ?_)) | (with_reducible refine branch_ndec (fun _ => ?_) (fun _ => ?_)) | (with_reducible refine branch_bool (fun _ => ?_) (fun _ => ?_)) | (with_reducible refine arith_64 (by omega) ?_) | (with_reducible refine ob_i (by omega) (fun _ => ?_)) | (with_reducible refine ob_i (by unfold room; omega) (fun _ => ?_)) | (with_reducible refine ob_i (by (try simp only [toN_eq, Int.toNat_natCast] at *); (try dsimp only [toN] at *); omega) (fun _ => ?_)) | (with_reducible refine arith_64 (by (try simp only [toN_eq, Int.toNat_natCast] at *); (try dsimp only [toN] at *); omega) ?_) | (with_reducible refine ob_k rfl ?_) | ((with_reducible refine ob_k ?_ ?_); focus kernel_rfl) | (refine yield_i hmix hT rfl hL efr eps eag ebd rfl (by kernel_rfl) ?_)  | (apply call_l (first_ok (l := [_, _]) (Nat.le_of_ble_eq_true rfl)) (.cons (vm_lit _ rfl rfl (.cons (vm_int rfl) (.cons (vm_int rfl) .nil))) .nil)) | (apply call_l (first_ok (l := [_, _, _]) (Nat.le_of_ble_eq_true rfl)) (.cons (vm_lit _ rfl rfl (.cons (vm_int rfl) (.cons (vm_int rfl) (.cons (vm_int rfl) .nil)))) .nil)) | (apply call_l (first_ok (l := [_, _, _, _]) (Nat.le_of_ble_eq_true rfl)) (.cons (vm_lit _ rfl rfl (.cons (vm_int rfl) (.cons (vm_int rfl) (.cons (vm_int rfl) (.cons (vm_int rfl) .nil))))) .nil))) <;> (try (exfalso; omega; done)) <;> (with_reducible conv => whnf))
  refine loop_i hmix hT (fun k : Nat => ([(3, .own 0 1 0 k), (6, ePs w), (7, I w.length), (8, I k)], ⟨1, [(0, .row 1 k (fun i => eCj (w.getD i (0, 0))) 120)]⟩)) (fun k => k ≤ w.length) (fun k => w.length - k) 0 (by omega) ?_ ?_
  · refine ⟨[(0, none)], rfl, ?_, ?_⟩ <;> repeat' (first | exact trivial | exact vm_p | exact vm_ptr rfl rfl rfl | exact vm_yld rfl rfl | exact vm_own rfl rfl rfl rfl | exact vm_own rfl rfl (by omega) (by omega) | exact vm_int (by omega) | exact vm_nil rfl | exact sbm_cells vmL_p | exact sbm_row rfl (fun _ _ => vm_p) | refine ⟨⟨_, rfl, ?_⟩, ?_⟩ | refine ⟨⟨_, _, _, rfl⟩, ?_⟩ | (refine sbm_loop ?_; rw [efr]) | refine sbm_cells ?_ | refine vmL.cons ?_ ?_ | exact vmL.nil | refine vm_own rfl rfl rfl ?_)
  intro k hk
  by_cases h : k < w.length
  · have t1 : toN (k : Int) = k := toN_nat k
    with_reducible conv => whnf
    repeat' ((first | (with_reducible refine branch_t ?_) | (with_reducible refine branch_f ?_) | (with_reducible refine branch_nt ?_) | (with_reducible refine branch_nf ?_) | (with_reducible refine branch_dec (fun _ => ?_) (fun _ => ?_)) | (with_reducible refine branch_ndec (fun _ => ?_) (fun _ => ?_)) | (with_reducible refine branch_bool (fun _ => ?_) (fun _ => ?_)) | (with_reducible refine arith_64 (by omega) ?_) | (with_reducible refine ob_i (by omega) (fun _ => ?_)) | (with_reducible refine ob_i (by unfold room; omega) (fun _ => ?_)) | (with_reducible refine ob_i (by (try simp only [] at *); (try dsimp only [toN] at *); omega) (fun _ => ?_)) | (with_reducible refine arith_64 (by (try simp only [] at *); (try dsimp only [toN] at *); omega) ?_) | (with_reducible refine ob_k rfl ?_) | ((with_reducible refine ob_k ?_ ?_); focus kernel_rfl) | (refine yield_i hmix hT rfl hL efr eps eag ebd rfl (by kernel_rfl) ?_) | (refine gen_conv_if rfl rfl Tryd.underlying3 Tryd.underlying133 ?_) | (refine gen_complex rfl rfl rfl ?_) | (refine gen_negf rfl rfl ?_) | (apply call_l (first_ok (l := [_, _]) (Nat.le_of_ble_eq_true rfl)) (.cons (vm_lit _ rfl rfl (.cons (vm_int rfl) (.cons (vm_int rfl) .nil))) .nil)) | (apply call_l (first_ok (l := [_, _, _]) (Nat.le_of_ble_eq_true rfl)) (.cons (vm_lit _ rfl rfl (.cons (vm_int rfl) (.cons (vm_int rfl) (.cons (vm_int rfl) .nil)))) .nil)) | (apply call_l (first_ok (l := [_, _, _, _]) (Nat.le_of_ble_eq_true rfl)) (.cons (vm_lit _ rfl rfl (.cons (vm_int rfl) (.cons (vm_int rfl) (.cons (vm_int rfl) (.cons (vm_int rfl) .nil))))) .nil))) <;> (try (exfalso; omega; done)) <;> (with_reducible conv => whnf))
    refine ⟨k + 1, by omega, by omega, ?_⟩
    refine ⟨[(0, some 3)], rfl, ?_, ?_⟩ <;> repeat' (first | exact trivial | exact vm_p | exact vm_ptr rfl rfl rfl | exact vm_yld rfl rfl | exact vm_own rfl rfl rfl rfl | exact vm_own rfl rfl (by omega) (by omega) | exact vm_int (by omega) | exact vm_nil rfl | exact sbm_cells vmL_p | exact sbm_row rfl (fun _ _ => vm_p) | refine ⟨⟨_, rfl, ?_⟩, ?_⟩ | refine ⟨⟨_, _, _, rfl⟩, ?_⟩ | (refine sbm_loop ?_; rw [efr]) | refine sbm_cells ?_ | refine vmL.cons ?_ ?_ | exact vmL.nil | refine vm_own rfl rfl rfl ?_)
    refine sbm_row rfl fun i hi => vm_snoc (e' := fun i => eCj (w.getD i (0, 0))) hi (fun _ _ => vm_p) ?_
    dsimp only
    rw [t1]
    exact vm_p
  · obtain rfl : k = w.length := by omega
    with_reducible conv => whnf
    repeat' ((first | (with_reducible refine branch_t ?_) | (with_reducible refine branch_f ?_) | (with_reducible refine branch_nt ?_) | (with_reducible refine branch_nf ?_) | (with_reducible refine branch_dec (fun _ => ?_) (fun _ => ?_)) | (with_reducible refine branch_ndec (fun _ => ?_) (fun _ => ?_)) | (with_reducible refine branch_bool (fun _ => ?_) (fun _ => ?_)) | (with_reducible refine arith_64 (by omega) ?_) | (with_reducible refine ob_i (by omega) (fun _ => ?_)) | (with_reducible refine ob_i (by unfold room; omega) (fun _ => ?_)) | (with_reducible refine ob_i (by (try simp only [toN_eq, Int.toNat_natCast] at *); (try dsimp only [toN] at *); omega) (fun _ => ?_)) | (with_reducible refine arith_64 (by (try simp only [toN_eq, Int.toNat_natCast] at *); (try dsimp only [toN] at *); omega) ?_) | (with_reducible refine ob_k rfl ?_) | ((with_reducible refine ob_k ?_ ?_); focus kernel_rfl) | (refine yield_i hmix hT rfl hL efr eps eag ebd rfl (by kernel_rfl) ?_)  | (apply call_l (first_ok (l := [_, _]) (Nat.le_of_ble_eq_true rfl)) (.cons (vm_lit _ rfl rfl (.cons (vm_int rfl) (.cons (vm_int rfl) .nil))) .nil)) | (apply call_l (first_ok (l := [_, _, _]) (Nat.le_of_ble_eq_true rfl)) (.cons (vm_lit _ rfl rfl (.cons (vm_int rfl) (.cons (vm_int rfl) (.cons (vm_int rfl) .nil)))) .nil)) | (apply call_l (first_ok (l := [_, _, _, _]) (Nat.le_of_ble_eq_true rfl)) (.cons (vm_lit _ rfl rfl (.cons (vm_int rfl) (.cons (vm_int rfl) (.cons (vm_int rfl) (.cons (vm_int rfl) .nil))))) .nil))) <;> (try (exfalso; omega; done)) <;> (with_reducible conv => whnf))
    exact ret0 (vm_fr rfl rfl rfl (Nat.le_refl _) fun _ _ => vm_p)
/-! ### Lines -/
structure Ln where
  vs : List (Int × Int)
  ms : List Int
@[reducible] def eL (l : Ln) : V := .agg [ePs l.vs, eInts l.ms]
@[reducible] def zL : V := .agg [.sc (.slice none 0 0), .sc (.slice none 0 0)]
def cS (f : Frm) (w : List (Int × Int)) (k : Nat) : Nat → Int × Int
  | 0 => (0, 0)
  | i + 1 => if usB f (k + i) = true then ((cS f w k i).1 + ((w.getD i (0, 0)).1 * (f.sm.getD (k + i) (0, 0)).1 - -(w.getD i (0, 0)).2 * (f.sm.getD (k + i) (0, 0)).2), (cS f w k i).2 + ((w.getD i (0, 0)).1 * (f.sm.getD (k + i) (0, 0)).2 + -(w.getD i (0, 0)).2 * (f.sm.getD (k + i) (0, 0)).1)) else cS f w k i
def cM (f : Frm) (k : Nat) : Nat → Int
  | 0 => 0
  | i + 1 => if usB f (k + i) = true then cM f k i else cM f k i + 1
theorem cM_bd (f : Frm) (k : Nat) : ∀ i : Nat, 0 ≤ cM f k i ∧ cM f k i ≤ i
  | 0 => by simp [cM]
  | i + 1 => by
    have := cM_bd f k i
    unfold cM
    split <;> omega
def cmpL (f : Frm) (w : List (Int × Int)) : Ln := ⟨(List.range (f.sm.length - w.length + 1)).map fun k => cS f w k w.length, (List.range (f.sm.length - w.length + 1)).map fun k => cM f k w.length⟩
def cmpE (f : Frm) (w : List (Int × Int)) : Int := if frE f ≠ 0 then frE f else if waveE w ≠ 0 then waveE w else if w.length ≤ f.sm.length then 0 else 10
def cj (p : Int × Int) : CP := (c3264 (FloatKind.f32.nearest p.1), c3264 (Op.negFloat .f32 (FloatKind.f32.nearest p.2)))
theorem cj_cu {p : Int × Int} (h : isU p = true) : CU (cj p) 1 ∧ cv (cj p) = (p.1, -p.2) := by
  have c := isU_cases h
  have h1 : p.1 = -1 ∨ p.1 = 0 ∨ p.1 = 1 := by rcases c with rfl | rfl | rfl | rfl <;> decide
  have h2 : p.2 = -1 ∨ p.2 = 0 ∨ p.2 = 1 := by rcases c with rfl | rfl | rfl | rfl <;> decide
  refine cu_of (wave_re h1).2 (wave_im h2).2 ?_
  rcases c with rfl | rfl | rfl | rfl <;> decide
def zS (f : Frm) (w : List (Int × Int)) (k : Nat) : Nat → CP
  | 0 => (0, 0)
  | i + 1 => if usB f (k + i) = true then cadd (zS f w k i) (cmul (cj (w.getD i (0, 0))) (cfl (f.sm.getD (k + i) (0, 0)))) else zS f w k i
theorem smp_cb {f : Frm} (v : f.Val) (i : Nat) : CB (cfl (f.sm.getD i (0, 0))) 2000000 ∧ cv (cfl (f.sm.getD i (0, 0))) = f.sm.getD i (0, 0) := by
  have lm := v.lim
  have : (-2000000 ≤ (f.sm.getD i (0, 0)).1 ∧ (f.sm.getD i (0, 0)).1 ≤ 2000000) ∧ (-2000000 ≤ (f.sm.getD i (0, 0)).2 ∧ (f.sm.getD i (0, 0)).2 ≤ 2000000) := by
    by_cases h : i < f.sm.length
    · have := v.sm i h
      omega
    · rw [show f.sm.getD i (0, 0) = (0, 0) by simp [List.getD_eq_getElem?_getD, List.getElem?_eq_none (by omega : f.sm.length ≤ i)]]
      decide
  exact cfl_cb this.1 this.2 (by decide)
theorem zS_cb {f : Frm} (v : f.Val) {w : List (Int × Int)} (hw : ∀ i, i < w.length → isU (w.getD i (0, 0)) = true) (hl : w.length ≤ 32) (k : Nat) : ∀ i : Nat, i ≤ w.length → CB (zS f w k i) (i * 2000000) ∧ cv (zS f w k i) = cS f w k i
  | 0, _ => ⟨(zero_cb.1).le (by omega), zero_cb.2⟩
  | i + 1, h => by
    obtain ⟨i1, i2⟩ := zS_cb v hw hl k i (by omega)
    unfold zS cS
    split
    · obtain ⟨u1, u2⟩ := cj_cu (hw i (by omega))
      obtain ⟨s1, s2⟩ := smp_cb v (k + i)
      obtain ⟨c1, c2⟩ := cmulC_cb s1 u1 (by decide)
      obtain ⟨a1, a2⟩ := cadd_cb i1 c1 (by unfold top; omega)
      refine ⟨a1.le (by omega), ?_⟩
      rw [a2, i2, c2, u2, s2]
    · exact ⟨i1.le (by omega), i2⟩
theorem compressed_bad {f : Frm} {w : List (Int × Int)} (hs : f.sm.length ≤ 9223372036854775807) (hg : f.gp.length ≤ 9223372036854775807) (hw : w.length ≤ 9223372036854775807) (h : cmpE f w ≠ 0) : FnOK Tryd.prog 36 [eF f, ePs w] (.tup [zL, I (cmpE f w)]) [] := by
  have W := waveErr_ok hw
  have F := first_ok (l := [frE f, waveE w, if decide ((w.length : Int) ≤ f.sm.length) = true then 0 else 10]) (by simp)
  have e : firstErr [frE f, waveE w, if decide ((w.length : Int) ≤ f.sm.length) = true then 0 else 10] = cmpE f w := by
    rw [first_three]; unfold cmpE; grind
  rw [e] at F
  by_cases c : frE f = 0
  · have O := open_good hg c
    rw [c] at F
    generalize cmpE f w = e at *
    refine fn_i hmix hT Tryd.f36 (by kernel_rfl) rfl (by kernel_rfl) ?_
    with_reducible conv => whnf
    repeat' ((first | (with_reducible refine branch_t ?_) | (with_reducible refine branch_f ?_) | (with_reducible refine branch_nt ?_) | (with_reducible refine branch_nf ?_) | (with_reducible refine branch_dec (fun _ => ?_) (fun _ => ?_)) | (with_reducible refine branch_ndec (fun _ => ?_) (fun _ => ?_)) | (with_reducible refine branch_bool (fun _ => ?_) (fun _ => ?_)) | (with_reducible refine arith_64 (by omega) ?_) | (with_reducible refine ob_i (by omega) (fun _ => ?_)) | (with_reducible refine ob_i (by unfold room; omega) (fun _ => ?_)) | (with_reducible refine ob_i (by (try simp only [] at *); (try dsimp only [toN] at *); omega) (fun _ => ?_)) | (with_reducible refine arith_64 (by (try simp only [toN_eq, Int.toNat_natCast] at *); (try dsimp only [toN] at *); omega) ?_) | (with_reducible refine ob_k rfl ?_) | ((with_reducible refine ob_k ?_ ?_); focus kernel_rfl) | (refine yield_i hmix hT rfl hL efr eps eag ebd rfl (by kernel_rfl) ?_) | (apply call_u O) | (apply call_u W) | (apply call_u unless_ok) | (apply call_l F (.cons (vm_lit _ rfl rfl (.cons (vm_int rfl) (.cons (vm_int rfl) (.cons (vm_int rfl) .nil)))) .nil)) | (apply call_l (first_ok (l := [_, _]) (Nat.le_of_ble_eq_true rfl)) (.cons (vm_lit _ rfl rfl (.cons (vm_int rfl) (.cons (vm_int rfl) .nil))) .nil)) | (apply call_l (first_ok (l := [_, _, _]) (Nat.le_of_ble_eq_true rfl)) (.cons (vm_lit _ rfl rfl (.cons (vm_int rfl) (.cons (vm_int rfl) (.cons (vm_int rfl) .nil)))) .nil)) | (apply call_l (first_ok (l := [_, _, _, _]) (Nat.le_of_ble_eq_true rfl)) (.cons (vm_lit _ rfl rfl (.cons (vm_int rfl) (.cons (vm_int rfl) (.cons (vm_int rfl) (.cons (vm_int rfl) .nil))))) .nil))) <;> (try (exfalso; omega; done)) <;> (with_reducible conv => whnf))
    exact ret0 vm_p
  · have O := open_bad hs hg c
    generalize cmpE f w = e at *
    generalize frE f = e2 at *
    refine fn_i hmix hT Tryd.f36 (by kernel_rfl) rfl (by kernel_rfl) ?_
    with_reducible conv => whnf
    repeat' ((first | (with_reducible refine branch_t ?_) | (with_reducible refine branch_f ?_) | (with_reducible refine branch_nt ?_) | (with_reducible refine branch_nf ?_) | (with_reducible refine branch_dec (fun _ => ?_) (fun _ => ?_)) | (with_reducible refine branch_ndec (fun _ => ?_) (fun _ => ?_)) | (with_reducible refine branch_bool (fun _ => ?_) (fun _ => ?_)) | (with_reducible refine arith_64 (by omega) ?_) | (with_reducible refine ob_i (by omega) (fun _ => ?_)) | (with_reducible refine ob_i (by unfold room; omega) (fun _ => ?_)) | (with_reducible refine ob_i (by (try simp only [] at *); (try dsimp only [toN] at *); omega) (fun _ => ?_)) | (with_reducible refine arith_64 (by (try simp only [toN_eq, Int.toNat_natCast] at *); (try dsimp only [toN] at *); omega) ?_) | (with_reducible refine ob_k rfl ?_) | ((with_reducible refine ob_k ?_ ?_); focus kernel_rfl) | (refine yield_i hmix hT rfl hL efr eps eag ebd rfl (by kernel_rfl) ?_) | (apply call_u O) | (apply call_u W) | (apply call_u unless_ok) | (apply call_l F (.cons (vm_lit _ rfl rfl (.cons (vm_int rfl) (.cons (vm_int rfl) (.cons (vm_int rfl) .nil)))) .nil)) | (apply call_l (first_ok (l := [_, _]) (Nat.le_of_ble_eq_true rfl)) (.cons (vm_lit _ rfl rfl (.cons (vm_int rfl) (.cons (vm_int rfl) .nil))) .nil)) | (apply call_l (first_ok (l := [_, _, _]) (Nat.le_of_ble_eq_true rfl)) (.cons (vm_lit _ rfl rfl (.cons (vm_int rfl) (.cons (vm_int rfl) (.cons (vm_int rfl) .nil)))) .nil)) | (apply call_l (first_ok (l := [_, _, _, _]) (Nat.le_of_ble_eq_true rfl)) (.cons (vm_lit _ rfl rfl (.cons (vm_int rfl) (.cons (vm_int rfl) (.cons (vm_int rfl) (.cons (vm_int rfl) .nil))))) .nil))) <;> (try (exfalso; omega; done)) <;> (with_reducible conv => whnf))
    exact ret0 vm_p
end Go.Proofs.YtaejdonacadpkabDoor
