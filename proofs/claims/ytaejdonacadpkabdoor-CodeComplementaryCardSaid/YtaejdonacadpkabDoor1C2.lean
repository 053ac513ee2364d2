/-
  Chapter 1: correlations, sidelobes, the wave of a code; the law of it (by contract).
  Conditions: none.
-/
import Derived.Test.YtaejdonacadpkabDoor1O
import Derived.Test.YtaejdonacadpkabDoor1B
namespace Go.Proofs.YtaejdonacadpkabDoor
open Go.RowKit Fx
/-! ### The document's own correlation -/
def rcK (a b : List Int) (lag : Int) : Nat → Int
  | 0 => 0
  | k + 1 => if 0 ≤ (k : Int) + lag ∧ (k : Int) + lag ≤ (a.length : Int) - 1 then rcK a b lag k + a.getD ((k : Int) + lag).toNat 0 * b.getD k 0 else rcK a b lag k
theorem rcK_bd {a b : List Int} (ha : pm a) (hb : pm b) (lag : Int) : ∀ k : Nat, -(k : Int) ≤ rcK a b lag k ∧ rcK a b lag k ≤ k
  | 0 => by simp [rcK]
  | k + 1 => by
    have := rcK_bd ha hb lag k
    have := pm_mul ha hb ((k : Int) + lag).toNat k
    unfold rcK
    split <;> omega
theorem rcK_pos {a b : List Int} (l : Nat) : ∀ k : Nat, rcK a b l k = corK a b l (min k (a.length - l))
  | 0 => by simp [rcK, corK]
  | k + 1 => by
    have i := rcK_pos (a := a) (b := b) l k
    unfold rcK
    split
    · rename_i h
      rw [show min (k + 1) (a.length - l) = k + 1 by omega]
      rw [show min k (a.length - l) = k by omega] at i
      rw [i, corK, show ((k : Int) + l).toNat = l + k by omega]
    · rename_i h
      rw [i, show min (k + 1) (a.length - l) = min k (a.length - l) by omega]
theorem rcK_neg {a b : List Int} (l : Nat) (h0 : 0 < l) : ∀ k : Nat, k ≤ a.length + l → rcK a b (-(l : Int)) k = corK b a l (k - l)
  | 0, _ => by simp [rcK, corK]
  | k + 1, h => by
    have i := rcK_neg (a := a) (b := b) l h0 k (by omega)
    unfold rcK
    split
    · rename_i c
      rw [i, show k + 1 - l = (k - l) + 1 by omega, corK, show ((k : Int) + -(l : Int)).toNat = k - l by omega, show l + (k - l) = k by omega, Int.mul_comm]
    · rename_i c
      rw [i, show k + 1 - l = k - l by omega]
set_option maxHeartbeats 4000000 in
set_option maxRecDepth 100000 in
theorem rCorrelation_ok {a b : List Int} {lag : Int} (ha : pm a) (hb : pm b) (hl : a.length ≤ 1000) (hm : b.length ≤ 1000) (h1 : -1000 ≤ lag ∧ lag ≤ 1000) : FnOK Tryd.prog 50 [eInts a, eInts b, I lag] (I (rcK a b lag b.length)) [] := by
  refine fn_i hmix hT Tryd.f50 (by kernel_rfl) rfl (by kernel_rfl) ?_
  with_reducible conv => whnf
  refine loop_i hmix hT (fun k : Nat => ([(0, eInts a), (1, eInts b), (2, I lag), (7, I (rcK a b lag k)), (8, I k)], ⟨0, []⟩)) (fun k => k ≤ b.length) (fun k => b.length - k) 0 (by omega) ?_ ?_
  · refine ⟨[], rfl, ?_, ?_⟩ <;> repeat' (first | exact trivial | exact vm_p | exact vm_ptr rfl rfl rfl | exact vm_yld rfl rfl | exact vm_own rfl rfl rfl rfl | exact vm_own rfl rfl (by omega) (by omega) | exact vm_int (by omega) | exact vm_nil rfl | exact sbm_cells vmL_p | exact sbm_row rfl (fun _ _ => vm_p) | refine ⟨⟨_, rfl, ?_⟩, ?_⟩ | refine ⟨⟨_, _, _, rfl⟩, ?_⟩ | (refine sbm_loop ?_; rw [efr]) | refine sbm_cells ?_ | refine vmL.cons ?_ ?_ | exact vmL.nil | refine vm_own rfl rfl rfl ?_)
  intro k hk
  by_cases h : k < b.length
  · have t1 : toN (k : Int) = k := toN_nat k
    have t2 : toN ((k : Int) + lag) = ((k : Int) + lag).toNat := toN_eq _
    have cb := rcK_bd ha hb lag k
    have mb := pm_mul ha hb (toN ((k : Int) + lag)) (toN (k : Int))
    by_cases c : 0 ≤ (k : Int) + lag ∧ (k : Int) + lag ≤ (a.length : Int) - 1
    · have W := bWithin_ok (n := (k : Int) + lag) (lo := 0) (hi := (a.length : Int) - 1)
      rw [decide_eq_true c] at W
      have nx : rcK a b lag (k + 1) = rcK a b lag k + a.getD (toN ((k : Int) + lag)) 0 * b.getD (toN (k : Int)) 0 := by rw [t1, t2]; exact if_pos c
      with_reducible conv => whnf
      repeat' ((first | (with_reducible refine branch_t ?_) | (with_reducible refine branch_f ?_) | (with_reducible refine branch_nt ?_) | (with_reducible refine branch_nf ?_) | (with_reducible refine branch_dec (fun _ => ?_) (fun _ => ?_)) | (with_reducible refine branch_ndec (fun _ => ?_) (fun _ => ?_)) | (with_reducible refine branch_bool (fun _ => ?_) (fun _ => ?_)) | (with_reducible refine arith_64 (by omega) ?_) | (with_reducible refine ob_i (by omega) (fun _ => ?_)) | (with_reducible refine ob_i (by unfold room; omega) (fun _ => ?_)) | (with_reducible refine ob_i (by (try simp only [toN_eq] at *); (try dsimp only [toN] at *); omega) (fun _ => ?_)) | (with_reducible refine arith_64 (by (try simp only [toN_eq] at *); (try dsimp only [toN] at *); omega) ?_) | (with_reducible refine ob_k rfl ?_) | ((with_reducible refine ob_k ?_ ?_); focus kernel_rfl) | (refine yield_i hmix hT rfl hL efr eps eag ebd rfl (by kernel_rfl) ?_) | (apply call_u W) | (apply call_l (first_ok (l := [_, _]) (Nat.le_of_ble_eq_true rfl)) (.cons (vm_lit _ rfl rfl (.cons (vm_int rfl) (.cons (vm_int rfl) .nil))) .nil)) | (apply call_l (first_ok (l := [_, _, _]) (Nat.le_of_ble_eq_true rfl)) (.cons (vm_lit _ rfl rfl (.cons (vm_int rfl) (.cons (vm_int rfl) (.cons (vm_int rfl) .nil)))) .nil)) | (apply call_l (first_ok (l := [_, _, _, _]) (Nat.le_of_ble_eq_true rfl)) (.cons (vm_lit _ rfl rfl (.cons (vm_int rfl) (.cons (vm_int rfl) (.cons (vm_int rfl) (.cons (vm_int rfl) .nil))))) .nil))) <;> (try (exfalso; omega; done)) <;> (with_reducible conv => whnf))
      refine ⟨k + 1, by omega, by omega, ?_⟩
      rw [nx]
      refine ⟨[], rfl, ?_, ?_⟩ <;> repeat' (first | exact trivial | exact vm_p | exact vm_ptr rfl rfl rfl | exact vm_yld rfl rfl | exact vm_own rfl rfl rfl rfl | exact vm_own rfl rfl (by omega) (by omega) | exact vm_int (by omega) | exact vm_nil rfl | exact sbm_cells vmL_p | exact sbm_row rfl (fun _ _ => vm_p) | refine ⟨⟨_, rfl, ?_⟩, ?_⟩ | refine ⟨⟨_, _, _, rfl⟩, ?_⟩ | (refine sbm_loop ?_; rw [efr]) | refine sbm_cells ?_ | refine vmL.cons ?_ ?_ | exact vmL.nil | refine vm_own rfl rfl rfl ?_)
    · have W := bWithin_ok (n := (k : Int) + lag) (lo := 0) (hi := (a.length : Int) - 1)
      rw [decide_eq_false c] at W
      have nx : rcK a b lag (k + 1) = rcK a b lag k := if_neg c
      with_reducible conv => whnf
      repeat' ((first | (with_reducible refine branch_t ?_) | (with_reducible refine branch_f ?_) | (with_reducible refine branch_nt ?_) | (with_reducible refine branch_nf ?_) | (with_reducible refine branch_dec (fun _ => ?_) (fun _ => ?_)) | (with_reducible refine branch_ndec (fun _ => ?_) (fun _ => ?_)) | (with_reducible refine branch_bool (fun _ => ?_) (fun _ => ?_)) | (with_reducible refine arith_64 (by omega) ?_) | (with_reducible refine ob_i (by omega) (fun _ => ?_)) | (with_reducible refine ob_i (by unfold room; omega) (fun _ => ?_)) | (with_reducible refine ob_i (by (try simp only [toN_eq] at *); (try dsimp only [toN] at *); omega) (fun _ => ?_)) | (with_reducible refine arith_64 (by (try simp only [toN_eq] at *); (try dsimp only [toN] at *); omega) ?_) | (with_reducible refine ob_k rfl ?_) | ((with_reducible refine ob_k ?_ ?_); focus kernel_rfl) | (refine yield_i hmix hT rfl hL efr eps eag ebd rfl (by kernel_rfl) ?_) | (apply call_u W) | (apply call_l (first_ok (l := [_, _]) (Nat.le_of_ble_eq_true rfl)) (.cons (vm_lit _ rfl rfl (.cons (vm_int rfl) (.cons (vm_int rfl) .nil))) .nil)) | (apply call_l (first_ok (l := [_, _, _]) (Nat.le_of_ble_eq_true rfl)) (.cons (vm_lit _ rfl rfl (.cons (vm_int rfl) (.cons (vm_int rfl) (.cons (vm_int rfl) .nil)))) .nil)) | (apply call_l (first_ok (l := [_, _, _, _]) (Nat.le_of_ble_eq_true rfl)) (.cons (vm_lit _ rfl rfl (.cons (vm_int rfl) (.cons (vm_int rfl) (.cons (vm_int rfl) (.cons (vm_int rfl) .nil))))) .nil))) <;> (try (exfalso; omega; done)) <;> (with_reducible conv => whnf))
      refine ⟨k + 1, by omega, by omega, ?_⟩
      rw [nx]
      refine ⟨[], rfl, ?_, ?_⟩ <;> repeat' (first | exact trivial | exact vm_p | exact vm_ptr rfl rfl rfl | exact vm_yld rfl rfl | exact vm_own rfl rfl rfl rfl | exact vm_own rfl rfl (by omega) (by omega) | exact vm_int (by omega) | exact vm_nil rfl | exact sbm_cells vmL_p | exact sbm_row rfl (fun _ _ => vm_p) | refine ⟨⟨_, rfl, ?_⟩, ?_⟩ | refine ⟨⟨_, _, _, rfl⟩, ?_⟩ | (refine sbm_loop ?_; rw [efr]) | refine sbm_cells ?_ | refine vmL.cons ?_ ?_ | exact vmL.nil | refine vm_own rfl rfl rfl ?_)
  · obtain rfl : k = b.length := by omega
    with_reducible conv => whnf
    repeat' ((first | (with_reducible refine branch_t ?_) | (with_reducible refine branch_f ?_) | (with_reducible refine branch_nt ?_) | (with_reducible refine branch_nf ?_) | (with_reducible refine branch_dec (fun _ => ?_) (fun _ => ?_)) | (with_reducible refine branch_ndec (fun _ => ?_) (fun _ => ?_)) | (with_reducible refine branch_bool (fun _ => ?_) (fun _ => ?_)) | (with_reducible refine arith_64 (by omega) ?_) | (with_reducible refine ob_i (by omega) (fun _ => ?_)) | (with_reducible refine ob_i (by unfold room; omega) (fun _ => ?_)) | (with_reducible refine ob_i (by (try simp only [toN_eq, Int.toNat_natCast] at *); (try dsimp only [toN] at *); omega) (fun _ => ?_)) | (with_reducible refine arith_64 (by (try simp only [toN_eq, Int.toNat_natCast] at *); (try dsimp only [toN] at *); omega) ?_) | (with_reducible refine ob_k rfl ?_) | ((with_reducible refine ob_k ?_ ?_); focus kernel_rfl) | (refine yield_i hmix hT rfl hL efr eps eag ebd rfl (by kernel_rfl) ?_)  | (apply call_l (first_ok (l := [_, _]) (Nat.le_of_ble_eq_true rfl)) (.cons (vm_lit _ rfl rfl (.cons (vm_int rfl) (.cons (vm_int rfl) .nil))) .nil)) | (apply call_l (first_ok (l := [_, _, _]) (Nat.le_of_ble_eq_true rfl)) (.cons (vm_lit _ rfl rfl (.cons (vm_int rfl) (.cons (vm_int rfl) (.cons (vm_int rfl) .nil)))) .nil)) | (apply call_l (first_ok (l := [_, _, _, _]) (Nat.le_of_ble_eq_true rfl)) (.cons (vm_lit _ rfl rfl (.cons (vm_int rfl) (.cons (vm_int rfl) (.cons (vm_int rfl) (.cons (vm_int rfl) .nil))))) .nil))) <;> (try (exfalso; omega; done)) <;> (with_reducible conv => whnf))
    exact ret0 vm_p
/-! ### Sidelobes -/
def sdK (a : List Int) : Nat → Int
  | 0 => 0
  | k + 1 => if k = 0 then 0 else max (sdK a k) (max (cor a a k) (-(cor a a k)))
theorem cor_bd {a b : List Int} (ha : pm a) (hb : pm b) (lag : Nat) : -(a.length : Int) ≤ cor a b lag ∧ cor a b lag ≤ a.length := by
  have := corK_bd ha hb lag (a.length - lag)
  unfold cor; omega
/-! ### The wave of a code -/
def wfL (a : List Int) : List (Int × Int) := a.map fun x => (x, 0)
theorem wfL_len (a : List Int) : (wfL a).length = a.length := by simp [wfL]
theorem wfL_at {a : List Int} {i : Nat} (h : i < a.length) : (wfL a).getD i (0, 0) = (a.getD i 0, 0) := by
  simp [wfL, List.getD_eq_getElem?_getD, h]
/-! ### A correlation at a lag -/
theorem first_four {a b c d : Int} : firstErr [a, b, c, d] = if a ≠ 0 then a else if b ≠ 0 then b else if c ≠ 0 then c else d := by
  simp only [firstErr]; grind
def lagB (a : List Int) (lag : Int) : Bool := decide (-((a.length : Int) - 1) ≤ lag ∧ lag ≤ (a.length : Int) - 1)
def caE (a b : List Int) (lag : Int) : Int := if codeE a ≠ 0 then codeE a else if codeE b ≠ 0 then codeE b else if a.length ≠ b.length then 10 else if lagB a lag = true then 0 else 2
theorem caE_first {a b : List Int} {lag : Int} : firstErr [codeE a, codeE b, if decide ((a.length : Int) = b.length) = true then 0 else 10, if lagB a lag = true then 0 else 2] = caE a b lag := by
  rw [first_four]; unfold caE; grind
theorem corAt_bad {a b : List Int} {lag : Int} (h1 : a.length ≤ 9223372036854775807) (h2 : b.length ≤ 9223372036854775807) (h : caE a b lag ≠ 0) : FnOK Tryd.prog 18 [eInts a, eInts b, I lag] (.tup [I 0, I (caE a b lag)]) [] := by
  have A := checkCode_ok h1
  have KB := checkCode_ok h2
  have S := small_ok (n := lag) (m := (a.length : Int) - 1) (by omega)
  have F := first_ok (l := [codeE a, codeE b, if decide ((a.length : Int) = b.length) = true then 0 else 10, if lagB a lag = true then 0 else 2]) (by simp)
  rw [caE_first] at F
  change FnOK Tryd.prog _ _ (B (lagB a lag)) [] at S
  generalize caE a b lag = e at *
  generalize codeE a = e1 at *
  generalize codeE b = e2 at *
  generalize lagB a lag = lb at *
  refine fn_i hmix hT Tryd.f18 (by kernel_rfl) rfl (by kernel_rfl) ?_
  with_reducible conv => whnf
  repeat' ((first | (with_reducible refine branch_t ?_) | (with_reducible refine branch_f ?_) | (with_reducible refine branch_nt ?_) | (with_reducible refine branch_nf ?_) | (with_reducible refine branch_dec (fun _ => ?_) (fun _ => ?_)) | (with_reducible refine branch_ndec (fun _ => ?_) (fun _ => ?_)) | (with_reducible refine branch_bool (fun _ => ?_) (fun _ => ?_)) | (with_reducible refine arith_64 (by omega) ?_) | (with_reducible refine ob_i (by omega) (fun _ => ?_)) | (with_reducible refine ob_i (by unfold room; omega) (fun _ => ?_)) | (with_reducible refine ob_i (by (try simp only [toN_eq, Int.toNat_natCast] at *); (try dsimp only [toN] at *); omega) (fun _ => ?_)) | (with_reducible refine arith_64 (by (try simp only [toN_eq, Int.toNat_natCast] at *); (try dsimp only [toN] at *); omega) ?_) | (with_reducible refine ob_k rfl ?_) | ((with_reducible refine ob_k ?_ ?_); focus kernel_rfl) | (refine yield_i hmix hT rfl hL efr eps eag ebd rfl (by kernel_rfl) ?_) | (apply call_u A) | (apply call_u KB) | (apply call_u S) | (apply call_u unless_ok) | (apply call_l F (.cons (vm_lit _ rfl rfl (.cons (vm_int rfl) (.cons (vm_int rfl) (.cons (vm_int rfl) (.cons (vm_int rfl) .nil))))) .nil)) | (apply call_l (first_ok (l := [_, _]) (Nat.le_of_ble_eq_true rfl)) (.cons (vm_lit _ rfl rfl (.cons (vm_int rfl) (.cons (vm_int rfl) .nil))) .nil)) | (apply call_l (first_ok (l := [_, _, _]) (Nat.le_of_ble_eq_true rfl)) (.cons (vm_lit _ rfl rfl (.cons (vm_int rfl) (.cons (vm_int rfl) (.cons (vm_int rfl) .nil)))) .nil)) | (apply call_l (first_ok (l := [_, _, _, _]) (Nat.le_of_ble_eq_true rfl)) (.cons (vm_lit _ rfl rfl (.cons (vm_int rfl) (.cons (vm_int rfl) (.cons (vm_int rfl) (.cons (vm_int rfl) .nil))))) .nil))) <;> (try (exfalso; omega; done)) <;> (with_reducible conv => whnf))
  exact ret0 vm_p
theorem corAt_good {a b : List Int} {lag : Int} (ha : pm a) (hb : pm b) (hl : a.length ≤ 1000) (e1 : codeE a = 0) (e2 : codeE b = 0) (e3 : a.length = b.length) (e4 : lagB a lag = true) : FnOK Tryd.prog 18 [eInts a, eInts b, I lag] (.tup [I (rcK a b lag b.length), I 0]) [] := by
  have A := checkCode_ok (c := a) (by omega)
  have KB := checkCode_ok (c := b) (by omega)
  have S := small_ok (n := lag) (m := (a.length : Int) - 1) (by omega)
  have F := first_ok (l := [0, 0, if decide ((a.length : Int) = b.length) = true then 0 else 10, 0]) (by simp)
  have e : firstErr [0, 0, if decide ((a.length : Int) = b.length) = true then 0 else 10, 0] = 0 := by rw [first_four, e3]; simp
  rw [e] at F
  rw [e1] at A
  rw [e2] at KB
  change FnOK Tryd.prog _ _ (B (lagB a lag)) [] at S
  rw [e4] at S
  have e5 := of_decide_eq_true (show decide _ = true from e4)
  by_cases c : lag < 0
  · obtain ⟨l, hl2⟩ := Int.eq_ofNat_of_zero_le (show 0 ≤ -lag by omega)
    obtain rfl : lag = -(l : Int) := by omega
    have C := correlation_ok (a := b) (b := a) (lag := l) hb ha (by omega) (by omega) (by omega)
    have r := rcK_neg (a := a) (b := b) l (by omega) b.length (by omega)
    rw [r]
    unfold cor at C
    have nn : 0 - -(l : Int) = l := by omega
    rw [← nn] at C
    refine fn_i hmix hT Tryd.f18 (by kernel_rfl) rfl (by kernel_rfl) ?_
    with_reducible conv => whnf
    repeat' ((first | (with_reducible refine branch_t ?_) | (with_reducible refine branch_f ?_) | (with_reducible refine branch_nt ?_) | (with_reducible refine branch_nf ?_) | (with_reducible refine branch_dec (fun _ => ?_) (fun _ => ?_)) | (with_reducible refine branch_ndec (fun _ => ?_) (fun _ => ?_)) | (with_reducible refine branch_bool (fun _ => ?_) (fun _ => ?_)) | (with_reducible refine arith_64 (by omega) ?_) | (with_reducible refine ob_i (by omega) (fun _ => ?_)) | (with_reducible refine ob_i (by unfold room; omega) (fun _ => ?_)) | (with_reducible refine ob_i (by (try simp only [toN_eq, Int.toNat_natCast] at *); (try dsimp only [toN] at *); omega) (fun _ => ?_)) | (with_reducible refine arith_64 (by (try simp only [toN_eq, Int.toNat_natCast] at *); (try dsimp only [toN] at *); omega) ?_) | (with_reducible refine ob_k rfl ?_) | ((with_reducible refine ob_k ?_ ?_); focus kernel_rfl) | (refine yield_i hmix hT rfl hL efr eps eag ebd rfl (by kernel_rfl) ?_) | (apply call_u A) | (apply call_u KB) | (apply call_u S) | (apply call_u unless_ok) | (apply call_l F (.cons (vm_lit _ rfl rfl (.cons (vm_int rfl) (.cons (vm_int rfl) (.cons (vm_int rfl) (.cons (vm_int rfl) .nil))))) .nil)) | (apply call_u C) | (apply call_l (first_ok (l := [_, _]) (Nat.le_of_ble_eq_true rfl)) (.cons (vm_lit _ rfl rfl (.cons (vm_int rfl) (.cons (vm_int rfl) .nil))) .nil)) | (apply call_l (first_ok (l := [_, _, _]) (Nat.le_of_ble_eq_true rfl)) (.cons (vm_lit _ rfl rfl (.cons (vm_int rfl) (.cons (vm_int rfl) (.cons (vm_int rfl) .nil)))) .nil)) | (apply call_l (first_ok (l := [_, _, _, _]) (Nat.le_of_ble_eq_true rfl)) (.cons (vm_lit _ rfl rfl (.cons (vm_int rfl) (.cons (vm_int rfl) (.cons (vm_int rfl) (.cons (vm_int rfl) .nil))))) .nil))) <;> (try (exfalso; omega; done)) <;> (with_reducible conv => whnf))
    exact ret0 vm_p
  · obtain ⟨l, rfl⟩ := Int.eq_ofNat_of_zero_le (show 0 ≤ lag by omega)
    have C := correlation_ok (a := a) (b := b) (lag := l) ha hb (by omega) (by omega) (by omega)
    have r := rcK_pos (a := a) (b := b) l b.length
    rw [show min b.length (a.length - l) = a.length - l by omega] at r
    rw [r]
    unfold cor at C
    refine fn_i hmix hT Tryd.f18 (by kernel_rfl) rfl (by kernel_rfl) ?_
    with_reducible conv => whnf
    repeat' ((first | (with_reducible refine branch_t ?_) | (with_reducible refine branch_f ?_) | (with_reducible refine branch_nt ?_) | (with_reducible refine branch_nf ?_) | (with_reducible refine branch_dec (fun _ => ?_) (fun _ => ?_)) | (with_reducible refine branch_ndec (fun _ => ?_) (fun _ => ?_)) | (with_reducible refine branch_bool (fun _ => ?_) (fun _ => ?_)) | (with_reducible refine arith_64 (by omega) ?_) | (with_reducible refine ob_i (by omega) (fun _ => ?_)) | (with_reducible refine ob_i (by unfold room; omega) (fun _ => ?_)) | (with_reducible refine ob_i (by (try simp only [toN_eq, Int.toNat_natCast] at *); (try dsimp only [toN] at *); omega) (fun _ => ?_)) | (with_reducible refine arith_64 (by (try simp only [toN_eq, Int.toNat_natCast] at *); (try dsimp only [toN] at *); omega) ?_) | (with_reducible refine ob_k rfl ?_) | ((with_reducible refine ob_k ?_ ?_); focus kernel_rfl) | (refine yield_i hmix hT rfl hL efr eps eag ebd rfl (by kernel_rfl) ?_) | (apply call_u A) | (apply call_u KB) | (apply call_u S) | (apply call_u unless_ok) | (apply call_l F (.cons (vm_lit _ rfl rfl (.cons (vm_int rfl) (.cons (vm_int rfl) (.cons (vm_int rfl) (.cons (vm_int rfl) .nil))))) .nil)) | (apply call_u C) | (apply call_l (first_ok (l := [_, _]) (Nat.le_of_ble_eq_true rfl)) (.cons (vm_lit _ rfl rfl (.cons (vm_int rfl) (.cons (vm_int rfl) .nil))) .nil)) | (apply call_l (first_ok (l := [_, _, _]) (Nat.le_of_ble_eq_true rfl)) (.cons (vm_lit _ rfl rfl (.cons (vm_int rfl) (.cons (vm_int rfl) (.cons (vm_int rfl) .nil)))) .nil)) | (apply call_l (first_ok (l := [_, _, _, _]) (Nat.le_of_ble_eq_true rfl)) (.cons (vm_lit _ rfl rfl (.cons (vm_int rfl) (.cons (vm_int rfl) (.cons (vm_int rfl) (.cons (vm_int rfl) .nil))))) .nil))) <;> (try (exfalso; omega; done)) <;> (with_reducible conv => whnf))
    exact ret0 vm_p
/-! ### The law -/
theorem few_ok {a : List Int} (_h : a.length ≤ 9223372036854775807) : FnOK Tryd.prog 7 [eInts a] (B (decide (a.length ≤ 34))) [] := by
  refine fn_i hmix hT Tryd.f7 (by kernel_rfl) rfl (by kernel_rfl) ?_
  with_reducible conv => whnf
  repeat' ((first | (with_reducible refine branch_t ?_) | (with_reducible refine branch_f ?_) | (with_reducible refine branch_nt ?_) | (with_reducible refine branch_nf ?_) | (with_reducible refine branch_dec (fun _ => ?_) (fun _ => ?_)) | (with_reducible refine branch_ndec (fun _ => ?_) (fun _ => ?_)) | (with_reducible refine branch_bool (fun _ => ?_) (fun _ => ?_)) | (with_reducible refine arith_64 (by omega) ?_) | (with_reducible refine ob_i (by omega) (fun _ => ?_)) | (with_reducible refine ob_i (by unfold room; omega) (fun _ => ?_)) | (with_reducible refine ob_i (by (try simp only [toN_eq, Int.toNat_natCast] at *); (try dsimp only [toN] at *); omega) (fun _ => ?_)) | (with_reducible refine arith_64 (by (try simp only [toN_eq, Int.toNat_natCast] at *); (try dsimp only [toN] at *); omega) ?_) | (with_reducible refine ob_k rfl ?_) | ((with_reducible refine ob_k ?_ ?_); focus kernel_rfl) | (refine yield_i hmix hT rfl hL efr eps eag ebd rfl (by kernel_rfl) ?_)  | (apply call_l (first_ok (l := [_, _]) (Nat.le_of_ble_eq_true rfl)) (.cons (vm_lit _ rfl rfl (.cons (vm_int rfl) (.cons (vm_int rfl) .nil))) .nil)) | (apply call_l (first_ok (l := [_, _, _]) (Nat.le_of_ble_eq_true rfl)) (.cons (vm_lit _ rfl rfl (.cons (vm_int rfl) (.cons (vm_int rfl) (.cons (vm_int rfl) .nil)))) .nil)) | (apply call_l (first_ok (l := [_, _, _, _]) (Nat.le_of_ble_eq_true rfl)) (.cons (vm_lit _ rfl rfl (.cons (vm_int rfl) (.cons (vm_int rfl) (.cons (vm_int rfl) (.cons (vm_int rfl) .nil))))) .nil))) <;> (try (exfalso; omega; done)) <;> (with_reducible conv => whnf))
  exact ret0 (vm_bool (by grind))
theorem codeE_pm {a : List Int} (h : codeE a = 0) : pm a ∧ 0 < a.length ∧ a.length ≤ 32 := by
  unfold codeE at h
  split at h
  · cases h
  · split at h
    · cases h
    · split at h
      · rename_i c; exact ⟨pm_of c, by omega, by omega⟩
      · cases h
end Go.Proofs.YtaejdonacadpkabDoor
