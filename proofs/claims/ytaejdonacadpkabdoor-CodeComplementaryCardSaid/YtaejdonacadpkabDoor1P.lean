/-
  Chapter 1: all partners of a code (by contract).
  Conditions: none.
-/
import Derived.Test.YtaejdonacadpkabDoor1O
import Derived.Test.YtaejdonacadpkabDoorFr
namespace Go.Proofs.YtaejdonacadpkabDoor
open Go.RowKit Fx
theorem pureI {n : Nat} {e : Nat → Int} {ty : TypeId} : ∀ s ∈ [SB.row 1 n (fun i => I (e i)) ty], PureS False s := fun s hs => by
  simp only [List.mem_singleton] at hs
  subst hs
  exact fun i hi => .inr plain_sc
def parK (c : List Int) : Nat → List (List Int)
  | 0 => []
  | n + 1 => if clV c (cdL c.length n) = 0 then parK c n ++ [cdL c.length n] else parK c n
theorem parK_len (c : List Int) : ∀ n, (parK c n).length ≤ n
  | 0 => Nat.le_refl _
  | n + 1 => by
    have := parK_len c n
    rw [parK]; split <;> simp <;> omega
def partE (c : List Int) : Int := if codeE c ≠ 0 then codeE c else if c.length ≤ 10 then 0 else 8
theorem partE_first {c : List Int} : firstErr [codeE c, if decide ((c.length : Int) ≤ 10) = true then 0 else 8] = partE c := by
  rw [first_two]; unfold partE; grind
theorem partnersOf_bad {c : List Int} (hl : c.length ≤ 9223372036854775807) (h : partE c ≠ 0) : FnOK Tryd.prog 33 [eInts c] (.tup [eIl [], I (partE c)]) [] := by
  have C := checkCode_ok hl
  have F := first_ok (l := [codeE c, if decide ((c.length : Int) ≤ 10) = true then 0 else 8]) (by simp)
  rw [partE_first] at F
  generalize partE c = e at *
  refine fn_i hmix hT Tryd.f33 (by kernel_rfl) rfl (by kernel_rfl) ?_
  with_reducible conv => whnf
  repeat' ((first | (with_reducible refine branch_t ?_) | (with_reducible refine branch_f ?_) | (with_reducible refine branch_nt ?_) | (with_reducible refine branch_nf ?_) | (with_reducible refine branch_dec (fun _ => ?_) (fun _ => ?_)) | (with_reducible refine branch_ndec (fun _ => ?_) (fun _ => ?_)) | (with_reducible refine branch_bool (fun _ => ?_) (fun _ => ?_)) | (with_reducible refine arith_64 (by omega) ?_) | (with_reducible refine ob_i (by omega) (fun _ => ?_)) | (with_reducible refine ob_i (by unfold room; omega) (fun _ => ?_)) | (with_reducible refine ob_i (by (try simp only [] at *); (try dsimp only [toN] at *); omega) (fun _ => ?_)) | (with_reducible refine arith_64 (by (try simp only [toN_eq, Int.toNat_natCast] at *); (try dsimp only [toN] at *); omega) ?_) | (with_reducible refine ob_k rfl ?_) | ((with_reducible refine ob_k ?_ ?_); focus kernel_rfl) | (refine yield_i hmix hT rfl hL efr eps eag ebd rfl (by kernel_rfl) ?_) | (apply call_u C) | (apply call_u unless_ok) | (apply call_l F (.cons (vm_lit _ rfl rfl (.cons (vm_int rfl) (.cons (vm_int rfl) .nil))) .nil)) | (apply call_l (first_ok (l := [_, _]) (Nat.le_of_ble_eq_true rfl)) (.cons (vm_lit _ rfl rfl (.cons (vm_int rfl) (.cons (vm_int rfl) .nil))) .nil)) | (apply call_l (first_ok (l := [_, _, _]) (Nat.le_of_ble_eq_true rfl)) (.cons (vm_lit _ rfl rfl (.cons (vm_int rfl) (.cons (vm_int rfl) (.cons (vm_int rfl) .nil)))) .nil)) | (apply call_l (first_ok (l := [_, _, _, _]) (Nat.le_of_ble_eq_true rfl)) (.cons (vm_lit _ rfl rfl (.cons (vm_int rfl) (.cons (vm_int rfl) (.cons (vm_int rfl) (.cons (vm_int rfl) .nil))))) .nil))) <;> (try (exfalso; omega; done)) <;> (with_reducible conv => whnf))
  exact ret0 (vm_tup (.cons (vm_nilsl rfl) (.cons vm_p .nil)))
@[reducible] def stP (c : List Int) (L : LInfo) (O : List (List Int)) (e : Nat → Int) : SW := ⟨6, [(5, .row 1 c.length (fun i => I (e i)) 3), (4, .row 1 O.length (fun i => eInts (O.getD i [])) 22), (3, .loop L .ready), (2, .cells [.own 4 1 0 O.length] 64), (0, .cells [eInts c] 22)]⟩
/-- The row of a code whose last j numbers were set back. -/
def backJ (L n j i : Nat) : Int := if L - j ≤ i then -1 else bitv L n i
theorem backJ_0 {L n i : Nat} (h : i < L) : backJ L n 0 i = bitv L n i := if_neg (by omega)
theorem backJ_at {L n j : Nat} (h : j < L) : backJ L n j (L - 1 - j) = bitv L n (L - 1 - j) := if_neg (by omega)
theorem backJ_next {L n j i : Nat} (h : j < L) (_hi : i < L) : backJ L n (j + 1) i = if i = L - 1 - j then -1 else backJ L n j i := by
  unfold backJ
  by_cases c : i = L - 1 - j
  · rw [if_pos c, if_pos (by omega)]
  · rw [if_neg c]
    by_cases d : L - j ≤ i
    · rw [if_pos d, if_pos (by omega)]
    · rw [if_neg d, if_neg (by omega)]
theorem not_last {L n j : Nat} (h : j < L) (hn : n < 2 ^ L) (hb : ¬ n / 2 ^ j % 2 = 1) : n + 1 < 2 ^ L := by
  rcases Nat.lt_or_ge (n + 1) (2 ^ L) with h2 | h2
  · exact h2
  · exfalso
    apply hb
    have hp : 0 < 2 ^ j := Nat.pow_pos (by decide)
    obtain ⟨t, rfl⟩ : ∃ t, L = j + (t + 1) := ⟨L - j - 1, by omega⟩
    have e : n = 2 ^ j * (2 * 2 ^ t) - 1 := by rw [Nat.pow_add, Nat.pow_succ, Nat.mul_comm (2 ^ t) 2] at hn h2; omega
    have ht : 0 < 2 ^ t := Nat.pow_pos (by decide)
    have e2 : n = 2 ^ j * (2 * 2 ^ t - 1) + (2 ^ j - 1) := by
      rw [Nat.mul_sub, Nat.mul_one]
      have : 2 ^ j ≤ 2 ^ j * (2 * 2 ^ t) := Nat.le_mul_of_pos_right _ (by omega)
      omega
    rw [e2, Nat.mul_add_div hp, Nat.div_eq_of_lt (by omega)]
    omega
set_option maxHeartbeats 8000000 in
set_option maxRecDepth 100000 in
theorem partnersOf_good {c : List Int} (h0 : codeE c = 0) (h : c.length ≤ 10) : FnOK Tryd.prog 33 [eInts c] (.tup [eIl (parK c (2 ^ c.length)), I 0]) [] := by
  have hc : 0 < c.length ∧ c.all is1 = true := by
    unfold codeE at h0
    split at h0
    · cases h0
    split at h0
    · cases h0
    split at h0
    · rename_i a; exact ⟨by omega, a⟩
    · cases h0
  obtain ⟨c0, ca⟩ := hc
  have cp := pm_of ca
  have big : 2 ^ c.length ≤ 1024 := Nat.pow_le_pow_right (n := 2) (by decide) h
  have pos : 0 < 2 ^ c.length := Nat.pow_pos (by decide)
  have C := checkCode_ok (c := c) (by omega)
  rw [h0] at C
  have F := first_ok (l := [0, if decide ((c.length : Int) ≤ 10) = true then 0 else 8]) (by simp)
  have e : firstErr [0, if decide ((c.length : Int) ≤ 10) = true then 0 else 8] = 0 := by rw [first_two]; simp; omega
  rw [e] at F
  have CO := codes_ok (L := c.length)
  have RP := repeat_ok (a := -1) (c := c.length) (by omega) (by omega)
  refine fn_i hmix hT Tryd.f33 (by kernel_rfl) rfl (by kernel_rfl) ?_
  with_reducible conv => whnf
  repeat' ((first | (with_reducible refine branch_t ?_) | (with_reducible refine branch_f ?_) | (with_reducible refine branch_nt ?_) | (with_reducible refine branch_nf ?_) | (with_reducible refine branch_dec (fun _ => ?_) (fun _ => ?_)) | (with_reducible refine branch_ndec (fun _ => ?_) (fun _ => ?_)) | (with_reducible refine branch_bool (fun _ => ?_) (fun _ => ?_)) | (with_reducible refine arith_64 (by omega) ?_) | (with_reducible refine ob_i (by omega) (fun _ => ?_)) | (with_reducible refine ob_i (by unfold room; omega) (fun _ => ?_)) | (with_reducible refine ob_i (by (try simp only [] at *); (try dsimp only [toN] at *); omega) (fun _ => ?_)) | (with_reducible refine arith_64 (by (try simp only [] at *); (try dsimp only [toN] at *); omega) ?_) | (with_reducible refine ob_k rfl ?_) | ((with_reducible refine ob_k ?_ ?_); focus kernel_rfl) | (refine yield_i hmix hT rfl hL efr eps eag ebd rfl (by kernel_rfl) ?_) | (apply call_u C) | (apply call_u unless_ok) | (apply call_l F (.cons (vm_lit _ rfl rfl (.cons (vm_int rfl) (.cons (vm_int rfl) .nil))) .nil)) | (apply call_u CO) | (apply call_l (first_ok (l := [_, _]) (Nat.le_of_ble_eq_true rfl)) (.cons (vm_lit _ rfl rfl (.cons (vm_int rfl) (.cons (vm_int rfl) .nil))) .nil)) | (apply call_l (first_ok (l := [_, _, _]) (Nat.le_of_ble_eq_true rfl)) (.cons (vm_lit _ rfl rfl (.cons (vm_int rfl) (.cons (vm_int rfl) (.cons (vm_int rfl) .nil)))) .nil)) | (apply call_l (first_ok (l := [_, _, _, _]) (Nat.le_of_ble_eq_true rfl)) (.cons (vm_lit _ rfl rfl (.cons (vm_int rfl) (.cons (vm_int rfl) (.cons (vm_int rfl) (.cons (vm_int rfl) .nil))))) .nil))) <;> (try (exfalso; omega; done)) <;> (with_reducible conv => whnf))
  refine range_i hmix hT rfl Tryd.f82 (by kernel_rfl) rfl (by kernel_rfl) 0 [1, 2, 3, 5] (by kernel_rfl) ?_
  intro L efr eps eag ebd etok hL
  with_reducible conv => whnf
  repeat' ((first | (with_reducible refine branch_t ?_) | (with_reducible refine branch_f ?_) | (with_reducible refine branch_nt ?_) | (with_reducible refine branch_nf ?_) | (with_reducible refine branch_dec (fun _ => ?_) (fun _ => ?_)) | (with_reducible refine branch_ndec (fun _ => ?_) (fun _ => ?_)) | (with_reducible refine branch_bool (fun _ => ?_) (fun _ => ?_)) | (with_reducible refine arith_64 (by omega) ?_) | (with_reducible refine ob_i (by omega) (fun _ => ?_)) | (with_reducible refine ob_i (by unfold room; omega) (fun _ => ?_)) | (with_reducible refine ob_i (by (try simp only [] at *); (try dsimp only [toN] at *); omega) (fun _ => ?_)) | (with_reducible refine arith_64 (by (try simp only [] at *); (try dsimp only [toN] at *); omega) ?_) | (with_reducible refine ob_k rfl ?_) | ((with_reducible refine ob_k ?_ ?_); focus kernel_rfl) | (refine yield_i hmix hT rfl hL efr eps eag ebd rfl (by kernel_rfl) ?_)  | (apply call_l (first_ok (l := [_, _]) (Nat.le_of_ble_eq_true rfl)) (.cons (vm_lit _ rfl rfl (.cons (vm_int rfl) (.cons (vm_int rfl) .nil))) .nil)) | (apply call_l (first_ok (l := [_, _, _]) (Nat.le_of_ble_eq_true rfl)) (.cons (vm_lit _ rfl rfl (.cons (vm_int rfl) (.cons (vm_int rfl) (.cons (vm_int rfl) .nil)))) .nil)) | (apply call_l (first_ok (l := [_, _, _, _]) (Nat.le_of_ble_eq_true rfl)) (.cons (vm_lit _ rfl rfl (.cons (vm_int rfl) (.cons (vm_int rfl) (.cons (vm_int rfl) (.cons (vm_int rfl) .nil))))) .nil))) <;> (try (exfalso; omega; done)) <;> (with_reducible conv => whnf))
  refine call_p RP (.cons (vm_lend rfl rfl (Nat.le_refl _) (fun i hi => ?_)) (.cons (vm_int rfl) .nil)) pureI rv_own ?_
  · obtain rfl : i = 0 := by omega
    exact vm_int rfl
  with_reducible conv => whnf
  repeat' ((first | (with_reducible refine branch_t ?_) | (with_reducible refine branch_f ?_) | (with_reducible refine branch_nt ?_) | (with_reducible refine branch_nf ?_) | (with_reducible refine branch_dec (fun _ => ?_) (fun _ => ?_)) | (with_reducible refine branch_ndec (fun _ => ?_) (fun _ => ?_)) | (with_reducible refine branch_bool (fun _ => ?_) (fun _ => ?_)) | (with_reducible refine arith_64 (by omega) ?_) | (with_reducible refine ob_i (by omega) (fun _ => ?_)) | (with_reducible refine ob_i (by unfold room; omega) (fun _ => ?_)) | (with_reducible refine ob_i (by (try simp only [] at *); (try dsimp only [toN] at *); omega) (fun _ => ?_)) | (with_reducible refine arith_64 (by (try simp only [] at *); (try dsimp only [toN] at *); omega) ?_) | (with_reducible refine ob_k rfl ?_) | ((with_reducible refine ob_k ?_ ?_); focus kernel_rfl) | (refine yield_i hmix hT rfl hL efr eps eag ebd rfl (by kernel_rfl) ?_)  | (apply call_l (first_ok (l := [_, _]) (Nat.le_of_ble_eq_true rfl)) (.cons (vm_lit _ rfl rfl (.cons (vm_int rfl) (.cons (vm_int rfl) .nil))) .nil)) | (apply call_l (first_ok (l := [_, _, _]) (Nat.le_of_ble_eq_true rfl)) (.cons (vm_lit _ rfl rfl (.cons (vm_int rfl) (.cons (vm_int rfl) (.cons (vm_int rfl) .nil)))) .nil)) | (apply call_l (first_ok (l := [_, _, _, _]) (Nat.le_of_ble_eq_true rfl)) (.cons (vm_lit _ rfl rfl (.cons (vm_int rfl) (.cons (vm_int rfl) (.cons (vm_int rfl) (.cons (vm_int rfl) .nil))))) .nil))) <;> (try (exfalso; omega; done)) <;> (with_reducible conv => whnf))
  refine loop_i hmix hT (fun n : Nat => ([(0, .yld 3), (1, .pv [I c.length] 0), (3, .own 5 1 0 c.length)], stP c L (parK c n) (bitv c.length n))) (fun n => n < 2 ^ c.length) (fun n => 2 ^ c.length - n) 0 pos ?_ ?_
  · refine ⟨[(4, none)], rfl, ?_, ?_⟩ <;> repeat' (first | exact trivial | exact vm_p | exact vm_ptr rfl rfl rfl | exact vm_yld rfl rfl | exact vm_own rfl rfl rfl rfl | exact vm_own rfl rfl (by omega) (by omega) | exact vm_int (by omega) | exact vm_nil rfl | exact sbm_cells vmL_p | exact sbm_row rfl (fun _ _ => vm_p) | refine ⟨⟨_, rfl, ?_⟩, ?_⟩ | refine ⟨⟨_, _, _, rfl⟩, ?_⟩ | (refine sbm_loop ?_; rw [efr]) | refine sbm_cells ?_ | refine vmL.cons ?_ ?_ | exact vmL.nil | refine vm_own rfl rfl rfl ?_)
    exact sbm_row (toN_nat _) fun i hi => vm_int (bitv_zero _ _).symm
  intro n hn
  have pl := parK_len c n
  have CL := clash_ok cp (pm_of (cdL_all c.length n)) (by omega) c0 (cdL_len c.length n)
  have KL := clone_ok (l := cdL c.length n) (by rw [cdL_len]; exact c0) (by rw [cdL_len]; omega)
  have hl := cdL_len c.length n
  by_cases cc : clV c (cdL c.length n) = 0
  · have nx : parK c (n + 1) = parK c n ++ [cdL c.length n] := if_pos cc
    rw [cc] at CL
    with_reducible conv => whnf
    repeat' ((first | (with_reducible refine branch_t ?_) | (with_reducible refine branch_f ?_) | (with_reducible refine branch_nt ?_) | (with_reducible refine branch_nf ?_) | (with_reducible refine branch_dec (fun _ => ?_) (fun _ => ?_)) | (with_reducible refine branch_ndec (fun _ => ?_) (fun _ => ?_)) | (with_reducible refine branch_bool (fun _ => ?_) (fun _ => ?_)) | (with_reducible refine arith_64 (by omega) ?_) | (with_reducible refine ob_i (by omega) (fun _ => ?_)) | (with_reducible refine ob_i (by unfold room; omega) (fun _ => ?_)) | (with_reducible refine ob_i (by (try simp only [] at *); (try dsimp only [toN] at *); omega) (fun _ => ?_)) | (with_reducible refine arith_64 (by (try simp only [] at *); (try dsimp only [toN] at *); omega) ?_) | (with_reducible refine ob_k rfl ?_) | ((with_reducible refine ob_k ?_ ?_); focus kernel_rfl) | (refine yield_i hmix hT rfl hL efr eps eag ebd rfl (by kernel_rfl) ?_) | (apply call_l CL (.cons vm_p (.cons (vm_lend rfl (cdL_len _ _).symm (by omega) fun i hi => vm_int (by rw [Nat.zero_add]; exact (cdL_at (by rw [cdL_len] at hi; exact hi)).symm)) .nil))) | (refine call_p KL (.cons (vm_lend rfl (cdL_len _ _).symm (by omega) fun i hi => vm_int (by rw [Nat.zero_add]; exact (cdL_at (by rw [cdL_len] at hi; exact hi)).symm)) .nil) pureI rv_own ?_) | (apply call_l (first_ok (l := [_, _]) (Nat.le_of_ble_eq_true rfl)) (.cons (vm_lit _ rfl rfl (.cons (vm_int rfl) (.cons (vm_int rfl) .nil))) .nil)) | (apply call_l (first_ok (l := [_, _, _]) (Nat.le_of_ble_eq_true rfl)) (.cons (vm_lit _ rfl rfl (.cons (vm_int rfl) (.cons (vm_int rfl) (.cons (vm_int rfl) .nil)))) .nil)) | (apply call_l (first_ok (l := [_, _, _, _]) (Nat.le_of_ble_eq_true rfl)) (.cons (vm_lit _ rfl rfl (.cons (vm_int rfl) (.cons (vm_int rfl) (.cons (vm_int rfl) (.cons (vm_int rfl) .nil))))) .nil))) <;> (try (exfalso; omega; done)) <;> (with_reducible conv => whnf))
    refine loop_i hmix hT (fun j : Nat => ([(0, .yld 3), (1, .pv [I c.length] 0), (3, .own 5 1 0 c.length), (4, I ((c.length : Int) - 1 - j))], stP c L (parK c (n + 1)) (backJ c.length n j))) (fun j => j ≤ c.length ∧ n % 2 ^ j = 2 ^ j - 1) (fun j => c.length - j) 0 ⟨by omega, by simp [Nat.mod_one]⟩ ?_ ?_
    · rw [nx]
      refine ⟨[(4, some 8)], rfl, ?_, ?_⟩ <;> repeat' (first | exact trivial | exact vm_p | exact vm_ptr rfl rfl rfl | exact vm_yld rfl rfl | exact vm_own rfl rfl rfl rfl | exact vm_own rfl rfl (by omega) (by omega) | exact vm_int (by omega) | exact vm_nil rfl | exact sbm_cells vmL_p | exact sbm_row rfl (fun _ _ => vm_p) | refine ⟨⟨_, rfl, ?_⟩, ?_⟩ | refine ⟨⟨_, _, _, rfl⟩, ?_⟩ | (refine sbm_loop ?_; rw [efr]) | refine sbm_cells ?_ | refine vmL.cons ?_ ?_ | exact vmL.nil | refine vm_own rfl rfl rfl ?_)
      · exact sbm_row rfl (fun i hi => vm_int (backJ_0 hi).symm)
      · refine sbm_row (by simp) fun i hi => ?_
        rw [List.length_append] at hi
        refine vm_snoc (e' := fun i => eInts ((parK c n ++ [cdL c.length n]).getD i [])) hi (fun i hi => ?_) ?_
        · have e : (parK c n ++ [cdL c.length n]).getD i [] = (parK c n).getD i [] := by rw [List.getD_eq_getElem?_getD, List.getD_eq_getElem?_getD, List.getElem?_append_left hi]
          dsimp only
          rw [e]
          exact vm_p
        · have e : (parK c n ++ [cdL c.length n]).getD (parK c n).length [] = cdL c.length n := by rw [List.getD_eq_getElem?_getD, List.getElem?_append_right (Nat.le_refl _)]; simp
          dsimp only
          rw [e]
          exact vm_fr rfl rfl rfl (Nat.le_refl _) fun _ _ => vm_p
      · simp
    rintro j ⟨hj, ones⟩
    by_cases hj2 : j < c.length
    · have tj : toN ((c.length : Int) - 1 - j) = c.length - 1 - j := by rw [toN_eq]; omega
      have ba := backJ_at (n := n) hj2
      rw [← tj] at ba
      have bb := bitv_01 c.length n (toN ((c.length : Int) - 1 - j))
      have be : bitv c.length n (toN ((c.length : Int) - 1 - j)) = if n / 2 ^ j % 2 = 1 then 1 else -1 := by
        rw [tj]; unfold bitv; rw [show c.length - 1 - (c.length - 1 - j) = j by omega]
      by_cases b1 : n / 2 ^ j % 2 = 1
      · rw [if_pos b1] at be
        with_reducible conv => whnf
        repeat' ((first | (with_reducible refine branch_t ?_) | (with_reducible refine branch_f ?_) | (with_reducible refine branch_nt ?_) | (with_reducible refine branch_nf ?_) | (with_reducible refine branch_dec (fun _ => ?_) (fun _ => ?_)) | (with_reducible refine branch_ndec (fun _ => ?_) (fun _ => ?_)) | (with_reducible refine branch_bool (fun _ => ?_) (fun _ => ?_)) | (with_reducible refine arith_64 (by omega) ?_) | (with_reducible refine ob_i (by omega) (fun _ => ?_)) | (with_reducible refine ob_i (by unfold room; omega) (fun _ => ?_)) | (with_reducible refine ob_i (by (try simp only [toN_eq] at *); (try dsimp only [toN] at *); omega) (fun _ => ?_)) | (with_reducible refine arith_64 (by (try simp only [toN_eq] at *); (try dsimp only [toN] at *); omega) ?_) | (with_reducible refine ob_k rfl ?_) | ((with_reducible refine ob_k ?_ ?_); focus kernel_rfl) | (refine yield_i hmix hT rfl hL efr eps eag ebd rfl (by kernel_rfl) ?_)  | (apply call_l (first_ok (l := [_, _]) (Nat.le_of_ble_eq_true rfl)) (.cons (vm_lit _ rfl rfl (.cons (vm_int rfl) (.cons (vm_int rfl) .nil))) .nil)) | (apply call_l (first_ok (l := [_, _, _]) (Nat.le_of_ble_eq_true rfl)) (.cons (vm_lit _ rfl rfl (.cons (vm_int rfl) (.cons (vm_int rfl) (.cons (vm_int rfl) .nil)))) .nil)) | (apply call_l (first_ok (l := [_, _, _, _]) (Nat.le_of_ble_eq_true rfl)) (.cons (vm_lit _ rfl rfl (.cons (vm_int rfl) (.cons (vm_int rfl) (.cons (vm_int rfl) (.cons (vm_int rfl) .nil))))) .nil))) <;> (try (exfalso; omega; done)) <;> (with_reducible conv => whnf))
        all_goals first | (exfalso; rw [Nat.zero_add] at *; omega; done) | skip
        refine ⟨j + 1, ⟨by omega, ones_step ones b1⟩, by omega, ?_⟩
        refine ⟨[], rfl, ?_, ?_⟩ <;> repeat' (first | exact trivial | exact vm_p | exact vm_ptr rfl rfl rfl | exact vm_yld rfl rfl | exact vm_own rfl rfl rfl rfl | exact vm_own rfl rfl (by omega) (by omega) | exact vm_int (by omega) | exact vm_nil rfl | exact sbm_cells vmL_p | exact sbm_row rfl (fun _ _ => vm_p) | refine ⟨⟨_, rfl, ?_⟩, ?_⟩ | refine ⟨⟨_, _, _, rfl⟩, ?_⟩ | (refine sbm_loop ?_; rw [efr]) | refine sbm_cells ?_ | refine vmL.cons ?_ ?_ | exact vmL.nil | refine vm_own rfl rfl rfl ?_)
        all_goals first | (refine sbm_row rfl fun i hi => ?_) | skip
        show vm _ (setF _ _ _ i) _
        rw [Nat.zero_add, tj]
        by_cases ci : i = c.length - 1 - j
        · rw [ci, setF_at, backJ_next hj2 (by omega), if_pos rfl]
          exact vm_p
        · rw [setF_ne ci, backJ_next hj2 hi, if_neg ci]
          exact vm_p
      · rw [if_neg b1] at be
        have nl := not_last hj2 hn b1
        with_reducible conv => whnf
        repeat' ((first | (with_reducible refine branch_t ?_) | (with_reducible refine branch_f ?_) | (with_reducible refine branch_nt ?_) | (with_reducible refine branch_nf ?_) | (with_reducible refine branch_dec (fun _ => ?_) (fun _ => ?_)) | (with_reducible refine branch_ndec (fun _ => ?_) (fun _ => ?_)) | (with_reducible refine branch_bool (fun _ => ?_) (fun _ => ?_)) | (with_reducible refine arith_64 (by omega) ?_) | (with_reducible refine ob_i (by omega) (fun _ => ?_)) | (with_reducible refine ob_i (by unfold room; omega) (fun _ => ?_)) | (with_reducible refine ob_i (by (try simp only [toN_eq] at *); (try dsimp only [toN] at *); omega) (fun _ => ?_)) | (with_reducible refine arith_64 (by (try simp only [toN_eq] at *); (try dsimp only [toN] at *); omega) ?_) | (with_reducible refine ob_k rfl ?_) | ((with_reducible refine ob_k ?_ ?_); focus kernel_rfl) | (refine yield_i hmix hT rfl hL efr eps eag ebd rfl (by kernel_rfl) ?_)  | (apply call_l (first_ok (l := [_, _]) (Nat.le_of_ble_eq_true rfl)) (.cons (vm_lit _ rfl rfl (.cons (vm_int rfl) (.cons (vm_int rfl) .nil))) .nil)) | (apply call_l (first_ok (l := [_, _, _]) (Nat.le_of_ble_eq_true rfl)) (.cons (vm_lit _ rfl rfl (.cons (vm_int rfl) (.cons (vm_int rfl) (.cons (vm_int rfl) .nil)))) .nil)) | (apply call_l (first_ok (l := [_, _, _, _]) (Nat.le_of_ble_eq_true rfl)) (.cons (vm_lit _ rfl rfl (.cons (vm_int rfl) (.cons (vm_int rfl) (.cons (vm_int rfl) (.cons (vm_int rfl) .nil))))) .nil))) <;> (try (exfalso; omega; done)) <;> (with_reducible conv => whnf))
        all_goals first | (exfalso; rw [Nat.zero_add] at *; omega; done) | skip
        refine ⟨n + 1, nl, by omega, ?_⟩
        refine ⟨[], rfl, ?_, ?_⟩ <;> repeat' (first | exact trivial | exact vm_p | exact vm_ptr rfl rfl rfl | exact vm_yld rfl rfl | exact vm_own rfl rfl rfl rfl | exact vm_own rfl rfl (by omega) (by omega) | exact vm_int (by omega) | exact vm_nil rfl | exact sbm_cells vmL_p | exact sbm_row rfl (fun _ _ => vm_p) | refine ⟨⟨_, rfl, ?_⟩, ?_⟩ | refine ⟨⟨_, _, _, rfl⟩, ?_⟩ | (refine sbm_loop ?_; rw [efr]) | refine sbm_cells ?_ | refine vmL.cons ?_ ?_ | exact vmL.nil | refine vm_own rfl rfl rfl ?_)
        all_goals first | (refine sbm_row rfl fun i hi => ?_) | skip
        show vm _ (setF _ _ _ i) _
        rw [Nat.zero_add, tj, incr_bits hj2 hi ones b1]
        by_cases ci : i = c.length - 1 - j
        · rw [ci, setF_at, if_neg (by omega), if_pos rfl]
          exact vm_p
        · rw [setF_ne ci]
          by_cases c3 : c.length - 1 - j < i
          · rw [if_pos c3]
            exact vm_int (if_pos (by omega))
          · rw [if_neg c3, if_neg ci]
            exact vm_int (if_neg (by omega))
    · obtain rfl : j = c.length := by omega
      have en := last_code hn ones
      with_reducible conv => whnf
      repeat' ((first | (with_reducible refine branch_t ?_) | (with_reducible refine branch_f ?_) | (with_reducible refine branch_nt ?_) | (with_reducible refine branch_nf ?_) | (with_reducible refine branch_dec (fun _ => ?_) (fun _ => ?_)) | (with_reducible refine branch_ndec (fun _ => ?_) (fun _ => ?_)) | (with_reducible refine branch_bool (fun _ => ?_) (fun _ => ?_)) | (with_reducible refine arith_64 (by omega) ?_) | (with_reducible refine ob_i (by omega) (fun _ => ?_)) | (with_reducible refine ob_i (by unfold room; omega) (fun _ => ?_)) | (with_reducible refine ob_i (by (try simp only [] at *); (try dsimp only [toN] at *); omega) (fun _ => ?_)) | (with_reducible refine arith_64 (by (try simp only [] at *); (try dsimp only [toN] at *); omega) ?_) | (with_reducible refine ob_k rfl ?_) | ((with_reducible refine ob_k ?_ ?_); focus kernel_rfl) | (refine yield_i hmix hT rfl hL efr eps eag ebd rfl (by kernel_rfl) ?_)  | (apply call_l (first_ok (l := [_, _]) (Nat.le_of_ble_eq_true rfl)) (.cons (vm_lit _ rfl rfl (.cons (vm_int rfl) (.cons (vm_int rfl) .nil))) .nil)) | (apply call_l (first_ok (l := [_, _, _]) (Nat.le_of_ble_eq_true rfl)) (.cons (vm_lit _ rfl rfl (.cons (vm_int rfl) (.cons (vm_int rfl) (.cons (vm_int rfl) .nil)))) .nil)) | (apply call_l (first_ok (l := [_, _, _, _]) (Nat.le_of_ble_eq_true rfl)) (.cons (vm_lit _ rfl rfl (.cons (vm_int rfl) (.cons (vm_int rfl) (.cons (vm_int rfl) (.cons (vm_int rfl) .nil))))) .nil))) <;> (try (exfalso; omega; done)) <;> (with_reducible conv => whnf))
      all_goals first | (exfalso; omega; done) | skip
      rw [← en]
      exact ret0 (vm_tup (.cons (vm_fr rfl rfl rfl (Nat.le_refl _) fun _ _ => vm_p) (.cons vm_p .nil)))
  · have nx : parK c (n + 1) = parK c n := if_neg cc
    with_reducible conv => whnf
    repeat' ((first | (with_reducible refine branch_t ?_) | (with_reducible refine branch_f ?_) | (with_reducible refine branch_nt ?_) | (with_reducible refine branch_nf ?_) | (with_reducible refine branch_dec (fun _ => ?_) (fun _ => ?_)) | (with_reducible refine branch_ndec (fun _ => ?_) (fun _ => ?_)) | (with_reducible refine branch_bool (fun _ => ?_) (fun _ => ?_)) | (with_reducible refine arith_64 (by omega) ?_) | (with_reducible refine ob_i (by omega) (fun _ => ?_)) | (with_reducible refine ob_i (by unfold room; omega) (fun _ => ?_)) | (with_reducible refine ob_i (by (try simp only [] at *); (try dsimp only [toN] at *); omega) (fun _ => ?_)) | (with_reducible refine arith_64 (by (try simp only [] at *); (try dsimp only [toN] at *); omega) ?_) | (with_reducible refine ob_k rfl ?_) | ((with_reducible refine ob_k ?_ ?_); focus kernel_rfl) | (refine yield_i hmix hT rfl hL efr eps eag ebd rfl (by kernel_rfl) ?_) | (apply call_l CL (.cons vm_p (.cons (vm_lend rfl (cdL_len _ _).symm (by omega) fun i hi => vm_int (by rw [Nat.zero_add]; exact (cdL_at (by rw [cdL_len] at hi; exact hi)).symm)) .nil))) | (apply call_l (first_ok (l := [_, _]) (Nat.le_of_ble_eq_true rfl)) (.cons (vm_lit _ rfl rfl (.cons (vm_int rfl) (.cons (vm_int rfl) .nil))) .nil)) | (apply call_l (first_ok (l := [_, _, _]) (Nat.le_of_ble_eq_true rfl)) (.cons (vm_lit _ rfl rfl (.cons (vm_int rfl) (.cons (vm_int rfl) (.cons (vm_int rfl) .nil)))) .nil)) | (apply call_l (first_ok (l := [_, _, _, _]) (Nat.le_of_ble_eq_true rfl)) (.cons (vm_lit _ rfl rfl (.cons (vm_int rfl) (.cons (vm_int rfl) (.cons (vm_int rfl) (.cons (vm_int rfl) .nil))))) .nil))) <;> (try (exfalso; omega; done)) <;> (with_reducible conv => whnf))
    refine loop_i hmix hT (fun j : Nat => ([(0, .yld 3), (1, .pv [I c.length] 0), (3, .own 5 1 0 c.length), (4, I ((c.length : Int) - 1 - j))], stP c L (parK c (n + 1)) (backJ c.length n j))) (fun j => j ≤ c.length ∧ n % 2 ^ j = 2 ^ j - 1) (fun j => c.length - j) 0 ⟨by omega, by simp [Nat.mod_one]⟩ ?_ ?_
    · rw [nx]
      refine ⟨[], rfl, ?_, ?_⟩ <;> repeat' (first | exact trivial | exact vm_p | exact vm_ptr rfl rfl rfl | exact vm_yld rfl rfl | exact vm_own rfl rfl rfl rfl | exact vm_own rfl rfl (by omega) (by omega) | exact vm_int (by omega) | exact vm_nil rfl | exact sbm_cells vmL_p | exact sbm_row rfl (fun _ _ => vm_p) | refine ⟨⟨_, rfl, ?_⟩, ?_⟩ | refine ⟨⟨_, _, _, rfl⟩, ?_⟩ | (refine sbm_loop ?_; rw [efr]) | refine sbm_cells ?_ | refine vmL.cons ?_ ?_ | exact vmL.nil | refine vm_own rfl rfl rfl ?_)
      all_goals exact sbm_row rfl (fun i hi => vm_int (backJ_0 hi).symm)
    rintro j ⟨hj, ones⟩
    by_cases hj2 : j < c.length
    · have tj : toN ((c.length : Int) - 1 - j) = c.length - 1 - j := by rw [toN_eq]; omega
      have ba := backJ_at (n := n) hj2
      rw [← tj] at ba
      have bb := bitv_01 c.length n (toN ((c.length : Int) - 1 - j))
      have be : bitv c.length n (toN ((c.length : Int) - 1 - j)) = if n / 2 ^ j % 2 = 1 then 1 else -1 := by
        rw [tj]; unfold bitv; rw [show c.length - 1 - (c.length - 1 - j) = j by omega]
      by_cases b1 : n / 2 ^ j % 2 = 1
      · rw [if_pos b1] at be
        with_reducible conv => whnf
        repeat' ((first | (with_reducible refine branch_t ?_) | (with_reducible refine branch_f ?_) | (with_reducible refine branch_nt ?_) | (with_reducible refine branch_nf ?_) | (with_reducible refine branch_dec (fun _ => ?_) (fun _ => ?_)) | (with_reducible refine branch_ndec (fun _ => ?_) (fun _ => ?_)) | (with_reducible refine branch_bool (fun _ => ?_) (fun _ => ?_)) | (with_reducible refine arith_64 (by omega) ?_) | (with_reducible refine ob_i (by omega) (fun _ => ?_)) | (with_reducible refine ob_i (by unfold room; omega) (fun _ => ?_)) | (with_reducible refine ob_i (by (try simp only [toN_eq] at *); (try dsimp only [toN] at *); omega) (fun _ => ?_)) | (with_reducible refine arith_64 (by (try simp only [toN_eq] at *); (try dsimp only [toN] at *); omega) ?_) | (with_reducible refine ob_k rfl ?_) | ((with_reducible refine ob_k ?_ ?_); focus kernel_rfl) | (refine yield_i hmix hT rfl hL efr eps eag ebd rfl (by kernel_rfl) ?_)  | (apply call_l (first_ok (l := [_, _]) (Nat.le_of_ble_eq_true rfl)) (.cons (vm_lit _ rfl rfl (.cons (vm_int rfl) (.cons (vm_int rfl) .nil))) .nil)) | (apply call_l (first_ok (l := [_, _, _]) (Nat.le_of_ble_eq_true rfl)) (.cons (vm_lit _ rfl rfl (.cons (vm_int rfl) (.cons (vm_int rfl) (.cons (vm_int rfl) .nil)))) .nil)) | (apply call_l (first_ok (l := [_, _, _, _]) (Nat.le_of_ble_eq_true rfl)) (.cons (vm_lit _ rfl rfl (.cons (vm_int rfl) (.cons (vm_int rfl) (.cons (vm_int rfl) (.cons (vm_int rfl) .nil))))) .nil))) <;> (try (exfalso; omega; done)) <;> (with_reducible conv => whnf))
        all_goals first | (exfalso; rw [Nat.zero_add] at *; omega; done) | skip
        refine ⟨j + 1, ⟨by omega, ones_step ones b1⟩, by omega, ?_⟩
        refine ⟨[], rfl, ?_, ?_⟩ <;> repeat' (first | exact trivial | exact vm_p | exact vm_ptr rfl rfl rfl | exact vm_yld rfl rfl | exact vm_own rfl rfl rfl rfl | exact vm_own rfl rfl (by omega) (by omega) | exact vm_int (by omega) | exact vm_nil rfl | exact sbm_cells vmL_p | exact sbm_row rfl (fun _ _ => vm_p) | refine ⟨⟨_, rfl, ?_⟩, ?_⟩ | refine ⟨⟨_, _, _, rfl⟩, ?_⟩ | (refine sbm_loop ?_; rw [efr]) | refine sbm_cells ?_ | refine vmL.cons ?_ ?_ | exact vmL.nil | refine vm_own rfl rfl rfl ?_)
        all_goals first | (refine sbm_row rfl fun i hi => ?_) | skip
        show vm _ (setF _ _ _ i) _
        rw [Nat.zero_add, tj]
        by_cases ci : i = c.length - 1 - j
        · rw [ci, setF_at, backJ_next hj2 (by omega), if_pos rfl]
          exact vm_p
        · rw [setF_ne ci, backJ_next hj2 hi, if_neg ci]
          exact vm_p
      · rw [if_neg b1] at be
        have nl := not_last hj2 hn b1
        with_reducible conv => whnf
        repeat' ((first | (with_reducible refine branch_t ?_) | (with_reducible refine branch_f ?_) | (with_reducible refine branch_nt ?_) | (with_reducible refine branch_nf ?_) | (with_reducible refine branch_dec (fun _ => ?_) (fun _ => ?_)) | (with_reducible refine branch_ndec (fun _ => ?_) (fun _ => ?_)) | (with_reducible refine branch_bool (fun _ => ?_) (fun _ => ?_)) | (with_reducible refine arith_64 (by omega) ?_) | (with_reducible refine ob_i (by omega) (fun _ => ?_)) | (with_reducible refine ob_i (by unfold room; omega) (fun _ => ?_)) | (with_reducible refine ob_i (by (try simp only [toN_eq] at *); (try dsimp only [toN] at *); omega) (fun _ => ?_)) | (with_reducible refine arith_64 (by (try simp only [toN_eq] at *); (try dsimp only [toN] at *); omega) ?_) | (with_reducible refine ob_k rfl ?_) | ((with_reducible refine ob_k ?_ ?_); focus kernel_rfl) | (refine yield_i hmix hT rfl hL efr eps eag ebd rfl (by kernel_rfl) ?_)  | (apply call_l (first_ok (l := [_, _]) (Nat.le_of_ble_eq_true rfl)) (.cons (vm_lit _ rfl rfl (.cons (vm_int rfl) (.cons (vm_int rfl) .nil))) .nil)) | (apply call_l (first_ok (l := [_, _, _]) (Nat.le_of_ble_eq_true rfl)) (.cons (vm_lit _ rfl rfl (.cons (vm_int rfl) (.cons (vm_int rfl) (.cons (vm_int rfl) .nil)))) .nil)) | (apply call_l (first_ok (l := [_, _, _, _]) (Nat.le_of_ble_eq_true rfl)) (.cons (vm_lit _ rfl rfl (.cons (vm_int rfl) (.cons (vm_int rfl) (.cons (vm_int rfl) (.cons (vm_int rfl) .nil))))) .nil))) <;> (try (exfalso; omega; done)) <;> (with_reducible conv => whnf))
        all_goals first | (exfalso; rw [Nat.zero_add] at *; omega; done) | skip
        refine ⟨n + 1, nl, by omega, ?_⟩
        refine ⟨[], rfl, ?_, ?_⟩ <;> repeat' (first | exact trivial | exact vm_p | exact vm_ptr rfl rfl rfl | exact vm_yld rfl rfl | exact vm_own rfl rfl rfl rfl | exact vm_own rfl rfl (by omega) (by omega) | exact vm_int (by omega) | exact vm_nil rfl | exact sbm_cells vmL_p | exact sbm_row rfl (fun _ _ => vm_p) | refine ⟨⟨_, rfl, ?_⟩, ?_⟩ | refine ⟨⟨_, _, _, rfl⟩, ?_⟩ | (refine sbm_loop ?_; rw [efr]) | refine sbm_cells ?_ | refine vmL.cons ?_ ?_ | exact vmL.nil | refine vm_own rfl rfl rfl ?_)
        all_goals first | (refine sbm_row rfl fun i hi => ?_) | skip
        show vm _ (setF _ _ _ i) _
        rw [Nat.zero_add, tj, incr_bits hj2 hi ones b1]
        by_cases ci : i = c.length - 1 - j
        · rw [ci, setF_at, if_neg (by omega), if_pos rfl]
          exact vm_p
        · rw [setF_ne ci]
          by_cases c3 : c.length - 1 - j < i
          · rw [if_pos c3]
            exact vm_int (if_pos (by omega))
          · rw [if_neg c3, if_neg ci]
            exact vm_int (if_neg (by omega))
    · obtain rfl : j = c.length := by omega
      have en := last_code hn ones
      with_reducible conv => whnf
      repeat' ((first | (with_reducible refine branch_t ?_) | (with_reducible refine branch_f ?_) | (with_reducible refine branch_nt ?_) | (with_reducible refine branch_nf ?_) | (with_reducible refine branch_dec (fun _ => ?_) (fun _ => ?_)) | (with_reducible refine branch_ndec (fun _ => ?_) (fun _ => ?_)) | (with_reducible refine branch_bool (fun _ => ?_) (fun _ => ?_)) | (with_reducible refine arith_64 (by omega) ?_) | (with_reducible refine ob_i (by omega) (fun _ => ?_)) | (with_reducible refine ob_i (by unfold room; omega) (fun _ => ?_)) | (with_reducible refine ob_i (by (try simp only [] at *); (try dsimp only [toN] at *); omega) (fun _ => ?_)) | (with_reducible refine arith_64 (by (try simp only [] at *); (try dsimp only [toN] at *); omega) ?_) | (with_reducible refine ob_k rfl ?_) | ((with_reducible refine ob_k ?_ ?_); focus kernel_rfl) | (refine yield_i hmix hT rfl hL efr eps eag ebd rfl (by kernel_rfl) ?_)  | (apply call_l (first_ok (l := [_, _]) (Nat.le_of_ble_eq_true rfl)) (.cons (vm_lit _ rfl rfl (.cons (vm_int rfl) (.cons (vm_int rfl) .nil))) .nil)) | (apply call_l (first_ok (l := [_, _, _]) (Nat.le_of_ble_eq_true rfl)) (.cons (vm_lit _ rfl rfl (.cons (vm_int rfl) (.cons (vm_int rfl) (.cons (vm_int rfl) .nil)))) .nil)) | (apply call_l (first_ok (l := [_, _, _, _]) (Nat.le_of_ble_eq_true rfl)) (.cons (vm_lit _ rfl rfl (.cons (vm_int rfl) (.cons (vm_int rfl) (.cons (vm_int rfl) (.cons (vm_int rfl) .nil))))) .nil))) <;> (try (exfalso; omega; done)) <;> (with_reducible conv => whnf))
      all_goals first | (exfalso; omega; done) | skip
      rw [← en]
      exact ret0 (vm_tup (.cons (vm_fr rfl rfl rfl (Nat.le_refl _) fun _ _ => vm_p) (.cons vm_p .nil)))
end Go.Proofs.YtaejdonacadpkabDoor
