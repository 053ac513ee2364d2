/-
  Chapter 1: blocks, and the powers of harmonics (by contract).
  Conditions: none.
-/
import Derived.Test.YtaejdonacadpkabDoor1I
namespace Go.Proofs.YtaejdonacadpkabDoor
open Go.RowKit Fx
/-! ### In plain words -/
def allB4 (p : Nat → Bool) : Bool := p 0 && p 1 && p 2 && p 3
def wholeB (f : Frm) (a : Nat) : Bool := decide (a + 4 ≤ f.sm.length) && allB4 (fun q => usB f (a + q))
@[reducible] def blk (f : Frm) (a q : Nat) : CP := cfl (f.sm.getD (a + q) (0, 0))
/-- A harmonic of the block that begins at a sample. -/
def hzK (f : Frm) (a n : Nat) : Nat → Int × Int
  | 0 => (0, 0)
  | k + 1 => ((hzK f a n k).1 + ((f.sm.getD (a + k) (0, 0)).1 * (t4 (ex n k)).1 - (f.sm.getD (a + k) (0, 0)).2 * (t4 (ex n k)).2), (hzK f a n k).2 + ((f.sm.getD (a + k) (0, 0)).1 * (t4 (ex n k)).2 + (f.sm.getD (a + k) (0, 0)).2 * (t4 (ex n k)).1))
def hz (f : Frm) (a n : Nat) : Int × Int := hzK f a n 4
def nrm (p : Int × Int) : Int := p.1 * p.1 + p.2 * p.2
/-- The power of a harmonic in the first so many blocks of a frame. -/
def pwK (f : Frm) (n : Nat) : Nat → Int
  | 0 => 0
  | j + 1 => if wholeB f (4 * j) = true then pwK f n j + nrm (hz f (4 * j) n) else pwK f n j
def pwF (f : Frm) (n : Nat) : Int := pwK f n (f.sm.length / 4)
def f0 : Frm := ⟨0, 0, [], []⟩
def pwL (l : List Frm) (n : Nat) : Nat → Int
  | 0 => 0
  | i + 1 => pwL l n i + pwF (l.getD i f0) n
theorem sm_bd {f : Frm} (v : f.Val) (i : Nat) : (-2000000 ≤ (f.sm.getD i (0, 0)).1 ∧ (f.sm.getD i (0, 0)).1 ≤ 2000000) ∧ (-2000000 ≤ (f.sm.getD i (0, 0)).2 ∧ (f.sm.getD i (0, 0)).2 ≤ 2000000) := by
  have lm := v.lim
  by_cases h : i < f.sm.length
  · have := v.sm i h
    omega
  · rw [show f.sm.getD i (0, 0) = (0, 0) by simp [List.getD_eq_getElem?_getD, List.getElem?_eq_none (by omega : f.sm.length ≤ i)]]
    decide
theorem blk_cb {f : Frm} (v : f.Val) (a q : Nat) : CB (blk f a q) 2000000 ∧ cv (blk f a q) = f.sm.getD (a + q) (0, 0) := by
  have := sm_bd v (a + q)
  exact cfl_cb this.1 this.2 (by decide)
theorem hz_cv {f : Frm} (v : f.Val) (a n : Nat) : ∀ k : Nat, k ≤ 4 → CB (hsum (blk f a) n k) (k * 2000000) ∧ cv (hsum (blk f a) n k) = hzK f a n k
  | 0, _ => ⟨hS (fun q => (blk_cb v a q).1) (by decide) n 0 (by omega), zero_cb.2⟩
  | k + 1, h => by
    obtain ⟨i1, i2⟩ := hz_cv v a n k (by omega)
    obtain ⟨c1, c2⟩ := hC (fun q => (blk_cb v a q).1) (by decide) n k
    have := (cadd_cb i1 c1 (by unfold top; omega)).2
    refine ⟨hS (fun q => (blk_cb v a q).1) (by decide) n (k + 1) h, ?_⟩
    show cv (cadd _ _) = _
    rw [this, i2, c2, (blk_cb v a k).2]
    rfl
/-- The harmonics of a block of a frame: some doubles, whose parts are known. -/
theorem harm_ex {f : Frm} (v : f.Val) (a : Nat) : ∃ g : Nat → CP, FnOK Tryd.prog 89 [eB4 (blk f a)] (eB4 g) [] ∧ ∀ n, CB (g n) 8000000 ∧ cv (g n) = hz f a n :=
  ⟨harm (blk f a), harmonics_ok (fun q => (blk_cb v a q).1) (by decide), fun n => ⟨(hz_cv v a n 4 (by omega)).1, (hz_cv v a n 4 (by omega)).2⟩⟩
theorem sq_bd {x M : Int} (h : -M ≤ x ∧ x ≤ M) : 0 ≤ x * x ∧ x * x ≤ M * M := by
  refine ⟨?_, ?_⟩
  · have := Int.mul_self_le_mul_self (a := 0) (b := 0) (by omega) (by omega)
    rcases Int.le_total 0 x with h0 | h0
    · exact Int.mul_nonneg h0 h0
    · exact Int.mul_nonneg_of_nonpos_of_nonpos h0 h0
  · exact (mul_lim h h).2
theorem hz_bd {f : Frm} (v : f.Val) (a n : Nat) : (0 ≤ (hz f a n).1 * (hz f a n).1 ∧ (hz f a n).1 * (hz f a n).1 ≤ 64000000000000) ∧ (0 ≤ (hz f a n).2 * (hz f a n).2 ∧ (hz f a n).2 * (hz f a n).2 ≤ 64000000000000) := by
  have h := hz_cv v a n 4 (by omega)
  have e : hz f a n = cv (hsum (blk f a) n 4) := h.2.symm
  rw [e]
  exact ⟨sq_bd (M := 8000000) h.1.r1, sq_bd (M := 8000000) h.1.i1⟩
theorem pwK_bd {f : Frm} (v : f.Val) (n : Nat) : ∀ j : Nat, 0 ≤ pwK f n j ∧ pwK f n j ≤ j * 128000000000000
  | 0 => by simp [pwK]
  | j + 1 => by
    have := pwK_bd v n j
    have h := hz_bd v (4 * j) n
    unfold pwK nrm
    split <;> omega
theorem pwF_bd {f : Frm} (v : f.Val) (n : Nat) : 0 ≤ pwF f n ∧ pwF f n ≤ 2048000000000000 := by
  have := pwK_bd v n (f.sm.length / 4)
  have := v.n1
  unfold pwF
  omega
/-! ### What contains what -/
def fstF (p : Nat → Bool) : Nat → Nat → Int
  | 0, _ => -1
  | r + 1, k => if p k = true then fstF p r (k + 1) else k
theorem fstF_4 (p : Nat → Bool) : decide (0 ≤ fstF p 4 0) = !allB4 p := by
  unfold allB4
  simp only [fstF]
  rcases Bool.eq_false_or_eq_true (p 0) with h0 | h0 <;> rcases Bool.eq_false_or_eq_true (p 1) with h1 | h1 <;> rcases Bool.eq_false_or_eq_true (p 2) with h2 | h2 <;> rcases Bool.eq_false_or_eq_true (p 3) with h3 | h3 <;> simp [h0, h1, h2, h3]
set_option maxRecDepth 100000 in
theorem indexB_ok {p : Nat → Bool} {m : Nat} (hm : m ≤ 1000) : FnOK Tryd.prog 103 [eBn m p, B false] (I (fstF p m 0)) [] := by
  refine fn_i hmix hT Tryd.f103 (by kernel_rfl) rfl (by kernel_rfl) ?_
  with_reducible conv => whnf
  repeat' ((first | (with_reducible refine branch_t ?_) | (with_reducible refine branch_f ?_) | (with_reducible refine branch_nt ?_) | (with_reducible refine branch_nf ?_) | (with_reducible refine branch_dec (fun _ => ?_) (fun _ => ?_)) | (with_reducible refine branch_ndec (fun _ => ?_) (fun _ => ?_)) | (with_reducible refine branch_bool (fun _ => ?_) (fun _ => ?_)) | (with_reducible refine arith_64 (by omega) ?_) | (with_reducible refine ob_i (by omega) (fun _ => ?_)) | (with_reducible refine ob_i (by unfold room; omega) (fun _ => ?_)) | (with_reducible refine ob_i (by (try simp only [toN_eq, Int.toNat_natCast] at *); (try dsimp only [toN] at *); omega) (fun _ => ?_)) | (with_reducible refine arith_64 (by (try simp only [toN_eq, Int.toNat_natCast] at *); (try dsimp only [toN] at *); omega) ?_) | (with_reducible refine ob_k rfl ?_) | ((with_reducible refine ob_k ?_ ?_); focus kernel_rfl) | (refine yield_i hmix hT rfl hL efr eps eag ebd rfl (by kernel_rfl) ?_)  | (apply call_l (first_ok (l := [_, _]) (Nat.le_of_ble_eq_true rfl)) (.cons (vm_lit _ rfl rfl (.cons (vm_int rfl) (.cons (vm_int rfl) .nil))) .nil)) | (apply call_l (first_ok (l := [_, _, _]) (Nat.le_of_ble_eq_true rfl)) (.cons (vm_lit _ rfl rfl (.cons (vm_int rfl) (.cons (vm_int rfl) (.cons (vm_int rfl) .nil)))) .nil)) | (apply call_l (first_ok (l := [_, _, _, _]) (Nat.le_of_ble_eq_true rfl)) (.cons (vm_lit _ rfl rfl (.cons (vm_int rfl) (.cons (vm_int rfl) (.cons (vm_int rfl) (.cons (vm_int rfl) .nil))))) .nil))) <;> (try (exfalso; omega; done)) <;> (with_reducible conv => whnf))
  refine loop_i hmix hT (fun k : Nat => ([(0, eBn m p), (1, B false), (7, I m), (8, I k)], ⟨0, []⟩)) (fun k => k ≤ m ∧ fstF p m 0 = fstF p (m - k) k) (fun k => m - k) 0 ⟨by omega, rfl⟩ ?_ ?_
  · refine ⟨[], rfl, ?_, ?_⟩ <;> repeat' (first | exact trivial | exact vm_p | exact vm_ptr rfl rfl rfl | exact vm_yld rfl rfl | exact vm_own rfl rfl rfl rfl | exact vm_own rfl rfl (by omega) (by omega) | exact vm_int (by omega) | exact vm_nil rfl | exact sbm_cells vmL_p | exact sbm_row rfl (fun _ _ => vm_p) | refine ⟨⟨_, rfl, ?_⟩, ?_⟩ | refine ⟨⟨_, _, _, rfl⟩, ?_⟩ | (refine sbm_loop ?_; rw [efr]) | refine sbm_cells ?_ | refine vmL.cons ?_ ?_ | exact vmL.nil | refine vm_own rfl rfl rfl ?_)
  rintro k ⟨hk, e⟩
  by_cases h : k < m
  · have t1 : toN (k : Int) = k := toN_nat k
    rw [show m - k = (m - (k + 1)) + 1 by omega, fstF] at e
    cases c : p (toN (k : Int)) with
    | true =>
      rw [t1] at c
      rw [if_pos c] at e
      have c' : p (toN (k : Int)) = true := by rw [t1]; exact c
      with_reducible conv => whnf
      repeat' ((first | (with_reducible refine branch_t ?_) | (with_reducible refine branch_f ?_) | (with_reducible refine branch_nt ?_) | (with_reducible refine branch_nf ?_) | (with_reducible refine branch_dec (fun _ => ?_) (fun _ => ?_)) | (with_reducible refine branch_ndec (fun _ => ?_) (fun _ => ?_)) | (with_reducible refine branch_bool (fun _ => ?_) (fun _ => ?_)) | (with_reducible refine arith_64 (by omega) ?_) | (with_reducible refine ob_i (by omega) (fun _ => ?_)) | (with_reducible refine ob_i (by unfold room; omega) (fun _ => ?_)) | (with_reducible refine ob_i (by (try simp only [] at *); (try dsimp only [toN] at *); omega) (fun _ => ?_)) | (with_reducible refine arith_64 (by (try simp only [] at *); (try dsimp only [toN] at *); omega) ?_) | (with_reducible refine ob_k rfl ?_) | ((with_reducible refine ob_k ?_ ?_); focus kernel_rfl) | (refine yield_i hmix hT rfl hL efr eps eag ebd rfl (by kernel_rfl) ?_) | (refine gen_eqBv rfl rfl rfl (by kernel_rfl) (by kernel_rfl) (by kernel_rfl) ?_) | (apply call_l (first_ok (l := [_, _]) (Nat.le_of_ble_eq_true rfl)) (.cons (vm_lit _ rfl rfl (.cons (vm_int rfl) (.cons (vm_int rfl) .nil))) .nil)) | (apply call_l (first_ok (l := [_, _, _]) (Nat.le_of_ble_eq_true rfl)) (.cons (vm_lit _ rfl rfl (.cons (vm_int rfl) (.cons (vm_int rfl) (.cons (vm_int rfl) .nil)))) .nil)) | (apply call_l (first_ok (l := [_, _, _, _]) (Nat.le_of_ble_eq_true rfl)) (.cons (vm_lit _ rfl rfl (.cons (vm_int rfl) (.cons (vm_int rfl) (.cons (vm_int rfl) (.cons (vm_int rfl) .nil))))) .nil))) <;> (try (exfalso; omega; done)) <;> (with_reducible conv => whnf))
      · rename_i hh; rw [c'] at hh; cases hh
      · refine ⟨k + 1, ⟨by omega, e⟩, by omega, ?_⟩
        refine ⟨[], rfl, ?_, ?_⟩ <;> repeat' (first | exact trivial | exact vm_p | exact vm_ptr rfl rfl rfl | exact vm_yld rfl rfl | exact vm_own rfl rfl rfl rfl | exact vm_own rfl rfl (by omega) (by omega) | exact vm_int (by omega) | exact vm_nil rfl | exact sbm_cells vmL_p | exact sbm_row rfl (fun _ _ => vm_p) | refine ⟨⟨_, rfl, ?_⟩, ?_⟩ | refine ⟨⟨_, _, _, rfl⟩, ?_⟩ | (refine sbm_loop ?_; rw [efr]) | refine sbm_cells ?_ | refine vmL.cons ?_ ?_ | exact vmL.nil | refine vm_own rfl rfl rfl ?_)
    | false =>
      rw [t1] at c
      rw [if_neg (by rw [c]; simp)] at e
      have c' : p (toN (k : Int)) = false := by rw [t1]; exact c
      rw [e]
      with_reducible conv => whnf
      repeat' ((first | (with_reducible refine branch_t ?_) | (with_reducible refine branch_f ?_) | (with_reducible refine branch_nt ?_) | (with_reducible refine branch_nf ?_) | (with_reducible refine branch_dec (fun _ => ?_) (fun _ => ?_)) | (with_reducible refine branch_ndec (fun _ => ?_) (fun _ => ?_)) | (with_reducible refine branch_bool (fun _ => ?_) (fun _ => ?_)) | (with_reducible refine arith_64 (by omega) ?_) | (with_reducible refine ob_i (by omega) (fun _ => ?_)) | (with_reducible refine ob_i (by unfold room; omega) (fun _ => ?_)) | (with_reducible refine ob_i (by (try simp only [] at *); (try dsimp only [toN] at *); omega) (fun _ => ?_)) | (with_reducible refine arith_64 (by (try simp only [] at *); (try dsimp only [toN] at *); omega) ?_) | (with_reducible refine ob_k rfl ?_) | ((with_reducible refine ob_k ?_ ?_); focus kernel_rfl) | (refine yield_i hmix hT rfl hL efr eps eag ebd rfl (by kernel_rfl) ?_) | (refine gen_eqBv rfl rfl rfl (by kernel_rfl) (by kernel_rfl) (by kernel_rfl) ?_) | (apply call_l (first_ok (l := [_, _]) (Nat.le_of_ble_eq_true rfl)) (.cons (vm_lit _ rfl rfl (.cons (vm_int rfl) (.cons (vm_int rfl) .nil))) .nil)) | (apply call_l (first_ok (l := [_, _, _]) (Nat.le_of_ble_eq_true rfl)) (.cons (vm_lit _ rfl rfl (.cons (vm_int rfl) (.cons (vm_int rfl) (.cons (vm_int rfl) .nil)))) .nil)) | (apply call_l (first_ok (l := [_, _, _, _]) (Nat.le_of_ble_eq_true rfl)) (.cons (vm_lit _ rfl rfl (.cons (vm_int rfl) (.cons (vm_int rfl) (.cons (vm_int rfl) (.cons (vm_int rfl) .nil))))) .nil))) <;> (try (exfalso; omega; done)) <;> (with_reducible conv => whnf))
      · exact ret0 vm_p
      · rename_i hh; exact absurd c'.symm hh
  · obtain rfl : k = m := by omega
    rw [e, Nat.sub_self]
    with_reducible conv => whnf
    repeat' ((first | (with_reducible refine branch_t ?_) | (with_reducible refine branch_f ?_) | (with_reducible refine branch_nt ?_) | (with_reducible refine branch_nf ?_) | (with_reducible refine branch_dec (fun _ => ?_) (fun _ => ?_)) | (with_reducible refine branch_ndec (fun _ => ?_) (fun _ => ?_)) | (with_reducible refine branch_bool (fun _ => ?_) (fun _ => ?_)) | (with_reducible refine arith_64 (by omega) ?_) | (with_reducible refine ob_i (by omega) (fun _ => ?_)) | (with_reducible refine ob_i (by unfold room; omega) (fun _ => ?_)) | (with_reducible refine ob_i (by (try simp only [toN_eq, Int.toNat_natCast] at *); (try dsimp only [toN] at *); omega) (fun _ => ?_)) | (with_reducible refine arith_64 (by (try simp only [toN_eq, Int.toNat_natCast] at *); (try dsimp only [toN] at *); omega) ?_) | (with_reducible refine ob_k rfl ?_) | ((with_reducible refine ob_k ?_ ?_); focus kernel_rfl) | (refine yield_i hmix hT rfl hL efr eps eag ebd rfl (by kernel_rfl) ?_)  | (apply call_l (first_ok (l := [_, _]) (Nat.le_of_ble_eq_true rfl)) (.cons (vm_lit _ rfl rfl (.cons (vm_int rfl) (.cons (vm_int rfl) .nil))) .nil)) | (apply call_l (first_ok (l := [_, _, _]) (Nat.le_of_ble_eq_true rfl)) (.cons (vm_lit _ rfl rfl (.cons (vm_int rfl) (.cons (vm_int rfl) (.cons (vm_int rfl) .nil)))) .nil)) | (apply call_l (first_ok (l := [_, _, _, _]) (Nat.le_of_ble_eq_true rfl)) (.cons (vm_lit _ rfl rfl (.cons (vm_int rfl) (.cons (vm_int rfl) (.cons (vm_int rfl) (.cons (vm_int rfl) .nil))))) .nil))) <;> (try (exfalso; omega; done)) <;> (with_reducible conv => whnf))
    exact ret0 vm_p
theorem containsB_ok {p : Nat → Bool} {m : Nat} (hm : m = 4) : FnOK Tryd.prog 97 [eBn m p, B false] (B (!allB4 p)) [] := by
  have X := indexB_ok (p := p) (m := m) (by omega)
  have e := fstF_4 p
  rw [← hm] at e
  refine fn_i hmix hT Tryd.f97 (by kernel_rfl) rfl (by kernel_rfl) ?_
  with_reducible conv => whnf
  repeat' ((first | (with_reducible refine branch_t ?_) | (with_reducible refine branch_f ?_) | (with_reducible refine branch_nt ?_) | (with_reducible refine branch_nf ?_) | (with_reducible refine branch_dec (fun _ => ?_) (fun _ => ?_)) | (with_reducible refine branch_ndec (fun _ => ?_) (fun _ => ?_)) | (with_reducible refine branch_bool (fun _ => ?_) (fun _ => ?_)) | (with_reducible refine arith_64 (by omega) ?_) | (with_reducible refine ob_i (by omega) (fun _ => ?_)) | (with_reducible refine ob_i (by unfold room; omega) (fun _ => ?_)) | (with_reducible refine ob_i (by (try simp only [toN_eq, Int.toNat_natCast] at *); (try dsimp only [toN] at *); omega) (fun _ => ?_)) | (with_reducible refine arith_64 (by (try simp only [toN_eq, Int.toNat_natCast] at *); (try dsimp only [toN] at *); omega) ?_) | (with_reducible refine ob_k rfl ?_) | ((with_reducible refine ob_k ?_ ?_); focus kernel_rfl) | (refine yield_i hmix hT rfl hL efr eps eag ebd rfl (by kernel_rfl) ?_) | (apply call_u X) | (apply call_l (first_ok (l := [_, _]) (Nat.le_of_ble_eq_true rfl)) (.cons (vm_lit _ rfl rfl (.cons (vm_int rfl) (.cons (vm_int rfl) .nil))) .nil)) | (apply call_l (first_ok (l := [_, _, _]) (Nat.le_of_ble_eq_true rfl)) (.cons (vm_lit _ rfl rfl (.cons (vm_int rfl) (.cons (vm_int rfl) (.cons (vm_int rfl) .nil)))) .nil)) | (apply call_l (first_ok (l := [_, _, _, _]) (Nat.le_of_ble_eq_true rfl)) (.cons (vm_lit _ rfl rfl (.cons (vm_int rfl) (.cons (vm_int rfl) (.cons (vm_int rfl) (.cons (vm_int rfl) .nil))))) .nil))) <;> (try (exfalso; omega; done)) <;> (with_reducible conv => whnf))
  exact ret0 (vm_bool e)
/-! ### Powers -/
@[reducible] def eFs (l : List Frm) : V := .sl 4 l.length fun i => eF (l.getD i f0)
@[reducible] def z4 : List V := [I 0, I 0, I 0, I 0]
@[reducible] def o4 (o : Nat → Int) : List V := [I (o 0), I (o 1), I (o 2), I (o 3)]
def flsE (l : List Frm) : Int := if l.length = 0 then 10 else if 4 < l.length then 8 else (findErr frE l 0).2
theorem flsE_first {l : List Frm} : firstErr [if decide ((0 : Int) < l.length) = true then 0 else 10, if decide ((l.length : Int) ≤ 4) = true then 0 else 8] = if l.length = 0 then 10 else if 4 < l.length then 8 else 0 := by
  rw [first_two]; grind
/-- The powers in the first frames, and in the first blocks of the next one. -/
def pwA (l : List Frm) (i j n : Nat) : Int := pwL l n i + pwK (l.getD i f0) n j
theorem pwL_bd {l : List Frm} (n : Nat) : ∀ i : Nat, (∀ k, k < i → (l.getD k f0).Val) → 0 ≤ pwL l n i ∧ pwL l n i ≤ i * 2048000000000000
  | 0, _ => by simp [pwL]
  | i + 1, h => by
    have := pwL_bd (l := l) n i fun k hk => h k (by omega)
    have := pwF_bd (h i (by omega)) n
    unfold pwL
    omega
theorem pwA_bd {l : List Frm} {i j : Nat} (n : Nat) (h : ∀ k, k ≤ i → (l.getD k f0).Val) (hj : j ≤ 16) (hi : i ≤ 4) : 0 ≤ pwA l i j n ∧ pwA l i j n ≤ 20480000000000000 := by
  have := pwL_bd (l := l) n i fun k hk => h k (by omega)
  have := pwK_bd (h i (by omega)) n j
  unfold pwA
  omega
theorem wholeB_eq {f : Frm} {a : Nat} (h : a + 4 ≤ f.sm.length) : allB4 (fun q => usB f (toN (a : Int) + q)) = wholeB f a := by
  unfold wholeB
  rw [decide_eq_true h, Bool.true_and, toN_nat]
set_option maxHeartbeats 8000000 in
set_option maxRecDepth 100000 in
theorem powers_good {l : List Frm} (h0 : 0 < l.length) (h4 : l.length ≤ 4) (hv : ∀ i, i < l.length → frE (l.getD i f0) = 0 ∧ (l.getD i f0).gp.length ≤ 9223372036854775807) : FnOK Tryd.prog 74 [eFs l] (.tup [.agg (o4 fun n => pwL l n l.length), I 0]) [] := by
  have F := first_ok (l := [if decide ((0 : Int) < l.length) = true then 0 else 10, if decide ((l.length : Int) ≤ 4) = true then 0 else 8]) (by simp)
  have e0 : (if l.length = 0 then 10 else if 4 < l.length then 8 else 0 : Int) = 0 := by rw [if_neg (by omega), if_neg (by omega)]
  rw [flsE_first, e0] at F
  refine fn_i hmix hT Tryd.f74 (by kernel_rfl) rfl (by kernel_rfl) ?_
  with_reducible conv => whnf
  repeat' ((first | (with_reducible refine branch_t ?_) | (with_reducible refine branch_f ?_) | (with_reducible refine branch_nt ?_) | (with_reducible refine branch_nf ?_) | (with_reducible refine branch_dec (fun _ => ?_) (fun _ => ?_)) | (with_reducible refine branch_ndec (fun _ => ?_) (fun _ => ?_)) | (with_reducible refine branch_bool (fun _ => ?_) (fun _ => ?_)) | (with_reducible refine arith_64 (by omega) ?_) | (with_reducible refine ob_i (by omega) (fun _ => ?_)) | (with_reducible refine ob_i (by unfold room; omega) (fun _ => ?_)) | (with_reducible refine ob_i (by (try simp only [toN_eq, Int.toNat_natCast] at *); (try dsimp only [toN] at *); omega) (fun _ => ?_)) | (with_reducible refine arith_64 (by (try simp only [toN_eq, Int.toNat_natCast] at *); (try dsimp only [toN] at *); omega) ?_) | (with_reducible refine ob_k rfl ?_) | ((with_reducible refine ob_k ?_ ?_); focus kernel_rfl) | (refine yield_i hmix hT rfl hL efr eps eag ebd rfl (by kernel_rfl) ?_) | (apply call_u unless_ok) | (apply call_l F (.cons (vm_lit _ rfl rfl (.cons (vm_int rfl) (.cons (vm_int rfl) .nil))) .nil)) | (apply call_l (first_ok (l := [_, _]) (Nat.le_of_ble_eq_true rfl)) (.cons (vm_lit _ rfl rfl (.cons (vm_int rfl) (.cons (vm_int rfl) .nil))) .nil)) | (apply call_l (first_ok (l := [_, _, _]) (Nat.le_of_ble_eq_true rfl)) (.cons (vm_lit _ rfl rfl (.cons (vm_int rfl) (.cons (vm_int rfl) (.cons (vm_int rfl) .nil)))) .nil)) | (apply call_l (first_ok (l := [_, _, _, _]) (Nat.le_of_ble_eq_true rfl)) (.cons (vm_lit _ rfl rfl (.cons (vm_int rfl) (.cons (vm_int rfl) (.cons (vm_int rfl) (.cons (vm_int rfl) .nil))))) .nil))) <;> (try (exfalso; omega; done)) <;> (with_reducible conv => whnf))
  refine loop_i hmix hT (fun i : Nat => ([(2, .ptr 0 0), (3, I 0), (4, .ptr 1 0), (29, eFs l), (30, I l.length), (31, I i)], ⟨2, [(1, .cells (o4 fun n => pwL l n i) 79), (0, .cells z4 79)]⟩)) (fun i => i ≤ l.length) (fun i => l.length - i) 0 (by omega) ?_ ?_
  · refine ⟨[], rfl, ?_, ?_⟩ <;> repeat' (first | exact trivial | exact vm_p | exact vm_ptr rfl rfl rfl | exact vm_yld rfl rfl | exact vm_own rfl rfl rfl rfl | exact vm_own rfl rfl (by omega) (by omega) | exact vm_int (by omega) | exact vm_nil rfl | exact sbm_cells vmL_p | exact sbm_row rfl (fun _ _ => vm_p) | refine ⟨⟨_, rfl, ?_⟩, ?_⟩ | refine ⟨⟨_, _, _, rfl⟩, ?_⟩ | (refine sbm_loop ?_; rw [efr]) | refine sbm_cells ?_ | refine vmL.cons ?_ ?_ | exact vmL.nil | refine vm_own rfl rfl rfl ?_)
  intro i hi
  by_cases c : i < l.length
  · have ti : toN (i : Int) = i := toN_nat i
    have vi := hv i c
    have O := open_good vi.2 vi.1
    rw [← ti] at O
    have v := frm_val vi.1
    have vv : ∀ k, k ≤ i → (l.getD k f0).Val := fun k hk => frm_val (hv k (by omega)).1
    have n0 := v.n0
    have n1 := v.n1
    rw [← ti] at v n0 n1
    with_reducible conv => whnf
    repeat' ((first | (with_reducible refine branch_t ?_) | (with_reducible refine branch_f ?_) | (with_reducible refine branch_nt ?_) | (with_reducible refine branch_nf ?_) | (with_reducible refine branch_dec (fun _ => ?_) (fun _ => ?_)) | (with_reducible refine branch_ndec (fun _ => ?_) (fun _ => ?_)) | (with_reducible refine branch_bool (fun _ => ?_) (fun _ => ?_)) | (with_reducible refine arith_64 (by omega) ?_) | (with_reducible refine ob_i (by omega) (fun _ => ?_)) | (with_reducible refine ob_i (by unfold room; omega) (fun _ => ?_)) | (with_reducible refine ob_i (by (try simp only [] at *); (try dsimp only [toN] at *); omega) (fun _ => ?_)) | (with_reducible refine arith_64 (by (try simp only [] at *); (try dsimp only [toN] at *); omega) ?_) | (with_reducible refine ob_k rfl ?_) | ((with_reducible refine ob_k ?_ ?_); focus kernel_rfl) | (refine yield_i hmix hT rfl hL efr eps eag ebd rfl (by kernel_rfl) ?_) | (apply call_u O) | (apply call_l (first_ok (l := [_, _]) (Nat.le_of_ble_eq_true rfl)) (.cons (vm_lit _ rfl rfl (.cons (vm_int rfl) (.cons (vm_int rfl) .nil))) .nil)) | (apply call_l (first_ok (l := [_, _, _]) (Nat.le_of_ble_eq_true rfl)) (.cons (vm_lit _ rfl rfl (.cons (vm_int rfl) (.cons (vm_int rfl) (.cons (vm_int rfl) .nil)))) .nil)) | (apply call_l (first_ok (l := [_, _, _, _]) (Nat.le_of_ble_eq_true rfl)) (.cons (vm_lit _ rfl rfl (.cons (vm_int rfl) (.cons (vm_int rfl) (.cons (vm_int rfl) (.cons (vm_int rfl) .nil))))) .nil))) <;> (try (exfalso; omega; done)) <;> (with_reducible conv => whnf))
    refine range_m hmix hT rfl 1 Tryd.f88 (by kernel_rfl) rfl (by kernel_rfl) 0 [2, 3, 4, 29, 30, 31] (by kernel_rfl) ?_
    intro L efr eps eag ebd etok hL
    with_reducible conv => whnf
    repeat' ((first | (with_reducible refine branch_t ?_) | (with_reducible refine branch_f ?_) | (with_reducible refine branch_nt ?_) | (with_reducible refine branch_nf ?_) | (with_reducible refine branch_dec (fun _ => ?_) (fun _ => ?_)) | (with_reducible refine branch_ndec (fun _ => ?_) (fun _ => ?_)) | (with_reducible refine branch_bool (fun _ => ?_) (fun _ => ?_)) | (with_reducible refine arith_64 (by omega) ?_) | (with_reducible refine ob_i (by omega) (fun _ => ?_)) | (with_reducible refine ob_i (by unfold room; omega) (fun _ => ?_)) | (with_reducible refine ob_i (by (try simp only [] at *); (try dsimp only [toN] at *); omega) (fun _ => ?_)) | (with_reducible refine arith_64 (by (try simp only [] at *); (try dsimp only [toN] at *); omega) ?_) | (with_reducible refine ob_k rfl ?_) | ((with_reducible refine ob_k ?_ ?_); focus kernel_rfl) | (refine yield_i hmix hT rfl hL efr eps eag ebd rfl (by kernel_rfl) ?_)  | (apply call_l (first_ok (l := [_, _]) (Nat.le_of_ble_eq_true rfl)) (.cons (vm_lit _ rfl rfl (.cons (vm_int rfl) (.cons (vm_int rfl) .nil))) .nil)) | (apply call_l (first_ok (l := [_, _, _]) (Nat.le_of_ble_eq_true rfl)) (.cons (vm_lit _ rfl rfl (.cons (vm_int rfl) (.cons (vm_int rfl) (.cons (vm_int rfl) .nil)))) .nil)) | (apply call_l (first_ok (l := [_, _, _, _]) (Nat.le_of_ble_eq_true rfl)) (.cons (vm_lit _ rfl rfl (.cons (vm_int rfl) (.cons (vm_int rfl) (.cons (vm_int rfl) (.cons (vm_int rfl) .nil))))) .nil))) <;> (try (exfalso; omega; done)) <;> (with_reducible conv => whnf))
    refine loop_i hmix hT (fun j : Nat => ([(1, .yld 4), (2, .ptr 5 0), (4, I (4 * j : Nat))], ⟨6, [(5, .cells [I (l.getD (toN (i : Int)) f0).g, I (l.getD (toN (i : Int)) f0).lim, ePs (l.getD (toN (i : Int)) f0).sm, eInts (l.getD (toN (i : Int)) f0).gp, eBn (l.getD (toN (i : Int)) f0).sm.length (usB (l.getD (toN (i : Int)) f0))] 113), (4, .loop L .ready), (1, .cells (o4 fun n => pwA l i j n) 79), (0, .cells z4 79)]⟩)) (fun j => j ≤ (l.getD (toN (i : Int)) f0).sm.length / 4) (fun j => (l.getD (toN (i : Int)) f0).sm.length / 4 - j) 0 (by omega) ?_ ?_
    · have z : ∀ n, pwL l n i = pwA l i 0 n := fun n => by unfold pwA pwK; omega
      refine ⟨[], rfl, ?_, ?_⟩ <;> repeat' (first | exact trivial | exact vm_p | exact vm_ptr rfl rfl rfl | exact vm_yld rfl rfl | exact vm_own rfl rfl rfl rfl | exact vm_own rfl rfl (by omega) (by omega) | exact vm_int (by omega) | exact vm_nil rfl | exact sbm_cells vmL_p | exact sbm_row rfl (fun _ _ => vm_p) | refine ⟨⟨_, rfl, ?_⟩, ?_⟩ | refine ⟨⟨_, _, _, rfl⟩, ?_⟩ | (refine sbm_loop ?_; rw [efr]) | refine sbm_cells ?_ | refine vmL.cons ?_ ?_ | exact vmL.nil | refine vm_own rfl rfl rfl ?_)
      all_goals exact vm_int (z _)
    intro j hj
    have tj : toN ((4 * j : Nat) : Int) = 4 * j := toN_nat _
    by_cases c2 : j < (l.getD (toN (i : Int)) f0).sm.length / 4
    · have t5 : toN (((4 * j : Nat) : Int) + 4) = 4 * j + 4 := by rw [toN_eq]; omega
      have e4 : toN (((4 * j : Nat) : Int) + 4) - toN ((4 * j : Nat) : Int) = 4 := by omega
      have CT := containsB_ok (p := fun q => usB (l.getD (toN (i : Int)) f0) (toN ((4 * j : Nat) : Int) + q)) e4
      rw [wholeB_eq (by omega)] at CT
      obtain ⟨g, HM, hg⟩ := harm_ex v (4 * j)
      have W := fun n => whole_ok (hg n).1 (by decide)
      have sq := fun n => hz_bd v (4 * j) n
      simp only [← (hg _).2] at sq
      have s0 := sq 0
      have s1 := sq 1
      have s2 := sq 2
      have s3 := sq 3
      have b0 := pwA_bd (j := j) 0 vv (by omega) (by omega)
      have b1 := pwA_bd (j := j) 1 vv (by omega) (by omega)
      have b2 := pwA_bd (j := j) 2 vv (by omega) (by omega)
      have b3 := pwA_bd (j := j) 3 vv (by omega) (by omega)
      have nx : ∀ n, pwA l i (j + 1) n = if wholeB (l.getD (toN (i : Int)) f0) (4 * j) = true then pwA l i j n + ((cv (g n)).1 * (cv (g n)).1 + (cv (g n)).2 * (cv (g n)).2) else pwA l i j n := fun n => by
        unfold pwA
        rw [ti, (hg n).2, ti, pwK]
        split
        · unfold nrm; omega
        · rfl
      cases wb : wholeB (l.getD (toN (i : Int)) f0) (4 * j) with
      | true =>
        rw [wb] at CT
        simp only [wb, if_true] at nx
        with_reducible conv => whnf
        repeat' ((first | (with_reducible refine arith_l 0 (by decide) (by decide) ?_) | (with_reducible refine arith_l 1 (by decide) (by decide) ?_) | (with_reducible refine arith_l 2 (by decide) (by decide) ?_) | (with_reducible refine arith_l 3 (by decide) (by decide) ?_) | (with_reducible refine arith_l 4 (by decide) (by decide) ?_) | (with_reducible refine branch_t ?_) | (with_reducible refine branch_f ?_) | (with_reducible refine branch_nt ?_) | (with_reducible refine branch_nf ?_) | (with_reducible refine branch_dec (fun _ => ?_) (fun _ => ?_)) | (with_reducible refine branch_ndec (fun _ => ?_) (fun _ => ?_)) | (with_reducible refine branch_bool (fun _ => ?_) (fun _ => ?_)) | (with_reducible refine arith_64 (by omega) ?_) | (with_reducible refine ob_i (by omega) (fun _ => ?_)) | (with_reducible refine ob_i (by unfold room; omega) (fun _ => ?_)) | (with_reducible refine ob_i (by (try simp only [toN_eq] at *); (try dsimp only [toN] at *); omega) (fun _ => ?_)) | (with_reducible refine arith_64 (by (try simp only [toN_eq] at *); (try dsimp only [toN] at *); omega) ?_) | (with_reducible refine ob_k rfl ?_) | ((with_reducible refine ob_k ?_ ?_); focus kernel_rfl) | (refine yield_x hmix hT rfl hL efr eps eag ebd rfl ?_) | (apply call_u CT) | (refine loop_u hmix hT [(), (), (), (), ()] ?_) | (refine loopX_u hmix hT [(), (), (), (), ()] ?_) | (apply call_u sample_ok) | (apply call_u HM) | (apply call_u (W _)) | (apply call_l (first_ok (l := [_, _]) (Nat.le_of_ble_eq_true rfl)) (.cons (vm_lit _ rfl rfl (.cons (vm_int rfl) (.cons (vm_int rfl) .nil))) .nil)) | (apply call_l (first_ok (l := [_, _, _]) (Nat.le_of_ble_eq_true rfl)) (.cons (vm_lit _ rfl rfl (.cons (vm_int rfl) (.cons (vm_int rfl) (.cons (vm_int rfl) .nil)))) .nil)) | (apply call_l (first_ok (l := [_, _, _, _]) (Nat.le_of_ble_eq_true rfl)) (.cons (vm_lit _ rfl rfl (.cons (vm_int rfl) (.cons (vm_int rfl) (.cons (vm_int rfl) (.cons (vm_int rfl) .nil))))) .nil))) <;> (try (exfalso; omega; done)) <;> (with_reducible conv => whnf))
        refine ⟨j + 1, by omega, by omega, ?_⟩
        refine ⟨[], rfl, ?_, ?_⟩ <;> repeat' (first | exact trivial | exact vm_p | exact vm_ptr rfl rfl rfl | exact vm_yld rfl rfl | exact vm_own rfl rfl rfl rfl | exact vm_own rfl rfl (by omega) (by omega) | exact vm_int (by omega) | exact vm_nil rfl | exact sbm_cells vmL_p | exact sbm_row rfl (fun _ _ => vm_p) | refine ⟨⟨_, rfl, ?_⟩, ?_⟩ | refine ⟨⟨_, _, _, rfl⟩, ?_⟩ | (refine sbm_loop ?_; rw [efr]) | refine sbm_cells ?_ | refine vmL.cons ?_ ?_ | exact vmL.nil | refine vm_own rfl rfl rfl ?_)
        all_goals exact vm_int (nx _).symm
      | false =>
        rw [wb] at CT
        simp only [wb] at nx
        with_reducible conv => whnf
        repeat' ((first | (with_reducible refine arith_l 0 (by decide) (by decide) ?_) | (with_reducible refine arith_l 1 (by decide) (by decide) ?_) | (with_reducible refine arith_l 2 (by decide) (by decide) ?_) | (with_reducible refine arith_l 3 (by decide) (by decide) ?_) | (with_reducible refine arith_l 4 (by decide) (by decide) ?_) | (with_reducible refine branch_t ?_) | (with_reducible refine branch_f ?_) | (with_reducible refine branch_nt ?_) | (with_reducible refine branch_nf ?_) | (with_reducible refine branch_dec (fun _ => ?_) (fun _ => ?_)) | (with_reducible refine branch_ndec (fun _ => ?_) (fun _ => ?_)) | (with_reducible refine branch_bool (fun _ => ?_) (fun _ => ?_)) | (with_reducible refine arith_64 (by omega) ?_) | (with_reducible refine ob_i (by omega) (fun _ => ?_)) | (with_reducible refine ob_i (by unfold room; omega) (fun _ => ?_)) | (with_reducible refine ob_i (by (try simp only [toN_eq] at *); (try dsimp only [toN] at *); omega) (fun _ => ?_)) | (with_reducible refine arith_64 (by (try simp only [toN_eq] at *); (try dsimp only [toN] at *); omega) ?_) | (with_reducible refine ob_k rfl ?_) | ((with_reducible refine ob_k ?_ ?_); focus kernel_rfl) | (refine yield_i hmix hT rfl hL efr eps eag ebd rfl (by kernel_rfl) ?_) | (apply call_u CT) | (apply call_l (first_ok (l := [_, _]) (Nat.le_of_ble_eq_true rfl)) (.cons (vm_lit _ rfl rfl (.cons (vm_int rfl) (.cons (vm_int rfl) .nil))) .nil)) | (apply call_l (first_ok (l := [_, _, _]) (Nat.le_of_ble_eq_true rfl)) (.cons (vm_lit _ rfl rfl (.cons (vm_int rfl) (.cons (vm_int rfl) (.cons (vm_int rfl) .nil)))) .nil)) | (apply call_l (first_ok (l := [_, _, _, _]) (Nat.le_of_ble_eq_true rfl)) (.cons (vm_lit _ rfl rfl (.cons (vm_int rfl) (.cons (vm_int rfl) (.cons (vm_int rfl) (.cons (vm_int rfl) .nil))))) .nil))) <;> (try (exfalso; omega; done)) <;> (with_reducible conv => whnf))
        refine ⟨j + 1, by omega, by omega, ?_⟩
        refine ⟨[], rfl, ?_, ?_⟩ <;> repeat' (first | exact trivial | exact vm_p | exact vm_ptr rfl rfl rfl | exact vm_yld rfl rfl | exact vm_own rfl rfl rfl rfl | exact vm_own rfl rfl (by omega) (by omega) | exact vm_int (by omega) | exact vm_nil rfl | exact sbm_cells vmL_p | exact sbm_row rfl (fun _ _ => vm_p) | refine ⟨⟨_, rfl, ?_⟩, ?_⟩ | refine ⟨⟨_, _, _, rfl⟩, ?_⟩ | (refine sbm_loop ?_; rw [efr]) | refine sbm_cells ?_ | refine vmL.cons ?_ ?_ | exact vmL.nil | refine vm_own rfl rfl rfl ?_)
        all_goals exact vm_int (nx _).symm
    · obtain rfl : j = (l.getD (toN (i : Int)) f0).sm.length / 4 := by omega
      with_reducible conv => whnf
      repeat' ((first | (with_reducible refine branch_t ?_) | (with_reducible refine branch_f ?_) | (with_reducible refine branch_nt ?_) | (with_reducible refine branch_nf ?_) | (with_reducible refine branch_dec (fun _ => ?_) (fun _ => ?_)) | (with_reducible refine branch_ndec (fun _ => ?_) (fun _ => ?_)) | (with_reducible refine branch_bool (fun _ => ?_) (fun _ => ?_)) | (with_reducible refine arith_64 (by omega) ?_) | (with_reducible refine ob_i (by omega) (fun _ => ?_)) | (with_reducible refine ob_i (by unfold room; omega) (fun _ => ?_)) | (with_reducible refine ob_i (by (try simp only [] at *); (try dsimp only [toN] at *); omega) (fun _ => ?_)) | (with_reducible refine arith_64 (by (try simp only [] at *); (try dsimp only [toN] at *); omega) ?_) | (with_reducible refine ob_k rfl ?_) | ((with_reducible refine ob_k ?_ ?_); focus kernel_rfl) | (refine yield_i hmix hT rfl hL efr eps eag ebd rfl (by kernel_rfl) ?_)  | (apply call_l (first_ok (l := [_, _]) (Nat.le_of_ble_eq_true rfl)) (.cons (vm_lit _ rfl rfl (.cons (vm_int rfl) (.cons (vm_int rfl) .nil))) .nil)) | (apply call_l (first_ok (l := [_, _, _]) (Nat.le_of_ble_eq_true rfl)) (.cons (vm_lit _ rfl rfl (.cons (vm_int rfl) (.cons (vm_int rfl) (.cons (vm_int rfl) .nil)))) .nil)) | (apply call_l (first_ok (l := [_, _, _, _]) (Nat.le_of_ble_eq_true rfl)) (.cons (vm_lit _ rfl rfl (.cons (vm_int rfl) (.cons (vm_int rfl) (.cons (vm_int rfl) (.cons (vm_int rfl) .nil))))) .nil))) <;> (try (exfalso; omega; done)) <;> (with_reducible conv => whnf))
      refine ⟨i + 1, by omega, by omega, ?_⟩
      have z : ∀ n, pwA l i ((l.getD (toN (i : Int)) f0).sm.length / 4) n = pwL l n (i + 1) := fun n => by unfold pwA; rw [pwL, ti]; rfl
      refine ⟨[], rfl, ?_, ?_⟩ <;> repeat' (first | exact trivial | exact vm_p | exact vm_ptr rfl rfl rfl | exact vm_yld rfl rfl | exact vm_own rfl rfl rfl rfl | exact vm_own rfl rfl (by omega) (by omega) | exact vm_int (by omega) | exact vm_nil rfl | exact sbm_cells vmL_p | exact sbm_row rfl (fun _ _ => vm_p) | refine ⟨⟨_, rfl, ?_⟩, ?_⟩ | refine ⟨⟨_, _, _, rfl⟩, ?_⟩ | (refine sbm_loop ?_; rw [efr]) | refine sbm_cells ?_ | refine vmL.cons ?_ ?_ | exact vmL.nil | refine vm_own rfl rfl rfl ?_)
      all_goals exact vm_int (z _)
  · obtain rfl : i = l.length := by omega
    with_reducible conv => whnf
    repeat' ((first | (with_reducible refine branch_t ?_) | (with_reducible refine branch_f ?_) | (with_reducible refine branch_nt ?_) | (with_reducible refine branch_nf ?_) | (with_reducible refine branch_dec (fun _ => ?_) (fun _ => ?_)) | (with_reducible refine branch_ndec (fun _ => ?_) (fun _ => ?_)) | (with_reducible refine branch_bool (fun _ => ?_) (fun _ => ?_)) | (with_reducible refine arith_64 (by omega) ?_) | (with_reducible refine ob_i (by omega) (fun _ => ?_)) | (with_reducible refine ob_i (by unfold room; omega) (fun _ => ?_)) | (with_reducible refine ob_i (by (try simp only [toN_eq, Int.toNat_natCast] at *); (try dsimp only [toN] at *); omega) (fun _ => ?_)) | (with_reducible refine arith_64 (by (try simp only [toN_eq, Int.toNat_natCast] at *); (try dsimp only [toN] at *); omega) ?_) | (with_reducible refine ob_k rfl ?_) | ((with_reducible refine ob_k ?_ ?_); focus kernel_rfl) | (refine yield_i hmix hT rfl hL efr eps eag ebd rfl (by kernel_rfl) ?_)  | (apply call_l (first_ok (l := [_, _]) (Nat.le_of_ble_eq_true rfl)) (.cons (vm_lit _ rfl rfl (.cons (vm_int rfl) (.cons (vm_int rfl) .nil))) .nil)) | (apply call_l (first_ok (l := [_, _, _]) (Nat.le_of_ble_eq_true rfl)) (.cons (vm_lit _ rfl rfl (.cons (vm_int rfl) (.cons (vm_int rfl) (.cons (vm_int rfl) .nil)))) .nil)) | (apply call_l (first_ok (l := [_, _, _, _]) (Nat.le_of_ble_eq_true rfl)) (.cons (vm_lit _ rfl rfl (.cons (vm_int rfl) (.cons (vm_int rfl) (.cons (vm_int rfl) (.cons (vm_int rfl) .nil))))) .nil))) <;> (try (exfalso; omega; done)) <;> (with_reducible conv => whnf))
    exact ret0 vm_p
end Go.Proofs.YtaejdonacadpkabDoor
