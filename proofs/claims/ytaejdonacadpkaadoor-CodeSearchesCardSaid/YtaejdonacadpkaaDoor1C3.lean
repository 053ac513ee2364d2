/-
  Chapter 1: numbers that are shifted; the document's codes of a number, its searches (by contract).
  Conditions: none.
-/
import Derived.Test.YtaejdonacadpkaaDoor1C2
import Derived.Test.YtaejdonacadpkaaDoor1Q
namespace Go.Proofs.YtaejdonacadpkaaDoor
open Go.RowKit Fx
section
variable {P : Program}
theorem pow_le30 {n : Nat} (h : n ≤ 30) : 2 ^ n ≤ 1073741824 := Nat.pow_le_pow_right (n := 2) (by decide) h
theorem gen_shl {ρ : Env} {o : Oper} {K : V → Prop} {t t2 : TypeId} {x y : Operand} {n : Nat} (ho : o.op = .binOp .shl t x y t2) (hx : ρ x = some (I 1)) (hy : ρ y = some (I n)) (h : n ≤ 30) (hk : K (I ((2 ^ n : Nat) : Int))) : gen P ρ o K := by
  refine ⟨fun cs b h => (by rw [ho] at h; cases h), .int .i64 ((2 ^ n : Nat) : Int), rfl, fun z hz => ?_, ?_, hk⟩
  · rw [ho] at hz
    have hz' : z = x ∨ z = y := by simpa [Op.operands] using hz
    rcases hz' with rfl | rfl
    · exact ⟨.int .i64 1, by simp [hx, toVal]⟩
    · exact ⟨.int .i64 n, by simp [hy, toVal]⟩
  · have hx' : (((ρ x).bind toVal).getD undef) = .int .i64 1 := by simp [hx, toVal]
    have hy' : (((ρ y).bind toVal).getD undef) = .int .i64 n := by simp [hy, toVal]
    have p := pow_le30 h
    unfold execOp
    rw [ho]
    simp only [hx', hy']
    have e : IntKind.wrap .i64 (1 * 2 ^ n) = ((2 ^ n : Nat) : Int) := by
      rw [Int.one_mul, show ((2 : Int) ^ n) = ((2 ^ n : Nat) : Int) by simp]
      generalize 2 ^ n = q at *
      exact wrap_in (by simp [IntKind.min, IntKind.max, IntKind.bits, IntKind.signed]; omega)
    have e3 : Op.shift .shl .i64 1 .i64 (n : Int) = pure (.int .i64 (IntKind.wrap .i64 (1 * 2 ^ n))) := by
      unfold Op.shift
      rw [if_neg (by omega), show min ((n : Int).toNat) (IntKind.bits .i64) = n by simp [IntKind.bits]; omega]
    have e4 : binOp .shl t (.int .i64 1) (.int .i64 n) = pure (.int .i64 (IntKind.wrap .i64 (1 * 2 ^ n))) := e3
    rw [e4, e]
    rfl
theorem gen_shr {ρ : Env} {o : Oper} {K : V → Prop} {t t2 : TypeId} {x y : Operand} {a n : Nat} {m : Int} (ho : o.op = .binOp .shr t x y t2) (hx : ρ x = some (I a)) (hy : ρ y = some (I m)) (hm : m = n) (h : n ≤ 30) (hk : K (I ((a / 2 ^ n : Nat) : Int))) : gen P ρ o K := by
  subst hm
  refine ⟨fun cs b h => (by rw [ho] at h; cases h), .int .i64 ((a / 2 ^ n : Nat) : Int), rfl, fun z hz => ?_, ?_, hk⟩
  · rw [ho] at hz
    have hz' : z = x ∨ z = y := by simpa [Op.operands] using hz
    rcases hz' with rfl | rfl
    · exact ⟨.int .i64 a, by simp [hx, toVal]⟩
    · exact ⟨.int .i64 n, by simp [hy, toVal]⟩
  · have hx' : (((ρ x).bind toVal).getD undef) = .int .i64 a := by simp [hx, toVal]
    have hy' : (((ρ y).bind toVal).getD undef) = .int .i64 n := by simp [hy, toVal]
    unfold execOp
    rw [ho]
    simp only [hx', hy']
    have e : (a : Int).fdiv (2 ^ n) = ((a / 2 ^ n : Nat) : Int) := by
      rw [show ((2 : Int) ^ n) = ((2 ^ n : Nat) : Int) by simp]
      generalize 2 ^ n = q at *
      rw [Int.fdiv_eq_ediv_of_nonneg _ (by omega)]
      simp
    have e3 : Op.shift .shr .i64 (a : Int) .i64 (n : Int) = pure (.int .i64 ((a : Int).fdiv (2 ^ n))) := by
      unfold Op.shift
      rw [if_neg (by omega), show min ((n : Int).toNat) (IntKind.bits .i64) = n by simp [IntKind.bits]; omega]
    have e4 : binOp .shr t (.int .i64 a) (.int .i64 n) = pure (.int .i64 ((a : Int).fdiv (2 ^ n))) := e3
    rw [e4, e]
    rfl
theorem and_one {a : Nat} (_h : a ≤ 1073741824) : IntKind.wrap .i64 ((BitVec.ofInt 64 (a : Int) &&& BitVec.ofInt 64 1).toNat : Int) = ((a % 2 : Nat) : Int) := by
  have e : (BitVec.ofInt 64 (a : Int) &&& BitVec.ofInt 64 1).toNat = a % 2 := by
    rw [BitVec.toNat_and, BitVec.ofInt_natCast, BitVec.toNat_ofNat]
    have e2 : (BitVec.ofInt 64 1).toNat = 2 ^ 1 - 1 := by decide
    rw [e2, Nat.and_two_pow_sub_one_eq_mod]
    omega
  rw [e]
  exact wrap_in (by simp [IntKind.min, IntKind.max, IntKind.bits, IntKind.signed]; omega)
theorem gen_and1 {ρ : Env} {o : Oper} {K : V → Prop} {t t2 : TypeId} {x y : Operand} {a : Nat} (ho : o.op = .binOp .and t x y t2) (hx : ρ x = some (I a)) (hy : ρ y = some (I 1)) (h : a ≤ 1073741824) (hk : K (I ((a % 2 : Nat) : Int))) : gen P ρ o K := by
  refine ⟨fun cs b h => (by rw [ho] at h; cases h), .int .i64 ((a % 2 : Nat) : Int), rfl, fun z hz => ?_, ?_, hk⟩
  · rw [ho] at hz
    have hz' : z = x ∨ z = y := by simpa [Op.operands] using hz
    rcases hz' with rfl | rfl
    · exact ⟨.int .i64 a, by simp [hx, toVal]⟩
    · exact ⟨.int .i64 1, by simp [hy, toVal]⟩
  · have hx' : (((ρ x).bind toVal).getD undef) = .int .i64 a := by simp [hx, toVal]
    have hy' : (((ρ y).bind toVal).getD undef) = .int .i64 1 := by simp [hy, toVal]
    unfold execOp
    rw [ho]
    simp only [hx', hy']
    have := and_one h
    show some (Next.value (.int .i64 (IntKind.wrap .i64 ((BitVec.ofInt 64 (a : Int) &&& BitVec.ofInt 64 1).toNat : Int)))) = _
    rw [this]
end
/-! ### The code of a number -/
theorem bitv_and {L n i : Nat} : bitv L n i = 2 * ((n / 2 ^ (L - 1 - i) % 2 : Nat) : Int) - 1 := by
  unfold bitv
  split <;> omega
set_option maxRecDepth 100000 in
theorem codeOf_ok {L n : Nat} (h0 : L ≤ 10) (hn : n ≤ 1024) : FnOK Tryd.prog 101 [I n, I L] (eInts (cdL L n)) [] := by
  refine fn_i hmix hT Tryd.f101 (by kernel_rfl) rfl (by kernel_rfl) ?_
  with_reducible conv => whnf
  repeat' ((first | (with_reducible refine branch_t ?_) | (with_reducible refine branch_f ?_) | (with_reducible refine branch_nt ?_) | (with_reducible refine branch_nf ?_) | (with_reducible refine branch_dec (fun _ => ?_) (fun _ => ?_)) | (with_reducible refine branch_ndec (fun _ => ?_) (fun _ => ?_)) | (with_reducible refine branch_bool (fun _ => ?_) (fun _ => ?_)) | (with_reducible refine arith_64 (by omega) ?_) | (with_reducible refine ob_i (by omega) (fun _ => ?_)) | (with_reducible refine ob_i (by unfold room; omega) (fun _ => ?_)) | (with_reducible refine ob_i (by (try simp only [toN_eq, Int.toNat_natCast] at *); (try dsimp only [toN] at *); omega) (fun _ => ?_)) | (with_reducible refine arith_64 (by (try simp only [toN_eq, Int.toNat_natCast] at *); (try dsimp only [toN] at *); omega) ?_) | (with_reducible refine ob_k rfl ?_) | ((with_reducible refine ob_k ?_ ?_); focus kernel_rfl) | (refine yield_i hmix hT rfl hL efr eps eag ebd rfl (by kernel_rfl) ?_)  | (apply call_l (first_ok (l := [_, _]) (Nat.le_of_ble_eq_true rfl)) (.cons (vm_lit _ rfl rfl (.cons (vm_int rfl) (.cons (vm_int rfl) .nil))) .nil)) | (apply call_l (first_ok (l := [_, _, _]) (Nat.le_of_ble_eq_true rfl)) (.cons (vm_lit _ rfl rfl (.cons (vm_int rfl) (.cons (vm_int rfl) (.cons (vm_int rfl) .nil)))) .nil)) | (apply call_l (first_ok (l := [_, _, _, _]) (Nat.le_of_ble_eq_true rfl)) (.cons (vm_lit _ rfl rfl (.cons (vm_int rfl) (.cons (vm_int rfl) (.cons (vm_int rfl) (.cons (vm_int rfl) .nil))))) .nil))) <;> (try (exfalso; omega; done)) <;> (with_reducible conv => whnf))
  refine loop_i hmix hT (fun k : Nat => ([(0, I n), (5, .own 0 1 0 k), (6, I ((L : Int) - 1 - k))], ⟨1, [(0, .row 1 k (fun i => I (bitv L n i)) 3)]⟩)) (fun k => k ≤ L) (fun k => L - k) (0 : Nat) (by omega) ?_ ?_
  · refine ⟨[(0, none)], rfl, ?_, ?_⟩ <;> repeat' (first | exact trivial | exact vm_p | exact vm_ptr rfl rfl rfl | exact vm_yld rfl rfl | exact vm_own rfl rfl rfl rfl | exact vm_own rfl rfl (by omega) (by omega) | exact vm_int (by omega) | exact vm_nil rfl | exact sbm_cells vmL_p | exact sbm_row rfl (fun _ _ => vm_p) | refine ⟨⟨_, rfl, ?_⟩, ?_⟩ | refine ⟨⟨_, _, _, rfl⟩, ?_⟩ | (refine sbm_loop ?_; rw [efr]) | refine sbm_cells ?_ | refine vmL.cons ?_ ?_ | exact vmL.nil | refine vm_own rfl rfl rfl ?_)
  intro k hk
  by_cases h : k < L
  · have nd : n / 2 ^ (L - 1 - k) ≤ 1024 := Nat.le_trans (Nat.div_le_self _ _) hn
    have b : bitv L n k = 2 * ((n / 2 ^ (L - 1 - k) % 2 : Nat) : Int) - 1 := bitv_and
    with_reducible conv => whnf
    repeat' ((first | (with_reducible refine branch_t ?_) | (with_reducible refine branch_f ?_) | (with_reducible refine branch_nt ?_) | (with_reducible refine branch_nf ?_) | (with_reducible refine branch_dec (fun _ => ?_) (fun _ => ?_)) | (with_reducible refine branch_ndec (fun _ => ?_) (fun _ => ?_)) | (with_reducible refine branch_bool (fun _ => ?_) (fun _ => ?_)) | (with_reducible refine arith_64 (by omega) ?_) | (with_reducible refine ob_i (by omega) (fun _ => ?_)) | (with_reducible refine ob_i (by unfold room; omega) (fun _ => ?_)) | (with_reducible refine ob_i (by (try simp only [] at *); (try dsimp only [toN] at *); omega) (fun _ => ?_)) | (with_reducible refine arith_64 (by (try simp only [] at *); (try dsimp only [toN] at *); omega) ?_) | (with_reducible refine ob_k rfl ?_) | ((with_reducible refine ob_k ?_ ?_); focus kernel_rfl) | (refine yield_i hmix hT rfl hL efr eps eag ebd rfl (by kernel_rfl) ?_) | (refine gen_shr (n := L - 1 - k) rfl rfl rfl (by omega) (by omega) ?_) | (refine gen_and1 rfl rfl rfl (by omega) ?_) | (apply call_l (first_ok (l := [_, _]) (Nat.le_of_ble_eq_true rfl)) (.cons (vm_lit _ rfl rfl (.cons (vm_int rfl) (.cons (vm_int rfl) .nil))) .nil)) | (apply call_l (first_ok (l := [_, _, _]) (Nat.le_of_ble_eq_true rfl)) (.cons (vm_lit _ rfl rfl (.cons (vm_int rfl) (.cons (vm_int rfl) (.cons (vm_int rfl) .nil)))) .nil)) | (apply call_l (first_ok (l := [_, _, _, _]) (Nat.le_of_ble_eq_true rfl)) (.cons (vm_lit _ rfl rfl (.cons (vm_int rfl) (.cons (vm_int rfl) (.cons (vm_int rfl) (.cons (vm_int rfl) .nil))))) .nil))) <;> (try (exfalso; omega; done)) <;> (with_reducible conv => whnf))
    refine ⟨k + 1, by omega, by omega, ?_⟩
    refine ⟨[(0, some 2)], rfl, ?_, ?_⟩ <;> repeat' (first | exact trivial | exact vm_p | exact vm_ptr rfl rfl rfl | exact vm_yld rfl rfl | exact vm_own rfl rfl rfl rfl | exact vm_own rfl rfl (by omega) (by omega) | exact vm_int (by omega) | exact vm_nil rfl | exact sbm_cells vmL_p | exact sbm_row rfl (fun _ _ => vm_p) | refine ⟨⟨_, rfl, ?_⟩, ?_⟩ | refine ⟨⟨_, _, _, rfl⟩, ?_⟩ | (refine sbm_loop ?_; rw [efr]) | refine sbm_cells ?_ | refine vmL.cons ?_ ?_ | exact vmL.nil | refine vm_own rfl rfl rfl ?_)
    refine sbm_row rfl fun i hi => vm_snoc (e' := fun i => I (bitv L n i)) hi (fun _ _ => vm_p) ?_
    exact vm_int b.symm
  · obtain rfl : k = L := by omega
    with_reducible conv => whnf
    repeat' ((first | (with_reducible refine branch_t ?_) | (with_reducible refine branch_f ?_) | (with_reducible refine branch_nt ?_) | (with_reducible refine branch_nf ?_) | (with_reducible refine branch_dec (fun _ => ?_) (fun _ => ?_)) | (with_reducible refine branch_ndec (fun _ => ?_) (fun _ => ?_)) | (with_reducible refine branch_bool (fun _ => ?_) (fun _ => ?_)) | (with_reducible refine arith_64 (by omega) ?_) | (with_reducible refine ob_i (by omega) (fun _ => ?_)) | (with_reducible refine ob_i (by unfold room; omega) (fun _ => ?_)) | (with_reducible refine ob_i (by (try simp only [toN_eq, Int.toNat_natCast] at *); (try dsimp only [toN] at *); omega) (fun _ => ?_)) | (with_reducible refine arith_64 (by (try simp only [toN_eq, Int.toNat_natCast] at *); (try dsimp only [toN] at *); omega) ?_) | (with_reducible refine ob_k rfl ?_) | ((with_reducible refine ob_k ?_ ?_); focus kernel_rfl) | (refine yield_i hmix hT rfl hL efr eps eag ebd rfl (by kernel_rfl) ?_)  | (apply call_l (first_ok (l := [_, _]) (Nat.le_of_ble_eq_true rfl)) (.cons (vm_lit _ rfl rfl (.cons (vm_int rfl) (.cons (vm_int rfl) .nil))) .nil)) | (apply call_l (first_ok (l := [_, _, _]) (Nat.le_of_ble_eq_true rfl)) (.cons (vm_lit _ rfl rfl (.cons (vm_int rfl) (.cons (vm_int rfl) (.cons (vm_int rfl) .nil)))) .nil)) | (apply call_l (first_ok (l := [_, _, _, _]) (Nat.le_of_ble_eq_true rfl)) (.cons (vm_lit _ rfl rfl (.cons (vm_int rfl) (.cons (vm_int rfl) (.cons (vm_int rfl) (.cons (vm_int rfl) .nil))))) .nil))) <;> (try (exfalso; omega; done)) <;> (with_reducible conv => whnf))
    refine ret0 (vm_fr rfl rfl (cdL_len _ _).symm (Nat.le_refl _) fun i hi => ?_)
    rw [cdL_at (by rw [cdL_len] at hi; exact hi)]
    exact vm_p
end Go.Proofs.YtaejdonacadpkaaDoor
