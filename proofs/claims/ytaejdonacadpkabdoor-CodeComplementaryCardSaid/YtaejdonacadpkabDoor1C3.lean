/-
  Chapter 1: numbers that are shifted; the document's codes of a number, its searches (by contract).
  Conditions: none.
-/
import Derived.Test.YtaejdonacadpkabDoor1C2
import Derived.Test.YtaejdonacadpkabDoor1Q
namespace Go.Proofs.YtaejdonacadpkabDoor
open Go.RowKit Fx
section
variable {P : Program}
theorem pow_le30 {n : Nat} (h : n ≤ 30) : 2 ^ n ≤ 1073741824 := Nat.pow_le_pow_right (n := 2) (by decide) h
theorem gen_shl {ρ : Env} {o : Oper} {K : V → Prop} {t t2 : TypeId} {x y : Operand} {n : Nat} (ho : o.op = .binOp .shl t x y t2) (hx : ρ x = some (I 1)) (hy : ρ y = some (I n)) (h : n ≤ 30) (hk : K (I ((2 ^ n : Nat) : Int))) : gen P ρ o K := by
  refine ⟨fun cs b h => (by rw [ho] at h; cases h), .int .i64 ((2 ^ n : Nat) : Int), rfl, fun z hz => ?_, ?_, hk⟩
  · rw [ho] at hz
    have hz' : z = x ∨ z = y := by simpa [Op.operands] using hz
    rcases hz' with rfl | rfl
    · exact ⟨.int .i64 1, by simp [hx, toVal]⟩
    · exact ⟨.int .i64 n, by simp [hy, toVal]⟩
  · have hx' : (((ρ x).bind toVal).getD undef) = .int .i64 1 := by simp [hx, toVal]
    have hy' : (((ρ y).bind toVal).getD undef) = .int .i64 n := by simp [hy, toVal]
    have p := pow_le30 h
    unfold execOp
    rw [ho]
    simp only [hx', hy']
    have e : IntKind.wrap .i64 (1 * 2 ^ n) = ((2 ^ n : Nat) : Int) := by
      rw [Int.one_mul, show ((2 : Int) ^ n) = ((2 ^ n : Nat) : Int) by simp]
      generalize 2 ^ n = q at *
      exact wrap_in (by simp [IntKind.min, IntKind.max, IntKind.bits, IntKind.signed]; omega)
    have e3 : Op.shift .shl .i64 1 .i64 (n : Int) = pure (.int .i64 (IntKind.wrap .i64 (1 * 2 ^ n))) := by
      unfold Op.shift
      rw [if_neg (by omega), show min ((n : Int).toNat) (IntKind.bits .i64) = n by simp [IntKind.bits]; omega]
    have e4 : binOp .shl t (.int .i64 1) (.int .i64 n) = pure (.int .i64 (IntKind.wrap .i64 (1 * 2 ^ n))) := e3
    rw [e4, e]
    rfl
theorem gen_shr {ρ : Env} {o : Oper} {K : V → Prop} {t t2 : TypeId} {x y : Operand} {a n : Nat} {m : Int} (ho : o.op = .binOp .shr t x y t2) (hx : ρ x = some (I a)) (hy : ρ y = some (I m)) (hm : m = n) (h : n ≤ 30) (hk : K (I ((a / 2 ^ n : Nat) : Int))) : gen P ρ o K := by
  subst hm
  refine ⟨fun cs b h => (by rw [ho] at h; cases h), .int .i64 ((a / 2 ^ n : Nat) : Int), rfl, fun z hz => ?_, ?_, hk⟩
  · rw [ho] at hz
    have hz' : z = x ∨ z = y := by simpa [Op.operands] using hz
    rcases hz' with rfl | rfl
    · exact ⟨.int .i64 a, by simp [hx, toVal]⟩
    · exact ⟨.int .i64 n, by simp [hy, toVal]⟩
  · have hx' : (((ρ x).bind toVal).getD undef) = .int .i64 a := by simp [hx, toVal]
    have hy' : (((ρ y).bind toVal).getD undef) = .int .i64 n := by simp [hy, toVal]
    unfold execOp
    rw [ho]
    simp only [hx', hy']
    have e : (a : Int).fdiv (2 ^ n) = ((a / 2 ^ n : Nat) : Int) := by
      rw [show ((2 : Int) ^ n) = ((2 ^ n : Nat) : Int) by simp]
      generalize 2 ^ n = q at *
      rw [Int.fdiv_eq_ediv_of_nonneg _ (by omega)]
      simp
    have e3 : Op.shift .shr .i64 (a : Int) .i64 (n : Int) = pure (.int .i64 ((a : Int).fdiv (2 ^ n))) := by
      unfold Op.shift
      rw [if_neg (by omega), show min ((n : Int).toNat) (IntKind.bits .i64) = n by simp [IntKind.bits]; omega]
    have e4 : binOp .shr t (.int .i64 a) (.int .i64 n) = pure (.int .i64 ((a : Int).fdiv (2 ^ n))) := e3
    rw [e4, e]
    rfl
theorem and_one {a : Nat} (_h : a ≤ 1073741824) : IntKind.wrap .i64 ((BitVec.ofInt 64 (a : Int) &&& BitVec.ofInt 64 1).toNat : Int) = ((a % 2 : Nat) : Int) := by
  have e : (BitVec.ofInt 64 (a : Int) &&& BitVec.ofInt 64 1).toNat = a % 2 := by
    rw [BitVec.toNat_and, BitVec.ofInt_natCast, BitVec.toNat_ofNat]
    have e2 : (BitVec.ofInt 64 1).toNat = 2 ^ 1 - 1 := by decide
    rw [e2, Nat.and_two_pow_sub_one_eq_mod]
    omega
  rw [e]
  exact wrap_in (by simp [IntKind.min, IntKind.max, IntKind.bits, IntKind.signed]; omega)
theorem gen_and1 {ρ : Env} {o : Oper} {K : V → Prop} {t t2 : TypeId} {x y : Operand} {a : Nat} (ho : o.op = .binOp .and t x y t2) (hx : ρ x = some (I a)) (hy : ρ y = some (I 1)) (h : a ≤ 1073741824) (hk : K (I ((a % 2 : Nat) : Int))) : gen P ρ o K := by
  refine ⟨fun cs b h => (by rw [ho] at h; cases h), .int .i64 ((a % 2 : Nat) : Int), rfl, fun z hz => ?_, ?_, hk⟩
  · rw [ho] at hz
    have hz' : z = x ∨ z = y := by simpa [Op.operands] using hz
    rcases hz' with rfl | rfl
    · exact ⟨.int .i64 a, by simp [hx, toVal]⟩
    · exact ⟨.int .i64 1, by simp [hy, toVal]⟩
  · have hx' : (((ρ x).bind toVal).getD undef) = .int .i64 a := by simp [hx, toVal]
    have hy' : (((ρ y).bind toVal).getD undef) = .int .i64 1 := by simp [hy, toVal]
    unfold execOp
    rw [ho]
    simp only [hx', hy']
    have := and_one h
    show some (Next.value (.int .i64 (IntKind.wrap .i64 ((BitVec.ofInt 64 (a : Int) &&& BitVec.ofInt 64 1).toNat : Int)))) = _
    rw [this]
end
/-! ### The code of a number -/
theorem bitv_and {L n i : Nat} : bitv L n i = 2 * ((n / 2 ^ (L - 1 - i) % 2 : Nat) : Int) - 1 := by
  unfold bitv
  split <;> omega
end Go.Proofs.YtaejdonacadpkabDoor
