/-
  Bits of small numbers, and numbers of other sizes.
  Conditions: none.
-/
import Derived.Test.YtaejdonacadpkabDoorFs
namespace Go.Proofs.YtaejdonacadpkabDoor.Fx
open Go.RowKit
section
variable {P : Program}
theorem arith_u {n : Int} {K : V → Prop} (h : 0 ≤ n ∧ n ≤ 18446744073709551615) (hk : K (.sc (.int .u64 n))) : arith .u64 n K := arith_in (by simpa [IntKind.min, IntKind.max, IntKind.bits, IntKind.signed] using h) hk
theorem and_mask {a : Int} (h : 0 ≤ a ∧ a ≤ 4294967295) : IntKind.wrap .u64 ((BitVec.ofInt 64 a &&& BitVec.ofInt 64 4294967295).toNat : Int) = a := by
  obtain ⟨n, rfl⟩ : ∃ n : Nat, a = n := ⟨a.toNat, by omega⟩
  have e : (BitVec.ofInt 64 (n : Int) &&& BitVec.ofInt 64 4294967295).toNat = n := by
    rw [BitVec.toNat_and, BitVec.ofInt_natCast, BitVec.toNat_ofNat]
    have e2 : (BitVec.ofInt 64 4294967295).toNat = 2 ^ 32 - 1 := by decide
    rw [e2, Nat.and_two_pow_sub_one_eq_mod]
    omega
  rw [e]
  exact wrap_in (by simp [IntKind.min, IntKind.max, IntKind.bits, IntKind.signed]; omega)
theorem gen_and32 {ρ : Env} {o : Oper} {K : V → Prop} {t t2 : TypeId} {x y : Operand} {a : Int} (ho : o.op = .binOp .and t x y t2) (hx : ρ x = some (.sc (.int .u64 a))) (hy : ρ y = some (.sc (.int .u64 4294967295))) (h : 0 ≤ a ∧ a ≤ 4294967295) (hk : K (.sc (.int .u64 a))) : gen P ρ o K := by
  refine ⟨fun cs b h => (by rw [ho] at h; cases h), .int .u64 a, rfl, fun z hz => ?_, ?_, hk⟩
  · rw [ho] at hz
    have hz' : z = x ∨ z = y := by simpa [Op.operands] using hz
    rcases hz' with rfl | rfl
    · exact ⟨.int .u64 a, by simp [hx, toVal]⟩
    · exact ⟨.int .u64 4294967295, by simp [hy, toVal]⟩
  · have hx' : (((ρ x).bind toVal).getD undef) = .int .u64 a := by simp [hx, toVal]
    have hy' : (((ρ y).bind toVal).getD undef) = .int .u64 4294967295 := by simp [hy, toVal]
    unfold execOp
    rw [ho]
    simp only [hx', hy']
    have := and_mask h
    show some (Next.value (.int .u64 (IntKind.wrap .u64 ((BitVec.ofInt 64 a &&& BitVec.ofInt 64 4294967295).toNat : Int)))) = _
    rw [this]
theorem gen_shr32 {ρ : Env} {o : Oper} {K : V → Prop} {t t2 : TypeId} {x y : Operand} {a : Int} (ho : o.op = .binOp .shr t x y t2) (hx : ρ x = some (.sc (.int .u64 a))) (hy : ρ y = some (.sc (.int .u64 32))) (h : 0 ≤ a ∧ a ≤ 4294967295) (hk : K (.sc (.int .u64 0))) : gen P ρ o K := by
  refine ⟨fun cs b h => (by rw [ho] at h; cases h), .int .u64 0, rfl, fun z hz => ?_, ?_, hk⟩
  · rw [ho] at hz
    have hz' : z = x ∨ z = y := by simpa [Op.operands] using hz
    rcases hz' with rfl | rfl
    · exact ⟨.int .u64 a, by simp [hx, toVal]⟩
    · exact ⟨.int .u64 32, by simp [hy, toVal]⟩
  · have hx' : (((ρ x).bind toVal).getD undef) = .int .u64 a := by simp [hx, toVal]
    have hy' : (((ρ y).bind toVal).getD undef) = .int .u64 32 := by simp [hy, toVal]
    unfold execOp
    rw [ho]
    simp only [hx', hy']
    have e : a.fdiv (2 ^ 32) = 0 := by rw [Int.fdiv_eq_ediv_of_nonneg _ (by decide)]; omega
    show some (Next.value (.int .u64 (a.fdiv (2 ^ 32)))) = _
    rw [e]
theorem gen_conv {ρ : Env} {o : Oper} {K : V → Prop} {t t2 : TypeId} {x : Operand} {a : Int} {k k2 : IntKind} {d : TypeDesc} (ho : o.op = .convert t t2 x) (hx : ρ x = some (.sc (.int k a))) (h1 : P.underlying t = some d) (h2 : P.underlying t2 = some (.int k2)) (h : k2.min ≤ a ∧ a ≤ k2.max) (hk : K (.sc (.int k2 a))) : gen P ρ o K := by
  refine ⟨fun cs b h => (by rw [ho] at h; cases h), .int k2 a, rfl, fun z hz => ?_, ?_, hk⟩
  · rw [ho] at hz
    have hz' : z = x := by simpa [Op.operands] using hz
    subst hz'
    exact ⟨.int k a, by simp [hx, toVal]⟩
  · have hx' : (((ρ x).bind toVal).getD undef) = .int k a := by simp [hx, toVal]
    unfold execOp
    rw [ho]
    simp only [hx', convert]
    rw [srun0_bind, srun0_bind, srun0_underlying h1]
    simp only [Option.bind_some]
    rw [srun0_bind, srun0_underlying h2]
    simp only [Option.bind_some]
    cases d <;> simp [Conv.intToInt, srun0_pure, wrap_in h]
end
end Go.Proofs.YtaejdonacadpkabDoor.Fx
