/-
  The least of three numbers.
  Conditions: none.
-/
import Derived.Test.YtpfknijmipklaaaFs
namespace Go.Proofs.Ytpfknijmipklaaa.Fx
open Go.RowKit
section
variable {P : Program}
theorem gen_min3 {ρ : Env} {o : Oper} {K : V → Prop} {x y z : Operand} {ts : Array TypeId} {a b d : Int} (ho : o.op = .call ⟨.builtin .min, #[x, y, z], ts⟩) (hx : ρ x = some (.sc (.int .i64 a))) (hy : ρ y = some (.sc (.int .i64 b))) (hz : ρ z = some (.sc (.int .i64 d)))
    (hk : K (.sc (.int .i64 (min (min a b) d)))) : gen P ρ o K := by
  refine ⟨fun cs b h => (by rw [ho] at h; cases h), .int .i64 (min (min a b) d), rfl, fun w hw => ?_, ?_, hk⟩
  · rw [ho] at hw
    have hw' : w = x ∨ w = y ∨ w = z := by simpa [Op.operands, Call.operands] using hw
    rcases hw' with rfl | rfl | rfl
    · exact ⟨.int .i64 a, by simp [hx, toVal]⟩
    · exact ⟨.int .i64 b, by simp [hy, toVal]⟩
    · exact ⟨.int .i64 d, by simp [hz, toVal]⟩
  · have hx' : (((ρ x).bind toVal).getD undef) = .int .i64 a := by simp [hx, toVal]
    have hy' : (((ρ y).bind toVal).getD undef) = .int .i64 b := by simp [hy, toVal]
    have hz' : (((ρ z).bind toVal).getD undef) = .int .i64 d := by simp [hz, toVal]
    have e1 : (if b < a then b else a) = min a b := by omega
    have e2 : (if d < min a b then d else min a b) = min (min a b) d := by omega
    unfold execOp
    rw [ho]
    simp [resolve, invoke, builtin, Builtin.min_, Builtin.min2, hx', hy', hz', e1, e2, srun0_pure]
end
end Go.Proofs.Ytpfknijmipklaaa.Fx
