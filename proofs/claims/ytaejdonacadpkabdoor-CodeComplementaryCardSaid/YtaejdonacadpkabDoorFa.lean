/-
  Arrays of four numbers, compared.
  Conditions: none.
-/
import Derived.Test.YtaejdonacadpkabDoorFs
namespace Go.Proofs.YtaejdonacadpkabDoor.Fx
open Go.RowKit
section
variable {P : Program}
theorem part_int {t : TypeId} (ht : P.underlying t = some (.int .i64)) {xs : Array Value} {o : Nat} {v : Value} (h : xs[o]? = some v) : srun0 P (part t xs o) = some v := by
  unfold part isAgg
  rw [srun0_bind, srun0_bind, srun0_underlying ht]
  simp only [Option.bind_some, srun0_pure, Bool.false_eq_true, if_false]
  rw [h]
  rfl
theorem leaf_int {d : Nat} {t : TypeId} (ht : P.underlying t = some (.int .i64)) (a b : Int) : srun0 P (Op.equalIn (d + 1) t (.int .i64 a) (.int .i64 b)) = some (decide (a = b)) := by
  obtain ⟨x, h1, h2⟩ := leaf_eq (d := d) (u := .int .i64 a) (v := .int .i64 b) ht rfl
  rw [h1]
  congr 1
  cases x with
  | true => have := h2.1 rfl; injection this with _ this; simp [this]
  | false => exact (decide_eq_false fun e => by have := h2.2 (by rw [e]); cases this).symm
theorem equal_arr4 {d : Nat} {t e : TypeId} {inf : TypeInfo} (ht : P.underlying t = some (.array 4 e)) (he : P.underlying e = some (.int .i64)) (hi : P.info? e = some inf) (hs : inf.size = 1) (a0 a1 a2 a3 b0 b1 b2 b3 : Int) :
    srun0 P (Op.equalIn (d + 2) t (.agg #[.int .i64 a0, .int .i64 a1, .int .i64 a2, .int .i64 a3]) (.agg #[.int .i64 b0, .int .i64 b1, .int .i64 b2, .int .i64 b3])) = some (decide (a0 = b0 ∧ a1 = b1 ∧ a2 = b2 ∧ a3 = b3)) := by
  rw [Op.equalIn, srun0_bind, srun0_underlying ht]
  simp only [Option.bind_some]
  rw [srun0_bind, srun0_size hi, hs]
  simp only [Option.bind_some]
  have g : ∀ (x0 x1 x2 x3 : Int) (o : Nat) (v : Value), #[Value.int .i64 x0, .int .i64 x1, .int .i64 x2, .int .i64 x3][o]? = some v → srun0 P (part e #[Value.int .i64 x0, .int .i64 x1, .int .i64 x2, .int .i64 x3] o) = some v := fun _ _ _ _ _ _ h => part_int he h
  have p := fun (x0 x1 x2 x3 : Int) => g x0 x1 x2 x3 0 _ rfl
  have q := fun (x0 x1 x2 x3 : Int) => g x0 x1 x2 x3 1 _ rfl
  have r := fun (x0 x1 x2 x3 : Int) => g x0 x1 x2 x3 2 _ rfl
  have s := fun (x0 x1 x2 x3 : Int) => g x0 x1 x2 x3 3 _ rfl
  have l := fun (x y : Int) => leaf_int (d := d) he x y
  rw [srun0_bind]
  simp only [Std.Legacy.Range.forIn_eq_forIn_range', Std.Legacy.Range.size]
  have hr : List.range' 0 ((4 - 0 + 1 - 1) / 1) 1 = [0, 1, 2, 3] := by decide
  rw [hr]
  simp only [List.forIn_cons, List.forIn_nil, srun0_bind, Nat.mul_one, p, Option.bind_some]
  by_cases c0 : a0 = b0
  · by_cases c1 : a1 = b1
    · by_cases c2 : a2 = b2
      · by_cases c3 : a3 = b3
        · simp [c0, c1, c2, c3, srun0_pure, srun0_bind, q, r, s, l]
        · simp [c0, c1, c2, c3, srun0_pure, srun0_bind, q, r, s, l]
      · simp [c0, c1, c2, srun0_pure, srun0_bind, q, r, l]
    · simp [c0, c1, srun0_pure, srun0_bind, q, l]
  · simp [c0, srun0_pure, l]
theorem gen_eqA {ρ : Env} {o : Oper} {K : V → Prop} {neg : Bool} {t t2 e : TypeId} {inf : TypeInfo} {x y : Operand} {a0 a1 a2 a3 b0 b1 b2 b3 : Int} (ho : o.op = .binOp (if neg then .neq else .eql) t x y t2) (hx : ρ x = some (.agg [I a0, I a1, I a2, I a3])) (hy : ρ y = some (.agg [I b0, I b1, I b2, I b3]))
    (hg : P.eqGuardType P.depth t = false) (ht : P.underlying t = some (.array 4 e)) (he : P.underlying e = some (.int .i64)) (hi : P.info? e = some inf) (hs : inf.size = 1) (hk : K (B (if neg then !decide (a0 = b0 ∧ a1 = b1 ∧ a2 = b2 ∧ a3 = b3) else decide (a0 = b0 ∧ a1 = b1 ∧ a2 = b2 ∧ a3 = b3)))) : gen P ρ o K := by
  have hx' : (((ρ x).bind toVal).getD undef) = .agg #[.int .i64 a0, .int .i64 a1, .int .i64 a2, .int .i64 a3] := by simp [hx, toVal, scs]
  have hy' : (((ρ y).bind toVal).getD undef) = .agg #[.int .i64 b0, .int .i64 b1, .int .i64 b2, .int .i64 b3] := by simp [hy, toVal, scs]
  have h3 : srun0 P (Op.equal t (.agg #[.int .i64 a0, .int .i64 a1, .int .i64 a2, .int .i64 a3]) (.agg #[.int .i64 b0, .int .i64 b1, .int .i64 b2, .int .i64 b3])) = some (decide (a0 = b0 ∧ a1 = b1 ∧ a2 = b2 ∧ a3 = b3)) := equal_arr4 (d := 9998) ht he hi hs _ _ _ _ _ _ _ _
  refine ⟨fun cs b h => (by rw [ho] at h; cases h), .bool (if neg then !decide (a0 = b0 ∧ a1 = b1 ∧ a2 = b2 ∧ a3 = b3) else decide (a0 = b0 ∧ a1 = b1 ∧ a2 = b2 ∧ a3 = b3)), rfl, fun z hz => ?_, ?_, hk⟩
  · rw [ho] at hz
    have hz' : z = x ∨ z = y := by simpa [Op.operands] using hz
    rcases hz' with rfl | rfl
    · exact ⟨.agg #[.int .i64 a0, .int .i64 a1, .int .i64 a2, .int .i64 a3], by simp [hx, toVal, scs]⟩
    · exact ⟨.agg #[.int .i64 b0, .int .i64 b1, .int .i64 b2, .int .i64 b3], by simp [hy, toVal, scs]⟩
  · unfold execOp
    rw [ho]
    have hgd : ∀ (u v : Value) (why : Unsupported), srun0 P (program >>= fun a => program >>= fun b => if (!a.eqGuardType b.depth t) = true then pure () else do
        let z ← Op.eqGuardIn Op.maxDepth t u v
        if z = true then unsupported why else pure ()) = some () := fun u v why => by
      show srun0 P (if (!P.eqGuardType P.depth t) = true then _ else _) = _
      rw [hg]
      rfl
    cases neg
    · simp only [Bool.false_eq_true, if_false, hx', hy', eqGuard, binOp]
      simp only [srun0_bind, h3, srun0_pure]
      rw [if_neg (by simp), hgd]
      rfl
    · simp only [if_true, hx', hy', eqGuard, binOp]
      simp only [srun0_bind, h3, srun0_pure]
      rw [if_neg (by simp), hgd]
      rfl
end
end Go.Proofs.YtaejdonacadpkabDoor.Fx
