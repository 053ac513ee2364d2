/-
  Doubles and complex numbers in a walk: whole numbers, exact.
  Conditions: none.
-/
import Derived.Test.YtaejdonacadpkabDoorFs
import Derived.Test.YtaejdonacadpkabDoorFl
namespace Go.Proofs.YtaejdonacadpkabDoor.Fx
open Go.RowKit
section
variable {P : Program}
theorem srun0_farith {op : BinOp} {k : FloatKind} {x y r : Nat} (h : floatBits op k x y = some r) : srun0 P (Op.floatArith op k x y) = some (.float k r) := by
  unfold floatBits at h
  cases op <;> simp only at h <;> first | (cases h; done) | skip
  all_goals
    unfold Op.floatArith
    simp only []
    rw [srun0_bind, srun0_pure, Option.bind_some, h]
    exact srun0_pure _
theorem srun0_carith {op : BinOp} {k : FloatKind} {x y r : Nat} (h : floatBits op k x y = some r) : srun0 P (Op.Complex.arith op k x y) = some r := by
  unfold Op.Complex.arith
  rw [srun0_bind, srun0_farith h]
  rfl
@[reducible] def Cx (a b : Nat) : V := .sc (.complex .f64 a b)
theorem gen_two {ρ : Env} {o : Oper} {K : V → Prop} {op : BinOp} {t t2 : TypeId} {x y : Operand} {u v w : Value} (ho : o.op = .binOp op t x y t2) (hx : ρ x = some (.sc u)) (hy : ρ y = some (.sc v)) (hw : w.oneCell' = true)
    (h : srun0 P (execOp (fun z => (((ρ z).bind toVal).getD undef)) o) = some (.value w)) (hk : K (.sc w)) : gen P ρ o K := by
  refine ⟨fun cs b h => (by rw [ho] at h; cases h), w, hw, fun z hz => ?_, h, hk⟩
  rw [ho] at hz
  have hz' : z = x ∨ z = y := by simpa [Op.operands] using hz
  rcases hz' with rfl | rfl
  · exact ⟨u, by simp [hx, toVal]⟩
  · exact ⟨v, by simp [hy, toVal]⟩
theorem gen_one {ρ : Env} {o : Oper} {K : V → Prop} {x : Operand} {u w : Value} (ho : ∀ z ∈ o.op.operands, z = x) (hs : ∀ cs b, o.op ≠ .select cs b) (hx : ρ x = some (.sc u)) (hw : w.oneCell' = true)
    (h : srun0 P (execOp (fun z => (((ρ z).bind toVal).getD undef)) o) = some (.value w)) (hk : K (.sc w)) : gen P ρ o K := by
  refine ⟨hs, w, hw, fun z hz => ?_, h, hk⟩
  rw [ho z hz]
  exact ⟨u, by simp [hx, toVal]⟩
theorem gen_csum {ρ : Env} {o : Oper} {K : V → Prop} {t t2 : TypeId} {x y : Operand} {a b c d : Nat} {n m p q : Int} (ho : o.op = .binOp .add t x y t2) (hx : ρ x = some (Cx a b)) (hy : ρ y = some (Cx c d))
    (ha : Rep a n) (hb : Rep b m) (hc : Rep c p) (hd : Rep d q) (h : -9007199254740992 < n + p ∧ n + p < 9007199254740992 ∧ -9007199254740992 < m + q ∧ m + q < 9007199254740992) (hk : K (Cx (fadd a c) (fadd b d))) : gen P ρ o K := by
  have hx' : (((ρ x).bind toVal).getD undef) = .complex .f64 a b := by simp [hx, toVal]
  have hy' : (((ρ y).bind toVal).getD undef) = .complex .f64 c d := by simp [hy, toVal]
  refine gen_two ho hx hy rfl ?_ hk
  unfold execOp
  rw [ho]
  simp only [hx', hy']
  rw [srun0_bind, srun0_bind]
  rw [show srun0 P (eqGuard .add t x y (.complex .f64 a b) (.complex .f64 c d)) = some () from rfl, Option.bind_some]
  unfold binOp
  simp only [ne_eq, not_true_eq_false, if_false]
  unfold Op.complexOp
  simp only []
  rw [srun0_bind, srun0_carith (add_ok ha hc h.1 h.2.1).1, Option.bind_some, srun0_bind, srun0_carith (add_ok hb hd h.2.2.1 h.2.2.2).1, Option.bind_some]
  rfl
theorem gen_csub {ρ : Env} {o : Oper} {K : V → Prop} {t t2 : TypeId} {x y : Operand} {a b c d : Nat} {n m p q : Int} (ho : o.op = .binOp .sub t x y t2) (hx : ρ x = some (Cx a b)) (hy : ρ y = some (Cx c d))
    (ha : Rep a n) (hb : Rep b m) (hc : Rep c p) (hd : Rep d q) (h : -9007199254740992 < n - p ∧ n - p < 9007199254740992 ∧ -9007199254740992 < m - q ∧ m - q < 9007199254740992) (hk : K (Cx (fsub a c) (fsub b d))) : gen P ρ o K := by
  have hx' : (((ρ x).bind toVal).getD undef) = .complex .f64 a b := by simp [hx, toVal]
  have hy' : (((ρ y).bind toVal).getD undef) = .complex .f64 c d := by simp [hy, toVal]
  refine gen_two ho hx hy rfl ?_ hk
  unfold execOp
  rw [ho]
  simp only [hx', hy']
  rw [srun0_bind, srun0_bind]
  rw [show srun0 P (eqGuard .sub t x y (.complex .f64 a b) (.complex .f64 c d)) = some () from rfl, Option.bind_some]
  unfold binOp
  simp only [ne_eq, not_true_eq_false, if_false]
  unfold Op.complexOp
  simp only []
  rw [srun0_bind, srun0_carith (sub_ok ha hc h.1 h.2.1).1, Option.bind_some, srun0_bind, srun0_carith (sub_ok hb hd h.2.2.1 h.2.2.2).1, Option.bind_some]
  rfl
def mulR (a b c d : Nat) : Nat := fsub (fmul a c) (fmul b d)
def mulI (a b c d : Nat) : Nat := fadd (fmul a d) (fmul b c)
def lim (n : Int) : Prop := -9007199254740992 < n ∧ n < 9007199254740992
theorem rep_mulR {a b c d : Nat} {n m p q : Int} (ha : Rep a n) (hb : Rep b m) (hc : Rep c p) (hd : Rep d q) (h1 : lim (n * p)) (h2 : lim (m * q)) (h3 : lim (n * p - m * q)) : Rep (mulR a b c d) (n * p - m * q) :=
  (sub_ok (mul_ok ha hc h1.1 h1.2).2 (mul_ok hb hd h2.1 h2.2).2 h3.1 h3.2).2
theorem rep_mulI {a b c d : Nat} {n m p q : Int} (ha : Rep a n) (hb : Rep b m) (hc : Rep c p) (hd : Rep d q) (h1 : lim (n * q)) (h2 : lim (m * p)) (h3 : lim (n * q + m * p)) : Rep (mulI a b c d) (n * q + m * p) :=
  (add_ok (mul_ok ha hd h1.1 h1.2).2 (mul_ok hb hc h2.1 h2.2).2 h3.1 h3.2).2
theorem gen_cmul {ρ : Env} {o : Oper} {K : V → Prop} {t t2 : TypeId} {x y : Operand} {a b c d : Nat} {n m p q : Int} (ho : o.op = .binOp .mul t x y t2) (hx : ρ x = some (Cx a b)) (hy : ρ y = some (Cx c d))
    (ha : Rep a n) (hb : Rep b m) (hc : Rep c p) (hd : Rep d q) (h : (lim (n * p) ∧ lim (m * q) ∧ lim (n * p - m * q)) ∧ lim (n * q) ∧ lim (m * p) ∧ lim (n * q + m * p)) (hk : K (Cx (mulR a b c d) (mulI a b c d))) : gen P ρ o K := by
  have hx' : (((ρ x).bind toVal).getD undef) = .complex .f64 a b := by simp [hx, toVal]
  have hy' : (((ρ y).bind toVal).getD undef) = .complex .f64 c d := by simp [hy, toVal]
  obtain ⟨⟨l1, l2, l3⟩, l4, l5, l6⟩ := h
  refine gen_two ho hx hy rfl ?_ hk
  unfold execOp
  rw [ho]
  simp only [hx', hy']
  rw [srun0_bind, srun0_bind]
  rw [show srun0 P (eqGuard .mul t x y (.complex .f64 a b) (.complex .f64 c d)) = some () from rfl, Option.bind_some]
  unfold binOp
  simp only [ne_eq, not_true_eq_false, if_false]
  unfold Op.complexOp Op.Complex.conv Op.Complex.product Op.Complex.mul Op.Complex.sub Op.Complex.add
  simp only [if_true, srun0_bind, srun0_pure, Option.bind_some, beq_self_eq_true]
  rw [srun0_carith (mul_ok ha hc l1.1 l1.2).1, Option.bind_some, srun0_carith (mul_ok hb hd l2.1 l2.2).1, Option.bind_some, srun0_carith (sub_ok (mul_ok ha hc l1.1 l1.2).2 (mul_ok hb hd l2.1 l2.2).2 l3.1 l3.2).1, Option.bind_some,
    srun0_carith (mul_ok ha hd l4.1 l4.2).1, Option.bind_some, srun0_carith (mul_ok hb hc l5.1 l5.2).1, Option.bind_some, srun0_carith (add_ok (mul_ok ha hd l4.1 l4.2).2 (mul_ok hb hc l5.1 l5.2).2 l6.1 l6.2).1]
  rfl
theorem srun0_conv {t t2 : TypeId} {d d2 : TypeDesc} {v : Value} (h1 : P.underlying t = some d) (h2 : P.underlying t2 = some d2) : srun0 P (convert t t2 v) = srun0 P (match d, d2, v with
  | _, .int k, .int _ n => Conv.intToInt k n
  | _, .float k, .int _ n => Conv.intToFloat k n
  | _, .int k, .float s b => Conv.floatToInt s b k
  | _, .float k, .float s b => Conv.floatToFloat s b k
  | _, .complex k, .complex s a b => Conv.complexToComplex s a b k
  | _, _, _ => convert t t2 v) := by
  cases d2 <;> cases v <;> first | rfl | (
    conv => lhs; unfold convert
    rw [srun0_bind, srun0_underlying h1, Option.bind_some, srun0_bind, srun0_underlying h2, Option.bind_some]
    first | done | (cases d <;> rfl))
theorem gen_conv_if {ρ : Env} {o : Oper} {K : V → Prop} {t t2 : TypeId} {x : Operand} {n : Int} {k : IntKind} {f : FloatKind} {d : TypeDesc} (ho : o.op = .convert t t2 x) (hx : ρ x = some (.sc (.int k n))) (h1 : P.underlying t = some d) (h2 : P.underlying t2 = some (.float f)) (hk : K (.sc (.float f (f.nearest n)))) : gen P ρ o K := by
  have hx' : (((ρ x).bind toVal).getD undef) = .int k n := by simp [hx, toVal]
  refine gen_one (x := x) (fun z hz => by rw [ho] at hz; simpa [Op.operands] using hz) (fun cs b h => by rw [ho] at h; cases h) hx rfl ?_ hk
  unfold execOp
  rw [ho]
  simp only [hx']
  rw [srun0_bind, srun0_conv h1 h2]
  cases d <;> rfl
theorem gen_conv_fi {ρ : Env} {o : Oper} {K : V → Prop} {t t2 : TypeId} {x : Operand} {b : Nat} {n : Int} {d : TypeDesc} (ho : o.op = .convert t t2 x) (hx : ρ x = some (.sc (.float .f64 b))) (hr : Rep b n) (h1 : P.underlying t = some d) (h2 : P.underlying t2 = some (.int .i64)) (hn : -9223372036854775808 ≤ n ∧ n ≤ 9223372036854775807)
    (hk : K (I n)) : gen P ρ o K := by
  have hx' : (((ρ x).bind toVal).getD undef) = .float .f64 b := by simp [hx, toVal]
  refine gen_one (x := x) (fun z hz => by rw [ho] at hz; simpa [Op.operands] using hz) (fun cs b h => by rw [ho] at h; cases h) hx rfl ?_ hk
  unfold execOp
  rw [ho]
  simp only [hx']
  have e := rep_int hr hn.1 hn.2
  have e2 : srun0 P (Conv.floatToInt .f64 b .i64) = some (.int .i64 n) := by
    unfold floatToIntVal at e
    unfold Conv.floatToInt
    split at e
    · rename_i q hq
      split at e
      · rename_i hb
        injection e with e
        subst e
        simp only [hq]
        rw [if_pos hb]
        rfl
      · cases e
    · cases e
  rw [srun0_bind, srun0_conv h1 h2]
  have e3 : ∀ s : Sem Value, srun0 P s = some (.int .i64 n) → ((srun0 P s).bind fun a => srun0 P (pure (.value a) : Sem Next)) = some (.value (.int .i64 n)) := fun s h => by rw [h]; rfl
  cases d <;> exact e3 _ e2
def c3264 (a : Nat) : Nat := (floatToFloatBits .f32 a .f64).getD 0
theorem srun0_ff {s k : FloatKind} {b r : Nat} (h : floatToFloatBits s b k = some r) : srun0 P (Conv.floatToFloat s b k) = some (.float k r) := by
  unfold floatToFloatBits at h
  unfold Conv.floatToFloat
  split at h
  · rename_i e; cases h; rw [if_pos e]; rfl
  · rename_i ne
    rw [if_neg ne]
    split at h
    · cases h
    · rename_i sg he; cases h; simp only [he]; rfl
    · rename_i sg m e he
      split at h
      · cases h
      · rename_i ho; cases h
        simp only [he]
        rw [if_neg ho]; rfl
theorem gen_conv_cc {ρ : Env} {o : Oper} {K : V → Prop} {t t2 : TypeId} {x : Operand} {a b : Nat} {d : TypeDesc} (ho : o.op = .convert t t2 x) (hx : ρ x = some (.sc (.complex .f32 a b))) (ha : floatToFloatBits .f32 a .f64 = some (c3264 a)) (hb : floatToFloatBits .f32 b .f64 = some (c3264 b)) (h1 : P.underlying t = some d) (h2 : P.underlying t2 = some (.complex .f64))
    (hk : K (Cx (c3264 a) (c3264 b))) : gen P ρ o K := by
  have hx' : (((ρ x).bind toVal).getD undef) = .complex .f32 a b := by simp [hx, toVal]
  refine gen_one (x := x) (fun z hz => by rw [ho] at hz; simpa [Op.operands] using hz) (fun cs b h => by rw [ho] at h; cases h) hx rfl ?_ hk
  unfold execOp
  rw [ho]
  simp only [hx']
  have e2 : srun0 P (Conv.complexToComplex .f32 a b .f64) = some (.complex .f64 (c3264 a) (c3264 b)) := by
    unfold Conv.complexToComplex
    rw [srun0_bind, srun0_ff ha, Option.bind_some]
    simp only []
    rw [srun0_bind, srun0_ff hb, Option.bind_some]
    rfl
  rw [srun0_bind, srun0_conv h1 h2]
  have e3 : ∀ s : Sem Value, srun0 P s = some (.complex .f64 (c3264 a) (c3264 b)) → ((srun0 P s).bind fun a => srun0 P (pure (.value a) : Sem Next)) = some (.value (.complex .f64 (c3264 a) (c3264 b))) := fun s h => by rw [h]; rfl
  cases d <;> exact e3 _ e2
theorem gen_complex {ρ : Env} {o : Oper} {K : V → Prop} {x y : Operand} {ts : Array TypeId} {f : FloatKind} {a b : Nat} (ho : o.op = .call ⟨.builtin .complex, #[x, y], ts⟩) (hx : ρ x = some (.sc (.float f a))) (hy : ρ y = some (.sc (.float f b))) (hk : K (.sc (.complex f a b))) : gen P ρ o K := by
  have hx' : (((ρ x).bind toVal).getD undef) = .float f a := by simp [hx, toVal]
  have hy' : (((ρ y).bind toVal).getD undef) = .float f b := by simp [hy, toVal]
  refine ⟨fun cs b h => (by rw [ho] at h; cases h), .complex f a b, rfl, fun z hz => ?_, ?_, hk⟩
  · rw [ho] at hz
    have hz' : z = x ∨ z = y := by simpa [Op.operands, Call.operands] using hz
    rcases hz' with rfl | rfl
    · exact ⟨.float f a, by simp [hx, toVal]⟩
    · exact ⟨.float f b, by simp [hy, toVal]⟩
  · have e : srun0 P (Builtin.complex_ ts o.type #[.float f a, .float f b]) = some (.complex f a b) := by cases f <;> rfl
    unfold execOp
    rw [ho]
    simp [resolve, hx', hy', invoke, builtin]
    rw [map_eq_pure_bind, srun0_bind, e]
    rfl
theorem gen_real {ρ : Env} {o : Oper} {K : V → Prop} {x : Operand} {ts : Array TypeId} {f : FloatKind} {a b : Nat} (ho : o.op = .call ⟨.builtin .real, #[x], ts⟩) (hx : ρ x = some (.sc (.complex f a b))) (hk : K (.sc (.float f a))) : gen P ρ o K := by
  have hx' : (((ρ x).bind toVal).getD undef) = .complex f a b := by simp [hx, toVal]
  refine gen_one (x := x) (fun z hz => by rw [ho] at hz; simpa [Op.operands, Call.operands] using hz) (fun cs b h => by rw [ho] at h; cases h) hx rfl ?_ hk
  have e : srun0 P (Builtin.real_ ts o.type #[.complex f a b]) = some (.float f a) := rfl
  unfold execOp
  rw [ho]
  simp [resolve, hx', invoke, builtin]
  rw [map_eq_pure_bind, srun0_bind, e]
  rfl
theorem gen_imag {ρ : Env} {o : Oper} {K : V → Prop} {x : Operand} {ts : Array TypeId} {f : FloatKind} {a b : Nat} (ho : o.op = .call ⟨.builtin .imag, #[x], ts⟩) (hx : ρ x = some (.sc (.complex f a b))) (hk : K (.sc (.float f b))) : gen P ρ o K := by
  have hx' : (((ρ x).bind toVal).getD undef) = .complex f a b := by simp [hx, toVal]
  refine gen_one (x := x) (fun z hz => by rw [ho] at hz; simpa [Op.operands, Call.operands] using hz) (fun cs b h => by rw [ho] at h; cases h) hx rfl ?_ hk
  have e : srun0 P (Builtin.imag_ ts o.type #[.complex f a b]) = some (.float f b) := rfl
  unfold execOp
  rw [ho]
  simp [resolve, hx', invoke, builtin]
  rw [map_eq_pure_bind, srun0_bind, e]
  rfl
theorem gen_negf {ρ : Env} {o : Oper} {K : V → Prop} {t : TypeId} {x : Operand} {f : FloatKind} {a : Nat} (ho : o.op = .unOp .neg t x) (hx : ρ x = some (.sc (.float f a))) (hk : K (.sc (.float f (Op.negFloat f a)))) : gen P ρ o K := by
  have hx' : (((ρ x).bind toVal).getD undef) = .float f a := by simp [hx, toVal]
  refine gen_one (x := x) (fun z hz => by rw [ho] at hz; simpa [Op.operands] using hz) (fun cs b h => by rw [ho] at h; cases h) hx rfl ?_ hk
  unfold execOp
  rw [ho]
  simp only [hx']
  rfl
/-- The parts of a wave's numbers, as singles and then as doubles. -/
theorem wave_re {n : Int} (h : n = -1 ∨ n = 0 ∨ n = 1) : floatToFloatBits .f32 (FloatKind.f32.nearest n) .f64 = some (c3264 (FloatKind.f32.nearest n)) ∧ Rep (c3264 (FloatKind.f32.nearest n)) n := by
  rcases h with rfl | rfl | rfl
  · exact ⟨by decide +kernel, true, 1, 52, by decide +kernel, rfl⟩
  · exact ⟨by decide +kernel, false, 0, 1074, by decide +kernel, rfl⟩
  · exact ⟨by decide +kernel, false, 1, 52, by decide +kernel, rfl⟩
theorem wave_im {n : Int} (h : n = -1 ∨ n = 0 ∨ n = 1) : floatToFloatBits .f32 (Op.negFloat .f32 (FloatKind.f32.nearest n)) .f64 = some (c3264 (Op.negFloat .f32 (FloatKind.f32.nearest n))) ∧ Rep (c3264 (Op.negFloat .f32 (FloatKind.f32.nearest n))) (-n) := by
  rcases h with rfl | rfl | rfl
  · exact ⟨by decide +kernel, false, 1, 52, by decide +kernel, rfl⟩
  · exact ⟨by decide +kernel, true, 0, 1074, by decide +kernel, rfl⟩
  · exact ⟨by decide +kernel, true, 1, 52, by decide +kernel, rfl⟩
end
end Go.Proofs.YtaejdonacadpkabDoor.Fx
