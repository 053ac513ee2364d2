/-
  Strings: length, byte, comparison, joining, part of a string.
  Conditions: none.
-/
import Derived.Test.YtkliejppigfjiaaFs
import Derived.Laws.StructEq
namespace Go.Proofs.Ytkliejppigfjiaa.Fx
open Go.RowKit
section
variable {P : Program}
theorem ob_bys {P : Program} {t t2 : TypeId} {X : Prop} (h : bysB P t t2 = true) (k : X) : ob (bysB P t t2 = true) X := ⟨h, k⟩
theorem ob_map {P : Program} {t : TypeId} {X : Prop} (h : mapIB P t = true) (k : X) : ob (mapIB P t = true) X := ⟨h, k⟩
theorem ob_ifc {P : Program} {t : TypeId} {X : Prop} (h : isIfB P t = true) (k : X) : ob (isIfB P t = true) X := ⟨h, k⟩
@[reducible] def Sg (s : ByteArray) : V := .sc (.string s)
@[reducible] def U8 (a : Int) : V := .sc (.int .u8 a)
theorem sb_b (s : ByteArray) (i : Nat) : 0 ≤ sb s i ∧ sb s i ≤ 255 := by
  unfold sb
  have := (s.data.toList.getD i 0).toNat_lt
  omega
theorem size_data (s : ByteArray) : s.size = s.data.toList.length := rfl
theorem sbget {s : ByteArray} {i : Nat} (h : i < s.size) : ∃ b : UInt8, s[i]? = some b ∧ (b.toNat : Int) = sb s i := by
  refine ⟨s[i], ByteArray.getElem?_lt' s i h, ?_⟩
  unfold sb
  have hi : i < s.data.size := h
  rw [List.getD_eq_getElem?_getD, Array.getElem?_toList, Array.getElem?_eq_getElem hi]
  rfl
theorem gen_lenS {ρ : Env} {o : Oper} {K : V → Prop} {x : Operand} {t : TypeId} {s : ByteArray} (ho : o.op = .call ⟨.builtin .len, #[x], #[t]⟩) (hx : ρ x = some (Sg s)) (h1 : P.underlying t = some .string) (hk : K (I s.size)) : gen P ρ o K := by
  refine ⟨fun cs b h => (by rw [ho] at h; cases h), goInt s.size, rfl, fun z hz => ?_, ?_, hk⟩
  · rw [ho] at hz
    have hz' : z = x := by simpa [Op.operands, Call.operands] using hz
    subst hz'
    exact ⟨.string s, by simp [hx, toVal]⟩
  · have hx' : (((ρ x).bind toVal).getD undef) = .string s := by simp [hx, toVal]
    unfold execOp
    rw [ho]
    have : srun0 P (Builtin.len_ #[t] o.type #[.string s]) = some (goInt s.size) := by
      unfold Builtin.len_
      simp only [List.getElem?_toArray, List.getElem?_cons_zero]
      rw [srun0_bind, srun0_underlying h1]
      rfl
    simp [resolve, invoke, builtin, hx']
    show srun0 P (Builtin.len_ #[t] o.type #[.string s] >>= fun a => pure (Next.value a)) = _
    rw [srun0_bind, this]
    rfl
theorem gen_ixS {ρ : Env} {o : Oper} {K : V → Prop} {x y : Operand} {t : TypeId} {s : ByteArray} {k : IntKind} {i : Int} (ho : o.op = .index t x y) (hx : ρ x = some (Sg s)) (hy : ρ y = some (.sc (.int k i))) (h1 : P.underlying t = some .string) (h : 0 ≤ i ∧ i < s.size) (hk : K (U8 (sb s (toN i)))) : gen P ρ o K := by
  refine ⟨fun cs b h => (by rw [ho] at h; cases h), .int .u8 (sb s (toN i)), rfl, fun z hz => ?_, ?_, hk⟩
  · rw [ho] at hz
    have hz' : z = x ∨ z = y := by simpa [Op.operands] using hz
    rcases hz' with rfl | rfl
    · exact ⟨.string s, by simp [hx, toVal]⟩
    · exact ⟨.int k i, by simp [hy, toVal]⟩
  · have hx' : (((ρ x).bind toVal).getD undef) = .string s := by simp [hx, toVal]
    have hy' : (((ρ y).bind toVal).getD undef) = .int k i := by simp [hy, toVal]
    unfold execOp
    rw [ho]
    simp only [hx', hy', Instr.index]
    rw [toN_eq]
    obtain ⟨b, b1, b2⟩ := sbget (s := s) (i := i.toNat) (by omega)
    simp only [srun0_bind, asIntOf, srun0_pure, Option.bind_some, srun0_underlying h1, if_pos h.1, b1, ← b2]
theorem gen_opS {ρ : Env} {o : Oper} {K : V → Prop} {op : BinOp} {t t2 : TypeId} {x y : Operand} {a b : ByteArray} {v : Value} (ho : o.op = .binOp op t x y t2) (hx : ρ x = some (Sg a)) (hy : ρ y = some (Sg b)) (hv : v.oneCell' = true) (h : srun0 P (Op.stringOp op a b) = some v) (hk : K (.sc v)) : gen P ρ o K := by
  refine ⟨fun cs b h => (by rw [ho] at h; cases h), v, hv, fun z hz => ?_, ?_, hk⟩
  · rw [ho] at hz
    have hz' : z = x ∨ z = y := by simpa [Op.operands] using hz
    rcases hz' with rfl | rfl
    · exact ⟨.string a, by simp [hx, toVal]⟩
    · exact ⟨.string b, by simp [hy, toVal]⟩
  · have hx' : (((ρ x).bind toVal).getD undef) = .string a := by simp [hx, toVal]
    have hy' : (((ρ y).bind toVal).getD undef) = .string b := by simp [hy, toVal]
    unfold execOp
    rw [ho]
    simp only [hx', hy']
    have hg : srun0 P (eqGuard op t x y (.string a) (.string b)) = some () := by cases op <;> rfl
    have hb : binOp op t (.string a) (.string b) = Op.stringOp op a b := by cases op <;> rfl
    rw [srun0_bind, srun0_bind, hg, hb]
    simp only [Option.bind_some, h]
    rfl
theorem gen_convB {ρ : Env} {o : Oper} {K : V → Prop} {t t2 : TypeId} {x : Operand} {s : ByteArray} {i : Nat} (ho : o.op = .convert t t2 x) (hx : ρ x = some (U8 (sb s i))) (h1 : P.underlying t = some (.int .u8)) (h2 : P.underlying t2 = some (.int .i64)) (hk : K (I (sb s i))) : gen P ρ o K := by
  have := sb_b s i
  refine gen_conv ho hx h1 h2 ⟨?_, ?_⟩ hk
  · show (-9223372036854775808 : Int) ≤ _; omega
  · show _ ≤ (9223372036854775807 : Int); omega
theorem bs_eq (a b : ByteArray) : (a.toList == b.toList) = decide (a = b) := by
  rw [ByteArray.toList_eq, ByteArray.toList_eq]
  by_cases e : a = b
  · subst e; simp
  · have : a.data.toList ≠ b.data.toList := fun h => e (by
      cases a; cases b
      simp only [ByteArray.mk.injEq]
      exact Array.toList_inj.1 h)
    rw [decide_eq_false e]
    exact beq_eq_false_iff_ne.2 this
theorem gen_eqS {ρ : Env} {o : Oper} {K : V → Prop} {t t2 : TypeId} {x y : Operand} {a b : ByteArray} (ho : o.op = .binOp .eql t x y t2) (hx : ρ x = some (Sg a)) (hy : ρ y = some (Sg b)) (hk : K (B (decide (a = b)))) : gen P ρ o K := by
  refine gen_opS ho hx hy rfl ?_ hk
  show some (Value.bool (a.toList == b.toList)) = _
  rw [bs_eq]
theorem gen_neS {ρ : Env} {o : Oper} {K : V → Prop} {t t2 : TypeId} {x y : Operand} {a b : ByteArray} (ho : o.op = .binOp .neq t x y t2) (hx : ρ x = some (Sg a)) (hy : ρ y = some (Sg b)) (hk : K (B (decide (a ≠ b)))) : gen P ρ o K := by
  refine gen_opS ho hx hy rfl ?_ hk
  show some (Value.bool (!(a.toList == b.toList))) = _
  rw [bs_eq]
  by_cases e : a = b <;> simp [e]
theorem gen_catS {ρ : Env} {o : Oper} {K : V → Prop} {t t2 : TypeId} {x y : Operand} {a b : ByteArray} (ho : o.op = .binOp .add t x y t2) (hx : ρ x = some (Sg a)) (hy : ρ y = some (Sg b)) (h : ((a.size + b.size : Nat) : Int) ≤ 9223372036854775807) (hk : K (Sg (a ++ b))) : gen P ρ o K := by
  refine gen_opS ho hx hy rfl ?_ hk
  unfold Op.stringOp
  have e : IntKind.i64.max = 9223372036854775807 := rfl
  simp only [e]
  rw [if_neg (by omega)]
  rfl
end
end Go.Proofs.Ytkliejppigfjiaa.Fx
