/-
  Complex numbers with whole parts: their values, sums, differences and products, and the steps of a walk.
  Conditions: none.
-/
import Derived.Test.YtaejdonacadpkabDoorFy
namespace Go.Proofs.YtaejdonacadpkabDoor.Fx
open Go.RowKit
/-- The whole number for which a word stands. -/
def wv (x : Nat) : Int := match Ieee.double.read x with
  | .number s m e => fs s (m >>> (-e).toNat)
  | _ => 0
theorem rep_wv {x : Nat} {n : Int} (h : Rep x n) : wv x = n := by
  obtain ⟨s, a, k, e, rfl⟩ := h
  unfold wv
  rw [e]
  show fs s ((a <<< k) >>> (- -(k : Int)).toNat) = fs s a
  rw [show (- -(k : Int)).toNat = k by omega, Nat.shiftLeft_shiftRight]
abbrev CP := Nat × Nat
@[reducible] def cxV (z : CP) : V := Cx z.1 z.2
def cv (z : CP) : Int × Int := (wv z.1, wv z.2)
def cadd (z w : CP) : CP := (fadd z.1 w.1, fadd z.2 w.2)
def csub (z w : CP) : CP := (fsub z.1 w.1, fsub z.2 w.2)
def cmul (z w : CP) : CP := (mulR z.1 z.2 w.1 w.2, mulI z.1 z.2 w.1 w.2)
def cfl (p : Int × Int) : CP := (fl p.1, fl p.2)
/-- Both parts are whole numbers of at most a size. -/
structure CB (z : CP) (M : Int) : Prop where
  r : Rep z.1 (wv z.1)
  i : Rep z.2 (wv z.2)
  r1 : -M ≤ wv z.1 ∧ wv z.1 ≤ M
  i1 : -M ≤ wv z.2 ∧ wv z.2 ≤ M
theorem cb_of {z : CP} {n m M : Int} (h1 : Rep z.1 n) (h2 : Rep z.2 m) (h3 : -M ≤ n ∧ n ≤ M) (h4 : -M ≤ m ∧ m ≤ M) : CB z M ∧ cv z = (n, m) := by
  have e1 := rep_wv h1
  have e2 := rep_wv h2
  exact ⟨⟨by rw [e1]; exact h1, by rw [e2]; exact h2, by rw [e1]; exact h3, by rw [e2]; exact h4⟩, by unfold cv; rw [e1, e2]⟩
theorem CB.le {z : CP} {M N : Int} (h : CB z M) (hl : M ≤ N) : CB z N := ⟨h.r, h.i, ⟨by have := h.r1; omega, by have := h.r1; omega⟩, ⟨by have := h.i1; omega, by have := h.i1; omega⟩⟩
def top : Int := 1125899906842624
theorem cfl_cb {p : Int × Int} {M : Int} (h : -M ≤ p.1 ∧ p.1 ≤ M) (h2 : -M ≤ p.2 ∧ p.2 ≤ M) (hM : M ≤ top) : CB (cfl p) M ∧ cv (cfl p) = p := by
  unfold top at hM
  exact cb_of (rep_fl (by omega) (by omega)) (rep_fl (by omega) (by omega)) h h2
theorem zero_cb : CB (0, 0) 0 ∧ cv (0, 0) = (0, 0) := by
  have := read_zero false
  have e : Ieee.double.word false 0 = 0 := rfl
  rw [e] at this
  exact cb_of (n := 0) (m := 0) ⟨false, 0, 1074, this, rfl⟩ ⟨false, 0, 1074, this, rfl⟩ (by omega) (by omega)
section
variable {z w : CP} {M N : Int}
theorem cadd_cb (hz : CB z M) (hw : CB w N) (h : M + N ≤ top) : CB (cadd z w) (M + N) ∧ cv (cadd z w) = ((cv z).1 + (cv w).1, (cv z).2 + (cv w).2) := by
  unfold top at h
  have a1 := hz.r1; have a2 := hz.i1; have a3 := hw.r1; have a4 := hw.i1
  show _ ∧ cv (cadd z w) = (wv z.1 + wv w.1, wv z.2 + wv w.2)
  exact cb_of (add_ok hz.r hw.r (by omega) (by omega)).2 (add_ok hz.i hw.i (by omega) (by omega)).2 (by omega) (by omega)
theorem csub_cb (hz : CB z M) (hw : CB w N) (h : M + N ≤ top) : CB (csub z w) (M + N) ∧ cv (csub z w) = ((cv z).1 - (cv w).1, (cv z).2 - (cv w).2) := by
  unfold top at h
  have a1 := hz.r1; have a2 := hz.i1; have a3 := hw.r1; have a4 := hw.i1
  show _ ∧ cv (csub z w) = (wv z.1 - wv w.1, wv z.2 - wv w.2)
  exact cb_of (sub_ok hz.r hw.r (by omega) (by omega)).2 (sub_ok hz.i hw.i (by omega) (by omega)).2 (by omega) (by omega)
/-- A number whose parts are at most 1 together in size, or one part at most so great and the other 0. -/
structure CU (w : CP) (c : Int) : Prop where
  r : Rep w.1 (wv w.1)
  i : Rep w.2 (wv w.2)
  h : ((-c ≤ wv w.1 ∧ wv w.1 ≤ c) ∧ wv w.2 = 0) ∨ ((-c ≤ wv w.2 ∧ wv w.2 ≤ c) ∧ wv w.1 = 0)
theorem mul_lim {n p M c : Int} (h1 : -M ≤ n ∧ n ≤ M) (h2 : -c ≤ p ∧ p ≤ c) : -(M * c) ≤ n * p ∧ n * p ≤ M * c := by
  have hM : 0 ≤ M := by omega
  have hc : 0 ≤ c := by omega
  have key : (n * p).natAbs ≤ (M * c).natAbs := by
    rw [Int.natAbs_mul, Int.natAbs_mul]
    exact Nat.mul_le_mul (by omega) (by omega)
  have : 0 ≤ M * c := Int.mul_nonneg hM hc
  omega
theorem cmul_lims {c : Int} (hz : CB z M) (hw : CU w c) (h : M * c ≤ top) : (lim (wv z.1 * wv w.1) ∧ lim (wv z.2 * wv w.2) ∧ lim (wv z.1 * wv w.1 - wv z.2 * wv w.2)) ∧ lim (wv z.1 * wv w.2) ∧ lim (wv z.2 * wv w.1) ∧ lim (wv z.1 * wv w.2 + wv z.2 * wv w.1) := by
  unfold top at h
  unfold lim
  rcases hw.h with ⟨h1, h2⟩ | ⟨h1, h2⟩ <;> rw [h2] <;> simp only [Int.mul_zero, Int.sub_zero, Int.zero_sub, Int.add_zero, Int.zero_add] <;> have b1 := mul_lim hz.r1 h1 <;> have b2 := mul_lim hz.i1 h1 <;> omega
theorem cmul_cb {c : Int} (hz : CB z M) (hw : CU w c) (h : M * c ≤ top) : CB (cmul z w) (M * c) ∧ cv (cmul z w) = ((cv z).1 * (cv w).1 - (cv z).2 * (cv w).2, (cv z).1 * (cv w).2 + (cv z).2 * (cv w).1) := by
  have hl := cmul_lims hz hw h
  show _ ∧ cv (cmul z w) = (wv z.1 * wv w.1 - wv z.2 * wv w.2, wv z.1 * wv w.2 + wv z.2 * wv w.1)
  refine cb_of (rep_mulR hz.r hz.i hw.r hw.i hl.1.1 hl.1.2.1 hl.1.2.2) (rep_mulI hz.r hz.i hw.r hw.i hl.2.1 hl.2.2.1 hl.2.2.2) ?_ ?_
  · rcases hw.h with ⟨h1, h2⟩ | ⟨h1, h2⟩ <;> rw [h2] <;> simp only [Int.mul_zero, Int.sub_zero, Int.zero_sub] <;> have b1 := mul_lim hz.r1 h1 <;> have b2 := mul_lim hz.i1 h1 <;> omega
  · rcases hw.h with ⟨h1, h2⟩ | ⟨h1, h2⟩ <;> rw [h2] <;> simp only [Int.mul_zero, Int.add_zero, Int.zero_add] <;> have b1 := mul_lim hz.r1 h1 <;> have b2 := mul_lim hz.i1 h1 <;> omega
theorem cu_of {n m c : Int} (h1 : Rep w.1 n) (h2 : Rep w.2 m) (h : ((-c ≤ n ∧ n ≤ c) ∧ m = 0) ∨ ((-c ≤ m ∧ m ≤ c) ∧ n = 0)) : CU w c ∧ cv w = (n, m) := by
  have e1 := rep_wv h1
  have e2 := rep_wv h2
  exact ⟨⟨by rw [e1]; exact h1, by rw [e2]; exact h2, by rw [e1, e2]; exact h⟩, by unfold cv; rw [e1, e2]⟩
end
section
variable {P : Program}
theorem gen_cadd {ρ : Env} {o : Oper} {K : V → Prop} {t t2 : TypeId} {x y : Operand} {z w : CP} {M N : Int} (ho : o.op = .binOp .add t x y t2) (hx : ρ x = some (cxV z)) (hy : ρ y = some (cxV w)) (hz : CB z M) (hw : CB w N) (h : M + N ≤ top) (hk : K (cxV (cadd z w))) : gen P ρ o K := by
  unfold top at h
  have a1 := hz.r1; have a2 := hz.i1; have a3 := hw.r1; have a4 := hw.i1
  exact gen_csum ho hx hy hz.r hz.i hw.r hw.i (by omega) hk
theorem gen_csubB {ρ : Env} {o : Oper} {K : V → Prop} {t t2 : TypeId} {x y : Operand} {z w : CP} {M N : Int} (ho : o.op = .binOp .sub t x y t2) (hx : ρ x = some (cxV z)) (hy : ρ y = some (cxV w)) (hz : CB z M) (hw : CB w N) (h : M + N ≤ top) (hk : K (cxV (csub z w))) : gen P ρ o K := by
  unfold top at h
  have a1 := hz.r1; have a2 := hz.i1; have a3 := hw.r1; have a4 := hw.i1
  exact gen_csub ho hx hy hz.r hz.i hw.r hw.i (by omega) hk
theorem gen_cmulB {ρ : Env} {o : Oper} {K : V → Prop} {t t2 : TypeId} {x y : Operand} {z w : CP} {M c : Int} (ho : o.op = .binOp .mul t x y t2) (hx : ρ x = some (cxV z)) (hy : ρ y = some (cxV w)) (hz : CB z M) (hw : CU w c) (h : M * c ≤ top) (hk : K (cxV (cmul z w))) : gen P ρ o K :=
  gen_cmul ho hx hy hz.r hz.i hw.r hw.i (cmul_lims hz hw h) hk
theorem gen_addR {ρ : Env} {o : Oper} {K : V → Prop} {t t2 : TypeId} {x y : Operand} {a b c d : Nat} {M N : Int} (ho : o.op = .binOp .add t x y t2) (hx : ρ x = some (Cx a b)) (hy : ρ y = some (Cx c d)) (hz : CB (a, b) M) (hw : CB (c, d) N) (h : M + N ≤ top) (hk : K (Cx (fadd a c) (fadd b d))) : gen P ρ o K :=
  gen_cadd (z := (a, b)) (w := (c, d)) ho hx hy hz hw h hk
theorem gen_subR {ρ : Env} {o : Oper} {K : V → Prop} {t t2 : TypeId} {x y : Operand} {a b c d : Nat} {M N : Int} (ho : o.op = .binOp .sub t x y t2) (hx : ρ x = some (Cx a b)) (hy : ρ y = some (Cx c d)) (hz : CB (a, b) M) (hw : CB (c, d) N) (h : M + N ≤ top) (hk : K (Cx (fsub a c) (fsub b d))) : gen P ρ o K :=
  gen_csubB (z := (a, b)) (w := (c, d)) ho hx hy hz hw h hk
theorem gen_mulR {ρ : Env} {o : Oper} {K : V → Prop} {t t2 : TypeId} {x y : Operand} {a b c d : Nat} {M k : Int} (ho : o.op = .binOp .mul t x y t2) (hx : ρ x = some (Cx a b)) (hy : ρ y = some (Cx c d)) (hz : CB (a, b) M) (hw : CU (c, d) k) (h : M * k ≤ top) (hk : K (Cx (mulR a b c d) (mulI a b c d))) : gen P ρ o K :=
  gen_cmulB (z := (a, b)) (w := (c, d)) ho hx hy hz hw h hk
theorem wv_comm {_a _b _c _d : Nat} {n m p q : Int} (h1 : lim (n * p)) (h2 : lim (m * q)) (h3 : lim (n * p - m * q)) : lim (p * n) ∧ lim (q * m) ∧ lim (p * n - q * m) := by
  rw [Int.mul_comm p n, Int.mul_comm q m]; exact ⟨h1, h2, h3⟩
/-- The unit stands on the left. -/
theorem gen_cmulC {ρ : Env} {o : Oper} {K : V → Prop} {t t2 : TypeId} {x y : Operand} {z w : CP} {M c : Int} (ho : o.op = .binOp .mul t x y t2) (hx : ρ x = some (cxV w)) (hy : ρ y = some (cxV z)) (hz : CB z M) (hw : CU w c) (h : M * c ≤ top) (hk : K (cxV (cmul w z))) : gen P ρ o K := by
  obtain ⟨⟨l1, l2, l3⟩, l4, l5, l6⟩ := cmul_lims hz hw h
  refine gen_cmul ho hx hy hw.r hw.i hz.r hz.i ⟨⟨by rw [Int.mul_comm]; exact l1, by rw [Int.mul_comm]; exact l2, by rw [Int.mul_comm (wv w.1), Int.mul_comm (wv w.2)]; exact l3⟩, by rw [Int.mul_comm]; exact l5, by rw [Int.mul_comm]; exact l4, by rw [Int.mul_comm (wv w.1), Int.mul_comm (wv w.2), Int.add_comm]; exact l6⟩ hk
theorem gen_mulL {ρ : Env} {o : Oper} {K : V → Prop} {t t2 : TypeId} {x y : Operand} {a b c d : Nat} {M k : Int} (ho : o.op = .binOp .mul t x y t2) (hx : ρ x = some (Cx a b)) (hy : ρ y = some (Cx c d)) (hw : CU (a, b) k) (hz : CB (c, d) M) (h : M * k ≤ top) (hk : K (Cx (mulR a b c d) (mulI a b c d))) : gen P ρ o K :=
  gen_cmulC (w := (a, b)) (z := (c, d)) ho hx hy hz hw h hk
theorem cmulC_cb {z w : CP} {M c : Int} (hz : CB z M) (hw : CU w c) (h : M * c ≤ top) : CB (cmul w z) (M * c) ∧ cv (cmul w z) = ((cv w).1 * (cv z).1 - (cv w).2 * (cv z).2, (cv w).1 * (cv z).2 + (cv w).2 * (cv z).1) := by
  obtain ⟨⟨l1, l2, l3⟩, l4, l5, l6⟩ := cmul_lims hz hw h
  show _ ∧ cv (cmul w z) = (wv w.1 * wv z.1 - wv w.2 * wv z.2, wv w.1 * wv z.2 + wv w.2 * wv z.1)
  refine cb_of (rep_mulR hw.r hw.i hz.r hz.i (by rw [Int.mul_comm]; exact l1) (by rw [Int.mul_comm]; exact l2) (by rw [Int.mul_comm (wv w.1), Int.mul_comm (wv w.2)]; exact l3)) (rep_mulI hw.r hw.i hz.r hz.i (by rw [Int.mul_comm]; exact l5) (by rw [Int.mul_comm]; exact l4) (by rw [Int.mul_comm (wv w.1), Int.mul_comm (wv w.2), Int.add_comm]; exact l6)) ?_ ?_
  · rw [Int.mul_comm (wv w.1), Int.mul_comm (wv w.2)]
    rcases hw.h with ⟨h1, h2⟩ | ⟨h1, h2⟩ <;> rw [h2] <;> simp only [Int.mul_zero, Int.sub_zero, Int.zero_sub] <;> have b1 := mul_lim hz.r1 h1 <;> have b2 := mul_lim hz.i1 h1 <;> omega
  · rw [Int.mul_comm (wv w.1), Int.mul_comm (wv w.2)]
    rcases hw.h with ⟨h1, h2⟩ | ⟨h1, h2⟩ <;> rw [h2] <;> simp only [Int.mul_zero, Int.add_zero, Int.zero_add] <;> have b1 := mul_lim hz.r1 h1 <;> have b2 := mul_lim hz.i1 h1 <;> omega
end
/-- The powers of i. -/
def t4 : Nat → Int × Int
  | 0 => (1, 0)
  | 1 => (0, 1)
  | 2 => (-1, 0)
  | _ => (0, -1)
theorem cfl_cu {p : Int × Int} {c : Int} (hc : 0 ≤ c ∧ c ≤ top) (h : ((-c ≤ p.1 ∧ p.1 ≤ c) ∧ p.2 = 0) ∨ ((-c ≤ p.2 ∧ p.2 ≤ c) ∧ p.1 = 0)) : CU (cfl p) c ∧ cv (cfl p) = p := by
  unfold top at hc
  exact cu_of (w := cfl p) (n := p.1) (m := p.2) (rep_fl (by omega) (by omega)) (rep_fl (by omega) (by omega)) h
theorem t4_cu (r : Nat) : CU (cfl (t4 r)) 1 ∧ cv (cfl (t4 r)) = t4 r := by
  refine cfl_cu (by decide) ?_
  match r with
  | 0 => decide
  | 1 => decide
  | 2 => decide
  | r + 3 => exact .inr ⟨by show -1 ≤ (-1 : Int) ∧ (-1 : Int) ≤ 1; decide, rfl⟩
end Go.Proofs.YtaejdonacadpkabDoor.Fx
