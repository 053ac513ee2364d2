/-
  Comparisons of structs, further shapes.
  Conditions: none.
-/
import Derived.Test.YtaejdonacadpkabDoorFs
namespace Go.Proofs.YtaejdonacadpkabDoor.Fx
open Go.RowKit
section
variable {P : Program}
theorem gen_eqBv {ρ : Env} {o : Oper} {K : V → Prop} {t t2 : TypeId} {x y : Operand} {a1 a2 : Bool} (ho : o.op = .binOp .eql t x y t2) (hx : ρ x = some (.sc (Value.bool a1))) (hy : ρ y = some (.sc (Value.bool a2))) (hs : isLfB P t = true)
    (hg : P.eqGuardType P.depth t = false) (he : eqB P 100 t [(Value.bool a1)] [(Value.bool a2)] = true) (h : K (B (decide (a1 = a2)))) : gen P ρ o K :=
  gen_eqB ho hx hy hs hg he (fun e => by rw [decide_eq_true e] at h; exact h) (fun e => by rw [decide_eq_false e] at h; exact h)
theorem gen_eq3 {ρ : Env} {o : Oper} {K : V → Prop} {t t2 : TypeId} {x y : Operand} {a b c a' b' c' : Int} (ho : o.op = .binOp .eql t x y t2) (hx : ρ x = some (.agg [I a, I b, I c])) (hy : ρ y = some (.agg [I a', I b', I c'])) (hs : isStB P t = true)
    (hg : P.eqGuardType P.depth t = false) (he : eqB P 100 t [.int .i64 a, .int .i64 b, .int .i64 c] [.int .i64 a', .int .i64 b', .int .i64 c'] = true) (h1 : a = a' ∧ b = b' ∧ c = c' → K (B true)) (h2 : ¬ (a = a' ∧ b = b' ∧ c = c') → K (B false)) : gen P ρ o K :=
  gen_eql ho hx hy rfl rfl hs hg he (fun h => h1 (by simpa using h)) (fun h => h2 (by simpa using h))
theorem gen_eq4 {ρ : Env} {o : Oper} {K : V → Prop} {t t2 : TypeId} {x y : Operand} {a b c d a' b' c' d' : Int} (ho : o.op = .binOp .eql t x y t2) (hx : ρ x = some (.agg [I a, I b, I c, I d])) (hy : ρ y = some (.agg [I a', I b', I c', I d'])) (hs : isStB P t = true)
    (hg : P.eqGuardType P.depth t = false) (he : eqB P 100 t [.int .i64 a, .int .i64 b, .int .i64 c, .int .i64 d] [.int .i64 a', .int .i64 b', .int .i64 c', .int .i64 d'] = true) (h1 : a = a' ∧ b = b' ∧ c = c' ∧ d = d' → K (B true)) (h2 : ¬ (a = a' ∧ b = b' ∧ c = c' ∧ d = d') → K (B false)) : gen P ρ o K :=
  gen_eql ho hx hy rfl rfl hs hg he (fun h => h1 (by simpa using h)) (fun h => h2 (by simpa using h))
theorem gen_eqBii {ρ : Env} {o : Oper} {K : V → Prop} {t t2 : TypeId} {x y : Operand} {p : Bool} {a b a' b' : Int} (ho : o.op = .binOp .eql t x y t2) (hx : ρ x = some (.agg [B p, I a, I b])) (hy : ρ y = some (.agg [B p, I a', I b'])) (hs : isStB P t = true)
    (hg : P.eqGuardType P.depth t = false) (he : eqB P 100 t [.bool p, .int .i64 a, .int .i64 b] [.bool p, .int .i64 a', .int .i64 b'] = true) (h1 : a = a' ∧ b = b' → K (B true)) (h2 : ¬ (a = a' ∧ b = b') → K (B false)) : gen P ρ o K :=
  gen_eql ho hx hy rfl rfl hs hg he (fun h => h1 (by simpa using h)) (fun h => h2 (by simpa using h))
theorem gen_ne4 {ρ : Env} {o : Oper} {K : V → Prop} {t t2 : TypeId} {x y : Operand} {a b c d a' b' c' d' : Int} (ho : o.op = .binOp .neq t x y t2) (hx : ρ x = some (.agg [I a, I b, I c, I d])) (hy : ρ y = some (.agg [I a', I b', I c', I d'])) (hs : isStB P t = true)
    (hg : P.eqGuardType P.depth t = false) (he : eqB P 100 t [.int .i64 a, .int .i64 b, .int .i64 c, .int .i64 d] [.int .i64 a', .int .i64 b', .int .i64 c', .int .i64 d'] = true) (h1 : a = a' ∧ b = b' ∧ c = c' ∧ d = d' → K (B false)) (h2 : ¬ (a = a' ∧ b = b' ∧ c = c' ∧ d = d') → K (B true)) : gen P ρ o K :=
  gen_neq ho hx hy rfl rfl hs hg he (fun h => h1 (by simpa using h)) (fun h => h2 (by simpa using h))
theorem gen_neBii {ρ : Env} {o : Oper} {K : V → Prop} {t t2 : TypeId} {x y : Operand} {p : Bool} {a b a' b' : Int} (ho : o.op = .binOp .neq t x y t2) (hx : ρ x = some (.agg [B p, I a, I b])) (hy : ρ y = some (.agg [B p, I a', I b'])) (hs : isStB P t = true)
    (hg : P.eqGuardType P.depth t = false) (he : eqB P 100 t [.bool p, .int .i64 a, .int .i64 b] [.bool p, .int .i64 a', .int .i64 b'] = true) (h1 : a = a' ∧ b = b' → K (B false)) (h2 : ¬ (a = a' ∧ b = b') → K (B true)) : gen P ρ o K :=
  gen_neq ho hx hy rfl rfl hs hg he (fun h => h1 (by simpa using h)) (fun h => h2 (by simpa using h))
end
end Go.Proofs.YtaejdonacadpkabDoor.Fx
