/-
  Loops at whose exit the state may be taken for another one (own rows are frozen there).
  Conditions: none.
-/
import Derived.Test.YtaejdonacadpkabDoorFu
namespace Go.Proofs.YtaejdonacadpkabDoor.Fx
open Go.RowKit
theorem loop_x {P : Program} {T : Tbl} (hm : P.follows .mixedOrders = true) (hT : ∀ t i, tget T t = some i → tiOf P t = some i) {c : Code} {fr : Fr} {H : SW} {K : Exit → Fr → SW → Prop} {α : Type} (st : α → Fr × SW) (I : α → Prop) (μ : α → Nat) (x0 : α) (h0 : I x0) (h1 : Sub fr H (st x0))
    (round : ∀ x, I x → codeW P T c (st x).1 (st x).2 fun e fr' H' => match e with
      | .normal => ∃ y, I y ∧ μ y < μ x ∧ Sub fr' H' (st y)
      | .ret => K .ret fr' H'
      | .exit id => ∃ s : Fr × SW, Sub fr' H' s ∧ K (.exit id) s.1 s.2
      | _ => False) : loopW P T c fr H K := by
  refine ⟨?_⟩
  intro n rdm hc w0 rd out m b hr ha hw Q hQ
  obtain ⟨m1, e1, e2, e3, e4⟩ := h1.ok ha hw
  refine wpIn_loop_rounds (μ x0 + 1) ?_
  have key : ∀ (k : Nat) (x : α) (m1 : Mem) (b1 : Act), μ x < k → I x → Kp m m1 → AR m1 n out (st x).1 b1 → WR w0 m1 (st x).2 → Code.roundsIn (FW rd) 0 P c Q k b1 m1.W := by
    intro k
    induction k with
    | zero => intro x m1 b1 h; omega
    | succ k ih =>
      intro x m1 b1 hlt hI hF ha1 hw1
      rw [roundsIn_succ]
      refine codeW_ok hm hT c _ _ _ hc (round x hI) w0 rd out m1 b1 hr ha1 hw1 _ fun e fr2 H2 m2 b2 k2 x1 x2 x3 => ?_
      cases e with
      | normal =>
        obtain ⟨y, y1, y2, y3⟩ := k2
        obtain ⟨m3, f1, f2, f3, f4⟩ := y3.ok x2 x3
        show Code.roundsIn (FW rd) 0 P c Q k b2 m2.W
        rw [← f1]
        exact ih y m3 b2 (by omega) y1 ((hF.trans x1).trans f2) f3 f4
      | ret => exact hQ .ret fr2 H2 m2 b2 k2 (hF.trans x1) x2 x3
      | exit id =>
        obtain ⟨s, y3, y4⟩ := k2
        obtain ⟨m3, f1, f2, f3, f4⟩ := y3.ok x2 x3
        have := hQ (.exit id) s.1 s.2 m3 b2 y4 ((hF.trans x1).trans f2) f3 f4
        rw [f1] at this
        exact this
      | goto l => exact k2.elim
      | panic c => exact k2.elim
      | outgrown => exact k2.elim
  rw [← e1]
  exact key _ x0 m1 b (by omega) h0 e2 e3 e4
end Go.Proofs.YtaejdonacadpkabDoor.Fx
