/-
  One operation of the evaluator's, in the walk's terms; a region in its written order.
  Conditions: the calls are as the evaluator has them.
-/
import Derived.Test.YtkliejppigfjiaaEvEff
namespace Go.Proofs.Ytkliejppigfjiaa.Ev
open Go.RowKit

/-- No fence; a round or none. -/
abbrev FW (r : Option Nat) : Fence := { Fence.wide with round := r }
def Post (P : Program) (w0 : World) (φ : Phi) (H : SW) (v : Value) (H' : SW) : Ending → World → Prop :=
  fun e W' => ∃ v' φ', e = .returned v' ∧ Ext φ H φ' H' ∧ WR P w0 φ' H' W' ∧ VR φ' v v'
def COk (P : Program) (w0 : World) (C : Nat → List Value → SW → Option (Value × SW)) : Prop :=
  ∀ fid args H v H', C fid args H = some (v, H') → Enters P fid ∧ ∀ φ W (args' : Array Value), WR P w0 φ H W → LR φ args args'.toList → CallsIn (FW none) 0 P fid args' W (Post P w0 φ H v H')
def ROk (P : Program) (w0 : World) (R : Nat → List Value → SW → Option (Value × SW)) : Prop :=
  ∀ l args H v H', R l args H = some (v, H') → ∀ φ W (args' : Array Value) g k, WR P w0 φ H W → φ l = some (g, k) → LR φ args args'.toList →
    ∃ f tmps assign body, (Instr.yield g args').run P W = .ok (.round g f tmps assign body) W ∧ RoundIn (FW none) 0 P g f tmps assign body W (Post P w0 φ H v H')
section
variable {P : Program} {w0 : World} {φ : Phi} {H : SW} {W : World} {C R : Nat → List Value → SW → Option (Value × SW)} {r : Option Nat}
theorem eval_rel {a : SA} {b : Act} (h : AR φ a b) {x : Operand} (hx : okX x = true) : VR φ (a.eval x) (b.eval x) := by
  cases x with
  | tmp t => exact h.get t
  | const v => exact grd_self 3 v hx
  | global g => cases hx
  | func f => exact .fn rfl (fun i hx => by simp at hx) rfl fun i hx => by simp at hx
theorem okOp_rel {a : SA} {b : Act} (h : AR φ a b) {o : Oper} (ho : okOp o = true) : ∀ x ∈ o.op.operands, VR φ (a.eval x) (b.eval x) := fun x hx =>
  eval_rel h (List.all_eq_true.1 ho x (Array.mem_toList_iff.2 hx))
theorem step_defer {ρ : Operand → Value} {o : Oper} {v : Value} {H' : SW} (h : (if effect o then eop P C R ρ o H else (qop P ρ o H).map fun v => (v, H)) = some (v, H')) : ∀ c, o.op ≠ .defer c := by
  intro c hc
  simp [effect, hc, qop] at h
theorem callE_ok (hC : COk P w0 C) (hR : ROk P w0 R) (hw : WR P w0 φ H W) {ρ : Operand → Value} {o : Oper} {c : Call} {f : Operand} (ho : o.op = .call c) (hb : c.callee = .value f) {v : Value} {H' : SW} {a : Act}
    (hρ : ∀ x ∈ o.op.operands, VR φ (ρ x) (a.eval x)) (h : callF C R (ρ f) (c.args.toList.map ρ) H = some (v, H')) {K : Act → World → Prop} {Q : Exit → Act → World → Prop}
    (hK : ∀ φ' v' W', Ext φ H φ' H' → WR P w0 φ' H' W' → VR φ' v v' → K (a.put o.dst v') W') : o.uponIn (FW r) 0 P a K Q ((execOp a.eval o).run P W) := by
  have hf := hρ f (by simp [ho, Op.operands, Call.operands, hb])
  have hargs : LR φ (c.args.toList.map ρ) (c.args.toList.map a.eval) := LR.map fun x hx => hρ x (by simp [ho, Op.operands, Call.operands, hb]; exact .inr (Array.mem_toList_iff.1 hx))
  unfold callF at h
  split at h
  · rename_i fid first captured hv
    rw [hv] at hf
    split at h
    · rename_i hz0
      generalize hx : a.eval f = x at hf
      cases hf with
      | sc h' => simp [Ev.sc] at h'
      | fn hp h00 hs hh =>
        rename_i qs ys
        obtain rfl : first = #[] := Array.eq_empty_of_size_eq_zero hz0
        have hp := Array.eq_empty_of_size_eq_zero hp.symm
        subst hp
        obtain ⟨he, hc⟩ := hC _ _ _ _ _ h
        have hrun := exec_fn (P := P) (w := W) ho hb hx he
        rw [hrun, Oper.uponIn_enter]
        refine ⟨fun h => by simp [Fence.wide] at h, ?_⟩
        have := hc φ W (c.args.map a.eval ++ ys) hw (by
          rw [Array.toList_append, Array.toList_map]
          exact hargs.append (LR.ofArr hs hh))
        refine CallsIn.mono (F := FW r) this ?_
        rintro e W' ⟨v', φ', rfl, h1, h2, h3⟩
        exact hK φ' v' W' h1 h2 h3
    · cases h
  · rename_i l first captured hv
    rw [hv] at hf
    split at h
    · rename_i hz0
      generalize hx : a.eval f = x at hf
      cases hf with
      | sc h' => simp [Ev.sc] at h'
      | yld hl =>
        rename_i g k
        obtain ⟨fn, tmps, assign, body, hy, hround⟩ := hR _ _ _ _ _ h φ W (c.args.map a.eval) g k hw hl (by rw [Array.toList_map]; exact hargs)
        have hrun : (execOp a.eval o).run P W = .ok (.round g fn tmps assign body) W := by
          unfold execOp
          simp only [ho, resolve, hb, hx, Deferred.ofValue, Sem.run_bind, Sem.run_pure, Result.andThen_ok, invoke]
          simpa using hy
        rw [hrun, Oper.uponIn_round]
        refine ⟨fun h => by simp [Fence.wide] at h, ?_⟩
        refine RoundIn.mono (F := FW r) hround ?_
        rintro e W' ⟨v', φ', rfl, h1, h2, h3⟩
        exact hK φ' v' W' h1 h2 h3
    · cases h
  · cases h
/-- One operation. -/
theorem step_ok (hC : COk P w0 C) (hR : ROk P w0 R) (hw : WR P w0 φ H W) {ρ : Operand → Value} {o : Oper} {v : Value} {H' : SW} {a : Act}
    (hρ : ∀ x ∈ o.op.operands, VR φ (ρ x) (a.eval x)) (h : (if effect o then eop P C R ρ o H else (qop P ρ o H).map fun v => (v, H)) = some (v, H')) {K : Act → World → Prop} {Q : Exit → Act → World → Prop}
    (hK : ∀ φ' v' W', Ext φ H φ' H' → WR P w0 φ' H' W' → VR φ' v v' → K (a.put o.dst v') W') : o.wpIn (FW r) 0 P a W K Q := by
  refine ⟨fun _ _ => trivial, ?_⟩
  rw [Oper.semAt_eq _ _ _ (step_defer h)]
  split at h
  · have fin : EOk P w0 φ H W a.eval o v H' → o.uponIn (FW r) 0 P a K Q ((execOp a.eval o).run P W) := by
      rintro ⟨v', W', φ', hrun, h1, h2, h3⟩
      rcases hrun with hrun | ⟨hrun, rfl⟩ <;> rw [hrun]
      · rw [Oper.uponIn_value]; exact hK φ' v' W' h2 h1 h3
      · rw [Oper.uponIn_skip]; exact hK φ' _ W' h2 h1 h3
    unfold eop at h
    split at h
    · rename_i t ho; exact fin (alloc_ok hw ho h)
    · rename_i t x ho; exact fin (box_ok hw ho (hρ x (by simp [ho, Op.operands])) h)
    · rename_i t len parts ho; exact fin (buildSlice_ok hw ho hρ h)
    · rename_i t x y ho; exact fin (makeSlice_ok hw ho hρ h)
    · rename_i t x y ho; exact fin (store_ok hw ho hρ h)
    · rename_i c ho
      unfold callE at h
      split at h
      · rename_i f hb; exact callE_ok hC hR hw ho hb hρ h hK
      · rename_i hb; exact fin (append_ok hw ho hb hρ h)
      · rename_i hb; exact fin (copy_ok hw ho hb hρ h)
      · cases h
    · cases h
  · cases hq : qop P ρ o H with
    | none => rw [hq] at h; cases h
    | some u =>
      rw [hq] at h
      injection h with h; obtain ⟨rfl, rfl⟩ := Prod.mk.inj h
      obtain ⟨v', hrun, hv⟩ := qop_ok hw hρ hq
      rw [hrun, Oper.uponIn_value]
      exact hK φ v' W (Ext.refl φ H) hw hv

theorem yielded_of {ops : Array Oper} {φ : Phi} {a : SA} {b : Act} (h : AR φ a b) {o : Oper} : Region.wanted o (yielded ops b.tmps) = wantS ops a.eval o := by
  unfold Region.wanted wantS
  cases o.guard with
  | none => rfl
  | some p =>
    obtain ⟨j, want⟩ := p
    simp only [yielded]
    cases (ops[j]?).bind (·.dst) with
    | none => simp
    | some t =>
      have hv := h.get t
      simp only [Option.bind_some, SA.eval]
      rw [Array.getD_eq_getD_getElem?] at hv
      cases e : b.tmps[t]? with
      | none =>
        rw [e] at hv
        simp only [Option.getD_none, undef] at hv
        generalize a.get t = x at hv
        cases hv <;> simp_all [Ev.sc]
      | some u =>
        rw [e] at hv
        simp only [Option.getD_some] at hv
        generalize a.get t = x at hv
        cases hv with
        | sc hs => cases u <;> simp
        | _ => simp
/-- A region in its written order. -/
theorem seq_ok (hC : COk P w0 C) (hR : ROk P w0 R) {ops : Array Oper} {Q : Exit → Act → World → Prop} : ∀ (l : List Oper) (i : Nat) (φ : Phi) (a : SA) (H : SW) (b : Act) (W : World) (a' : SA) (H' : SW),
    ops.toList.drop i = l → AR φ a b → WR P w0 φ H W → seqS P C R ops l a H = some (a', H') →
    (∀ φ' b' W', Ext φ H φ' H' → AR φ' a' b' → WR P w0 φ' H' W' → Q .normal b' W') → wpOpsIn (FW r) 0 P ops Q (List.range' i l.length) b W
  | [], i, φ, a, H, b, W, a', H', _, ha, hw, h, hQ => by
    simp only [seqS, Option.some.injEq, Prod.mk.injEq] at h
    obtain ⟨rfl, rfl⟩ := h
    exact hQ φ b W (Ext.refl φ _) ha hw
  | o :: l, i, φ, a, H, b, W, a', H', hl, ha, hw, h, hQ => by
    have hi : ops[i]? = some o := by
      rw [← Array.getElem?_toList]
      have : (ops.toList.drop i)[0]? = some o := by rw [hl]; rfl
      simpa using this
    have hl' : ops.toList.drop (i + 1) = l := by
      rw [← List.drop_drop, hl]; rfl
    rw [List.length_cons, List.range'_succ]
    unfold wpOpsIn
    simp only [hi]
    rw [yielded_of ha]
    unfold seqS at h
    split at h
    · rename_i hwant
      rw [if_pos hwant]
      split at h
      · rename_i v H1 hs
        unfold step at hs
        split at hs
        · rename_i hok
          refine step_ok hC hR hw (okOp_rel ha hok) hs fun φ' v' W' h1 h2 h3 => ?_
          exact seq_ok hC hR l (i + 1) φ' _ H1 _ W' a' H' hl' ((ha.mono (hw.le h1)).put h3 o.dst) h2 h fun φ'' b'' W'' k1 k2 k3 => hQ φ'' b'' W'' (h1.trans k1) k2 k3
        · cases hs
      · cases h
    · rename_i hwant
      rw [if_neg hwant]
      refine ⟨fun _ _ => trivial, ?_⟩
      exact seq_ok hC hR l (i + 1) φ _ H _ W a' H' hl' (ha.put (VR.undef φ) o.dst) hw h hQ
end
end Go.Proofs.Ytkliejppigfjiaa.Ev
