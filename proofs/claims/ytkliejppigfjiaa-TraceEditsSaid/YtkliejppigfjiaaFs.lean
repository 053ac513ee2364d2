/-
  Comparisons of structs of numbers, truth values and strings.
  Conditions: none.
-/
import Derived.Test.YtkliejppigfjiaaFu
namespace Go.Proofs.Ytkliejppigfjiaa.Fx
open Go.RowKit
section
variable {P : Program}
theorem srun0_bind {α β : Type} : ∀ (x : Sem α) (f : α → Sem β), srun0 P (x >>= f) = (srun0 P x).bind fun a => srun0 P (f a)
  | .pure _, _ => rfl
  | .program k, f => srun0_bind (k P) f
  | .mark _ k, f => srun0_bind k f
  | .load .., _ => rfl
  | .store .., _ => rfl
  | .new .., _ => rfl
  | .shape .., _ => rfl
  | .freeze .., _ => rfl
  | .frozen .., _ => rfl
  | .getObj .., _ => rfl
  | .setObj .., _ => rfl
  | .choose .., _ => rfl
  | .sys .., _ => rfl
  | .halt _, _ => rfl
theorem srun0_pure {α : Type} (a : α) : srun0 P (pure a : Sem α) = some a := rfl
theorem srun0_underlying {t : TypeId} {d : TypeDesc} (h : P.underlying t = some d) : srun0 P (underlying t) = some d := by
  unfold underlying
  rw [srun0_bind]
  show srun0 P (match P.underlying t with | some d => _ | none => _) = _
  rw [h]
  rfl
theorem srun0_size {t : TypeId} {i : TypeInfo} (h : P.info? t = some i) : srun0 P (sizeOf t) = some i.size := by
  unfold sizeOf typeInfo
  rw [srun0_bind, srun0_bind]
  show ((srun0 P (match P.info? t with | some d => _ | none => _)).bind _) = _
  rw [h]
  rfl
def fitsB : TypeDesc → Value → Value → Bool
  | .int _, .int k _, .int k' _ => ikn k == ikn k'
  | .bool, .bool _, .bool _ => true
  | .string, .string _, .string _ => true
  | _, _, _ => false
def sizeB (P : Program) (t : TypeId) : Nat := match P.info? t with
  | some i => i.size
  | none => 0
def fieldsB (eq : TypeId → List Value → List Value → Bool) (P : Program) : List Field → Nat → List Value → List Value → Bool
  | [], _, us, vs => us.isEmpty && vs.isEmpty
  | f :: fs, o, us, vs => f.offset == o && !(f.name == "_") && (P.info? f.type).isSome && Nat.ble (sizeB P f.type) us.length && Nat.ble (sizeB P f.type) vs.length && eq f.type (us.take (sizeB P f.type)) (vs.take (sizeB P f.type))
      && fieldsB eq P fs (o + sizeB P f.type) (us.drop (sizeB P f.type)) (vs.drop (sizeB P f.type))
/-- Two values of a type without addresses. -/
def eqB (P : Program) : Nat → TypeId → List Value → List Value → Bool
  | 0, _, _, _ => false
  | d + 1, t, us, vs => match P.underlying t with
    | some (.struct fs) => !P.stoodInHeld t && fieldsB (eqB P d) P fs.toList 0 us vs
    | some dd => (match us, vs with
      | [u], [v] => fitsB dd u v
      | _, _ => false)
    | none => false
def valOf (P : Program) (t : TypeId) (us : List Value) : Value := match P.underlying t with
  | some (.struct _) => .agg us.toArray
  | _ => us.headD undef
theorem ikn_eq {a b : IntKind} (h : (ikn a == ikn b) = true) : a = b := ikn_inj (by simpa using h)
theorem bytes_beq' (a b : ByteArray) : (a == b) = true ↔ a = b := by
  obtain ⟨a⟩ := a
  obtain ⟨b⟩ := b
  show (a == b) = true ↔ _
  simp
theorem leaf_eq {d : Nat} {t : TypeId} {dd : TypeDesc} (h : P.underlying t = some dd) {u v : Value} (hf : fitsB dd u v = true) : ∃ b, srun0 P (Op.equalIn (d + 1) t u v) = some b ∧ (b = true ↔ u = v) := by
  unfold fitsB at hf
  split at hf
  · rename_i k0 k a k' b
    obtain rfl := ikn_eq hf
    refine ⟨a == b, ?_, by simp⟩
    rw [Op.equalIn, srun0_bind, srun0_underlying h]
    simp [srun0_pure]
  · rename_i a b
    refine ⟨a == b, ?_, by simp⟩
    rw [Op.equalIn, srun0_bind, srun0_underlying h]
    simp [srun0_pure]
  · rename_i a b
    refine ⟨a == b, ?_, by simp [bytes_beq']⟩
    rw [Op.equalIn, srun0_bind, srun0_underlying h]
    simp [srun0_pure]
  · cases hf
theorem fits_noAgg {dd : TypeDesc} {u v : Value} (hf : fitsB dd u v = true) : (∀ n e, dd ≠ .array n e) ∧ (∀ fs, dd ≠ .struct fs) := by
  constructor <;> intros <;> rintro rfl <;> simp [fitsB] at hf
theorem part_val {d : Nat} {t : TypeId} {i : TypeInfo} (hi : P.info? t = some i) {us vs : List Value} (xs : List Value) (o : Nat) (h : eqB P d t us vs = true) (hu : us = (xs.drop o).take i.size ∨ vs = (xs.drop o).take i.size) :
    srun0 P (part t xs.toArray o) = some (valOf P t ((xs.drop o).take i.size)) := by
  cases d with
  | zero => cases h
  | succ d =>
    unfold eqB at h
    unfold part isAgg valOf
    split at h
    · rename_i fs hfs
      rw [srun0_bind, srun0_bind, srun0_underlying hfs, hfs]
      simp only [Option.bind_some, srun0_pure, if_true]
      rw [srun0_bind, srun0_size hi]
      simp [srun0_pure]
    · rename_i dd hns hdd
      split at h
      · rename_i u v
        obtain ⟨n1, n2⟩ := fits_noAgg h
        have hget : ∃ w, (xs.drop o).take i.size = [w] := by
          rcases hu with hu | hu <;> exact ⟨_, hu.symm⟩
        obtain ⟨w, hw⟩ := hget
        have hxo : xs[o]? = some w := by
          have h0 : ((xs.drop o).take i.size)[0]? = some w := by rw [hw]; rfl
          rw [List.getElem?_take] at h0
          split at h0
          · simpa using h0
          · cases h0
        rw [srun0_bind, srun0_bind, srun0_underlying hdd, hdd, hw]
        simp only [Option.bind_some]
        simp only [srun0_pure, Option.bind_some, Bool.false_eq_true, if_false]
        have hv : (match some dd with | some (.struct _) => Value.agg [w].toArray | _ => [w].headD undef) = w := by
          cases dd <;> first | rfl | exact (n2 _ rfl).elim
        simp only [List.getElem?_toArray, hxo, srun0_pure, Option.some.injEq]
        exact hv.symm
      · cases h
    · cases h
theorem forIn_eq {eq : TypeId → List Value → List Value → Bool} (E : TypeId → Value → Value → Sem Bool) (hE : ∀ t us vs, eq t us vs = true → (∃ b, srun0 P (E t (valOf P t us) (valOf P t vs)) = some b ∧ (b = true ↔ us = vs)) ∧ ∃ d, eqB P d t us vs = true) (xs ys : List Value) : ∀ (fs : List Field) (o : Nat), fieldsB eq P fs o (xs.drop o) (ys.drop o) = true →
    ∃ b, (b = true ↔ xs.drop o = ys.drop o) ∧ srun0 P (forIn (m := Sem) fs ((none, ()) : Option Bool × Unit) fun f _ => if f.name ≠ "_" then do
          let a ← part f.type xs.toArray f.offset
          let b ← part f.type ys.toArray f.offset
          let e ← E f.type a b
          if (!e) = true then pure (.done (some false, ())) else pure (.yield (none, ()))
        else pure (.yield (none, ()))) = some (if b then (none, ()) else (some false, ()))
  | [], o, h => by
    simp only [fieldsB, Bool.and_eq_true, List.isEmpty_iff] at h
    exact ⟨true, by rw [h.1, h.2]; simp, rfl⟩
  | f :: fs, o, h => by
    simp only [fieldsB, Bool.and_eq_true, beq_iff_eq, Bool.not_eq_true', beq_eq_false_iff_ne] at h
    obtain ⟨⟨⟨⟨⟨⟨h1, h2⟩, h3⟩, h4⟩, h5⟩, h6⟩, h7⟩ := h
    obtain ⟨i, hi⟩ := Option.isSome_iff_exists.1 h3
    have hsz : sizeB P f.type = i.size := by unfold sizeB; rw [hi]
    rw [hsz] at h4 h5 h6 h7
    rw [List.drop_drop, List.drop_drop] at h7
    obtain ⟨⟨b, hb, hbi⟩, d, hd⟩ := hE _ _ _ h6
    obtain ⟨b2, hb2, hr⟩ := forIn_eq E hE xs ys fs (o + i.size) h7
    have hl4 : i.size ≤ (xs.drop o).length := Nat.le_of_ble_eq_true h4
    have hl5 : i.size ≤ (ys.drop o).length := Nat.le_of_ble_eq_true h5
    have split : xs.drop o = ys.drop o ↔ (xs.drop o).take i.size = (ys.drop o).take i.size ∧ xs.drop (o + i.size) = ys.drop (o + i.size) := by
      constructor
      · intro e
        refine ⟨by rw [e], ?_⟩
        rw [← List.drop_drop, ← List.drop_drop, e]
      · rintro ⟨e1, e2⟩
        rw [← List.take_append_drop i.size (xs.drop o), ← List.take_append_drop i.size (ys.drop o), List.drop_drop, List.drop_drop, e1, e2]
    rw [List.forIn_cons, srun0_bind, if_pos h2, srun0_bind, h1, part_val hi xs o hd (.inl rfl)]
    simp only [Option.bind_some]
    rw [srun0_bind, part_val hi ys o hd (.inr rfl)]
    simp only [Option.bind_some]
    rw [srun0_bind, hb]
    simp only [Option.bind_some]
    cases b with
    | true =>
      refine ⟨b2, ?_, ?_⟩
      · rw [hb2, split]
        simp [hbi.1 rfl]
      · simpa [srun0_pure] using hr
    | false =>
      refine ⟨false, ?_, by simp [srun0_pure]⟩
      rw [split]
      simp only [Bool.false_eq_true, false_iff, not_and]
      intro e
      exact absurd (hbi.2 e) (by simp)
theorem eqB_ok : ∀ (d k : Nat) (t : TypeId) (us vs : List Value), eqB P d t us vs = true → ∃ b, srun0 P (Op.equalIn (d + k) t (valOf P t us) (valOf P t vs)) = some b ∧ (b = true ↔ us = vs)
  | 0, _, _, _, _, h => by cases h
  | d + 1, k, t, us, vs, h => by
    rw [show d + 1 + k = (d + k) + 1 by omega]
    unfold eqB at h
    split at h
    · rename_i fs hfs
      simp only [Bool.and_eq_true, Bool.not_eq_true'] at h
      obtain ⟨b, hb1, hb2⟩ := forIn_eq (eq := eqB P d) (fun t a b => Op.equalIn (d + k) t a b) (fun t us vs h => ⟨eqB_ok d k t us vs h, d, h⟩) us vs fs.toList 0 h.2
      refine ⟨b, ?_, by simpa using hb1⟩
      unfold valOf
      rw [hfs]
      simp only
      rw [Op.equalIn, srun0_bind, srun0_underlying hfs]
      simp only [Option.bind_some]
      rw [srun0_bind]
      show (Option.bind (some P) _) = _
      simp only [Option.bind_some, h.1, Bool.false_eq_true, if_false]
      rw [← Array.forIn_toList, srun0_bind, hb2]
      cases b <;> rfl
    · rename_i dd hns hdd
      split at h
      · rename_i u v
        have := leaf_eq (d := d + k) hdd h
        have e : ∀ w, valOf P t [w] = w := fun w => by
          unfold valOf
          rw [hdd]
          obtain ⟨n1, n2⟩ := fits_noAgg h
          cases dd <;> first | rfl | exact (n2 _ rfl).elim
        rw [e, e]
        obtain ⟨b, h1, h2⟩ := this
        exact ⟨b, h1, by rw [h2]; simp⟩
      · cases h
    · cases h
def isStB (P : Program) (t : TypeId) : Bool := match P.underlying t with
  | some (.struct _) => true
  | _ => false
theorem valOf_st {t : TypeId} (h : isStB P t = true) (ws : List Value) : valOf P t ws = .agg ws.toArray := by
  unfold isStB at h
  split at h
  · rename_i fs hf
    unfold valOf; rw [hf]
  · cases h
theorem gen_eql {ρ : Env} {o : Oper} {K : V → Prop} {t t2 : TypeId} {x y : Operand} {xs ys : List V} {us vs : List Value} (ho : o.op = .binOp .eql t x y t2) (hx : ρ x = some (.agg xs)) (hy : ρ y = some (.agg ys)) (hxs : scs xs = some us) (hys : scs ys = some vs) (hs : isStB P t = true)
    (hg : P.eqGuardType P.depth t = false) (he : eqB P 100 t us vs = true) (h1 : us = vs → K (B true)) (h2 : us ≠ vs → K (B false)) : gen P ρ o K := by
  obtain ⟨b, h3, h4⟩ := eqB_ok 100 9900 t us vs he
  rw [valOf_st hs, valOf_st hs] at h3
  have hx' : (((ρ x).bind toVal).getD undef) = .agg us.toArray := by simp [hx, toVal, hxs]
  have hy' : (((ρ y).bind toVal).getD undef) = .agg vs.toArray := by simp [hy, toVal, hys]
  refine ⟨fun cs b h => (by rw [ho] at h; cases h), .bool b, rfl, fun z hz => ?_, ?_, ?_⟩
  · rw [ho] at hz
    have hz' : z = x ∨ z = y := by simpa [Op.operands] using hz
    rcases hz' with rfl | rfl
    · exact ⟨.agg us.toArray, by simp [hx, toVal, hxs]⟩
    · exact ⟨.agg vs.toArray, by simp [hy, toVal, hys]⟩
  · unfold execOp
    rw [ho]
    simp only [hx', hy', eqGuard, binOp]
    have h3' : srun0 P (Op.equal t (.agg us.toArray) (.agg vs.toArray)) = some b := h3
    simp only [srun0_bind, h3', srun0_pure]
    have hgd : ∀ why : Unsupported, srun0 P (program >>= fun a => program >>= fun b => if (!a.eqGuardType b.depth t) = true then pure () else do
        let z ← Op.eqGuardIn Op.maxDepth t (Value.agg us.toArray) (Value.agg vs.toArray)
        if z = true then unsupported why else pure ()) = some () := fun why => by
      show srun0 P (if (!P.eqGuardType P.depth t) = true then _ else _) = _
      rw [hg]
      rfl
    rw [if_neg (by simp), hgd]
    rfl
  · cases b with
    | true => exact h1 (h4.1 rfl)
    | false => exact h2 fun e => by have := h4.2 e; cases this
theorem gen_neq {ρ : Env} {o : Oper} {K : V → Prop} {t t2 : TypeId} {x y : Operand} {xs ys : List V} {us vs : List Value} (ho : o.op = .binOp .neq t x y t2) (hx : ρ x = some (.agg xs)) (hy : ρ y = some (.agg ys)) (hxs : scs xs = some us) (hys : scs ys = some vs) (hs : isStB P t = true)
    (hg : P.eqGuardType P.depth t = false) (he : eqB P 100 t us vs = true) (h1 : us = vs → K (B false)) (h2 : us ≠ vs → K (B true)) : gen P ρ o K := by
  obtain ⟨b, h3, h4⟩ := eqB_ok 100 9900 t us vs he
  rw [valOf_st hs, valOf_st hs] at h3
  have hx' : (((ρ x).bind toVal).getD undef) = .agg us.toArray := by simp [hx, toVal, hxs]
  have hy' : (((ρ y).bind toVal).getD undef) = .agg vs.toArray := by simp [hy, toVal, hys]
  refine ⟨fun cs b h => (by rw [ho] at h; cases h), .bool (!b), rfl, fun z hz => ?_, ?_, ?_⟩
  · rw [ho] at hz
    have hz' : z = x ∨ z = y := by simpa [Op.operands] using hz
    rcases hz' with rfl | rfl
    · exact ⟨.agg us.toArray, by simp [hx, toVal, hxs]⟩
    · exact ⟨.agg vs.toArray, by simp [hy, toVal, hys]⟩
  · unfold execOp
    rw [ho]
    simp only [hx', hy', eqGuard, binOp]
    have h3' : srun0 P (Op.equal t (.agg us.toArray) (.agg vs.toArray)) = some b := h3
    simp only [srun0_bind, h3', srun0_pure]
    have hgd : ∀ why : Unsupported, srun0 P (program >>= fun a => program >>= fun b => if (!a.eqGuardType b.depth t) = true then pure () else do
        let z ← Op.eqGuardIn Op.maxDepth t (Value.agg us.toArray) (Value.agg vs.toArray)
        if z = true then unsupported why else pure ()) = some () := fun why => by
      show srun0 P (if (!P.eqGuardType P.depth t) = true then _ else _) = _
      rw [hg]
      rfl
    rw [if_neg (by simp), hgd]
    rfl
  · cases b with
    | true => exact h1 (h4.1 rfl)
    | false => exact h2 fun e => by have := h4.2 e; cases this
/-- A type whose values are single cells. -/
def isLfB (P : Program) (t : TypeId) : Bool := match P.underlying t with
  | some (.struct _) => false
  | some (.array ..) => false
  | some _ => true
  | none => false
theorem valOf_lf {t : TypeId} (h : isLfB P t = true) (w : Value) : valOf P t [w] = w := by
  unfold isLfB at h
  unfold valOf
  split at h
  · cases h
  · cases h
  · rename_i d n1 n2 hd
    rw [hd]
    cases d <;> first | rfl | exact (n1 _ rfl).elim | exact (n2 _ _ rfl).elim
  · cases h
theorem gen_eqB {ρ : Env} {o : Oper} {K : V → Prop} {t t2 : TypeId} {x y : Operand} {a1 a2 : Bool} (ho : o.op = .binOp .eql t x y t2) (hx : ρ x = some (.sc (Value.bool a1))) (hy : ρ y = some (.sc (Value.bool a2))) (hs : isLfB P t = true)
    (_hg : P.eqGuardType P.depth t = false) (he : eqB P 100 t [(Value.bool a1)] [(Value.bool a2)] = true) (h1 : a1 = a2 → K (B true)) (h2 : a1 ≠ a2 → K (B false)) : gen P ρ o K := by
  obtain ⟨b, h3, h4⟩ := eqB_ok 100 9900 t [(Value.bool a1)] [(Value.bool a2)] he
  rw [valOf_lf hs, valOf_lf hs] at h3
  have hx' : (((ρ x).bind toVal).getD undef) = (Value.bool a1) := by simp [hx, toVal]
  have hy' : (((ρ y).bind toVal).getD undef) = (Value.bool a2) := by simp [hy, toVal]
  refine ⟨fun cs b h => (by rw [ho] at h; cases h), .bool b, rfl, fun z hz => ?_, ?_, ?_⟩
  · rw [ho] at hz
    have hz' : z = x ∨ z = y := by simpa [Op.operands] using hz
    rcases hz' with rfl | rfl
    · exact ⟨(Value.bool a1), by simp [hx, toVal]⟩
    · exact ⟨(Value.bool a2), by simp [hy, toVal]⟩
  · unfold execOp
    rw [ho]
    simp only [hx', hy', eqGuard, binOp]
    have h3' : srun0 P (Op.equal t (Value.bool a1) (Value.bool a2)) = some b := h3
    simp only [srun0_bind, h3', srun0_pure]
    rfl
  · cases b with
    | true => exact h1 (by simpa using h4.1 rfl)
    | false => exact h2 fun e => by have := h4.2 (by rw [e]); cases this
theorem gen_neB {ρ : Env} {o : Oper} {K : V → Prop} {t t2 : TypeId} {x y : Operand} {a1 a2 : Bool} (ho : o.op = .binOp .neq t x y t2) (hx : ρ x = some (.sc (Value.bool a1))) (hy : ρ y = some (.sc (Value.bool a2))) (hs : isLfB P t = true)
    (_hg : P.eqGuardType P.depth t = false) (he : eqB P 100 t [(Value.bool a1)] [(Value.bool a2)] = true) (h1 : a1 = a2 → K (B false)) (h2 : a1 ≠ a2 → K (B true)) : gen P ρ o K := by
  obtain ⟨b, h3, h4⟩ := eqB_ok 100 9900 t [(Value.bool a1)] [(Value.bool a2)] he
  rw [valOf_lf hs, valOf_lf hs] at h3
  have hx' : (((ρ x).bind toVal).getD undef) = (Value.bool a1) := by simp [hx, toVal]
  have hy' : (((ρ y).bind toVal).getD undef) = (Value.bool a2) := by simp [hy, toVal]
  refine ⟨fun cs b h => (by rw [ho] at h; cases h), .bool (!b), rfl, fun z hz => ?_, ?_, ?_⟩
  · rw [ho] at hz
    have hz' : z = x ∨ z = y := by simpa [Op.operands] using hz
    rcases hz' with rfl | rfl
    · exact ⟨(Value.bool a1), by simp [hx, toVal]⟩
    · exact ⟨(Value.bool a2), by simp [hy, toVal]⟩
  · unfold execOp
    rw [ho]
    simp only [hx', hy', eqGuard, binOp]
    have h3' : srun0 P (Op.equal t (Value.bool a1) (Value.bool a2)) = some b := h3
    simp only [srun0_bind, h3', srun0_pure]
    rfl
  · cases b with
    | true => exact h1 (by simpa using h4.1 rfl)
    | false => exact h2 fun e => by have := h4.2 (by rw [e]); cases this
theorem gen_eq2 {ρ : Env} {o : Oper} {K : V → Prop} {t t2 : TypeId} {x y : Operand} {a b c d : Int} (ho : o.op = .binOp .eql t x y t2) (hx : ρ x = some (.agg [I a, I b])) (hy : ρ y = some (.agg [I c, I d])) (hs : isStB P t = true)
    (hg : P.eqGuardType P.depth t = false) (he : eqB P 100 t [.int .i64 a, .int .i64 b] [.int .i64 c, .int .i64 d] = true) (h1 : a = c ∧ b = d → K (B true)) (h2 : ¬ (a = c ∧ b = d) → K (B false)) : gen P ρ o K :=
  gen_eql ho hx hy rfl rfl hs hg he (fun h => h1 (by simpa using h)) (fun h => h2 (by simpa using h))
theorem gen_ne2 {ρ : Env} {o : Oper} {K : V → Prop} {t t2 : TypeId} {x y : Operand} {a b c d : Int} (ho : o.op = .binOp .neq t x y t2) (hx : ρ x = some (.agg [I a, I b])) (hy : ρ y = some (.agg [I c, I d])) (hs : isStB P t = true)
    (hg : P.eqGuardType P.depth t = false) (he : eqB P 100 t [.int .i64 a, .int .i64 b] [.int .i64 c, .int .i64 d] = true) (h1 : a = c ∧ b = d → K (B false)) (h2 : ¬ (a = c ∧ b = d) → K (B true)) : gen P ρ o K :=
  gen_neq ho hx hy rfl rfl hs hg he (fun h => h1 (by simpa using h)) (fun h => h2 (by simpa using h))
theorem gen_ne3 {ρ : Env} {o : Oper} {K : V → Prop} {t t2 : TypeId} {x y : Operand} {a b c a' b' c' : Int} (ho : o.op = .binOp .neq t x y t2) (hx : ρ x = some (.agg [I a, I b, I c])) (hy : ρ y = some (.agg [I a', I b', I c'])) (hs : isStB P t = true)
    (hg : P.eqGuardType P.depth t = false) (he : eqB P 100 t [.int .i64 a, .int .i64 b, .int .i64 c] [.int .i64 a', .int .i64 b', .int .i64 c'] = true) (h1 : a = a' ∧ b = b' ∧ c = c' → K (B false)) (h2 : ¬ (a = a' ∧ b = b' ∧ c = c') → K (B true)) : gen P ρ o K :=
  gen_neq ho hx hy rfl rfl hs hg he (fun h => h1 (by simpa using h)) (fun h => h2 (by simpa using h))
end
end Go.Proofs.Ytkliejppigfjiaa.Fx
namespace Go.Proofs.Ytkliejppigfjiaa.Fx
open Go.RowKit
section
variable {P : Program}
theorem gen_eqBv {ρ : Env} {o : Oper} {K : V → Prop} {t t2 : TypeId} {x y : Operand} {a1 a2 : Bool} (ho : o.op = .binOp .eql t x y t2) (hx : ρ x = some (.sc (Value.bool a1))) (hy : ρ y = some (.sc (Value.bool a2))) (hs : isLfB P t = true)
    (hg : P.eqGuardType P.depth t = false) (he : eqB P 100 t [(Value.bool a1)] [(Value.bool a2)] = true) (h : K (B (decide (a1 = a2)))) : gen P ρ o K :=
  gen_eqB ho hx hy hs hg he (fun e => by rw [decide_eq_true e] at h; exact h) (fun e => by rw [decide_eq_false e] at h; exact h)
theorem gen_eq3 {ρ : Env} {o : Oper} {K : V → Prop} {t t2 : TypeId} {x y : Operand} {a b c a' b' c' : Int} (ho : o.op = .binOp .eql t x y t2) (hx : ρ x = some (.agg [I a, I b, I c])) (hy : ρ y = some (.agg [I a', I b', I c'])) (hs : isStB P t = true)
    (hg : P.eqGuardType P.depth t = false) (he : eqB P 100 t [.int .i64 a, .int .i64 b, .int .i64 c] [.int .i64 a', .int .i64 b', .int .i64 c'] = true) (h1 : a = a' ∧ b = b' ∧ c = c' → K (B true)) (h2 : ¬ (a = a' ∧ b = b' ∧ c = c') → K (B false)) : gen P ρ o K :=
  gen_eql ho hx hy rfl rfl hs hg he (fun h => h1 (by simpa using h)) (fun h => h2 (by simpa using h))
theorem gen_eq4 {ρ : Env} {o : Oper} {K : V → Prop} {t t2 : TypeId} {x y : Operand} {a b c d a' b' c' d' : Int} (ho : o.op = .binOp .eql t x y t2) (hx : ρ x = some (.agg [I a, I b, I c, I d])) (hy : ρ y = some (.agg [I a', I b', I c', I d'])) (hs : isStB P t = true)
    (hg : P.eqGuardType P.depth t = false) (he : eqB P 100 t [.int .i64 a, .int .i64 b, .int .i64 c, .int .i64 d] [.int .i64 a', .int .i64 b', .int .i64 c', .int .i64 d'] = true) (h1 : a = a' ∧ b = b' ∧ c = c' ∧ d = d' → K (B true)) (h2 : ¬ (a = a' ∧ b = b' ∧ c = c' ∧ d = d') → K (B false)) : gen P ρ o K :=
  gen_eql ho hx hy rfl rfl hs hg he (fun h => h1 (by simpa using h)) (fun h => h2 (by simpa using h))
theorem gen_eqBii {ρ : Env} {o : Oper} {K : V → Prop} {t t2 : TypeId} {x y : Operand} {p : Bool} {a b a' b' : Int} (ho : o.op = .binOp .eql t x y t2) (hx : ρ x = some (.agg [B p, I a, I b])) (hy : ρ y = some (.agg [B p, I a', I b'])) (hs : isStB P t = true)
    (hg : P.eqGuardType P.depth t = false) (he : eqB P 100 t [.bool p, .int .i64 a, .int .i64 b] [.bool p, .int .i64 a', .int .i64 b'] = true) (h1 : a = a' ∧ b = b' → K (B true)) (h2 : ¬ (a = a' ∧ b = b') → K (B false)) : gen P ρ o K :=
  gen_eql ho hx hy rfl rfl hs hg he (fun h => h1 (by simpa using h)) (fun h => h2 (by simpa using h))
theorem gen_ne4 {ρ : Env} {o : Oper} {K : V → Prop} {t t2 : TypeId} {x y : Operand} {a b c d a' b' c' d' : Int} (ho : o.op = .binOp .neq t x y t2) (hx : ρ x = some (.agg [I a, I b, I c, I d])) (hy : ρ y = some (.agg [I a', I b', I c', I d'])) (hs : isStB P t = true)
    (hg : P.eqGuardType P.depth t = false) (he : eqB P 100 t [.int .i64 a, .int .i64 b, .int .i64 c, .int .i64 d] [.int .i64 a', .int .i64 b', .int .i64 c', .int .i64 d'] = true) (h1 : a = a' ∧ b = b' ∧ c = c' ∧ d = d' → K (B false)) (h2 : ¬ (a = a' ∧ b = b' ∧ c = c' ∧ d = d') → K (B true)) : gen P ρ o K :=
  gen_neq ho hx hy rfl rfl hs hg he (fun h => h1 (by simpa using h)) (fun h => h2 (by simpa using h))
theorem gen_neBii {ρ : Env} {o : Oper} {K : V → Prop} {t t2 : TypeId} {x y : Operand} {p : Bool} {a b a' b' : Int} (ho : o.op = .binOp .neq t x y t2) (hx : ρ x = some (.agg [B p, I a, I b])) (hy : ρ y = some (.agg [B p, I a', I b'])) (hs : isStB P t = true)
    (hg : P.eqGuardType P.depth t = false) (he : eqB P 100 t [.bool p, .int .i64 a, .int .i64 b] [.bool p, .int .i64 a', .int .i64 b'] = true) (h1 : a = a' ∧ b = b' → K (B false)) (h2 : ¬ (a = a' ∧ b = b') → K (B true)) : gen P ρ o K :=
  gen_neq ho hx hy rfl rfl hs hg he (fun h => h1 (by simpa using h)) (fun h => h2 (by simpa using h))
end
end Go.Proofs.Ytkliejppigfjiaa.Fx
namespace Go.Proofs.Ytkliejppigfjiaa.Fx
open Go.RowKit
variable {P : Program}
def eqAB (P : Program) (t : TypeId) (us vs : List Value) : Bool := match P.underlying t with
  | some (.array n e) => (P.info? e).isSome && us.length == n * sizeB P e && vs.length == n * sizeB P e && (List.range' 0 n).all fun i => eqB P 100 e ((us.drop (i * sizeB P e)).take (sizeB P e)) ((vs.drop (i * sizeB P e)).take (sizeB P e))
  | _ => false
theorem forA_eq (E : Value → Value → Sem Bool) {e : TypeId} {i : TypeInfo} (hi : P.info? e = some i) (xs ys : List Value) (hE : ∀ us vs, eqB P 100 e us vs = true → ∃ b, srun0 P (E (valOf P e us) (valOf P e vs)) = some b ∧ (b = true ↔ us = vs)) : ∀ (n s : Nat), xs.length = (s + n) * i.size → ys.length = (s + n) * i.size → (∀ k, s ≤ k → k < s + n → eqB P 100 e ((xs.drop (k * i.size)).take i.size) ((ys.drop (k * i.size)).take i.size) = true) →
    ∃ b, (b = true ↔ xs.drop (s * i.size) = ys.drop (s * i.size)) ∧ srun0 P (forIn (m := Sem) (List.range' s n) ((none, ()) : Option Bool × Unit) fun k _ => do
          let a ← part e xs.toArray (k * i.size)
          let b ← part e ys.toArray (k * i.size)
          let q ← E a b
          if (!q) = true then pure (.done (some false, ())) else pure (.yield (none, ()))) = some (if b then (none, ()) else (some false, ()))
  | 0, s, h1, h2, _ => by
    refine ⟨true, ?_, rfl⟩
    rw [List.drop_eq_nil_of_le (by rw [h1]; simp), List.drop_eq_nil_of_le (by rw [h2]; simp)]
    simp
  | n + 1, s, h1, h2, h => by
    have h6 := h s (Nat.le_refl _) (by omega)
    obtain ⟨b, hb, hbi⟩ := hE _ _ h6
    obtain ⟨b2, hb2, hr⟩ := forA_eq E hi xs ys hE n (s + 1) (by rw [h1]; congr 1; omega) (by rw [h2]; congr 1; omega) fun k k1 k2 => h k (by omega) (by omega)
    have split : xs.drop (s * i.size) = ys.drop (s * i.size) ↔ (xs.drop (s * i.size)).take i.size = (ys.drop (s * i.size)).take i.size ∧ xs.drop ((s + 1) * i.size) = ys.drop ((s + 1) * i.size) := by
      rw [Nat.add_mul, Nat.one_mul]
      constructor
      · intro e
        refine ⟨by rw [e], ?_⟩
        rw [← List.drop_drop, ← List.drop_drop, e]
      · rintro ⟨e1, e2⟩
        rw [← List.take_append_drop i.size (xs.drop (s * i.size)), ← List.take_append_drop i.size (ys.drop (s * i.size)), List.drop_drop, List.drop_drop, e1, e2]
    rw [List.range'_succ, List.forIn_cons, srun0_bind, srun0_bind, part_val hi xs _ h6 (.inl rfl)]
    simp only [Option.bind_some]
    rw [srun0_bind, part_val hi ys _ h6 (.inr rfl)]
    simp only [Option.bind_some]
    rw [srun0_bind, hb]
    simp only [Option.bind_some]
    cases b with
    | true =>
      refine ⟨b2, ?_, ?_⟩
      · rw [hb2, split]
        simp [hbi.1 rfl]
      · simpa [srun0_pure] using hr
    | false =>
      refine ⟨false, ?_, by simp [srun0_pure]⟩
      rw [split]
      simp only [Bool.false_eq_true, false_iff, not_and]
      intro e
      exact absurd (hbi.2 e) (by simp)
theorem eqA_ok {t : TypeId} {us vs : List Value} (h : eqAB P t us vs = true) : ∃ b, srun0 P (Op.equalIn (9999 + 1) t (.agg us.toArray) (.agg vs.toArray)) = some b ∧ (b = true ↔ us = vs) := by
  unfold eqAB at h
  split at h
  · rename_i n e hu
    simp only [Bool.and_eq_true, beq_iff_eq] at h
    obtain ⟨⟨⟨h1, h2⟩, h3⟩, h4⟩ := h
    obtain ⟨i, hi⟩ := Option.isSome_iff_exists.1 h1
    have hsz : sizeB P e = i.size := by unfold sizeB; rw [hi]
    rw [hsz] at h2 h3 h4
    obtain ⟨b, hb1, hb2⟩ := forA_eq (fun a b => Op.equalIn 9999 e a b) hi us vs (fun us vs h => eqB_ok 100 9899 e us vs h) n 0 (by rw [Nat.zero_add]; exact h2) (by rw [Nat.zero_add]; exact h3) fun k _ k2 => List.all_eq_true.1 h4 k (by simp; omega)
    refine ⟨b, ?_, by simpa using hb1⟩
    rw [Op.equalIn, srun0_bind, srun0_underlying hu]
    simp only [Option.bind_some]
    rw [srun0_bind, srun0_size hi]
    simp only [Option.bind_some]
    rw [srun0_bind, Std.Legacy.Range.forIn_eq_forIn_range']
    simp only [Std.Legacy.Range.size, Nat.sub_zero, Nat.add_sub_cancel, Nat.div_one]
    rw [hb2]
    cases b <;> rfl
  · cases h
theorem gen_eqA {ρ : Env} {o : Oper} {K : V → Prop} {t t2 : TypeId} {x y : Operand} {xs ys : List V} {us vs : List Value} (ho : o.op = .binOp .eql t x y t2) (hx : ρ x = some (.agg xs)) (hy : ρ y = some (.agg ys)) (hxs : scs xs = some us) (hys : scs ys = some vs)
    (hg : P.eqGuardType P.depth t = false) (he : eqAB P t us vs = true) (h1 : us = vs → K (B true)) (h2 : us ≠ vs → K (B false)) : gen P ρ o K := by
  obtain ⟨b, h3, h4⟩ := eqA_ok he
  have hx' : (((ρ x).bind toVal).getD undef) = .agg us.toArray := by simp [hx, toVal, hxs]
  have hy' : (((ρ y).bind toVal).getD undef) = .agg vs.toArray := by simp [hy, toVal, hys]
  refine ⟨fun cs b h => (by rw [ho] at h; cases h), .bool b, rfl, fun z hz => ?_, ?_, ?_⟩
  · rw [ho] at hz
    have hz' : z = x ∨ z = y := by simpa [Op.operands] using hz
    rcases hz' with rfl | rfl
    · exact ⟨.agg us.toArray, by simp [hx, toVal, hxs]⟩
    · exact ⟨.agg vs.toArray, by simp [hy, toVal, hys]⟩
  · unfold execOp
    rw [ho]
    simp only [hx', hy', eqGuard, binOp]
    have h3' : srun0 P (Op.equal t (.agg us.toArray) (.agg vs.toArray)) = some b := h3
    simp only [srun0_bind, h3', srun0_pure]
    have hgd : ∀ why : Unsupported, srun0 P (program >>= fun a => program >>= fun b => if (!a.eqGuardType b.depth t) = true then pure () else do
        let z ← Op.eqGuardIn Op.maxDepth t (Value.agg us.toArray) (Value.agg vs.toArray)
        if z = true then unsupported why else pure ()) = some () := fun why => by
      show srun0 P (if (!P.eqGuardType P.depth t) = true then _ else _) = _
      rw [hg]
      rfl
    rw [if_neg (by simp), hgd]
    rfl
  · cases b with
    | true => exact h1 (h4.1 rfl)
    | false => exact h2 fun e => by have := h4.2 e; cases this
theorem gen_neA {ρ : Env} {o : Oper} {K : V → Prop} {t t2 : TypeId} {x y : Operand} {xs ys : List V} {us vs : List Value} (ho : o.op = .binOp .neq t x y t2) (hx : ρ x = some (.agg xs)) (hy : ρ y = some (.agg ys)) (hxs : scs xs = some us) (hys : scs ys = some vs)
    (hg : P.eqGuardType P.depth t = false) (he : eqAB P t us vs = true) (h1 : us = vs → K (B false)) (h2 : us ≠ vs → K (B true)) : gen P ρ o K := by
  obtain ⟨b, h3, h4⟩ := eqA_ok he
  have hx' : (((ρ x).bind toVal).getD undef) = .agg us.toArray := by simp [hx, toVal, hxs]
  have hy' : (((ρ y).bind toVal).getD undef) = .agg vs.toArray := by simp [hy, toVal, hys]
  refine ⟨fun cs b h => (by rw [ho] at h; cases h), .bool (!b), rfl, fun z hz => ?_, ?_, ?_⟩
  · rw [ho] at hz
    have hz' : z = x ∨ z = y := by simpa [Op.operands] using hz
    rcases hz' with rfl | rfl
    · exact ⟨.agg us.toArray, by simp [hx, toVal, hxs]⟩
    · exact ⟨.agg vs.toArray, by simp [hy, toVal, hys]⟩
  · unfold execOp
    rw [ho]
    simp only [hx', hy', eqGuard, binOp]
    have h3' : srun0 P (Op.equal t (.agg us.toArray) (.agg vs.toArray)) = some b := h3
    simp only [srun0_bind, h3', srun0_pure]
    have hgd : ∀ why : Unsupported, srun0 P (program >>= fun a => program >>= fun b => if (!a.eqGuardType b.depth t) = true then pure () else do
        let z ← Op.eqGuardIn Op.maxDepth t (Value.agg us.toArray) (Value.agg vs.toArray)
        if z = true then unsupported why else pure ()) = some () := fun why => by
      show srun0 P (if (!P.eqGuardType P.depth t) = true then _ else _) = _
      rw [hg]
      rfl
    rw [if_neg (by simp), hgd]
    rfl
  · cases b with
    | true => exact h1 (h4.1 rfl)
    | false => exact h2 fun e => by have := h4.2 e; cases this
end Go.Proofs.Ytkliejppigfjiaa.Fx
namespace Go.Proofs.Ytkliejppigfjiaa.Fx
open Go.RowKit
section
variable {P : Program}
theorem arith_u {n : Int} {K : V → Prop} (h : 0 ≤ n ∧ n ≤ 18446744073709551615) (hk : K (.sc (.int .u64 n))) : arith .u64 n K := arith_in (by simpa [IntKind.min, IntKind.max, IntKind.bits, IntKind.signed] using h) hk
theorem and_mask {a : Int} (h : 0 ≤ a ∧ a ≤ 4294967295) : IntKind.wrap .u64 ((BitVec.ofInt 64 a &&& BitVec.ofInt 64 4294967295).toNat : Int) = a := by
  obtain ⟨n, rfl⟩ : ∃ n : Nat, a = n := ⟨a.toNat, by omega⟩
  have e : (BitVec.ofInt 64 (n : Int) &&& BitVec.ofInt 64 4294967295).toNat = n := by
    rw [BitVec.toNat_and, BitVec.ofInt_natCast, BitVec.toNat_ofNat]
    have e2 : (BitVec.ofInt 64 4294967295).toNat = 2 ^ 32 - 1 := by decide
    rw [e2, Nat.and_two_pow_sub_one_eq_mod]
    omega
  rw [e]
  exact wrap_in (by simp [IntKind.min, IntKind.max, IntKind.bits, IntKind.signed]; omega)
theorem gen_and32 {ρ : Env} {o : Oper} {K : V → Prop} {t t2 : TypeId} {x y : Operand} {a : Int} (ho : o.op = .binOp .and t x y t2) (hx : ρ x = some (.sc (.int .u64 a))) (hy : ρ y = some (.sc (.int .u64 4294967295))) (h : 0 ≤ a ∧ a ≤ 4294967295) (hk : K (.sc (.int .u64 a))) : gen P ρ o K := by
  refine ⟨fun cs b h => (by rw [ho] at h; cases h), .int .u64 a, rfl, fun z hz => ?_, ?_, hk⟩
  · rw [ho] at hz
    have hz' : z = x ∨ z = y := by simpa [Op.operands] using hz
    rcases hz' with rfl | rfl
    · exact ⟨.int .u64 a, by simp [hx, toVal]⟩
    · exact ⟨.int .u64 4294967295, by simp [hy, toVal]⟩
  · have hx' : (((ρ x).bind toVal).getD undef) = .int .u64 a := by simp [hx, toVal]
    have hy' : (((ρ y).bind toVal).getD undef) = .int .u64 4294967295 := by simp [hy, toVal]
    unfold execOp
    rw [ho]
    simp only [hx', hy']
    have := and_mask h
    show some (Next.value (.int .u64 (IntKind.wrap .u64 ((BitVec.ofInt 64 a &&& BitVec.ofInt 64 4294967295).toNat : Int)))) = _
    rw [this]
theorem gen_shr32 {ρ : Env} {o : Oper} {K : V → Prop} {t t2 : TypeId} {x y : Operand} {a : Int} (ho : o.op = .binOp .shr t x y t2) (hx : ρ x = some (.sc (.int .u64 a))) (hy : ρ y = some (.sc (.int .u64 32))) (h : 0 ≤ a ∧ a ≤ 4294967295) (hk : K (.sc (.int .u64 0))) : gen P ρ o K := by
  refine ⟨fun cs b h => (by rw [ho] at h; cases h), .int .u64 0, rfl, fun z hz => ?_, ?_, hk⟩
  · rw [ho] at hz
    have hz' : z = x ∨ z = y := by simpa [Op.operands] using hz
    rcases hz' with rfl | rfl
    · exact ⟨.int .u64 a, by simp [hx, toVal]⟩
    · exact ⟨.int .u64 32, by simp [hy, toVal]⟩
  · have hx' : (((ρ x).bind toVal).getD undef) = .int .u64 a := by simp [hx, toVal]
    have hy' : (((ρ y).bind toVal).getD undef) = .int .u64 32 := by simp [hy, toVal]
    unfold execOp
    rw [ho]
    simp only [hx', hy']
    have e : a.fdiv (2 ^ 32) = 0 := by rw [Int.fdiv_eq_ediv_of_nonneg _ (by decide)]; omega
    show some (Next.value (.int .u64 (a.fdiv (2 ^ 32)))) = _
    rw [e]
theorem gen_conv {ρ : Env} {o : Oper} {K : V → Prop} {t t2 : TypeId} {x : Operand} {a : Int} {k k2 : IntKind} {d : TypeDesc} (ho : o.op = .convert t t2 x) (hx : ρ x = some (.sc (.int k a))) (h1 : P.underlying t = some d) (h2 : P.underlying t2 = some (.int k2)) (h : k2.min ≤ a ∧ a ≤ k2.max) (hk : K (.sc (.int k2 a))) : gen P ρ o K := by
  refine ⟨fun cs b h => (by rw [ho] at h; cases h), .int k2 a, rfl, fun z hz => ?_, ?_, hk⟩
  · rw [ho] at hz
    have hz' : z = x := by simpa [Op.operands] using hz
    subst hz'
    exact ⟨.int k a, by simp [hx, toVal]⟩
  · have hx' : (((ρ x).bind toVal).getD undef) = .int k a := by simp [hx, toVal]
    unfold execOp
    rw [ho]
    simp only [hx', convert]
    rw [srun0_bind, srun0_bind, srun0_underlying h1]
    simp only [Option.bind_some]
    rw [srun0_bind, srun0_underlying h2]
    simp only [Option.bind_some]
    cases d <;> simp [Conv.intToInt, srun0_pure, wrap_in h]
end
end Go.Proofs.Ytkliejppigfjiaa.Fx
namespace Go.Proofs.Ytkliejppigfjiaa.Fx
open Go.RowKit
section
variable {P : Program}
theorem gen_min3 {ρ : Env} {o : Oper} {K : V → Prop} {x y z : Operand} {ts : Array TypeId} {a b d : Int} (ho : o.op = .call ⟨.builtin .min, #[x, y, z], ts⟩) (hx : ρ x = some (.sc (.int .i64 a))) (hy : ρ y = some (.sc (.int .i64 b))) (hz : ρ z = some (.sc (.int .i64 d)))
    (hk : K (.sc (.int .i64 (min (min a b) d)))) : gen P ρ o K := by
  refine ⟨fun cs b h => (by rw [ho] at h; cases h), .int .i64 (min (min a b) d), rfl, fun w hw => ?_, ?_, hk⟩
  · rw [ho] at hw
    have hw' : w = x ∨ w = y ∨ w = z := by simpa [Op.operands, Call.operands] using hw
    rcases hw' with rfl | rfl | rfl
    · exact ⟨.int .i64 a, by simp [hx, toVal]⟩
    · exact ⟨.int .i64 b, by simp [hy, toVal]⟩
    · exact ⟨.int .i64 d, by simp [hz, toVal]⟩
  · have hx' : (((ρ x).bind toVal).getD undef) = .int .i64 a := by simp [hx, toVal]
    have hy' : (((ρ y).bind toVal).getD undef) = .int .i64 b := by simp [hy, toVal]
    have hz' : (((ρ z).bind toVal).getD undef) = .int .i64 d := by simp [hz, toVal]
    have e1 : (if b < a then b else a) = min a b := by omega
    have e2 : (if d < min a b then d else min a b) = min (min a b) d := by omega
    unfold execOp
    rw [ho]
    simp [resolve, invoke, builtin, Builtin.min_, Builtin.min2, hx', hy', hz', e1, e2, srun0_pure]
end
end Go.Proofs.Ytkliejppigfjiaa.Fx
