/-
  A region whose order Go leaves open, walked once: reading operations as soon as they may come, calls and stores in the order that is forced, one new variable as late as it may come. Whatever order is drawn, the end is the same.
  Conditions: a list of places that a closed check accepts; the post of a panic does not hang on the frame.
-/
import Derived.Test.YtkliejppigfjiaaBase
namespace Go.Proofs.Ytkliejppigfjiaa
open Go.RowKit

/-- Operations that hand back a value or nothing, and call no function. -/
def pureOp (o : Oper) : Bool :=
  match o.op with
  | .move _ | .assign _ | .pick .. | .build .. | .load .. | .binOp .. | .unOp .. | .field .. | .fieldAddr .. | .index .. | .indexAddr .. | .extract .. | .slice .. | .convert .. | .makeFunc .. => true
  | .call c => match c.callee with
    | .builtin .len | .builtin .cap | .builtin .max | .builtin .min | .builtin .real | .builtin .imag | .builtin .complex => true
    | _ => false
  | _ => false

section
variable {P : Program} {ops : Array Oper} {Q : Exit → Act → World → Prop}

theorem pureOp_value {ρ : Operand → Value} {o : Oper} (h : pureOp o = true) {w w' : World} {n : Next} : (execOp ρ o).run P w = .ok n w' → ∃ u, n = .value u := by
  obtain ⟨dst, op, type, pos, after, guard⟩ := o
  have key : ∀ (s : Sem Value) (w w' : World), (do pure (Next.value (← s)) : Sem Next).run P w = .ok n w' → ∃ u, n = .value u := by
    intro s w w'
    rw [Sem.run_bind]
    generalize s.run P w = r
    cases r with
    | ok u w1 => simp only [Result.andThen_ok, Sem.run_pure]; intro e; injection e with e; exact ⟨u, e.symm⟩
    | halt x w1 => intro e; cases e
  have key2 : ∀ (s : Sem Value) (w w' : World), ((s.run P w).andThen fun a w' => Result.ok (Next.value a) w') = .ok n w' → ∃ u, n = .value u := by
    intro s w w'
    generalize s.run P w = r
    cases r with
    | ok u w1 => simp only [Result.andThen_ok]; intro e; injection e with e; exact ⟨u, e.symm⟩
    | halt x w1 => intro e; cases e
  cases op <;> simp only [pureOp, Bool.false_eq_true] at h <;> simp only [execOp]
  case move => simp only [Sem.run_pure]; intro e; injection e with e; exact ⟨_, e.symm⟩
  case assign => simp only [Sem.run_pure]; intro e; injection e with e; exact ⟨_, e.symm⟩
  case pick =>
    rw [Sem.run_bind]
    generalize Sem.run P (asBool _) w = r
    cases r with
    | ok u w1 => simp only [Result.andThen_ok, Sem.run_pure]; intro e; injection e with e; exact ⟨_, e.symm⟩
    | halt x w1 => intro e; cases e
  case call c =>
    obtain ⟨callee, as', ts⟩ := c
    cases callee with
    | builtin b =>
      cases b <;> simp only [Bool.false_eq_true] at h <;> simp only [resolve, Sem.run_bind, Sem.run_pure, Result.andThen_ok, invoke, builtin] <;> exact key2 _ _ _
    | invoke r m => cases h
    | value f => cases h
  all_goals exact key _ _ _
theorem pureOp_noEnter {ρ : Operand → Value} {o : Oper} (h : pureOp o = true) {w w' : World} {f : FuncId} {args : Array Value} : (execOp ρ o).run P w ≠ .ok (.enter f args) w' := fun e => by
  obtain ⟨u, hu⟩ := pureOp_value h e
  cases hu

/-- What is listed has all listed for which it waits. -/
def Closed (ops : Array Oper) (L : Array Bool) : Prop := ∀ j oj, ops[j]? = some oj → L.getD j false = true → ∀ e ∈ oj.after, Region.binds .any e = true → L.getD e.on false = true
theorem Closed.set {L : Array Bool} {i : Nat} (h : Closed ops L) (hr : i ∈ Region.ready .any ops L) : Closed ops (L.setIfInBounds i true) := by
  intro j oj hj hl e he hb
  by_cases hij : i = j
  · subst hij
    obtain ⟨_, oi, hoi, hall⟩ := mem_ready.1 hr
    obtain rfl : oj = oi := Option.some.inj (hj.symm.trans hoi)
    exact getD_set_true (hall e he hb)
  · rw [getD_set_ne false hij] at hl
    exact getD_set_true (h j oj hj hl e he hb)
/-- An operation waits for another one, perhaps by way of others. -/
def waitsT (ops : Array Oper) : Nat → Nat → Nat → Bool
  | 0, _, _ => false
  | f + 1, j, i => match ops[j]? with
    | none => false
    | some oj => (oj.after.any fun e => Region.binds .any e && e.on == i) || (oj.after.any fun e => Region.binds .any e && waitsT ops f e.on i)
theorem waitsT_not {L : Array Bool} {i : Nat} (hc : Closed ops L) (hi : L.getD i false = false) : ∀ (f j : Nat), waitsT ops f j i = true → ∀ oj, ops[j]? = some oj → ¬ ∀ e ∈ oj.after, Region.binds .any e = true → L.getD e.on false = true
  | 0, _, h, _, _ => by cases h
  | f + 1, j, h, oj, hj => fun hall => by
    unfold waitsT at h
    simp only [hj, Bool.or_eq_true] at h
    rcases h with h | h
    · obtain ⟨e, he, hb⟩ := Array.any_eq_true'.1 h
      simp only [Bool.and_eq_true, beq_iff_eq] at hb
      have := hall e he hb.1
      rw [hb.2, hi] at this
      cases this
    · obtain ⟨e, he, hb⟩ := Array.any_eq_true'.1 h
      simp only [Bool.and_eq_true] at hb
      have hl := hall e he hb.1
      cases hk : ops[e.on]? with
      | none =>
        have h2 := hb.2
        cases f with
        | zero => cases h2
        | succ f => unfold waitsT at h2; rw [hk] at h2; cases h2
      | some ok => exact waitsT_not hc hi f e.on hb.2 ok hk (hc e.on ok hk hl)

/-- Any order, from every world that has more, till 'E' takes over. -/
def AnyE (P : Program) (ops : Array Oper) (Q : Exit → Act → World → Prop) (E : Array Bool → Act → World → Prop) : Nat → Array Bool → Act → World → Prop
  | 0, L, a, W => ∀ W', Ov W W' → E L a W'
  | f + 1, L, a, W => ∀ W', Ov W W' → Region.ready .any ops L ≠ [] ∧
      ∀ i ∈ Region.ready .any ops L, wpOp P ops Q i (fun a' W'' => Ov W' W'' ∧ AnyE P ops Q E f (L.setIfInBounds i true) a' W'') a W'

theorem AnyE.any {E : Array Bool → Act → World → Prop} {r : Nat} (hE : ∀ L a W, E L a W → wpAny P .any ops Q r L a W) : ∀ (f : Nat) (L : Array Bool) (a : Act) (W : World), AnyE P ops Q E f L a W → wpAny P .any ops Q (f + r) L a W
  | 0, _, _, W, h => by rw [Nat.zero_add]; exact hE _ _ _ (h W (Ov.refl W))
  | f + 1, _, _, W, h => by
    rw [show f + 1 + r = (f + r) + 1 by omega]
    exact ⟨fun e => absurd e (h W (Ov.refl W)).1, fun i hi => wpOp_mono (fun a' w' hh => AnyE.any hE f _ a' w' hh.2) ((h W (Ov.refl W)).2 i hi)⟩
theorem AnyE.later {E : Array Bool → Act → World → Prop} {f : Nat} {L : Array Bool} {a : Act} {W W' : World} (h : AnyE P ops Q E f L a W) (o : Ov W W') : AnyE P ops Q E f L a W' := by
  cases f <;> exact fun W'' h'' => h W'' (o.trans h'')

/-- In this state, in every world that has more, operation 'o' leaves 'v' in its temporary, and the world as it is. -/
def YieldsP (P : Program) (ops : Array Oper) (o : Oper) (v : Value) (a : Act) (W : World) : Prop :=
  (Region.wanted o (yielded ops a.tmps) = true ∧ ∀ W', Ov W W' → (execOp a.eval o).run P W' = .ok (.value v) W' ∨ ((execOp a.eval o).run P W' = .ok .skip W' ∧ v = undef)) ∨
  (Region.wanted o (yielded ops a.tmps) = false ∧ v = undef)
theorem YieldsP.later {o : Oper} {v : Value} {a : Act} {W W' : World} (h : YieldsP P ops o v a W) (ho : Ov W W') : YieldsP P ops o v a W' :=
  h.imp (fun ⟨h1, h2⟩ => ⟨h1, fun W'' h'' => h2 W'' (ho.trans h'')⟩) id
theorem YieldsP.wpOp {i : Nat} {o : Oper} {v : Value} {a : Act} {W : World} (hi : ops[i]? = some o) (hy : YieldsP P ops o v a W) {K : Act → World → Prop} {W' : World} (ho : Ov W W') (h : K (a.put o.dst v) W') : wpOp P ops Q i K a W' := by
  unfold Go.wpOp
  simp only [hi]
  rcases hy with ⟨hw, hv⟩ | ⟨hw, rfl⟩
  · simp only [hw, if_true]
    left
    unfold Oper.wp
    rcases hv W' ho with e | ⟨e, rfl⟩ <;> rw [e] <;> exact h
  · simp only [hw, Bool.false_eq_true, if_false]; exact h
theorem YieldsP.put {o oj : Oper} {v u : Value} {a : Act} {W : World} (hs : ∀ cs b, o.op ≠ .select cs b) (hap : o.apart ops oj = true) (hy : YieldsP P ops o v a W) : YieldsP P ops o v (a.put oj.dst u) W := by
  obtain ⟨_, _, h3⟩ := Oper.apart_spec hap
  unfold YieldsP at *
  rw [execOp_put o hs a oj.dst u h3, wanted_put o a oj.dst u h3]
  exact hy

theorem YieldsP.defers {o : Oper} {v : Value} {a : Act} {W : World} (h : YieldsP P ops o v a W) (ds : List Deferred) : YieldsP P ops o v { a with defers := ds } W := by
  have e : Act.eval { a with defers := ds } = Act.eval a := by funext x; cases x <;> rfl
  unfold YieldsP at *
  rw [e]
  exact h
/-- Whether another operation's value is already in its temporary makes no difference to an operation that is apart from it. -/
theorem wpOp_put {j : Nat} {oi oj : Oper} {v : Value} (hj : ops[j]? = some oj) (hap : oi.apart ops oj = true) (hsj : ∀ cs b, oj.op ≠ .select cs b)
    (hQ : ∀ c (a : Act) d v w, Q (.panic c) (a.put d v) w → Q (.panic c) a w) {K : Act → World → Prop} {a : Act} {W : World}
    (hsi : ∀ cs b, oi.op ≠ .select cs b) (h : wpOp P ops Q j K (a.put oi.dst v) W) :
    wpOp P ops Q j (fun a' W' => (∀ W0, YieldsP P ops oi v a W0 → YieldsP P ops oi v a' W0) ∧ K (a'.put oi.dst v) W') a W := by
  obtain ⟨h1, h2, _⟩ := Oper.apart_spec hap
  have keep : ∀ u W0, YieldsP P ops oi v a W0 → YieldsP P ops oi v (a.put oj.dst u) W0 := fun u W0 hy => hy.put hsi hap
  unfold wpOp at *
  simp only [hj] at *
  rw [wanted_put oj a oi.dst v h1] at h
  split
  · rename_i hw
    simp only [hw, if_true] at h
    rcases h with h | h
    · left
      unfold Oper.wp at *
      rw [execOp_put oj hsj a oi.dst v h1] at h
      generalize (execOp a.eval oj).run P W = r at *
      cases r with
      | ok n w' =>
        cases n <;> simp only [Oper.upon] at h ⊢
        case value u => exact ⟨keep u, by rw [← Act.put_comm a v u h2]; exact h⟩
        case skip => exact ⟨keep undef, by rw [← Act.put_comm a v undef h2]; exact h⟩
        case defer d => exact ⟨fun W0 hy => by rw [← Act.put_defers]; exact (keep undef W0 hy).defers _, by rw [Act.put_defers] at h; rw [← Act.put_comm _ v undef h2]; exact h⟩
        case enter f args =>
          refine Calls.mono h fun e w'' he => ?_
          cases e with
          | returned u => exact ⟨keep u, by rw [← Act.put_comm a v u h2]; exact he⟩
          | panicked c => exact hQ _ _ _ _ _ he
          | outgrown => exact he
        case row row args => exact Rows.mono h fun u w'' he => ⟨keep u, by rw [← Act.put_comm a v u h2]; exact he⟩
      | halt x w' =>
        cases x <;> simp only [Oper.upon] at h ⊢
        case panic u => exact hQ _ _ _ _ _ h
    · right
      refine ⟨?_, h.2⟩
      have := h.1
      unfold Oper.asks at *
      rwa [execOp_put oj hsj a oi.dst v h1] at this
  · rename_i hw
    simp only [hw] at h
    exact ⟨keep undef, by rw [← Act.put_comm a v undef h2]; exact h⟩

/-- An operation that reads may be taken first. -/
theorem AnyE.first {E : Array Bool → Act → World → Prop} {tl : Nat → Bool} (hE : ∀ L a W, E L a W → ∀ j ∈ Region.ready .any ops L, tl j = true) {i : Nat} {N : Nat} (hT : ∀ j, tl j = true → waitsT ops N j i = true) {oi : Oper} {v : Value} (hi : ops[i]? = some oi) (hsel : ∀ (j : Nat) (o : Oper) cs b, ops[j]? = some o → o.op ≠ .select cs b)
    (hQ : ∀ c (a : Act) d v w, Q (.panic c) (a.put d v) w → Q (.panic c) a w) :
    ∀ (f : Nat) (L : Array Bool) (a : Act) (W : World), Closed ops L →
      (∀ j oj, ops[j]? = some oj → j ≠ i → L.getD j true = false → (∀ e ∈ oj.after, Region.binds .any e = true → e.on ≠ i) → oi.apart ops oj = true) →
      i ∈ Region.ready .any ops L → YieldsP P ops oi v a W →
      AnyE P ops Q E f (L.setIfInBounds i true) (a.put oi.dst v) W → AnyE P ops Q E (f + 1) L a W := by
  intro f
  induction f with
  | zero =>
    intro L a W hcl _ hr hy H W' ho
    refine ⟨fun h => (by rw [h] at hr; cases hr), fun j hj => ?_⟩
    by_cases hji : j = i
    · subst hji; exact hy.wpOp hi ho ⟨Ov.refl _, H.later ho⟩
    · obtain ⟨_, oj, hoj, hall⟩ := mem_ready.1 hj
      exact absurd hall (waitsT_not hcl (getD_both (mem_ready.1 hr).1) N j (hT j (hE _ _ _ (H W' ho) j (ready_mono hj hji))) oj hoj)
  | succ f ih =>
    intro L a W hcl hfree hr hy H W' ho
    refine ⟨fun h => (by rw [h] at hr; cases hr), fun j hj => ?_⟩
    by_cases hji : j = i
    · subst hji; exact hy.wpOp hi ho ⟨Ov.refl _, H.later ho⟩
    · have h1 := (H W' ho).2 j (ready_mono hj hji)
      obtain ⟨hjun, oj, hoj, hall⟩ := mem_ready.1 hj
      have hiun := (mem_ready.1 hr).1
      have hnot : ∀ e ∈ oj.after, Region.binds .any e = true → e.on ≠ i := fun e he hb heq => by
        have h1 := hall e he hb
        rw [heq, getD_both hiun] at h1
        cases h1
      have hap := hfree j oj hoj hji hjun hnot
      have h2 := wpOp_put hoj hap (fun cs b => hsel j oj cs b hoj) hQ (fun cs b => hsel i oi cs b hi) h1
      have hfree' : ∀ k ok, ops[k]? = some ok → k ≠ i → (L.setIfInBounds j true).getD k true = false →
          (∀ e ∈ ok.after, Region.binds .any e = true → e.on ≠ i) → oi.apart ops ok = true := fun k ok hk hki hun hno => by
        refine hfree k ok hk hki ?_ hno
        by_cases hjk : j = k
        · subst hjk; exact hjun
        · rw [getD_set_ne true hjk] at hun; exact hun
      refine wpOp_mono (fun a' W'' ⟨hya, ho2, h3⟩ => ⟨ho2, ih (L.setIfInBounds j true) a' W'' (hcl.set hj) hfree' (ready_mono hr (Ne.symm hji)) ((hya _ (hy.later ho)).later ho2) ?_⟩) h2
      rw [Array.setIfInBounds_comm _ _ hji]
      exact h3

/-! ### The walk in a fixed order -/

/-- Both hold. (A name of its own, so that the walk stands still there.) -/
structure Fwd (p q : Prop) : Prop where
  ov : p
  go : q

/-- The operations at the end, which may write to the new variable: 0: it reads no memory; else: forced. -/
def ordT (ops : Array Oper) : List (Nat × Nat) → Array Bool → Bool
  | [], L => (Region.ready .any ops L).isEmpty
  | (i, k) :: τ, L =>
    (if k = 0 then ((ops[i]?).map pureOp).getD false && (Region.ready .any ops L).contains i && Region.free .any ops L i
      else decide (Region.ready .any ops L = [i])) && ordT ops τ (L.setIfInBounds i true)
/-- Operations that read no memory, ahead of the new variable at place m; then the end. -/
def ordA (ops : Array Oper) (τ : List (Nat × Nat)) (m : Nat) : List Nat → Array Bool → Bool
  | [], L => decide (Region.ready .any ops L = [m]) && ordT ops τ (L.setIfInBounds m true)
  | i :: σ, L => i != m && ((ops[i]?).map pureOp).getD false && (Region.ready .any ops L).contains i && Region.free .any ops L i &&
      ((Region.ready .any ops (L.setIfInBounds m true)).contains i && Region.free .any ops (L.setIfInBounds m true) i && Region.free .any ops L m) && ordA ops τ m σ (L.setIfInBounds i true)
/-- The order that the walk takes: places with their kind: 0: it reads; else: its turn is forced. 'm': the place of the new variable (none: any number that is no place). 'tl': the places at the end, 'fin': what is asked where they begin. -/
def ordB (ops : Array Oper) (tl : List Nat) (fin : Array Bool → Bool) (m : Nat) : List (Nat × Nat) → Array Bool → Bool
  | [], L => ((Region.ready .any ops L).all fun j => tl.contains j || j == m) && fin L
  | (i, k) :: π, L =>
    let Lm := L.setIfInBounds m true
    let p := L.getD m true
    if k = 0 then
      i != m && ((ops[i]?).map pureOp).getD false && (tl.all fun t => waitsT ops 9 t i) && (Region.ready .any ops L).contains i && Region.free .any ops L i &&
        (p || ((Region.ready .any ops Lm).contains i && Region.free .any ops Lm i && Region.free .any ops L m)) && ordB ops tl fin m π (L.setIfInBounds i true)
    else
      i != m && (if p then decide (Region.ready .any ops L = [i]) else ((Region.ready .any ops L).all fun j => j == i || j == m) && (Region.ready .any ops L).contains i && decide (Region.ready .any ops Lm = [i]) && Region.free .any ops L m) &&
        ordB ops tl fin m π (L.setIfInBounds i true)

/-- What the walk of the operations at the end must achieve. -/
def wpT (P : Program) (ops : Array Oper) (Q : Exit → Act → World → Prop) : List (Nat × Nat) → Act → World → Prop
  | [], a, W => Q .normal a W
  | (i, k) :: τ, a, W =>
    match ops[i]? with
    | none => False
    | some o =>
      if k = 0 then wpQuiet P ops (fun _ => True) (fun a' => wpT P ops Q τ a' W) [o] a
      else wpList P ops (Exit.then (fun a' W' => wpT P ops Q τ a' W') Q) [o] a W
/-- What the walk must achieve from the operations on that stand ahead of the new variable. ('dm': its slot; 'cs', 't': what it holds at first, and its type; 'B': its block lies from there on.) -/
def wpA (P : Program) (ops : Array Oper) (Q : Exit → Act → World → Prop) (τ : List (Nat × Nat)) (dm : Option Tmp) (B : Nat) (t : TypeId) (cs : Array Value) : List Nat → Act → World → Prop
  | [], a, W => ∀ X g, Blk (ov W X) g t cs → B ≤ g → wpT P ops Q τ (a.put dm (.pointer (some ⟨g, 0, none⟩))) (ov W X)
  | i :: σ, a, W =>
    match ops[i]? with
    | none => False
    | some o => wpQuiet P ops (fun _ => True) (fun a' => wpA P ops Q τ dm B t cs σ a' W) [o] a
/-- What the walk in that order must achieve. -/
def wpG (P : Program) (ops : Array Oper) (Q : Exit → Act → World → Prop) (T : Act → World → Prop) : List (Nat × Nat) → Act → World → Prop
  | [], a, W => ∀ X, T a (ov W X)
  | (i, k) :: π, a, W =>
    match ops[i]? with
    | none => False
    | some o =>
      if k = 0 then wpQuiet P ops (fun W' => ∃ X, W' = ov W X) (fun a' => wpG P ops Q T π a' W) [o] a
      else ∀ X, wpList P ops (Exit.then (fun a' W' => Fwd (Ov (ov W X) W') (wpG P ops Q T π a' W')) Q) [o] a (ov W X)

section
variable {T : Act → World → Prop} {dm : Option Tmp} {B : Nat} {t : TypeId} {cs : Array Value} {i : Nat} {π τ : List (Nat × Nat)} {σ : List Nat} {a : Act} {W : World} {o : Oper}
theorem wpG_end (h : ∀ X, T a (ov W X)) : wpG P ops Q T [] a W := h
theorem wpG_reads_iff (hi : ops[i]? = some o) : wpG P ops Q T ((i, 0) :: π) a W ↔ wpQuiet P ops (fun W' => ∃ X, W' = ov W X) (fun a' => wpG P ops Q T π a' W) [o] a := by
  conv => lhs; unfold wpG
  simp only [hi, if_true]
theorem wpG_forced_iff (hi : ops[i]? = some o) {k : Nat} (h0 : k ≠ 0) : wpG P ops Q T ((i, k) :: π) a W ↔ ∀ X, wpList P ops (Exit.then (fun a' W' => Fwd (Ov (ov W X) W') (wpG P ops Q T π a' W')) Q) [o] a (ov W X) := by
  conv => lhs; unfold wpG
  simp only [hi, h0, if_false]

/-- Place i of a list, so that it comes out written. -/
def nth {α : Type} : List α → Nat → Option α
  | [], _ => none
  | x :: _, 0 => some x
  | _ :: l, n + 1 => nth l n
theorem nth_eq {α : Type} : ∀ (l : List α) (i : Nat), l.toArray[i]? = nth l i
  | [], i => by simp [nth]
  | x :: l, 0 => by simp [nth]
  | x :: l, i + 1 => by have := nth_eq l i; simpa [nth] using this
theorem wpG_readsL {l : List Oper} (hi : nth l i = some o) (h : wpQuiet P l.toArray (fun W' => ∃ X, W' = ov W X) (fun a' => wpG P l.toArray Q T π a' W) [o] a) : wpG P l.toArray Q T ((i, 0) :: π) a W :=
  (wpG_reads_iff ((nth_eq l i).trans hi)).2 h
theorem wpG_forcedL {l : List Oper} (hi : nth l i = some o)
    (h : ∀ X, wpList P l.toArray (Exit.then (fun a' W' => Fwd (Ov (ov W X) W') (wpG P l.toArray Q T π a' W')) Q) [o] a (ov W X)) : wpG P l.toArray Q T ((i, 1) :: π) a W :=
  (wpG_forced_iff ((nth_eq l i).trans hi) (by decide)).2 h
theorem wpA_readsL {l : List Oper} (hi : nth l i = some o) (h : wpQuiet P l.toArray (fun _ => True) (fun a' => wpA P l.toArray Q τ dm B t cs σ a' W) [o] a) : wpA P l.toArray Q τ dm B t cs (i :: σ) a W := by
  unfold wpA; simp only [(nth_eq l i).trans hi]; exact h
theorem wpA_newL {l : List Oper} (h : ∀ X g, Blk (ov W X) g t cs → B ≤ g → wpT P l.toArray Q τ (a.put dm (.pointer (some ⟨g, 0, none⟩))) (ov W X)) : wpA P l.toArray Q τ dm B t cs [] a W := h
theorem wpT_end (h : Q .normal a W) : wpT P ops Q [] a W := h
theorem wpT_assignL {l : List Oper} (hi : nth l i = some o) (h : wpQuiet P l.toArray (fun _ => True) (fun a' => wpT P l.toArray Q τ a' W) [o] a) : wpT P l.toArray Q ((i, 0) :: τ) a W := by
  unfold wpT; simp only [(nth_eq l i).trans hi, if_true]; exact h
theorem wpT_forcedL {l : List Oper} (hi : nth l i = some o) (h : wpList P l.toArray (Exit.then (fun a' W' => wpT P l.toArray Q τ a' W') Q) [o] a W) : wpT P l.toArray Q ((i, 1) :: τ) a W := by
  unfold wpT; simp only [(nth_eq l i).trans hi, Nat.one_ne_zero, if_false]; exact h

theorem yields_of_quiet (hp : pureOp o = true) {K : Act → Prop} (h : wpQuiet P ops (fun W' => ∃ X, W' = ov W X) K [o] a) : ∃ v, YieldsP P ops o v a W ∧ K (a.put o.dst v) := by
  unfold wpQuiet at h
  split at h
  · rename_i hw
    obtain ⟨v, h1, h2⟩ := h
    refine ⟨v, .inl ⟨hw, fun W' ho => ?_⟩, h2⟩
    have h3 := h1 W' ho
    unfold Oper.quietAt at h3
    have hne := fun f args w' => pureOp_noEnter (P := P) (ρ := a.eval) hp (w := W') (w' := w') (f := f) (args := args)
    generalize (execOp a.eval o).run P W' = r at *
    cases r with
    | ok n w' =>
      cases n <;> simp only [Oper.quietUpon] at h3
      case value u => obtain ⟨rfl, rfl⟩ := h3; exact .inl rfl
      case skip => obtain ⟨rfl, rfl⟩ := h3; exact .inr ⟨rfl, rfl⟩
      case enter f args => exact absurd rfl (hne f args w')
    | halt x w' => simp only [Oper.quietUpon] at h3
  · rename_i hw
    exact ⟨undef, .inr ⟨by simpa using hw, rfl⟩, h⟩

theorem yields_of_free (hp : pureOp o = true) {K : Act → Prop} (h : wpQuiet P ops (fun _ => True) K [o] a) : ∃ v, Yields P ops o v a ∧ K (a.put o.dst v) := by
  unfold wpQuiet at h
  split at h
  · rename_i hw
    obtain ⟨v, h1, h2⟩ := h
    refine ⟨v, .inl ⟨hw, fun w => ?_⟩, h2⟩
    have h3 := h1 w trivial
    unfold Oper.quietAt at h3
    have hv := fun n w' => pureOp_value (P := P) (ρ := a.eval) hp (w := w) (w' := w') (n := n)
    generalize (execOp a.eval o).run P w = r at *
    cases r with
    | ok n w' =>
      obtain ⟨u, rfl⟩ := hv n w' rfl
      simp only [Oper.quietUpon] at h3
      rw [h3.1, h3.2]
    | halt x w' => simp only [Oper.quietUpon] at h3
  · rename_i hw
    exact ⟨undef, .inr ⟨by simpa using hw, rfl⟩, h⟩
theorem Yields.put {oj : Oper} {v u : Value} (hs : ∀ cs b, o.op ≠ .select cs b) (hap : o.apart ops oj = true) (hy : Yields P ops o v a) : Yields P ops o v (a.put oj.dst u) := by
  obtain ⟨_, _, h3⟩ := Oper.apart_spec hap
  unfold Yields at *
  rw [execOp_put o hs a oj.dst u h3, wanted_put o a oj.dst u h3]
  exact hy

theorem wpOp_of_list (hi : ops[i]? = some o) {K : Act → World → Prop} (h : wpList P ops (Exit.then K Q) [o] a W) : wpOp P ops Q i K a W := by
  unfold wpList at h
  unfold wpOp
  simp only [hi]
  split
  · rename_i hw
    rw [if_pos hw] at h
    rcases h with h | h
    · left
      unfold Oper.wp at *
      generalize (execOp a.eval o).run P W = r at *
      cases r with
      | ok n w' =>
        cases n <;> simp only [Oper.upon] at h ⊢ <;>
          first
            | exact h
            | exact Calls.mono h (fun e w'' he => by cases e <;> exact he)
            | exact Rows.mono h (fun _ _ he => he)
      | halt x w' => cases x <;> simp only [Oper.upon] at h ⊢ <;> exact h
    · exact .inr ⟨h.1, h.2⟩
  · rename_i hw
    rw [if_neg hw] at h
    exact h

/-- An operation that is apart, the other way round. -/
theorem wpOp_unput {j : Nat} {oi oj : Oper} {v : Value} (hj : ops[j]? = some oj) (hap : oi.apart ops oj = true) (hsj : ∀ cs b, oj.op ≠ .select cs b)
    (hQ : ∀ c (a : Act) d v w, Q (.panic c) a w → Q (.panic c) (a.put d v) w) {K : Act → World → Prop} (h : wpOp P ops Q j K a W) :
    wpOp P ops Q j (fun a' W' => ∃ b, a' = b.put oi.dst v ∧ K b W') (a.put oi.dst v) W := by
  obtain ⟨h1, h2, _⟩ := Oper.apart_spec hap
  unfold wpOp at *
  simp only [hj] at *
  rw [wanted_put oj a oi.dst v h1]
  split
  · rename_i hw
    simp only [hw, if_true] at h
    rcases h with h | h
    · left
      unfold Oper.wp at *
      rw [execOp_put oj hsj a oi.dst v h1]
      generalize (execOp a.eval oj).run P W = r at *
      cases r with
      | ok n w' =>
        cases n <;> simp only [Oper.upon] at h ⊢
        case value u => exact ⟨_, Act.put_comm a v u h2, h⟩
        case skip => exact ⟨_, Act.put_comm a v undef h2, h⟩
        case defer d => exact ⟨_, by rw [Act.put_defers]; exact Act.put_comm _ v undef h2, h⟩
        case enter f args =>
          refine Calls.mono h fun e w'' he => ?_
          cases e with
          | returned u => exact ⟨_, Act.put_comm a v u h2, he⟩
          | panicked c => exact hQ _ _ _ _ _ he
          | outgrown => exact he
        case row row args => exact Rows.mono h fun u w'' he => ⟨_, Act.put_comm a v u h2, he⟩
      | halt x w' =>
        cases x <;> simp only [Oper.upon] at h ⊢
        case panic u => exact hQ _ _ _ _ _ h
    · right
      refine ⟨?_, h.2⟩
      have := h.1
      unfold Oper.asks at *
      rwa [execOp_put oj hsj a oi.dst v h1]
  · rename_i hw
    simp only [hw] at h
    exact ⟨_, Act.put_comm a v undef h2, h⟩

theorem apart_symm {x y : Oper} (h : x.apart ops y = true) : y.apart ops x = true := by
  obtain ⟨h1, h2, h3⟩ := Oper.apart_spec h
  unfold Oper.apart
  cases hy : y.dst with
  | none =>
    cases hx : x.dst with
    | none => rfl
    | some d => simpa using h1 d hx
  | some e =>
    have := h3 e hy
    cases hx : x.dst with
    | none => simpa using this
    | some d =>
      have h4 := h2 d hx
      have h5 := h1 d hx
      rw [hy] at h4
      simp only [Bool.and_eq_true, Bool.not_eq_true', List.contains_eq_mem, decide_eq_false_iff_not, bne_iff_ne]
      exact ⟨⟨by simpa using this, fun e' => h4 (by injection e' with e'; rw [e'])⟩, by simpa using h5⟩

theorem getD_set_self (L : Array Bool) (m : Nat) : (L.setIfInBounds m true).getD m true = true := by
  rcases Nat.lt_or_ge m L.size with h | h
  · simp [h]
  · simp [h]

theorem any_of_tail (hs : Region.noSelect ops = true) (hQ : ∀ c (a : Act) d v w, Q (.panic c) (a.put d v) w ↔ Q (.panic c) a w) :
    ∀ (τ : List (Nat × Nat)) (L : Array Bool) (a : Act) (W : World), ordT ops τ L = true → wpT P ops Q τ a W → wpAny P .any ops Q τ.length L a W
  | [], L, a, W, hB, h => ⟨by simpa [ordT] using hB, h⟩
  | (i, k) :: τ, L, a, W, hB, h => by
    unfold ordT at hB
    unfold wpT at h
    simp only [Bool.and_eq_true] at hB
    cases hi : ops[i]? with
    | none => rw [hi] at h; exact h.elim
    | some o =>
      simp only [hi] at h hB
      by_cases h0 : k = 0
      · subst h0
        simp only [if_true, Option.map_some, Option.getD_some, Bool.and_eq_true] at h hB
        obtain ⟨⟨⟨hp, hr⟩, hf⟩, hB'⟩ := hB
        obtain ⟨v, hy, hh⟩ := yields_of_free hp h
        exact wpAny_take hi hs hf hr (fun c a w => (hQ c a _ _ w).1) hy (any_of_tail hs hQ τ _ _ _ hB' hh)
      · simp only [h0, if_false, decide_eq_true_eq] at h hB
        refine ⟨fun e => (by rw [hB.1] at e; cases e), fun j hj => ?_⟩
        rw [hB.1] at hj
        obtain rfl : j = i := by simpa using hj
        exact wpOp_mono (fun a' W' hh => any_of_tail hs hQ τ _ _ _ hB.2 hh) (wpOp_of_list hi h)

theorem waits_of_all {tl : List Nat} (h : (tl.all fun t => waitsT ops 9 t i) = true) : ∀ j, tl.contains j = true → waitsT ops 9 j i = true := fun j hj =>
  List.all_eq_true.1 h j (by simpa using hj)
theorem closed_none (ops : Array Oper) (n : Nat) : Closed ops (Array.replicate n false) := fun j _ _ h => by rw [getD_replicate_false] at h; cases h

/-- No new variable is awaited. -/
theorem any_of_walk (hsel : ∀ (j : Nat) (o : Oper) cs b, ops[j]? = some o → o.op ≠ .select cs b) (hQ : ∀ c (a : Act) d v w, Q (.panic c) (a.put d v) w ↔ Q (.panic c) a w) {tl : List Nat} {fin : Array Bool → Bool}
    {E : Array Bool → Act → World → Prop} (hE : ∀ L a W, E L a W → ∀ j ∈ Region.ready .any ops L, tl.contains j = true) (m : Nat) (hm : ops[m]? = none)
    (hT : ∀ L a W, Closed ops L → ((Region.ready .any ops L).all fun j => tl.contains j) = true → fin L = true → T a W → E L a W) :
    ∀ (π : List (Nat × Nat)) (L : Array Bool) (a : Act) (W : World), L.size = ops.size → Closed ops L → ordB ops tl fin m π L = true → wpG P ops Q T π a W → AnyE P ops Q E π.length L a W
  | [], L, a, W, hsz, hcl, hB, h => by
    simp only [ordB, Bool.and_eq_true] at hB
    intro W' ho
    obtain ⟨X, rfl⟩ := ho
    refine hT L a _ hcl (List.all_eq_true.2 fun j hj => ?_) hB.2 (h X)
    have h1 := List.all_eq_true.1 hB.1 j hj
    simp only [Bool.or_eq_true, beq_iff_eq] at h1
    rcases h1 with h1 | rfl
    · exact h1
    · obtain ⟨_, oj, hoj, _⟩ := mem_ready.1 hj
      rw [hm] at hoj
      cases hoj
  | (i, k) :: π, L, a, W, hsz, hcl, hB, h => by
    have hmt : L.getD m true = true := by
      rcases Nat.lt_or_ge m ops.size with h' | h'
      · rw [Array.getElem?_eq_getElem h'] at hm; cases hm
      · simp [Array.getElem?_eq_none (show L.size ≤ m by omega)]
    unfold ordB at hB
    simp only [hmt, Bool.true_or, Bool.and_true, if_true] at hB
    have hsz' : (L.setIfInBounds i true).size = ops.size := by simpa using hsz
    by_cases h0 : k = 0
    · subst h0
      simp only [if_true, Bool.and_eq_true, bne_iff_ne] at hB
      obtain ⟨⟨⟨⟨⟨him, hp⟩, hwt⟩, hr⟩, hf⟩, hB'⟩ := hB
      cases hi : ops[i]? with
      | none => rw [hi] at hp; cases hp
      | some o =>
        rw [hi] at hp
        obtain ⟨v, hy, hK⟩ := yields_of_quiet (by simpa using hp) ((wpG_reads_iff hi).1 h)
        exact AnyE.first hE (waits_of_all hwt) hi hsel (fun c a d v w => (hQ c a d v w).1) _ _ _ _ hcl (Region.free_spec hi hf) (by simpa using hr) hy
          (any_of_walk hsel hQ hE m hm hT π _ _ _ hsz' (hcl.set (by simpa using hr)) hB' hK)
    · simp only [h0, if_false, Bool.and_eq_true, bne_iff_ne, decide_eq_true_eq] at hB
      obtain ⟨⟨him, hr⟩, hB'⟩ := hB
      intro W' ho
      refine ⟨fun e => (by rw [hr] at e; cases e), fun j hj => ?_⟩
      rw [hr] at hj
      obtain rfl : j = i := by simpa using hj
      cases hi : ops[j]? with
      | none => unfold wpG at h; rw [hi] at h; exact h.elim
      | some o =>
        obtain ⟨X, rfl⟩ := ho
        exact wpOp_mono (fun a' W'' hh => ⟨hh.ov, any_of_walk hsel hQ hE m hm hT π _ _ _ hsz' (hcl.set (by rw [hr]; simp)) hB' hh.go⟩) (wpOp_of_list hi ((wpG_forced_iff hi h0).1 h X))

/-- A region without a new variable, walked in the order π, then τ. -/
theorem wp_region_order {id : Nat} {l : List Oper} {w : World} (π τ : List (Nat × Nat)) (hm : P.follows .mixedOrders = true)
    (hB : (Region.noSelect l.toArray && decide (π.length + τ.length = l.length) && ordB l.toArray (τ.map (·.1)) (ordT l.toArray τ) l.length π (Array.replicate l.length false)) = true)
    (hQ : ∀ c (a : Act) d v w, Q (.panic c) (a.put d v) w ↔ Q (.panic c) a w)
    (h : wpG P l.toArray Q (wpT P l.toArray Q τ) π a w.drew) : (Code.region id l.toArray true).wp P Q a w := by
  simp only [Bool.and_eq_true, decide_eq_true_eq] at hB
  obtain ⟨⟨hs, hl⟩, hB⟩ := hB
  refine wp_region_any hm ?_
  have := AnyE.any (r := τ.length) (E := fun L a W => ((Region.ready .any l.toArray L).all fun j => (τ.map (·.1)).contains j) = true ∧ wpAny P .any l.toArray Q τ.length L a W) (fun L a W h => h.2) _ _ _ _
    (any_of_walk (tl := τ.map (·.1)) (fin := ordT l.toArray τ) (Region.noSelect_spec hs) hQ (fun L a W h j hj => List.all_eq_true.1 h.1 j hj) l.length (by simp)
      (fun L a W _ h1 h2 h3 => ⟨h1, any_of_tail hs hQ τ L a W h2 h3⟩) π _ a w.drew (by simp) (closed_none _ _) hB h)
  rw [hl] at this
  simpa using this

/-! ### One new variable, which may come at any time -/
section
variable {m : Nat} {om : Oper} {tl : List Nat} {fin : Array Bool → Bool} {E : Array Bool → Act → World → Prop} {r : Nat}

/-- Any order, the new variable awaited: 'E' takes over where it has come. -/
def AnyP (P : Program) (ops : Array Oper) (Q : Exit → Act → World → Prop) (E : Array Bool → Act → World → Prop) (tl : List Nat) (r m : Nat) (dm : Option Tmp) (t : TypeId) (cs : Array Value) : Nat → Array Bool → Act → World → Prop
  | 0, L, a, W => ∀ W', Ov W W' → AnyE P ops Q E 0 (L.setIfInBounds m true) (a.put dm (.pointer (some ⟨W'.heap.size, 0, none⟩))) (W'.alloc (.cells cs t)) ∧
      (∀ j ∈ Region.ready .any ops L, j = m ∨ tl.contains j = true) ∧ wpAny P .any ops Q (r + 1) L a W'
  | f + 1, L, a, W => ∀ W', Ov W W' → AnyE P ops Q E (f + 1) (L.setIfInBounds m true) (a.put dm (.pointer (some ⟨W'.heap.size, 0, none⟩))) (W'.alloc (.cells cs t)) ∧
      Region.ready .any ops L ≠ [] ∧ ∀ j ∈ Region.ready .any ops L, j ≠ m → wpOp P ops Q j (fun a' W'' => Ov W' W'' ∧ AnyP P ops Q E tl r m dm t cs f (L.setIfInBounds j true) a' W'') a W'

theorem AnyP.later {f : Nat} {L : Array Bool} {W' : World} (h : AnyP P ops Q E tl r m dm t cs f L a W) (o : Ov W W') : AnyP P ops Q E tl r m dm t cs f L a W' := by
  cases f <;> exact fun W'' h'' => h W'' (o.trans h'')
theorem AnyP.come {f : Nat} {L : Array Bool} {W' : World} (h : AnyP P ops Q E tl r m dm t cs f L a W) (o : Ov W W') :
    AnyE P ops Q E f (L.setIfInBounds m true) (a.put dm (.pointer (some ⟨W'.heap.size, 0, none⟩))) (W'.alloc (.cells cs t)) := by
  cases f <;> exact (h W' o).1

theorem AnyP.any (hom : ops[m]? = some om) (hg : om.guard = none) (hal : ∀ (a : Act) (W : World), (execOp a.eval om).run P W = .ok (.value (.pointer (some ⟨W.heap.size, 0, none⟩))) (W.alloc (.cells cs t)))
    (hE : ∀ L a W, E L a W → wpAny P .any ops Q r L a W) : ∀ (f : Nat) (L : Array Bool) (a : Act) (W : World), AnyP P ops Q E tl r m om.dst t cs f L a W → wpAny P .any ops Q (f + (r + 1)) L a W
  | 0, L, a, W, h => by rw [Nat.zero_add]; exact (h W (Ov.refl W)).2.2
  | f + 1, L, a, W, h => by
    obtain ⟨h1, h2, h3⟩ := h W (Ov.refl W)
    rw [show f + 1 + (r + 1) = (f + (r + 1)) + 1 by omega]
    refine ⟨fun e => absurd e h2, fun j hj => ?_⟩
    by_cases hjm : j = m
    · subst hjm
      unfold wpOp
      simp only [hom]
      rw [if_pos (by simp [Region.wanted, hg])]
      left
      unfold Oper.wp
      rw [hal]
      have := AnyE.any hE _ _ _ _ h1
      rw [show f + 1 + r = f + (r + 1) by omega] at this
      exact this
    · exact wpOp_mono (fun a' w' hh => AnyP.any hom hg hal hE f _ a' w' hh.2) (h3 j hj hjm)

/-- An operation that reads may be taken first. -/
theorem AnyP.first (hE : ∀ L a W, E L a W → ∀ j ∈ Region.ready .any ops L, tl.contains j = true) {i : Nat} {N : Nat} (hT : ∀ j, tl.contains j = true → waitsT ops N j i = true) {oi : Oper} {v : Value} (hi : ops[i]? = some oi)
    (hsel : ∀ (j : Nat) (o : Oper) cs b, ops[j]? = some o → o.op ≠ .select cs b) (hQ : ∀ c (a : Act) d v w, Q (.panic c) (a.put d v) w → Q (.panic c) a w) (him : i ≠ m) (hom : ops[m]? = some om) (hoa : om.after = #[]) :
    ∀ (f : Nat) (L : Array Bool) (a : Act) (W : World), Closed ops L → L.getD m true = false →
      (∀ j oj, ops[j]? = some oj → j ≠ i → L.getD j true = false → (∀ e ∈ oj.after, Region.binds .any e = true → e.on ≠ i) → oi.apart ops oj = true) →
      i ∈ Region.ready .any ops L → YieldsP P ops oi v a W →
      AnyP P ops Q E tl r m om.dst t cs f (L.setIfInBounds i true) (a.put oi.dst v) W → AnyP P ops Q E tl r m om.dst t cs (f + 1) L a W := by
  have come : ∀ (f : Nat) (L : Array Bool) (a : Act) (W : World), Closed ops L → L.getD m true = false →
      (∀ j oj, ops[j]? = some oj → j ≠ i → L.getD j true = false → (∀ e ∈ oj.after, Region.binds .any e = true → e.on ≠ i) → oi.apart ops oj = true) →
      i ∈ Region.ready .any ops L → YieldsP P ops oi v a W → ∀ W', Ov W W' →
      AnyE P ops Q E f ((L.setIfInBounds i true).setIfInBounds m true) ((a.put oi.dst v).put om.dst (.pointer (some ⟨W'.heap.size, 0, none⟩))) (W'.alloc (.cells cs t)) →
      AnyE P ops Q E (f + 1) (L.setIfInBounds m true) (a.put om.dst (.pointer (some ⟨W'.heap.size, 0, none⟩))) (W'.alloc (.cells cs t)) := by
    intro f L a W hcl hm hfree hr hy W' ho h
    have hmr : m ∈ Region.ready .any ops L := mem_ready.2 ⟨hm, om, hom, fun e he _ => by rw [hoa] at he; simp at he⟩
    have hap : oi.apart ops om = true := hfree m om hom (Ne.symm him) hm fun e he _ => by rw [hoa] at he; simp at he
    rw [Act.put_comm a v _ (Oper.apart_spec hap).2.1, Array.setIfInBounds_comm _ _ him] at h
    refine AnyE.first hE hT hi hsel hQ _ _ _ _ (hcl.set hmr) (fun j oj hj hji hun hno => hfree j oj hj hji ?_ hno) (ready_mono hr him) ((hy.put (fun cs b => hsel i oi cs b hi) hap).later (ho.alloc _)) h
    by_cases hjm : m = j
    · subst hjm; exact hm
    · rwa [getD_set_ne true hjm] at hun
  intro f
  induction f with
  | zero =>
    intro L a W hcl hm hfree hr hy H W' ho
    refine ⟨come _ _ _ _ hcl hm hfree hr hy W' ho (H W' ho).1, fun h => (by rw [h] at hr; cases hr), fun j hj hjm => ?_⟩
    by_cases hji : j = i
    · subst hji; exact hy.wpOp hi ho ⟨Ov.refl _, H.later ho⟩
    · obtain ⟨_, oj, hoj, hall⟩ := mem_ready.1 hj
      rcases (H W' ho).2.1 j (ready_mono hj hji) with e | e
      · exact absurd e hjm
      · exact absurd hall (waitsT_not hcl (getD_both (mem_ready.1 hr).1) N j (hT j e) oj hoj)
  | succ f ih =>
    intro L a W hcl hm hfree hr hy H W' ho
    refine ⟨come _ _ _ _ hcl hm hfree hr hy W' ho (H W' ho).1, fun h => (by rw [h] at hr; cases hr), fun j hj hjm => ?_⟩
    by_cases hji : j = i
    · subst hji; exact hy.wpOp hi ho ⟨Ov.refl _, H.later ho⟩
    · have h1 := (H W' ho).2.2 j (ready_mono hj hji) hjm
      obtain ⟨hjun, oj, hoj, hall⟩ := mem_ready.1 hj
      have hiun := (mem_ready.1 hr).1
      have hnot : ∀ e ∈ oj.after, Region.binds .any e = true → e.on ≠ i := fun e he hb heq => by
        have h1 := hall e he hb
        rw [heq, getD_both hiun] at h1
        cases h1
      have hap := hfree j oj hoj hji hjun hnot
      have h2 := wpOp_put hoj hap (fun cs b => hsel j oj cs b hoj) hQ (fun cs b => hsel i oi cs b hi) h1
      have hfree' : ∀ k ok, ops[k]? = some ok → k ≠ i → (L.setIfInBounds j true).getD k true = false →
          (∀ e ∈ ok.after, Region.binds .any e = true → e.on ≠ i) → oi.apart ops ok = true := fun k ok hk hki hun hno => by
        refine hfree k ok hk hki ?_ hno
        by_cases hjk : j = k
        · subst hjk; exact hjun
        · rw [getD_set_ne true hjk] at hun; exact hun
      refine wpOp_mono (fun a' W'' ⟨hya, ho2, h3⟩ => ⟨ho2, ih (L.setIfInBounds j true) a' W'' (hcl.set hj) (by rw [getD_set_ne true hjm]; exact hm) hfree' (ready_mono hr (Ne.symm hji)) ((hya _ (hy.later ho)).later ho2) ?_⟩) h2
      rw [Array.setIfInBounds_comm _ _ hji]
      exact h3

/-- Behind the operations of π: those that read no memory, the new variable, the end. -/
theorem any_of_new (hs : Region.noSelect ops = true) (hQ : ∀ c (a : Act) d v w, Q (.panic c) (a.put d v) w ↔ Q (.panic c) a w) (hom : ops[m]? = some om) (hg : om.guard = none) (hoa : om.after = #[])
    (hal : ∀ (a : Act) (W : World), (execOp a.eval om).run P W = .ok (.value (.pointer (some ⟨W.heap.size, 0, none⟩))) (W.alloc (.cells cs t))) :
    ∀ (σ : List Nat) (L : Array Bool) (a : Act) (W : World), ordA ops τ m σ L = true → L.getD m true = false → B ≤ W.heap.size → wpA P ops Q τ om.dst B t cs σ a W →
      (∀ W', Ov W W' → wpAny P .any ops Q (σ.length + τ.length + 1) L a W') ∧
      ∀ W' g, Ov W W' → Blk W' g t cs → B ≤ g → wpAny P .any ops Q (σ.length + τ.length) (L.setIfInBounds m true) (a.put om.dst (.pointer (some ⟨g, 0, none⟩))) W'
  | [], L, a, W, hB, hm, hb, h => by
    simp only [ordA, Bool.and_eq_true, decide_eq_true_eq] at hB
    have two : ∀ W' g, Ov W W' → Blk W' g t cs → B ≤ g → wpAny P .any ops Q (([] : List Nat).length + τ.length) (L.setIfInBounds m true) (a.put om.dst (.pointer (some ⟨g, 0, none⟩))) W' := by
      rintro W' g ⟨X, rfl⟩ hk hg'
      have := any_of_tail hs hQ τ _ _ _ hB.2 (h X g hk hg')
      simpa using this
    refine ⟨fun W' ho => ⟨fun e => (by rw [hB.1] at e; cases e), fun j hj => ?_⟩, two⟩
    rw [hB.1] at hj
    obtain rfl : j = m := by simpa using hj
    unfold wpOp
    simp only [hom]
    rw [if_pos (by simp [Region.wanted, hg])]
    left
    unfold Oper.wp
    rw [hal]
    exact two _ _ (ho.alloc _) (Blk.new W' t cs) (Nat.le_trans hb ho.size)
  | i :: σ, L, a, W, hB, hm, hb, h => by
    simp only [ordA, Bool.and_eq_true, bne_iff_ne] at hB
    obtain ⟨⟨⟨⟨⟨him, hp⟩, hr⟩, hf⟩, ⟨hrm, hfm⟩, hfr⟩, hB'⟩ := hB
    unfold wpA at h
    cases hi : ops[i]? with
    | none => rw [hi] at hp; cases hp
    | some o =>
      rw [hi] at hp
      simp only [hi] at h
      obtain ⟨v, hy, hh⟩ := yields_of_free (by simpa using hp) h
      obtain ⟨ih1, ih2⟩ := any_of_new hs hQ hom hg hoa hal σ _ _ W hB' (by rw [getD_set_ne true him]; exact hm) hb hh
      have hri : i ∈ Region.ready .any ops L := by simpa using hr
      obtain ⟨hiun, oi, hoi, hall⟩ := mem_ready.1 hri
      obtain rfl : o = oi := Option.some.inj (hi.symm.trans hoi)
      have hap : o.apart ops om = true := Region.free_spec hi hf m om hom (Ne.symm him) hm fun e he _ => by rw [hoa] at he; simp at he
      refine ⟨fun W' ho => ?_, fun W' g ho hk hg' => ?_⟩
      · have := wpAny_take hi hs hf hr (fun c a w => (hQ c a _ _ w).1) hy (ih1 W' ho)
        rwa [show (i :: σ).length + τ.length + 1 = σ.length + τ.length + 1 + 1 by simp; omega]
      · have h2 := ih2 W' g ho hk hg'
        rw [Act.put_comm a v _ (Oper.apart_spec hap).2.1, Array.setIfInBounds_comm _ _ him] at h2
        have := wpAny_take hi hs hfm hrm (fun c a w => (hQ c a _ _ w).1) (Yields.put (fun cs b => Region.noSelect_spec hs i o cs b hi) hap hy) h2
        rwa [show (i :: σ).length + τ.length = σ.length + τ.length + 1 by simp; omega]

/-- The new variable is awaited, or has come. -/
theorem any_of_walk_new (hsel : ∀ (j : Nat) (o : Oper) cs b, ops[j]? = some o → o.op ≠ .select cs b) (hQ : ∀ c (a : Act) d v w, Q (.panic c) (a.put d v) w ↔ Q (.panic c) a w) (hom : ops[m]? = some om)
    (hg : om.guard = none) (hoa : om.after = #[]) (hE : ∀ L a W, E L a W → ∀ j ∈ Region.ready .any ops L, tl.contains j = true)
    (hT : ∀ L a W, L.getD m true = false → B ≤ W.heap.size → fin L = true → T a W → (∀ W', Ov W W' → wpAny P .any ops Q (r + 1) L a W') ∧ ∀ W' g, Ov W W' → Blk W' g t cs → B ≤ g → E (L.setIfInBounds m true) (a.put om.dst (.pointer (some ⟨g, 0, none⟩))) W') :
    ∀ (π : List (Nat × Nat)) (L : Array Bool) (a : Act) (W : World), Closed ops L → ordB ops tl fin m π L = true → L.getD m true = false → B ≤ W.heap.size → wpG P ops Q T π a W →
      (∀ W' g, Ov W W' → Blk W' g t cs → B ≤ g → AnyE P ops Q E π.length (L.setIfInBounds m true) (a.put om.dst (.pointer (some ⟨g, 0, none⟩))) W') ∧ AnyP P ops Q E tl r m om.dst t cs π.length L a W
  | [], L, a, W, hcl, hB, hm, hb, h => by
    simp only [ordB, Bool.and_eq_true] at hB
    have two : ∀ W' g, Ov W W' → Blk W' g t cs → B ≤ g → AnyE P ops Q E ([] : List (Nat × Nat)).length (L.setIfInBounds m true) (a.put om.dst (.pointer (some ⟨g, 0, none⟩))) W' := by
      rintro W' g ho hk hg' W'' ho''
      obtain ⟨X, hX⟩ := ho.trans ho''
      have := (hT L a W'' hm (Nat.le_trans hb (ho.trans ho'').size) hB.2 (by rw [hX]; exact h X)).2 W'' g (Ov.refl _) (hk.keep ho'') hg'
      exact this
    refine ⟨two, fun W' ho => ⟨two _ _ (ho.alloc _) (Blk.new W' t cs) (Nat.le_trans hb ho.size), fun j hj => ?_, ?_⟩⟩
    · have h1 := List.all_eq_true.1 hB.1 j hj
      simp only [Bool.or_eq_true, beq_iff_eq] at h1
      exact h1.symm
    · obtain ⟨X, hX⟩ := ho
      exact (hT L a W' hm (Nat.le_trans hb (Ov.size ⟨X, hX⟩)) hB.2 (by rw [hX]; exact h X)).1 W' (Ov.refl _)
  | (i, k) :: π, L, a, W, hcl, hB, hm, hb, h => by
    have hmr : m ∈ Region.ready .any ops L := mem_ready.2 ⟨hm, om, hom, fun e he _ => by rw [hoa] at he; simp at he⟩
    have hclm := hcl.set hmr
    unfold ordB at hB
    simp only [hm, Bool.false_or, Bool.false_eq_true, if_false] at hB
    by_cases h0 : k = 0
    · subst h0
      simp only [if_true, Bool.and_eq_true, bne_iff_ne] at hB
      obtain ⟨⟨⟨⟨⟨⟨him, hp⟩, hwt⟩, hr⟩, hf⟩, ⟨hrm, hfm⟩, hfr⟩, hB'⟩ := hB
      cases hi : ops[i]? with
      | none => rw [hi] at hp; cases hp
      | some o =>
        rw [hi] at hp
        obtain ⟨v, hy, hK⟩ := yields_of_quiet (by simpa using hp) ((wpG_reads_iff hi).1 h)
        have hri : i ∈ Region.ready .any ops L := by simpa using hr
        obtain ⟨ih2, ih1⟩ := any_of_walk_new hsel hQ hom hg hoa hE hT π _ _ _ (hcl.set hri) hB' (by rw [getD_set_ne true him]; exact hm) hb hK
        obtain ⟨hiun, oi, hoi, hall⟩ := mem_ready.1 hri
        obtain rfl : o = oi := Option.some.inj (hi.symm.trans hoi)
        have hap : o.apart ops om = true := Region.free_spec hi hf m om hom (Ne.symm him) hm fun e he _ => by rw [hoa] at he; simp at he
        refine ⟨fun W' g ho hk hg' => ?_, AnyP.first hE (waits_of_all hwt) hi hsel (fun c a d v w => (hQ c a d v w).1) him hom hoa _ _ _ _ hcl hm (Region.free_spec hi hf) hri hy ih1⟩
        have h2 := ih2 W' g ho hk hg'
        rw [Act.put_comm a v _ (Oper.apart_spec hap).2.1, Array.setIfInBounds_comm _ _ him] at h2
        exact AnyE.first hE (waits_of_all hwt) hi hsel (fun c a d v w => (hQ c a d v w).1) _ _ _ _ hclm (Region.free_spec hi hfm) (by simpa using hrm) ((hy.put (fun cs b => hsel i o cs b hi) hap).later ho) h2
    · simp only [h0, if_false, Bool.and_eq_true, bne_iff_ne, decide_eq_true_eq, List.all_eq_true, Bool.or_eq_true, beq_iff_eq] at hB
      obtain ⟨⟨him, ⟨⟨hall, hr⟩, hrm⟩, hfr⟩, hB'⟩ := hB
      cases hi : ops[i]? with
      | none => unfold wpG at h; rw [hi] at h; exact h.elim
      | some o =>
        have hri : i ∈ Region.ready .any ops L := by simpa using hr
        obtain ⟨hiun, oi, hoi, hall'⟩ := mem_ready.1 hri
        obtain rfl : o = oi := Option.some.inj (hi.symm.trans hoi)
        have hapm : om.apart ops o = true := Region.free_spec hom hfr i o hi him hiun fun e he hb' heq => by
          have := hall' e he hb'
          rw [heq, getD_both hm] at this
          cases this
        have step : ∀ X, wpOp P ops Q i (fun a' W' => Fwd (Ov (ov W X) W') (wpG P ops Q T π a' W')) a (ov W X) := fun X => wpOp_of_list hi ((wpG_forced_iff hi h0).1 h X)
        have hm' : (L.setIfInBounds i true).getD m true = false := by rw [getD_set_ne true him]; exact hm
        have two : ∀ W' g, Ov W W' → Blk W' g t cs → B ≤ g → AnyE P ops Q E (π.length + 1) (L.setIfInBounds m true) (a.put om.dst (.pointer (some ⟨g, 0, none⟩))) W' := by
          intro W' g ho hk hg' W'' ho''
          refine ⟨fun e => (by rw [hrm] at e; cases e), fun j hj => ?_⟩
          rw [hrm] at hj
          obtain rfl : j = i := by simpa using hj
          obtain ⟨X, hX⟩ := ho.trans ho''
          have hs := step X
          rw [← hX] at hs
          refine wpOp_mono (fun a' W3 ⟨b, hb3, hh⟩ => ⟨hh.ov, ?_⟩) (wpOp_unput (v := .pointer (some ⟨g, 0, none⟩)) hi hapm (fun cs b => hsel j o cs b hi) (fun c a d v w => (hQ c a d v w).2) hs)
          obtain ⟨ih2, _⟩ := any_of_walk_new hsel hQ hom hg hoa hE hT π _ b W3 (hcl.set hri) hB' hm' (Nat.le_trans hb ((ho.trans ho'').trans hh.ov).size) hh.go
          rw [hb3, Array.setIfInBounds_comm _ _ (Ne.symm him)]
          exact ih2 W3 g (Ov.refl _) (hk.keep (ho''.trans hh.ov)) hg'
        refine ⟨two, fun W' ho => ⟨two _ _ (ho.alloc _) (Blk.new W' t cs) (Nat.le_trans hb ho.size), fun e => (by rw [e] at hri; cases hri), fun j hj hjm => ?_⟩⟩
        rcases hall j hj with rfl | e
        · obtain ⟨X, rfl⟩ := ho
          refine wpOp_mono (fun a' W'' hh => ⟨hh.ov, ?_⟩) (step X)
          exact (any_of_walk_new hsel hQ hom hg hoa hE hT π _ a' W'' (hcl.set hri) hB' hm' (Nat.le_trans hb (((Ov.refl W).ov_ X).trans hh.ov).size) hh.go).2
        · exact absurd e hjm

/-- A region with one new variable, at place m: the walk goes in the order π, then σ, then the new variable, then τ. -/
theorem wp_region_order_new {id : Nat} {l : List Oper} {w : World} (π : List (Nat × Nat)) (σ : List Nat) (τ : List (Nat × Nat)) (m : Nat) (om : Oper) (t : TypeId) (cs : Array Value) (hm : P.follows .mixedOrders = true)
    (hB : (Region.noSelect l.toArray && decide (π.length + (σ.length + τ.length + 1) = l.length) && ordB l.toArray (σ ++ τ.map (·.1)) (fun L => ((Region.ready .any l.toArray (L.setIfInBounds m true)).all fun j => (σ ++ τ.map (·.1)).contains j) && ordA l.toArray τ m σ L) m π (Array.replicate l.length false) && decide (m < l.length)) = true)
    (hQ : ∀ c (a : Act) d v w, Q (.panic c) (a.put d v) w ↔ Q (.panic c) a w) (hom' : nth l m = some om) (hg : om.guard = none) (hoa : om.after = #[])
    (hal : ∀ (a : Act) (W : World), (execOp a.eval om).run P W = .ok (.value (.pointer (some ⟨W.heap.size, 0, none⟩))) (W.alloc (.cells cs t)))
    (h : wpG P l.toArray Q (wpA P l.toArray Q τ om.dst w.heap.size t cs σ) π a w.drew) : (Code.region id l.toArray true).wp P Q a w := by
  have hom := (nth_eq l m).trans hom'
  simp only [Bool.and_eq_true, decide_eq_true_eq] at hB
  obtain ⟨⟨⟨hs, hl⟩, hB⟩, hml⟩ := hB
  refine wp_region_any hm ?_
  have := AnyP.any hom hg hal (r := σ.length + τ.length) (E := fun L a W => ((Region.ready .any l.toArray L).all fun j => (σ ++ τ.map (·.1)).contains j) = true ∧ wpAny P .any l.toArray Q (σ.length + τ.length) L a W) (fun L a W h => h.2) _ _ _ _
    (any_of_walk_new (tl := σ ++ τ.map (·.1)) (B := w.heap.size) (Region.noSelect_spec hs) hQ hom hg hoa (fun L a W h j hj => List.all_eq_true.1 h.1 j hj)
      (fun L a W h1 hb h2 h3 => by
        simp only [Bool.and_eq_true] at h2
        obtain ⟨p1, p2⟩ := any_of_new hs hQ hom hg hoa hal σ L a W h2.2 h1 hb h3
        exact ⟨p1, fun W' g ho hk hg' => ⟨h2.1, p2 W' g ho hk hg'⟩⟩) π _ a w.drew (closed_none _ _) hB (by simp [hml]) (Nat.le_refl _) h).2
  rw [hl] at this
  simpa using this
end
end
end
end Go.Proofs.Ytkliejppigfjiaa
