/-
  Regions, run on values by content: in the written order; and drawn ones, where the written order stands for all. (Definitions and what the run leaves.)
  Conditions: the checks of the region.
-/
import Derived.Test.YtkliejppigfjiaaFe
namespace Go.Proofs.Ytkliejppigfjiaa.Fx
open Go.RowKit

/-! ### Definitions -/
@[reducible] def guardK (ops : List Oper) (j : Nat) (fr : Fr) (K : Tmp → Bool → Prop) (S : Prop) : Prop := match lget ops j with
  | some oj => match oj.dst with
    | some t => match fget fr t with
      | some (.sc (.bool x)) => K t x
      | some (.tup vs) => match vs with
        | [] => S
        | _ :: _ => False
      | _ => False
    | none => False
  | none => False
@[reducible] def beqB : Bool → Bool → Bool
  | true, true => true
  | false, false => true
  | _, _ => false
@[reducible] def seqW (P : Program) (T : Tbl) (ops : List Oper) (l : List Oper) : Fr → SW → (Fr → SW → Prop) → Prop :=
  @List.rec Oper (fun _ => Fr → SW → (Fr → SW → Prop) → Prop) (fun fr H K => K fr H) (fun o _ ih fr H K => match o.guard with
    | none => stepW P T (ev fr) o H fun v H' _ => ih (fput fr o.dst v) H' K
    | some (j, b) => guardK ops j fr (fun t x => branch x fun x' => match beqB x' b with
      | true => stepW P T (ev ((t, B x') :: fr)) o H fun v H' _ => ih (fput ((t, B x') :: fr) o.dst v) H' K
      | false => ih (fput ((t, B x') :: fr) o.dst (.tup [])) H K) (ih (fput fr o.dst (.tup [])) H K)) l
theorem seqW_cons {P : Program} {T : Tbl} {ops : List Oper} {o : Oper} {l : List Oper} {fr : Fr} {H : SW} {K : Fr → SW → Prop} : seqW P T ops (o :: l) fr H K = (match o.guard with
    | none => stepW P T (ev fr) o H fun v H' _ => seqW P T ops l (fput fr o.dst v) H' K
    | some (j, b) => guardK ops j fr (fun t x => branch x fun x' => match beqB x' b with
      | true => stepW P T (ev ((t, B x') :: fr)) o H fun v H' _ => seqW P T ops l (fput ((t, B x') :: fr) o.dst v) H' K
      | false => seqW P T ops l (fput ((t, B x') :: fr) o.dst (.tup [])) H K) (seqW P T ops l (fput fr o.dst (.tup [])) H K)) := rfl
/-- A new variable that waits for nothing. -/
@[reducible] def fresh (o : Oper) : Bool :=
  match o.op with
  | .alloc _ => match o.after.toList with
    | [] => match o.guard with
      | none => true
      | some _ => false
    | _ :: _ => false
  | _ => false
def eff (o : Oper) : Bool := effect o && !fresh o
/-- The operations for which one waits, as bits. -/
def predOf (PD : List Nat) (o : Oper) : Nat := o.after.toList.foldl (fun m e => if Region.binds .any e then m ||| (1 <<< e.on) ||| PD.getD e.on 0 else m) 0
def preds : List Oper → List Nat → List Nat
  | [], acc => acc
  | o :: l, acc => preds l (acc ++ [predOf acc o])
def waits (PD : List Nat) (i j : Nat) : Bool := (PD.getD i 0).testBit j
/-- The place that writes a temporary. -/
def wr : List Oper → Nat → Nat → Option Nat
  | [], _, _ => none
  | o :: l, i, t => if o.dst = some t then some i else wr l (i + 1) t
/-- How many steps stand ahead of place i. -/
def rank (l : List Oper) (i : Nat) : Nat := ((l.take i).filter eff).length
def allB (p : Nat → Oper → Bool) : Nat → List Oper → Bool
  | _, [] => true
  | i, o :: l => p i o && allB p (i + 1) l
def okX : Operand → Bool
  | .global g => (ggetL gtab g).isSome
  | .const v => okConst v
  | _ => true
def okOp (o : Oper) : Bool := (o.op.operands.toList.all okX) && (match o.op with | .defer _ => false | .select .. => false | _ => true)
def staticB (ops : Array Oper) (PD : List Nat) (n : Nat) : Bool :=
  allB (fun i o =>
    okOp o && (o.after.toList.all fun e => !Region.binds .any e || decide (e.on < i)) && (PD.getD i 0 == predOf PD o) &&
    ((o.looksAt ops).all fun t => match wr ops.toList 0 t with
      | none => true
      | some j => j == i || waits PD i j || waits PD j i) &&
    (match o.dst with
      | none => true
      | some t => wr ops.toList 0 t == some i && decide (t < n)) &&
    (if eff o then allB (fun j o' => !eff o' || j ≥ i || waits PD i j) 0 ops.toList else true)) 0 ops.toList
def conflB (ops : List Oper) (PD : List Nat) (tg : List (Tag × Nat)) : Bool :=
  allB (fun i _ => match tg[i]? with
    | some (.rd b, _) => allB (fun j o' => !eff o' || j == i || waits PD i j || waits PD j i || (match tg[j]? with
      | some (.wr c, n) => !(c == b) && decide (b < n)
      | some (.all, _) => false
      | some (_, n) => decide (b < n)
      | none => false)) 0 ops
    | _ => true) 0 ops
@[reducible] def birthsW (T : Tbl) (l : List Oper) : SW → (SW → Prop) → Prop :=
  @List.rec Oper (fun _ => SW → (SW → Prop) → Prop) (fun H K => K H) (fun o _ ih H K => match fresh o with
    | true => match o.op with
      | .alloc t => match tget T t with
        | some i => spineK (lsc i.zero) fun z => pushK H (.cells z t) fun _ H' => ih H' K
        | none => False
      | _ => False
    | false => ih H K) l
theorem birthsW_cons {T : Tbl} {o : Oper} {l : List Oper} {H : SW} {K : SW → Prop} : birthsW T (o :: l) H K = (match fresh o with
    | true => match o.op with
      | .alloc t => match tget T t with
        | some i => spineK (lsc i.zero) fun z => pushK H (.cells z t) fun _ H' => birthsW T l H' K
        | none => False
      | _ => False
    | false => birthsW T l H K) := rfl
/-- The operations in turn. ('m': the next new variable; 'tg': what was read and written, newest first.) -/
@[reducible] def goD (P : Program) (T : Tbl) (ops : List Oper) (l : List Oper) : Nat → Fr → SW → List (Tag × Nat) → (Fr → SW → Prop) → Prop :=
  @List.rec Oper (fun _ => Nat → Fr → SW → List (Tag × Nat) → (Fr → SW → Prop) → Prop) (fun _ fr H tg K => ob (conflB ops (preds ops []) tg.reverse = true) (K fr H)) (fun o _ ih m fr H tg K => match fresh o with
    | true => ih (Nat.succ m) (fput fr o.dst (.ptr m 0)) H ((.no, H.n) :: tg) K
    | false => match o.guard with
      | none => stepW P T (ev fr) o H fun v H' g => ih m (fput fr o.dst v) H' ((g, H.n) :: tg) K
      | some (j, b) => guardK ops j fr (fun t x => branch x fun x' => match beqB x' b with
        | true => stepW P T (ev ((t, B x') :: fr)) o H fun v H' g => ih m (fput ((t, B x') :: fr) o.dst v) H' ((g, H.n) :: tg) K
        | false => ih m (fput ((t, B x') :: fr) o.dst (.tup [])) H ((.no, H.n) :: tg) K) (ih m (fput fr o.dst (.tup [])) H ((.no, H.n) :: tg) K)) l
theorem goD_cons {P : Program} {T : Tbl} {ops : List Oper} {o : Oper} {l : List Oper} {m : Nat} {fr : Fr} {H : SW} {tg : List (Tag × Nat)} {K : Fr → SW → Prop} : goD P T ops (o :: l) m fr H tg K = (match fresh o with
    | true => goD P T ops l (Nat.succ m) (fput fr o.dst (.ptr m 0)) H ((.no, H.n) :: tg) K
    | false => match o.guard with
      | none => stepW P T (ev fr) o H fun v H' g => goD P T ops l m (fput fr o.dst v) H' ((g, H.n) :: tg) K
      | some (j, b) => guardK ops j fr (fun t x => branch x fun x' => match beqB x' b with
        | true => stepW P T (ev ((t, B x') :: fr)) o H fun v H' g => goD P T ops l m (fput ((t, B x') :: fr) o.dst v) H' ((g, H.n) :: tg) K
        | false => goD P T ops l m (fput ((t, B x') :: fr) o.dst (.tup [])) H ((.no, H.n) :: tg) K) (goD P T ops l m (fput fr o.dst (.tup [])) H ((.no, H.n) :: tg) K)) := rfl
@[reducible] def drawW (P : Program) (T : Tbl) (ops : List Oper) (fr : Fr) (H : SW) (K : Fr → SW → Prop) : Prop :=
  birthsW T ops H fun H1 => goD P T ops ops H.n fr H1 [] K

/-! ### The order -/
theorem allB_spec {p : Nat → Oper → Bool} : ∀ {i : Nat} {l : List Oper}, allB p i l = true → ∀ (k : Nat) (o : Oper), l[k]? = some o → p (i + k) o = true
  | _, [], _, k, o, h => by simp at h
  | i, x :: l, ha, k, o, h => by
    simp only [allB, Bool.and_eq_true] at ha
    cases k with
    | zero => simp at h; subst h; exact ha.1
    | succ k =>
      have := allB_spec ha.2 k o (by simpa using h)
      rwa [show i + 1 + k = i + (k + 1) by omega] at this
theorem bit_fold (PD : List Nat) (j : Nat) : ∀ (l : List Edge) (m : Nat), (l.foldl (fun m e => if Region.binds .any e then m ||| (1 <<< e.on) ||| PD.getD e.on 0 else m) m).testBit j = true →
    m.testBit j = true ∨ ∃ e ∈ l, Region.binds .any e = true ∧ (e.on = j ∨ waits PD e.on j = true)
  | [], m, h => .inl h
  | e :: l, m, h => by
    simp only [List.foldl_cons] at h
    rcases bit_fold PD j l _ h with h | ⟨e', he', hb, hh⟩
    · split at h
      · rename_i hb
        simp only [Nat.testBit_or, Bool.or_eq_true, Nat.one_shiftLeft] at h
        rcases h with (h | h) | h
        · exact .inl h
        · refine .inr ⟨e, by simp, hb, .inl ?_⟩
          rw [Nat.testBit_two_pow] at h
          simpa using h
        · exact .inr ⟨e, by simp, hb, .inr h⟩
      · exact .inl h
    · exact .inr ⟨e', by simp [he'], hb, hh⟩
structure Static (ops : Array Oper) (PD : List Nat) (n : Nat) : Prop where
  ok : ∀ (i : Nat) (o : Oper), ops[i]? = some o → okOp o = true
  back : ∀ (i : Nat) (o : Oper), ops[i]? = some o → ∀ e ∈ o.after, Region.binds .any e = true → e.on < i
  pd : ∀ (i : Nat) (o : Oper), ops[i]? = some o → ∀ j, waits PD i j = true → ∃ e ∈ o.after, Region.binds .any e = true ∧ (e.on = j ∨ waits PD e.on j = true)
  look : ∀ (i : Nat) (o : Oper), ops[i]? = some o → ∀ t ∈ o.looksAt ops, ∀ j, wr ops.toList 0 t = some j → j = i ∨ waits PD i j = true ∨ waits PD j i = true
  dst : ∀ (i : Nat) (o : Oper), ops[i]? = some o → ∀ t, o.dst = some t → wr ops.toList 0 t = some i ∧ t < n
  chain : ∀ (i : Nat) (o : Oper), ops[i]? = some o → eff o = true → ∀ (j : Nat) (o' : Oper), ops[j]? = some o' → eff o' = true → j < i → waits PD i j = true
theorem static_of {ops : Array Oper} {PD : List Nat} {n : Nat} (h : staticB ops PD n = true) : Static ops PD n := by
  have key : ∀ (i : Nat) (o : Oper), ops[i]? = some o → _ := fun i o hi => allB_spec h i o (by rw [Array.getElem?_toList]; exact hi)
  simp only [Nat.zero_add, Bool.and_eq_true, beq_iff_eq] at key
  refine ⟨fun i o hi => (key i o hi).1.1.1.1.1, fun i o hi e he hb => ?_, fun i o hi j hj => ?_, fun i o hi t ht j hj => ?_, fun i o hi t ht => ?_, fun i o hi hei j o' hj hej hji => ?_⟩
  · have := List.all_eq_true.1 (key i o hi).1.1.1.1.2 e (Array.mem_toList_iff.2 he)
    simpa [hb] using this
  · have h1 := (key i o hi).1.1.1.2
    unfold waits at hj
    rw [h1] at hj
    rcases bit_fold PD j _ _ hj with h | ⟨e, he, hb, hh⟩
    · simp at h
    · exact ⟨e, Array.mem_toList_iff.1 he, hb, hh⟩
  · have h1 := List.all_eq_true.1 (key i o hi).1.1.2 t ht
    rw [hj] at h1
    simp only [Bool.or_eq_true, beq_iff_eq] at h1
    rcases h1 with (h1 | h1) | h1
    · exact .inl h1
    · exact .inr (.inl h1)
    · exact .inr (.inr h1)
  · have h1 := (key i o hi).1.2
    rw [ht] at h1
    simpa using h1
  · have h1 := (key i o hi).2
    rw [if_pos hei] at h1
    have h2 := allB_spec h1 j o' (by rw [Array.getElem?_toList]; exact hj)
    simp only [hej, Nat.zero_add, Bool.not_true, Bool.false_or, Bool.or_eq_true, decide_eq_true_eq] at h2
    rcases h2 with h2 | h2
    · omega
    · exact h2
theorem lt_of_some {ops : Array Oper} {i : Nat} {o : Oper} (h : ops[i]? = some o) : i < ops.size := (Array.getElem?_eq_some_iff.1 h).1
theorem some_of_lt {ops : Array Oper} {i : Nat} (h : i < ops.size) : ∃ o, ops[i]? = some o := ⟨ops[i], by simp [h]⟩

section
variable {ops : Array Oper} {PD : List Nat} {n : Nat}
theorem waits_lt (st : Static ops PD n) : ∀ (i j : Nat), i < ops.size → waits PD i j = true → j < i := by
  intro i
  induction i using Nat.strongRecOn with
  | _ i ih =>
    intro j hi hj
    obtain ⟨o, ho⟩ := some_of_lt hi
    obtain ⟨e, he, hb, hh⟩ := st.pd i o ho j hj
    have hlt := st.back i o ho e he hb
    rcases hh with rfl | hh
    · exact hlt
    · exact Nat.lt_trans (ih e.on hlt j (by omega) hh) hlt
/-- Who has all for which it waits has all for which those wait. -/
theorem waits_done (st : Static ops PD n) {L : Array Bool} (_hsz : L.size = ops.size) (hc : Closed ops L) : ∀ (i : Nat) (o : Oper), ops[i]? = some o → (∀ e ∈ o.after, Region.binds .any e = true → L.getD e.on false = true) →
    ∀ j, waits PD i j = true → L.getD j false = true := by
  intro i
  induction i using Nat.strongRecOn with
  | _ i ih =>
    intro o ho hall j hj
    obtain ⟨e, he, hb, hh⟩ := st.pd i o ho j hj
    have hdone := hall e he hb
    rcases hh with rfl | hh
    · exact hdone
    · have hlt := st.back i o ho e he hb
      obtain ⟨o', ho'⟩ := some_of_lt (ops := ops) (i := e.on) (by have := lt_of_some ho; omega)
      exact ih e.on hlt o' ho' (hc e.on o' ho' hdone) j hh
theorem waits_done' (st : Static ops PD n) {L : Array Bool} (hsz : L.size = ops.size) (hc : Closed ops L) {i : Nat} (hi : L.getD i false = true) {j : Nat} (hj : waits PD i j = true) (hlt : i < ops.size) : L.getD j false = true := by
  obtain ⟨o, ho⟩ := some_of_lt hlt
  exact waits_done st hsz hc i o ho (hc i o ho hi) j hj

theorem wr_spec : ∀ (l : List Oper) (i t j : Nat), wr l i t = some j → i ≤ j ∧ ∃ o, l[j - i]? = some o ∧ o.dst = some t
  | [], _, _, _, h => by cases h
  | o :: l, i, t, j, h => by
    unfold wr at h
    split at h
    · rename_i hd
      injection h with h; subst h
      exact ⟨Nat.le_refl _, o, by simp, hd⟩
    · obtain ⟨h1, o', h2, h3⟩ := wr_spec l (i + 1) t j h
      refine ⟨by omega, o', ?_, h3⟩
      rw [show j - i = (j - (i + 1)) + 1 by omega]
      simpa using h2
theorem wr_some {t j : Nat} (h : wr ops.toList 0 t = some j) : ∃ o, ops[j]? = some o ∧ o.dst = some t := by
  obtain ⟨_, o, h2, h3⟩ := wr_spec _ _ _ _ h
  exact ⟨o, by rw [← Array.getElem?_toList]; simpa using h2, h3⟩

/-! ### How many steps stand ahead -/
theorem rank_cons (x : Oper) (l : List Oper) (i : Nat) : rank (x :: l) (i + 1) = (if eff x then 1 else 0) + rank l i := by
  unfold rank
  rw [List.take_succ_cons, List.filter_cons]
  split <;> simp [Nat.add_comm]
theorem rank_zero (l : List Oper) : rank l 0 = 0 := by simp [rank]
theorem rank_lt : ∀ (l : List Oper) (i j : Nat) (o : Oper), i < j → l[i]? = some o → eff o = true → rank l i < rank l j
  | [], i, j, o, _, h, _ => by simp at h
  | x :: l, i, j, o, hij, h, he => by
    obtain ⟨j, rfl⟩ : ∃ k, j = k + 1 := ⟨j - 1, by omega⟩
    rw [rank_cons]
    cases i with
    | zero => simp at h; subst h; rw [rank_zero, he]; simp; omega
    | succ i =>
      rw [rank_cons]
      have := rank_lt l i j o (by omega) (by simpa using h) he
      omega
theorem rank_inj {l : List Oper} {i j : Nat} {o o' : Oper} (hi : l[i]? = some o) (hj : l[j]? = some o') (he : eff o = true) (he' : eff o' = true) (h : rank l i = rank l j) : i = j := by
  rcases Nat.lt_trichotomy i j with h1 | h1 | h1
  · have := rank_lt l i j o h1 hi he; omega
  · exact h1
  · have := rank_lt l j i o' h1 hj he'; omega
theorem rank_hit : ∀ (l : List Oper) (k : Nat), k < rank l l.length → ∃ (i : Nat) (o : Oper), l[i]? = some o ∧ eff o = true ∧ rank l i = k
  | [], k, h => by simp [rank] at h
  | x :: l, k, h => by
    rw [List.length_cons, rank_cons] at h
    by_cases hx : eff x = true
    · rw [if_pos hx] at h
      cases k with
      | zero => exact ⟨0, x, rfl, hx, rank_zero _⟩
      | succ k =>
        obtain ⟨i, o, h1, h2, h3⟩ := rank_hit l k (by omega)
        exact ⟨i + 1, o, by simpa using h1, h2, by rw [rank_cons, if_pos hx]; omega⟩
    · rw [if_neg hx] at h
      obtain ⟨i, o, h1, h2, h3⟩ := rank_hit l k (by omega)
      exact ⟨i + 1, o, by simpa using h1, h2, by rw [rank_cons, if_neg hx]; omega⟩
theorem rank_le {l : List Oper} {i : Nat} (_h : i ≤ l.length) : rank l i ≤ rank l l.length := by
  unfold rank
  rw [List.take_length]
  exact List.Sublist.length_le (List.Sublist.filter _ (List.take_sublist _ _))

/-! ### What the evaluator's turn leaves -/
def births_ (l : List Oper) (i : Nat) : Nat := ((l.take i).filter fresh).length
theorem births_cons (x : Oper) (l : List Oper) (i : Nat) : births_ (x :: l) (i + 1) = (if fresh x then 1 else 0) + births_ l i := by
  unfold births_
  rw [List.take_succ_cons, List.filter_cons]
  split <;> simp [Nat.add_comm]
theorem births_lt : ∀ (l : List Oper) (i j : Nat) (o : Oper), i < j → l[i]? = some o → fresh o = true → births_ l i < births_ l j
  | [], i, j, o, _, h, _ => by simp at h
  | x :: l, i, j, o, hij, h, he => by
    obtain ⟨j, rfl⟩ : ∃ k, j = k + 1 := ⟨j - 1, by omega⟩
    rw [births_cons]
    cases i with
    | zero => simp at h; subst h; simp [births_, he]; omega
    | succ i =>
      rw [births_cons]
      have := births_lt l i j o (by omega) (by simpa using h) he
      omega
theorem births_inj {l : List Oper} {i j : Nat} {o o' : Oper} (hi : l[i]? = some o) (hj : l[j]? = some o') (he : fresh o = true) (he' : fresh o' = true) (h : births_ l i = births_ l j) : i = j := by
  rcases Nat.lt_trichotomy i j with h1 | h1 | h1
  · have := births_lt l i j o h1 hi he; omega
  · exact h1
  · have := births_lt l j i o' h1 hj he'; omega

/-! ### What the run leaves -/
structure Rec where
  v : V
  ρ : Env
  w : Bool
  g : Tag
  n : Nat
instance : Inhabited Rec := ⟨⟨.tup [], fun _ => none, false, .no, 0⟩⟩
/-- Whether a guarded operation is run. -/
def GdOK (v : V) (b w : Bool) : Prop := (∃ x, v = .sc (.bool x) ∧ w = (x == b)) ∨ (v = .tup [] ∧ w = false)
/-- What is known of place i. ('HS': the heaps, oldest first; 'm': the first new variable.) -/
structure Turn (P : Program) (ops : Array Oper) (m : Nat) (rs : List Rec) (HS : List SW) (i : Nat) (o : Oper) (r : Rec) : Prop where
  at_ : rs[i]? = some r
  fr : fresh o = true → r.v = .ptr (m + births_ ops.toList i) 0 ∧ r.g = .no
  ng : o.guard = none → r.w = true
  gd : fresh o = false → ∀ j b, o.guard = some (j, b) → ∃ t v, (ops[j]?).bind (·.dst) = some t ∧ r.ρ (.tmp t) = some v ∧ GdOK v b r.w
  no : fresh o = false → r.w = false → r.v = .tup [] ∧ r.g = .no ∧ (effect o = true → ∃ H, HS[rank ops.toList i]? = some H ∧ HS[rank ops.toList i + 1]? = some H)
  ef : fresh o = false → r.w = true → effect o = true → ∃ H H', HS[rank ops.toList i]? = some H ∧ HS[rank ops.toList i + 1]? = some H' ∧ StepE P r.ρ o H r.v H' ∧ ∀ b, b < r.n → r.g ≠ .wr b ∧ r.g ≠ .all → H'.get b = H.get b
  qu : fresh o = false → r.w = true → effect o = false → ∃ H, HS[rank ops.toList i]? = some H ∧ (∀ b, r.g ≠ .wr b) ∧ ∀ (w0 : Base) (H2 : SW), agr r.g H H2 → Quiet P w0 r.ρ o H2 r.v
/-- What the temporaries are ahead of place i. -/
def EnvOK (ops : Array Oper) (fr0 : Fr) (rs : List Rec) (i : Nat) (f : Nat → Option V) : Prop := ∀ t, f t = match wr ops.toList 0 t with
  | some j => if j < i then (rs[j]?).map (·.v) else fget fr0 t
  | none => fget fr0 t
theorem fget_same {fr : Fr} {t : Nat} {v : V} (h : fget fr t = some v) : fget ((t, v) :: fr) = fget fr := by
  funext k
  simp only [fget]
  rcases beq_cases t k with ⟨e, rfl⟩ | ⟨e, _⟩
  · simp only [e]; exact h.symm
  · simp only [e]
theorem beqB_eq (a b : Bool) : beqB a b = (a == b) := by cases a <;> cases b <;> rfl
theorem guardK_ok {ops : List Oper} {j : Nat} {fr : Fr} {K : Tmp → Bool → Prop} {S : Prop} (h : guardK ops j fr K S) : (∃ t x, (ops[j]?).bind (·.dst) = some t ∧ fget fr t = some (.sc (.bool x)) ∧ K t x) ∨ (∃ t, (ops[j]?).bind (·.dst) = some t ∧ fget fr t = some (.tup []) ∧ S) := by
  unfold guardK at h
  split at h
  case h_2 => cases h
  rename_i oj hj
  rw [lget_eq] at hj
  split at h
  case h_2 => cases h
  rename_i t ht
  split at h
  · rename_i x hx
    exact .inl ⟨t, x, by simp [hj, ht], hx, h⟩
  · rename_i vs hx
    split at h
    · exact .inr ⟨t, by simp [hj, ht], hx, h⟩
    · cases h
  · cases h

theorem EnvOK.next (st : Static ops PD n) {fr0 fr : Fr} {rs : List Rec} (he : EnvOK ops fr0 rs rs.length (fget fr)) {o : Oper} (hi : ops.toList[rs.length]? = some o) (r : Rec) : EnvOK ops fr0 (rs ++ [r]) (rs ++ [r]).length (fget (fput fr o.dst r.v)) := by
  intro t
  have hi' : ops[rs.length]? = some o := by rw [← Array.getElem?_toList]; exact hi
  have hput : fget (fput fr o.dst r.v) t = if o.dst = some t then some r.v else fget fr t := by
    cases hd : o.dst with
    | none => simp [fput]
    | some d =>
      simp only [fget, Option.some.injEq]
      rcases beq_cases d t with ⟨e, rfl⟩ | ⟨e, hn⟩
      · simp []
      · simp [e, hn]
  rw [hput, List.length_append, List.length_singleton]
  by_cases hd : o.dst = some t
  · rw [if_pos hd, (st.dst _ o hi' t hd).1]
    simp
  · rw [if_neg hd, he t]
    cases hw : wr ops.toList 0 t with
    | none => rfl
    | some j =>
      have hji : j ≠ rs.length := by
        rintro rfl
        obtain ⟨o', ho', hd'⟩ := wr_some hw
        rw [hi'] at ho'; injection ho' with ho'; subst ho'; exact hd hd'
      simp only
      by_cases hlt : j < rs.length
      · rw [if_pos hlt, if_pos (by omega), List.getElem?_append_left hlt]
      · rw [if_neg hlt, if_neg (by omega)]
theorem EnvOK.more {fr0 : Fr} {rs : List Rec} {i : Nat} {f : Nat → Option V} (h : EnvOK ops fr0 rs i f) (hi : i ≤ rs.length) (new : List Rec) : EnvOK ops fr0 (rs ++ new) i f := by
  intro t
  rw [h t]
  cases wr ops.toList 0 t with
  | none => rfl
  | some j =>
    simp only
    by_cases hlt : j < i
    · rw [if_pos hlt, if_pos hlt, List.getElem?_append_left (by omega)]
    · rw [if_neg hlt, if_neg hlt]
/-- What the run of the operations l leaves. -/
def GoOut (P : Program) (ops : Array Oper) (m0 : Nat) (fr0 : Fr) (l : List Oper) (rs : List Rec) (H : SW) (hs : List SW) (K : Fr → SW → Prop) : Prop :=
    ∃ (new : List Rec) (more : List SW) (fr' : Fr) (H' : SW), new.length = l.length ∧ ((hs.reverse ++ [H]) ++ more).length = rank ops.toList ops.toList.length + 1 ∧ ((hs.reverse ++ [H]) ++ more).getLast? = some H' ∧
      (∀ (k : Nat) (o : Oper), l[k]? = some o → ∃ r, Turn P ops m0 (rs ++ new) ((hs.reverse ++ [H]) ++ more) (rs.length + k) o r ∧ EnvOK ops fr0 (rs ++ new) (rs.length + k) (fun t => r.ρ (.tmp t)) ∧ ∃ f, r.ρ = ev f) ∧
      conflB ops.toList (preds ops.toList []) ((rs ++ new).map fun r => (r.g, r.n)) = true ∧ EnvOK ops fr0 (rs ++ new) ops.size (fget fr') ∧ K fr' H'
theorem goD_spec {P : Program} {T : Tbl} (hT : ∀ t i, tget T t = some i → tiOf P t = some i) (st : Static ops PD n) (m0 : Nat) (fr0 : Fr) : ∀ (l : List Oper) (rs : List Rec) (fr : Fr) (H : SW) (hs : List SW) (K : Fr → SW → Prop), ops.toList.drop rs.length = l → hs.length = rank ops.toList rs.length →
    EnvOK ops fr0 rs rs.length (fget fr) → goD P T ops.toList l (m0 + births_ ops.toList rs.length) fr H (rs.map fun r => (r.g, r.n)).reverse K →
    GoOut P ops m0 fr0 l rs H hs K
  | [], rs, fr, H, hs, K, hl, hh, he, h => by
    obtain ⟨hc, h⟩ := h
    have hlen : ops.toList.length ≤ rs.length := List.drop_eq_nil_iff.1 hl
    refine ⟨[], [], fr, H, rfl, ?_, by simp, fun k o hk => by simp at hk, by simpa using hc, ?_, h⟩
    · simp only [List.append_nil, List.length_append, List.length_reverse, List.length_singleton, hh]
      unfold rank
      rw [List.take_of_length_le hlen, List.take_length]
    · rw [List.append_nil]
      intro t
      rw [he t]
      cases hw : wr ops.toList 0 t with
      | none => rfl
      | some j =>
        obtain ⟨o', ho', _⟩ := wr_some hw
        have := lt_of_some ho'
        simp only
        rw [if_pos (by simp at hlen; omega), if_pos this]
  | o :: l, rs, fr, H, hs, K, hl, hh, he, h => by
    have hi : ops.toList[rs.length]? = some o := by
      have : (ops.toList.drop rs.length)[0]? = some o := by rw [hl]; rfl
      simpa using this
    have hlt : rs.length < ops.size := by
      have := (List.getElem?_eq_some_iff.1 hi).1
      simpa using this
    have hl' : ∀ r : Rec, ops.toList.drop (rs ++ [r]).length = l := fun r => by
      rw [List.length_append, List.length_singleton, ← List.drop_drop, hl]; rfl
    have hrk : ∀ r : Rec, rank ops.toList (rs ++ [r]).length = rank ops.toList rs.length + (if eff o then 1 else 0) := fun r => by
      rw [List.length_append, List.length_singleton]
      unfold rank
      rw [List.take_add_one, hi, List.filter_append]
      simp only [Option.toList_some, List.filter_cons, List.filter_nil, List.length_append]
      split <;> simp
    have hbk : ∀ r : Rec, births_ ops.toList (rs ++ [r]).length = births_ ops.toList rs.length + (if fresh o then 1 else 0) := fun r => by
      rw [List.length_append, List.length_singleton]
      unfold births_
      rw [List.take_add_one, hi, List.filter_append]
      simp only [Option.toList_some, List.filter_cons, List.filter_nil, List.length_append]
      split <;> simp
    -- one more place
    have next : ∀ (r : Rec) (f : Fr) (H1 : SW) (hs1 : List SW), (∃ f, r.ρ = ev f) → EnvOK ops fr0 rs rs.length (fun t => r.ρ (.tmp t)) → EnvOK ops fr0 rs rs.length (fget f) → hs1.length = rank ops.toList (rs ++ [r]).length → (∃ more, hs1.reverse ++ [H1] = hs.reverse ++ [H] ++ more) →
        goD P T ops.toList l (m0 + births_ ops.toList (rs ++ [r]).length) (fput f o.dst r.v) H1 ((rs ++ [r]).map fun r => (r.g, r.n)).reverse K →
        (∀ rs' more, rs'[rs.length]? = some r → Turn P ops m0 rs' ((hs1.reverse ++ [H1]) ++ more) rs.length o r) →
        GoOut P ops m0 fr0 (o :: l) rs H hs K := by
      intro r f H1 hs1 hev henv hef hh1 hmore hgo hturn
      obtain ⟨new, more, fr', H', h1, h2, h3, h4, h5, h6, h7⟩ := goD_spec hT st m0 fr0 l (rs ++ [r]) (fput f o.dst r.v) H1 hs1 K (hl' r) hh1 (hef.next st hi r) hgo
      obtain ⟨more0, hm0⟩ := hmore
      have e1 : rs ++ [r] ++ new = rs ++ (r :: new) := by simp
      have e2 : hs1.reverse ++ [H1] ++ more = (hs.reverse ++ [H]) ++ (more0 ++ more) := by rw [hm0, List.append_assoc]
      rw [e1] at h4 h5 h6
      rw [e2] at h2 h3 h4
      refine ⟨r :: new, more0 ++ more, fr', H', by simp [h1], h2, h3, fun k o' hk => ?_, h5, h6, h7⟩
      cases k with
      | zero =>
        simp at hk; subst hk
        refine ⟨r, ?_, henv.more (Nat.le_refl _) _, hev⟩
        rw [← e2]
        exact hturn _ more (by simp)
      | succ k =>
        have := h4 k o' (by simpa using hk)
        rwa [show (rs ++ [r]).length + k = rs.length + (k + 1) by simp; omega] at this
    have hH : ∀ (H1 : SW) (hs1 : List SW) (more : List SW), (∃ more, hs1.reverse ++ [H1] = hs.reverse ++ [H] ++ more) → ((hs1.reverse ++ [H1]) ++ more)[rank ops.toList rs.length]? = some H := by
      rintro H1 hs1 more ⟨more0, hm0⟩
      rw [hm0, ← hh]; simp []
    rw [goD_cons] at h
    split at h
    · rename_i hf
      have hne : eff o = false := by simp [eff, hf]
      refine next ⟨.ptr (m0 + births_ ops.toList rs.length) 0, ev fr, true, .no, H.n⟩ fr H hs ⟨fr, rfl⟩ he he (by rw [hrk, hne]; simpa using hh) ⟨[], by simp⟩ (by rw [hbk, if_pos hf, ← Nat.add_assoc]; simpa using h) fun rs' more hr => ?_
      exact ⟨hr, fun _ => ⟨rfl, rfl⟩, fun _ => rfl, fun h' => absurd h' (by simp [hf]), fun h' => absurd h' (by simp [hf]), fun h' => absurd h' (by simp [hf]), fun h' => absurd h' (by simp [hf])⟩
    · rename_i hf
      have hee : eff o = effect o := by simp [eff, hf]
      -- an operation that is run
      have run : ∀ (f : Fr), EnvOK ops fr0 rs rs.length (fget f) → (∀ j b, o.guard = some (j, b) → ∃ t v, (ops[j]?).bind (·.dst) = some t ∧ fget f t = some v ∧ GdOK v b true) →
          (stepW P T (ev f) o H fun v H' g => goD P T ops.toList l (m0 + births_ ops.toList rs.length) (fput f o.dst v) H' ((g, H.n) :: (rs.map fun r => (r.g, r.n)).reverse) K) → GoOut P ops m0 fr0 (o :: l) rs H hs K := fun f hef hgd hstep => by
        rcases stepW_ok hT hstep with ⟨heff, v, H', g, hK, hfr, hst⟩ | ⟨heff, v, g, hK, hgw, hq⟩
        · refine next ⟨v, ev f, true, g, H.n⟩ f H' (H :: hs) ⟨f, rfl⟩ hef hef (by rw [hrk, hee, heff]; simp [hh]) ⟨[H'], by simp⟩ (by rw [hbk, hf]; simpa using hK) fun rs' more hr => ?_
          refine ⟨hr, fun h' => absurd h' (by simp [hf]), fun _ => rfl, fun _ j b hg => hgd j b hg, fun _ h' => (by cases h'), fun _ _ _ => ⟨H, H', hH _ _ _ ⟨[H'], by simp⟩, ?_, hst, hfr⟩, fun _ _ h' => absurd h' (by simp [heff])⟩
          rw [← hh]; simp []
        · refine next ⟨v, ev f, true, g, H.n⟩ f H hs ⟨f, rfl⟩ hef hef (by rw [hrk, hee, heff]; simpa using hh) ⟨[], by simp⟩ (by rw [hbk, hf]; simpa using hK) fun rs' more hr => ?_
          exact ⟨hr, fun h' => absurd h' (by simp [hf]), fun _ => rfl, fun _ j b hg => hgd j b hg, fun _ h' => (by cases h'), fun _ _ h' => absurd h' (by simp [heff]), fun _ _ _ => ⟨H, hH _ _ _ ⟨[], by simp⟩, hgw, hq⟩⟩
      split at h
      · rename_i hg
        exact run fr he (fun j b hh => by rw [hg] at hh; cases hh) h
      · rename_i j b hg
        have skip : (∀ j' b', o.guard = some (j', b') → ∃ t v, (ops[j']?).bind (·.dst) = some t ∧ ev fr (.tmp t) = some v ∧ GdOK v b' false) → ∀ (f : Fr), EnvOK ops fr0 rs rs.length (fget f) → goD P T ops.toList l (m0 + births_ ops.toList rs.length) (fput f o.dst (.tup [])) H ((.no, H.n) :: (rs.map fun r => (r.g, r.n)).reverse) K → GoOut P ops m0 fr0 (o :: l) rs H hs K := fun hgd f hef h => by
          cases heff : effect o with
          | true =>
            refine next ⟨.tup [], ev fr, false, .no, H.n⟩ f H (H :: hs) ⟨fr, rfl⟩ he hef (by rw [hrk, hee, heff]; simp [hh]) ⟨[H], by simp⟩ (by rw [hbk, hf]; simpa using h) fun rs' more hr => ?_
            refine ⟨hr, fun h' => absurd h' (by simp [hf]), fun h' => absurd h' (by simp [hg]), fun _ j b hg => hgd j b hg, fun _ _ => ⟨rfl, rfl, fun _ => ⟨H, hH _ _ _ ⟨[H], by simp⟩, ?_⟩⟩, fun _ h' => (by cases h'), fun _ h' => (by cases h')⟩
            rw [← hh]; simp []
          | false =>
            refine next ⟨.tup [], ev fr, false, .no, H.n⟩ f H hs ⟨fr, rfl⟩ he hef (by rw [hrk, hee, heff]; simpa using hh) ⟨[], by simp⟩ (by rw [hbk, hf]; simpa using h) fun rs' more hr => ?_
            exact ⟨hr, fun h' => absurd h' (by simp [hf]), fun h' => absurd h' (by simp [hg]), fun _ j b hg => hgd j b hg, fun _ _ => ⟨rfl, rfl, fun h' => absurd h' (by simp [heff])⟩, fun _ h' => (by cases h'), fun _ h' => (by cases h')⟩
        rcases guardK_ok h with ⟨t, x, ht, hx, h⟩ | ⟨t, ht, hx, h⟩
        · rw [Array.getElem?_toList] at ht
          have hsame : fget ((t, B x) :: fr) = fget fr := fget_same hx
          obtain ⟨h⟩ := h
          split at h
          · rename_i hb
            rw [beqB_eq] at hb
            refine run ((t, B x) :: fr) (by rw [hsame]; exact he) (fun j' b' hg' => ?_) h
            rw [hg] at hg'; injection hg' with hg'; obtain ⟨rfl, rfl⟩ := Prod.mk.inj hg'
            exact ⟨t, _, ht, by rw [hsame]; exact hx, .inl ⟨x, rfl, hb.symm⟩⟩
          · rename_i hb
            rw [beqB_eq] at hb
            refine skip (fun j' b' hg' => ?_) ((t, B x) :: fr) (by rw [hsame]; exact he) h
            rw [hg] at hg'; injection hg' with hg'; obtain ⟨rfl, rfl⟩ := Prod.mk.inj hg'
            exact ⟨t, _, ht, hx, .inl ⟨x, rfl, hb.symm⟩⟩
        · rw [Array.getElem?_toList] at ht
          refine skip (fun j' b' hg' => ?_) fr he h
          rw [hg] at hg'; injection hg' with hg'; obtain ⟨rfl, rfl⟩ := Prod.mk.inj hg'
          exact ⟨t, _, ht, hx, .inr ⟨rfl, rfl⟩⟩
end
end Go.Proofs.Ytkliejppigfjiaa.Fx
