/-
  A region whose order is drawn: the evaluator's one order stands for all.
  Conditions: the checks of the evaluator's; the calls are as the evaluator has them.
-/
import Derived.Test.YtkliejppigfjiaaEvStep
namespace Go.Proofs.Ytkliejppigfjiaa.Ev
open Go.RowKit

/-! ### The order -/
theorem allB_spec {p : Nat → Oper → Bool} : ∀ {i : Nat} {l : List Oper}, allB p i l = true → ∀ (k : Nat) (o : Oper), l[k]? = some o → p (i + k) o = true
  | _, [], _, k, o, h => by simp at h
  | i, x :: l, ha, k, o, h => by
    simp only [allB, Bool.and_eq_true] at ha
    cases k with
    | zero => simp at h; subst h; exact ha.1
    | succ k =>
      have := allB_spec ha.2 k o (by simpa using h)
      rwa [show i + 1 + k = i + (k + 1) by omega] at this
theorem bit_fold (PD : List Nat) (j : Nat) : ∀ (l : List Edge) (m : Nat), (l.foldl (fun m e => if Region.binds .any e then m ||| (1 <<< e.on) ||| PD.getD e.on 0 else m) m).testBit j = true →
    m.testBit j = true ∨ ∃ e ∈ l, Region.binds .any e = true ∧ (e.on = j ∨ waits PD e.on j = true)
  | [], m, h => .inl h
  | e :: l, m, h => by
    simp only [List.foldl_cons] at h
    rcases bit_fold PD j l _ h with h | ⟨e', he', hb, hh⟩
    · split at h
      · rename_i hb
        simp only [Nat.testBit_or, Bool.or_eq_true, Nat.one_shiftLeft] at h
        rcases h with (h | h) | h
        · exact .inl h
        · refine .inr ⟨e, by simp, hb, .inl ?_⟩
          rw [Nat.testBit_two_pow] at h
          simpa using h
        · exact .inr ⟨e, by simp, hb, .inr h⟩
      · exact .inl h
    · exact .inr ⟨e', by simp [he'], hb, hh⟩
structure Static (ops : Array Oper) (PD : List Nat) (n : Nat) : Prop where
  ok : ∀ (i : Nat) (o : Oper), ops[i]? = some o → okOp o = true
  back : ∀ (i : Nat) (o : Oper), ops[i]? = some o → ∀ e ∈ o.after, Region.binds .any e = true → e.on < i
  pd : ∀ (i : Nat) (o : Oper), ops[i]? = some o → ∀ j, waits PD i j = true → ∃ e ∈ o.after, Region.binds .any e = true ∧ (e.on = j ∨ waits PD e.on j = true)
  look : ∀ (i : Nat) (o : Oper), ops[i]? = some o → ∀ t ∈ o.looksAt ops, ∀ j, wr ops.toList 0 t = some j → j = i ∨ waits PD i j = true ∨ waits PD j i = true
  dst : ∀ (i : Nat) (o : Oper), ops[i]? = some o → ∀ t, o.dst = some t → wr ops.toList 0 t = some i ∧ t < n
  chain : ∀ (i : Nat) (o : Oper), ops[i]? = some o → eff o = true → ∀ (j : Nat) (o' : Oper), ops[j]? = some o' → eff o' = true → j < i → waits PD i j = true
theorem static_of {ops : Array Oper} {PD : List Nat} {n : Nat} (h : staticB ops PD n = true) : Static ops PD n := by
  have key : ∀ (i : Nat) (o : Oper), ops[i]? = some o → _ := fun i o hi => allB_spec h i o (by rw [Array.getElem?_toList]; exact hi)
  simp only [Nat.zero_add, Bool.and_eq_true, beq_iff_eq] at key
  refine ⟨fun i o hi => (key i o hi).1.1.1.1.1, fun i o hi e he hb => ?_, fun i o hi j hj => ?_, fun i o hi t ht j hj => ?_, fun i o hi t ht => ?_, fun i o hi hei j o' hj hej hji => ?_⟩
  · have := List.all_eq_true.1 (key i o hi).1.1.1.1.2 e (Array.mem_toList_iff.2 he)
    simpa [hb] using this
  · have h1 := (key i o hi).1.1.1.2
    unfold waits at hj
    rw [h1] at hj
    rcases bit_fold PD j _ _ hj with h | ⟨e, he, hb, hh⟩
    · simp at h
    · exact ⟨e, Array.mem_toList_iff.1 he, hb, hh⟩
  · have h1 := List.all_eq_true.1 (key i o hi).1.1.2 t ht
    rw [hj] at h1
    simp only [Bool.or_eq_true, beq_iff_eq] at h1
    rcases h1 with (h1 | h1) | h1
    · exact .inl h1
    · exact .inr (.inl h1)
    · exact .inr (.inr h1)
  · have h1 := (key i o hi).1.2
    rw [ht] at h1
    simpa using h1
  · have h1 := (key i o hi).2
    rw [if_pos hei] at h1
    have h2 := allB_spec h1 j o' (by rw [Array.getElem?_toList]; exact hj)
    simp only [hej, Nat.zero_add, Bool.not_true, Bool.false_or, Bool.or_eq_true, decide_eq_true_eq] at h2
    rcases h2 with h2 | h2
    · omega
    · exact h2
theorem lt_of_some {ops : Array Oper} {i : Nat} {o : Oper} (h : ops[i]? = some o) : i < ops.size := (Array.getElem?_eq_some_iff.1 h).1
theorem some_of_lt {ops : Array Oper} {i : Nat} (h : i < ops.size) : ∃ o, ops[i]? = some o := ⟨ops[i], by simp [h]⟩

section
variable {ops : Array Oper} {PD : List Nat} {n : Nat}
theorem waits_lt (st : Static ops PD n) : ∀ (i j : Nat), i < ops.size → waits PD i j = true → j < i := by
  intro i
  induction i using Nat.strongRecOn with
  | _ i ih =>
    intro j hi hj
    obtain ⟨o, ho⟩ := some_of_lt hi
    obtain ⟨e, he, hb, hh⟩ := st.pd i o ho j hj
    have hlt := st.back i o ho e he hb
    rcases hh with rfl | hh
    · exact hlt
    · exact Nat.lt_trans (ih e.on hlt j (by omega) hh) hlt
/-- Who has all for which it waits has all for which those wait. -/
theorem waits_done (st : Static ops PD n) {L : Array Bool} (_hsz : L.size = ops.size) (hc : Closed ops L) : ∀ (i : Nat) (o : Oper), ops[i]? = some o → (∀ e ∈ o.after, Region.binds .any e = true → L.getD e.on false = true) →
    ∀ j, waits PD i j = true → L.getD j false = true := by
  intro i
  induction i using Nat.strongRecOn with
  | _ i ih =>
    intro o ho hall j hj
    obtain ⟨e, he, hb, hh⟩ := st.pd i o ho j hj
    have hdone := hall e he hb
    rcases hh with rfl | hh
    · exact hdone
    · have hlt := st.back i o ho e he hb
      obtain ⟨o', ho'⟩ := some_of_lt (ops := ops) (i := e.on) (by have := lt_of_some ho; omega)
      exact ih e.on hlt o' ho' (hc e.on o' ho' hdone) j hh
theorem waits_done' (st : Static ops PD n) {L : Array Bool} (hsz : L.size = ops.size) (hc : Closed ops L) {i : Nat} (hi : L.getD i false = true) {j : Nat} (hj : waits PD i j = true) (hlt : i < ops.size) : L.getD j false = true := by
  obtain ⟨o, ho⟩ := some_of_lt hlt
  exact waits_done st hsz hc i o ho (hc i o ho hi) j hj

theorem wr_spec : ∀ (l : List Oper) (i t j : Nat), wr l i t = some j → i ≤ j ∧ ∃ o, l[j - i]? = some o ∧ o.dst = some t
  | [], _, _, _, h => by cases h
  | o :: l, i, t, j, h => by
    unfold wr at h
    split at h
    · rename_i hd
      injection h with h; subst h
      exact ⟨Nat.le_refl _, o, by simp, hd⟩
    · obtain ⟨h1, o', h2, h3⟩ := wr_spec l (i + 1) t j h
      refine ⟨by omega, o', ?_, h3⟩
      rw [show j - i = (j - (i + 1)) + 1 by omega]
      simpa using h2
theorem wr_some {t j : Nat} (h : wr ops.toList 0 t = some j) : ∃ o, ops[j]? = some o ∧ o.dst = some t := by
  obtain ⟨_, o, h2, h3⟩ := wr_spec _ _ _ _ h
  exact ⟨o, by rw [← Array.getElem?_toList]; simpa using h2, h3⟩

/-! ### How many steps stand ahead -/
theorem rank_cons (x : Oper) (l : List Oper) (i : Nat) : rank (x :: l) (i + 1) = (if eff x then 1 else 0) + rank l i := by
  unfold rank
  rw [List.take_succ_cons, List.filter_cons]
  split <;> simp [Nat.add_comm]
theorem rank_zero (l : List Oper) : rank l 0 = 0 := by simp [rank]
theorem rank_lt : ∀ (l : List Oper) (i j : Nat) (o : Oper), i < j → l[i]? = some o → eff o = true → rank l i < rank l j
  | [], i, j, o, _, h, _ => by simp at h
  | x :: l, i, j, o, hij, h, he => by
    obtain ⟨j, rfl⟩ : ∃ k, j = k + 1 := ⟨j - 1, by omega⟩
    rw [rank_cons]
    cases i with
    | zero => simp at h; subst h; rw [rank_zero, he]; simp; omega
    | succ i =>
      rw [rank_cons]
      have := rank_lt l i j o (by omega) (by simpa using h) he
      omega
theorem rank_inj {l : List Oper} {i j : Nat} {o o' : Oper} (hi : l[i]? = some o) (hj : l[j]? = some o') (he : eff o = true) (he' : eff o' = true) (h : rank l i = rank l j) : i = j := by
  rcases Nat.lt_trichotomy i j with h1 | h1 | h1
  · have := rank_lt l i j o h1 hi he; omega
  · exact h1
  · have := rank_lt l j i o' h1 hj he'; omega
theorem rank_hit : ∀ (l : List Oper) (k : Nat), k < rank l l.length → ∃ (i : Nat) (o : Oper), l[i]? = some o ∧ eff o = true ∧ rank l i = k
  | [], k, h => by simp [rank] at h
  | x :: l, k, h => by
    rw [List.length_cons, rank_cons] at h
    by_cases hx : eff x = true
    · rw [if_pos hx] at h
      cases k with
      | zero => exact ⟨0, x, rfl, hx, rank_zero _⟩
      | succ k =>
        obtain ⟨i, o, h1, h2, h3⟩ := rank_hit l k (by omega)
        exact ⟨i + 1, o, by simpa using h1, h2, by rw [rank_cons, if_pos hx]; omega⟩
    · rw [if_neg hx] at h
      obtain ⟨i, o, h1, h2, h3⟩ := rank_hit l k (by omega)
      exact ⟨i + 1, o, by simpa using h1, h2, by rw [rank_cons, if_neg hx]; omega⟩
theorem rank_le {l : List Oper} {i : Nat} (_h : i ≤ l.length) : rank l i ≤ rank l l.length := by
  unfold rank
  rw [List.take_length]
  exact List.Sublist.length_le (List.Sublist.filter _ (List.take_sublist _ _))

/-! ### What the evaluator's turn leaves -/
def births_ (l : List Oper) (i : Nat) : Nat := ((l.take i).filter fresh).length
theorem births_cons (x : Oper) (l : List Oper) (i : Nat) : births_ (x :: l) (i + 1) = (if fresh x then 1 else 0) + births_ l i := by
  unfold births_
  rw [List.take_succ_cons, List.filter_cons]
  split <;> simp [Nat.add_comm]
theorem births_lt : ∀ (l : List Oper) (i j : Nat) (o : Oper), i < j → l[i]? = some o → fresh o = true → births_ l i < births_ l j
  | [], i, j, o, _, h, _ => by simp at h
  | x :: l, i, j, o, hij, h, he => by
    obtain ⟨j, rfl⟩ : ∃ k, j = k + 1 := ⟨j - 1, by omega⟩
    rw [births_cons]
    cases i with
    | zero => simp at h; subst h; simp [births_, he]; omega
    | succ i =>
      rw [births_cons]
      have := births_lt l i j o (by omega) (by simpa using h) he
      omega
theorem births_inj {l : List Oper} {i j : Nat} {o o' : Oper} (hi : l[i]? = some o) (hj : l[j]? = some o') (he : fresh o = true) (he' : fresh o' = true) (h : births_ l i = births_ l j) : i = j := by
  rcases Nat.lt_trichotomy i j with h1 | h1 | h1
  · have := births_lt l i j o h1 hi he; omega
  · exact h1
  · have := births_lt l j i o' h1 hj he'; omega
variable {P : Program} {C R : Nat → List Value → SW → Option (Value × SW)} {a : SA}
/-- What is known of place i. ('HS': the heaps, oldest first; 'm': the first new variable.) -/
structure Turn (P : Program) (C R : Nat → List Value → SW → Option (Value × SW)) (ops : Array Oper) (PD : List Nat) (a : SA) (m : Nat) (vals : List Value) (HS : List SW) (i : Nat) (o : Oper) : Prop where
  fr : fresh o = true → vals[i]? = some (.pointer (some ⟨m + births_ ops.toList i, 0, none⟩))
  no : fresh o = false → wantS ops (rho ops PD a vals i) o = false → vals[i]? = some undef ∧ (effect o = true → ∃ H, HS[rank ops.toList i]? = some H ∧ HS[rank ops.toList i + 1]? = some H)
  ef : fresh o = false → wantS ops (rho ops PD a vals i) o = true → effect o = true → ∃ v H H', HS[rank ops.toList i]? = some H ∧ HS[rank ops.toList i + 1]? = some H' ∧ vals[i]? = some v ∧ eop P C R (rho ops PD a vals i) o H = some (v, H')
  qu : fresh o = false → wantS ops (rho ops PD a vals i) o = true → effect o = false → ∃ v H, HS[rank ops.toList i]? = some H ∧ vals[i]? = some v ∧ qop P (rho ops PD a vals i) o H = some v

theorem rho_prefix (st : Static ops PD n) {vals vs : List Value} (hlt : vals.length < ops.size) : rho ops PD a (vals ++ vs) vals.length = rho ops PD a vals vals.length := by
  funext x
  cases x with
  | tmp t =>
    simp only [rho]
    cases e : wr ops.toList 0 t with
    | none => rfl
    | some j =>
      simp only
      by_cases hw : waits PD vals.length j = true
      · rw [if_pos hw, if_pos hw]
        have hj := waits_lt st _ _ hlt hw
        simp [List.getD_eq_getElem?_getD, List.getElem?_append, hj]
      · rw [if_neg hw, if_neg hw]
  | _ => rfl
theorem drawGo_spec (st : Static ops PD n) (m0 : Nat) : ∀ (l : List Oper) (vals : List Value) (H : SW) (hs : List SW) (vals' : List Value) (hs' : List SW), ops.toList.drop vals.length = l → hs.length = rank ops.toList vals.length →
    drawGo P C R ops PD a l (m0 + births_ ops.toList vals.length) vals H hs = some (vals', hs') →
    (∃ vs, vals' = vals ++ vs ∧ vs.length = l.length) ∧ (∃ more, hs'.reverse = (hs.reverse ++ [H]) ++ more) ∧ hs'.length = rank ops.toList ops.toList.length + 1 ∧
    ∀ (k : Nat) (o : Oper), l[k]? = some o → Turn P C R ops PD a m0 vals' hs'.reverse (vals.length + k) o
  | [], vals, H, hs, vals', hs', hl, hh, h => by
    simp only [drawGo, Option.some.injEq, Prod.mk.injEq] at h
    obtain ⟨rfl, rfl⟩ := h
    have hlen : ops.toList.length ≤ vals.length := List.drop_eq_nil_iff.1 hl
    refine ⟨⟨[], by simp, rfl⟩, ⟨[], by simp⟩, ?_, fun k o hk => by simp at hk⟩
    rw [List.length_cons, hh]
    unfold rank
    rw [List.take_of_length_le hlen, List.take_length]
  | o :: l, vals, H, hs, vals', hs', hl, hh, h => by
    have hi : ops.toList[vals.length]? = some o := by
      have : (ops.toList.drop vals.length)[0]? = some o := by rw [hl]; rfl
      simpa using this
    have hlt : vals.length < ops.size := by
      have := (List.getElem?_eq_some_iff.1 hi).1
      simpa using this
    have hl' : ∀ v : Value, ops.toList.drop (vals ++ [v]).length = l := fun v => by
      rw [List.length_append, List.length_singleton, ← List.drop_drop, hl]; rfl
    have hrk : ∀ v : Value, rank ops.toList (vals ++ [v]).length = rank ops.toList vals.length + (if eff o then 1 else 0) := fun v => by
      rw [List.length_append, List.length_singleton]
      unfold rank
      rw [List.take_add_one, hi, List.filter_append]
      simp only [Option.toList_some, List.filter_cons, List.filter_nil, List.length_append]
      split <;> simp
    have hbk : ∀ v : Value, births_ ops.toList (vals ++ [v]).length = births_ ops.toList vals.length + (if fresh o then 1 else 0) := fun v => by
      rw [List.length_append, List.length_singleton]
      unfold births_
      rw [List.take_add_one, hi, List.filter_append]
      simp only [Option.toList_some, List.filter_cons, List.filter_nil, List.length_append]
      split <;> simp
    -- one more value
    have next : ∀ (v : Value) (H1 : SW) (hs1 : List SW), hs1.length = rank ops.toList (vals ++ [v]).length → (∃ more, hs1.reverse ++ [H1] = hs.reverse ++ [H] ++ more) →
        drawGo P C R ops PD a l (m0 + births_ ops.toList (vals ++ [v]).length) (vals ++ [v]) H1 hs1 = some (vals', hs') →
        (vals'[vals.length]? = some v → rho ops PD a vals' vals.length = rho ops PD a vals vals.length → hs'.reverse[hs.length]? = some H → (∃ more, hs'.reverse = (hs1.reverse ++ [H1]) ++ more) → Turn P C R ops PD a m0 vals' hs'.reverse vals.length o) →
        (∃ vs, vals' = vals ++ vs ∧ vs.length = (o :: l).length) ∧ (∃ more, hs'.reverse = (hs.reverse ++ [H]) ++ more) ∧ hs'.length = rank ops.toList ops.toList.length + 1 ∧
          ∀ (k : Nat) (o' : Oper), (o :: l)[k]? = some o' → Turn P C R ops PD a m0 vals' hs'.reverse (vals.length + k) o' := by
      intro v H1 hs1 hh1 hmore hgo hturn
      obtain ⟨⟨vs, hv1, hv2⟩, ⟨more, hm⟩, hlen, hk⟩ := drawGo_spec st m0 l (vals ++ [v]) H1 hs1 vals' hs' (hl' v) hh1 hgo
      obtain ⟨more0, hm0⟩ := hmore
      have hv1' : vals' = vals ++ (v :: vs) := by rw [hv1]; simp
      have hm' : hs'.reverse = (hs.reverse ++ [H]) ++ (more0 ++ more) := by rw [hm, hm0, List.append_assoc]
      refine ⟨⟨v :: vs, hv1', by simp [hv2]⟩, ⟨_, hm'⟩, hlen, fun k o' hk' => ?_⟩
      cases k with
      | zero =>
        simp at hk'; subst hk'
        refine hturn (by rw [hv1']; simp) (by rw [hv1']; exact rho_prefix st hlt) ?_ ⟨more, hm⟩
        rw [hm']; simp []
      | succ k =>
        have := hk k o' (by simpa using hk')
        rwa [show (vals ++ [v]).length + k = vals.length + (k + 1) by simp; omega] at this
    unfold drawGo at h
    split at h
    · rename_i hf
      have hne : eff o = false := by simp [eff, hf]
      refine next (.pointer (some ⟨m0 + births_ ops.toList vals.length, 0, none⟩)) H hs (by rw [hrk, hne]; simpa using hh) ⟨[], by simp⟩ (by rw [hbk, if_pos hf]; exact h) fun hv _ _ _ => ?_
      exact ⟨fun _ => hv, fun h' => absurd h' (by simp [hf]), fun h' => absurd h' (by simp [hf]), fun h' => absurd h' (by simp [hf])⟩
    · rename_i hf
      have hf' : fresh o = false := by simpa using hf
      have hee : eff o = effect o := by simp [eff, hf']
      simp only at h
      split at h
      · rename_i hwant
        split at h
        · rename_i heff
          split at h
          · rename_i v H' hE
            refine next v H' (H :: hs) (by rw [hrk, hee, heff]; simp [hh]) ⟨[H'], by simp⟩ (by rw [hbk, hf']; simpa using h) fun hv hr hH ⟨more, hm⟩ => ?_
            refine ⟨fun h' => absurd h' (by simp [hf']), fun _ hn => absurd hn (by simp [hr, hwant]), fun _ _ _ => ⟨v, H, H', by rw [← hh]; exact hH, ?_, hv, by rw [hr]; exact hE⟩, fun _ _ he => absurd he (by simp [heff])⟩
            rw [hm, ← hh]
            simp []
          · cases h
        · rename_i heff
          have heff' : effect o = false := by simpa using heff
          split at h
          · rename_i v hQ
            refine next v H hs (by rw [hrk, hee, heff']; simpa using hh) ⟨[], by simp⟩ (by rw [hbk, hf']; simpa using h) fun hv hr hH _ => ?_
            exact ⟨fun h' => absurd h' (by simp [hf']), fun _ hn => absurd hn (by simp [hr, hwant]), fun _ _ he => absurd he (by simp [heff']), fun _ _ _ => ⟨v, H, by rw [← hh]; exact hH, hv, by rw [hr]; exact hQ⟩⟩
          · cases h
      · rename_i hwant
        have hwant' : wantS ops (rho ops PD a vals vals.length) o = false := by simpa using hwant
        split at h
        · rename_i heff
          refine next undef H (H :: hs) (by rw [hrk, hee, heff]; simp [hh]) ⟨[H], by simp⟩ (by rw [hbk, hf']; simpa using h) fun hv hr hH ⟨more, hm⟩ => ?_
          refine ⟨fun h' => absurd h' (by simp [hf']), fun _ _ => ⟨hv, fun _ => ⟨H, by rw [← hh]; exact hH, ?_⟩⟩, fun _ hn => absurd hn (by simp [hr, hwant']), fun _ hn => absurd hn (by simp [hr, hwant'])⟩
          rw [hm, ← hh]
          simp []
        · rename_i heff
          refine next undef H hs (by rw [hrk, hee]; simpa [show effect o = false by simpa using heff] using hh) ⟨[], by simp⟩ (by rw [hbk, hf']; simpa using h) fun hv hr hH _ => ?_
          exact ⟨fun h' => absurd h' (by simp [hf']), fun _ _ => ⟨hv, fun he => absurd he heff⟩, fun _ hn => absurd hn (by simp [hr, hwant']), fun _ hn => absurd hn (by simp [hr, hwant'])⟩
end
end Go.Proofs.Ytkliejppigfjiaa.Ev
