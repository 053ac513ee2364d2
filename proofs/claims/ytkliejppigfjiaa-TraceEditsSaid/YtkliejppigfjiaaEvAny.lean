/-
  A region whose order is drawn: whatever is drawn, it ends as in the evaluator's order.
  Conditions: the checks of the evaluator's; the calls are as the evaluator has them.
-/
import Derived.Test.YtkliejppigfjiaaEvDraw
namespace Go.Proofs.Ytkliejppigfjiaa.Ev
open Go.RowKit

theorem veq_eq : ∀ {x y : Value}, veq x y = true → x = y := by
  intro x y h
  unfold veq at h
  split at h <;> first | (cases h; done) | (rw [ByteArray.ext (Array.toList_inj.1 (eq_of_beq h))]; done) | simp_all
theorem veqs_eq : ∀ {xs ys : List Value}, veqs xs ys = true → xs = ys
  | [], [], _ => rfl
  | [], _ :: _, h => by cases h
  | _ :: _, [], h => by cases h
  | x :: xs, y :: ys, h => by
    simp only [veqs, Bool.and_eq_true] at h
    rw [veq_eq h.1, veqs_eq h.2]
theorem veq2_eq {x y : Value} (h : veq2 x y = true) : x = y := by
  unfold veq2 at h
  split at h
  · rw [Array.toList_inj.1 (veqs_eq h)]
  · exact veq_eq h

section
variable {P : Program} {w0 : World} {φ : Phi} {H : SW} {W : World}
/-- The evaluator alone makes a block. -/
theorem WR.unborn (h : WR P w0 φ H W) (s : SB) : WR P w0 φ (H.push s) W ∧ Ext φ H φ (H.push s) := by
  have live : ∀ b p s', φ b = some p → (H.push s).get b = some s' → H.get b = some s' := fun b p s' hb hg => by
    rw [SW.get_push] at hg
    split at hg
    · rename_i e; subst e; rw [h.fresh _ (Nat.le_refl _)] at hb; cases hb
    · exact hg
  refine ⟨⟨h.ov, fun b p hb => by have := h.dom b p hb; simp; omega, fun b g k s' hb hg => h.blk b g k s' hb (live _ _ _ hb hg), h.high, fun b b' g k k' s1 s2 h1 h2 h3 h4 => h.inj b b' g k k' s1 s2 h1 h2 (live _ _ _ h1 h3) (live _ _ _ h2 h4)⟩, ⟨by simp, fun _ _ => rfl, fun b hb _ => ?_⟩⟩
  rw [SW.get_push, if_neg (by omega)]
/-- A block of the evaluator's comes to lie in the machine as well. -/
theorem WR.birth (h : WR P w0 φ H W) {b : Nat} (hb : φ b = none) (hlt : b < H.n) {cs : List Value} {t : TypeId} {ds : Array Value} (hg : H.get b = some (.cells cs t true)) (hl : LR φ cs ds.toList) :
    Le φ (upd φ b (W.heap.size, 0)) ∧ WR P w0 (upd φ b (W.heap.size, 0)) H (W.alloc (.cells ds t)) := by
  have hle : Le φ (upd φ b (W.heap.size, 0)) := fun c p hc => by
    simp only [upd]; rw [if_neg]; · exact hc
    rintro rfl; rw [hb] at hc; cases hc
  have hfree : ∀ c k s, φ c = some (W.heap.size, k) → H.get c = some s → False := fun c k s hc hs => by
    have := (h.blk c _ k s hc hs).lt; omega
  refine ⟨hle, ⟨h.ov.alloc _, fun c p hc => ?_, fun c g k s hc hs => ?_, fun c g k hc => ?_, fun c c' g k1 k2 s1 s2 h1 h2 h3 h4 => ?_⟩⟩
  · simp only [upd] at hc
    split at hc
    · subst_vars; exact hlt
    · exact h.dom c p hc
  · simp only [upd] at hc
    split at hc
    · rename_i e; subst e
      injection hc with hc; obtain ⟨rfl, rfl⟩ := Prod.mk.inj hc
      rw [hg] at hs; injection hs with hs; subst hs
      have hlen : ds.toList.length = cs.length := hl.1.symm
      refine ⟨ds, heap_alloc_new W _, fun _ => rfl, by simpa using hlen, ?_⟩
      rw [← hlen, List.take_length]; exact hl.mono hle
    · have h1 := h.blk c g k s hc hs
      exact (h1.congr (heap_alloc_old W _ h1.lt)).mono hle
  · simp only [upd] at hc
    split at hc
    · injection hc with hc; obtain ⟨rfl, rfl⟩ := Prod.mk.inj hc; exact h.ov.size
    · exact h.high c g k hc
  · simp only [upd] at h1 h2
    split at h1 <;> split at h2
    · subst_vars; rfl
    · injection h1 with h1; obtain ⟨rfl, rfl⟩ := Prod.mk.inj h1; exact (hfree _ _ _ h2 h4).elim
    · injection h2 with h2; obtain ⟨rfl, rfl⟩ := Prod.mk.inj h2; exact (hfree _ _ _ h1 h3).elim
    · exact h.inj c c' g k1 k2 s1 s2 h1 h2 h3 h4

theorem births_spec : ∀ (l : List Oper) (H H1 : SW), births P l H = some H1 → (∀ {φ W}, WR P w0 φ H W → WR P w0 φ H1 W ∧ Ext φ H φ H1) ∧ (∀ b, b < H.n → H1.get b = H.get b) ∧ H.n ≤ H1.n ∧
    ∀ (k : Nat) (o : Oper), l[k]? = some o → fresh o = true → ∃ t z, o.op = .alloc t ∧ o.guard = none ∧ zeroS P t = some z ∧ H1.get (H.n + births_ l k) = some (.cells z t true) ∧ H.n + births_ l k < H1.n
  | [], H, H1, h => by
    simp only [births, Option.some.injEq] at h
    subst h
    exact ⟨fun h => ⟨h, Ext.refl _ _⟩, fun _ _ => rfl, Nat.le_refl _, fun k o hk => by simp at hk⟩
  | o :: l, H, H1, h => by
    unfold births at h
    split at h
    · rename_i hf
      split at h
      · rename_i t ho
        split at h
        · rename_i z hz
          obtain ⟨h1, h2, h3, h4⟩ := births_spec l _ H1 h
          refine ⟨fun hw => ?_, fun b hb => ?_, by simp at h3; omega, fun k o' hk hfr => ?_⟩
          · obtain ⟨a1, a2⟩ := hw.unborn (.cells z t true)
            obtain ⟨b1, b2⟩ := h1 a1
            exact ⟨b1, a2.trans b2⟩
          · rw [h2 b (by simp; omega), SW.get_push, if_neg (by omega)]
          · cases k with
            | zero =>
              simp at hk; subst hk
              have hg : o.guard = none := by
                simp only [fresh, ho, Bool.and_eq_true] at hfr
                simpa using hfr.2
              refine ⟨t, z, ho, hg, hz, ?_, by simp [births_] at h3 ⊢; omega⟩
              rw [show births_ (o :: l) 0 = 0 by simp [births_], Nat.add_zero, h2 H.n (by simp), SW.get_push, if_pos rfl]
            | succ k =>
              obtain ⟨t', z', e1, e2, e3, e4, e5⟩ := h4 k o' (by simpa using hk) hfr
              refine ⟨t', z', e1, e2, e3, ?_, ?_⟩
              · rw [births_cons, if_pos hf]; rw [← e4]; congr 1; simp; omega
              · rw [births_cons, if_pos hf]; simp at e5; omega
        · cases h
      · cases h
    · rename_i hf
      obtain ⟨h1, h2, h3, h4⟩ := births_spec l H H1 h
      refine ⟨h1, h2, h3, fun k o' hk hfr => ?_⟩
      cases k with
      | zero => simp at hk; subst hk; exact absurd hfr hf
      | succ k =>
        obtain ⟨t', z', e1, e2, e3, e4, e5⟩ := h4 k o' (by simpa using hk) hfr
        refine ⟨t', z', e1, e2, e3, ?_, ?_⟩
        · rw [births_cons, if_neg hf, Nat.zero_add]; exact e4
        · rw [births_cons, if_neg hf, Nat.zero_add]; exact e5
theorem qop_indep {ρ : Operand → Value} {o : Oper} (h : isLoad o = false) (H H' : SW) : qop P ρ o H = qop P ρ o H' := by
  unfold isLoad at h
  unfold qop
  split <;> rename_i ho <;> first | rfl | (rw [ho] at h; simp at h)
end

/-- What the evaluator has found for a region. -/
structure Plan (P : Program) (C R : Nat → List Value → SW → Option (Value × SW)) (ops : Array Oper) (PD : List Nat) (a : SA) (H0 H1 : SW) (vals : List Value) (HS : List SW) : Prop where
  st : Static ops PD a.n
  len : vals.length = ops.size
  turn : ∀ (i : Nat) (o : Oper), ops[i]? = some o → Turn P C R ops PD a H0.n vals HS i o
  hsl : HS.length = rank ops.toList ops.toList.length + 1
  h0 : HS[0]? = some H1
  win : ∀ (i : Nat) (o : Oper), ops[i]? = some o → isLoad o = true → wantS ops (rho ops PD a vals i) o = true → ∀ s H, HS[s]? = some H → inWin ops PD i s = true → qop P (rho ops PD a vals i) o H = some (vals.getD i undef)
  bir : births P ops.toList H0 = some H1
section
variable {P : Program} {w0 : World} {C R : Nat → List Value → SW → Option (Value × SW)} {ops : Array Oper} {PD : List Nat} {a : SA} {H0 H1 : SW} {vals : List Value} {HS : List SW} {φ0 : Phi} {ds : List Deferred} {r : Option Nat}
def cur (ops : Array Oper) (a : SA) (vals : List Value) (L : Array Bool) (t : Nat) : Value :=
  match wr ops.toList 0 t with
  | some j => if L.getD j false = true then vals.getD j undef else a.get t
  | none => a.get t
structure Inv (P : Program) (w0 : World) (ops : Array Oper) (PD : List Nat) (a : SA) (H0 : SW) (vals : List Value) (HS : List SW) (φ0 : Phi) (ds : List Deferred) (s : Nat) (φ : Phi) (L : Array Bool) (b : Act) (W : World) : Prop where
  sz : L.size = ops.size
  cl : Closed ops L
  ef : ∀ (i : Nat) (o : Oper), ops[i]? = some o → eff o = true → (L.getD i false = true ↔ rank ops.toList i < s)
  hs : ∃ H, HS[s]? = some H ∧ WR P w0 φ H W ∧ Ext φ0 H0 φ H ∧
    ∀ (i : Nat) (o : Oper), ops[i]? = some o → fresh o = true → L.getD i false = false → φ (H0.n + births_ ops.toList i) = none ∧ (∃ t z, o.op = .alloc t ∧ zeroS P t = some z ∧ H.get (H0.n + births_ ops.toList i) = some (.cells z t true)) ∧ H0.n + births_ ops.toList i < H.n
  n : b.tmps.size = a.n
  dfr : b.defers = ds
  slot : ∀ t, VR φ (cur ops a vals L t) (b.tmps.getD t undef)

theorem getD_lt {L : Array Bool} {i : Nat} (h : L.getD i true = false) : i < L.size := by
  rcases Nat.lt_or_ge i L.size with h' | h'
  · exact h'
  · simp [h'] at h
theorem Inv.next {s s' : Nat} {φ φ' : Phi} {L : Array Bool} {b : Act} {W W' : World} (st : Static ops PD a.n) (h : Inv P w0 ops PD a H0 vals HS φ0 ds s φ L b W) {i : Nat} {o : Oper} (hi : ops[i]? = some o) (hr : i ∈ Region.ready .any ops L)
    {_H H' : SW} (hle : Le φ φ') (hH' : HS[s']? = some H') (hw : WR P w0 φ' H' W') (hext : Ext φ0 H0 φ' H') (hs' : s' = s + if eff o then 1 else 0) (hrank : eff o = true → rank ops.toList i = s)
    (hborn : ∀ (j : Nat) (oj : Oper), ops[j]? = some oj → fresh oj = true → j ≠ i → L.getD j false = false → φ' (H0.n + births_ ops.toList j) = none ∧ (∃ t z, oj.op = .alloc t ∧ zeroS P t = some z ∧ H'.get (H0.n + births_ ops.toList j) = some (.cells z t true)) ∧ H0.n + births_ ops.toList j < H'.n)
    {v v' : Value} (hv : vals[i]? = some v) (hvv : VR φ' v v') : Inv P w0 ops PD a H0 vals HS φ0 ds s' φ' (L.setIfInBounds i true) (b.put o.dst v') W' := by
  obtain ⟨hun, _, _, _⟩ := mem_ready.1 hr
  have hiL : i < L.size := getD_lt hun
  have hself : (L.setIfInBounds i true).getD i false = true := by simp [hiL]
  have hoth : ∀ j, j ≠ i → (L.setIfInBounds i true).getD j false = L.getD j false := fun j hj => getD_set_ne false (Ne.symm hj)
  refine ⟨by simpa using h.sz, h.cl.set hr, fun j oj hj he => ?_, ⟨H', hH', hw, hext, fun j oj hj hf hun' => ?_⟩, ?_, ?_, fun t => ?_⟩
  · by_cases hji : j = i
    · subst hji
      obtain rfl : o = oj := Option.some.inj (hi.symm.trans hj)
      rw [hself, hs', if_pos he, hrank he]
      simp
    · rw [hoth j hji, h.ef j oj hj he, hs']
      split
      · rename_i hei
        have hne : rank ops.toList j ≠ s := fun e => hji (rank_inj (by rw [Array.getElem?_toList]; exact hj) (by rw [Array.getElem?_toList]; exact hi) he hei (by rw [e, hrank hei]))
        omega
      · simp
  · have hji : j ≠ i := by rintro rfl; rw [hself] at hun'; cases hun'
    rw [hoth j hji] at hun'
    exact hborn j oj hj hf hji hun'
  · rw [← h.n]; cases o.dst <;> simp [Act.put]
  · rw [← h.dfr]; cases o.dst <;> rfl
  · have hget : (b.put o.dst v').tmps.getD t undef = if o.dst = some t ∧ t < b.tmps.size then v' else b.tmps.getD t undef := by
      cases hd : o.dst with
      | none => simp [Act.put]
      | some d =>
        simp only [Act.put, Array.getD_eq_getD_getElem?, Array.getElem?_setIfInBounds, Option.some.injEq]
        by_cases e : d = t
        · subst e
          by_cases hlt : d < b.tmps.size
          · simp [hlt]
          · simp [hlt]
        · simp [e]
    rw [hget]
    unfold cur
    by_cases hd : o.dst = some t
    · obtain ⟨h1, h2⟩ := st.dst i o hi t hd
      rw [h1]
      simp only [hself, if_true]
      rw [if_pos ⟨hd, by rw [h.n]; exact h2⟩]
      rw [List.getD_eq_getElem?_getD, hv]
      exact hvv
    · rw [if_neg (fun hh => hd hh.1)]
      have hold := (h.slot t).mono hle
      unfold cur at hold
      cases hwr : wr ops.toList 0 t with
      | none => rw [hwr] at hold; exact hold
      | some j =>
        rw [hwr] at hold
        simp only at hold ⊢
        have hji : j ≠ i := by
          rintro rfl
          obtain ⟨o', ho', hd'⟩ := wr_some hwr
          rw [hi] at ho'; injection ho' with ho'; subst ho'; exact hd hd'
        rw [hoth j hji]; exact hold

/-- What an operation that is ready reads. -/
theorem Inv.reads {s : Nat} {φ : Phi} {L : Array Bool} {b : Act} {W : World} (st : Static ops PD a.n) (h : Inv P w0 ops PD a H0 vals HS φ0 ds s φ L b W) {i : Nat} {o : Oper} (hi : ops[i]? = some o) (hr : i ∈ Region.ready .any ops L) :
    ∀ t, t ∈ o.looksAt ops → VR φ (rho ops PD a vals i (.tmp t)) (b.tmps.getD t undef) := by
  obtain ⟨hun, o', ho', hall⟩ := mem_ready.1 hr
  obtain rfl : o = o' := Option.some.inj (hi.symm.trans ho')
  intro t ht
  have hsl := h.slot t
  unfold cur at hsl
  simp only [rho]
  cases hwr : wr ops.toList 0 t with
  | none => rw [hwr] at hsl; exact hsl
  | some j =>
    rw [hwr] at hsl
    simp only at hsl ⊢
    by_cases hw : waits PD i j = true
    · rw [if_pos hw]
      rw [if_pos (waits_done st h.sz h.cl i o hi hall j hw)] at hsl
      exact hsl
    · rw [if_neg hw]
      have hj : L.getD j false = false := by
        rcases st.look i o hi t ht j hwr with rfl | hw' | hw'
        · exact getD_both hun
        · exact absurd hw' hw
        · cases hLj : L.getD j false with
          | false => rfl
          | true =>
            obtain ⟨oj, hoj, _⟩ := wr_some hwr
            have := waits_done' st h.sz h.cl hLj hw' (lt_of_some hoj)
            rw [getD_both hun] at this; cases this
      rw [hj] at hsl
      simpa using hsl
theorem Inv.opnds {s : Nat} {φ : Phi} {L : Array Bool} {b : Act} {W : World} (st : Static ops PD a.n) (h : Inv P w0 ops PD a H0 vals HS φ0 ds s φ L b W) {i : Nat} {o : Oper} (hi : ops[i]? = some o) (hr : i ∈ Region.ready .any ops L) :
    ∀ x ∈ o.op.operands, VR φ (rho ops PD a vals i x) (b.eval x) := by
  intro x hx
  have hok := List.all_eq_true.1 (st.ok i o hi) x (Array.mem_toList_iff.2 hx)
  cases x with
  | tmp t =>
    refine h.reads st hi hr t ?_
    unfold Oper.looksAt
    exact List.mem_append_left _ (List.mem_filterMap.2 ⟨_, Array.mem_toList_iff.2 hx, rfl⟩)
  | const v => exact grd_self 3 v hok
  | global g => cases hok
  | func f => exact .fn rfl (fun i hx => by simp at hx) rfl fun i hx => by simp at hx
theorem Inv.wanted {s : Nat} {φ : Phi} {L : Array Bool} {b : Act} {W : World} (st : Static ops PD a.n) (h : Inv P w0 ops PD a H0 vals HS φ0 ds s φ L b W) {i : Nat} {o : Oper} (hi : ops[i]? = some o) (hr : i ∈ Region.ready .any ops L) :
    Region.wanted o (yielded ops b.tmps) = wantS ops (rho ops PD a vals i) o := by
  unfold Region.wanted wantS
  cases hg : o.guard with
  | none => rfl
  | some p =>
    obtain ⟨j, want⟩ := p
    simp only [yielded]
    cases hd : (ops[j]?).bind (·.dst) with
    | none => simp
    | some t =>
      have hv := h.reads st hi hr t (by unfold Oper.looksAt; rw [hg]; simp [hd])
      simp only [Option.bind_some]
      rw [Array.getD_eq_getD_getElem?] at hv
      cases e : b.tmps[t]? with
      | none =>
        rw [e] at hv
        simp only [Option.getD_none, undef] at hv
        generalize rho ops PD a vals i (.tmp t) = x at hv
        cases hv <;> simp_all [Ev.sc]
      | some u =>
        rw [e] at hv
        simp only [Option.getD_some] at hv
        generalize rho ops PD a vals i (.tmp t) = x at hv
        cases hv with
        | sc hs => cases u <;> simp
        | _ => simp

theorem inv_step (hC : COk P w0 C) (hR : ROk P w0 R) (pl : Plan P C R ops PD a H0 H1 vals HS) {Q : Exit → Act → World → Prop} {s : Nat} {φ : Phi} {L : Array Bool} {b : Act} {W : World} (h : Inv P w0 ops PD a H0 vals HS φ0 ds s φ L b W)
    {i : Nat} (hr : i ∈ Region.ready .any ops L) : wpOpIn (FW r) 0 P ops Q i (fun b' W' => ∃ s' φ', Inv P w0 ops PD a H0 vals HS φ0 ds s' φ' (L.setIfInBounds i true) b' W') b W := by
  have st := pl.st
  obtain ⟨hun, o, hi, hall⟩ := mem_ready.1 hr
  obtain ⟨H, hH, hw, hext, hborn⟩ := h.hs
  have turn := pl.turn i o hi
  have hop := h.opnds st hi hr
  have hlt := lt_of_some hi
  have hrank : eff o = true → rank ops.toList i = s := fun he => by
    have h1 : ¬ rank ops.toList i < s := fun hh => by
      have := (h.ef i o hi he).2 hh
      rw [getD_both hun] at this; cases this
    have h2 : rank ops.toList i ≤ s := by
      rcases Nat.eq_zero_or_pos (rank ops.toList i) with h0 | h0
      · omega
      · -- the step ahead
        have hle := rank_le (l := ops.toList) (i := i) (by simpa using Nat.le_of_lt hlt)
        obtain ⟨j, oj, hj, hej, hrj⟩ := rank_hit ops.toList (rank ops.toList i - 1) (by omega)
        rw [Array.getElem?_toList] at hj
        have hji : j < i := by
          rcases Nat.lt_trichotomy j i with e | e | e
          · exact e
          · subst e; omega
          · have := rank_lt ops.toList i j o e (by rw [Array.getElem?_toList]; exact hi) he; omega
        have := waits_done st h.sz h.cl i o hi hall j (st.chain i o hi he j oj hj hej hji)
        have := (h.ef j oj hj hej).1 this
        omega
    omega
  have keep : ∀ (φ' : Phi) (H' : SW), Ext φ H φ' H' → ∀ (j : Nat) (oj : Oper), ops[j]? = some oj → fresh oj = true → j ≠ i → L.getD j false = false → φ' (H0.n + births_ ops.toList j) = none ∧ (∃ t z, oj.op = .alloc t ∧ zeroS P t = some z ∧ H'.get (H0.n + births_ ops.toList j) = some (.cells z t true)) ∧ H0.n + births_ ops.toList j < H'.n := by
    intro φ' H' hx j oj hj hf _ hunj
    obtain ⟨h1, ⟨t, z, h2, h3, h4⟩, h5⟩ := hborn j oj hj hf hunj
    exact ⟨by rw [hx.old _ h5]; exact h1, ⟨t, z, h2, h3, by rw [hx.un _ h5 h1]; exact h4⟩, Nat.lt_of_lt_of_le h5 hx.n⟩
  unfold wpOpIn
  simp only [hi]
  rw [h.wanted st hi hr]
  cases hf : fresh o with
  | true =>
    obtain ⟨h1, ⟨t, z, h2, h3, h4⟩, h5⟩ := hborn i o hi hf (getD_both hun)
    obtain ⟨inf, zv, e1, e2, e3, e4⟩ := zeroS_spec h3
    have hgn : o.guard = none := by
      obtain ⟨_, _, _, hh⟩ := births_spec (P := P) (w0 := w0) ops.toList H0 H1 pl.bir
      obtain ⟨_, _, _, hg, _⟩ := hh i o (by rw [Array.getElem?_toList]; exact hi) hf
      exact hg
    rw [if_pos (by simp [wantS, hgn])]
    refine ⟨fun _ _ => trivial, ?_⟩
    rw [Oper.semAt_eq _ _ _ (by simp [h2])]
    have hrun : (execOp b.eval o).run P W = .ok (.value (.pointer (some ⟨W.heap.size, 0, none⟩))) (W.alloc (.cells zv.cells t)) := by
      simp [execOp, h2, Instr.alloc, zeroValue, typeInfo, e1, e2, newVar_run]
    rw [hrun, Oper.uponIn_value]
    obtain ⟨hle, hw'⟩ := hw.birth h1 h5 h4 (by rw [e3]; exact sc_cells e4)
    refine ⟨s, _, h.next st hi hr (_H := H) hle hH hw' ⟨hext.n, fun c hc => ?_, fun c hc hn => ?_⟩ (by simp [eff, hf]) (fun he => by simp [eff, hf] at he) (fun j oj hj hfj hji hunj => ?_) (turn.fr hf) (.ptr (k := 0) (upd_self _ _))⟩
    · simp only [upd]; rw [if_neg (by omega)]; exact hext.old c hc
    · exact hext.un c hc hn
    · obtain ⟨k1, k2, k3⟩ := hborn j oj hj hfj hunj
      refine ⟨?_, k2, k3⟩
      simp only [upd]
      rw [if_neg]
      · exact k1
      · intro e
        exact hji (births_inj (by rw [Array.getElem?_toList]; exact hj) (by rw [Array.getElem?_toList]; exact hi) hfj hf (by omega))
  | false =>
    cases hwant : wantS ops (rho ops PD a vals i) o with
    | false =>
      simp only [Bool.false_eq_true, if_false]
      refine ⟨fun _ _ => trivial, ?_⟩
      obtain ⟨hv, hh⟩ := turn.no hf hwant
      cases he : effect o with
      | false => exact ⟨s, φ, h.next st hi hr (_H := H) (fun _ _ hb => hb) hH hw hext (by simp [eff, he]) (fun he' => by simp [eff, he] at he') (keep φ H (Ext.refl _ _)) hv (VR.undef φ)⟩
      | true =>
        have hef : eff o = true := by simp [eff, he, hf]
        obtain ⟨H', e1, e2⟩ := hh he
        rw [hrank hef] at e1 e2
        obtain rfl : H = H' := Option.some.inj (hH.symm.trans e1)
        exact ⟨s + 1, φ, h.next st hi hr (_H := H) (fun _ _ hb => hb) e2 hw hext (by simp [hef]) hrank (keep φ H (Ext.refl _ _)) hv (VR.undef φ)⟩
    | true =>
      simp only [if_true]
      cases he : effect o with
      | true =>
        have hef : eff o = true := by simp [eff, he, hf]
        obtain ⟨v, H2, H', e1, e2, hv, hE⟩ := turn.ef hf hwant he
        rw [hrank hef] at e1 e2
        obtain rfl : H = H2 := Option.some.inj (hH.symm.trans e1)
        refine step_ok hC hR hw (H' := H') (v := v) hop (by rw [if_pos he]; exact hE) fun φ' v' W' x1 x2 x3 => ?_
        exact ⟨s + 1, φ', h.next st hi hr (_H := H) (hw.le x1) e2 x2 (hext.trans x1) (by simp [hef]) hrank (keep φ' H' x1) hv x3⟩
      | false =>
        obtain ⟨v, H2, e1, hv, hQ⟩ := turn.qu hf hwant he
        have hq : qop P (rho ops PD a vals i) o H = some v := by
          cases hl : isLoad o with
          | false => rw [qop_indep hl H H2]; exact hQ
          | true =>
            have := pl.win i o hi hl hwant s H hH ?_
            · rw [this, List.getD_eq_getElem?_getD, hv]; rfl
            · unfold inWin
              have key : ∀ (l : List Oper) (k : Nat), (∀ (j : Nat) (oj : Oper), l[j]? = some oj → (!eff oj || ((!waits PD i (k + j) || decide (rank ops.toList (k + j) < s)) && (!waits PD (k + j) i || decide (s ≤ rank ops.toList (k + j))))) = true) →
                  allB (fun j o' => !eff o' || ((!waits PD i j || decide (rank ops.toList j < s)) && (!waits PD j i || decide (s ≤ rank ops.toList j)))) k l = true := by
                intro l
                induction l with
                | nil => intro k _; rfl
                | cons x l ih =>
                  intro k hk
                  simp only [allB, Bool.and_eq_true]
                  refine ⟨by simpa using hk 0 x rfl, ih (k + 1) fun j oj hj => ?_⟩
                  have := hk (j + 1) oj (by simpa using hj)
                  rwa [show k + (j + 1) = k + 1 + j by omega] at this
              refine key ops.toList 0 fun j oj hj => ?_
              rw [Array.getElem?_toList] at hj
              rw [Nat.zero_add]
              cases hej : eff oj with
              | false => rfl
              | true =>
                simp only [Bool.not_true, Bool.false_or, Bool.and_eq_true, Bool.or_eq_true, Bool.not_eq_true', decide_eq_true_eq]
                refine ⟨?_, ?_⟩
                · cases hwj : waits PD i j with
                  | false => exact .inl rfl
                  | true => exact .inr ((h.ef j oj hj hej).1 (waits_done st h.sz h.cl i o hi hall j hwj))
                · cases hwj : waits PD j i with
                  | false => exact .inl rfl
                  | true =>
                    right
                    have hnj : ¬ rank ops.toList j < s := fun hh => by
                      have h1 := (h.ef j oj hj hej).2 hh
                      have h2 := waits_done' st h.sz h.cl h1 hwj (lt_of_some hj)
                      rw [getD_both hun] at h2; cases h2
                    omega
        refine step_ok hC hR hw (H' := H) (v := v) hop (by simp [he, hq]) fun φ' v' W' x1 x2 x3 => ?_
        exact ⟨s, φ', h.next st hi hr (_H := H) (hw.le x1) hH x2 (hext.trans x1) (by simp [eff, he]) (fun he' => by simp [eff, he] at he') (keep φ' H x1) hv x3⟩

def undone (n : Nat) (L : Array Bool) : Nat := ((List.range n).filter fun i => !L.getD i false).length
theorem undone_lt {n : Nat} {L : Array Bool} {i : Nat} (hi : i < n) (h : L.getD i true = false) : undone n (L.setIfInBounds i true) < undone n L := by
  unfold undone
  have e : (List.range n).filter (fun j => !(L.setIfInBounds i true).getD j false) = ((List.range n).filter fun j => !L.getD j false).filter (· != i) := by
    rw [List.filter_filter]
    refine List.filter_congr fun j _ => ?_
    by_cases hj : j = i
    · subst hj
      have := getD_lt h
      simp [this]
    · rw [getD_set_ne false (Ne.symm hj)]
      simp [hj]
  rw [e, List.length_filter_lt_length_iff_exists]
  exact ⟨i, List.mem_filter.2 ⟨by simpa using hi, by rw [getD_both h]; rfl⟩, by simp⟩
theorem all_done (st : Static ops PD a.n) {L : Array Bool} (hsz : L.size = ops.size) (h : Region.ready .any ops L = []) : ∀ i, i < ops.size → L.getD i false = true := by
  intro i
  induction i using Nat.strongRecOn with
  | _ i ih =>
    intro hi
    cases e : L.getD i false with
    | true => rfl
    | false =>
      obtain ⟨o, ho⟩ := some_of_lt hi
      have : i ∈ Region.ready .any ops L := mem_ready.2 ⟨by
        have : i < L.size := by omega
        simpa [this] using e, o, ho, fun x hx hb => ih x.on (st.back i o ho x hx hb) (by have := st.back i o ho x hx hb; omega)⟩
      rw [h] at this
      cases this
theorem inv_any (hC : COk P w0 C) (hR : ROk P w0 R) (pl : Plan P C R ops PD a H0 H1 vals HS) {Q : Exit → Act → World → Prop}
    (hQ : ∀ s φ L b W, Inv P w0 ops PD a H0 vals HS φ0 ds s φ L b W → (∀ i, i < ops.size → L.getD i false = true) → Q .normal b W) :
    ∀ (fuel : Nat) (s : Nat) (φ : Phi) (L : Array Bool) (b : Act) (W : World), Inv P w0 ops PD a H0 vals HS φ0 ds s φ L b W → undone ops.size L ≤ fuel → wpAnyIn (FW r) 0 P .any ops Q fuel L b W
  | 0, s, φ, L, b, W, h, hu => by
    have hnil : Region.ready .any ops L = [] := by
      cases e : Region.ready .any ops L with
      | nil => rfl
      | cons i l =>
        have hi : i ∈ Region.ready .any ops L := by rw [e]; simp
        obtain ⟨h1, o, ho, _⟩ := mem_ready.1 hi
        have := undone_lt (lt_of_some ho) h1
        omega
    exact ⟨hnil, hQ s φ L b W h (all_done pl.st h.sz hnil)⟩
  | fuel + 1, s, φ, L, b, W, h, hu => by
    refine ⟨fun hnil => hQ s φ L b W h (all_done pl.st h.sz hnil), fun i hi => ?_⟩
    refine wpOpIn_mono (fun b' W' hh => ?_) (inv_step hC hR pl h hi)
    obtain ⟨s', φ', h'⟩ := hh
    obtain ⟨h1, o, ho, _⟩ := mem_ready.1 hi
    have := undone_lt (lt_of_some ho) h1
    exact inv_any hC hR pl hQ fuel s' φ' _ b' W' h' (by omega)
end
end Go.Proofs.Ytkliejppigfjiaa.Ev
