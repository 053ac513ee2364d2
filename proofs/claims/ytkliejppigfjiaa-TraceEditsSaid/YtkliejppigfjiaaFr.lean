/-
  Ranges over functions: the iterator's code is run in place, and where it calls yield, the loop's body.
  Conditions: the checks of the code; the program follows the rule on mixed orders.
-/
import Derived.Test.YtkliejppigfjiaaFu
namespace Go.Proofs.Ytkliejppigfjiaa.Fx
open Go.RowKit

@[reducible] def putPs : List Nat → List V → Fr → Fr
  | [], _, fr => fr
  | _ :: _, [], fr => fr
  | p :: ps, v :: vs, fr => putPs ps vs ((p, v) :: fr)
@[reducible] def beginL (H : SW) (l : Nat) (K : SW → Prop) : Prop := match hget H.l l with
  | some (.loop L s) => match s with
    | .ready => spineH (hput H.l l (.loop L .busy)) fun r => K ⟨H.n, r⟩
    | _ => False
  | _ => False
@[reducible] def endL (H : SW) (l : Nat) (s' : LSt) (K : SW → Prop) : Prop := match hget H.l l with
  | some (.loop L s) => match s with
    | .busy => spineH (hput H.l l (.loop L s')) fun r => K ⟨H.n, r⟩
    | _ => False
  | _ => False
/-- One round: what is assigned; the body; what yield hands back. -/
@[reducible] def roundW (P : Program) (T : Tbl) (l : Nat) (ag bd : Code) (fr : Fr) (H : SW) (K : V → SW → Prop) : Prop :=
  codeW P T ag fr H fun e fr1 H1 => match e with
    | .normal => beginL H1 l fun H2 => codeW P T bd fr1 H2 fun e2 _ H3 => match e2 with
      | .normal => endL H3 l .ready fun H4 => K (B true) H4
      | .ret => endL H3 l .ret fun H4 => K (B false) H4
      | .exit id => endL H3 l (.exit id) fun H4 => K (B false) H4
      | _ => False
    | _ => False
structure LOK (L : LInfo) : Prop where
  ag : chk L.n true L.ag = true
  bd : chk L.n true L.bd = true
  ps : (L.ps.toList.all fun t => decide (t < L.n)) = true
theorem beginL_ok {H : SW} {l : Nat} {K : SW → Prop} (h : beginL H l K) : ∃ L, H.get l = some (.loop L .ready) ∧ K (H.put l (.loop L .busy)) := by
  unfold beginL at h
  split at h
  · rename_i L s hg
    cases s with
    | ready => exact ⟨L, hg, spineH_ok _ _ h⟩
    | busy => exact h.elim
    | ret => exact h.elim
    | exit id => exact h.elim
  · exact h.elim
theorem endL_ok {H : SW} {l : Nat} {s' : LSt} {K : SW → Prop} (h : endL H l s' K) : ∃ L, H.get l = some (.loop L .busy) ∧ K (H.put l (.loop L s')) := by
  unfold endL at h
  split at h
  · rename_i L s hg
    cases s with
    | busy => exact ⟨L, hg, spineH_ok _ _ h⟩
    | ready => exact h.elim
    | ret => exact h.elim
    | exit id => exact h.elim
  · exact h.elim
theorem putPs_ok {m : Mem} : ∀ (ps : List Nat) (vs : List V) (args : List Value) (fr : Fr) (tm : Array Value), LR m vs args → ps.length = vs.length → (∀ p ∈ ps, p < tm.size) → (∀ t v, fget fr t = some v → VR m v (tm.getD t undef)) →
    ((ps.zip args).foldl (fun t (x : Nat × Value) => t.setIfInBounds x.1 x.2) tm).size = tm.size ∧ ∀ t v, fget (putPs ps vs fr) t = some v → VR m v (((ps.zip args).foldl (fun t (x : Nat × Value) => t.setIfInBounds x.1 x.2) tm).getD t undef)
  | [], vs, args, fr, tm, _, _, _, h => ⟨rfl, by simpa [putPs] using h⟩
  | p :: ps, [], args, fr, tm, _, hl, _, _ => by simp at hl
  | p :: ps, v :: vs, [], fr, tm, hr, _, _, _ => by simp [LR] at hr
  | p :: ps, v :: vs, a :: args, fr, tm, hr, hl, hp, h => by
    have ih := putPs_ok ps vs args ((p, v) :: fr) (tm.setIfInBounds p a) hr.tail (by simpa using hl) (fun q hq => by simpa using hp q (by simp [hq])) fun t w hw => by
      simp only [fget] at hw
      have hlt := hp p (by simp)
      rw [Array.getD_eq_getD_getElem?, Array.getElem?_setIfInBounds]
      rcases beq_cases p t with ⟨e, rfl⟩ | ⟨e, hn⟩
      · simp only [e, Option.some.injEq] at hw
        subst hw
        simp [hlt, hr.head]
      · simp only [e] at hw
        simp only [hn, if_false]
        rw [← Array.getD_eq_getD_getElem?]
        exact h t w hw
    refine ⟨?_, fun t w hw => ?_⟩
    · simp only [List.zip_cons_cons, List.foldl_cons]
      rw [ih.1]; simp
    · simp only [List.zip_cons_cons, List.foldl_cons]
      exact ih.2 t w hw
theorem ov_putObj {w W : World} {g : Nat} {o : Obj} (h : Ov w W) (hg : w.heap.size ≤ g) : Ov w (W.putObj g o) := by
  refine .of ⟨h.below.os, h.below.tape, h.below.output, ?_, fun j hj => ?_⟩
  · have : (W.putObj g o).heap.size = W.heap.size := by simp [World.putObj]
    rw [this]; exact h.below.size
  · rw [← h.below.block j hj]
    simp only [World.putObj]
    rw [Array.getElem?_setIfInBounds_ne (by omega)]
theorem putObj_other {W : World} {g j : Nat} {o : Obj} (h : j ≠ g) : (W.putObj g o).heap[j]? = W.heap[j]? := by
  simp only [World.putObj]
  rw [Array.getElem?_setIfInBounds_ne (Ne.symm h)]
theorem putObj_size {W : World} {g : Nat} {o : Obj} : (W.putObj g o).heap.size = W.heap.size := by simp [World.putObj]
theorem putObj_same {W : World} {g : Nat} {o o' : Obj} (h : W.heap[g]? = some o') : (W.putObj g o).heap[g]? = some o := by
  have hlt := (Array.getElem?_eq_some_iff.1 h).1
  simp only [World.putObj]
  rw [Array.getElem?_setIfInBounds_self_of_lt hlt]
/-- The record of a range over a function is turned. -/
theorem WR.turn {w0 : Base} {m : Mem} {H : SW} (hw : WR w0 m H) {l g C : Nat} {L : LInfo} {s s' : LSt} {r : Loop} (hφ : m.φ l = some (g, C)) (hg : H.get l = some (.loop L s)) (hr : LoopR m g L s r) :
    WR w0 { m with W := m.W.putObj g (.loop { r with state := s'.of.1, pending := s'.of.2 }) } (H.put l (.loop L s')) ∧ Ext m H { m with W := m.W.putObj g (.loop { r with state := s'.of.1, pending := s'.of.2 }) } (H.put l (.loop L s')) := by
  have hl : Le m { m with W := m.W.putObj g (.loop { r with state := s'.of.1, pending := s'.of.2 }) } := ⟨fun _ _ h => h, fun _ h => h, fun j hj => putObj_other (by rintro rfl; exact (hw.high l j C _ hφ hg).2 hj)⟩
  refine hw.write hφ hg (ov_putObj hw.ov (hw.high l g C _ hφ hg).1) (fun j hj => putObj_other hj) (Nat.le_of_eq putObj_size.symm) ⟨_, putObj_same hr.at_, hr.tok, rfl, rfl, hr.ps, hr.ag, hr.bd, hr.n, fun t v hv => (hr.fr t v hv).mono hl⟩
section
variable {P : Program} {T : Tbl}
/-- **A call of yield**: one round. -/
theorem yield_i (hm : P.follows .mixedOrders = true) (hT : ∀ t i, tget T t = some i → tiOf P t = some i) {l : Nat} {vs : List V} {H : SW} {K : V → SW → Prop} {L : LInfo} (hg : hget H.l l = some (.loop L .ready)) (hL : LOK L) {fr0 : Fr} {ps : List Nat} {ag bd : Code}
    (efr : L.fr = fr0) (eps : L.ps.toList = ps) (eag : L.ag = ag) (ebd : L.bd = bd) (hlen : Nat.beq ps.length vs.length = true) (hfl : (flat ag && flat bd) = true) (h : roundW P T l ag bd (putPs ps vs fr0) H K) : yieldW P l vs H K := by
  subst efr eps eag ebd
  have hlen := beq_t hlen
  simp only [Bool.and_eq_true] at hfl
  obtain ⟨e, fr1, H1, k1, s1⟩ := codeW_one hm hT (rdm := true) L.ag _ H _ hfl.1 hL.ag h
  cases e with
  | ret => exact k1.elim
  | exit id => exact k1.elim
  | goto l => exact k1.elim
  | panic c => exact k1.elim
  | outgrown => exact k1.elim
  | normal =>
    obtain ⟨L1, hg1, k2⟩ := beginL_ok k1
    obtain ⟨e2, fr3, H3, k3, s3⟩ := codeW_one hm hT (rdm := true) L.bd fr1 _ _ hfl.2 hL.bd k2
    have main : ∀ (s : LSt) (v : V) (jump : Option Code), endL H3 l s (fun H4 => K v H4) → (∀ Q : Option Code → Prop, Q jump → Q s.of.2) → s.of.1 = (if jump.isNone then .ready else .done) → v = B jump.isNone →
        (∀ (R : Ending → World → Prop) (a : Act) (w : World), (∃ v w', (Instr.endRound 0 jump).run P w = .ok v w' ∧ R (.returned v) w') → True) →
        (∀ (g : Nat) (R : Ending → World → Prop) (a : Act) (w : World), (∃ v w', (Instr.endRound g jump).run P w = .ok v w' ∧ R (.returned v) w') → roundPost P g R e2 a w) → yieldW P l vs H K := by
      intro s v jump hend hp hst hv _ hpost
      obtain ⟨L3, hg3, k4⟩ := endL_ok hend
      refine ⟨⟨v, H3.put l (.loop L3 s), fun w0 m args' g C hw hφ hargs => ?_, k4⟩⟩
      obtain ⟨r, hr⟩ := hw.blk l g C _ hφ hg
      have hsz : args'.size = r.params.size := by
        have h1 := hargs.1
        have h2 : L.ps.size = r.params.size := by rw [hr.ps]
        simp at h1 hlen; omega
      obtain ⟨p1, p2⟩ := putPs_ok L.ps.toList vs args'.toList L.fr r.tmps hargs hlen (fun p hp => by
        have := List.all_eq_true.1 hL.ps p hp
        rw [hr.n]; simpa using this) hr.fr
      have efold : (r.params.zip args').foldl (fun tmps (x : Tmp × Value) => tmps.setIfInBounds x.1 x.2) r.tmps = (L.ps.toList.zip args'.toList).foldl (fun t (x : Nat × Value) => t.setIfInBounds x.1 x.2) r.tmps := by
        rw [← Array.foldl_toList, Array.toList_zip, hr.ps]
      refine ⟨r.fn, _, r.assign, r.body, run_yield hr.at_ hsz, roundIn_of_wpIn trivial ?_⟩
      rw [hr.ag]
      refine s1 w0 (some g) m.D m _ ⟨?_, ?_, ⟨[], by simp, rfl⟩, rfl⟩ hw _ fun m1 b1 x1 x2 x3 x4 => ?_
      · show ((r.params.zip args').foldl (fun tmps (x : Tmp × Value) => tmps.setIfInBounds x.1 x.2) r.tmps).size = _
        rw [efold, p1, hr.n]
      · intro t v hv
        show VR m v (((r.params.zip args').foldl (fun tmps (x : Tmp × Value) => tmps.setIfInBounds x.1 x.2) r.tmps).getD t undef)
        rw [efold]; exact p2 t v hv
      have hφ1 : m1.φ l = some (g, C) := x1.φ _ _ hφ
      obtain ⟨r1, hr1⟩ := x4.blk l g C _ hφ1 hg1
      obtain ⟨t1, t2⟩ := x4.turn (s' := .busy) hφ1 hg1 hr1
      refine ⟨_, run_beginRound hr1.at_ hr1.st, ?_⟩
      have epe : ({ r1 with state := .busy } : Loop) = { r1 with state := LSt.busy.of.1, pending := LSt.busy.of.2 } := by
        have := hr1.pe
        simp only [LSt.of] at this ⊢
        rw [← this]
      rw [epe, hr.bd]
      refine s3 w0 (some g) m.D _ b1 (x3.mono t2.toLe rfl) t1 _ fun m3 b3 y1 y2 y3 y4 => ?_
      have hφ3 : m3.φ l = some (g, C) := y1.φ _ _ hφ1
      obtain ⟨r3, hr3⟩ := y4.blk l g C _ hφ3 hg3
      obtain ⟨u1, u2⟩ := y4.turn (s' := s) hφ3 hg3 hr3
      have erec : ({ r3 with state := if jump.isNone then .ready else .done, pending := jump } : Loop) = { r3 with state := s.of.1, pending := s.of.2 } := by
        rw [hst]
        have := hp (fun x => x = jump) rfl
        rw [this]
      refine hpost g _ b3 _ ⟨_, _, run_endRound jump hr3.at_, ?_⟩
      rw [erec]
      exact ⟨_, _, rfl, rfl, ((x1.trans t2).trans y1).trans u2, y2.trans x2, u1, by rw [hv]; exact .sc rfl⟩
    cases e2 with
    | normal => exact main .ready (B true) none k3 (fun Q h => h) rfl rfl (fun _ _ _ _ => trivial) fun _ _ _ _ h => h
    | ret => exact main .ret (B false) (some .ret) k3 (fun Q h => h) rfl rfl (fun _ _ _ _ => trivial) fun _ _ _ _ h => h
    | exit id => exact main (.exit id) (B false) (some (.exit id)) k3 (fun Q h => h) rfl rfl (fun _ _ _ _ => trivial) fun _ _ _ _ h => h
    | goto l => exact k3.elim
    | panic c => exact k3.elim
    | outgrown => exact k3.elim

/-! ### The statement -/
@[reducible] def leaveY (l y : Nat) (L : LInfo) (fr0 : Fr) (K : Exit → Fr → SW → Prop) (fr : Fr) (H : SW) : Prop := match fget fr y with
  | some (.yld l') => match nbeq l' l with
    | true => match hget H.l l with
      | some (.loop L' s) => ob (L' = L) (spineH (hdel H.l l) fun r => match s with
        | .ready => K .normal fr0 ⟨H.n, r⟩
        | .ret => K .ret fr0 ⟨H.n, r⟩
        | .exit id => K (.exit id) fr0 ⟨H.n, r⟩
        | .busy => False)
      | _ => False
    | false => False
  | _ => False
/-- The iterator ends: on with the loop's jump. ('y': the temporary that holds yield.) -/
@[reducible] def exitY (l y : Nat) (L : LInfo) (fr0 : Fr) (K : Exit → Fr → SW → Prop) : Exit → Fr → SW → Prop
  | .normal, fr, H => leaveY l y L fr0 K fr H
  | .ret, fr, H => leaveY l y L fr0 K fr H
  | _, _, _ => False
@[reducible] def keepFr : List Nat → Fr → Fr
  | [], _ => []
  | t :: ts, fr => match fget fr t with
    | some v => (t, v) :: keepFr ts fr
    | none => keepFr ts fr
theorem keepFr_get {fr : Fr} : ∀ (ts : List Nat) (t : Nat) (v : V), fget (keepFr ts fr) t = some v → fget fr t = some v
  | [], t, v, h => by cases h
  | k :: ts, t, v, h => by
    simp only [keepFr] at h
    split at h
    · rename_i x hx
      simp only [fget] at h
      rcases beq_cases k t with ⟨e, rfl⟩ | ⟨e, _⟩
      · simp only [e, Option.some.injEq] at h; subst h; exact hx
      · simp only [e] at h; exact keepFr_get ts t v h
    · exact keepFr_get ts t v h
def noTok (tok : Nat) : List (Nat × SB) → Bool
  | [] => true
  | (_, .loop L _) :: l => !(Nat.beq L.tok tok) && noTok tok l
  | (_, .cells ..) :: l => noTok tok l
  | (_, .row ..) :: l => noTok tok l
  | (_, .mpb ..) :: l => noTok tok l
theorem noTok_get {tok : Nat} : ∀ {l : List (Nat × SB)}, noTok tok l = true → ∀ b L s, hget l b = some (.loop L s) → L.tok ≠ tok
  | [], _, b, L, s, h => by cases h
  | (c, x) :: l, hn, b, L, s, h => by
    simp only [hget] at h
    have hl : noTok tok l = true := by
      cases x with
      | loop => simp only [noTok, Bool.and_eq_true] at hn; exact hn.2
      | cells => exact hn
      | row => exact hn
      | mpb => exact hn
    rcases nbeq_cases c b with ⟨e, rfl⟩ | ⟨e, _⟩
    · simp only [e, Option.some.injEq] at h
      subst h
      simp only [noTok, Bool.and_eq_true, Bool.not_eq_true'] at hn
      intro e2
      subst e2
      simp at hn
    · simp only [e] at h; exact noTok_get hl b L s h
theorem SBR.marks {m : Mem} {D : Mk} {g C : Nat} {s : SB} (h : SBR m g C s) (hD : ∀ i s0, s = .loop i s0 → D.r i.tok = m.D.r i.tok) : SBR { m with D := D } g C s := by
  have hl : Le m { m with D := D } := ⟨fun _ _ h => h, fun _ h => h, fun _ _ => rfl⟩
  cases s with
  | loop i s =>
    obtain ⟨r, h⟩ := h
    exact ⟨r, h.at_, by show D.r i.tok = _; rw [hD i s rfl]; exact h.tok, h.st, h.pe, h.ps, h.ag, h.bd, h.n, fun t v hv => (h.fr t v hv).mono hl⟩
  | cells cs t => obtain ⟨ds, h1, h2⟩ := h; exact ⟨ds, h1, h2.mono hl⟩
  | row sz n x t => obtain ⟨ds, h1, h2, h3, h4⟩ := h; exact ⟨ds, h1, h2, h3, h4.mono hl⟩
  | mpb f => obtain ⟨es, cl, h1, h2⟩ := h; exact ⟨es, cl, h1, h2⟩
theorem WR.marksTo {w0 : Base} {m : Mem} {H : SW} (hw : WR w0 m H) {D : Mk} (hr : ∀ b g C i s, m.φ b = some (g, C) → H.get b = some (.loop i s) → D.r i.tok = m.D.r i.tok) (hd : ∀ g ∈ D.d, w0.W.heap.size ≤ g ∧ ¬ m.F g ∧ m.W.heap[g]? = some (.deferred (some []))) (hu : D.d.Nodup) : WR w0 { m with D := D } H :=
  ⟨hw.ov, hw.dom, hw.hdom, fun b g C s h1 h2 => (hw.blk b g C s h1 h2).marks fun i s0 e => hr b g C i s0 h1 (by rw [h2, e]), hw.high, hw.inj, hw.fr, hd, hu, hw.new, hw.gl⟩
/-- **A range over a function**: the iterator's code is run in place. ('tok': a number that no other range under way has; 'ts': the temporaries that are kept.) -/
theorem range_i (hm : P.follows .mixedOrders = true) (hT : ∀ t i, tget T t = some i → tiOf P t = some i) {f : Operand} {ps : Array Tmp} {ag bd : Code} {fr : Fr} {H : SW} {K : Exit → Fr → SW → Prop} {fid : Nat} {caps : List V} (hf : ev fr f = some (.fn fid caps))
    (fn : Func) {nm og : String} {ta pt rt : Array TypeId} {nf nt : Nat} {c : Code} {nr ou : Bool} {fl : String} {el : Nat} {ln : Option Nat} {mt : List Departure} {tn : Array String}
    (hfn : P.funcs[fid]? = some fn) (he : fn = ⟨nm, og, ta, pt, rt, nf, nt, #[], some c, nr, ou, fl, el, ln, mt, tn⟩) (hB : fnB P fid (Nat.succ (llen caps)) = true) (tok : Nat) (ts : List Nat) (htok : noTok tok H.l = true)
    (h : ∀ L : LInfo, L.fr = keepFr ts fr → L.ps.toList = ps.toList → L.ag = ag → L.bd = bd → L.tok = tok → LOK L → codeW P T c (argFr 0 (.yld H.n :: caps)) (H.push (.loop L .ready)) (exitY H.n 0 L (keepFr ts fr) K)) : rangeW P T f ps ag bd fr H K := by
  subst he
  refine ⟨fun n hc => ?_⟩
  intro w0 rd out m b hrd ha hw Q hQ
  obtain rfl : rd = none := by cases rd with | none => rfl | some _ => cases hrd
  have hc' : okX f = true ∧ (ps.toList.all fun t => decide (t < n)) = true ∧ chk n true ag = true ∧ chk n true bd = true := by
    simp only [chk, Bool.and_eq_true] at hc
    exact ⟨hc.1.1.1.2, hc.1.1.2, hc.1.2, hc.2⟩
  unfold fnB at hB
  simp only [hfn, Bool.and_eq_true, decide_eq_true_eq, Bool.not_eq_true'] at hB
  obtain ⟨⟨hcc, hent⟩, hlen⟩ := hB
  have hcaps : llen caps = caps.length := by
    clear hlen h hf
    induction caps with
    | nil => rfl
    | cons x l ih => simp [llen, ih]
  rw [hcaps] at hlen
  have hen : Enters P fid := enters_of hfn hent rfl
  have hfv := ha.eval hw.gl hc'.1 hf
  generalize hx : b.eval f = x at hfv
  cases hfv with
  | @fn _ _ ys hs hh =>
  have hys : LR m caps ys.toList := ⟨hs, hh⟩
  refine wpIn_rangeFunc fun fn0 _ => ?_
  let rec0 : Loop := { state := .ready, pending := none, fn := fn0, tmps := b.tmps, params := ps, assign := ag, body := bd, defers := m.W.heap.size }
  let L : LInfo := ⟨keepFr ts fr, ps, ag, bd, n, tok⟩
  let WA := m.W.alloc (.deferred (some []))
  let W1 := WA.alloc (.loop rec0)
  let g := m.W.heap.size + 1
  have hWA : WA.heap.size = m.W.heap.size + 1 := World.size_alloc _ _
  have hgA : WA.heap[m.W.heap.size]? = some (.deferred (some [])) := World.alloc_heap_new _ _
  have hg1 : W1.heap[g]? = some (.loop rec0) := by
    have := World.alloc_heap_new WA (.loop rec0); rwa [hWA] at this
  refine ⟨g, [{ target := .collected m.W.heap.size, args := #[] }], W1, { target := .fn (.func fid) ys, args := #[Value.func (.yield g) #[] #[]] }, W1, fid, #[Value.func (.yield g) #[] #[]] ++ ys, W1, run_enterLoop_outer _ _ _ _ _, ?_, fun _ _ => trivial, ?_, fun h => by simp [Fence.wide] at h, ?_⟩
  · simp only [resolve, hx]
    simp [go_sem]
  · simp [invoke, go_sem]
    exact hen _ _
  refine callsIn_of_wp_marks hfn rfl trivial ?_
  -- the state at the iterator's start
  obtain ⟨wA, _⟩ := hw.other (W' := WA) (hw.ov.alloc _) (fun b g C s h1 h2 => heap_alloc_old m.W _ (hw.blk b g C s h1 h2).lt) (fun g hg => heap_alloc_old m.W _ (hw.fr g hg)) (size_alloc_le _ _) (fun g hg => heap_alloc_old m.W _ (Array.getElem?_eq_some_iff.1 (hw.marks g hg).2.2).1)
  let D1 : Mk := ⟨m.W.heap.size :: m.D.d, fun k => if k = tok then some (g, b.tmps) else m.D.r k⟩
  have hfrm : ∀ j ∈ m.D.d, j < m.W.heap.size := fun j hj => (Array.getElem?_eq_some_iff.1 (hw.marks j hj).2.2).1
  have wB : WR w0 { { m with W := WA } with D := D1 } H := wA.marksTo (fun b' g' C' i s h1 h2 => by
      have := noTok_get htok b' i s h2
      show (if i.tok = tok then _ else _) = _
      rw [if_neg this]) (fun j hj => by
      rcases List.mem_cons.1 hj with rfl | hj
      · exact ⟨hw.ov.size, fun hF => by have := hw.fr _ hF; omega, hgA⟩
      · exact wA.marks j hj) (List.nodup_cons.2 ⟨fun hm' => by have := hfrm _ hm'; omega, hw.uniq⟩)
  have hle1 : Le m { m with φ := upd m.φ H.n (g, 0), W := W1, D := D1 } := ⟨fun b' q hb => by
      have := hw.dom b' q hb
      simp only [Fx.upd]; rw [if_neg (by omega)]; exact hb, fun _ h => h, fun j hj => by
      have := hw.fr j hj
      show W1.heap[j]? = _
      rw [show W1.heap[j]? = WA.heap[j]? from heap_alloc_old WA _ (by omega)]
      exact heap_alloc_old m.W _ this⟩
  obtain ⟨wC, _⟩ := wB.pushNew (W' := W1) (s := .loop L .ready) (g := g) (C := 0) (wB.ov.alloc _) (fun j hj => heap_alloc_old WA _ hj) (size_alloc_le _ _) (Nat.le_of_eq hWA)
    ⟨rec0, hg1, by show (if tok = tok then _ else _) = _; rw [if_pos rfl], rfl, rfl, rfl, rfl, rfl, ha.n, fun t v hv => (ha.get t v (keepFr_get ts t v hv)).mono hle1⟩
  let m1 : Mem := { m with φ := upd m.φ H.n (g, 0), W := W1, D := D1 }
  have wC : WR w0 m1 (H.push (.loop L .ready)) := wC
  have hargs : LR m1 (.yld H.n :: caps) (#[Value.func (.yield g) #[] #[]] ++ ys).toList := by
    rw [Array.toList_append]
    exact LR.cons (.yld (k := 0) (by simp [m1])) (hys.mono hle1)
  have hsz : (#[Value.func (.yield g) #[] #[]] ++ ys : Array Value).size = caps.length + 1 := by have h1 := hys.1; simp at h1 ⊢; omega
  have haC : AR m1 nt m1.D (argFr 0 (.yld H.n :: caps)) { tmps := (#[Value.func (.yield g) #[] #[]] ++ ys) ++ Array.replicate (nt - (#[Value.func (.yield g) #[] #[]] ++ ys : Array Value).size) undef, defers := [] } := by
    refine ⟨by rw [Array.size_append, Array.size_replicate, hsz]; show _ = nt; have : caps.length.succ ≤ nt := hlen; omega, fun t w hw' => ?_, ⟨[], by simp, rfl⟩, rfl⟩
    rw [argFr_get, if_pos (Nat.zero_le _), Nat.sub_zero] at hw'
    obtain ⟨u, hu, hr⟩ := hargs.get? hw'
    rw [Array.getElem?_toList] at hu
    have hlt : t < (#[Value.func (.yield g) #[] #[]] ++ ys : Array Value).size := (Array.getElem?_eq_some_iff.1 hu).1
    have : ((#[Value.func (.yield g) #[] #[]] ++ ys) ++ Array.replicate (nt - (#[Value.func (.yield g) #[] #[]] ++ ys : Array Value).size) undef).getD t undef = u := by
      rw [Array.getD_eq_getD_getElem?, Array.getElem?_append_left hlt, hu]; rfl
    rw [this]; exact hr
  have hcode := h L rfl rfl rfl rfl rfl ⟨hc'.2.2.1, hc'.2.2.2, hc'.2.1⟩
  refine codeW_ok hm hT c _ _ _ hcc hcode w0 none m1.D m1 _ rfl haC wC _ fun e fr' H' m' b' k x1 x2 x3 => ?_
  have main : leaveY H.n 0 L (keepFr ts fr) K fr' H' → LeavesInM (FW none) 0 P ⟨nm, og, ta, pt, rt, nf, nt, #[], some c, nr, ou, fl, el, ln, mt, tn⟩ b'.tmps (rangePost (FW none) 0 P g Q { b with defers := [{ target := .collected m.W.heap.size, args := #[] }] ++ b.defers }) b'.defers .returning m'.W := by
    intro hleave
    unfold leaveY at hleave
    split at hleave
    case h_2 => exact hleave.elim
    rename_i l' hy
    split at hleave
    case h_2 => exact hleave.elim
    rename_i hl'
    obtain rfl : l' = H.n := by
      rcases nbeq_cases l' H.n with ⟨_, e⟩ | ⟨e, _⟩
      · exact e
      · rw [hl'] at e; cases e
    split at hleave
    case h_2 => exact hleave.elim
    rename_i L' s hget'
    obtain ⟨hLL, hk⟩ := hleave
    subst hLL
    have hk := spineH_ok _ _ hk
    obtain ⟨g', C', hφ'⟩ : ∃ g' C', m'.φ H.n = some (g', C') := by
      have hv := x2.get 0 _ hy
      generalize b'.tmps.getD 0 undef = u at hv
      cases hv with
      | yld h => exact ⟨_, _, h⟩
    obtain ⟨own, o1, o2⟩ := x2.dfr
    rw [o2]
    refine marks_ok (out := m1.D.d) own m' o1 x3 fun m2 e1 e2 e3 e4 e6 e5 => ?_
    refine ⟨.tuple #[], by simp [results, go_sem], ?_⟩
    have hφ2 : m2.φ H.n = some (g', C') := by rw [e1]; exact hφ'
    obtain ⟨r2, hr2⟩ := e5.blk H.n g' C' _ hφ2 hget'
    have htk := hr2.tok
    rw [e6, x2.dr] at htk
    have htk2 : some (g, b.tmps) = some (g', r2.tmps) := by
      rw [← htk]
      show _ = (if tok = tok then _ else _)
      rw [if_pos rfl]
    injection htk2 with htk2
    obtain ⟨hgg, htm⟩ := Prod.mk.inj htk2
    subst hgg
    -- behind the iterator
    have hhigh := e5.high H.n g C' _ hφ2 hget'
    obtain ⟨wD, _⟩ := e5.kill (b := H.n) (.inl (by rw [hφ2]; simp))
    have live : ∀ b0 s0, (H'.del H.n).get b0 = some s0 → b0 ≠ H.n ∧ H'.get b0 = some s0 := fun b0 s0 hb0 => by
      rw [SW.get_del] at hb0
      split at hb0
      · cases hb0
      · rename_i hne; exact ⟨hne, hb0⟩
    have notg : ∀ b0 g0 C0 s0, m2.φ b0 = some (g0, C0) → (H'.del H.n).get b0 = some s0 → g0 ≠ g := fun b0 g0 C0 s0 h1 h2 hgg => by
      subst hgg
      obtain ⟨l1, l2⟩ := live b0 s0 h2
      exact l1 (e5.inj b0 H.n g C0 C' s0 _ h1 hφ2 l2 hget')
    have hmark2 : ∀ j ∈ m2.D.d, j ≠ g := fun j hj hjg => by
      subst hjg
      have := (e5.marks g hj).2.2
      rw [hr2.at_] at this; cases this
    obtain ⟨wE, _⟩ := wD.other (W' := m2.W.putObj g (.loop { r2 with state := .exhausted })) (ov_putObj e5.ov hhigh.1) (fun b0 g0 C0 s0 h1 h2 => putObj_other (notg b0 g0 C0 s0 h1 h2)) (fun j hj => putObj_other (by rintro rfl; exact hhigh.2 hj)) (Nat.le_of_eq putObj_size.symm) (fun j hj => putObj_other (hmark2 j hj))
    have wF : WR w0 { { m2 with W := m2.W.putObj g (.loop { r2 with state := .exhausted }) } with D := ⟨m1.D.d, m.D.r⟩ } (H'.del H.n) := wE.marksTo (fun b0 g0 C0 i s0 h1 h2 => by
        obtain ⟨l1, l2⟩ := live b0 _ h2
        obtain ⟨r0, hr0⟩ := e5.blk b0 g0 C0 _ h1 l2
        have ht := hr0.tok
        have hne := notg b0 g0 C0 _ h1 h2
        show m.D.r i.tok = m2.D.r i.tok
        rw [e6, x2.dr] at ht ⊢
        change (if i.tok = tok then some (g, b.tmps) else m.D.r i.tok) = _ at ht
        show _ = (if i.tok = tok then some (g, b.tmps) else m.D.r i.tok)
        by_cases hti : i.tok = tok
        · rw [if_pos hti] at ht
          injection ht with ht
          obtain ⟨ht, _⟩ := Prod.mk.inj ht
          exact (hne ht.symm).elim
        · rw [if_neg hti]) (fun j hj => by
        have hj' : j ∈ m2.D.d := by rw [e4]; exact hj
        exact wE.marks j hj') (by show m1.D.d.Nodup; rw [← e4]; exact e5.uniq)
    let m3 : Mem := { { m2 with W := m2.W.putObj g (.loop { r2 with state := .exhausted }) } with D := ⟨m1.D.d, m.D.r⟩ }
    have le23 : Le m2 m3 := ⟨fun _ _ h => h, fun _ h => h, fun j hj => putObj_other (by rintro rfl; exact hhigh.2 hj)⟩
    have hown : ∀ j ∈ own, ¬ m'.F j := fun j hj => (x3.marks j (by rw [o1]; exact List.mem_append_left _ hj)).2.1
    have kp3 : Kp m m3 := by
      refine (hle1.kp.trans x1).trans ⟨fun j hj => ?_, fun j hj => ?_⟩
      · show m2.F j
        rw [e2]; exact hj
      · rw [le23.mem j (by rw [e2]; exact hj)]
        exact e3 j fun ho => hown j ho hj
    have ar3 : AR m3 n out (keepFr ts fr) { b with defers := [{ target := .collected m.W.heap.size, args := #[] }] ++ b.defers } := by
      obtain ⟨own0, p1, p2⟩ := ha.dfr
      refine ⟨ha.n, fun t v hv => ?_, ⟨m.W.heap.size :: own0, ?_, ?_⟩, ha.dr⟩
      · have := (hr2.fr t v hv).mono le23
        rw [← htm] at this
        exact this
      · show m.W.heap.size :: m.D.d = _
        rw [p1]; rfl
      · show _ :: b.defers = _
        rw [p2]; rfl
    have hst : r2.state ≠ .busy := by
      rw [hr2.st]
      cases s with
      | busy => exact hk.elim
      | ready => simp [LSt.of]
      | ret => simp [LSt.of]
      | exit id => simp [LSt.of]
    have fin : ∀ jump : Option Code, jump = s.of.2 → (match jump with
        | none => Q .normal { b with defers := [{ target := .collected m.W.heap.size, args := #[] }] ++ b.defers } m3.W
        | some c => c.wpIn (FW none) 0 P Q { b with defers := [{ target := .collected m.W.heap.size, args := #[] }] ++ b.defers } m3.W) := by
      rintro jump rfl
      cases s with
      | busy => exact hk.elim
      | ready => exact hQ .normal _ _ m3 _ hk kp3 ar3 wF
      | ret => exact wpIn_ret (hQ .ret _ _ m3 _ hk kp3 ar3 wF)
      | exit id => exact wpIn_exit (hQ (.exit id) _ _ m3 _ hk kp3 ar3 wF)
    exact ⟨_, _, run_endLoop hr2.at_ hst, fin _ hr2.pe⟩
  cases e with
  | normal => exact main k
  | ret => exact main k
  | exit id => exact k.elim
  | goto l => exact k.elim
  | panic c => exact k.elim
  | outgrown => exact k.elim
end
end Go.Proofs.Ytkliejppigfjiaa.Fx
namespace Go.Proofs.Ytkliejppigfjiaa.Fx
open Go.RowKit
section
variable {P : Program} {T : Tbl}
theorem lapp_app {α : Type} : ∀ (a b : List α), lapp a b = a ++ b
  | [], b => rfl
  | x :: a, b => by rw [lapp, lapp_app a b]; rfl
theorem llen_len : ∀ l : List V, llen l = l.length
  | [] => rfl
  | _ :: l => by simp [llen, llen_len l]
/-- **A range over a method value**: the iterator's code is run in place. ('y': how many values it is bound to; 'tok': a number that no other range under way has; 'ts': the temporaries that are kept.) -/
theorem range_m (hm : P.follows .mixedOrders = true) (hT : ∀ t i, tget T t = some i → tiOf P t = some i) {f : Operand} {ps : Array Tmp} {ag bd : Code} {fr : Fr} {H : SW} {K : Exit → Fr → SW → Prop} {fid : Nat} {caps : List V} (hf : ev fr f = some (.mv fid caps)) (y : Nat)
    (fn : Func) {nm og : String} {ta pt rt : Array TypeId} {nf nt : Nat} {c : Code} {nr ou : Bool} {fl : String} {el : Nat} {ln : Option Nat} {mt : List Departure} {tn : Array String}
    (hfn : P.funcs[fid]? = some fn) (he : fn = ⟨nm, og, ta, pt, rt, nf, nt, #[], some c, nr, ou, fl, el, ln, mt, tn⟩) (hB : fnB P fid (Nat.succ (llen caps)) = true) (tok : Nat) (ts : List Nat) (htok : noTok tok H.l = true)
    (h : ∀ L : LInfo, L.fr = keepFr ts fr → L.ps.toList = ps.toList → L.ag = ag → L.bd = bd → L.tok = tok → LOK L → codeW P T c (argFr 0 (lapp caps [.yld H.n])) (H.push (.loop L .ready)) (exitY H.n y L (keepFr ts fr) K)) : rangeW P T f ps ag bd fr H K := by
  subst he
  refine ⟨fun n hc => ?_⟩
  intro w0 rd out m b hrd ha hw Q hQ
  obtain rfl : rd = none := by cases rd with | none => rfl | some _ => cases hrd
  have hc' : okX f = true ∧ (ps.toList.all fun t => decide (t < n)) = true ∧ chk n true ag = true ∧ chk n true bd = true := by
    simp only [chk, Bool.and_eq_true] at hc
    exact ⟨hc.1.1.1.2, hc.1.1.2, hc.1.2, hc.2⟩
  unfold fnB at hB
  simp only [hfn, Bool.and_eq_true, decide_eq_true_eq, Bool.not_eq_true'] at hB
  obtain ⟨⟨hcc, hent⟩, hlen⟩ := hB
  have hcaps : llen caps = caps.length := llen_len caps
  rw [hcaps] at hlen
  have hen : Enters P fid := enters_of hfn hent rfl
  have hfv := ha.eval hw.gl hc'.1 hf
  generalize hx : b.eval f = x at hfv
  cases hfv with
  | @mv _ _ ys hs hh =>
  have hys : LR m caps ys.toList := ⟨hs, hh⟩
  refine wpIn_rangeFunc fun fn0 _ => ?_
  let rec0 : Loop := { state := .ready, pending := none, fn := fn0, tmps := b.tmps, params := ps, assign := ag, body := bd, defers := m.W.heap.size }
  let L : LInfo := ⟨keepFr ts fr, ps, ag, bd, n, tok⟩
  let WA := m.W.alloc (.deferred (some []))
  let W1 := WA.alloc (.loop rec0)
  let g := m.W.heap.size + 1
  have hWA : WA.heap.size = m.W.heap.size + 1 := World.size_alloc _ _
  have hgA : WA.heap[m.W.heap.size]? = some (.deferred (some [])) := World.alloc_heap_new _ _
  have hg1 : W1.heap[g]? = some (.loop rec0) := by
    have := World.alloc_heap_new WA (.loop rec0); rwa [hWA] at this
  refine ⟨g, [{ target := .collected m.W.heap.size, args := #[] }], W1, { target := .fn (.func fid) #[], args := ys ++ #[Value.func (.yield g) #[] #[]] }, W1, fid, (ys ++ #[Value.func (.yield g) #[] #[]]) ++ #[], W1, run_enterLoop_outer _ _ _ _ _, ?_, fun _ _ => trivial, ?_, fun h => by simp [Fence.wide] at h, ?_⟩
  · simp only [resolve, hx]
    simp [go_sem]
  · simp [invoke, go_sem]
    exact hen _ _
  refine callsIn_of_wp_marks hfn rfl trivial ?_
  -- the state at the iterator's start
  obtain ⟨wA, _⟩ := hw.other (W' := WA) (hw.ov.alloc _) (fun b g C s h1 h2 => heap_alloc_old m.W _ (hw.blk b g C s h1 h2).lt) (fun g hg => heap_alloc_old m.W _ (hw.fr g hg)) (size_alloc_le _ _) (fun g hg => heap_alloc_old m.W _ (Array.getElem?_eq_some_iff.1 (hw.marks g hg).2.2).1)
  let D1 : Mk := ⟨m.W.heap.size :: m.D.d, fun k => if k = tok then some (g, b.tmps) else m.D.r k⟩
  have hfrm : ∀ j ∈ m.D.d, j < m.W.heap.size := fun j hj => (Array.getElem?_eq_some_iff.1 (hw.marks j hj).2.2).1
  have wB : WR w0 { { m with W := WA } with D := D1 } H := wA.marksTo (fun b' g' C' i s h1 h2 => by
      have := noTok_get htok b' i s h2
      show (if i.tok = tok then _ else _) = _
      rw [if_neg this]) (fun j hj => by
      rcases List.mem_cons.1 hj with rfl | hj
      · exact ⟨hw.ov.size, fun hF => by have := hw.fr _ hF; omega, hgA⟩
      · exact wA.marks j hj) (List.nodup_cons.2 ⟨fun hm' => by have := hfrm _ hm'; omega, hw.uniq⟩)
  have hle1 : Le m { m with φ := upd m.φ H.n (g, 0), W := W1, D := D1 } := ⟨fun b' q hb => by
      have := hw.dom b' q hb
      simp only [Fx.upd]; rw [if_neg (by omega)]; exact hb, fun _ h => h, fun j hj => by
      have := hw.fr j hj
      show W1.heap[j]? = _
      rw [show W1.heap[j]? = WA.heap[j]? from heap_alloc_old WA _ (by omega)]
      exact heap_alloc_old m.W _ this⟩
  obtain ⟨wC, _⟩ := wB.pushNew (W' := W1) (s := .loop L .ready) (g := g) (C := 0) (wB.ov.alloc _) (fun j hj => heap_alloc_old WA _ hj) (size_alloc_le _ _) (Nat.le_of_eq hWA)
    ⟨rec0, hg1, by show (if tok = tok then _ else _) = _; rw [if_pos rfl], rfl, rfl, rfl, rfl, rfl, ha.n, fun t v hv => (ha.get t v (keepFr_get ts t v hv)).mono hle1⟩
  let m1 : Mem := { m with φ := upd m.φ H.n (g, 0), W := W1, D := D1 }
  have wC : WR w0 m1 (H.push (.loop L .ready)) := wC
  have hargs : LR m1 (lapp caps [.yld H.n]) ((ys ++ #[Value.func (.yield g) #[] #[]]) ++ #[]).toList := by
    rw [lapp_app, Array.append_empty, Array.toList_append]
    exact (hys.mono hle1).append (LR.one (.yld (k := 0) (by simp)))
  have hsz : ((ys ++ #[Value.func (.yield g) #[] #[]]) ++ #[] : Array Value).size = caps.length + 1 := by have h1 := hys.1; simp at h1 ⊢; omega
  have haC : AR m1 nt m1.D (argFr 0 (lapp caps [.yld H.n])) { tmps := ((ys ++ #[Value.func (.yield g) #[] #[]]) ++ #[]) ++ Array.replicate (nt - ((ys ++ #[Value.func (.yield g) #[] #[]]) ++ #[] : Array Value).size) undef, defers := [] } := by
    refine ⟨by rw [Array.size_append, Array.size_replicate, hsz]; show _ = nt; have : caps.length.succ ≤ nt := hlen; omega, fun t w hw' => ?_, ⟨[], by simp, rfl⟩, rfl⟩
    rw [argFr_get, if_pos (Nat.zero_le _), Nat.sub_zero] at hw'
    obtain ⟨u, hu, hr⟩ := hargs.get? hw'
    rw [Array.getElem?_toList] at hu
    have hlt : t < ((ys ++ #[Value.func (.yield g) #[] #[]]) ++ #[] : Array Value).size := (Array.getElem?_eq_some_iff.1 hu).1
    have : (((ys ++ #[Value.func (.yield g) #[] #[]]) ++ #[]) ++ Array.replicate (nt - ((ys ++ #[Value.func (.yield g) #[] #[]]) ++ #[] : Array Value).size) undef).getD t undef = u := by
      rw [Array.getD_eq_getD_getElem?, Array.getElem?_append_left hlt, hu]; rfl
    rw [this]; exact hr
  have hcode := h L rfl rfl rfl rfl rfl ⟨hc'.2.2.1, hc'.2.2.2, hc'.2.1⟩
  refine codeW_ok hm hT c _ _ _ hcc hcode w0 none m1.D m1 _ rfl haC wC _ fun e fr' H' m' b' k x1 x2 x3 => ?_
  have main : leaveY H.n y L (keepFr ts fr) K fr' H' → LeavesInM (FW none) 0 P ⟨nm, og, ta, pt, rt, nf, nt, #[], some c, nr, ou, fl, el, ln, mt, tn⟩ b'.tmps (rangePost (FW none) 0 P g Q { b with defers := [{ target := .collected m.W.heap.size, args := #[] }] ++ b.defers }) b'.defers .returning m'.W := by
    intro hleave
    unfold leaveY at hleave
    split at hleave
    case h_2 => exact hleave.elim
    rename_i l' hy
    split at hleave
    case h_2 => exact hleave.elim
    rename_i hl'
    obtain rfl : l' = H.n := by
      rcases nbeq_cases l' H.n with ⟨_, e⟩ | ⟨e, _⟩
      · exact e
      · rw [hl'] at e; cases e
    split at hleave
    case h_2 => exact hleave.elim
    rename_i L' s hget'
    obtain ⟨hLL, hk⟩ := hleave
    subst hLL
    have hk := spineH_ok _ _ hk
    obtain ⟨g', C', hφ'⟩ : ∃ g' C', m'.φ H.n = some (g', C') := by
      have hv := x2.get y _ hy
      generalize b'.tmps.getD y undef = u at hv
      cases hv with
      | yld h => exact ⟨_, _, h⟩
    obtain ⟨own, o1, o2⟩ := x2.dfr
    rw [o2]
    refine marks_ok (out := m1.D.d) own m' o1 x3 fun m2 e1 e2 e3 e4 e6 e5 => ?_
    refine ⟨.tuple #[], by simp [results, go_sem], ?_⟩
    have hφ2 : m2.φ H.n = some (g', C') := by rw [e1]; exact hφ'
    obtain ⟨r2, hr2⟩ := e5.blk H.n g' C' _ hφ2 hget'
    have htk := hr2.tok
    rw [e6, x2.dr] at htk
    have htk2 : some (g, b.tmps) = some (g', r2.tmps) := by
      rw [← htk]
      show _ = (if tok = tok then _ else _)
      rw [if_pos rfl]
    injection htk2 with htk2
    obtain ⟨hgg, htm⟩ := Prod.mk.inj htk2
    subst hgg
    -- behind the iterator
    have hhigh := e5.high H.n g C' _ hφ2 hget'
    obtain ⟨wD, _⟩ := e5.kill (b := H.n) (.inl (by rw [hφ2]; simp))
    have live : ∀ b0 s0, (H'.del H.n).get b0 = some s0 → b0 ≠ H.n ∧ H'.get b0 = some s0 := fun b0 s0 hb0 => by
      rw [SW.get_del] at hb0
      split at hb0
      · cases hb0
      · rename_i hne; exact ⟨hne, hb0⟩
    have notg : ∀ b0 g0 C0 s0, m2.φ b0 = some (g0, C0) → (H'.del H.n).get b0 = some s0 → g0 ≠ g := fun b0 g0 C0 s0 h1 h2 hgg => by
      subst hgg
      obtain ⟨l1, l2⟩ := live b0 s0 h2
      exact l1 (e5.inj b0 H.n g C0 C' s0 _ h1 hφ2 l2 hget')
    have hmark2 : ∀ j ∈ m2.D.d, j ≠ g := fun j hj hjg => by
      subst hjg
      have := (e5.marks g hj).2.2
      rw [hr2.at_] at this; cases this
    obtain ⟨wE, _⟩ := wD.other (W' := m2.W.putObj g (.loop { r2 with state := .exhausted })) (ov_putObj e5.ov hhigh.1) (fun b0 g0 C0 s0 h1 h2 => putObj_other (notg b0 g0 C0 s0 h1 h2)) (fun j hj => putObj_other (by rintro rfl; exact hhigh.2 hj)) (Nat.le_of_eq putObj_size.symm) (fun j hj => putObj_other (hmark2 j hj))
    have wF : WR w0 { { m2 with W := m2.W.putObj g (.loop { r2 with state := .exhausted }) } with D := ⟨m1.D.d, m.D.r⟩ } (H'.del H.n) := wE.marksTo (fun b0 g0 C0 i s0 h1 h2 => by
        obtain ⟨l1, l2⟩ := live b0 _ h2
        obtain ⟨r0, hr0⟩ := e5.blk b0 g0 C0 _ h1 l2
        have ht := hr0.tok
        have hne := notg b0 g0 C0 _ h1 h2
        show m.D.r i.tok = m2.D.r i.tok
        rw [e6, x2.dr] at ht ⊢
        change (if i.tok = tok then some (g, b.tmps) else m.D.r i.tok) = _ at ht
        show _ = (if i.tok = tok then some (g, b.tmps) else m.D.r i.tok)
        by_cases hti : i.tok = tok
        · rw [if_pos hti] at ht
          injection ht with ht
          obtain ⟨ht, _⟩ := Prod.mk.inj ht
          exact (hne ht.symm).elim
        · rw [if_neg hti]) (fun j hj => by
        have hj' : j ∈ m2.D.d := by rw [e4]; exact hj
        exact wE.marks j hj') (by show m1.D.d.Nodup; rw [← e4]; exact e5.uniq)
    let m3 : Mem := { { m2 with W := m2.W.putObj g (.loop { r2 with state := .exhausted }) } with D := ⟨m1.D.d, m.D.r⟩ }
    have le23 : Le m2 m3 := ⟨fun _ _ h => h, fun _ h => h, fun j hj => putObj_other (by rintro rfl; exact hhigh.2 hj)⟩
    have hown : ∀ j ∈ own, ¬ m'.F j := fun j hj => (x3.marks j (by rw [o1]; exact List.mem_append_left _ hj)).2.1
    have kp3 : Kp m m3 := by
      refine (hle1.kp.trans x1).trans ⟨fun j hj => ?_, fun j hj => ?_⟩
      · show m2.F j
        rw [e2]; exact hj
      · rw [le23.mem j (by rw [e2]; exact hj)]
        exact e3 j fun ho => hown j ho hj
    have ar3 : AR m3 n out (keepFr ts fr) { b with defers := [{ target := .collected m.W.heap.size, args := #[] }] ++ b.defers } := by
      obtain ⟨own0, p1, p2⟩ := ha.dfr
      refine ⟨ha.n, fun t v hv => ?_, ⟨m.W.heap.size :: own0, ?_, ?_⟩, ha.dr⟩
      · have := (hr2.fr t v hv).mono le23
        rw [← htm] at this
        exact this
      · show m.W.heap.size :: m.D.d = _
        rw [p1]; rfl
      · show _ :: b.defers = _
        rw [p2]; rfl
    have hst : r2.state ≠ .busy := by
      rw [hr2.st]
      cases s with
      | busy => exact hk.elim
      | ready => simp [LSt.of]
      | ret => simp [LSt.of]
      | exit id => simp [LSt.of]
    have fin : ∀ jump : Option Code, jump = s.of.2 → (match jump with
        | none => Q .normal { b with defers := [{ target := .collected m.W.heap.size, args := #[] }] ++ b.defers } m3.W
        | some c => c.wpIn (FW none) 0 P Q { b with defers := [{ target := .collected m.W.heap.size, args := #[] }] ++ b.defers } m3.W) := by
      rintro jump rfl
      cases s with
      | busy => exact hk.elim
      | ready => exact hQ .normal _ _ m3 _ hk kp3 ar3 wF
      | ret => exact wpIn_ret (hQ .ret _ _ m3 _ hk kp3 ar3 wF)
      | exit id => exact wpIn_exit (hQ (.exit id) _ _ m3 _ hk kp3 ar3 wF)
    exact ⟨_, _, run_endLoop hr2.at_ hst, fin _ hr2.pe⟩
  cases e with
  | normal => exact main k
  | ret => exact main k
  | exit id => exact k.elim
  | goto l => exact k.elim
  | panic c => exact k.elim
  | outgrown => exact k.elim
end
end Go.Proofs.Ytkliejppigfjiaa.Fx
