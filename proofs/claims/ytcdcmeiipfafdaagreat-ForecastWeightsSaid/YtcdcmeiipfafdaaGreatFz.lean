/-
  Loops unrolled; loops within a round of a range over a function.
  Conditions: the checks of the code; the program follows the rule on mixed orders.
-/
import Derived.Test.YtcdcmeiipfafdaaGreatFr
namespace Go.Proofs.YtcdcmeiipfafdaaGreat.Fx
open Go.RowKit
section
variable {P : Program} {T : Tbl}
/-! ### A loop, round by round -/
@[reducible] def loopU (P : Program) (T : Tbl) (c : Code) (k : List Unit) : Fr → SW → (Exit → Fr → SW → Prop) → Prop :=
  @List.rec Unit (fun _ => Fr → SW → (Exit → Fr → SW → Prop) → Prop) (fun _ _ _ => False) (fun _ _ ih fr H K => codeW P T c fr H fun e fr' H' => match e with
    | .normal => ih fr' H' K
    | .ret => K .ret fr' H'
    | .exit id => K (.exit id) fr' H'
    | _ => False) k
theorem loop_u (hm : P.follows .mixedOrders = true) (hT : ∀ t i, tget T t = some i → tiOf P t = some i) {c : Code} {fr : Fr} {H : SW} {K : Exit → Fr → SW → Prop} (k : List Unit) (h : loopU P T c k fr H K) : loopW P T c fr H K := by
  refine ⟨?_⟩
  intro n rdm hc w0 rd out m b hr ha hw Q hQ
  refine wpIn_loop_rounds k.length ?_
  have key : ∀ (k : List Unit) (fr1 : Fr) (H1 : SW) (m1 : Mem) (b1 : Act), loopU P T c k fr1 H1 K → Kp m m1 → AR m1 n out fr1 b1 → WR w0 m1 H1 → Code.roundsIn (FW rd) 0 P c Q k.length b1 m1.W := by
    intro k
    induction k with
    | nil => intro fr1 H1 m1 b1 h; exact h.elim
    | cons _ k ih =>
      intro fr1 H1 m1 b1 h hF ha1 hw1
      rw [List.length_cons, roundsIn_succ]
      refine codeW_ok hm hT c _ _ _ hc h w0 rd out m1 b1 hr ha1 hw1 _ fun e fr2 H2 m2 b2 k2 x1 x2 x3 => ?_
      cases e with
      | normal => exact ih fr2 H2 m2 b2 k2 (hF.trans x1) x2 x3
      | ret => exact hQ .ret fr2 H2 m2 b2 k2 (hF.trans x1) x2 x3
      | exit id => exact hQ (.exit id) fr2 H2 m2 b2 k2 (hF.trans x1) x2 x3
      | goto l => exact k2.elim
      | panic c => exact k2.elim
      | outgrown => exact k2.elim
  exact key k fr H m b h (Kp.refl m) ha hw

/-! ### Code with loops that ends just so -/
structure loopX (P : Program) (T : Tbl) (c : Code) (fr : Fr) (H : SW) (K : Exit → Fr → SW → Prop) : Prop where
  h : ∀ n rdm, chk n rdm c = true → ∃ e fr' H', K e fr' H' ∧ ∃ k, ∀ (w0 : Base) (rd : Option Nat) (out : Mk) (m : Mem) (b : Act), AR m n out fr b → WR w0 m H → ∀ (Q : Exit → Act → World → Prop),
    (∀ m' b', Ext m H m' H' → m'.D = m.D → AR m' n out fr' b' → WR w0 m' H' → Q e b' m'.W) → Code.roundsIn (FW rd) 0 P c Q k b m.W
@[reducible] def codeX (P : Program) (T : Tbl) (c : Code) : Fr → SW → (Exit → Fr → SW → Prop) → Prop :=
  @Code.rec (fun _ => Fr → SW → (Exit → Fr → SW → Prop) → Prop)
    (fun fr H K => K .normal fr H)
    (fun _ ops d fr H K => match d with
      | true => drawW P T ops.toList fr H fun fr' H' => K .normal fr' H'
      | false => seqW P T ops.toList ops.toList fr H fun fr' H' => K .normal fr' H')
    (fun _ _ ihx ihy fr H K => ihx fr H fun e fr' H' => match e with
      | .normal => ihy fr' H' K
      | .ret => K .ret fr' H'
      | .exit id => K (.exit id) fr' H'
      | _ => False)
    (fun c _ _ iht ihe fr H K => match ev fr c with
      | some (.sc (.bool x)) => branch x fun x' => match x' with
        | true => iht fr H K
        | false => ihe fr H K
      | _ => False)
    (fun id _ ih fr H K => ih fr H fun e fr' H' => match e with
      | .normal => K .normal fr' H'
      | .ret => K .ret fr' H'
      | .exit id' => match Nat.beq id' id with
        | true => K .normal fr' H'
        | false => K (.exit id') fr' H'
      | _ => False)
    (fun c _ fr H K => loopX P T c fr H K)
    (fun _ _ _ _ _ _ _ _ _ => False)
    (fun id fr H K => K (.exit id) fr H)
    (fun _ _ _ _ _ => False)
    (fun _ _ _ _ => False)
    (fun _ _ _ _ => False)
    (fun fr H K => K .ret fr H)
    (fun _ _ _ _ => False) c
theorem codeX_one (hm : P.follows .mixedOrders = true) (hT : ∀ t i, tget T t = some i → tiOf P t = some i) {n : Nat} {rdm : Bool} : ∀ (c : Code) (fr : Fr) (H : SW) (K : Exit → Fr → SW → Prop), chk n rdm c = true → codeX P T c fr H K →
    ∃ e fr' H', K e fr' H' ∧ SatE P c n fr H e fr' H'
  | .skip, fr, H, K, _, h => ⟨.normal, fr, H, h, fun w0 rd out m b ha hw Q hQ => wpIn_skip (hQ m b (Ext.refl _ _) rfl ha hw)⟩
  | .ret, fr, H, K, _, h => ⟨.ret, fr, H, h, fun w0 rd out m b ha hw Q hQ => wpIn_ret (hQ m b (Ext.refl _ _) rfl ha hw)⟩
  | .exit id, fr, H, K, _, h => ⟨.exit id, fr, H, h, fun w0 rd out m b ha hw Q hQ => wpIn_exit (hQ m b (Ext.refl _ _) rfl ha hw)⟩
  | .region id ops d, fr, H, K, hc, h => by
    obtain ⟨fr', H', k1, k2⟩ := region_one hm hT (id := id) (K := K) (by simpa [chk] using hc) h
    exact ⟨.normal, fr', H', k1, k2⟩
  | .seq x y, fr, H, K, hc, h => by
    simp only [chk, Bool.and_eq_true] at hc
    obtain ⟨e, fr1, H1, k1, k2⟩ := codeX_one hm hT x fr H _ hc.1 h
    cases e with
    | normal =>
      obtain ⟨e2, fr2, H2, l1, l2⟩ := codeX_one hm hT y fr1 H1 K hc.2 k1
      refine ⟨e2, fr2, H2, l1, fun w0 rd out m b ha hw Q hQ => wpIn_seq (k2 w0 rd out m b ha hw _ fun m1 b1 x1 x2 x3 x4 => ?_)⟩
      exact l2 w0 rd out m1 b1 x3 x4 Q fun m2 b2 y1 y2 y3 y4 => hQ m2 b2 (x1.trans y1) (y2.trans x2) y3 y4
    | ret => exact ⟨.ret, fr1, H1, k1, fun w0 rd out m b ha hw Q hQ => wpIn_seq (k2 w0 rd out m b ha hw _ fun m1 b1 x1 x2 x3 x4 => hQ m1 b1 x1 x2 x3 x4)⟩
    | exit id => exact ⟨.exit id, fr1, H1, k1, fun w0 rd out m b ha hw Q hQ => wpIn_seq (k2 w0 rd out m b ha hw _ fun m1 b1 x1 x2 x3 x4 => hQ m1 b1 x1 x2 x3 x4)⟩
    | goto l => exact k1.elim
    | panic c => exact k1.elim
    | outgrown => exact k1.elim
  | .cond c t e, fr, H, K, hc, h => by
    simp only [chk, Bool.and_eq_true] at hc
    simp only [codeX] at h
    split at h
    case h_2 => cases h
    rename_i x hx
    have h := h.h
    have hv : ∀ (m : Mem) (out : Mk) (b : Act), AR m n out fr b → GlOK m → b.eval c = .bool x := fun m out b ha hg => (ha.eval hg hc.1.1 hx).of_sc
    cases x with
    | true =>
      obtain ⟨e2, fr2, H2, l1, l2⟩ := codeX_one hm hT t fr H K hc.1.2 h
      exact ⟨e2, fr2, H2, l1, fun w0 rd out m b ha hw Q hQ => wpIn_cond (hv m out b ha hw.gl) (l2 w0 rd out m b ha hw Q hQ)⟩
    | false =>
      obtain ⟨e2, fr2, H2, l1, l2⟩ := codeX_one hm hT e fr H K hc.2 h
      exact ⟨e2, fr2, H2, l1, fun w0 rd out m b ha hw Q hQ => wpIn_cond (hv m out b ha hw.gl) (l2 w0 rd out m b ha hw Q hQ)⟩
  | .block id c, fr, H, K, hc, h => by
    simp only [chk] at hc
    obtain ⟨e, fr1, H1, k1, k2⟩ := codeX_one hm hT c fr H _ hc h
    cases e with
    | normal => exact ⟨.normal, fr1, H1, k1, fun w0 rd out m b ha hw Q hQ => wpIn_block (k2 w0 rd out m b ha hw _ fun m1 b1 x1 x2 x3 x4 => hQ m1 b1 x1 x2 x3 x4)⟩
    | ret => exact ⟨.ret, fr1, H1, k1, fun w0 rd out m b ha hw Q hQ => wpIn_block (k2 w0 rd out m b ha hw _ fun m1 b1 x1 x2 x3 x4 => hQ m1 b1 x1 x2 x3 x4)⟩
    | exit id' =>
      simp only at k1
      rcases beq_cases id' id with ⟨e1, rfl⟩ | ⟨e1, hn⟩
      · simp only [e1] at k1
        refine ⟨.normal, fr1, H1, k1, fun w0 rd out m b ha hw Q hQ => wpIn_block (k2 w0 rd out m b ha hw _ fun m1 b1 x1 x2 x3 x4 => ?_)⟩
        simp only [Exit.inBlock, if_true]
        exact hQ m1 b1 x1 x2 x3 x4
      · simp only [e1] at k1
        refine ⟨.exit id', fr1, H1, k1, fun w0 rd out m b ha hw Q hQ => wpIn_block (k2 w0 rd out m b ha hw _ fun m1 b1 x1 x2 x3 x4 => ?_)⟩
        simp only [Exit.inBlock]
        rw [if_neg hn]
        exact hQ m1 b1 x1 x2 x3 x4
    | goto l => exact k1.elim
    | panic c => exact k1.elim
    | outgrown => exact k1.elim
  | .loop c, fr, H, K, hc, h => by
    obtain ⟨e, fr', H', k1, k, k2⟩ := h.h n rdm (by simpa [chk] using hc)
    exact ⟨e, fr', H', k1, fun w0 rd out m b ha hw Q hQ => wpIn_loop_rounds k (k2 w0 rd out m b ha hw Q hQ)⟩
  | .rangeFunc .., _, _, _, _, h => h.elim
  | .scope _, _, _, _, _, h => h.elim
  | .label _, _, _, _, _, h => h.elim
  | .goto _, _, _, _, _, h => h.elim
  | .refuse _, _, _, _, _, h => h.elim
@[reducible] def loopXU (P : Program) (T : Tbl) (c : Code) (k : List Unit) : Fr → SW → (Exit → Fr → SW → Prop) → Prop :=
  @List.rec Unit (fun _ => Fr → SW → (Exit → Fr → SW → Prop) → Prop) (fun _ _ _ => False) (fun _ _ ih fr H K => codeX P T c fr H fun e fr' H' => match e with
    | .normal => ih fr' H' K
    | .ret => K .ret fr' H'
    | .exit id => K (.exit id) fr' H'
    | _ => False) k
theorem loopX_u (hm : P.follows .mixedOrders = true) (hT : ∀ t i, tget T t = some i → tiOf P t = some i) {c : Code} {fr : Fr} {H : SW} {K : Exit → Fr → SW → Prop} (k : List Unit) (h : loopXU P T c k fr H K) : loopX P T c fr H K := by
  refine ⟨fun n rdm hc => ?_⟩
  induction k generalizing fr H with
  | nil => exact h.elim
  | cons _ k ih =>
    obtain ⟨e, fr1, H1, k1, k2⟩ := codeX_one hm hT c fr H _ hc h
    cases e with
    | normal =>
      obtain ⟨e2, fr2, H2, l1, j, l2⟩ := ih k1
      refine ⟨e2, fr2, H2, l1, j + 1, fun w0 rd out m b ha hw Q hQ => ?_⟩
      rw [roundsIn_succ]
      exact k2 w0 rd out m b ha hw _ fun m1 b1 x1 x2 x3 x4 => l2 w0 rd out m1 b1 x3 x4 Q fun m2 b2 y1 y2 y3 y4 => hQ m2 b2 (x1.trans y1) (y2.trans x2) y3 y4
    | ret => exact ⟨.ret, fr1, H1, k1, 1, fun w0 rd out m b ha hw Q hQ => by rw [roundsIn_succ]; exact k2 w0 rd out m b ha hw _ fun m1 b1 x1 x2 x3 x4 => hQ m1 b1 x1 x2 x3 x4⟩
    | exit id => exact ⟨.exit id, fr1, H1, k1, 1, fun w0 rd out m b ha hw Q hQ => by rw [roundsIn_succ]; exact k2 w0 rd out m b ha hw _ fun m1 b1 x1 x2 x3 x4 => hQ m1 b1 x1 x2 x3 x4⟩
    | goto l => exact k1.elim
    | panic c => exact k1.elim
    | outgrown => exact k1.elim

/-! ### The same state, its contents told otherwise -/
def bornS (fr : Fr) (H' : SW) : List (Nat × SB) → Prop
  | [] => True
  | (b, .cells cs t) :: l => (hget H'.l b = some (.cells cs t) ∨ ∃ k o, fget fr k = some (.ptr b o)) ∧ bornS fr H' l
  | (_, .row ..) :: l => bornS fr H' l
  | (_, .loop ..) :: l => bornS fr H' l
theorem bornS_mem {fr : Fr} {H' : SW} : ∀ {l : List (Nat × SB)}, bornS fr H' l → ∀ b cs t, (b, .cells cs t) ∈ l → hget H'.l b = some (.cells cs t) ∨ ∃ k o, fget fr k = some (.ptr b o)
  | [], _, b, cs, t, h => by cases h
  | (c, x) :: l, hl, b, cs, t, h => by
    have hl' : bornS fr H' l := by
      cases x with
      | cells => exact hl.2
      | row => exact hl
      | loop => exact hl
    rcases List.mem_cons.1 h with e | h
    · injection e with e1 e2; subst e1; subst e2; exact hl.1
    · exact bornS_mem hl' b cs t h
structure SubX (fr : Fr) (H : SW) (st : Fr × SW) : Prop where
  n : nbeq st.2.n H.n = true
  b : subB { H := H, H' := st.2, σ := [], fz := False } = true
  f : frS { H := H, H' := st.2, σ := [], fz := False } fr st.1
  h : hpS { H := H, H' := st.2, σ := [], fz := False } st.2.l
  u : bornS fr st.2 H.l
theorem SubX.ok {fr : Fr} {H : SW} {st : Fr × SW} (h : SubX fr H st) {w0 : Base} {m : Mem} {n : Nat} {out : Mk} {b : Act} (ha : AR m n out fr b) (hw : WR w0 m H) : AR m n out st.1 b ∧ WR w0 m st.2 ∧ Ext m H m st.2 := by
  have hn : st.2.n = H.n := by have := h.n; rw [nbeq_eq] at this; exact Nat.eq_of_beq_eq_true this
  have em : ({ H := H, H' := st.2, σ := [], fz := False } : Vw).mem m = m := by
    cases m with
    | mk F φ W D =>
      simp only [Vw.mem, Mem.mk.injEq, and_true]
      refine ⟨?_, ?_⟩
      · funext g
        simp
      · funext b'
        by_cases hb : b' < st.2.n
        · rw [if_pos hb]; rfl
        · rw [if_neg hb]
          cases e : φ b' with
          | none => rfl
          | some p =>
            have := hw.dom b' p e
            omega
  have hv := view_ok h.b h.h hw
  rw [em] at hv
  refine ⟨⟨ha.n, fun t v hvt => ?_, ha.dfr, ha.dr⟩, hv, ⟨Le.refl m, Nat.le_of_eq hn.symm, fun _ _ => rfl, fun b' cs t hb hnone hg => ?_⟩⟩
  · obtain ⟨v0, k1, k2⟩ := frS_get h.f t v hvt
    have := k2 w0 m _ hw (ha.get t v0 k1)
    rw [em] at this
    exact this
  · rcases bornS_mem h.u b' cs t (hget_mem hg) with h1 | ⟨k, o, h1⟩
    · exact h1
    · have := ha.get k _ h1
      generalize b.tmps.getD k undef = u at this
      cases this with
      | ptr hp => rw [hp] at hnone; cases hnone
theorem loopX_i (hm : P.follows .mixedOrders = true) (hT : ∀ t i, tget T t = some i → tiOf P t = some i) {c : Code} {fr : Fr} {H : SW} {K : Exit → Fr → SW → Prop} {α : Type} (st : α → Fr × SW) (I : α → Prop) (μ : α → Nat) (x0 : α) (h0 : I x0) (h1 : SubX fr H (st x0))
    (round : ∀ x, I x → codeX P T c (st x).1 (st x).2 fun e fr' H' => match e with
      | .normal => ∃ y, I y ∧ μ y < μ x ∧ SubX fr' H' (st y)
      | .ret => K .ret fr' H'
      | .exit id => K (.exit id) fr' H'
      | _ => False) : loopX P T c fr H K := by
  refine ⟨fun n rdm hc => ?_⟩
  have key : ∀ (k : Nat) (x : α), μ x < k → I x → ∃ e fr' H', K e fr' H' ∧ ∃ j, ∀ (w0 : Base) (rd : Option Nat) (out : Mk) (m : Mem) (b : Act), AR m n out (st x).1 b → WR w0 m (st x).2 → ∀ (Q : Exit → Act → World → Prop),
      (∀ m' b', Ext m (st x).2 m' H' → m'.D = m.D → AR m' n out fr' b' → WR w0 m' H' → Q e b' m'.W) → Code.roundsIn (FW rd) 0 P c Q j b m.W := by
    intro k
    induction k with
    | zero => intro x h; omega
    | succ k ih =>
      intro x hlt hI
      obtain ⟨e, fr1, H1, k1, k2⟩ := codeX_one hm hT c _ _ _ hc (round x hI)
      cases e with
      | normal =>
        obtain ⟨y, y1, y2, y3⟩ := k1
        obtain ⟨e2, fr2, H2, l1, j, l2⟩ := ih y (by omega) y1
        refine ⟨e2, fr2, H2, l1, j + 1, fun w0 rd out m b ha hw Q hQ => ?_⟩
        rw [roundsIn_succ]
        refine k2 w0 rd out m b ha hw _ fun m1 b1 x1 x2 x3 x4 => ?_
        obtain ⟨z1, z2, z3⟩ := y3.ok x3 x4
        exact l2 w0 rd out m1 b1 z1 z2 Q fun m2 b2 w1 w2 w3 w4 => hQ m2 b2 ((x1.trans z3).trans w1) (w2.trans x2) w3 w4
      | ret => exact ⟨.ret, fr1, H1, k1, 1, fun w0 rd out m b ha hw Q hQ => by rw [roundsIn_succ]; exact k2 w0 rd out m b ha hw _ fun m1 b1 x1 x2 x3 x4 => hQ m1 b1 x1 x2 x3 x4⟩
      | exit id => exact ⟨.exit id, fr1, H1, k1, 1, fun w0 rd out m b ha hw Q hQ => by rw [roundsIn_succ]; exact k2 w0 rd out m b ha hw _ fun m1 b1 x1 x2 x3 x4 => hQ m1 b1 x1 x2 x3 x4⟩
      | goto l => exact k1.elim
      | panic c => exact k1.elim
      | outgrown => exact k1.elim
  obtain ⟨e, fr', H', l1, j, l2⟩ := key _ x0 (Nat.lt_succ_self _) h0
  refine ⟨e, fr', H', l1, j, fun w0 rd out m b ha hw Q hQ => ?_⟩
  obtain ⟨z1, z2, z3⟩ := h1.ok ha hw
  exact l2 w0 rd out m b z1 z2 Q fun m2 b2 w1 w2 w3 w4 => hQ m2 b2 (z3.trans w1) w2 w3 w4

/-! ### A round with loops -/
@[reducible] def roundX (P : Program) (T : Tbl) (l : Nat) (ag bd : Code) (fr : Fr) (H : SW) (K : V → SW → Prop) : Prop :=
  codeX P T ag fr H fun e fr1 H1 => match e with
    | .normal => beginL H1 l fun H2 => codeX P T bd fr1 H2 fun e2 _ H3 => match e2 with
      | .normal => endL H3 l .ready fun H4 => K (B true) H4
      | .ret => endL H3 l .ret fun H4 => K (B false) H4
      | .exit id => endL H3 l (.exit id) fun H4 => K (B false) H4
      | _ => False
    | _ => False
theorem yield_x (hm : P.follows .mixedOrders = true) (hT : ∀ t i, tget T t = some i → tiOf P t = some i) {l : Nat} {vs : List V} {H : SW} {K : V → SW → Prop} {L : LInfo} (hg : hget H.l l = some (.loop L .ready)) (hL : LOK L) {fr0 : Fr} {ps : List Nat} {ag bd : Code}
    (efr : L.fr = fr0) (eps : L.ps.toList = ps) (eag : L.ag = ag) (ebd : L.bd = bd) (hlen : Nat.beq ps.length vs.length = true) (h : roundX P T l ag bd (putPs ps vs fr0) H K) : yieldW P l vs H K := by
  subst efr eps eag ebd
  have hlen := beq_t hlen
  obtain ⟨e, fr1, H1, k1, s1⟩ := codeX_one hm hT (rdm := true) L.ag _ H _ hL.ag h
  cases e with
  | ret => exact k1.elim
  | exit id => exact k1.elim
  | goto l => exact k1.elim
  | panic c => exact k1.elim
  | outgrown => exact k1.elim
  | normal =>
    obtain ⟨L1, hg1, k2⟩ := beginL_ok k1
    obtain ⟨e2, fr3, H3, k3, s3⟩ := codeX_one hm hT (rdm := true) L.bd fr1 _ _ hL.bd k2
    have main : ∀ (s : LSt) (v : V) (jump : Option Code), endL H3 l s (fun H4 => K v H4) → (∀ Q : Option Code → Prop, Q jump → Q s.of.2) → s.of.1 = (if jump.isNone then .ready else .done) → v = B jump.isNone →
        (∀ (R : Ending → World → Prop) (a : Act) (w : World), (∃ v w', (Instr.endRound 0 jump).run P w = .ok v w' ∧ R (.returned v) w') → True) →
        (∀ (g : Nat) (R : Ending → World → Prop) (a : Act) (w : World), (∃ v w', (Instr.endRound g jump).run P w = .ok v w' ∧ R (.returned v) w') → roundPost P g R e2 a w) → yieldW P l vs H K := by
      intro s v jump hend hp hst hv _ hpost
      obtain ⟨L3, hg3, k4⟩ := endL_ok hend
      refine ⟨⟨v, H3.put l (.loop L3 s), fun w0 m args' g C hw hφ hargs => ?_, k4⟩⟩
      obtain ⟨r, hr⟩ := hw.blk l g C _ hφ hg
      have hsz : args'.size = r.params.size := by
        have h1 := hargs.1
        have h2 : L.ps.size = r.params.size := by rw [hr.ps]
        simp at h1 hlen; omega
      obtain ⟨p1, p2⟩ := putPs_ok L.ps.toList vs args'.toList L.fr r.tmps hargs hlen (fun p hp => by
        have := List.all_eq_true.1 hL.ps p hp
        rw [hr.n]; simpa using this) hr.fr
      have efold : (r.params.zip args').foldl (fun tmps (x : Tmp × Value) => tmps.setIfInBounds x.1 x.2) r.tmps = (L.ps.toList.zip args'.toList).foldl (fun t (x : Nat × Value) => t.setIfInBounds x.1 x.2) r.tmps := by
        rw [← Array.foldl_toList, Array.toList_zip, hr.ps]
      refine ⟨r.fn, _, r.assign, r.body, run_yield hr.at_ hsz, roundIn_of_wpIn trivial ?_⟩
      rw [hr.ag]
      refine s1 w0 (some g) m.D m _ ⟨?_, ?_, ⟨[], by simp, rfl⟩, rfl⟩ hw _ fun m1 b1 x1 x2 x3 x4 => ?_
      · show ((r.params.zip args').foldl (fun tmps (x : Tmp × Value) => tmps.setIfInBounds x.1 x.2) r.tmps).size = _
        rw [efold, p1, hr.n]
      · intro t v hv
        show VR m v (((r.params.zip args').foldl (fun tmps (x : Tmp × Value) => tmps.setIfInBounds x.1 x.2) r.tmps).getD t undef)
        rw [efold]; exact p2 t v hv
      have hφ1 : m1.φ l = some (g, C) := x1.φ _ _ hφ
      obtain ⟨r1, hr1⟩ := x4.blk l g C _ hφ1 hg1
      obtain ⟨t1, t2⟩ := x4.turn (s' := .busy) hφ1 hg1 hr1
      refine ⟨_, run_beginRound hr1.at_ hr1.st, ?_⟩
      have epe : ({ r1 with state := .busy } : Loop) = { r1 with state := LSt.busy.of.1, pending := LSt.busy.of.2 } := by
        have := hr1.pe
        simp only [LSt.of] at this ⊢
        rw [← this]
      rw [epe, hr.bd]
      refine s3 w0 (some g) m.D _ b1 (x3.mono t2.toLe rfl) t1 _ fun m3 b3 y1 y2 y3 y4 => ?_
      have hφ3 : m3.φ l = some (g, C) := y1.φ _ _ hφ1
      obtain ⟨r3, hr3⟩ := y4.blk l g C _ hφ3 hg3
      obtain ⟨u1, u2⟩ := y4.turn (s' := s) hφ3 hg3 hr3
      have erec : ({ r3 with state := if jump.isNone then .ready else .done, pending := jump } : Loop) = { r3 with state := s.of.1, pending := s.of.2 } := by
        rw [hst]
        have := hp (fun x => x = jump) rfl
        rw [this]
      refine hpost g _ b3 _ ⟨_, _, run_endRound jump hr3.at_, ?_⟩
      rw [erec]
      exact ⟨_, _, rfl, rfl, ((x1.trans t2).trans y1).trans u2, y2.trans x2, u1, by rw [hv]; exact .sc rfl⟩
    cases e2 with
    | normal => exact main .ready (B true) none k3 (fun Q h => h) rfl rfl (fun _ _ _ _ => trivial) fun _ _ _ _ h => h
    | ret => exact main .ret (B false) (some .ret) k3 (fun Q h => h) rfl rfl (fun _ _ _ _ => trivial) fun _ _ _ _ h => h
    | exit id => exact main (.exit id) (B false) (some (.exit id)) k3 (fun Q h => h) rfl rfl (fun _ _ _ _ => trivial) fun _ _ _ _ h => h
    | goto l => exact k3.elim
    | panic c => exact k3.elim
    | outgrown => exact k3.elim

end
end Go.Proofs.YtcdcmeiipfafdaaGreat.Fx
