/-
  Code, run on values by content: regions, branches, blocks; loops by what holds at each round's head.
  Conditions: the checks of the code; the program follows the rule on mixed orders.
-/
import Derived.Test.YtkliejppigfjiaaFh
namespace Go.Proofs.Ytkliejppigfjiaa.Fx
open Go.RowKit

def markOf (g : Nat) : Deferred := { target := .collected g, args := #[] }
/-- The temporaries of the machine's are as told. ('out': the marks that are others'.) -/
structure AR (m : Mem) (n : Nat) (out : Mk) (fr : Fr) (b : Act) : Prop where
  n : b.tmps.size = n
  get : ∀ t v, fget fr t = some v → VR m v (b.tmps.getD t undef)
  dfr : ∃ own, m.D.d = own ++ out.d ∧ b.defers = own.map markOf
  dr : m.D.r = out.r
def opsB (n : Nat) (ops : Array Oper) (d : Bool) : Bool :=
  (ops.toList.all fun o => okOp o && (match o.dst with | none => true | some t => decide (t < n))) && (!d || staticB ops (preds ops.toList []) n)
def chk (n : Nat) (rdm : Bool) : Code → Bool
  | .skip => true
  | .ret => true
  | .exit _ => true
  | .region _ ops d => opsB n ops d
  | .seq a b => chk n rdm a && chk n rdm b
  | .cond c t e => okX c && chk n rdm t && chk n rdm e
  | .block _ b => chk n rdm b
  | .loop b => chk n rdm b
  | .rangeFunc f ps a b => !rdm && okX f && (ps.toList.all fun t => decide (t < n)) && chk n true a && chk n true b
  | _ => false
section
variable {P : Program} {T : Tbl} {w0 : Base} {m : Mem} {H : SW} {n : Nat} {out : Mk} {fr : Fr} {b : Act} {rd : Option Nat}
theorem AR.mono (h : AR m n out fr b) {m' : Mem} (hl : Le m m') (hD : m'.D = m.D) : AR m' n out fr b := ⟨h.n, fun t v e => (h.get t v e).mono hl, by rw [hD]; exact h.dfr, by rw [hD]; exact h.dr⟩
theorem AR.put (h : AR m n out fr b) {v : V} {u : Value} (hv : VR m v u) {d : Option Tmp} (hd : ∀ t, d = some t → t < n) : AR m n out (fput fr d v) (b.put d u) := by
  cases d with
  | none => exact h
  | some d =>
    have hlt : d < b.tmps.size := by rw [h.n]; exact hd d rfl
    refine ⟨by simpa [Act.put] using h.n, fun t w e => ?_, by simpa [Act.put] using h.dfr, h.dr⟩
    simp only [fget] at e
    simp only [Act.put, Array.getD_eq_getD_getElem?, Array.getElem?_setIfInBounds]
    rcases beq_cases d t with ⟨e1, rfl⟩ | ⟨e1, hn⟩
    · simp only [e1, Option.some.injEq] at e
      subst e
      simp [hlt, hv]
    · simp only [e1] at e
      simp only [hn, if_false]
      rw [← Array.getD_eq_getD_getElem?]
      exact h.get t w e
theorem AR.same (h : AR m n out fr b) {t : Nat} {v : V} (hv : fget fr t = some v) : AR m n out ((t, v) :: fr) b := ⟨h.n, fun k w e => h.get k w (by rw [← fget_same hv]; exact e), h.dfr, h.dr⟩
theorem AR.eval (h : AR m n out fr b) (hgl : GlOK m) {x : Operand} (hx : okX x = true) {v : V} (hv : ev fr x = some v) : VR m v (b.eval x) := by
  cases x with
  | tmp t => exact h.get t v hv
  | const c =>
    simp only [ev, Option.some.injEq] at hv
    subst hv
    exact ofV_ok hx
  | global g => exact ev_global hgl hv
  | func f =>
    simp only [ev, Option.some.injEq] at hv
    subst hv
    exact .fn rfl fun i x y hx => by simp at hx
theorem AR.rel (h : AR m n out fr b) (hgl : GlOK m) {o : Oper} (ho : okOp o = true) : Rel m (ev fr) o b := fun x hx _u hu =>
  h.eval hgl (List.all_eq_true.1 (Bool.and_eq_true _ _ ▸ ho).1 x (Array.mem_toList_iff.2 hx)) hu
theorem okOp_defer {o : Oper} (ho : okOp o = true) : ∀ c, o.op ≠ .defer c := fun c hc => by
  have := (Bool.and_eq_true _ _ ▸ ho).2
  rw [hc] at this; cases this
/-- One operation, from any fit state. -/
theorem step_one (hT : ∀ t i, tget T t = some i → tiOf P t = some i) {o : Oper} (ho : okOp o = true) {K : V → SW → Tag → Prop} (h : stepW P T (ev fr) o H K) : ∃ v H' g, K v H' g ∧ StepE P (ev fr) o H v H' := by
  rcases stepW_ok hT h with ⟨_, v, H', g, hk, _, hst⟩ | ⟨_, v, g, hk, _, hq⟩
  · exact ⟨v, H', g, hk, hst⟩
  · exact ⟨v, H, g, hk, StepE.quiet (okOp_defer ho) fun w => hq w H (by cases g <;> first | rfl | exact trivial)⟩
/-- The run ends so, from any fit state. -/
def OneO (_P : Program) (n : Nat) (fr : Fr) (H : SW) (fr' : Fr) (H' : SW) (run : Option Nat → (Exit → Act → World → Prop) → Act → World → Prop) : Prop :=
  ∀ (w0 : Base) (m : Mem) (out : Mk) (b : Act) (rd : Option Nat) (Q : Exit → Act → World → Prop), AR m n out fr b → WR w0 m H → (∀ m' b', Ext m H m' H' → m'.D = m.D → AR m' n out fr' b' → WR w0 m' H' → Q .normal b' m'.W) → run rd Q b m.W
theorem seqW_one (hT : ∀ t i, tget T t = some i → tiOf P t = some i) {ops : Array Oper} (hok : ∀ o ∈ ops.toList, okOp o = true ∧ ∀ t, o.dst = some t → t < n) : ∀ (l : List Oper) (i : Nat) (fr : Fr) (H : SW) (K : Fr → SW → Prop),
    ops.toList.drop i = l → seqW P T ops.toList l fr H K → ∃ fr' H', K fr' H' ∧ OneO P n fr H fr' H' fun rd Q b W => wpOpsIn (FW rd) 0 P ops Q (List.range' i l.length) b W
  | [], i, fr, H, K, _, h => ⟨fr, H, h, fun _ m _ b _ Q ha hw hQ => hQ m b (Ext.refl _ _) rfl ha hw⟩
  | o :: l, i, fr, H, K, hl, h => by
    have hi : ops[i]? = some o := by
      rw [← Array.getElem?_toList]
      have : (ops.toList.drop i)[0]? = some o := by rw [hl]; rfl
      simpa using this
    have hl' : ops.toList.drop (i + 1) = l := by
      rw [← List.drop_drop, hl]; rfl
    obtain ⟨hoo, hod⟩ := hok o (by rw [← Array.getElem?_toList] at hi; exact List.mem_of_getElem? hi)
    have unf : ∀ (rd : Option Nat) (Q : Exit → Act → World → Prop) (b : Act) (W : World), wpOpsIn (FW rd) 0 P ops Q (List.range' i (o :: l).length) b W = wpOpsIn (FW rd) 0 P ops Q (i :: List.range' (i + 1) l.length) b W := fun rd Q b W => by
      rw [List.length_cons, List.range'_succ]
    have run : ∀ (f : Fr), (stepW P T (ev f) o H fun v H' _ => seqW P T ops.toList l (fput f o.dst v) H' K) → ∃ fr' H', K fr' H' ∧ OneO P n f H fr' H' fun rd Q b W => o.wpIn (FW rd) 0 P b W (wpOpsIn (FW rd) 0 P ops Q (List.range' (i + 1) l.length)) Q := fun f hst => by
      obtain ⟨v, H1, g, hk, hst⟩ := step_one hT hoo hst
      obtain ⟨fr', H', k1, k2⟩ := seqW_one hT hok l (i + 1) _ H1 K hl' hk
      refine ⟨fr', H', k1, fun w0 m out b rd Q ha hw hQ => hst w0 m b (ha.rel hw.gl hoo) hw rd _ Q fun m' v' x1 x2 x3 x4 => ?_⟩
      exact k2 w0 m' out _ rd Q ((ha.mono x1.toLe x2).put x4 hod) x3 fun m2 b2 y1 y2 y3 y4 => hQ m2 b2 (x1.trans y1) (y2.trans x2) y3 y4
    rw [seqW_cons] at h
    split at h
    · rename_i hg
      obtain ⟨fr', H', k1, k2⟩ := run fr h
      refine ⟨fr', H', k1, fun w0 m out b rd Q ha hw hQ => ?_⟩
      show wpOpsIn (FW rd) 0 P ops Q (List.range' i (o :: l).length) b m.W
      rw [unf]
      unfold wpOpsIn
      simp only [hi]
      rw [show Region.wanted o (yielded ops b.tmps) = true by unfold Region.wanted; rw [hg], if_pos rfl]
      exact k2 w0 m out b rd Q ha hw hQ
    · rename_i j want hg
      have skip : ∀ (f : Fr), (∀ (m : Mem) (out : Mk) (b : Act), AR m n out fr b → AR m n out f b ∧ Region.wanted o (yielded ops b.tmps) = false) → seqW P T ops.toList l (fput f o.dst (.tup [])) H K → ∃ fr' H', K fr' H' ∧ OneO P n fr H fr' H' fun rd Q b W => wpOpsIn (FW rd) 0 P ops Q (List.range' i (o :: l).length) b W := fun f hwant h => by
        obtain ⟨fr', H', k1, k2⟩ := seqW_one hT hok l (i + 1) _ H K hl' h
        refine ⟨fr', H', k1, fun w0 m out b rd Q ha hw hQ => ?_⟩
        obtain ⟨hf, hb⟩ := hwant m out b ha
        show wpOpsIn (FW rd) 0 P ops Q (List.range' i (o :: l).length) b m.W
        rw [unf]
        unfold wpOpsIn
        simp only [hi]
        rw [hb]
        simp only [Bool.false_eq_true, if_false]
        refine ⟨fun _ _ => trivial, ?_⟩
        exact k2 w0 m out _ rd Q (hf.put (VR.undef m) hod) hw hQ
      rcases guardK_ok h with ⟨t, x, ht, hx, h⟩ | ⟨t, ht, hx, h⟩
      · rw [Array.getElem?_toList] at ht
        have hwant : ∀ (m : Mem) (out : Mk) (b : Act), AR m n out fr b → Region.wanted o (yielded ops b.tmps) = (x == want) := fun m out b ha => by
          have hv := (ha.get t _ hx).of_sc
          unfold Region.wanted
          rw [hg]
          simp only [yielded, ht, Option.bind_some]
          rw [Array.getD_eq_getD_getElem?] at hv
          cases e : b.tmps[t]? with
          | none => rw [e] at hv; simp [undef] at hv
          | some u =>
            rw [e] at hv
            simp only [Option.getD_some] at hv
            subst hv
            simp
        have h := h.h
        simp only [beqB_eq] at h
        split at h
        · rename_i hb
          obtain ⟨fr', H', k1, k2⟩ := run _ h
          refine ⟨fr', H', k1, fun w0 m out b rd Q ha hw hQ => ?_⟩
          show wpOpsIn (FW rd) 0 P ops Q (List.range' i (o :: l).length) b m.W
          rw [unf]
          unfold wpOpsIn
          simp only [hi]
          rw [hwant m out b ha, hb, if_pos rfl]
          exact k2 w0 m out b rd Q (ha.same hx) hw hQ
        · rename_i hb
          exact skip _ (fun m out b ha => ⟨ha.same hx, by rw [hwant m out b ha, hb]⟩) h
      · rw [Array.getElem?_toList] at ht
        refine skip fr (fun m out b ha => ⟨ha, ?_⟩) h
        have hv := ha.get t _ hx
        unfold Region.wanted
        rw [hg]
        simp only [yielded, ht, Option.bind_some]
        rw [Array.getD_eq_getD_getElem?] at hv
        cases e : b.tmps[t]? with
        | none => rfl
        | some u =>
          rw [e] at hv
          simp only [Option.getD_some] at hv
          cases hv with
          | tup hs hh => rfl
theorem drawW_one (hm : P.follows .mixedOrders = true) (hT : ∀ t i, tget T t = some i → tiOf P t = some i) {ops : Array Oper} {id : Nat} (hst : staticB ops (preds ops.toList []) n = true) {K : Fr → SW → Prop}
    (h : drawW P T ops.toList fr H K) : ∃ fr' H', K fr' H' ∧ OneO P n fr H fr' H' fun rd Q b W => (Code.region id ops true).wpIn (FW rd) 0 P Q b W := by
  have st := static_of hst
  unfold drawW at h
  obtain ⟨H1, h, b1, b2, b3, b4⟩ := birthsW_ok hT _ _ _ h
  have hz : births_ ops.toList 0 = 0 := by simp [births_]
  obtain ⟨rs, more, fr', H', r1, r2, r3, r4, r5, r6, r7⟩ := goD_spec hT st H.n fr ops.toList [] fr H1 [] K (by simp) (by simp [rank]) (fun t => by
    cases wr ops.toList 0 t with
    | none => rfl
    | some j => simp) (by simpa [hz] using h)
  simp only [List.reverse_nil, List.nil_append, List.length_nil, Nat.zero_add] at r2 r3 r4 r5 r6
  have pl : Plan P T ops (preds ops.toList []) n fr H H1 rs ([H1] ++ more) := ⟨st, by simpa using r1, fun i o hi => r4 i o (by rw [Array.getElem?_toList]; exact hi), r2, by simp, r5, fun k o hk hf => by
    obtain ⟨t, i, e1, e2, e3, _⟩ := b4 k o hk hf
    exact ⟨t, i, e1, e2, e3⟩⟩
  refine ⟨fr', H', r7, fun w0 m out b rd Q ha hw hQ => ?_⟩
  refine wpIn_region_any hm ?_
  obtain ⟨c1, c2⟩ := b1 hw
  have hrep : ∀ i, (Array.replicate ops.size false).getD i false = false := fun i => by
    rw [Array.getD_eq_getD_getElem?, Array.getElem?_replicate]; split <;> rfl
  obtain ⟨d1, d2⟩ := c1.other (W' := m.W.drew) hw.ov.drew (fun _ _ _ _ _ _ => rfl) (fun _ _ => rfl) (Nat.le_refl _) (fun _ _ => rfl)
  refine inv_any (m0 := m) (ds := b.defers) (w0 := w0) (rd := rd) hT pl ?_ ops.size 0 { m with W := m.W.drew } _ b ⟨by simp, closed_none _ _, fun i o hi he => ?_, ⟨H1, pl.h0, d1, c2.trans d2, rfl, fun i o hi hf _ => ?_⟩, ha.n, rfl, fun t v hv => ?_⟩ ?_
  · intro s m' L b' hinv hdone
    obtain ⟨Hs, hHs, hw', hext, hD, _⟩ := hinv.hs
    have hslt : s < rank ops.toList ops.toList.length + 1 := by rw [← pl.hsl]; exact (List.getElem?_eq_some_iff.1 hHs).1
    have hs' : s = rank ops.toList ops.toList.length := by
      rcases Nat.eq_zero_or_pos (rank ops.toList ops.toList.length) with h0 | h0
      · omega
      · obtain ⟨j, oj, hj, hej, hrj⟩ := rank_hit ops.toList (rank ops.toList ops.toList.length - 1) (by omega)
        rw [Array.getElem?_toList] at hj
        have := (hinv.ef j oj hj hej).1 (hdone j (lt_of_some hj))
        omega
    have hlast : Hs = H' := by
      rw [List.getLast?_eq_getElem?, r2] at r3
      rw [hs'] at hHs
      simp only [Nat.add_sub_cancel] at r3
      rw [hHs] at r3; injection r3
    subst hlast
    refine hQ m' b' hext hD ⟨hinv.n, fun t v hv => ?_, by rw [hinv.dfr, hD]; exact ha.dfr, by rw [hD]; exact ha.dr⟩ hw'
    refine hinv.slot t v ?_
    rw [r6 t] at hv
    unfold cur
    cases e : wr ops.toList 0 t with
    | none => rw [e] at hv; exact hv
    | some j =>
      rw [e] at hv
      obtain ⟨oj, hoj, _⟩ := wr_some e
      simp only [hdone j (lt_of_some hoj), if_true]
      simpa [lt_of_some hoj] using hv
  · rw [hrep]; simp
  · obtain ⟨t, z, e1, e2, e3, e4, e5⟩ := b4 i o (by rw [Array.getElem?_toList]; exact hi) hf
    exact ⟨hw.fresh _ (Nat.le_add_right _ _), ⟨t, z, e1, e3, e4⟩, e5⟩
  · unfold cur at hv
    have hle : Le m { m with W := m.W.drew } := ⟨fun _ _ h => h, fun _ h => h, fun _ _ => rfl⟩
    refine VR.mono hle (ha.get t v ?_)
    cases e : wr ops.toList 0 t with
    | none => rw [e] at hv; exact hv
    | some j => rw [e] at hv; simpa [hrep] using hv
  · unfold undone
    exact Nat.le_trans (List.length_filter_le _ _) (by simp)

/-! ### Code -/
/-- What stays does. -/
structure Kp (m m' : Mem) : Prop where
  F : ∀ g, m.F g → m'.F g
  mem : ∀ g, m.F g → m'.W.heap[g]? = m.W.heap[g]?
theorem Kp.refl (m : Mem) : Kp m m := ⟨fun _ h => h, fun _ _ => rfl⟩
theorem Kp.trans {a b c : Mem} (h : Kp a b) (k : Kp b c) : Kp a c := ⟨fun g e => k.F g (h.F g e), fun g e => (k.mem g (h.F g e)).trans (h.mem g e)⟩
theorem Le.kp {m m' : Mem} (h : Le m m') : Kp m m' := ⟨h.F, h.mem⟩
/-- From any fit state the code ends as told. -/
def Sat (P : Program) (c : Code) (n : Nat) (rdm : Bool) (fr : Fr) (H : SW) (K : Exit → Fr → SW → Prop) : Prop :=
  ∀ (w0 : Base) (rd : Option Nat) (out : Mk) (m : Mem) (b : Act), rd.isSome = rdm → AR m n out fr b → WR w0 m H → ∀ (Q : Exit → Act → World → Prop),
    (∀ e fr' H' m' b', K e fr' H' → Kp m m' → AR m' n out fr' b' → WR w0 m' H' → Q e b' m'.W) → c.wpIn (FW rd) 0 P Q b m.W
structure loopW (P : Program) (T : Tbl) (c : Code) (fr : Fr) (H : SW) (K : Exit → Fr → SW → Prop) : Prop where
  h : ∀ n rdm, chk n rdm c = true → Sat P (.loop c) n rdm fr H K
structure rangeW (P : Program) (T : Tbl) (f : Operand) (ps : Array Tmp) (ag bd : Code) (fr : Fr) (H : SW) (K : Exit → Fr → SW → Prop) : Prop where
  h : ∀ n, chk n false (.rangeFunc f ps ag bd) = true → Sat P (.rangeFunc f ps ag bd) n false fr H K
@[reducible] def codeW (P : Program) (T : Tbl) (c : Code) : Fr → SW → (Exit → Fr → SW → Prop) → Prop :=
  @Code.rec (fun _ => Fr → SW → (Exit → Fr → SW → Prop) → Prop)
    (fun fr H K => K .normal fr H)
    (fun _ ops d fr H K => match d with
      | true => drawW P T ops.toList fr H fun fr' H' => K .normal fr' H'
      | false => seqW P T ops.toList ops.toList fr H fun fr' H' => K .normal fr' H')
    (fun _ _ ihx ihy fr H K => ihx fr H fun e fr' H' => match e with
      | .normal => ihy fr' H' K
      | .ret => K .ret fr' H'
      | .exit id => K (.exit id) fr' H'
      | _ => False)
    (fun c _ _ iht ihe fr H K => match ev fr c with
      | some (.sc (.bool x)) => branch x fun x' => match x' with
        | true => iht fr H K
        | false => ihe fr H K
      | _ => False)
    (fun id _ ih fr H K => ih fr H fun e fr' H' => match e with
      | .normal => K .normal fr' H'
      | .ret => K .ret fr' H'
      | .exit id' => match Nat.beq id' id with
        | true => K .normal fr' H'
        | false => K (.exit id') fr' H'
      | _ => False)
    (fun c _ fr H K => loopW P T c fr H K)
    (fun f ps ag bd _ _ fr H K => rangeW P T f ps ag bd fr H K)
    (fun id fr H K => K (.exit id) fr H)
    (fun _ _ _ _ _ => False)
    (fun _ _ _ _ => False)
    (fun _ _ _ _ => False)
    (fun fr H K => K .ret fr H)
    (fun _ _ _ _ => False) c
/-- Neither a loop nor a range over a function. -/
def flat : Code → Bool
  | .skip => true
  | .ret => true
  | .exit _ => true
  | .region .. => true
  | .seq a b => flat a && flat b
  | .cond _ a b => flat a && flat b
  | .block _ b => flat b
  | _ => false
/-- From any fit state the code ends just so; what was known stays known. -/
def SatE (P : Program) (c : Code) (n : Nat) (fr : Fr) (H : SW) (e : Exit) (fr' : Fr) (H' : SW) : Prop :=
  ∀ (w0 : Base) (rd : Option Nat) (out : Mk) (m : Mem) (b : Act), AR m n out fr b → WR w0 m H → ∀ (Q : Exit → Act → World → Prop),
    (∀ m' b', Ext m H m' H' → m'.D = m.D → AR m' n out fr' b' → WR w0 m' H' → Q e b' m'.W) → c.wpIn (FW rd) 0 P Q b m.W
theorem region_one (hm : P.follows .mixedOrders = true) (hT : ∀ t i, tget T t = some i → tiOf P t = some i) {n : Nat} {ops : Array Oper} {d : Bool} {id : Nat} {fr : Fr} {H : SW} {K : Exit → Fr → SW → Prop} (hc : opsB n ops d = true) (h : codeW P T (.region id ops d) fr H K) :
    ∃ fr' H', K .normal fr' H' ∧ SatE P (.region id ops d) n fr H .normal fr' H' := by
  simp only [opsB, Bool.and_eq_true] at hc
  have hok : ∀ o ∈ ops.toList, okOp o = true ∧ ∀ t, o.dst = some t → t < n := fun o ho => by
    have := List.all_eq_true.1 hc.1 o ho
    simp only [Bool.and_eq_true] at this
    refine ⟨this.1, fun t ht => ?_⟩
    have h2 := this.2
    rw [ht] at h2
    simpa using h2
  cases d with
  | true =>
    have hst : staticB ops (preds ops.toList []) n = true := by simpa using hc.2
    obtain ⟨fr', H', k1, k2⟩ := drawW_one (id := id) hm hT hst (K := fun fr' H' => K .normal fr' H') h
    exact ⟨fr', H', k1, fun w0 rd out m b ha hw Q hQ => k2 w0 m out b rd Q ha hw hQ⟩
  | false =>
    obtain ⟨fr', H', k1, k2⟩ := seqW_one hT hok ops.toList 0 fr H (fun fr' H' => K .normal fr' H') (by simp) h
    refine ⟨fr', H', k1, fun w0 rd out m b ha hw Q hQ => wpIn_region ?_⟩
    rw [List.range_eq_range', show ops.size = ops.toList.length by simp]
    exact k2 w0 m out b rd Q ha hw hQ
theorem codeW_one (hm : P.follows .mixedOrders = true) (hT : ∀ t i, tget T t = some i → tiOf P t = some i) {n : Nat} {rdm : Bool} : ∀ (c : Code) (fr : Fr) (H : SW) (K : Exit → Fr → SW → Prop), flat c = true → chk n rdm c = true → codeW P T c fr H K →
    ∃ e fr' H', K e fr' H' ∧ SatE P c n fr H e fr' H'
  | .skip, fr, H, K, _, _, h => ⟨.normal, fr, H, h, fun w0 rd out m b ha hw Q hQ => wpIn_skip (hQ m b (Ext.refl _ _) rfl ha hw)⟩
  | .ret, fr, H, K, _, _, h => ⟨.ret, fr, H, h, fun w0 rd out m b ha hw Q hQ => wpIn_ret (hQ m b (Ext.refl _ _) rfl ha hw)⟩
  | .exit id, fr, H, K, _, _, h => ⟨.exit id, fr, H, h, fun w0 rd out m b ha hw Q hQ => wpIn_exit (hQ m b (Ext.refl _ _) rfl ha hw)⟩
  | .region id ops d, fr, H, K, _, hc, h => by
    obtain ⟨fr', H', k1, k2⟩ := region_one hm hT (by simpa [chk] using hc) h
    exact ⟨.normal, fr', H', k1, k2⟩
  | .seq x y, fr, H, K, hf, hc, h => by
    simp only [chk, flat, Bool.and_eq_true] at hc hf
    obtain ⟨e, fr1, H1, k1, k2⟩ := codeW_one hm hT x fr H _ hf.1 hc.1 h
    cases e with
    | normal =>
      obtain ⟨e2, fr2, H2, l1, l2⟩ := codeW_one hm hT y fr1 H1 K hf.2 hc.2 k1
      refine ⟨e2, fr2, H2, l1, fun w0 rd out m b ha hw Q hQ => wpIn_seq (k2 w0 rd out m b ha hw _ fun m1 b1 x1 x2 x3 x4 => ?_)⟩
      exact l2 w0 rd out m1 b1 x3 x4 Q fun m2 b2 y1 y2 y3 y4 => hQ m2 b2 (x1.trans y1) (y2.trans x2) y3 y4
    | ret => exact ⟨.ret, fr1, H1, k1, fun w0 rd out m b ha hw Q hQ => wpIn_seq (k2 w0 rd out m b ha hw _ fun m1 b1 x1 x2 x3 x4 => hQ m1 b1 x1 x2 x3 x4)⟩
    | exit id => exact ⟨.exit id, fr1, H1, k1, fun w0 rd out m b ha hw Q hQ => wpIn_seq (k2 w0 rd out m b ha hw _ fun m1 b1 x1 x2 x3 x4 => hQ m1 b1 x1 x2 x3 x4)⟩
    | goto l => exact k1.elim
    | panic c => exact k1.elim
    | outgrown => exact k1.elim
  | .cond c t e, fr, H, K, hf, hc, h => by
    simp only [chk, flat, Bool.and_eq_true] at hc hf
    simp only [codeW] at h
    split at h
    case h_2 => cases h
    rename_i x hx
    have h := h.h
    have hv : ∀ (m : Mem) (out : Mk) (b : Act), AR m n out fr b → GlOK m → b.eval c = .bool x := fun m out b ha hg => (ha.eval hg hc.1.1 hx).of_sc
    cases x with
    | true =>
      obtain ⟨e2, fr2, H2, l1, l2⟩ := codeW_one hm hT t fr H K hf.1 hc.1.2 h
      exact ⟨e2, fr2, H2, l1, fun w0 rd out m b ha hw Q hQ => wpIn_cond (hv m out b ha hw.gl) (l2 w0 rd out m b ha hw Q hQ)⟩
    | false =>
      obtain ⟨e2, fr2, H2, l1, l2⟩ := codeW_one hm hT e fr H K hf.2 hc.2 h
      exact ⟨e2, fr2, H2, l1, fun w0 rd out m b ha hw Q hQ => wpIn_cond (hv m out b ha hw.gl) (l2 w0 rd out m b ha hw Q hQ)⟩
  | .block id c, fr, H, K, hf, hc, h => by
    simp only [chk, flat] at hc hf
    obtain ⟨e, fr1, H1, k1, k2⟩ := codeW_one hm hT c fr H _ hf hc h
    cases e with
    | normal => exact ⟨.normal, fr1, H1, k1, fun w0 rd out m b ha hw Q hQ => wpIn_block (k2 w0 rd out m b ha hw _ fun m1 b1 x1 x2 x3 x4 => hQ m1 b1 x1 x2 x3 x4)⟩
    | ret => exact ⟨.ret, fr1, H1, k1, fun w0 rd out m b ha hw Q hQ => wpIn_block (k2 w0 rd out m b ha hw _ fun m1 b1 x1 x2 x3 x4 => hQ m1 b1 x1 x2 x3 x4)⟩
    | exit id' =>
      simp only at k1
      rcases beq_cases id' id with ⟨e1, rfl⟩ | ⟨e1, hn⟩
      · simp only [e1] at k1
        refine ⟨.normal, fr1, H1, k1, fun w0 rd out m b ha hw Q hQ => wpIn_block (k2 w0 rd out m b ha hw _ fun m1 b1 x1 x2 x3 x4 => ?_)⟩
        simp only [Exit.inBlock, if_true]
        exact hQ m1 b1 x1 x2 x3 x4
      · simp only [e1] at k1
        refine ⟨.exit id', fr1, H1, k1, fun w0 rd out m b ha hw Q hQ => wpIn_block (k2 w0 rd out m b ha hw _ fun m1 b1 x1 x2 x3 x4 => ?_)⟩
        simp only [Exit.inBlock]
        rw [if_neg hn]
        exact hQ m1 b1 x1 x2 x3 x4
    | goto l => exact k1.elim
    | panic c => exact k1.elim
    | outgrown => exact k1.elim
  | .loop _, _, _, _, hf, _, _ => by simp [flat] at hf
  | .rangeFunc .., _, _, _, hf, _, _ => by simp [flat] at hf
  | .scope _, _, _, _, hf, _, _ => by simp [flat] at hf
  | .label _, _, _, _, hf, _, _ => by simp [flat] at hf
  | .goto _, _, _, _, hf, _, _ => by simp [flat] at hf
  | .refuse _, _, _, _, hf, _, _ => by simp [flat] at hf
theorem codeW_ok (hm : P.follows .mixedOrders = true) (hT : ∀ t i, tget T t = some i → tiOf P t = some i) {n : Nat} {rdm : Bool} : ∀ (c : Code) (fr : Fr) (H : SW) (K : Exit → Fr → SW → Prop), chk n rdm c = true → codeW P T c fr H K → Sat P c n rdm fr H K
  | .skip, fr, H, K, _, h => fun w0 rd out m b _ ha hw Q hQ => wpIn_skip (hQ .normal fr H m b h (Kp.refl m) ha hw)
  | .ret, fr, H, K, _, h => fun w0 rd out m b _ ha hw Q hQ => wpIn_ret (hQ .ret fr H m b h (Kp.refl m) ha hw)
  | .exit id, fr, H, K, _, h => fun w0 rd out m b _ ha hw Q hQ => wpIn_exit (hQ (.exit id) fr H m b h (Kp.refl m) ha hw)
  | .seq x y, fr, H, K, hc, h => fun w0 rd out m b hr ha hw Q hQ => by
    simp only [chk, Bool.and_eq_true] at hc
    refine wpIn_seq (codeW_ok hm hT x fr H _ hc.1 h w0 rd out m b hr ha hw _ fun e fr1 H1 m1 b1 k x1 x2 x3 => ?_)
    cases e with
    | normal => exact codeW_ok hm hT y fr1 H1 K hc.2 k w0 rd out m1 b1 hr x2 x3 Q fun e2 fr2 H2 m2 b2 k2 y1 y2 y3 => hQ e2 fr2 H2 m2 b2 k2 (x1.trans y1) y2 y3
    | ret => exact hQ .ret fr1 H1 m1 b1 k x1 x2 x3
    | exit id => exact hQ (.exit id) fr1 H1 m1 b1 k x1 x2 x3
    | goto l => exact k.elim
    | panic c => exact k.elim
    | outgrown => exact k.elim
  | .cond c t e, fr, H, K, hc, h => fun w0 rd out m b hr ha hw Q hQ => by
    simp only [chk, Bool.and_eq_true] at hc
    simp only [codeW] at h
    split at h
    case h_2 => cases h
    rename_i x hx
    have hv := (ha.eval hw.gl hc.1.1 hx).of_sc
    have h := h.h
    refine wpIn_cond hv ?_
    cases x with
    | true => exact codeW_ok hm hT t fr H K hc.1.2 h w0 rd out m b hr ha hw Q hQ
    | false => exact codeW_ok hm hT e fr H K hc.2 h w0 rd out m b hr ha hw Q hQ
  | .block id c, fr, H, K, hc, h => fun w0 rd out m b hr ha hw Q hQ => by
    simp only [chk] at hc
    refine wpIn_block (codeW_ok hm hT c fr H _ hc h w0 rd out m b hr ha hw _ fun e fr1 H1 m1 b1 k x1 x2 x3 => ?_)
    cases e with
    | normal => exact hQ .normal fr1 H1 m1 b1 k x1 x2 x3
    | ret => exact hQ .ret fr1 H1 m1 b1 k x1 x2 x3
    | exit id' =>
      simp only at k
      simp only [Exit.inBlock]
      rcases beq_cases id' id with ⟨e1, rfl⟩ | ⟨e1, hn⟩
      · simp only [e1] at k
        rw [if_pos rfl]
        exact hQ .normal fr1 H1 m1 b1 k x1 x2 x3
      · simp only [e1] at k
        rw [if_neg hn]
        exact hQ (.exit id') fr1 H1 m1 b1 k x1 x2 x3
    | goto l => exact k.elim
    | panic c => exact k.elim
    | outgrown => exact k.elim
  | .region id ops d, fr, H, K, hc, h => fun w0 rd out m b hr ha hw Q hQ => by
    obtain ⟨fr', H', k1, k2⟩ := region_one hm hT (by simpa [chk] using hc) h
    exact k2 w0 rd out m b ha hw Q fun m' b' x1 x2 x3 x4 => hQ .normal fr' H' m' b' k1 x1.toLe.kp x3 x4
  | .loop c, fr, H, K, hc, h => h.h n rdm (by simpa [chk] using hc)
  | .rangeFunc f ps ag bd, fr, H, K, hc, h => by
    have : rdm = false := by
      simp only [chk, Bool.and_eq_true] at hc
      simpa using hc.1.1.1.1
    subst this
    exact h.h n hc
  | .scope _, _, _, _, hc, _ => by simp [chk] at hc
  | .label _, _, _, _, hc, _ => by simp [chk] at hc
  | .goto _, _, _, _, hc, _ => by simp [chk] at hc
  | .refuse _, _, _, _, hc, _ => by simp [chk] at hc
end
end Go.Proofs.Ytkliejppigfjiaa.Fx
