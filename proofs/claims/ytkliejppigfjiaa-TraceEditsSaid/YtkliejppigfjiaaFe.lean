/-
  What the run on values by content says of one operation holds of the machine: new blocks, stores, append, calls.
  Conditions: the table of types is the program's.
-/
import Derived.Test.YtkliejppigfjiaaFo
import Derived.Room.Entries
namespace Go.Proofs.Ytkliejppigfjiaa.Fx
open Go.RowKit

abbrev FW (r : Option Nat) : Fence := { Fence.wide with round := r }
/-- One operation, from any fit state of the machine's. -/
def StepE (P : Program) (ρ : Env) (o : Oper) (H : SW) (v : V) (H' : SW) : Prop :=
  ∀ (w0 : Base) (m : Mem) (a : Act), Rel m ρ o a → WR w0 m H → ∀ (r : Option Nat) (K : Act → World → Prop) (Q : Exit → Act → World → Prop),
    (∀ m' v', Ext m H m' H' → m'.D = m.D → WR w0 m' H' → VR m' v v' → K (a.put o.dst v') m'.W) → o.wpIn (FW r) 0 P a m.W K Q
def EOK (P : Program) (ρ : Env) (o : Oper) (H : SW) (K : V → SW → Tag → Prop) : Prop :=
  ∃ v H' g, K v H' g ∧ (∀ b, b < H.n → g ≠ .wr b ∧ g ≠ .all → H'.get b = H.get b) ∧ StepE P ρ o H v H'
def ERun (P : Program) (w0 : Base) (m : Mem) (a : Act) (o : Oper) (H : SW) (v : V) (H' : SW) : Prop :=
  ∃ v' m', ((execOp a.eval o).run P m.W = .ok (.value v') m'.W ∨ ((execOp a.eval o).run P m.W = .ok .skip m'.W ∧ v' = undef)) ∧ WR w0 m' H' ∧ Ext m H m' H' ∧ m'.D = m.D ∧ VR m' v v'

section
variable {P : Program} {T : Tbl}
theorem StepE.of {ρ : Env} {o : Oper} {H H' : SW} {v : V} (hd : ∀ c, o.op ≠ .defer c) (h : ∀ w0 m a, Rel m ρ o a → WR w0 m H → ERun P w0 m a o H v H') : StepE P ρ o H v H' := by
  intro w0 m a hr hw r K Q hK
  refine ⟨fun _ _ => trivial, ?_⟩
  rw [Oper.semAt_eq _ _ _ hd]
  obtain ⟨v', m', hrun, h1, h2, h3, h4⟩ := h w0 m a hr hw
  rcases hrun with hrun | ⟨hrun, rfl⟩ <;> rw [hrun]
  · rw [Oper.uponIn_value]; exact hK m' v' h2 h3 h1 h4
  · rw [Oper.uponIn_skip]; exact hK m' _ h2 h3 h1 h4
theorem StepE.quiet {ρ : Env} {o : Oper} {H : SW} {v : V} (hd : ∀ c, o.op ≠ .defer c) (h : ∀ w0, Quiet P w0 ρ o H v) : StepE P ρ o H v H :=
  StepE.of hd fun w0 m a hr hw => by
    obtain ⟨v', m', h1, h2, h3, h4, h5⟩ := h w0 m a hr hw
    exact ⟨v', m', .inl h1, h3, h4, h5, h2⟩

theorem size_alloc_le (W : World) (o : Obj) : W.heap.size ≤ (W.alloc o).heap.size := by
  show W.heap.size ≤ (W.heap.push o).size
  simp
/-- A new row of the machine's. -/
def memNew (m : Mem) (H : SW) (C : Nat) (W' : World) : Mem := { m with φ := upd m.φ H.n (m.W.heap.size, C), W := W' }
theorem WR.leNew {w0 : Base} {m : Mem} {H : SW} (h : WR w0 m H) {p : Nat × Nat} {W' : World} (hold : ∀ j, j < m.W.heap.size → W'.heap[j]? = m.W.heap[j]?) : Le m { m with φ := upd m.φ H.n p, W := W' } :=
  ⟨fun b q hb => by
    have := h.dom b q hb
    simp only [Fx.upd]; rw [if_neg (by omega)]; exact hb, fun _ h => h, fun j hj => hold j (h.fr j hj)⟩
theorem push_cells {w0 : Base} {m : Mem} {H : SW} (hw : WR w0 m H) {cs : List V} {ds : Array Value} {t : TypeId} (hl : LR m cs ds.toList) :
    WR w0 (memNew m H 0 (m.W.alloc (.cells ds t))) (H.push (.cells cs t)) ∧ Ext m H (memNew m H 0 (m.W.alloc (.cells ds t))) (H.push (.cells cs t)) := by
  refine hw.pushNew (hw.ov.alloc _) (fun j hj => heap_alloc_old m.W _ hj) (size_alloc_le _ _) (Nat.le_refl _) ⟨ds, heap_alloc_new m.W _, hl.mono (hw.leNew fun j hj => heap_alloc_old m.W _ hj)⟩
theorem push_row {w0 : Base} {m : Mem} {H : SW} (hw : WR w0 m H) {sz n C : Nat} {e : Nat → V} {ds : Array Value} {t : TypeId} {W' : World} (hov : Ov w0.W W') (hold : ∀ j, j < m.W.heap.size → W'.heap[j]? = m.W.heap[j]?) (hsz : m.W.heap.size ≤ W'.heap.size)
    (hnew : W'.heap[m.W.heap.size]? = some (.cells ds t (0, 0))) (hC : ds.size = C * sz) (hn : n ≤ C) (hr : RowR m sz n e ds.toList) :
    WR w0 (memNew m H C W') (H.push (.row sz n e t)) ∧ Ext m H (memNew m H C W') (H.push (.row sz n e t)) :=
  hw.pushNew hov hold hsz (Nat.le_refl _) ⟨ds, hnew, hC, hn, hr.mono (hw.leNew hold)⟩
theorem push_nil {w0 : Base} {m : Mem} {H : SW} (h : WR w0 m H) (sz : Nat) (e : Nat → V) (t : TypeId) : WR w0 m (H.push (.row sz 0 e t)) ∧ Ext m H m (H.push (.row sz 0 e t)) := by
  have live : ∀ b p s', m.φ b = some p → (H.push (.row sz 0 e t)).get b = some s' → H.get b = some s' := fun b p s' hb hg => by
    rw [SW.get_push] at hg
    split at hg
    · rename_i e; subst e; rw [h.fresh _ (Nat.le_refl _)] at hb; cases hb
    · exact hg
  refine ⟨⟨h.ov, fun b p hb => by have := h.dom b p hb; simp; omega, fun b s hb => ?_, fun b g k s' hb hg => h.blk b g k s' hb (live _ _ _ hb hg), fun b g k s' hb hg => h.high b g k s' hb (live _ _ _ hb hg), fun b b' g k k' s1 s2 h1 h2 h3 h4 => h.inj b b' g k k' s1 s2 h1 h2 (live _ _ _ h1 h3) (live _ _ _ h2 h4),
    h.fr, h.marks, h.uniq, h.new, h.gl⟩, ⟨Le.refl m, by simp, fun _ _ => rfl, fun b cs t hb _ hg => ?_⟩⟩
  · rw [SW.get_push] at hb
    split at hb
    · subst_vars; simp
    · have := h.hdom b s hb; simp; omega
  · rw [SW.get_push, if_neg (by omega)]; exact hg
theorem get_push_old {H : SW} {s : SB} {b : Nat} (h : b < H.n) : (H.push s).get b = H.get b := by rw [SW.get_push, if_neg (by omega)]

theorem alloc_ok (hT : ∀ t i, tget T t = some i → tiOf P t = some i) {ρ : Env} {o : Oper} {H : SW} {K : V → SW → Tag → Prop} {t : TypeId} (ho : o.op = .alloc t) (h : match tget T t with
    | some i => spineK (lsc i.zero) fun z => pushK H (.cells z t) fun b H' => K (.ptr b 0) H' .no
    | none => False) : EOK P ρ o H K := by
  split at h
  case h_2 => cases h
  rename_i i hi
  obtain ⟨inf, z, h1, h2, h3, h4, h5, h6, h7⟩ := tk_spec (hT _ _ hi)
  refine ⟨_, _, _, pushK_ok (spineK_ok _ _ h), fun b hb _ => get_push_old hb, StepE.of (by simp [ho]) fun w0 m a hr hw => ?_⟩
  obtain ⟨p1, p2⟩ := push_cells hw (ds := z.cells) (t := t) (by rw [h5]; exact lsc_ok h6)
  exact ⟨_, _, .inl (by simp [execOp, ho, Instr.alloc, zeroValue, typeInfo, h1, h4, newVar, newRow]; rfl), p1, p2, rfl, .ptr (C := 0) (upd_self _ _ _)⟩
theorem box_ok {ρ : Env} {o : Oper} {H : SW} {K : V → SW → Tag → Prop} {t : TypeId} {x : Operand} (ho : o.op = .box t x) (h : match ρ x with
    | some v => elemK v fun cs => pushK H (.cells cs t) fun b H' => K (.ptr b 0) H' .no
    | none => False) : EOK P ρ o H K := by
  split at h
  case h_2 => cases h
  rename_i v hx
  refine ⟨_, _, _, pushK_ok (elemK_ok h), fun b hb _ => get_push_old hb, StepE.of (by simp [ho]) fun w0 m a hr hw => ?_⟩
  have hv := hr x (by simp [ho, Op.operands]) _ hx
  obtain ⟨p1, p2⟩ := push_cells hw (t := t) hv.cells
  exact ⟨_, _, .inl (by simp [execOp, ho, Instr.box, newVar, newRow]; rfl), p1, p2, rfl, .ptr (C := 0) (upd_self _ _ _)⟩

theorem indexed_ok : ∀ {k : Nat} {l : List (Nat × Operand)}, indexed k l = true → l = (opnds l).mapIdx fun i x => (k + i, x)
  | _, [], _ => rfl
  | k, (j, x) :: l, h => by
    simp only [indexed] at h
    split at h
    · rename_i hj
      obtain rfl := beq_t hj
      have ih := indexed_ok h
      simp only [opnds, List.mapIdx_cons, Nat.add_zero]
      congr 1
      conv => lhs; rw [ih]
      apply List.ext_getElem? ; intro i
      simp [Nat.succ_eq_add_one]
      congr 1; funext y; congr 1; omega
    · cases h
theorem fill_indexed (sz : Nat) (f : Operand → Value) : ∀ (l : List Operand) (k : Nat) (ds : Array Value), (∀ x ∈ l, (f x).cells.size = sz) → (k + l.length) * sz ≤ ds.size →
    ∃ ds', Instr.fill (fun i => some (i * sz, sz)) ds (l.mapIdx fun i x => (k + i, f x)) = some ds' ∧ ds'.size = ds.size ∧ (∀ p, p < k * sz → ds'[p]? = ds[p]?) ∧
      ∀ (i : Nat) (x : Operand), l[i]? = some x → ∀ (j : Nat) (u : Value), (f x).cells[j]? = some u → ds'[(k + i) * sz + j]? = some u
  | [], k, ds, _, _ => ⟨ds, rfl, rfl, fun _ _ => rfl, fun i x h => by simp at h⟩
  | y :: l, k, ds, hs, hle => by
    have hsy := hs y (by simp)
    have hle1 : k * sz + sz ≤ ds.size := by
      have : (k + (l.length + 1)) * sz = k * sz + sz + l.length * sz := by rw [Nat.add_mul, Nat.add_mul]; omega
      simp only [List.length_cons] at hle; omega
    have hw : ((f y).cells.zipIdx.foldl (fun cs (c, j) => cs.setIfInBounds (k * sz + j) c) ds).toList = ds.toList.take (k * sz) ++ (f y).cells.toList ++ ds.toList.drop (k * sz + sz) := by
      have := fold_lwrite (f y).cells.toList 0 (k * sz) ds
      simp only [← Array.foldl_toList, Array.toList_zipIdx]
      rw [this, Nat.add_zero, lwrite_eq _ _ _ (by simp [hsy]; exact hle1)]
      simp [hsy]
    generalize hd1 : (f y).cells.zipIdx.foldl (fun cs (c, j) => cs.setIfInBounds (k * sz + j) c) ds = d1 at hw
    have hsz1 : d1.size = ds.size := by
      have := congrArg List.length hw
      simp [hsy] at this; omega
    obtain ⟨ds', h1, h2, h3, h4⟩ := fill_indexed sz f l (k + 1) d1 (fun x hx => hs x (by simp [hx])) (by rw [hsz1]; simp only [List.length_cons] at hle; rw [show k + 1 + l.length = k + (l.length + 1) by omega]; exact hle)
    refine ⟨ds', ?_, by rw [h2, hsz1], fun p hp => ?_, fun i x hx j u hu => ?_⟩
    · rw [List.mapIdx_cons]
      simp only [Nat.add_zero, Instr.fill, hsy]
      rw [if_neg (by simp; omega)]
      rw [← h1, hd1]
      congr 1
      apply List.ext_getElem?; intro i
      simp
      congr 1; funext z; congr 1; omega
    · rw [h3 p (by rw [Nat.add_mul]; omega), ← Array.getElem?_toList, hw, ← Array.getElem?_toList]
      rw [List.append_assoc, List.getElem?_append_left (by simp; omega), List.getElem?_take, if_pos hp]
    · cases i with
      | zero =>
        simp at hx; subst hx
        have hj : j < sz := by rw [← hsy]; exact (Array.getElem?_eq_some_iff.1 hu).1
        rw [Nat.add_zero, h3 _ (by rw [Nat.add_mul]; omega), ← Array.getElem?_toList, hw]
        rw [List.append_assoc, List.getElem?_append_right (by simp; omega), List.getElem?_append_left (by simp [hsy]; omega)]
        rw [← Array.getElem?_toList] at hu
        rw [← hu]; congr 1; simp; omega
      | succ i =>
        have := h4 i x (by simpa using hx) j u hu
        rwa [show k + 1 + i = k + (i + 1) by omega] at this
theorem sized_ok {sz : Nat} : ∀ {l : List V}, sized sz l = true → ∀ v ∈ l, v.cells.length = sz ∧ ones v.cells = true
  | [], _, v, hv => by cases hv
  | x :: l, h, v, hv => by
    simp only [sized] at h
    split at h
    · rename_i h1
      split at h
      · rename_i h2
        rcases List.mem_cons.1 hv with rfl | hv
        · exact ⟨lenIs_t h1, h2⟩
        · exact sized_ok h v hv
      · cases h
    · cases h
theorem litF_eq (l : List V) (i : Nat) : litF l i = l.getD i (.tup []) := by
  unfold litF
  rw [lget_eq, List.getD_eq_getElem?_getD]
  cases l[i]? <;> rfl
/-- A new block that stays. -/
theorem WR.stay {w0 : Base} {m : Mem} {H : SW} (h : WR w0 m H) (ob : Obj) : WR w0 { m with F := fun g => m.F g ∨ g = m.W.heap.size, W := m.W.alloc ob } H ∧ Ext m H { m with F := fun g => m.F g ∨ g = m.W.heap.size, W := m.W.alloc ob } H := by
  have hl : Le m { m with F := fun g => m.F g ∨ g = m.W.heap.size, W := m.W.alloc ob } := ⟨fun _ _ h => h, fun _ h => .inl h, fun j hj => heap_alloc_old m.W _ (h.fr j hj)⟩
  refine ⟨⟨h.ov.alloc _, h.dom, h.hdom, fun b g k s hb hg => (h.blk b g k s hb hg).mono hl rfl (heap_alloc_old m.W _ (h.blk b g k s hb hg).lt), fun b g k s hb hg => ⟨(h.high b g k s hb hg).1, fun hF => ?_⟩, h.inj, fun g hg => ?_, fun g hg => ?_, h.uniq, fun g hg => ?_, h.gl.mono hl.F hl.mem⟩, ⟨hl, Nat.le_refl _, fun _ _ => rfl, fun _ _ _ _ _ h => h⟩⟩
  · rcases hF with hF | hF
    · exact (h.high b g k s hb hg).2 hF
    · have := (h.blk b g k s hb hg).lt; omega
  · rcases hg with hg | rfl
    · exact Nat.lt_of_lt_of_le (h.fr g hg) (size_alloc_le _ _)
    · show m.W.heap.size < (m.W.heap.push _).size
      simp
  · obtain ⟨h1, h2, h3⟩ := h.marks g hg
    have hlt := (Array.getElem?_eq_some_iff.1 h3).1
    refine ⟨h1, fun hF => ?_, by rw [← h3]; exact heap_alloc_old m.W _ hlt⟩
    rcases hF with hF | hF
    · exact h2 hF
    · omega
  · rcases hg with hg | rfl
    · exact h.new g hg
    · exact .inr h.ov.size
theorem buildLoose_ok (hT : ∀ t i, tget T t = some i → tiOf P t = some i) {ρ : Env} {o : Oper} {H : SW} {K : V → Tag → Prop} {t : TypeId} {len : Nat} {parts : Array (Nat × Operand)} (ho : o.op = .buildSlice t len parts) (h : match tget T t with
    | some i => match i.k with
      | .slice e sz _ => match indexed 0 parts.toList with
        | true => match tget T e with
          | some ei => match lenIs ei.zero sz with
            | true => evs ρ (opnds parts.toList) fun vs => match lenIs vs len with
              | true => match sized sz vs with
                | true => match Nat.ble len 64 with
                  | true => match Nat.ble sz 64 with
                    | true => K (.sl sz len (litF vs)) .no
                    | false => False
                  | false => False
                | false => False
              | false => False
            | false => False
          | none => False
        | false => False
      | _ => False
    | none => False) : QOK P ρ o H K := by
  split at h
  case h_2 => cases h
  rename_i i hi
  obtain ⟨_, _, _, _, _, _, _, _, h7⟩ := tk_spec (hT _ _ hi)
  split at h
  case h_2 => cases h
  rename_i e sz bytes hk
  rw [hk] at h7
  obtain ⟨hu, einf, hei, hesz, _⟩ := tk_slice h7
  split at h
  case h_2 => cases h
  rename_i hidx
  split at h
  case h_2 => cases h
  rename_i ei hti
  obtain ⟨inf, z, h1, h2, h3, h4, h5, h6, _⟩ := tk_spec (hT _ _ hti)
  obtain rfl : inf = einf := Option.some.inj (h1.symm.trans hei)
  split at h
  case h_2 => cases h
  rename_i hzl
  have hzl := lenIs_t hzl
  obtain ⟨vs, h, hvl, hvs⟩ := evs_ok h
  split at h
  case h_2 => cases h
  rename_i hlen
  have hlen := lenIs_t hlen
  split at h
  case h_2 => cases h
  rename_i hsized
  split at h
  case h_2 => cases h
  rename_i hbig1
  split at h
  case h_2 => cases h
  rename_i hbig2
  have hbig : len * sz ≤ 16777216 := Nat.le_trans (Nat.mul_le_mul (ble_t hbig1) (ble_t hbig2)) (by decide)
  refine ⟨_, .no, h, fun _ e => (by cases e), fun w0 H2 _ m a hr hw => ?_⟩
  have hrel : LR m vs ((opnds parts.toList).map a.eval) := by
    refine evs_rel hvl hvs (fun x hx => ?_) hr
    have : parts.toList = _ := indexed_ok hidx
    simp only [ho, Op.operands]
    refine List.mem_toArray.2 (List.mem_map.2 ?_)
    have hp : ∀ (l : List (Nat × Operand)), x ∈ opnds l → ∃ p ∈ l, p.2 = x := by
      intro l
      induction l with
      | nil => intro h; cases h
      | cons q l ih =>
        intro h
        obtain ⟨qi, qx⟩ := q
        simp only [opnds, List.mem_cons] at h
        rcases h with rfl | h
        · exact ⟨_, List.mem_cons_self, rfl⟩
        · obtain ⟨p, hp, rfl⟩ := ih h
          exact ⟨p, by simp [hp], rfl⟩
    exact hp _ hx
  have hcs : ∀ x ∈ opnds parts.toList, (a.eval x).cells.size = sz := fun x hx => by
    obtain ⟨j, hj⟩ := List.getElem?_of_mem hx
    have hjl : j < vs.length := by rw [hvl]; exact (List.getElem?_eq_some_iff.1 hj).1
    have hv := hrel.2 j vs[j] (a.eval x) (by simp [hjl]) (by simp [hj])
    have := hv.cells.1
    rw [(sized_ok hsized vs[j] (by simp)).1] at this
    simpa using this.symm
  have hop : (opnds parts.toList).length = len := by rw [← hvl, hlen]
  let zs : Array Value := (Array.range (len * sz)).map (z.cells[· % z.cells.size]!)
  obtain ⟨ds, f1, f2, _, f4⟩ := fill_indexed sz a.eval (opnds parts.toList) 0 (if len * sz = 0 then #[] else zs) hcs (by
    rw [Nat.zero_add, hop]; split
    · rename_i h0; simp [h0]
    · simp [zs])
  have hdsz : ds.size = len * sz := by
    rw [f2]; split
    · rename_i h0; simp [h0]
    · simp [zs]
  have hpl : parts.toList.map (fun p => (p.1, a.eval p.2)) = (opnds parts.toList).mapIdx fun i x => (0 + i, a.eval x) := by
    conv => lhs; rw [indexed_ok hidx]
    apply List.ext_getElem?; intro i
    simp only [Nat.zero_add, List.getElem?_map, List.getElem?_mapIdx, Option.map_map]
    rfl
  have hrow : RowR m sz len (litF vs) ds.toList := by
    refine ⟨fun i => ((opnds parts.toList).map a.eval).getD i undef, fun i hi => ?_⟩
    obtain ⟨x, hx⟩ : ∃ x, (opnds parts.toList)[i]? = some x := ⟨(opnds parts.toList)[i], by simp [hop, hi]⟩
    have hjl : i < vs.length := by omega
    have hv := hrel.2 i vs[i] (a.eval x) (by simp [hjl]) (by simp [hx])
    have e1 : ((opnds parts.toList).map a.eval).getD i undef = a.eval x := by rw [List.getD_eq_getElem?_getD]; simp [hx]
    have e2 : litF vs i = vs[i] := by rw [litF_eq, List.getD_eq_getElem?_getD]; simp [hjl]
    show VR m (litF vs i) (((opnds parts.toList).map a.eval).getD i undef) ∧ (((opnds parts.toList).map a.eval).getD i undef).cells.size = sz ∧ ∀ (j : Nat) (u : Value), (((opnds parts.toList).map a.eval).getD i undef).cells[j]? = some u → _
    rw [e1, e2]
    refine ⟨hv, hcs x (List.mem_of_getElem? hx), fun j u hu => ⟨?_, ?_⟩⟩
    · have := f4 i x hx j u hu
      rw [Nat.zero_add] at this
      rw [Array.getElem?_toList]; exact this
    · exact hv.cells.ones (sized_ok hsized vs[i] (by simp)).2 u (by rw [← Array.getElem?_toList] at hu; exact List.mem_of_getElem? hu)
  obtain ⟨p1, p2⟩ := hw.stay (.cells ds e)
  refine ⟨.slice (some ⟨m.W.heap.size, 0, none⟩) len len, _, ?_, ?_, p1, p2, rfl⟩
  · subst hesz
    have hle' : ¬ 16777216 < len * inf.size := by omega
    rw [← hpl] at f1
    by_cases h0 : len * inf.size = 0
    · rw [if_pos h0] at f1
      have e0 : Array.range 0 = #[] := rfl
      simp [execOp, ho, Instr.buildSlice, run_underlying hu, sizeOf, typeInfo, hei, h0, e0, f1, newRow]
    · rw [if_neg h0] at f1
      simp only [zs] at f1
      simp only [execOp, ho, Instr.buildSlice, Sem.run_bind, run_underlying hu, sizeOf, typeInfo, zeroValue, Result.andThen_ok]
      simp [hei, hle', h0, h4, f1, newRow]
  · obtain ⟨us, hus⟩ := hrow
    refine VR.sl us (Nat.le_refl _) (.inr rfl) (fun i hi => (hus i hi).1.mono p2.toLe) (fun i hi => (hus i hi).2.1) fun i hi j u hu => ?_
    obtain ⟨q1, q2⟩ := (hus i hi).2.2 j u hu
    refine ⟨?_, q2⟩
    show (m.W.alloc (.cells ds e)).cell? _ = _
    simp only [World.cell?, heap_alloc_new m.W]
    rw [Array.getElem?_toList] at q1
    simpa using q1
theorem buildSlice_ok (hT : ∀ t i, tget T t = some i → tiOf P t = some i) {ρ : Env} {o : Oper} {H : SW} {K : V → SW → Tag → Prop} {t : TypeId} {len : Nat} {parts : Array (Nat × Operand)} (ho : o.op = .buildSlice t len parts) (h : match tget T t with
    | some i => match i.k with
      | .slice e sz _ => match indexed 0 parts.toList with
        | true => match tget T e with
          | some ei => match lenIs ei.zero sz with
            | true => evs ρ (opnds parts.toList) fun vs => match lenIs vs len with
              | true => match sized sz vs with
                | true => match Nat.ble len 64 with
                  | true => match Nat.ble sz 64 with
                    | true => pushK H (.row sz len (litF vs) e) fun b H' => K (.own b sz 0 len) H' .no
                    | false => False
                  | false => False
                | false => False
              | false => False
            | false => False
          | none => False
        | false => False
      | _ => False
    | none => False) : EOK P ρ o H K := by
  split at h
  case h_2 => cases h
  rename_i i hi
  obtain ⟨_, _, _, _, _, _, _, _, h7⟩ := tk_spec (hT _ _ hi)
  split at h
  case h_2 => cases h
  rename_i e sz bytes hk
  rw [hk] at h7
  obtain ⟨hu, einf, hei, hesz, _⟩ := tk_slice h7
  split at h
  case h_2 => cases h
  rename_i hidx
  split at h
  case h_2 => cases h
  rename_i ei hti
  obtain ⟨inf, z, h1, h2, h3, h4, h5, h6, _⟩ := tk_spec (hT _ _ hti)
  obtain rfl : inf = einf := Option.some.inj (h1.symm.trans hei)
  split at h
  case h_2 => cases h
  rename_i hzl
  have hzl := lenIs_t hzl
  obtain ⟨vs, h, hvl, hvs⟩ := evs_ok h
  split at h
  case h_2 => cases h
  rename_i hlen
  have hlen := lenIs_t hlen
  split at h
  case h_2 => cases h
  rename_i hsized
  split at h
  case h_2 => cases h
  rename_i hbig1
  split at h
  case h_2 => cases h
  rename_i hbig2
  have hbig : len * sz ≤ 16777216 := Nat.le_trans (Nat.mul_le_mul (ble_t hbig1) (ble_t hbig2)) (by decide)
  refine ⟨_, _, _, pushK_ok h, fun b hb _ => get_push_old hb, StepE.of (by simp [ho]) fun w0 m a hr hw => ?_⟩
  have hrel : LR m vs ((opnds parts.toList).map a.eval) := by
    refine evs_rel hvl hvs (fun x hx => ?_) hr
    have : parts.toList = _ := indexed_ok hidx
    simp only [ho, Op.operands]
    refine List.mem_toArray.2 (List.mem_map.2 ?_)
    have hp : ∀ (l : List (Nat × Operand)), x ∈ opnds l → ∃ p ∈ l, p.2 = x := by
      intro l
      induction l with
      | nil => intro h; cases h
      | cons q l ih =>
        intro h
        obtain ⟨qi, qx⟩ := q
        simp only [opnds, List.mem_cons] at h
        rcases h with rfl | h
        · exact ⟨_, List.mem_cons_self, rfl⟩
        · obtain ⟨p, hp, rfl⟩ := ih h
          exact ⟨p, by simp [hp], rfl⟩
    exact hp _ hx
  have hcs : ∀ x ∈ opnds parts.toList, (a.eval x).cells.size = sz := fun x hx => by
    obtain ⟨j, hj⟩ := List.getElem?_of_mem hx
    have hjl : j < vs.length := by rw [hvl]; exact (List.getElem?_eq_some_iff.1 hj).1
    have hv := hrel.2 j vs[j] (a.eval x) (by simp [hjl]) (by simp [hj])
    have := hv.cells.1
    rw [(sized_ok hsized vs[j] (by simp)).1] at this
    simpa using this.symm
  have hop : (opnds parts.toList).length = len := by rw [← hvl, hlen]
  let zs : Array Value := (Array.range (len * sz)).map (z.cells[· % z.cells.size]!)
  obtain ⟨ds, f1, f2, _, f4⟩ := fill_indexed sz a.eval (opnds parts.toList) 0 (if len * sz = 0 then #[] else zs) hcs (by
    rw [Nat.zero_add, hop]; split
    · rename_i h0; simp [h0]
    · simp [zs])
  have hdsz : ds.size = len * sz := by
    rw [f2]; split
    · rename_i h0; simp [h0]
    · simp [zs]
  have hpl : parts.toList.map (fun p => (p.1, a.eval p.2)) = (opnds parts.toList).mapIdx fun i x => (0 + i, a.eval x) := by
    conv => lhs; rw [indexed_ok hidx]
    apply List.ext_getElem?; intro i
    simp only [Nat.zero_add, List.getElem?_map, List.getElem?_mapIdx, Option.map_map]
    rfl
  have hrow : RowR m sz len (litF vs) ds.toList := by
    refine ⟨fun i => ((opnds parts.toList).map a.eval).getD i undef, fun i hi => ?_⟩
    obtain ⟨x, hx⟩ : ∃ x, (opnds parts.toList)[i]? = some x := ⟨(opnds parts.toList)[i], by simp [hop, hi]⟩
    have hjl : i < vs.length := by omega
    have hv := hrel.2 i vs[i] (a.eval x) (by simp [hjl]) (by simp [hx])
    have e1 : ((opnds parts.toList).map a.eval).getD i undef = a.eval x := by rw [List.getD_eq_getElem?_getD]; simp [hx]
    have e2 : litF vs i = vs[i] := by rw [litF_eq, List.getD_eq_getElem?_getD]; simp [hjl]
    show VR m (litF vs i) (((opnds parts.toList).map a.eval).getD i undef) ∧ (((opnds parts.toList).map a.eval).getD i undef).cells.size = sz ∧ ∀ (j : Nat) (u : Value), (((opnds parts.toList).map a.eval).getD i undef).cells[j]? = some u → _
    rw [e1, e2]
    refine ⟨hv, hcs x (List.mem_of_getElem? hx), fun j u hu => ⟨?_, ?_⟩⟩
    · have := f4 i x hx j u hu
      rw [Nat.zero_add] at this
      rw [Array.getElem?_toList]; exact this
    · exact hv.cells.ones (sized_ok hsized vs[i] (by simp)).2 u (by rw [← Array.getElem?_toList] at hu; exact List.mem_of_getElem? hu)
  obtain ⟨p1, p2⟩ := push_row hw (C := len) (W' := m.W.alloc (.cells ds e)) (hw.ov.alloc _) (fun j hj => heap_alloc_old m.W _ hj) (size_alloc_le _ _) (heap_alloc_new m.W _) hdsz (Nat.le_refl _) hrow
  refine ⟨.slice (some ⟨m.W.heap.size, 0, none⟩) len len, _, .inl ?_, p1, p2, rfl, ?_⟩
  · subst hesz
    have hle' : ¬ 16777216 < len * inf.size := by omega
    rw [← hpl] at f1
    by_cases h0 : len * inf.size = 0
    · rw [if_pos h0] at f1
      have e0 : Array.range 0 = #[] := rfl
      simp [execOp, ho, Instr.buildSlice, run_underlying hu, sizeOf, typeInfo, hei, h0, e0, f1, newRow, memNew]
    · rw [if_neg h0] at f1
      simp only [zs] at f1
      simp only [execOp, ho, Instr.buildSlice, Sem.run_bind, run_underlying hu, sizeOf, typeInfo, zeroValue, Result.andThen_ok]
      simp [hei, hle', h0, h4, f1, newRow, memNew]
  · have := VR.own (m := memNew m H len (m.W.alloc (.cells ds e))) (b := H.n) (sz := sz) (off := 0) (n := len) (upd_self _ _ _) (by omega)
    simpa using this

theorem zeroElem_ok {m : Mem} {i : TI} {z : Value} {sz : Nat} (_h5 : z.cells.toList = i.zero) (h6 : i.zero.all Value.oneCell' = true) (hs : (zeroElem i).cells.length = sz) (hzl : i.zero.length = sz) :
    ∃ u : Value, VR m (zeroElem i) u ∧ u.cells = i.zero.toArray := by
  have one : ∀ (w : Value), i.zero = [w] → VR m (V.sc w) w ∧ w.cells = i.zero.toArray := fun w hw => by
    rw [hw] at h6
    have h1 : w.oneCell' = true := by simpa using h6
    refine ⟨.sc h1, ?_⟩
    rw [hw]
    cases w <;> first | rfl | cases h1
  have two : ∀ (v : V), v = (match i.zero with | [z] => .sc z | _ => .tup []) → v.cells.length = sz → ∃ u : Value, VR m v u ∧ u.cells = i.zero.toArray := fun v hv hs => by
    split at hv
    · rename_i w hw; subst hv; exact ⟨w, one w hw⟩
    · rename_i hne
      subst hv
      simp at hs
      obtain ⟨w, hw⟩ := List.length_eq_one_iff.1 (hzl.trans hs.symm)
      exact absurd hw (hne w)
  have agg : ∃ u : Value, VR m (.agg (lsc i.zero)) u ∧ u.cells = i.zero.toArray := ⟨.agg i.zero.toArray, VR.aggL (by simpa using lsc_ok h6), rfl⟩
  have hz : (∀ (v : V), v = zeroElem i → v.cells.length = sz → ∃ u : Value, VR m v u ∧ u.cells = i.zero.toArray) := by
    intro v hv hs
    unfold zeroElem at hv
    split at hv
    · exact two v hv hs
    · exact two v hv hs
    · subst hv; exact agg
  exact hz _ rfl hs
theorem zeros_get {z : Array Value} {N sz : Nat} (hz : z.size = sz) {p : Nat} (hp : p < N) (hs : 0 < sz) : ((Array.range N).map (z[· % z.size]!))[p]? = z[p % sz]? := by
  have h1 : p % sz < z.size := by rw [hz]; exact Nat.mod_lt _ hs
  simp [hp, hz]
  rw [getElem!_pos z _ h1, Array.getElem?_eq_getElem h1]
theorem makeSlice_ok (hT : ∀ t i, tget T t = some i → tiOf P t = some i) {ρ : Env} {o : Oper} {H : SW} {K : V → SW → Tag → Prop} {t : TypeId} {l c : Operand} (ho : o.op = .makeSlice t l c) (h : match tget T t with
    | some i => match i.k with
      | .slice e sz bytes => match tget T e with
        | some ei => match lenIs (zeroElem ei).cells sz with
          | true => match lenIs ei.zero sz with
            | true => match ones (zeroElem ei).cells with
              | true => match ρ l with
                | some (.sc (.int .i64 n)) => match ρ c with
                  | some (.sc (.int .i64 cp)) => ob (0 ≤ n ∧ n ≤ cp ∧ bytes * cp ≤ 2 ^ 40 ∧ cp < 2 ^ 40) (pushK H (.row sz (toN n) (fun _ => zeroElem ei) e) fun b H' => K (.own b sz 0 (toN n)) H' .no)
                  | _ => False
                | _ => False
              | false => False
            | false => False
          | false => False
        | none => False
      | _ => False
    | none => False) : EOK P ρ o H K := by
  split at h
  case h_2 => cases h
  rename_i i hi
  obtain ⟨_, _, _, _, _, _, _, _, h7⟩ := tk_spec (hT _ _ hi)
  split at h
  case h_2 => cases h
  rename_i e sz bytes hk
  rw [hk] at h7
  obtain ⟨hu, einf, hei, hesz, hebytes⟩ := tk_slice h7
  split at h
  case h_2 => cases h
  rename_i ei hti
  obtain ⟨inf, z, h1, h2, h3, h4, h5, h6, _⟩ := tk_spec (hT _ _ hti)
  obtain rfl : inf = einf := Option.some.inj (h1.symm.trans hei)
  split at h
  case h_2 => cases h
  rename_i hz1
  split at h
  case h_2 => cases h
  rename_i hz2
  split at h
  case h_2 => cases h
  rename_i hones
  have hz1 := lenIs_t hz1
  have hz2 := lenIs_t hz2
  split at h
  case h_2 => cases h
  rename_i n hl
  split at h
  case h_2 => cases h
  rename_i cp hc
  obtain ⟨⟨b1, b2, b3, b4⟩, h⟩ := h
  refine ⟨_, _, _, pushK_ok h, fun b hb _ => get_push_old hb, StepE.of (by simp [ho]) fun w0 m a hr hw => ?_⟩
  have hl' := (hr l (by simp [ho, Op.operands]) _ hl).of_sc
  have hc' := (hr c (by simp [ho, Op.operands]) _ hc).of_sc
  have hzsz : z.cells.size = sz := by rw [← hz2, ← h5]; simp
  let zs : Array Value := (Array.range (cp.toNat * sz)).map (z.cells[· % z.cells.size]!)
  obtain ⟨u, hu1, hu2⟩ := zeroElem_ok (m := m) h5 h6 hz1 hz2
  have hrow : RowR m sz (toN n) (fun _ => zeroElem ei) (if cp.toNat * sz = 0 then #[] else zs).toList := by
    refine ⟨fun _ => u, fun i hi => ⟨hu1, by rw [hu2]; simpa using hz2, fun j w hj => ?_⟩⟩
    have hj' : j < sz := by rw [hu2] at hj; have := (Array.getElem?_eq_some_iff.1 hj).1; simpa [hz2] using this
    rw [toN_eq] at hi
    have hic : i + 1 ≤ cp.toNat := by omega
    have hlt : i * sz + j < cp.toNat * sz := by
      have := Nat.mul_le_mul_right sz hic
      rw [Nat.add_mul] at this; omega
    rw [if_neg (by omega), Array.getElem?_toList]
    refine ⟨?_, ?_⟩
    · simp only [zs]
      rw [zeros_get hzsz hlt (by omega)]
      have : (i * sz + j) % sz = j := by rw [Nat.mul_comm, Nat.mul_add_mod]; exact Nat.mod_eq_of_lt hj'
      rw [this]
      rw [hu2, ← h5] at hj
      simpa using hj
    · exact hu1.cells.ones hones w (by rw [← Array.getElem?_toList] at hj; exact List.mem_of_getElem? hj)
  obtain ⟨p1, p2⟩ := push_row hw (C := cp.toNat) (W' := m.W.alloc (.cells (if cp.toNat * sz = 0 then #[] else zs) e)) (hw.ov.alloc _) (fun j hj => heap_alloc_old m.W _ hj) (size_alloc_le _ _) (heap_alloc_new m.W _) (by
    split
    · rename_i h0; simp [h0]
    · simp [zs]) (by rw [toN_eq]; omega) hrow
  refine ⟨.slice (some ⟨m.W.heap.size, 0, none⟩) n.toNat cp.toNat, _, .inl ?_, p1, p2, rfl, ?_⟩
  · have wr : ∀ n : Int, 0 ≤ n → n < 2 ^ 40 → IntKind.i64.wrap n = n := fun n a b => by simp [IntKind.wrap, IntKind.bits, IntKind.signed]; omega
    have hlw : IntKind.i64.wrap n = n := wr n b1 (by omega)
    have hcw : IntKind.i64.wrap cp = cp := wr cp (by omega) b4
    have h5' : ¬ (281474976710656 : Int) < (inf.bytes : Int) * cp := by rw [hebytes]; omega
    have h6' : ¬ cp < 0 := by omega
    have h7' : ¬ n < 0 := by omega
    have h8' : ¬ cp < n := by omega
    subst hesz
    by_cases h0 : cp.toNat * inf.size = 0
    · have e0 : Array.range 0 = #[] := rfl
      simp [execOp, ho, Instr.makeSlice, run_underlying hu, hl', hc', asInt, asIntOf, hlw, hcw, sizeOf, typeInfo, hei, h0, e0, h5', h6', h7', h8', newRow, run_askRoom, memNew]
    · simp [execOp, ho, Instr.makeSlice, run_underlying hu, hl', hc', asInt, asIntOf, hlw, hcw, sizeOf, typeInfo, zeroValue, hei, h4, h0, h5', h6', h7', h8', newRow, run_askRoom, memNew, zs]
  · have := VR.own (m := memNew m H cp.toNat (m.W.alloc (.cells (if cp.toNat * sz = 0 then #[] else zs) e))) (b := H.n) (sz := sz) (off := 0) (n := n.toNat) (upd_self _ _ _) (by omega)
    rw [toN_eq]
    simpa using this

/-- A row's cells are written. -/
theorem write_row {w0 : Base} {m : Mem} {H : SW} (hw : WR w0 m H) {b g C : Nat} (hb : m.φ b = some (g, C)) {s0 s : SB} (h0 : H.get b = some s0) {cur : Array Value} {t : TypeId} (_hg : m.W.heap[g]? = some (.cells cur t (0, 0))) (ds : Array Value)
    (hs : SBR { m with W := m.W.setRow g ds } g C s) : WR w0 { m with W := m.W.setRow g ds } (H.put b s) ∧ Ext m H { m with W := m.W.setRow g ds } (H.put b s) := by
  refine hw.write hb h0 ?_ (fun j hj => setRow_other m.W g j _ hj) (by rw [setRow_size]; exact Nat.le_refl _) hs
  exact .of ⟨by simp [World.setRow, hw.ov.below.os], by simp [World.setRow, hw.ov.below.tape], by simp [World.setRow, hw.ov.below.output], by rw [setRow_size]; exact hw.ov.below.size, fun j hj => by
    rw [setRow_other m.W g j _ (by have := (hw.high b g C s0 hb h0).1; omega)]; exact hw.ov.below.block j hj⟩
theorem leSet {w0 : Base} {m : Mem} {H : SW} (hw : WR w0 m H) {b g C : Nat} (hb : m.φ b = some (g, C)) {s0 : SB} (h0 : H.get b = some s0) (ds : Array Value) : Le m { m with W := m.W.setRow g ds } :=
  ⟨fun _ _ h => h, fun _ h => h, fun j hj => setRow_other m.W g j _ (by rintro rfl; exact (hw.high b _ C s0 hb h0).2 hj)⟩
theorem run_store {t : TypeId} {i : TI} (ht : tiOf P t = some i) {o : Oper} {x y : Operand} (ho : o.op = .store t x y) {a : Act} {g oo : Nat} (hx : a.eval x = .pointer (some ⟨g, oo, none⟩)) {ws : List Value} (hy : (a.eval y).cells.toList = ws) (hsz : ws.length = i.size)
    {cur : Array Value} {t' : TypeId} {W : World} (hg : W.heap[g]? = some (.cells cur t' (0, 0))) (hle : oo + ws.length ≤ cur.size) (h1 : ∀ u ∈ ws, u.oneCell' = true) :
    (execOp a.eval o).run P W = .ok .skip (W.setRow g (lwrite cur.toList oo ws).toArray) := by
  obtain ⟨inf, z, i1, i2, _⟩ := tk_spec ht
  have hst := run_storeCells_at (P := P) g oo t' ws 0 cur W hg (by simpa using hle) h1
  simp only [Nat.add_zero] at hst
  rw [lwrite_eq _ _ _ (by simpa using hle)]
  have hcs : (a.eval y).cells.size = inf.size := by rw [i2, ← hsz, ← hy]; simp
  simp [execOp, ho, Instr.storeAt, Instr.sureAddr, hx, storeVar, sizeOf, typeInfo, i1, hcs, hy, hst]
theorem get_put_old {H : SW} {s : SB} {b c : Nat} (h : c ≠ b) : (H.put b s).get c = H.get c := by rw [SW.get_put, if_neg (fun e => h e.1)]

theorem store_ok (hT : ∀ t i, tget T t = some i → tiOf P t = some i) {ρ : Env} {o : Oper} {H : SW} {K : V → SW → Tag → Prop} {t : TypeId} {a x : Operand} (ho : o.op = .store t a x) (h : match tget T t with
    | some i => match ρ x with
      | some v => match lenIs v.cells i.size with
        | true => match ones v.cells with
          | true => match ρ a with
            | some (.ptr b off) => match hget H.l b with
              | some (.cells cs t') => match lenGe cs (Nat.add off i.size) with
                | true => spineK (lwrite cs off v.cells) fun cs => spineH (hput H.l b (.cells cs t')) fun l => K (.tup []) ⟨H.n, l⟩ (.wr b)
                | false => False
              | _ => False
            | some (.pe b sz k off) => match hget H.l b with
              | some (.row sz' n e t') => match Nat.beq sz sz' with
                | true => match Nat.beq i.size sz with
                  | true => match off with
                    | 0 => ob (k < n) (spineH (hput H.l b (.row sz n (setF e k v) t')) fun l => K (.tup []) ⟨H.n, l⟩ (.wr b))
                    | Nat.succ _ => False
                  | false => ob (k < n) (match e k with
                    | .agg cs => match lenGe cs (Nat.add off i.size) with
                      | true => spineK (lwrite cs off v.cells) fun cs => spineH (hput H.l b (.row sz n (setF e k (.agg cs)) t')) fun l => K (.tup []) ⟨H.n, l⟩ (.wr b)
                      | false => False
                    | _ => False)
                | false => False
              | _ => False
            | _ => False
          | false => False
        | false => False
      | none => False
    | none => False) : EOK P ρ o H K := by
  split at h
  case h_2 => cases h
  rename_i i hi
  have hti := hT _ _ hi
  split at h
  case h_2 => cases h
  rename_i v hx
  split at h
  case h_2 => cases h
  rename_i hsz
  have hsz := lenIs_t hsz
  split at h
  case h_2 => cases h
  rename_i hones
  have fr : ∀ (b c : Nat) (s : SB), c < H.n → (Tag.wr b ≠ .wr c ∧ Tag.wr b ≠ .all) → (H.put b s).get c = H.get c := fun b c s _ hne => get_put_old fun e => hne.1 (by rw [e])
  -- an element of a row is written
  have elem : ∀ (b sz k off n : Nat) (e : Nat → V) (t' : TypeId) (v2 : V), ρ a = some (.pe b sz k off) → hget H.l b = some (.row sz n e t') → k < n → (∀ (m : Mem) (u ux : Value), VR m (e k) u → u.cells.size = sz → VR m v ux → off + ux.cells.toList.length ≤ sz ∧ ∃ u2, VR m v2 u2 ∧ u2.cells.toList = lwrite u.cells.toList off ux.cells.toList) →
      StepE P ρ o H (.tup []) (H.put b (.row sz n (setF e k v2) t')) := by
    intro b sz k off n e t' v2 ha hg hkn hv2
    refine StepE.of (by simp [ho]) fun w0 m act hr hw => ?_
    have hav := hr a (by simp [ho, Op.operands]) _ ha
    have hxv0 := hr x (by simp [ho, Op.operands]) _ hx
    have hxv := hxv0.cells
    generalize ea : act.eval a = a' at hav
    cases hav with
    | @pe _ g C _ _ _ hb =>
      obtain ⟨ds, h1, h2, h3, us, h4⟩ := hw.blk b g C _ hb hg
      obtain ⟨k1, k2, k3⟩ := h4 k hkn
      have hws := hxv.1
      obtain ⟨hle, u2, g1, g2⟩ := hv2 m _ _ k1 k2 hxv0
      generalize hwe : (act.eval x).cells.toList = ws at hxv hws hle g2
      have hu2 : u2.cells.size = sz := by
        have := congrArg List.length g2
        rw [lwrite_length] at this
        simpa [k2] using this
      have hkC : k * sz + sz ≤ ds.size := by
        rw [h2]
        have := Nat.mul_le_mul_right sz (show k + 1 ≤ C by omega)
        rw [Nat.add_mul] at this; omega
      have hrun := run_store hti ho ea hwe (by rw [← hws, hsz]) h1 (by omega) (hxv.ones hones)
      have hl := leSet hw hb hg (lwrite ds.toList (k * sz + off) ws).toArray
      obtain ⟨p1, p2⟩ := write_row hw hb hg h1 (lwrite ds.toList (k * sz + off) ws).toArray (s := .row sz n (setF e k v2) t')
        ⟨_, setRow_heap m.W g ds _ t' _ h1, by rw [List.size_toArray, lwrite_length]; simpa using h2, h3, fun j => if j = k then u2 else us j, fun j hj => by
          have hold : ∀ p, p < k * sz + off ∨ k * sz + off + ws.length ≤ p → (lwrite ds.toList (k * sz + off) ws)[p]? = ds.toList[p]? := fun p hp => by
            rw [lwrite_eq _ _ _ (by simp; omega), List.append_assoc]
            rcases hp with hp | hp
            · rw [List.getElem?_append_left (by simp; omega), List.getElem?_take, if_pos hp]
            · rw [List.getElem?_append_right (by simp; omega), List.getElem?_append_right (by simp; omega), List.getElem?_drop]
              congr 1; simp; omega
          by_cases hjk : j = k
          · subst hjk
            simp only [setF, if_true]
            refine ⟨g1.mono hl, hu2, fun q u hq => ?_⟩
            have hq' : q < sz := by rw [← hu2]; exact (Array.getElem?_eq_some_iff.1 hq).1
            rw [← Array.getElem?_toList, g2, lwrite_eq _ _ _ (by simp [k2]; omega)] at hq
            have hold' := hold (j * sz + q)
            show (lwrite ds.toList (j * sz + off) ws)[j * sz + q]? = _ ∧ _
            by_cases c1 : q < off
            · rw [hold' (by omega)]
              rw [List.append_assoc, List.getElem?_append_left (by simp [k2]; omega), List.getElem?_take, if_pos c1, Array.getElem?_toList] at hq
              exact k3 q u hq
            · by_cases c2 : off + ws.length ≤ q
              · rw [hold' (by omega)]
                rw [List.append_assoc, List.getElem?_append_right (by simp [k2]; omega), List.getElem?_append_right (by simp [k2]; omega), List.getElem?_drop] at hq
                have e1 : off + ws.length + (q - (List.take off (us j).cells.toList).length - ws.length) = q := by simp [k2]; omega
                rw [e1, Array.getElem?_toList] at hq
                exact k3 q u hq
              · rw [List.append_assoc, List.getElem?_append_right (by simp [k2]; omega), List.getElem?_append_left (by simp [k2]; omega)] at hq
                rw [lwrite_eq _ _ _ (by simp; omega), List.append_assoc, List.getElem?_append_right (by simp; omega), List.getElem?_append_left (by simp; omega)]
                have e1 : j * sz + q - (List.take (j * sz + off) ds.toList).length = q - (List.take off (us j).cells.toList).length := by simp [k2]; omega
                rw [e1]
                exact ⟨hq, hxv.ones hones u (List.mem_of_getElem? hq)⟩
          · simp only [setF, if_neg hjk]
            obtain ⟨l1, l2, l3⟩ := h4 j hj
            refine ⟨l1.mono hl, l2, fun q u hq => ?_⟩
            have hq' : q < sz := by rw [← l2]; exact (Array.getElem?_eq_some_iff.1 hq).1
            show (lwrite ds.toList (k * sz + off) ws)[j * sz + q]? = _ ∧ _
            rw [hold (j * sz + q) ?_]
            · exact l3 q u hq
            · rcases Nat.lt_or_gt_of_ne hjk with hlt | hgt
              · left
                have := Nat.mul_le_mul_right sz (show j + 1 ≤ k by omega)
                rw [Nat.add_mul] at this; omega
              · right
                have := Nat.mul_le_mul_right sz (show k + 1 ≤ j by omega)
                rw [Nat.add_mul] at this; omega⟩
      exact ⟨undef, _, .inr ⟨hrun, rfl⟩, p1, p2, rfl, VR.undef _⟩
  split at h
  · rename_i b off ha
    split at h
    case h_2 => cases h
    rename_i cs t' hg
    split at h
    case h_2 => cases h
    rename_i hle
    have hle : off + i.size ≤ cs.length := lenGe_t hle
    refine ⟨_, _, _, spineH_ok _ _ (spineK_ok _ _ h), fun c hc hne => fr b c _ hc (by simpa using hne), StepE.of (by simp [ho]) fun w0 m act hr hw => ?_⟩
    have hav := hr a (by simp [ho, Op.operands]) _ ha
    have hxv := (hr x (by simp [ho, Op.operands]) _ hx).cells
    generalize ea : act.eval a = a' at hav
    cases hav with
    | @ptr _ g C _ hb =>
      obtain ⟨ds, h1, h2⟩ := hw.blk b g C _ hb hg
      have hws := hxv.1
      generalize hwe : (act.eval x).cells.toList = ws at hxv hws
      have hds := h2.1
      have hrun := run_store hti ho ea hwe (by rw [← hws, hsz]) h1 (by simp at hds; omega) (hxv.ones hones)
      have hl := leSet hw hb hg (lwrite ds.toList off ws).toArray
      obtain ⟨p1, p2⟩ := write_row hw hb hg h1 (lwrite ds.toList off ws).toArray (s := .cells (lwrite cs off v.cells) t')
        ⟨_, setRow_heap m.W g ds _ t' _ h1, by simpa using (lwrite_rel _ _ _ _ off hxv h2).mono hl⟩
      exact ⟨undef, _, .inr ⟨hrun, rfl⟩, p1, p2, rfl, VR.undef _⟩
  · rename_i b sz k off ha
    split at h
    case h_2 => cases h
    rename_i sz' n e t' hg
    split at h
    case h_2 => cases h
    rename_i hs
    obtain rfl := beq_t hs
    split at h
    · rename_i hsz2
      have hsz2 := beq_t hsz2
      split at h
      case h_2 => cases h
      obtain ⟨hkn, h⟩ := h
      refine ⟨_, _, _, spineH_ok _ _ h, fun c hc hne => fr b c _ hc (by simpa using hne), elem b sz k 0 n e t' v ha hg hkn fun m u ux hu hus hux => ?_⟩
      have h1 := hux.cells.1
      have h2 : ux.cells.toList.length = sz := by rw [← h1, hsz, hsz2]
      refine ⟨by omega, ux, hux, ?_⟩
      rw [lwrite_eq _ _ _ (by rw [h2, Array.length_toList, hus]; omega)]
      have e1 : u.cells.toList.length ≤ 0 + ux.cells.toList.length := by rw [h2, Array.length_toList, hus]; omega
      rw [List.drop_of_length_le e1]; simp
    · obtain ⟨hkn, h⟩ := h
      split at h
      case h_2 => cases h
      rename_i cs hek
      split at h
      case h_2 => cases h
      rename_i hle
      have hle : off + i.size ≤ cs.length := lenGe_t hle
      refine ⟨_, _, _, spineH_ok _ _ (spineK_ok _ _ h), fun c hc hne => fr b c _ hc (by simpa using hne), elem b sz k off n e t' _ ha hg hkn fun m u ux hu hus hux => ?_⟩
      have hws := hux.cells
      rw [hek] at hu
      have hc := hu.cells
      have h1 := hc.1
      simp only [V.cells] at h1
      refine ⟨by rw [← hws.1, ← hus]; simp at h1; omega, .agg (lwrite u.cells.toList off ux.cells.toList).toArray, VR.aggL (by simpa using lwrite_rel _ _ _ _ off hws hc), by simp [Value.cells]⟩
  · cases h

/-! ### Append -/
theorem RowR.app {m : Mem} {sz n1 n2 : Nat} {e1 e2 : Nat → V} {d1 d2 : List Value} (h1 : RowR m sz n1 e1 d1) (hl : d1.length = n1 * sz) (h2 : RowR m sz n2 e2 d2) : RowR m sz (n1 + n2) (appF n1 e1 e2) (d1 ++ d2) := by
  obtain ⟨u1, k1⟩ := h1
  obtain ⟨u2, k2⟩ := h2
  refine ⟨fun i => if i < n1 then u1 i else u2 (i - n1), fun i hi => ?_⟩
  by_cases hlt : i < n1
  · simp only [appF, if_pos hlt]
    obtain ⟨a1, a2, a3⟩ := k1 i hlt
    refine ⟨a1, a2, fun j u hu => ?_⟩
    obtain ⟨b1, b2⟩ := a3 j u hu
    have := (List.getElem?_eq_some_iff.1 b1).1
    exact ⟨by rw [List.getElem?_append_left this]; exact b1, b2⟩
  · simp only [appF, if_neg hlt]
    obtain ⟨a1, a2, a3⟩ := k2 (i - n1) (by omega)
    refine ⟨a1, a2, fun j u hu => ?_⟩
    obtain ⟨b1, b2⟩ := a3 j u hu
    have e : i * sz = n1 * sz + (i - n1) * sz := by rw [← Nat.add_mul]; congr 1; omega
    refine ⟨?_, b2⟩
    rw [List.getElem?_append_right (by omega), hl]
    rw [show i * sz + j - n1 * sz = (i - n1) * sz + j by omega]
    exact b1
theorem RowR.more {m : Mem} {sz n : Nat} {e : Nat → V} {d : List Value} (h : RowR m sz n e d) (x : List Value) : RowR m sz n e (d ++ x) := by
  obtain ⟨us, k⟩ := h
  refine ⟨us, fun i hi => ?_⟩
  obtain ⟨a1, a2, a3⟩ := k i hi
  refine ⟨a1, a2, fun j u hu => ?_⟩
  obtain ⟨b1, b2⟩ := a3 j u hu
  have := (List.getElem?_eq_some_iff.1 b1).1
  exact ⟨by rw [List.getElem?_append_left this]; exact b1, b2⟩
theorem RowR.take {m : Mem} {sz n : Nat} {e : Nat → V} {d : List Value} (h : RowR m sz n e d) : RowR m sz n e (d.take (n * sz)) := by
  obtain ⟨us, k⟩ := h
  refine ⟨us, fun i hi => ?_⟩
  obtain ⟨a1, a2, a3⟩ := k i hi
  refine ⟨a1, a2, fun j u hu => ?_⟩
  obtain ⟨b1, b2⟩ := a3 j u hu
  have hj : j < sz := by rw [← a2]; exact (Array.getElem?_eq_some_iff.1 hu).1
  refine ⟨?_, b2⟩
  rw [List.getElem?_take, if_pos]
  · exact b1
  · have := Nat.mul_le_mul_right sz (show i + 1 ≤ n by omega)
    rw [Nat.add_mul] at this; omega
theorem RowR.nil {m : Mem} {sz : Nat} {e : Nat → V} {d : List Value} : RowR m sz 0 e d := ⟨fun _ => undef, fun i hi => by omega⟩
theorem setCells_setRow {W : World} {g o : Nat} {t : TypeId} {cur : Array Value} {vs : List Value} (h : W.heap[g]? = some (.cells cur t (0, 0))) (hl : o + vs.length ≤ cur.size) (h1 : ∀ v ∈ vs, v.oneCell' = true) :
    W.setCells g o vs = W.setRow g (cur.toList.take o ++ vs ++ cur.toList.drop (o + vs.length)).toArray := by
  have a := run_storeCells_at (P := default) g o t vs 0 cur W h (by simpa using hl) h1
  have b := run_storeCells_cells (P := default) g o vs 0 W (fun j hj => by
    have : o + j < cur.size := by omega
    simp [World.cell?, h, this]) (fun j hj => by simp [World.frozen?, h]) h1
  rw [a] at b
  injection b with _ b
  simpa using b.symm
/-- A row's cells, one after another. -/
theorem row_cells {m : Mem} {sz n : Nat} {e : Nat → V} {us : Nat → Value} {f : Nat → Option Value} (h : ∀ i, i < n → VR m (e i) (us i) ∧ (us i).cells.size = sz ∧ ∀ (j : Nat) (u : Value), (us i).cells[j]? = some u → f (i * sz + j) = some u ∧ u.oneCell' = true) :
    ∃ ds : List Value, ds.length = n * sz ∧ RowR m sz n e ds ∧ (∀ (j : Nat) (u : Value), ds[j]? = some u → f j = some u) ∧ ∀ u ∈ ds, u.oneCell' = true := by
  induction n with
  | zero => exact ⟨[], by simp, RowR.nil, fun j u hu => by simp at hu, fun u hu => by cases hu⟩
  | succ n ih =>
    obtain ⟨ds, h1, ⟨us', h2⟩, h3, h4⟩ := ih fun i hi => h i (by omega)
    obtain ⟨k1, k2, k3⟩ := h n (by omega)
    have hr1 : RowR m sz n e ds := by
      refine ⟨us', h2⟩
    refine ⟨ds ++ (us n).cells.toList, by rw [List.length_append, h1, Array.length_toList, k2, Nat.add_mul, Nat.one_mul], ?_, fun j u hu => ?_, fun u hu => ?_⟩
    · have := hr1.app h1 (n2 := 1) (e2 := fun _ => e n) (d2 := (us n).cells.toList) ⟨fun _ => us n, fun i hi => ⟨k1, k2, fun j u hu => ⟨by
        have : i = 0 := by omega
        subst this
        rw [Nat.zero_mul, Nat.zero_add, Array.getElem?_toList]; exact hu, (k3 j u hu).2⟩⟩⟩
      obtain ⟨w, hw⟩ := this
      refine ⟨w, fun i hi => ?_⟩
      have hh := hw i hi
      have e1 : appF n e (fun _ => e n) i = e i := by
        unfold appF
        split
        · rfl
        · have hin : n = i := by omega
          show e n = e i
          rw [hin]
      rw [e1] at hh
      exact hh
    · rw [List.getElem?_append] at hu
      split at hu
      · exact h3 j u hu
      · rename_i hlt
        rw [Array.getElem?_toList] at hu
        have := (k3 _ u hu).1
        rw [h1] at hlt
        rwa [show n * sz + (j - ds.length) = j by omega] at this
    · rcases List.mem_append.1 hu with hu | hu
      · exact h4 u hu
      · obtain ⟨j, hj⟩ := List.getElem?_of_mem hu
        rw [Array.getElem?_toList] at hj
        exact (k3 j u hj).2
/-- What is appended. -/
theorem srcK_ok {H : SW} {x : V} {K : Nat → Nat → (Nat → V) → Prop} (h : srcK H x K) :
    ∃ sz n e, K sz n e ∧ ∀ (w0 : Base) (m : Mem) (x' : Value) (tx e' : TypeId), WR w0 m H → VR m x x' → P.underlying tx = some (.slice e') → ∃ news, Src P sz tx x' n news m.W ∧ RowR m sz n e news := by
  unfold srcK at h
  split at h
  · rename_i sz n e
    refine ⟨sz, n, e, h, fun w0 m x' tx e' hw hx hk => ?_⟩
    cases hx with
    | @sl _ _ g o c _ us hnc hF hh hss hc =>
      obtain ⟨ds, h1, h2, h3, h4⟩ := row_cells (m := m) (sz := sz) (n := n) (e := e) (us := us) (f := fun j => m.W.cell? ⟨g, o + j, none⟩) fun i hi => ⟨hh i hi, hss i hi, fun j u hu => hc i hi j u hu⟩
      exact ⟨ds, Src.ofSlice m.W hk _ _ _ _ h1 (fun j u hu => by rw [addr_add]; exact h3 j u hu) h4, h2⟩
    | @sl0 _ c _ A =>
      refine ⟨[], ?_, RowR.nil⟩
      cases A with
      | none => exact Src.ofNil m.W hk c
      | some A => exact Src.ofSlice m.W hk A 0 c [] (by simp) (fun j u hu => by simp at hu) (fun u hu => by cases hu)
  · rename_i b sz off n
    split at h
    case h_2 => cases h
    rename_i sz' n' e t hg
    split at h
    case h_2 => cases h
    rename_i hs
    obtain rfl := beq_t hs
    obtain ⟨hle, h⟩ := h
    have h' : K sz n (fun j => e (off + j)) := by
      split at h
      · simpa using h
      · exact h
    refine ⟨sz, n, _, h', fun w0 m x' tx e' hw hx hk => ?_⟩
    cases hx with
    | @own _ g C _ _ _ hb hle2 =>
      obtain ⟨ds, d1, d2, d3, us, d4⟩ := hw.blk b g C _ hb hg
      obtain ⟨ds', h1, h2, h3, h4⟩ := row_cells (m := m) (sz := sz) (n := n) (e := fun j => e (off + j)) (us := fun j => us (off + j)) (f := fun j => ds.toList[off * sz + j]?) fun i hi => by
        obtain ⟨a1, a2, a3⟩ := d4 (off + i) (by omega)
        refine ⟨a1, a2, fun j u hu => ?_⟩
        obtain ⟨b1, b2⟩ := a3 j u hu
        exact ⟨by rw [← Nat.add_assoc, ← Nat.add_mul]; exact b1, b2⟩
      refine ⟨ds', Src.ofSlice m.W hk _ _ _ _ h1 (fun j u hu => ?_) h4, h2⟩
      rw [addr_add]
      have := h3 j u hu
      rw [Array.getElem?_toList] at this
      simp only [World.cell?, d1]
      simpa using this
    | own0 =>
      exact ⟨[], Src.ofNil m.W hk 0, RowR.nil⟩
  · cases h

theorem append_ok (hT : ∀ t i, tget T t = some i → tiOf P t = some i) {ρ : Env} {o : Oper} {H : SW} {K : V → SW → Tag → Prop} {c : Call} (ho : o.op = .call c) (hb : c.callee = .builtin .append) (h : match c.args.toList with
      | [s, x] => match c.argTypes.toList with
        | [t, tx] => match ρ s with
          | some s => match ρ x with
            | some x => appendW T s t x tx H K
            | none => False
          | none => False
        | _ => False
      | _ => False) : EOK P ρ o H K := by
  obtain ⟨callee, ⟨args⟩, ⟨ts⟩⟩ := c
  simp only at hb h
  subst hb
  split at h
  case h_2 => cases h
  rename_i xs xx
  split at h
  case h_2 => cases h
  rename_i t tx
  split at h
  case h_2 => cases h
  rename_i s hs
  split at h
  case h_2 => cases h
  rename_i x hx
  unfold appendW at h
  split at h
  case h_2 => cases h
  rename_i ti hti
  obtain ⟨_, _, _, _, _, _, _, _, h7⟩ := tk_spec (hT _ _ hti)
  split at h
  case h_2 => cases h
  rename_i e sz bytes hk
  rw [hk] at h7
  obtain ⟨hu, einf, hei, hesz, heb⟩ := tk_slice h7
  split at h
  case h_2 => cases h
  rename_i htx
  obtain ⟨e', hux⟩ := isSl_ok hT htx
  split at h
  case h_2 => cases h
  rename_i ei htei
  obtain ⟨inf, z, i1, i2, i3, i4, i5, i6, _⟩ := tk_spec (hT _ _ htei)
  obtain rfl : inf = einf := Option.some.inj (i1.symm.trans hei)
  split at h
  case h_2 => cases h
  rename_i hz2
  have hz2 := lenIs_t hz2
  split at h
  case h_2 => cases h
  rename_i hb0
  have hzsize : z.cells.size = sz := by rw [← hz2, ← i5]; simp
  have goal : ∀ (a : Act) v' (W W' : World), (Builtin.append_ #[t, tx] o.type #[a.eval xs, a.eval xx]).run P W = .ok v' W' → (execOp a.eval o).run P W = .ok (.value v') W' := fun a v' W W' hr => by
    simp [execOp, ho, resolve, invoke, builtin, hr]
  -- what the growing arm leaves
  have grow : ∀ (w0 : Base) (m : Mem) (a : Act) (H1 : SW) (A : Option Addr) (n1 cap n2 : Nat) (e1 e2 : Nat → V) (olds news : List Value), WR w0 m H1 → cap < n1 + n2 → room (n1 + n2) bytes → olds.length = n1 * sz → RowR m sz n1 e1 olds → Src P sz tx (a.eval xx) n2 news m.W → RowR m sz n2 e2 news →
      (Builtin.firstCells inf.size n1 (.slice A n1 cap)).run P m.W.drew = .ok olds.toArray m.W.drew → a.eval xs = .slice A n1 cap → ERun P w0 m a o H1 (.own H1.n sz 0 (n1 + n2)) (H1.push (.row sz (n1 + n2) (appF n1 e1 e2) e)) := by
    intro w0 m a H1 A n1 cap n2 e1 e2 olds news hw hcap hroom holen hold hsrc hnew hfirst hxs
    obtain ⟨r1, r2⟩ := hroom
    have hfit : Builtin.nextslicecap (n1 + n2) cap * inf.bytes ≤ 281474976710656 := growslice_fits hcap (by
      rw [heb]
      have h4 : (4 * (n1 + n2) + 4000) * bytes = 4 * ((n1 + n2) * bytes) + 4000 * bytes := by rw [Nat.add_mul, Nat.mul_assoc]
      omega)
    rw [← hesz] at hsrc
    have hr := run_append_grow_src (P := P) m.W t tx o.type e inf z hu hei i4 A n1 cap olds hfirst (a.eval xx) n2 news hsrc hcap (by omega) hfit
    have hge := grownCap_ge m.W (n1 + n2) cap e
    have hnl := hsrc.newsLen
    rw [hesz] at hnl
    obtain ⟨p1, p2⟩ := push_row hw (C := grownCap m.W (n1 + n2) cap e) (sz := sz) (n := n1 + n2) (e := appF n1 e1 e2) (t := e) (ds := (olds ++ news).toArray ++ Builtin.zeroCells z.cells (grownCap m.W (n1 + n2) cap e - (n1 + n2)))
      (W' := m.W.drew.alloc (.cells ((olds ++ news).toArray ++ Builtin.zeroCells z.cells (grownCap m.W (n1 + n2) cap e - (n1 + n2))) e)) (hw.ov.drew.alloc _)
      (fun j hj => heap_alloc_old m.W.drew _ hj) (size_alloc_le m.W.drew _) (heap_alloc_new m.W.drew _) (by
        rw [Array.size_append, size_zeroCells, hzsize, List.size_toArray, List.length_append, holen, hnl, ← Nat.add_mul, ← Nat.add_mul]
        congr 1; omega) hge (by
        rw [Array.toList_append]
        exact (hold.app holen hnew).more _)
    refine ⟨_, _, .inl (goal a _ _ _ (by rw [hxs]; exact hr)), p1, p2, rfl, ?_⟩
    have := VR.own (m := memNew m H1 (grownCap m.W (n1 + n2) cap e) (m.W.drew.alloc (.cells ((olds ++ news).toArray ++ Builtin.zeroCells z.cells (grownCap m.W (n1 + n2) cap e - (n1 + n2))) e))) (b := H1.n) (sz := sz) (off := 0) (n := n1 + n2) (upd_self _ _ _) (by omega)
    simpa using this
  -- nothing there, nothing comes
  have none : ∀ (w0 : Base) (m : Mem) (a : Act) (H1 : SW) (n1 c n2 : Nat) (e2 : Nat → V) (news : List Value), WR w0 m H1 → n1 = 0 → n2 = 0 → c = 0 → Src P sz tx (a.eval xx) n2 news m.W → a.eval xs = .slice none n1 c → ERun P w0 m a o H1 (.own H1.n sz 0 (n1 + n2)) (H1.push (.row sz (n1 + n2) e2 e)) := by
    intro w0 m a H1 n1 c n2 e2 news hw h1 h2 h3 hsrc hxs
    subst h1 h2 h3
    obtain ⟨p1, p2⟩ := push_nil hw sz e2 e
    refine ⟨.slice none 0 0, m, .inl (goal a _ _ _ ?_), p1, p2, rfl, .own0⟩
    have hnews : news = [] := List.eq_nil_of_length_eq_zero (by simpa using hsrc.newsLen)
    subst hnews
    rw [hxs]
    have s1 := hsrc.len
    have s2 := hsrc.cells
    rw [← hesz] at s2
    rcases hsrc.kind with ⟨e'', hk⟩ | hk <;> simp [Builtin.append_, run_underlying hu, run_underlying hk, sizeOf, typeInfo, hei, s1, s2]
  split at h
  · -- nil
    rename_i n1 c1
    split at h
    case h_2 => cases h
    split at h
    case h_2 => cases h
    obtain ⟨sz2, n2, e2, h, hsrcs⟩ := srcK_ok (P := P) h
    split at h
    case h_2 => cases h
    rename_i hsz2
    obtain rfl := beq_t hsz2
    obtain ⟨hroom, h⟩ := h
    refine ⟨_, _, _, pushK_ok h, fun b hb _ => get_push_old hb, StepE.of (by simp [ho]) fun w0 m a hr hw => ?_⟩
    have hsv := (hr xs (by simp [ho, Op.operands, Call.operands]) _ hs).of_sc
    have hxv := hr xx (by simp [ho, Op.operands, Call.operands]) _ hx
    obtain ⟨news, s1, s2⟩ := hsrcs w0 m _ tx e' hw hxv hux
    rcases Nat.eq_zero_or_pos n2 with h0 | h0
    · have := none w0 m a H 0 0 n2 e2 news hw rfl h0 rfl s1 hsv
      rwa [Nat.zero_add] at this
    · have := grow w0 m a H Option.none 0 0 n2 (fun _ => .tup []) e2 [] news hw (by omega) (by rw [Nat.zero_add]; exact hroom) (by simp) RowR.nil s1 s2 (run_firstCells_none _ _ _ _ _) hsv
      rw [Nat.zero_add] at this
      have e0 : appF 0 (fun _ => .tup []) e2 = e2 := by funext j; simp [appF]
      rwa [e0] at this
  · rename_i b sz1 off n1
    split at h
    case h_2 => cases h
    split at h
    case h_2 => cases h
    rename_i sz' n' e1 t1 hg
    split at h
    case h_2 => cases h
    rename_i q1
    split at h
    case h_2 => cases h
    rename_i q2
    split at h
    case h_2 => cases h
    rename_i q3
    obtain rfl := beq_t q1
    obtain rfl := beq_t q2
    obtain rfl := beq_t q3
    obtain ⟨hn, h⟩ := h
    subst hn
    obtain ⟨sz2, n2, e2, h, hsrcs⟩ := srcK_ok (P := P) h
    split at h
    case h_2 => cases h
    rename_i hsz2
    obtain rfl := beq_t hsz2
    obtain ⟨hroom, h⟩ := h
    refine ⟨_, _, _, pushK_ok (spineH_ok _ _ h), fun c hc hne => ?_, StepE.of (by simp [ho]) fun w0 m a hr hw => ?_⟩
    · rw [get_push_old (H := H.del b) hc, SW.get_del, if_neg]
      rintro rfl; exact hne.1 rfl
    have hsv := hr xs (by simp [ho, Op.operands, Call.operands]) _ hs
    have hxv := hr xx (by simp [ho, Op.operands, Call.operands]) _ hx
    obtain ⟨news, s1, s2⟩ := hsrcs w0 m _ tx e' hw hxv hux
    generalize hxs : a.eval xs = s' at hsv
    cases hsv with
    | own0 =>
      obtain ⟨hk1, hk2⟩ := hw.kill (b := b) (.inr fun cs t e => by
        have e2 : hget H.l b = some (.cells cs t) := e
        rw [hg] at e2; cases e2)
      have base : ERun P w0 m a o (H.del b) (.own (H.del b).n sz 0 (0 + n2)) ((H.del b).push (.row sz (0 + n2) (appF 0 e1 e2) t1)) := by
        rcases Nat.eq_zero_or_pos n2 with h0 | h0
        · exact none w0 m a (H.del b) 0 0 n2 _ news hk1 rfl h0 rfl s1 hxs
        · exact grow w0 m a (H.del b) Option.none 0 0 n2 e1 e2 [] news hk1 (by omega) hroom (by simp) RowR.nil s1 s2 (run_firstCells_none _ _ _ _ _) hxs
      obtain ⟨v', m', r1, r2, r3, r4, r5⟩ := base
      exact ⟨v', m', r1, r2, hk2.trans r3, r4, r5⟩
    | @own _ g C _ _ _ hbb hle =>
      obtain ⟨ds, d1, d2, d3, d4⟩ := hw.blk b g C _ hbb hg
      obtain ⟨hk1, hk2⟩ := hw.kill (b := b) (.inl (by rw [hbb]; simp))
      have hnl := s1.newsLen
      have hlen : (ds.toList.take (n1 * sz)).length = n1 * sz := by
        rw [List.length_take, Array.length_toList, d2]
        exact Nat.min_eq_left (Nat.mul_le_mul_right _ d3)
      have hxs' : a.eval xs = .slice (some ⟨g, 0, Option.none⟩) n1 C := by simpa using hxs
      by_cases hroom2 : n1 + n2 ≤ C
      · -- in place
        have hle2 : n1 * sz + news.length ≤ ds.size := by
          rw [hnl, d2, ← Nat.add_mul]; exact Nat.mul_le_mul_right _ hroom2
        rw [← hesz] at s1
        have hr := run_append_room_src (P := P) m.W t tx o.type t1 inf hu hei g 0 n1 C (a.eval xx) n2 news s1 hroom2
          (fun j hj => by
            have : 0 + n1 * inf.size + j < ds.size := by rw [hesz]; omega
            simp only [World.cell?, d1]
            simp
            omega) (fun j hj => by simp [World.frozen?, d1])
        rw [setCells_setRow d1 (by rw [hesz]; omega) s1.one] at hr
        rw [hesz, Nat.zero_add] at hr
        have hl := leSet hw hbb hg (ds.toList.take (n1 * sz) ++ news ++ ds.toList.drop (n1 * sz + news.length)).toArray
        have hov : Ov w0.W (m.W.setRow g (ds.toList.take (n1 * sz) ++ news ++ ds.toList.drop (n1 * sz + news.length)).toArray) := .of ⟨by simp [World.setRow, hw.ov.below.os], by simp [World.setRow, hw.ov.below.tape], by simp [World.setRow, hw.ov.below.output], by rw [setRow_size]; exact hw.ov.below.size, fun j hj => by
          rw [setRow_other m.W g j _ (by have := (hw.high b g C _ hbb hg).1; omega)]; exact hw.ov.below.block j hj⟩
        have hnD : g ∉ m.D.d := fun hD => by rw [(hw.marks g hD).2.2] at d1; cases d1
        have hle3 : Le m { m with φ := upd m.φ (H.del b).n (g, C), W := m.W.setRow g (ds.toList.take (n1 * sz) ++ news ++ ds.toList.drop (n1 * sz + news.length)).toArray } := ⟨fun c q hc => by
          have := hw.dom c q hc
          show upd m.φ H.n (g, C) c = some q
          simp only [Fx.upd]; rw [if_neg (by omega)]; exact hc, fun _ h => h, hl.mem⟩
        obtain ⟨p1, p2⟩ := hk1.pushAt (s := .row sz (n1 + n2) (appF n1 e1 e2) t1) (g := g) (C := C) hov (fun j _ hj => setRow_other m.W g j _ hj) (by rw [setRow_size]; exact Nat.le_refl _) (hw.high b g C _ hbb hg).1 (hw.high b g C _ hbb hg).2 hnD
          (fun c' k' s' h1 h2 => by
            rw [SW.get_del] at h2
            split at h2
            · cases h2
            · rename_i hne; exact hne (hw.inj c' b g k' C s' _ h1 hbb h2 hg))
          ⟨_, setRow_heap m.W g ds _ t1 _ d1, by
            have hdl : ds.toList.length = ds.size := Array.length_toList
            simp only [List.size_toArray, List.length_append, hlen, List.length_drop]
            omega, hroom2, by
            have := (((d4.take).app hlen s2).more (ds.toList.drop (n1 * sz + news.length))).mono hle3
            simpa using this⟩
        refine ⟨_, _, .inl (goal a _ _ _ (by rw [hxs']; exact hr)), p1, hk2.trans p2, rfl, ?_⟩
        have := VR.own (m := { m with φ := upd m.φ (H.del b).n (g, C), W := m.W.setRow g (ds.toList.take (n1 * sz) ++ news ++ ds.toList.drop (n1 * sz + news.length)).toArray }) (b := H.n) (sz := sz) (off := 0) (n := n1 + n2) (upd_self _ _ _) (by omega)
        simpa using this
      · have hfirst : (Builtin.firstCells inf.size n1 (.slice (some ⟨g, 0, Option.none⟩) n1 C)).run P m.W.drew = .ok (ds.toList.take (n1 * sz)).toArray m.W.drew := by
          refine run_firstCells_some m.W.drew inf.size n1 _ _ _ _ (by rw [hlen, hesz]) fun j u hu => ?_
          rw [addr_add]
          rw [List.getElem?_take] at hu
          split at hu
          · rw [Array.getElem?_toList] at hu
            show m.W.cell? _ = _
            simp only [World.cell?, d1]
            simpa using hu
          · cases hu
        obtain ⟨v', m', r1, r2, r3, r4, r5⟩ := grow w0 m a (H.del b) (some ⟨g, 0, Option.none⟩) n1 C n2 e1 e2 _ news hk1 (by omega) hroom hlen d4.take s1 s2 hfirst hxs'
        exact ⟨v', m', r1, r2, hk2.trans r3, r4, r5⟩
  · cases h

theorem call_ok {ρ : Env} {o : Oper} {H : SW} {K : V → SW → Tag → Prop} {c : Call} {f : Operand} (ho : o.op = .call c) (hb : c.callee = .value f) (h : match ρ f with
      | some (.fn fid caps) => evs ρ c.args.toList fun vs => callW P fid (lapp vs caps) H K
      | some (.yld l) => evs ρ c.args.toList fun vs => yieldW P l vs H fun v H' => K v H' .all
      | _ => False) : EOK P ρ o H K := by
  split at h
  case h_3 => cases h
  case h_2 l hf =>
    obtain ⟨vs, h, hvl, hvs⟩ := evs_ok h
    obtain ⟨⟨v, H', hc, h⟩⟩ := h
    refine ⟨v, H', .all, h, fun b hb hne => (hne.2 rfl).elim, ?_⟩
    intro w0 m a hr hw r K Q hK
    refine ⟨fun _ _ => trivial, ?_⟩
    rw [Oper.semAt_eq _ _ _ (by simp [ho])]
    have hfv := hr f (by simp [ho, Op.operands, Call.operands, hb]) _ hf
    generalize hx : a.eval f = x at hfv
    cases hfv with
    | @yld _ g k hφ =>
      have hargs : LR m vs (c.args.map a.eval).toList := by
        rw [Array.toList_map]
        exact evs_rel hvl hvs (fun x hx => by simp [ho, Op.operands, Call.operands, hb]; exact .inr (Array.mem_toList_iff.1 hx)) hr
      obtain ⟨fn, tmps, ag, bd, hy, hrd⟩ := hc w0 m (c.args.map a.eval) g k hw hφ hargs
      have hrun : (execOp a.eval o).run P m.W = .ok (.round g fn tmps ag bd) m.W := by
        unfold execOp
        simp only [ho, resolve, hb, hx, Deferred.ofValue, Sem.run_bind, Sem.run_pure, Result.andThen_ok, invoke]
        simpa using hy
      rw [hrun, Oper.uponIn_round]
      refine ⟨fun h => by simp [Fence.wide] at h, ?_⟩
      refine RoundIn.mono (F := FW r) hrd ?_
      rintro e W' ⟨v', m', rfl, rfl, h1, h2, h3, h4⟩
      exact hK m' v' h1 h2 h3 h4
  rename_i fid caps hf
  obtain ⟨vs, h, hvl, hvs⟩ := evs_ok h
  obtain ⟨⟨v, H', g, ⟨he, hc⟩, hfr, h⟩⟩ := h
  refine ⟨v, H', g, h, hfr, ?_⟩
  intro w0 m a hr hw r K Q hK
  refine ⟨fun _ _ => trivial, ?_⟩
  rw [Oper.semAt_eq _ _ _ (by simp [ho])]
  have hfv := hr f (by simp [ho, Op.operands, Call.operands, hb]) _ hf
  generalize hx : a.eval f = x at hfv
  cases hfv with
  | @fn _ _ ys hs hh =>
    have hrun := exec_fn (P := P) (w := m.W) ho hb hx he
    rw [hrun, Oper.uponIn_enter]
    refine ⟨fun h => by simp [Fence.wide] at h, ?_⟩
    have hargs : LR m vs (c.args.toList.map a.eval) := evs_rel hvl hvs (fun x hx => by simp [ho, Op.operands, Call.operands, hb]; exact .inr (Array.mem_toList_iff.1 hx)) hr
    have := hc w0 m (c.args.map a.eval ++ ys) hw (by
      rw [Array.toList_append, Array.toList_map, lapp_eq]
      exact hargs.append ⟨hs, hh⟩)
    refine CallsIn.mono (F := FW r) this ?_
    rintro e W' ⟨v', m', rfl, rfl, h1, h2, h3, h4⟩
    exact hK m' v' h1 h2 h3 h4
theorem srcC_ok {H : SW} {x : V} {K : Nat → Nat → (Nat → V) → Prop} (h : srcK H x K) :
    ∃ sz n e, K sz n e ∧ ∀ (w0 : Base) (m : Mem) (x' : Value), WR w0 m H → VR m x x' → ∃ A c, x' = .slice A n c ∧ (n = 0 ∨ ∃ a ds, A = some a ∧ ds.length = n * sz ∧ RowR m sz n e ds ∧ (∀ (j : Nat) (u : Value), ds[j]? = some u → m.W.cell? (a.add j) = some u) ∧ ∀ u ∈ ds, u.oneCell' = true) := by
  unfold srcK at h
  split at h
  · rename_i sz n e
    refine ⟨sz, n, e, h, fun w0 m x' hw hx => ?_⟩
    cases hx with
    | @sl _ _ g o c _ us hnc hF hh hss hc =>
      obtain ⟨ds, h1, h2, h3, h4⟩ := row_cells (m := m) (sz := sz) (n := n) (e := e) (us := us) (f := fun j => m.W.cell? ⟨g, o + j, none⟩) fun i hi => ⟨hh i hi, hss i hi, fun j u hu => hc i hi j u hu⟩
      exact ⟨_, _, rfl, .inr ⟨_, ds, rfl, h1, h2, fun j u hu => by rw [addr_add]; exact h3 j u hu, h4⟩⟩
    | @sl0 _ c _ A => exact ⟨_, _, rfl, .inl rfl⟩
  · rename_i b sz off n
    split at h
    case h_2 => cases h
    rename_i sz' n' e t hg
    split at h
    case h_2 => cases h
    rename_i hs
    obtain rfl := beq_t hs
    obtain ⟨hle, h⟩ := h
    have h' : K sz n (fun j => e (off + j)) := by
      split at h
      · simpa using h
      · exact h
    refine ⟨sz, n, _, h', fun w0 m x' hw hx => ?_⟩
    cases hx with
    | @own _ g C _ _ _ hb hle2 =>
      obtain ⟨ds, d1, d2, d3, us, d4⟩ := hw.blk b g C _ hb hg
      obtain ⟨ds', h1, h2, h3, h4⟩ := row_cells (m := m) (sz := sz) (n := n) (e := fun j => e (off + j)) (us := fun j => us (off + j)) (f := fun j => ds.toList[off * sz + j]?) fun i hi => by
        obtain ⟨a1, a2, a3⟩ := d4 (off + i) (by omega)
        refine ⟨a1, a2, fun j u hu => ?_⟩
        obtain ⟨b1, b2⟩ := a3 j u hu
        exact ⟨by rw [← Nat.add_assoc, ← Nat.add_mul]; exact b1, b2⟩
      refine ⟨_, _, rfl, .inr ⟨_, ds', rfl, h1, h2, fun j u hu => ?_, h4⟩⟩
      rw [addr_add]
      have := h3 j u hu
      rw [Array.getElem?_toList] at this
      simp only [World.cell?, d1]
      simpa using this
    | own0 => exact ⟨_, _, rfl, .inl rfl⟩
  · cases h
theorem copy_ok (hT : ∀ t i, tget T t = some i → tiOf P t = some i) {ρ : Env} {o : Oper} {H : SW} {K : V → SW → Tag → Prop} {c : Call} (ho : o.op = .call c) (hb : c.callee = .builtin .copy) (h : match c.args.toList with
      | [d, x] => match c.argTypes.toList with
        | [t, _] => match ρ d with
          | some d => match ρ x with
            | some x => copyW T d t x H K
            | none => False
          | none => False
        | _ => False
      | _ => False) : EOK P ρ o H K := by
  obtain ⟨callee, ⟨args⟩, ⟨ts⟩⟩ := c
  simp only at hb h
  subst hb
  split at h
  case h_2 => cases h
  rename_i xs xx
  split at h
  case h_2 => cases h
  rename_i t tx
  split at h
  case h_2 => cases h
  rename_i d hd
  split at h
  case h_2 => cases h
  rename_i x hx
  unfold copyW at h
  split at h
  case h_2 => cases h
  rename_i ti hti
  obtain ⟨_, _, _, _, _, _, _, _, h7⟩ := tk_spec (hT _ _ hti)
  split at h
  case h_2 => cases h
  rename_i e sz bytes hk
  rw [hk] at h7
  obtain ⟨hu, einf, hei, hesz, heb⟩ := tk_slice h7
  split at h
  case h_2 => cases h
  rename_i hsz
  obtain rfl := beq_t hsz
  split at h
  case h_2 => cases h
  rename_i b sz1 off n
  split at h
  case h_2 => cases h
  rename_i hs1
  obtain rfl := beq_t hs1
  split at h
  case h_2 => cases h
  rename_i sz2 n1 e1 t1 hg
  split at h
  case h_2 => cases h
  rename_i hs2
  obtain rfl := beq_t hs2
  obtain ⟨⟨hn0, hle⟩, h⟩ := h
  obtain ⟨sz3, n3, e3, h, hsrc⟩ := srcC_ok h
  split at h
  case h_2 => cases h
  rename_i hs3
  obtain rfl := beq_t hs3
  have h := spineH_ok _ _ h
  refine ⟨_, _, _, h, fun c hc hne => (hne.2 rfl).elim, StepE.of (by simp [ho]) fun w0 m act hr hw => ?_⟩
  have hdv := hr xs (by simp [ho, Op.operands, Call.operands]) _ hd
  have hxv := hr xx (by simp [ho, Op.operands, Call.operands]) _ hx
  have goal : ∀ v' W', (Builtin.copy_ #[t, tx] o.type #[act.eval xs, act.eval xx]).run P m.W = .ok v' W' → (execOp act.eval o).run P m.W = .ok (.value v') W' := fun v' W' hr => by
    simp [execOp, ho, resolve, invoke, builtin, hr]
  generalize exs : act.eval xs = d' at hdv
  obtain ⟨A, cp, exx, hcase⟩ := hsrc w0 m _ hw hxv
  have hs1 : (P.info? e).map (·.size) = some 1 := by rw [hei]; simp [hesz]
  cases hdv with
  | own0 => omega
  | @own _ g C _ _ _ hb hle2 =>
    obtain ⟨ds, d1, d2, d3, us, d4⟩ := hw.blk b g C _ hb hg
    rcases hcase with hz | ⟨a, cs, rfl, c1, c2, c3, c4⟩
    · subst hz
      have hrun := run_copy_none (P := P) m.W t tx o.type e (some ⟨g, off * 1, none⟩) A n (C - off) 0 cp hu hs1 (by simp)
      obtain ⟨p1, p2⟩ := hw.write hb hg (W' := m.W) (s := .row 1 n1 (cpF off (Nat.min 0 n) e1 e3) t1) hw.ov (fun _ _ => rfl) (Nat.le_refl _) ⟨ds, d1, d2, d3, us, fun j hj => by
        have : cpF off (Nat.min 0 n) e1 e3 j = e1 j := by
          unfold cpF
          rw [if_neg (by simp)]
        rw [this]; exact d4 j hj⟩
      refine ⟨goInt 0, m, .inl (goal _ _ (by rw [exs, exx]; exact hrun)), p1, p2, rfl, ?_⟩
      rw [show ((Nat.min 0 n : Nat) : Int) = 0 by simp]
      exact .sc rfl
    · rw [Nat.mul_one] at c1
      have hk1 : Nat.min n3 n ≤ n3 := Nat.min_le_left _ _
      have hk2 : Nat.min n3 n ≤ n := Nat.min_le_right _ _
      generalize hkk : Nat.min n3 n = k at *
      have hl : (cs.take k).length = k := by rw [List.length_take]; omega
      have hrun := run_copy_row (P := P) m.W t tx o.type e g (off * 1) n (C - off) a n3 cp ds t1 (cs.take k) hu hs1 d1 (by rw [hl, hkk]) (fun j u hu => by
        rw [List.getElem?_take] at hu
        split at hu
        · exact c3 j u hu
        · cases hu) (by rw [hl, d2]; omega) (fun u hu => c4 u (List.mem_of_mem_take hu))
      obtain ⟨cu, hcu⟩ := c2
      have hle' := leSet hw hb hg (ds.toList.take (off * 1) ++ cs.take k ++ ds.toList.drop (off * 1 + (cs.take k).length)).toArray
      obtain ⟨p1, p2⟩ := write_row hw hb hg d1 (ds.toList.take (off * 1) ++ cs.take k ++ ds.toList.drop (off * 1 + (cs.take k).length)).toArray (s := .row 1 n1 (cpF off k e1 e3) t1)
        ⟨_, setRow_heap m.W g ds _ t1 _ d1, by rw [List.size_toArray, List.length_append, List.length_append, List.length_take, List.length_drop, hl, Array.length_toList]; omega, d3, fun j => if off ≤ j ∧ j < off + k then cu (j - off) else us j, fun j hj => by
          unfold cpF
          by_cases hjk : off ≤ j ∧ j < off + k
          · dsimp only
            rw [if_pos hjk, if_pos hjk]
            obtain ⟨k1, k2, k3⟩ := hcu (j - off) (by omega)
            refine ⟨k1.mono hle', k2, fun q u hq => ?_⟩
            have hq' : q < 1 := by rw [← k2]; exact (Array.getElem?_eq_some_iff.1 hq).1
            obtain ⟨b1, b2⟩ := k3 q u hq
            refine ⟨?_, b2⟩
            rw [List.append_assoc, List.getElem?_append_right (by rw [List.length_take, Array.length_toList]; omega), List.getElem?_append_left (by rw [hl, List.length_take, Array.length_toList]; omega), List.getElem?_take, if_pos (by rw [List.length_take, Array.length_toList]; omega)]
            rw [← b1]
            congr 1
            rw [List.length_take, Array.length_toList]; omega
          · dsimp only
            rw [if_neg hjk, if_neg hjk]
            obtain ⟨k1, k2, k3⟩ := d4 j hj
            refine ⟨k1.mono hle', k2, fun q u hq => ?_⟩
            have hq' : q < 1 := by rw [← k2]; exact (Array.getElem?_eq_some_iff.1 hq).1
            obtain ⟨b1, b2⟩ := k3 q u hq
            refine ⟨?_, b2⟩
            rw [← b1]
            by_cases hlt : j < off
            · rw [List.append_assoc, List.getElem?_append_left (by rw [List.length_take, Array.length_toList]; omega), List.getElem?_take, if_pos (by omega)]
            · rw [List.getElem?_append_right (by rw [List.length_append, List.length_take, Array.length_toList, hl]; omega), List.getElem?_drop]
              congr 1
              have e1 : ds.toList.length = ds.size := Array.length_toList
              rw [List.length_append, hl, List.length_take]; omega⟩
      refine ⟨_, _, .inl (goal _ _ (by rw [exs, exx]; exact hrun)), p1, p2, rfl, ?_⟩
      rw [hl]
      exact .sc rfl
/-! ### Maps from int to bool -/
theorem MapIs.made : MapIs #[] (fun _ => false) := ⟨fun e he => (by simp at he), by simp, fun e he => (by simp at he), fun _ _ => rfl⟩
theorem MapIs.put_new {es : Array MapEntry} {f : Int → Bool} {a : Int} {c : Bool} {b : Nat} (h : MapIs es f) (hn : ∀ e ∈ es.toList, e.key ≠ .int .i64 a) : MapIs (es.push { key := .int .i64 a, val := .bool c, born := b }) (upM f a c) := by
  refine ⟨fun e he => ?_, ?_, fun e he k q h1 h2 => ?_, fun k hk => ?_⟩
  · rw [Array.toList_push] at he
    rcases List.mem_append.1 he with he | he
    · exact h.ty e he
    · obtain rfl := List.mem_singleton.1 he; exact ⟨a, c, rfl, rfl⟩
  · rw [Array.toList_push, List.map_append, List.map_singleton]
    refine List.nodup_append.2 ⟨h.nd, by simp, fun x hx y hy e => ?_⟩
    obtain rfl := List.mem_singleton.1 hy
    obtain ⟨z, hz, rfl⟩ := List.mem_map.1 hx
    exact hn z hz e
  · rw [Array.toList_push] at he
    unfold upM
    rcases List.mem_append.1 he with he | he
    · rw [if_neg fun e' => hn e he (by rw [h1, e'])]
      exact h.hit e he k q h1 h2
    · obtain rfl := List.mem_singleton.1 he
      injection h1 with _ h1
      injection h2 with h2
      rw [if_pos h1.symm, h2]
  · rw [Array.toList_push] at hk
    unfold upM
    rw [if_neg fun e' => hk _ (List.mem_append_right _ (List.mem_singleton.2 rfl)) (by rw [e'])]
    exact h.no k fun e he => hk e (List.mem_append_left _ he)
theorem MapIs.put_at {es : Array MapEntry} {f : Int → Bool} {a : Int} {c : Bool} {j : Nat} {e0 : MapEntry} (h : MapIs es f) (h1 : es.toList[j]? = some e0) (h2 : e0.key = .int .i64 a) : MapIs (es.modify j fun e => { e with key := .int .i64 a, val := .bool c }) (upM f a c) := by
  have get : ∀ i, (es.modify j fun e => { e with key := .int .i64 a, val := .bool c }).toList[i]? = if j = i then es.toList[i]?.map (fun e => { e with key := .int .i64 a, val := .bool c }) else es.toList[i]? := fun i => by
    rw [Array.toList_modify, List.getElem?_modify]
    split <;> simp
  have keys : (es.modify j fun e => { e with key := .int .i64 a, val := .bool c }).toList.map (·.key) = es.toList.map (·.key) := by
    refine List.ext_getElem? fun i => ?_
    rw [List.getElem?_map, List.getElem?_map, get]
    split
    · rename_i e; subst e; rw [h1]; simp [h2]
    · rfl
  have idx : ∀ e ∈ (es.modify j fun e => { e with key := .int .i64 a, val := .bool c }).toList, (e.key = .int .i64 a ∧ e.val = .bool c) ∨ (e ∈ es.toList ∧ e.key ≠ .int .i64 a) := fun e he => by
    obtain ⟨i, hi⟩ := List.mem_iff_getElem?.1 he
    rw [get] at hi
    split at hi
    · rename_i e'; subst e'
      rw [h1] at hi
      simp at hi
      subst hi
      exact .inl ⟨rfl, rfl⟩
    · rename_i ne
      refine .inr ⟨List.mem_of_getElem? hi, fun hk => ne ?_⟩
      have k1 : (es.toList.map (·.key))[j]? = some (.int .i64 a) := by rw [List.getElem?_map, h1]; simp [h2]
      have k2 : (es.toList.map (·.key))[i]? = some (.int .i64 a) := by rw [List.getElem?_map, hi]; simp [hk]
      exact (List.getElem?_inj (List.getElem?_eq_some_iff.1 k1).1 h.nd).1 (k1.trans k2.symm)
  refine ⟨fun e he => ?_, by rw [keys]; exact h.nd, fun e he k q q1 q2 => ?_, fun k hk => ?_⟩
  · rcases idx e he with ⟨k1, k2⟩ | ⟨k1, _⟩
    · exact ⟨a, c, k1, k2⟩
    · exact h.ty e k1
  · unfold upM
    rcases idx e he with ⟨k1, k2⟩ | ⟨k1, k2⟩
    · rw [k1] at q1
      rw [k2] at q2
      injection q1 with _ q1
      injection q2 with q2
      rw [if_pos q1.symm, q2]
    · rw [if_neg fun e' => k2 (by rw [q1, e'])]
      exact h.hit e k1 k q q1 q2
  · have hk' : ∀ x ∈ es.toList.map (·.key), x ≠ .int .i64 k := fun x hx => by
      rw [← keys] at hx
      obtain ⟨e, he, rfl⟩ := List.mem_map.1 hx
      exact hk e he
    unfold upM
    rw [if_neg fun e' => hk' _ (List.mem_of_getElem? (show (es.toList.map (·.key))[j]? = some (.int .i64 a) by rw [List.getElem?_map, h1]; simp [h2])) (by rw [e'])]
    exact h.no k fun e he => hk' _ (List.mem_map.2 ⟨e, he, rfl⟩)
theorem makeMap_ok {ρ : Env} {o : Oper} {H : SW} {K : V → SW → Tag → Prop} {t : TypeId} (ho : o.op = .makeMap t none) (h : ob (mapIB P t = true) (pushK H (.mpb fun _ => false) fun b H' => K (.mp b) H' .no)) : EOK P ρ o H K := by
  obtain ⟨_, h⟩ := h
  refine ⟨_, _, _, pushK_ok h, fun b hb _ => get_push_old hb, StepE.of (by simp [ho]) fun w0 m a hr hw => ?_⟩
  obtain ⟨p1, p2⟩ := hw.pushNew (W' := m.W.alloc (.map #[] 0)) (s := .mpb fun _ => false) (g := m.W.heap.size) (C := 0) (hw.ov.alloc _) (fun j hj => heap_alloc_old m.W _ hj) (size_alloc_le _ _) (Nat.le_refl _) ⟨#[], 0, heap_alloc_new m.W _, MapIs.made⟩
  exact ⟨_, _, .inl (by simp [execOp, ho, Instr.makeMap, Result.andThen]), p1, p2, rfl, .mp (C := 0) (upd_self _ _ _)⟩
theorem mapUpdate_ok {ρ : Env} {o : Oper} {H : SW} {K : V → SW → Tag → Prop} {t : TypeId} {x k v : Operand} (ho : o.op = .mapUpdate t x k v) (h : match ρ k with
    | some (.sc (.int .i64 i)) => match ρ v with
      | some (.sc (.bool c)) => match ρ x with
        | some (.mp b) => match hget H.l b with
          | some (.mpb g) => ob (mapIB P t = true) (spineH (hput H.l b (.mpb (upM g i c))) fun l => K (.tup []) ⟨H.n, l⟩ (.wr b))
          | _ => False
        | _ => False
      | _ => False
    | _ => False) : EOK P ρ o H K := by
  split at h
  case h_2 => cases h
  rename_i i hk
  split at h
  case h_2 => cases h
  rename_i c hv
  split at h
  case h_2 => cases h
  rename_i b hx
  split at h
  case h_2 => cases h
  rename_i f hg
  obtain ⟨h1, h2⟩ := h
  obtain ⟨kt, et, inf, hu, hkt, he, hz⟩ := mapIB_spec h1
  refine ⟨_, _, _, spineH_ok _ _ h2, fun b' hb' hne => ?_, StepE.of (by simp [ho]) fun w0 m a hr hw => ?_⟩
  · show (H.put b _).get b' = _
    rw [SW.get_put, if_neg fun e => hne.1 (by rw [e.1])]
  have hkv := (hr k (by simp [ho, Op.operands]) _ hk).of_sc
  have hvv := (hr v (by simp [ho, Op.operands]) _ hv).of_sc
  have hxv := hr x (by simp [ho, Op.operands]) _ hx
  generalize ex : a.eval x = x' at hxv
  cases hxv with
  | @mp _ g C hb =>
    obtain ⟨es, cl, q1, q2⟩ := hw.blk _ _ _ _ hb hg
    have ik : MapKept.IsKey (.int .i64) (.int .i64 i) := by simp [MapKept.IsKey]
    have ck := fun em => MapKept.run_checkKey (P := P) (w := m.W) hkt ik em 9999
    have st := MapKept.run_keyThatStays (P := P) (w := m.W) ik
    have glt : g < m.W.heap.size := (Array.getElem?_eq_some_iff.1 q1).1
    have WRt : ∀ es' cl', MapIs es' (upM f i c) → WR w0 { m with W := { m.W with heap := m.W.heap.setIfInBounds g (.map es' cl') } } (H.put b (.mpb (upM f i c))) ∧ Ext m H { m with W := { m.W with heap := m.W.heap.setIfInBounds g (.map es' cl') } } (H.put b (.mpb (upM f i c))) := fun es' cl' hm => by
      have hhi := (hw.high _ _ _ _ hb hg).1
      have bl := hw.ov.below
      refine hw.write hb hg (.of ⟨bl.os, bl.tape, bl.output, by simpa using bl.size, fun j hj => ?_⟩) (fun j hj => by simp [Ne.symm hj]) (by simp) ⟨es', cl', by simp [glt], hm⟩
      rw [← bl.block j hj]
      exact Array.getElem?_setIfInBounds_ne (by omega)
    rcases MapKept.findNow_spec ik es.toList 0 (keys_int q2) with ⟨f1, f2⟩ | ⟨j, e0, f1, f2, f3⟩
    · have fk := MapKept.run_findKey (P := P) (w := m.W) hkt f1
      obtain ⟨p1, p2⟩ := WRt _ (cl + 1) (q2.put_new (b := cl) (c := c) f2)
      exact ⟨undef, _, .inr ⟨by simp [execOp, ho, Instr.mapUpdate, ex, hkv, hvv, run_underlying hu, MapKept.run_getObj_map q1, ck, fk, MapKept.run_setObj_map _ q1, Result.andThen], rfl⟩, p1, p2, rfl, VR.undef _⟩
    · have fk := MapKept.run_findKey (P := P) (w := m.W) hkt f1
      have hj : es[j]? = some e0 := by simpa using f2
      obtain ⟨p1, p2⟩ := WRt _ cl (q2.put_at (j := j) (c := c) f2 f3)
      exact ⟨undef, _, .inr ⟨by simp [execOp, ho, Instr.mapUpdate, ex, hkv, hvv, run_underlying hu, MapKept.run_getObj_map q1, ck, fk, hj, f3, st, MapKept.run_setObj_map _ q1, Result.andThen], rfl⟩, p1, p2, rfl, VR.undef _⟩
theorem WR.stayD {w0 : Base} {m : Mem} {H : SW} (h : WR w0 m H) (ob : Obj) : WR w0 { m with F := fun g => m.F g ∨ g = m.W.heap.size, W := m.W.drew.alloc ob } H ∧ Ext m H { m with F := fun g => m.F g ∨ g = m.W.heap.size, W := m.W.drew.alloc ob } H := by
  have hl : Le m { m with F := fun g => m.F g ∨ g = m.W.heap.size, W := m.W.drew.alloc ob } := ⟨fun _ _ h => h, fun _ h => .inl h, fun j hj => heap_alloc_old m.W.drew _ (h.fr j hj)⟩
  refine ⟨⟨h.ov.drew.alloc _, h.dom, h.hdom, fun b g k s hb hg => (h.blk b g k s hb hg).mono hl rfl (heap_alloc_old m.W.drew _ (h.blk b g k s hb hg).lt), fun b g k s hb hg => ⟨(h.high b g k s hb hg).1, fun hF => ?_⟩, h.inj, fun g hg => ?_, fun g hg => ?_, h.uniq, fun g hg => ?_, h.gl.mono hl.F hl.mem⟩, ⟨hl, Nat.le_refl _, fun _ _ => rfl, fun _ _ _ _ _ h => h⟩⟩
  · rcases hF with hF | hF
    · exact (h.high b g k s hb hg).2 hF
    · have := (h.blk b g k s hb hg).lt; omega
  · rcases hg with hg | rfl
    · exact Nat.lt_of_lt_of_le (h.fr g hg) (size_alloc_le m.W.drew _)
    · show m.W.heap.size < (m.W.heap.push _).size
      simp
  · obtain ⟨h1, h2, h3⟩ := h.marks g hg
    have hlt := (Array.getElem?_eq_some_iff.1 h3).1
    refine ⟨h1, fun hF => ?_, by rw [← h3]; exact heap_alloc_old m.W.drew _ hlt⟩
    rcases hF with hF | hF
    · exact h2 hF
    · omega
  · rcases hg with hg | rfl
    · exact h.new g hg
    · exact .inr h.ov.size
theorem bysB_spec {t t2 : TypeId} (h : bysB P t t2 = true) : ∃ e, P.underlying t = some .string ∧ P.underlying t2 = some (.slice e) ∧ P.underlying e = some (.int .u8) := by
  unfold bysB at h
  split at h
  case h_2 => cases h
  rename_i h1
  split at h
  case h_2 => cases h
  rename_i e h2
  split at h
  case h_2 => cases h
  rename_i h3
  exact ⟨e, h1, h2, h3⟩
theorem convS_ok {ρ : Env} {o : Oper} {H : SW} {K : V → Tag → Prop} {t t2 : TypeId} {x : Operand} {s : ByteArray} (ho : o.op = .convert t t2 x) (hx : ρ x = some (.sc (.string s))) (h : ob (bysB P t t2 = true) (K (.sl 1 s.size fun i => .sc (.int .u8 (sb s i))) .no)) : QOK P ρ o H K := by
  obtain ⟨h1, h⟩ := h
  obtain ⟨e, u1, u2, u3⟩ := bysB_spec h1
  refine ⟨_, .no, h, fun _ e => (by cases e), fun w0 H2 _ m a hr hw => ?_⟩
  have hxv := (hr x (by simp [ho, Op.operands]) _ hx).of_sc
  obtain ⟨p1, p2⟩ := hw.stayD (.cells (bytesRow s (grownCap m.W s.size 0 e)) e ((bytesRow s (grownCap m.W s.size 0 e)).size, (bytesRow s (grownCap m.W s.size 0 e)).size + 1))
  refine ⟨.slice (some ⟨m.W.heap.size, 0, none⟩) s.size (grownCap m.W s.size 0 e), _, ?_, ?_, p1, p2, rfl⟩
  · simp only [execOp, ho, hxv, Sem.run_bind, run_bytes_of_string m.W t t2 e s u1 u2 u3, Result.andThen_ok]
    rfl
  · refine VR.sl (fun i => .int .u8 (sb s i)) (grownCap_ge _ _ _ _) (.inr rfl) (fun i hi => .sc rfl) (fun i hi => rfl) fun i hi j u hu => ?_
    have hi' : i < s.data.size := hi
    have e1 : (Value.int .u8 (sb s i)).cells = #[.int .u8 (sb s i)] := rfl
    rw [e1] at hu
    have hj : j = 0 := by have := (Array.getElem?_eq_some_iff.1 hu).1; simp at this; omega
    subst hj
    obtain rfl : .int .u8 (sb s i) = u := by simpa using hu
    refine ⟨?_, rfl⟩
    show (m.W.drew.alloc _).cell? _ = _
    have ha := heap_alloc_new m.W.drew (.cells (bytesRow s (grownCap m.W s.size 0 e)) e ((bytesRow s (grownCap m.W s.size 0 e)).size, (bytesRow s (grownCap m.W s.size 0 e)).size + 1))
    have ha : (m.W.drew.alloc (.cells (bytesRow s (grownCap m.W s.size 0 e)) e ((bytesRow s (grownCap m.W s.size 0 e)).size, (bytesRow s (grownCap m.W s.size 0 e)).size + 1))).heap[m.W.heap.size]? = _ := ha
    simp only [World.cell?, ha]
    have := bytesRow_at s (grownCap m.W s.size 0 e) i hi'
    simp only [Nat.zero_add, Nat.mul_one, Nat.add_zero]
    rw [this]
    unfold sb
    rw [List.getD_eq_getElem?_getD]
    simp only [Array.getElem?_toList, Array.getElem?_eq_getElem hi', Option.getD_some]
    rfl
theorem effW_ok (hT : ∀ t i, tget T t = some i → tiOf P t = some i) {ρ : Env} {o : Oper} {H : SW} {K : V → SW → Tag → Prop} (h : effW P T ρ o H K) : EOK P ρ o H K := by
  unfold effW at h
  split at h
  case h_1 t ho => exact alloc_ok hT ho h
  case h_2 t x ho => exact box_ok ho h
  case h_3 t len parts ho => exact buildSlice_ok hT ho h
  case h_4 t l c ho => exact makeSlice_ok hT ho h
  case h_5 t a x ho => exact store_ok hT ho h
  case h_6 c ho =>
    split at h
    · rename_i f hb; exact call_ok ho hb h
    · rename_i hb; exact append_ok hT ho hb h
    · rename_i hb; exact copy_ok hT ho hb h
    · cases h
  case h_7 t ho => exact makeMap_ok ho h
  case h_8 t x k v ho => exact mapUpdate_ok ho h
  case h_9 => cases h
/-- One operation: quiet, or one that does more. -/
theorem stepW_ok (hT : ∀ t i, tget T t = some i → tiOf P t = some i) {ρ : Env} {o : Oper} {H : SW} {K : V → SW → Tag → Prop} (h : stepW P T ρ o H K) :
    (effect o = true ∧ EOK P ρ o H K) ∨ (effect o = false ∧ QOK P ρ o H fun v g => K v H g) := by
  unfold stepW at h
  split at h
  · rename_i he; exact .inl ⟨he, effW_ok hT h⟩
  · rename_i he
    refine .inr ⟨he, qopW_ok hT (fun t n parts ho => buildLoose_ok hT ho ?_) (fun t t2 x s ho hx h => convS_ok ho hx h) h⟩
    unfold qopW at h
    rw [ho] at h
    exact h
theorem quiet_defer {ρ : Env} {o : Oper} {H : SW} {v : V} {w0 : Base} (_h : Quiet P w0 ρ o H v) : True := trivial
end
end Go.Proofs.Ytkliejppigfjiaa.Fx
