/-
  A drawn region: whatever is drawn, it ends as in the written order. A region in the written order.
  Conditions: the checks of the region.
-/
import Derived.Test.YtkliejppigfjiaaFg
namespace Go.Proofs.Ytkliejppigfjiaa.Fx
open Go.RowKit

section
variable {P : Program} {T : Tbl} {w0 : Base}
/-- A block of one's own comes to lie in the machine as well. -/
theorem WR.birth {m : Mem} {H : SW} (h : WR w0 m H) {b : Nat} (hb : m.φ b = none) (hlt : b < H.n) {cs : List V} {t : TypeId} {ds : Array Value} (hg : H.get b = some (.cells cs t)) (hl : LR m cs ds.toList) :
    WR w0 { m with φ := upd m.φ b (m.W.heap.size, 0), W := m.W.alloc (.cells ds t) } H ∧ Le m { m with φ := upd m.φ b (m.W.heap.size, 0), W := m.W.alloc (.cells ds t) } := by
  have hle : Le m { m with φ := upd m.φ b (m.W.heap.size, 0), W := m.W.alloc (.cells ds t) } := ⟨fun c p hc => (by
    simp only [upd]; rw [if_neg]
    · exact hc
    · rintro rfl; rw [hb] at hc; cases hc), fun _ h => h, fun g hg => heap_alloc_old m.W _ (h.fr g hg)⟩
  have hfree : ∀ c k s, m.φ c = some (m.W.heap.size, k) → H.get c = some s → False := fun c k s hc hs => by
    have := (h.blk c _ k s hc hs).lt; omega
  refine ⟨⟨h.ov.alloc _, fun c p hc => ?_, h.hdom, fun c g k s hc hs => ?_, fun c g k s hc hs => ?_, fun c c' g k1 k2 s1 s2 h1 h2 h3 h4 => ?_, fun g hg => Nat.lt_of_lt_of_le (h.fr g hg) (size_alloc_le _ _), fun g hg => ?_, h.uniq, h.new, h.gl.mono hle.F hle.mem⟩, hle⟩
  · simp only [upd] at hc
    split at hc
    · subst_vars; exact hlt
    · exact h.dom c p hc
  · simp only [upd] at hc
    split at hc
    · rename_i e; subst e
      injection hc with hc; obtain ⟨rfl, rfl⟩ := Prod.mk.inj hc
      rw [hg] at hs; injection hs with hs; subst hs
      exact ⟨ds, heap_alloc_new m.W _, hl.mono hle⟩
    · have h1 := h.blk c g k s hc hs
      exact h1.mono hle rfl (heap_alloc_old m.W _ h1.lt)
  · simp only [upd] at hc
    split at hc
    · injection hc with hc; obtain ⟨rfl, rfl⟩ := Prod.mk.inj hc
      exact ⟨h.ov.size, fun hF => by have := h.fr _ hF; omega⟩
    · exact h.high c g k s hc hs
  · simp only [upd] at h1 h2
    split at h1 <;> split at h2
    · subst_vars; rfl
    · injection h1 with h1; obtain ⟨rfl, rfl⟩ := Prod.mk.inj h1; exact (hfree _ _ _ h2 h4).elim
    · injection h2 with h2; obtain ⟨rfl, rfl⟩ := Prod.mk.inj h2; exact (hfree _ _ _ h1 h3).elim
    · exact h.inj c c' g k1 k2 s1 s2 h1 h2 h3 h4
  · obtain ⟨k1, k2, k3⟩ := h.marks g hg
    exact ⟨k1, k2, by rw [← k3]; exact heap_alloc_old m.W _ (Array.getElem?_eq_some_iff.1 k3).1⟩
/-- A block of one's own is known ahead of its birth. -/
theorem WR.unborn {m : Mem} {H : SW} (h : WR w0 m H) (s : SB) : WR w0 m (H.push s) ∧ Ext m H m (H.push s) := by
  have live : ∀ b p s', m.φ b = some p → (H.push s).get b = some s' → H.get b = some s' := fun b p s' hb hg => by
    rw [SW.get_push] at hg
    split at hg
    · rename_i e; subst e; rw [h.fresh _ (Nat.le_refl _)] at hb; cases hb
    · exact hg
  refine ⟨⟨h.ov, fun b p hb => by have := h.dom b p hb; simp; omega, fun b s hb => ?_, fun b g k s' hb hg => h.blk b g k s' hb (live _ _ _ hb hg), fun b g k s' hb hg => h.high b g k s' hb (live _ _ _ hb hg), fun b b' g k k' s1 s2 h1 h2 h3 h4 => h.inj b b' g k k' s1 s2 h1 h2 (live _ _ _ h1 h3) (live _ _ _ h2 h4),
    h.fr, h.marks, h.uniq, h.new, h.gl⟩, ⟨Le.refl m, by simp, fun _ _ => rfl, fun b cs t hb _ hg => ?_⟩⟩
  · rw [SW.get_push] at hb
    split at hb
    · subst_vars; simp
    · have := h.hdom b s hb; simp; omega
  · rw [SW.get_push, if_neg (by omega)]; exact hg
theorem birthsW_ok (hT : ∀ t i, tget T t = some i → tiOf P t = some i) : ∀ (l : List Oper) (H : SW) (K : SW → Prop), birthsW T l H K → ∃ H1, K H1 ∧ (∀ {m : Mem} {w0 : Base}, WR w0 m H → WR w0 m H1 ∧ Ext m H m H1) ∧ (∀ b, b < H.n → H1.get b = H.get b) ∧ H.n ≤ H1.n ∧
    ∀ (k : Nat) (o : Oper), l[k]? = some o → fresh o = true → ∃ t i, o.op = .alloc t ∧ o.guard = none ∧ tget T t = some i ∧ H1.get (H.n + births_ l k) = some (.cells (lsc i.zero) t) ∧ H.n + births_ l k < H1.n
  | [], H, K, h => ⟨H, h, fun h => ⟨h, Ext.refl _ _⟩, fun _ _ => rfl, Nat.le_refl _, fun k o hk => by simp at hk⟩
  | o :: l, H, K, h => by
    rw [birthsW_cons] at h
    split at h
    · rename_i hf
      split at h
      case h_2 => cases h
      rename_i t ho
      split at h
      case h_2 => cases h
      rename_i i hi
      obtain ⟨H1, hK, h1, h2, h3, h4⟩ := birthsW_ok hT l _ K (pushK_ok (spineK_ok _ _ h))
      refine ⟨H1, hK, fun hw => ?_, fun b hb => ?_, by simp at h3; omega, fun k o' hk hfr => ?_⟩
      · obtain ⟨a1, a2⟩ := hw.unborn (.cells (lsc i.zero) t)
        obtain ⟨b1, b2⟩ := h1 a1
        exact ⟨b1, a2.trans b2⟩
      · rw [h2 b (by simp; omega), SW.get_push, if_neg (by omega)]
      · cases k with
        | zero =>
          simp at hk; subst hk
          have hg : o.guard = none := by
            unfold fresh at hfr
            rw [ho] at hfr
            simp only at hfr
            split at hfr
            · split at hfr
              · assumption
              · cases hfr
            · cases hfr
          refine ⟨t, i, ho, hg, hi, ?_, by simp [births_] at h3 ⊢; omega⟩
          rw [show births_ (o :: l) 0 = 0 by simp [births_], Nat.add_zero, h2 H.n (by simp), SW.get_push, if_pos rfl]
        | succ k =>
          obtain ⟨t', z', e1, e2, e3, e4, e5⟩ := h4 k o' (by simpa using hk) hfr
          refine ⟨t', z', e1, e2, e3, ?_, ?_⟩
          · rw [births_cons, if_pos hf]; rw [← e4]; congr 1; simp; omega
          · rw [births_cons, if_pos hf]; simp at e5; omega
    · rename_i hf
      obtain ⟨H1, hK, h1, h2, h3, h4⟩ := birthsW_ok hT l H K h
      refine ⟨H1, hK, h1, h2, h3, fun k o' hk hfr => ?_⟩
      cases k with
      | zero => simp at hk; subst hk; rw [hf] at hfr; cases hfr
      | succ k =>
        obtain ⟨t', z', e1, e2, e3, e4, e5⟩ := h4 k o' (by simpa using hk) hfr
        refine ⟨t', z', e1, e2, e3, ?_, ?_⟩
        · rw [births_cons, hf]; simpa using e4
        · rw [births_cons, hf]; simpa using e5
end

/-- What the run has found for a region. -/
structure Plan (P : Program) (T : Tbl) (ops : Array Oper) (PD : List Nat) (n : Nat) (fr0 : Fr) (H0 H1 : SW) (rs : List Rec) (HS : List SW) : Prop where
  st : Static ops PD n
  len : rs.length = ops.size
  turn : ∀ (i : Nat) (o : Oper), ops[i]? = some o → ∃ r, Turn P ops H0.n rs HS i o r ∧ EnvOK ops fr0 rs i (fun t => r.ρ (.tmp t)) ∧ ∃ f, r.ρ = ev f
  hsl : HS.length = rank ops.toList ops.toList.length + 1
  h0 : HS[0]? = some H1
  confl : conflB ops.toList PD (rs.map fun r => (r.g, r.n)) = true
  bir : ∀ (k : Nat) (o : Oper), ops.toList[k]? = some o → fresh o = true → ∃ t i, o.op = .alloc t ∧ o.guard = none ∧ tget T t = some i
section
variable {P : Program} {T : Tbl} {w0 : Base} {ops : Array Oper} {PD : List Nat} {n : Nat} {fr0 : Fr} {H0 H1 : SW} {rs : List Rec} {HS : List SW} {m0 : Mem} {ds : List Deferred} {rd : Option Nat}
def cur (ops : Array Oper) (fr0 : Fr) (rs : List Rec) (L : Array Bool) (t : Nat) : Option V :=
  match wr ops.toList 0 t with
  | some j => if L.getD j false = true then (rs[j]?).map (·.v) else fget fr0 t
  | none => fget fr0 t
structure Inv (T : Tbl) (w0 : Base) (ops : Array Oper) (n : Nat) (fr0 : Fr) (H0 : SW) (rs : List Rec) (HS : List SW) (m0 : Mem) (ds : List Deferred) (s : Nat) (m : Mem) (L : Array Bool) (b : Act) : Prop where
  sz : L.size = ops.size
  cl : Closed ops L
  ef : ∀ (i : Nat) (o : Oper), ops[i]? = some o → eff o = true → (L.getD i false = true ↔ rank ops.toList i < s)
  hs : ∃ H, HS[s]? = some H ∧ WR w0 m H ∧ Ext m0 H0 m H ∧ m.D = m0.D ∧
    ∀ (i : Nat) (o : Oper), ops[i]? = some o → fresh o = true → L.getD i false = false → m.φ (H0.n + births_ ops.toList i) = none ∧ (∃ t ti, o.op = .alloc t ∧ tget T t = some ti ∧ H.get (H0.n + births_ ops.toList i) = some (.cells (lsc ti.zero) t)) ∧ H0.n + births_ ops.toList i < H.n
  n : b.tmps.size = n
  dfr : b.defers = ds
  slot : ∀ t v, cur ops fr0 rs L t = some v → VR m v (b.tmps.getD t undef)

theorem getD_lt {L : Array Bool} {i : Nat} (h : L.getD i true = false) : i < L.size := by
  rcases Nat.lt_or_ge i L.size with h' | h'
  · exact h'
  · simp [h'] at h
theorem Inv.next {s s' : Nat} {m m' : Mem} {L : Array Bool} {b : Act} (st : Static ops PD n) (h : Inv T w0 ops n fr0 H0 rs HS m0 ds s m L b) {i : Nat} {o : Oper} (hi : ops[i]? = some o) (hr : i ∈ Region.ready .any ops L)
    {H' : SW} (hle : Le m m') (hH' : HS[s']? = some H') (hw : WR w0 m' H') (hext : Ext m0 H0 m' H') (hD : m'.D = m0.D) (hs' : s' = s + if eff o then 1 else 0) (hrank : eff o = true → rank ops.toList i = s)
    (hborn : ∀ (j : Nat) (oj : Oper), ops[j]? = some oj → fresh oj = true → j ≠ i → L.getD j false = false → m'.φ (H0.n + births_ ops.toList j) = none ∧ (∃ t ti, oj.op = .alloc t ∧ tget T t = some ti ∧ H'.get (H0.n + births_ ops.toList j) = some (.cells (lsc ti.zero) t)) ∧ H0.n + births_ ops.toList j < H'.n)
    {r : Rec} {v' : Value} (hv : rs[i]? = some r) (hvv : VR m' r.v v') : Inv T w0 ops n fr0 H0 rs HS m0 ds s' m' (L.setIfInBounds i true) (b.put o.dst v') := by
  obtain ⟨hun, _, _, _⟩ := mem_ready.1 hr
  have hiL : i < L.size := getD_lt hun
  have hself : (L.setIfInBounds i true).getD i false = true := by simp [hiL]
  have hoth : ∀ j, j ≠ i → (L.setIfInBounds i true).getD j false = L.getD j false := fun j hj => getD_set_ne false (Ne.symm hj)
  refine ⟨by simpa using h.sz, h.cl.set hr, fun j oj hj he => ?_, ⟨H', hH', hw, hext, hD, fun j oj hj hf hun' => ?_⟩, ?_, ?_, fun t v hcur => ?_⟩
  · by_cases hji : j = i
    · subst hji
      obtain rfl : o = oj := Option.some.inj (hi.symm.trans hj)
      rw [hself, hs', if_pos he, hrank he]
      simp
    · rw [hoth j hji, h.ef j oj hj he, hs']
      split
      · rename_i hei
        have hne : rank ops.toList j ≠ s := fun e => hji (rank_inj (by rw [Array.getElem?_toList]; exact hj) (by rw [Array.getElem?_toList]; exact hi) he hei (by rw [e, hrank hei]))
        omega
      · simp
  · have hji : j ≠ i := by rintro rfl; rw [hself] at hun'; cases hun'
    rw [hoth j hji] at hun'
    exact hborn j oj hj hf hji hun'
  · rw [← h.n]; cases o.dst <;> simp [Act.put]
  · rw [← h.dfr]; cases o.dst <;> rfl
  · have hget : (b.put o.dst v').tmps.getD t undef = if o.dst = some t ∧ t < b.tmps.size then v' else b.tmps.getD t undef := by
      cases hd : o.dst with
      | none => simp [Act.put]
      | some d =>
        simp only [Act.put, Array.getD_eq_getD_getElem?, Array.getElem?_setIfInBounds, Option.some.injEq]
        by_cases e : d = t
        · subst e
          by_cases hlt : d < b.tmps.size
          · simp [hlt]
          · simp [hlt]
        · simp [e]
    rw [hget]
    unfold cur at hcur
    by_cases hd : o.dst = some t
    · obtain ⟨h1, h2⟩ := st.dst i o hi t hd
      rw [h1] at hcur
      simp only [hself, if_true, hv, Option.map_some, Option.some.injEq] at hcur
      rw [if_pos ⟨hd, by rw [h.n]; exact h2⟩, ← hcur]
      exact hvv
    · rw [if_neg (fun hh => hd hh.1)]
      refine (h.slot t v ?_).mono hle
      unfold cur
      cases hwr : wr ops.toList 0 t with
      | none => rw [hwr] at hcur; exact hcur
      | some j =>
        rw [hwr] at hcur
        simp only at hcur ⊢
        have hji : j ≠ i := by
          rintro rfl
          obtain ⟨o', ho', hd'⟩ := wr_some hwr
          rw [hi] at ho'; injection ho' with ho'; subst ho'; exact hd hd'
        rw [hoth j hji] at hcur; exact hcur

/-- What an operation that is ready reads. -/
theorem Inv.reads {s : Nat} {m : Mem} {L : Array Bool} {b : Act} (st : Static ops PD n) (h : Inv T w0 ops n fr0 H0 rs HS m0 ds s m L b) {i : Nat} {o : Oper} (hi : ops[i]? = some o) (hr : i ∈ Region.ready .any ops L) {f : Nat → Option V} (he : EnvOK ops fr0 rs i f) :
    ∀ t, t ∈ o.looksAt ops → ∀ v, f t = some v → VR m v (b.tmps.getD t undef) := by
  obtain ⟨hun, o', ho', hall⟩ := mem_ready.1 hr
  obtain rfl : o = o' := Option.some.inj (hi.symm.trans ho')
  intro t ht v hv
  refine h.slot t v ?_
  rw [he t] at hv
  unfold cur
  cases hwr : wr ops.toList 0 t with
  | none => rw [hwr] at hv; exact hv
  | some j =>
    rw [hwr] at hv
    simp only at hv ⊢
    obtain ⟨oj, hoj, _⟩ := wr_some hwr
    by_cases hw : waits PD i j = true
    · rw [if_pos (waits_done st h.sz h.cl i o hi hall j hw)]
      rw [if_pos (waits_lt st i j (lt_of_some hi) hw)] at hv
      exact hv
    · have hnot : L.getD j false = false ∧ ¬ j < i := by
        rcases st.look i o hi t ht j hwr with rfl | hw' | hw'
        · exact ⟨getD_both hun, Nat.lt_irrefl _⟩
        · exact absurd hw' hw
        · refine ⟨?_, fun hlt => by have := waits_lt st j i (lt_of_some hoj) hw'; omega⟩
          cases hLj : L.getD j false with
          | false => rfl
          | true =>
            have := waits_done' st h.sz h.cl hLj hw' (lt_of_some hoj)
            rw [getD_both hun] at this; cases this
      rw [hnot.1]
      rw [if_neg hnot.2] at hv
      simpa using hv
theorem Inv.opnds {s : Nat} {m : Mem} {L : Array Bool} {b : Act} (st : Static ops PD n) (h : Inv T w0 ops n fr0 H0 rs HS m0 ds s m L b) {i : Nat} {o : Oper} (hi : ops[i]? = some o) (hr : i ∈ Region.ready .any ops L) {ρ : Env} (he : EnvOK ops fr0 rs i (fun t => ρ (.tmp t))) (hf : ∃ f, ρ = ev f) :
    Rel m ρ o b := by
  intro x hx u hu
  obtain ⟨f, rfl⟩ := hf
  have hok := (Bool.and_eq_true _ _ ▸ st.ok i o hi).1
  have hok := List.all_eq_true.1 hok x (Array.mem_toList_iff.2 hx)
  cases x with
  | tmp t =>
    refine h.reads st hi hr he t ?_ u hu
    unfold Oper.looksAt
    exact List.mem_append_left _ (List.mem_filterMap.2 ⟨_, Array.mem_toList_iff.2 hx, rfl⟩)
  | const v =>
    simp only [ev, Option.some.injEq] at hu
    subst hu
    exact ofV_ok hok
  | global g =>
    obtain ⟨_, _, hw, _⟩ := h.hs
    exact ev_global hw.gl hu
  | func f =>
    simp only [ev, Option.some.injEq] at hu
    subst hu
    exact .fn rfl fun i x y hx => by simp at hx
theorem Inv.wanted {s : Nat} {m : Mem} {L : Array Bool} {b : Act} (st : Static ops PD n) (h : Inv T w0 ops n fr0 H0 rs HS m0 ds s m L b) {i : Nat} {o : Oper} (hi : ops[i]? = some o) (hr : i ∈ Region.ready .any ops L) {r : Rec} (he : EnvOK ops fr0 rs i (fun t => r.ρ (.tmp t)))
    (ng : o.guard = none → r.w = true) (gd : ∀ j b, o.guard = some (j, b) → ∃ t v, (ops[j]?).bind (·.dst) = some t ∧ r.ρ (.tmp t) = some v ∧ GdOK v b r.w) :
    Region.wanted o (yielded ops b.tmps) = r.w := by
  unfold Region.wanted
  cases hg : o.guard with
  | none => simp [ng hg]
  | some p =>
    obtain ⟨j, want⟩ := p
    obtain ⟨t, v, ht, hx, hw⟩ := gd j want hg
    have hv := h.reads st hi hr he t (by unfold Oper.looksAt; rw [hg]; simp [ht]) _ hx
    simp only [yielded, ht, Option.bind_some]
    rcases hw with ⟨x, rfl, hw⟩ | ⟨rfl, hw⟩
    · have hv := hv.of_sc
      rw [Array.getD_eq_getD_getElem?] at hv
      cases e : b.tmps[t]? with
      | none => rw [e] at hv; simp [undef] at hv
      | some u =>
        rw [e] at hv
        simp only [Option.getD_some] at hv
        subst hv
        simp [hw]
    · rw [Array.getD_eq_getD_getElem?] at hv
      rw [hw]
      cases e : b.tmps[t]? with
      | none => rfl
      | some u =>
        rw [e] at hv
        simp only [Option.getD_some] at hv
        cases hv with
        | tup hs hh => rfl

/-- The heaps between two stages agree on a block that the steps between leave alone. -/
theorem stages_agree {b : Nat} {s s' : Nat} {Ha Hb : SW} (hs : s ≤ s') (ha : HS[s]? = some Ha) (hb : HS[s']? = some Hb) (h : ∀ k, s ≤ k → k < s' → ∀ X Y, HS[k]? = some X → HS[k + 1]? = some Y → Y.get b = X.get b) : Hb.get b = Ha.get b := by
  induction s' generalizing Hb with
  | zero =>
    obtain rfl : s = 0 := by omega
    rw [ha] at hb; injection hb with hb; subst hb; rfl
  | succ k ih =>
    rcases Nat.lt_or_ge k s with hlt | hge
    · obtain rfl : s = k + 1 := by omega
      rw [ha] at hb; injection hb with hb; subst hb; rfl
    · have hk : k < HS.length := by have := (List.getElem?_eq_some_iff.1 hb).1; omega
      have e1 := ih hge (by simp [hk] : HS[k]? = some HS[k]) fun j h1 h2 => h j h1 (by omega)
      have e2 := h k hge (by omega) HS[k] Hb (by simp [hk]) hb
      rw [e2, e1]
theorem inv_step (hT : ∀ t i, tget T t = some i → tiOf P t = some i) (pl : Plan P T ops PD n fr0 H0 H1 rs HS) {Q : Exit → Act → World → Prop} {s : Nat} {m : Mem} {L : Array Bool} {b : Act} (h : Inv T w0 ops n fr0 H0 rs HS m0 ds s m L b)
    {i : Nat} (hr : i ∈ Region.ready .any ops L) : wpOpIn (FW rd) 0 P ops Q i (fun b' W' => ∃ s' m', m'.W = W' ∧ Inv T w0 ops n fr0 H0 rs HS m0 ds s' m' (L.setIfInBounds i true) b') b m.W := by
  have st := pl.st
  obtain ⟨hun, o, hi, hall⟩ := mem_ready.1 hr
  obtain ⟨H, hH, hw, hext, hD, hborn⟩ := h.hs
  obtain ⟨r, turn, henv, hev⟩ := pl.turn i o hi
  have hop := h.opnds st hi hr henv hev
  have hlt := lt_of_some hi
  have hrank : eff o = true → rank ops.toList i = s := fun he => by
    have h1 : ¬ rank ops.toList i < s := fun hh => by
      have := (h.ef i o hi he).2 hh
      rw [getD_both hun] at this; cases this
    have h2 : rank ops.toList i ≤ s := by
      rcases Nat.eq_zero_or_pos (rank ops.toList i) with h0 | h0
      · omega
      · have hle := rank_le (l := ops.toList) (i := i) (by simpa using Nat.le_of_lt hlt)
        obtain ⟨j, oj, hj, hej, hrj⟩ := rank_hit ops.toList (rank ops.toList i - 1) (by omega)
        rw [Array.getElem?_toList] at hj
        have hji : j < i := by
          rcases Nat.lt_trichotomy j i with e | e | e
          · exact e
          · subst e; omega
          · have := rank_lt ops.toList i j o e (by rw [Array.getElem?_toList]; exact hi) he; omega
        have := waits_done st h.sz h.cl i o hi hall j (st.chain i o hi he j oj hj hej hji)
        have := (h.ef j oj hj hej).1 this
        omega
    omega
  have keep : ∀ (m' : Mem) (H' : SW), Ext m H m' H' → ∀ (j : Nat) (oj : Oper), ops[j]? = some oj → fresh oj = true → j ≠ i → L.getD j false = false → m'.φ (H0.n + births_ ops.toList j) = none ∧ (∃ t ti, oj.op = .alloc t ∧ tget T t = some ti ∧ H'.get (H0.n + births_ ops.toList j) = some (.cells (lsc ti.zero) t)) ∧ H0.n + births_ ops.toList j < H'.n := by
    intro m' H' hx j oj hj hf _ hunj
    obtain ⟨h1, ⟨t, z, h2, h3, h4⟩, h5⟩ := hborn j oj hj hf hunj
    exact ⟨by rw [hx.old _ h5]; exact h1, ⟨t, z, h2, h3, hx.un _ _ _ h5 h1 h4⟩, Nat.lt_of_lt_of_le h5 hx.n⟩
  unfold wpOpIn
  simp only [hi]
  rw [h.wanted st hi hr henv turn.ng (fun j b' hg => by
    cases hf : fresh o with
    | true => obtain ⟨_, _, _, hgn, _⟩ := pl.bir i o (by rw [Array.getElem?_toList]; exact hi) hf; rw [hgn] at hg; cases hg
    | false => exact turn.gd hf j b' hg)]
  cases hf : fresh o with
  | true =>
    obtain ⟨h1, ⟨t, ti, h2, h3, h4⟩, h5⟩ := hborn i o hi hf (getD_both hun)
    obtain ⟨inf, zv, e1, _, _, e2, e3, e4, _⟩ := tk_spec (hT _ _ h3)
    obtain ⟨_, _, _, hgn, _⟩ := pl.bir i o (by rw [Array.getElem?_toList]; exact hi) hf
    rw [if_pos (turn.ng hgn)]
    refine ⟨fun _ _ => trivial, ?_⟩
    rw [Oper.semAt_eq _ _ _ (by simp [h2])]
    have hrun : (execOp b.eval o).run P m.W = .ok (.value (.pointer (some ⟨m.W.heap.size, 0, none⟩))) (m.W.alloc (.cells zv.cells t)) := by
      simp [execOp, h2, Instr.alloc, zeroValue, typeInfo, e1, e2, newVar, newRow]
    rw [hrun, Oper.uponIn_value]
    obtain ⟨hw', hle⟩ := hw.birth h1 h5 h4 (ds := zv.cells) (by rw [e3]; exact lsc_ok e4)
    refine ⟨s, _, rfl, h.next st hi hr (H' := H) hle hH hw' ⟨⟨fun c q hc => hle.φ c q (hext.φ c q hc), hext.F, fun g hg => (hle.mem g (hext.F g hg)).trans (hext.mem g hg)⟩, hext.n, fun c hc => ?_, hext.un⟩ hD (by simp [eff, hf]) (fun he => by simp [eff, hf] at he) (fun j oj hj hfj hji hunj => ?_) turn.at_ (by rw [(turn.fr hf).1]; exact .ptr (C := 0) (upd_self _ _ _))⟩
    · show upd m.φ _ _ c = _
      simp only [upd]; rw [if_neg (by omega)]; exact hext.old c hc
    · obtain ⟨k1, k2, k3⟩ := hborn j oj hj hfj hunj
      refine ⟨?_, k2, k3⟩
      simp only [upd]
      rw [if_neg]
      · exact k1
      · intro e
        exact hji (births_inj (by rw [Array.getElem?_toList]; exact hj) (by rw [Array.getElem?_toList]; exact hi) hfj hf (by omega))
  | false =>
    cases hwant : r.w with
    | false =>
      simp only [Bool.false_eq_true, if_false]
      refine ⟨fun _ _ => trivial, ?_⟩
      obtain ⟨hv, _, hh⟩ := turn.no hf hwant
      have hvr : VR m r.v undef := by rw [hv]; exact VR.undef m
      cases he : effect o with
      | false => exact ⟨s, m, rfl, h.next st hi hr (H' := H) (Le.refl m) hH hw hext hD (by simp [eff, he]) (fun he' => by simp [eff, he] at he') (keep m H (Ext.refl _ _)) turn.at_ hvr⟩
      | true =>
        have hef : eff o = true := by simp [eff, he, hf]
        obtain ⟨H', e1, e2⟩ := hh he
        rw [hrank hef] at e1 e2
        obtain rfl : H = H' := Option.some.inj (hH.symm.trans e1)
        exact ⟨s + 1, m, rfl, h.next st hi hr (H' := H) (Le.refl m) e2 hw hext hD (by simp [hef]) hrank (keep m H (Ext.refl _ _)) turn.at_ hvr⟩
    | true =>
      simp only [if_true]
      cases he : effect o with
      | true =>
        have hef : eff o = true := by simp [eff, he, hf]
        obtain ⟨H2, H', e1, e2, hE, _⟩ := turn.ef hf hwant he
        rw [hrank hef] at e1 e2
        obtain rfl : H = H2 := Option.some.inj (hH.symm.trans e1)
        refine hE w0 m b hop hw rd _ Q fun m' v' x1 x2 x3 x4 => ?_
        exact ⟨s + 1, m', rfl, h.next st hi hr (H' := H') x1.toLe e2 x3 (hext.trans x1) (x2.trans hD) (by simp [hef]) hrank (keep m' H' x1) turn.at_ x4⟩
      | false =>
        obtain ⟨H2, e1, hgw, hq⟩ := turn.qu hf hwant he
        have hagr : agr r.g H2 H := by
          cases hg : r.g with
          | no => trivial
          | all => trivial
          | wr c => exact absurd hg (hgw c)
          | rd c =>
            show H.get c = H2.get c
            have hcf : ∀ (j : Nat) (oj : Oper) (rj : Rec), ops[j]? = some oj → eff oj = true → rs[j]? = some rj → waits PD i j = false → waits PD j i = false → j ≠ i → (rj.g ≠ .wr c ∧ rj.g ≠ .all) ∧ c < rj.n := by
              intro j oj rj hj hej hrj w1 w2 hji
              have c1 := allB_spec pl.confl i o (by rw [Array.getElem?_toList]; exact hi)
              simp only [Nat.zero_add, List.getElem?_map, turn.at_, Option.map_some, hg] at c1
              have c2 := allB_spec c1 j oj (by rw [Array.getElem?_toList]; exact hj)
              simp only [Nat.zero_add, hej, w1, w2, Bool.not_true, Bool.false_or, Bool.or_false, hrj, Option.map_some, Bool.or_eq_true, beq_iff_eq] at c2
              rcases c2 with c2 | c2
              · exact absurd c2 hji
              · cases hgj : rj.g with
                | no => rw [hgj] at c2; exact ⟨by simp, by simpa using c2⟩
                | rd d => rw [hgj] at c2; exact ⟨by simp, by simpa using c2⟩
                | wr d =>
                  rw [hgj] at c2
                  simp only [Bool.and_eq_true, Bool.not_eq_true', decide_eq_true_eq] at c2
                  refine ⟨⟨fun e => ?_, by simp⟩, c2.2⟩
                  injection e with e; subst e; simp at c2
                | all => rw [hgj] at c2; simp at c2
            have step : ∀ (k : Nat), (k < s ∧ rank ops.toList i ≤ k) ∨ (s ≤ k ∧ k < rank ops.toList i) → ∀ X Y, HS[k]? = some X → HS[k + 1]? = some Y → Y.get c = X.get c := by
              intro k hk X Y hX hY
              have hkr : k < rank ops.toList ops.toList.length := by
                have := (List.getElem?_eq_some_iff.1 hY).1
                rw [pl.hsl] at this; omega
              obtain ⟨j, oj, hj, hej, hrj⟩ := rank_hit ops.toList k hkr
              rw [Array.getElem?_toList] at hj
              have hji : j ≠ i := by
                rintro rfl
                rw [hi] at hj; injection hj with hj; subst hj
                simp [eff, he] at hej
              have hL := h.ef j oj hj hej
              rw [hrj] at hL
              have w : waits PD i j = false ∧ waits PD j i = false := by
                rcases hk with ⟨k1, k2⟩ | ⟨k1, k2⟩
                · -- done ahead of i
                  refine ⟨?_, ?_⟩
                  · cases hw' : waits PD i j with
                    | false => rfl
                    | true =>
                      have := waits_lt st i j hlt hw'
                      have := rank_lt ops.toList j i oj this (by rw [Array.getElem?_toList]; exact hj) hej
                      omega
                  · cases hw' : waits PD j i with
                    | false => rfl
                    | true =>
                      have := waits_done' st h.sz h.cl (hL.2 k1) hw' (lt_of_some hj)
                      rw [getD_both hun] at this; cases this
                · refine ⟨?_, ?_⟩
                  · cases hw' : waits PD i j with
                    | false => rfl
                    | true =>
                      have := hL.1 (waits_done st h.sz h.cl i o hi hall j hw')
                      omega
                  · cases hw' : waits PD j i with
                    | false => rfl
                    | true =>
                      have h1 := waits_lt st j i (lt_of_some hj) hw'
                      have h2 : rank ops.toList i ≤ rank ops.toList j := by
                        unfold rank
                        exact List.Sublist.length_le (List.Sublist.filter _ (List.take_sublist_take_left (Nat.le_of_lt h1)))
                      omega
              obtain ⟨rj, tj, _, _⟩ := pl.turn j oj hj
              obtain ⟨q1, q2⟩ := hcf j oj rj hj hej tj.at_ w.1 w.2 hji
              have hfj : fresh oj = false := by
                simp only [eff, Bool.and_eq_true, Bool.not_eq_true'] at hej; exact hej.2
              have hefj : effect oj = true := by
                simp only [eff, Bool.and_eq_true] at hej; exact hej.1
              cases hwj : rj.w with
              | false =>
                obtain ⟨_, _, hh⟩ := tj.no hfj hwj
                obtain ⟨Z, z1, z2⟩ := hh hefj
                rw [hrj] at z1 z2
                rw [hX] at z1; rw [hY] at z2
                injection z1 with z1; injection z2 with z2; subst z1; subst z2; rfl
              | true =>
                obtain ⟨Z, Z', z1, z2, _, z3⟩ := tj.ef hfj hwj hefj
                rw [hrj] at z1 z2
                rw [hX] at z1; rw [hY] at z2
                injection z1 with z1; injection z2 with z2; subst z1; subst z2
                exact z3 c q2 q1
            rcases Nat.lt_or_ge s (rank ops.toList i) with hlt2 | hge
            · exact (stages_agree (Nat.le_of_lt hlt2) hH e1 fun k k1 k2 => step k (.inr ⟨k1, k2⟩)).symm
            · exact stages_agree hge e1 hH fun k k1 k2 => step k (.inl ⟨k2, k1⟩)
        have hnd : ∀ c, o.op ≠ .defer c := fun c hc => by
          have := (Bool.and_eq_true _ _ ▸ st.ok i o hi).2
          rw [hc] at this; cases this
        refine StepE.quiet hnd (fun w => hq w H hagr) w0 m b hop hw rd _ Q fun m' v' x1 x2 x3 x4 => ?_
        exact ⟨s, m', rfl, h.next st hi hr (H' := H) x1.toLe hH x3 (hext.trans x1) (x2.trans hD) (by simp [eff, he]) (fun he' => by simp [eff, he] at he') (keep m' H x1) turn.at_ x4⟩
def undone (n : Nat) (L : Array Bool) : Nat := ((List.range n).filter fun i => !L.getD i false).length
theorem undone_lt {n : Nat} {L : Array Bool} {i : Nat} (hi : i < n) (h : L.getD i true = false) : undone n (L.setIfInBounds i true) < undone n L := by
  unfold undone
  have e : (List.range n).filter (fun j => !(L.setIfInBounds i true).getD j false) = ((List.range n).filter fun j => !L.getD j false).filter (· != i) := by
    rw [List.filter_filter]
    refine List.filter_congr fun j _ => ?_
    by_cases hj : j = i
    · subst hj
      have := getD_lt h
      simp [this]
    · rw [getD_set_ne false (Ne.symm hj)]
      simp [hj]
  rw [e, List.length_filter_lt_length_iff_exists]
  exact ⟨i, List.mem_filter.2 ⟨by simpa using hi, by rw [getD_both h]; rfl⟩, by simp⟩
theorem all_done (st : Static ops PD n) {L : Array Bool} (hsz : L.size = ops.size) (h : Region.ready .any ops L = []) : ∀ i, i < ops.size → L.getD i false = true := by
  intro i
  induction i using Nat.strongRecOn with
  | _ i ih =>
    intro hi
    cases e : L.getD i false with
    | true => rfl
    | false =>
      obtain ⟨o, ho⟩ := some_of_lt hi
      have : i ∈ Region.ready .any ops L := mem_ready.2 ⟨by
        have : i < L.size := by omega
        simpa [this] using e, o, ho, fun x hx hb => ih x.on (st.back i o ho x hx hb) (by have := st.back i o ho x hx hb; omega)⟩
      rw [h] at this
      cases this
theorem inv_any (hT : ∀ t i, tget T t = some i → tiOf P t = some i) (pl : Plan P T ops PD n fr0 H0 H1 rs HS) {Q : Exit → Act → World → Prop}
    (hQ : ∀ s m L b, Inv T w0 ops n fr0 H0 rs HS m0 ds s m L b → (∀ i, i < ops.size → L.getD i false = true) → Q .normal b m.W) :
    ∀ (fuel : Nat) (s : Nat) (m : Mem) (L : Array Bool) (b : Act), Inv T w0 ops n fr0 H0 rs HS m0 ds s m L b → undone ops.size L ≤ fuel → wpAnyIn (FW rd) 0 P .any ops Q fuel L b m.W
  | 0, s, m, L, b, h, hu => by
    have hnil : Region.ready .any ops L = [] := by
      cases e : Region.ready .any ops L with
      | nil => rfl
      | cons i l =>
        have hi : i ∈ Region.ready .any ops L := by rw [e]; simp
        obtain ⟨h1, o, ho, _⟩ := mem_ready.1 hi
        have := undone_lt (lt_of_some ho) h1
        omega
    exact ⟨hnil, hQ s m L b h (all_done pl.st h.sz hnil)⟩
  | fuel + 1, s, m, L, b, h, hu => by
    refine ⟨fun hnil => hQ s m L b h (all_done pl.st h.sz hnil), fun i hi => ?_⟩
    refine wpOpIn_mono (fun b' W' hh => ?_) (inv_step hT pl h hi)
    obtain ⟨s', m', rfl, h'⟩ := hh
    obtain ⟨h1, o, ho, _⟩ := mem_ready.1 hi
    have := undone_lt (lt_of_some ho) h1
    exact inv_any hT pl hQ fuel s' m' _ b' h' (by omega)
end
end Go.Proofs.Ytkliejppigfjiaa.Fx
