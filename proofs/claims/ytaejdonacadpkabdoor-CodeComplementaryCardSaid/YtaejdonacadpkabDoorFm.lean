/-
  Ranges over method values.
  Conditions: the checks of the code; the program follows the rule on mixed orders.
-/
import Derived.Test.YtaejdonacadpkabDoorFr
namespace Go.Proofs.YtaejdonacadpkabDoor.Fx
open Go.RowKit
section
variable {P : Program} {T : Tbl}
theorem lapp_app {α : Type} : ∀ (a b : List α), lapp a b = a ++ b
  | [], b => rfl
  | x :: a, b => by rw [lapp, lapp_app a b]; rfl
theorem llen_len : ∀ l : List V, llen l = l.length
  | [] => rfl
  | _ :: l => by simp [llen, llen_len l]
/-- **A range over a method value**: the iterator's code is run in place. ('y': how many values it is bound to; 'tok': a number that no other range under way has; 'ts': the temporaries that are kept.) -/
theorem range_m (hm : P.follows .mixedOrders = true) (hT : ∀ t i, tget T t = some i → tiOf P t = some i) {f : Operand} {ps : Array Tmp} {ag bd : Code} {fr : Fr} {H : SW} {K : Exit → Fr → SW → Prop} {fid : Nat} {caps : List V} (hf : ev fr f = some (.mv fid caps)) (y : Nat)
    (fn : Func) {nm og : String} {ta pt rt : Array TypeId} {nf nt : Nat} {c : Code} {nr ou : Bool} {fl : String} {el : Nat} {ln : Option Nat} {mt : List Departure} {tn : Array String}
    (hfn : P.funcs[fid]? = some fn) (he : fn = ⟨nm, og, ta, pt, rt, nf, nt, #[], some c, nr, ou, fl, el, ln, mt, tn⟩) (hB : fnB P fid (Nat.succ (llen caps)) = true) (tok : Nat) (ts : List Nat) (htok : noTok tok H.l = true)
    (h : ∀ L : LInfo, L.fr = keepFr ts fr → L.ps.toList = ps.toList → L.ag = ag → L.bd = bd → L.tok = tok → LOK L → codeW P T c (argFr 0 (lapp caps [.yld H.n])) (H.push (.loop L .ready)) (exitY H.n y L (keepFr ts fr) K)) : rangeW P T f ps ag bd fr H K := by
  subst he
  refine ⟨fun n hc => ?_⟩
  intro w0 rd out m b hrd ha hw Q hQ
  obtain rfl : rd = none := by cases rd with | none => rfl | some _ => cases hrd
  have hc' : okX f = true ∧ (ps.toList.all fun t => decide (t < n)) = true ∧ chk n true ag = true ∧ chk n true bd = true := by
    simp only [chk, Bool.and_eq_true] at hc
    exact ⟨hc.1.1.1.2, hc.1.1.2, hc.1.2, hc.2⟩
  unfold fnB at hB
  simp only [hfn, Bool.and_eq_true, decide_eq_true_eq, Bool.not_eq_true'] at hB
  obtain ⟨⟨hcc, hent⟩, hlen⟩ := hB
  have hcaps : llen caps = caps.length := llen_len caps
  rw [hcaps] at hlen
  have hen : Enters P fid := enters_of hfn hent rfl
  have hfv := ha.eval hw.gl hc'.1 hf
  generalize hx : b.eval f = x at hfv
  cases hfv with
  | @mv _ _ ys hs hh =>
  have hys : LR m caps ys.toList := ⟨hs, hh⟩
  refine wpIn_rangeFunc fun fn0 _ => ?_
  let rec0 : Loop := { state := .ready, pending := none, fn := fn0, tmps := b.tmps, params := ps, assign := ag, body := bd, defers := m.W.heap.size }
  let L : LInfo := ⟨keepFr ts fr, ps, ag, bd, n, tok⟩
  let WA := m.W.alloc (.deferred (some []))
  let W1 := WA.alloc (.loop rec0)
  let g := m.W.heap.size + 1
  have hWA : WA.heap.size = m.W.heap.size + 1 := World.size_alloc _ _
  have hgA : WA.heap[m.W.heap.size]? = some (.deferred (some [])) := World.alloc_heap_new _ _
  have hg1 : W1.heap[g]? = some (.loop rec0) := by
    have := World.alloc_heap_new WA (.loop rec0); rwa [hWA] at this
  refine ⟨g, [{ target := .collected m.W.heap.size, args := #[] }], W1, { target := .fn (.func fid) #[], args := ys ++ #[Value.func (.yield g) #[] #[]] }, W1, fid, (ys ++ #[Value.func (.yield g) #[] #[]]) ++ #[], W1, run_enterLoop_outer _ _ _ _ _, ?_, fun _ _ => trivial, ?_, fun h => by simp [Fence.wide] at h, ?_⟩
  · simp only [resolve, hx]
    simp [go_sem]
  · simp [invoke, go_sem]
    exact hen _ _
  refine callsIn_of_wp_marks hfn rfl trivial ?_
  -- the state at the iterator's start
  obtain ⟨wA, _⟩ := hw.other (W' := WA) (hw.ov.alloc _) (fun b g C s h1 h2 => heap_alloc_old m.W _ (hw.blk b g C s h1 h2).lt) (fun g hg => heap_alloc_old m.W _ (hw.fr g hg)) (size_alloc_le _ _) (fun g hg => heap_alloc_old m.W _ (Array.getElem?_eq_some_iff.1 (hw.marks g hg).2.2).1)
  let D1 : Mk := ⟨m.W.heap.size :: m.D.d, fun k => if k = tok then some (g, b.tmps) else m.D.r k⟩
  have hfrm : ∀ j ∈ m.D.d, j < m.W.heap.size := fun j hj => (Array.getElem?_eq_some_iff.1 (hw.marks j hj).2.2).1
  have wB : WR w0 { { m with W := WA } with D := D1 } H := wA.marksTo (fun b' g' C' i s h1 h2 => by
      have := noTok_get htok b' i s h2
      show (if i.tok = tok then _ else _) = _
      rw [if_neg this]) (fun j hj => by
      rcases List.mem_cons.1 hj with rfl | hj
      · exact ⟨hw.ov.size, fun hF => by have := hw.fr _ hF; omega, hgA⟩
      · exact wA.marks j hj) (List.nodup_cons.2 ⟨fun hm' => by have := hfrm _ hm'; omega, hw.uniq⟩)
  have hle1 : Le m { m with φ := upd m.φ H.n (g, 0), W := W1, D := D1 } := ⟨fun b' q hb => by
      have := hw.dom b' q hb
      simp only [Fx.upd]; rw [if_neg (by omega)]; exact hb, fun _ h => h, fun j hj => by
      have := hw.fr j hj
      show W1.heap[j]? = _
      rw [show W1.heap[j]? = WA.heap[j]? from heap_alloc_old WA _ (by omega)]
      exact heap_alloc_old m.W _ this⟩
  obtain ⟨wC, _⟩ := wB.pushNew (W' := W1) (s := .loop L .ready) (g := g) (C := 0) (wB.ov.alloc _) (fun j hj => heap_alloc_old WA _ hj) (size_alloc_le _ _) (Nat.le_of_eq hWA)
    ⟨rec0, hg1, by show (if tok = tok then _ else _) = _; rw [if_pos rfl], rfl, rfl, rfl, rfl, rfl, ha.n, fun t v hv => (ha.get t v (keepFr_get ts t v hv)).mono hle1⟩
  let m1 : Mem := { m with φ := upd m.φ H.n (g, 0), W := W1, D := D1 }
  have wC : WR w0 m1 (H.push (.loop L .ready)) := wC
  have hargs : LR m1 (lapp caps [.yld H.n]) ((ys ++ #[Value.func (.yield g) #[] #[]]) ++ #[]).toList := by
    rw [lapp_app, Array.append_empty, Array.toList_append]
    exact (hys.mono hle1).append (LR.one (.yld (k := 0) (by simp)))
  have hsz : ((ys ++ #[Value.func (.yield g) #[] #[]]) ++ #[] : Array Value).size = caps.length + 1 := by have h1 := hys.1; simp at h1 ⊢; omega
  have haC : AR m1 nt m1.D (argFr 0 (lapp caps [.yld H.n])) { tmps := ((ys ++ #[Value.func (.yield g) #[] #[]]) ++ #[]) ++ Array.replicate (nt - ((ys ++ #[Value.func (.yield g) #[] #[]]) ++ #[] : Array Value).size) undef, defers := [] } := by
    refine ⟨by rw [Array.size_append, Array.size_replicate, hsz]; show _ = nt; have : caps.length.succ ≤ nt := hlen; omega, fun t w hw' => ?_, ⟨[], by simp, rfl⟩, rfl⟩
    rw [argFr_get, if_pos (Nat.zero_le _), Nat.sub_zero] at hw'
    obtain ⟨u, hu, hr⟩ := hargs.get? hw'
    rw [Array.getElem?_toList] at hu
    have hlt : t < ((ys ++ #[Value.func (.yield g) #[] #[]]) ++ #[] : Array Value).size := (Array.getElem?_eq_some_iff.1 hu).1
    have : (((ys ++ #[Value.func (.yield g) #[] #[]]) ++ #[]) ++ Array.replicate (nt - ((ys ++ #[Value.func (.yield g) #[] #[]]) ++ #[] : Array Value).size) undef).getD t undef = u := by
      rw [Array.getD_eq_getD_getElem?, Array.getElem?_append_left hlt, hu]; rfl
    rw [this]; exact hr
  have hcode := h L rfl rfl rfl rfl rfl ⟨hc'.2.2.1, hc'.2.2.2, hc'.2.1⟩
  refine codeW_ok hm hT c _ _ _ hcc hcode w0 none m1.D m1 _ rfl haC wC _ fun e fr' H' m' b' k x1 x2 x3 => ?_
  have main : leaveY H.n y L (keepFr ts fr) K fr' H' → LeavesInM (FW none) 0 P ⟨nm, og, ta, pt, rt, nf, nt, #[], some c, nr, ou, fl, el, ln, mt, tn⟩ b'.tmps (rangePost (FW none) 0 P g Q { b with defers := [{ target := .collected m.W.heap.size, args := #[] }] ++ b.defers }) b'.defers .returning m'.W := by
    intro hleave
    unfold leaveY at hleave
    split at hleave
    case h_2 => exact hleave.elim
    rename_i l' hy
    split at hleave
    case h_2 => exact hleave.elim
    rename_i hl'
    obtain rfl : l' = H.n := by
      rcases nbeq_cases l' H.n with ⟨_, e⟩ | ⟨e, _⟩
      · exact e
      · rw [hl'] at e; cases e
    split at hleave
    case h_2 => exact hleave.elim
    rename_i L' s hget'
    obtain ⟨hLL, hk⟩ := hleave
    subst hLL
    have hk := spineH_ok _ _ hk
    obtain ⟨g', C', hφ'⟩ : ∃ g' C', m'.φ H.n = some (g', C') := by
      have hv := x2.get y _ hy
      generalize b'.tmps.getD y undef = u at hv
      cases hv with
      | yld h => exact ⟨_, _, h⟩
    obtain ⟨own, o1, o2⟩ := x2.dfr
    rw [o2]
    refine marks_ok (out := m1.D.d) own m' o1 x3 fun m2 e1 e2 e3 e4 e6 e5 => ?_
    refine ⟨.tuple #[], by simp [results, go_sem], ?_⟩
    have hφ2 : m2.φ H.n = some (g', C') := by rw [e1]; exact hφ'
    obtain ⟨r2, hr2⟩ := e5.blk H.n g' C' _ hφ2 hget'
    have htk := hr2.tok
    rw [e6, x2.dr] at htk
    have htk2 : some (g, b.tmps) = some (g', r2.tmps) := by
      rw [← htk]
      show _ = (if tok = tok then _ else _)
      rw [if_pos rfl]
    injection htk2 with htk2
    obtain ⟨hgg, htm⟩ := Prod.mk.inj htk2
    subst hgg
    -- behind the iterator
    have hhigh := e5.high H.n g C' _ hφ2 hget'
    obtain ⟨wD, _⟩ := e5.kill (b := H.n) (.inl (by rw [hφ2]; simp))
    have live : ∀ b0 s0, (H'.del H.n).get b0 = some s0 → b0 ≠ H.n ∧ H'.get b0 = some s0 := fun b0 s0 hb0 => by
      rw [SW.get_del] at hb0
      split at hb0
      · cases hb0
      · rename_i hne; exact ⟨hne, hb0⟩
    have notg : ∀ b0 g0 C0 s0, m2.φ b0 = some (g0, C0) → (H'.del H.n).get b0 = some s0 → g0 ≠ g := fun b0 g0 C0 s0 h1 h2 hgg => by
      subst hgg
      obtain ⟨l1, l2⟩ := live b0 s0 h2
      exact l1 (e5.inj b0 H.n g C0 C' s0 _ h1 hφ2 l2 hget')
    have hmark2 : ∀ j ∈ m2.D.d, j ≠ g := fun j hj hjg => by
      subst hjg
      have := (e5.marks g hj).2.2
      rw [hr2.at_] at this; cases this
    obtain ⟨wE, _⟩ := wD.other (W' := m2.W.putObj g (.loop { r2 with state := .exhausted })) (ov_putObj e5.ov hhigh.1) (fun b0 g0 C0 s0 h1 h2 => putObj_other (notg b0 g0 C0 s0 h1 h2)) (fun j hj => putObj_other (by rintro rfl; exact hhigh.2 hj)) (Nat.le_of_eq putObj_size.symm) (fun j hj => putObj_other (hmark2 j hj))
    have wF : WR w0 { { m2 with W := m2.W.putObj g (.loop { r2 with state := .exhausted }) } with D := ⟨m1.D.d, m.D.r⟩ } (H'.del H.n) := wE.marksTo (fun b0 g0 C0 i s0 h1 h2 => by
        obtain ⟨l1, l2⟩ := live b0 _ h2
        obtain ⟨r0, hr0⟩ := e5.blk b0 g0 C0 _ h1 l2
        have ht := hr0.tok
        have hne := notg b0 g0 C0 _ h1 h2
        show m.D.r i.tok = m2.D.r i.tok
        rw [e6, x2.dr] at ht ⊢
        change (if i.tok = tok then some (g, b.tmps) else m.D.r i.tok) = _ at ht
        show _ = (if i.tok = tok then some (g, b.tmps) else m.D.r i.tok)
        by_cases hti : i.tok = tok
        · rw [if_pos hti] at ht
          injection ht with ht
          obtain ⟨ht, _⟩ := Prod.mk.inj ht
          exact (hne ht.symm).elim
        · rw [if_neg hti]) (fun j hj => by
        have hj' : j ∈ m2.D.d := by rw [e4]; exact hj
        exact wE.marks j hj') (by show m1.D.d.Nodup; rw [← e4]; exact e5.uniq)
    let m3 : Mem := { { m2 with W := m2.W.putObj g (.loop { r2 with state := .exhausted }) } with D := ⟨m1.D.d, m.D.r⟩ }
    have le23 : Le m2 m3 := ⟨fun _ _ h => h, fun _ h => h, fun j hj => putObj_other (by rintro rfl; exact hhigh.2 hj)⟩
    have hown : ∀ j ∈ own, ¬ m'.F j := fun j hj => (x3.marks j (by rw [o1]; exact List.mem_append_left _ hj)).2.1
    have kp3 : Kp m m3 := by
      refine (hle1.kp.trans x1).trans ⟨fun j hj => ?_, fun j hj => ?_⟩
      · show m2.F j
        rw [e2]; exact hj
      · rw [le23.mem j (by rw [e2]; exact hj)]
        exact e3 j fun ho => hown j ho hj
    have ar3 : AR m3 n out (keepFr ts fr) { b with defers := [{ target := .collected m.W.heap.size, args := #[] }] ++ b.defers } := by
      obtain ⟨own0, p1, p2⟩ := ha.dfr
      refine ⟨ha.n, fun t v hv => ?_, ⟨m.W.heap.size :: own0, ?_, ?_⟩, ha.dr⟩
      · have := (hr2.fr t v hv).mono le23
        rw [← htm] at this
        exact this
      · show m.W.heap.size :: m.D.d = _
        rw [p1]; rfl
      · show _ :: b.defers = _
        rw [p2]; rfl
    have hst : r2.state ≠ .busy := by
      rw [hr2.st]
      cases s with
      | busy => exact hk.elim
      | ready => simp [LSt.of]
      | ret => simp [LSt.of]
      | exit id => simp [LSt.of]
    have fin : ∀ jump : Option Code, jump = s.of.2 → (match jump with
        | none => Q .normal { b with defers := [{ target := .collected m.W.heap.size, args := #[] }] ++ b.defers } m3.W
        | some c => c.wpIn (FW none) 0 P Q { b with defers := [{ target := .collected m.W.heap.size, args := #[] }] ++ b.defers } m3.W) := by
      rintro jump rfl
      cases s with
      | busy => exact hk.elim
      | ready => exact hQ .normal _ _ m3 _ hk kp3 ar3 wF
      | ret => exact wpIn_ret (hQ .ret _ _ m3 _ hk kp3 ar3 wF)
      | exit id => exact wpIn_exit (hQ (.exit id) _ _ m3 _ hk kp3 ar3 wF)
    exact ⟨_, _, run_endLoop hr2.at_ hst, fin _ hr2.pe⟩
  cases e with
  | normal => exact main k
  | ret => exact main k
  | exit id => exact k.elim
  | goto l => exact k.elim
  | panic c => exact k.elim
  | outgrown => exact k.elim
end
end Go.Proofs.YtaejdonacadpkabDoor.Fx
