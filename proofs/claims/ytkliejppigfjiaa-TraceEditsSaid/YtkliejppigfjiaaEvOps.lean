/-
  What the evaluator makes of one operation is what the machine makes of it: operations that yield a value.
  Conditions: none.
-/
import Derived.Test.YtkliejppigfjiaaEvRel
import Derived.Deep.AppendSrc
import Derived.Deep.MidRow
namespace Go.Proofs.Ytkliejppigfjiaa.Ev
open Go.RowKit

section
variable {P : Program} {w0 : World} {φ : Phi} {H : SW} {W : World}

theorem srun0_ok {α : Type} : ∀ (s : Sem α) (a : α) (w : World), srun0 P s = some a → s.run P w = .ok a w
  | .pure _, _, _, h => by simp only [srun0, Option.some.injEq] at h; subst h; rfl
  | .program k, a, w, h => srun0_ok (k P) a w h
  | .mark _ k, a, w, h => srun0_ok k a w h
  | .load .., _, _, h => by cases h
  | .store .., _, _, h => by cases h
  | .new .., _, _, h => by cases h
  | .shape .., _, _, h => by cases h
  | .freeze .., _, _, h => by cases h
  | .frozen .., _, _, h => by cases h
  | .getObj .., _, _, h => by cases h
  | .setObj .., _, _, h => by cases h
  | .choose .., _, _, h => by cases h
  | .sys .., _, _, h => by cases h
  | .halt _, _, _, h => by cases h

/-- What a quiet operation does. -/
def QOk (P : Program) (φ : Phi) (W : World) (ρ' : Operand → Value) (o : Oper) (v : Value) : Prop := ∃ v', (execOp ρ' o).run P W = .ok (.value v') W ∧ VR φ v v'

theorem gen_ok {ρ ρ' : Operand → Value} {o : Oper} {v : Value} (hsel : ∀ cs b, o.op ≠ .select cs b) (hρ : ∀ x ∈ o.op.operands, VR φ (ρ x) (ρ' x)) (h : genS P ρ o = some v) : QOk P φ W ρ' o v := by
  unfold genS at h
  split at h
  · rename_i hall
    have hsame : ∀ x ∈ o.op.operands, ρ x = ρ' x := fun x hx => (grd_same 3 _ _ (List.all_eq_true.1 hall x (Array.mem_toList_iff.2 hx)) (hρ x hx)).symm
    rw [execOp_congr o hsel hsame] at h
    split at h
    · rename_i u hu
      split at h
      · rename_i hg
        injection h with h
        subst h
        exact ⟨u, srun0_ok _ _ _ hu, grd_self 3 _ hg⟩
      · cases h
    · cases h
  · cases h

theorem cells_at (hw : WR P w0 φ H W) {b g k : Nat} (hb : φ b = some (g, k)) {cs : List Value} {t : TypeId} {ex : Bool} (hg : H.get b = some (.cells cs t ex)) :
    ∃ ds : List Value, LR φ cs ds ∧ (∀ (j : Nat) (u : Value), ds[j]? = some u → W.cell? ⟨g, j, none⟩ = some u) := by
  obtain ⟨ds, h1, _, _, h4⟩ := hw.blk b g k _ hb hg
  refine ⟨_, h4, fun j u hu => ?_⟩
  rw [List.getElem?_take] at hu
  split at hu
  · simp [World.cell?, h1, ← hu]
  · cases hu
theorem load_ok (hw : WR P w0 φ H W) {b g k off : Nat} (hb : φ b = some (g, k)) {t : TypeId} {v : Value} (h : loadS P t b off H = some v) :
    ∃ v', (loadVar t ⟨g, off, none⟩).run P W = .ok v' W ∧ VR φ v v' := by
  unfold loadS at h
  split at h
  · rename_i cs t' ex hg
    obtain ⟨ds, hl, hc⟩ := cells_at hw hb hg
    split at h
    · rename_i n hn
      split at h
      · rename_i hle
        injection h with h
        subst h
        have hlen : ((ds.drop off).take n).length = n := by rw [List.length_take, List.length_drop, ← hl.1]; omega
        have hrange : W.rangeAt g off ((ds.drop off).take n) := fun j u hu => by
          rw [List.getElem?_take] at hu
          split at hu
          · rw [List.getElem?_drop] at hu; exact hc _ _ hu
          · cases hu
        unfold aggSize at hn
        split at hn
        · rename_i fs hu
          exact ⟨_, run_loadVar_mid W g off t _ _ hrange hu rfl (by rw [hlen]; simpa using hn), VR.aggL ((hl.drop off).take n)⟩
        · rename_i m e hu
          exact ⟨_, run_loadVar_mid W g off t _ _ hrange hu rfl (by rw [hlen]; simpa using hn), VR.aggL ((hl.drop off).take n)⟩
        · cases hn
        · cases hn
      · cases h
    · rename_i hn
      obtain ⟨v', hv', hr⟩ := hl.get? h
      refine ⟨v', ?_, hr⟩
      have hcell := hc _ _ hv'
      unfold aggSize at hn
      have hl : (load ⟨g, off, none⟩).run P W = .ok v' W := by simp [load, Sem.run, hcell]
      split at hn
      · rename_i hu; cases hi : P.info? t <;> simp [hi] at hn
      · rename_i hu; cases hi : P.info? t <;> simp [hi] at hn
      · rename_i d h1 h2 hu
        have hag : (isAgg t).run P W = .ok false W := by
          unfold isAgg
          rw [Sem.run_bind, run_underlying hu W]
          cases d <;> simp_all
        simp only [loadVar, Sem.run_bind, hag, Result.andThen_ok, Bool.false_eq_true, if_false, hl]
      · cases hn
    · cases h
  · cases h
theorem loadQ_ok (hw : WR P w0 φ H W) {x x' : Value} (hx : VR φ x x') {t : TypeId} {v : Value} (h : loadQ P t x H = some v) :
    ∃ b g k off, φ b = some (g, k) ∧ x = .pointer (some ⟨b, off, none⟩) ∧ x' = .pointer (some ⟨g, off, none⟩) ∧ ∃ v', (loadVar t ⟨g, off, none⟩).run P W = .ok v' W ∧ VR φ v v' := by
  unfold loadQ at h
  split at h
  · rename_i b off
    cases hx with
    | sc h' => simp [Ev.sc] at h'
    | ptr hb => exact ⟨_, _, _, _, hb, rfl, rfl, load_ok hw hb h⟩
  · cases h

theorem elemSize_spec {t e : TypeId} {n : Nat} (h : elemSize P t = some (e, n)) : P.underlying t = some (.slice e) ∧ ∃ i, P.info? e = some i ∧ i.size = n := by
  unfold elemSize at h
  split at h
  · rename_i e' hu
    cases hi : P.info? e' with
    | none => simp [hi] at h
    | some i => simp [hi] at h; obtain ⟨rfl, rfl⟩ := h; exact ⟨hu, i, hi, rfl⟩
  · cases h
theorem zeroS_spec {t : TypeId} {z : List Value} (h : zeroS P t = some z) : ∃ i v, P.info? t = some i ∧ i.zero = some v ∧ v.cells.toList = z ∧ z.all sc = true := by
  unfold zeroS at h
  split at h
  · rename_i v hv
    split at h
    · rename_i hs
      injection h with h
      cases hi : P.info? t with
      | none => simp [hi] at hv
      | some i => exact ⟨i, v, rfl, by simpa [hi] using hv, h, by rw [← h]; exact hs⟩
    · cases h
  · cases h

theorem fieldAddr_ok {ρ' : Operand → Value} {o : Oper} {s : TypeId} {x : Operand} {f : Nat} (ho : o.op = .fieldAddr s x f) {u v : Value} (hx : VR φ u (ρ' x)) (h : fieldAddrQ P s u f = some v) : QOk P φ W ρ' o v := by
  unfold fieldAddrQ at h
  split at h
  · rename_i b off
    split at h
    · rename_i d hd
      injection h with h; subst h
      generalize hx' : ρ' x = x' at hx
      cases hx with
      | sc h' => simp [Ev.sc] at h'
      | ptr hb =>
        unfold fieldOff at hd
        split at hd
        · rename_i fs hu
          split at hd
          · rename_i fd hf
            split at hd
            · rename_i i hi
              split at hd
              · cases hd
              · rename_i hs
                injection hd with hd; subst hd
                refine ⟨_, ?_, .ptr hb⟩
                simp [execOp, ho, Instr.fieldAt, run_underlying hu, hf, Instr.sureAddr, hx', fieldPlace, sizeOf, typeInfo, hi, hs, addr_add]
            · cases hd
          · cases hd
        · cases hd
    · cases h
  · cases h

theorem indexAddr_ok {ρ' : Operand → Value} {o : Oper} {t : TypeId} {x ix : Operand} (ho : o.op = .indexAddr t x ix) {u i v : Value} (hx : VR φ u (ρ' x)) (hi : VR φ i (ρ' ix)) (h : indexAddrQ P t u i = some v) : QOk P φ W ρ' o v := by
  unfold indexAddrQ at h
  split at h
  · rename_i e size b off len c k i he
    split at h
    · rename_i hr
      injection h with h; subst h
      obtain ⟨hu, inf, hinf, hsz⟩ := elemSize_spec he
      have hi' := hi.of_sc rfl
      generalize hx' : ρ' x = x' at hx
      cases hx with
      | sc h' => simp [Ev.sc] at h'
      | slc hb =>
        refine ⟨_, ?_, .ptr hb⟩
        simp [execOp, ho, Instr.indexAt, run_underlying hu, hx', hi', asIntOf, hr, sizeOf, typeInfo, hinf, hsz, addr_add]
    · cases h
  · cases h

theorem bound_ok {ρ ρ' : Operand → Value} {x : Operand} {d top top' n : Nat} {code : BoundsCode} (hx : VR φ (ρ x) (ρ' x)) (ht : top ≤ top') (h : boundS ρ d top (some x) = some n) : (Instr.sliceBound (ρ' x) top' code).run P W = .ok n W ∧ n ≤ top := by
  simp only [boundS] at h
  split at h
  · rename_i k i hi
    split at h
    · rename_i hr
      injection h with h; subst h
      rw [hi] at hx
      have hi' := hx.of_sc rfl
      rw [hi']
      have : 0 ≤ i ∧ i ≤ (top' : Int) := ⟨hr.1, by omega⟩
      exact ⟨by simp [Instr.sliceBound, asIntOf, this], by omega⟩
    · cases h
  · cases h

theorem slice_ok (hw : WR P w0 φ H W) {ρ ρ' : Operand → Value} {o : Oper} {t : TypeId} {x : Operand} {lo hi : Option Operand} (ho : o.op = .slice t x lo hi none) (hρ : ∀ y ∈ o.op.operands, VR φ (ρ y) (ρ' y)) {v : Value}
    (h : sliceS P ρ t x lo hi H = some v) : QOk P φ W ρ' o v := by
  unfold sliceS at h
  split at h
  · rename_i e size b off len c he hxv
    obtain ⟨hu, inf, hinf, hsz⟩ := elemSize_spec he
    have hx := hρ x (by simp [ho, Op.operands])
    rw [hxv] at hx
    generalize hx' : ρ' x = x' at hx
    cases hx with
    | sc h' => simp [Ev.sc] at h'
    | slc hb =>
      rename_i g k
      split at h
      · rename_i hh hhi
        split at h
        · rename_i ll hlo
          have hbounds : (Instr.sliceBounds true len (c + k) (lo.map ρ') (hi.map ρ') none).run P W = .ok (ll, hh, c + k) W ∧ ll ≤ hh := by
            have h1 : (match hi.map ρ' with | some v => Instr.sliceBound v (c + k) .sliceAcap | none => pure len : Sem Nat).run P W = .ok hh W := by
              cases hi with
              | none => simp only [boundS, Option.some.injEq] at hhi; subst hhi; rfl
              | some y => exact (bound_ok (hρ y (by simp [ho, Op.operands])) (by omega) hhi).1
            have h2 : (match lo.map ρ' with | some v => Instr.sliceBound v hh .sliceB | none => pure 0 : Sem Nat).run P W = .ok ll W ∧ ll ≤ hh := by
              cases lo with
              | none => simp only [boundS, Option.some.injEq] at hlo; subst hlo; exact ⟨rfl, Nat.zero_le _⟩
              | some y => exact bound_ok (hρ y (by simp [ho, Op.operands])) (Nat.le_refl _) hlo
            refine ⟨?_, h2.2⟩
            have h2' := h2.1
            cases hi <;> cases lo <;> simp only [Option.map_none, Option.map_some] at h1 h2' ⊢ <;> simp [Instr.sliceBounds, h1, h2'] <;> simp_all
          obtain ⟨hbo, hle⟩ := hbounds
          have hrun : ∀ A, (if c + k = ll then some (⟨g, off, none⟩ : Addr) else some ⟨g, off + ll * size, none⟩) = A →
              (execOp ρ' o).run P W = .ok (.value (.slice A (hh - ll) (c + k - ll))) W := by
            intro A hA
            subst hA
            simp [execOp, ho, Instr.sliceAt, Instr.slice, run_underlying hu, hx', hbo, sizeOf, typeInfo, hinf, hsz, addr_add]
          split at h
          · rename_i hcl
            split at h
            · rename_i cs t' hget
              injection h with h; subst h
              obtain ⟨ds, _, hk, _⟩ := hw.blk _ _ _ _ hb hget
              obtain rfl := hk rfl
              refine ⟨_, hrun _ rfl, ?_⟩
              rw [if_pos (by omega), show c + 0 - ll = 0 + 0 by omega]
              exact .slc hb
            · cases h
          · rename_i hcl
            split at h
            · injection h with h; subst h
              refine ⟨_, hrun _ rfl, ?_⟩
              rw [if_neg (by omega), show c + k - ll = c - ll + k by omega]
              exact .slc hb
            · cases h
        · cases h
      · cases h
  · cases h

theorem extract_ok {ρ' : Operand → Value} {o : Oper} {x : Operand} {ix : Nat} (ho : o.op = .extract x ix) {u v : Value} (hx : VR φ u (ρ' x)) (h : extractQ u ix = some v) : QOk P φ W ρ' o v := by
  unfold extractQ at h
  split at h
  · rename_i vs
    generalize hx' : ρ' x = x' at hx
    cases hx with
    | sc h' => simp [Ev.sc] at h'
    | tup hs hh =>
      obtain ⟨v', hv', hr⟩ := (LR.ofArr hs hh).get? h
      refine ⟨v', ?_, hr⟩
      rw [Array.getElem?_toList] at hv'
      simp [execOp, ho, Instr.extract, hx', hv']
  · cases h

theorem writes_rel {off : Nat} : ∀ (xs ys : List Value) (n : Nat) (cs ds : Array Value), LR φ xs ys → LR φ cs.toList ds.toList →
    LR φ ((xs.zipIdx n).foldl (fun (a : Array Value) (p : Value × Nat) => a.setIfInBounds (off + p.2) p.1) cs).toList ((ys.zipIdx n).foldl (fun (a : Array Value) (p : Value × Nat) => a.setIfInBounds (off + p.2) p.1) ds).toList
  | [], [], _, _, _, _, h => h
  | [], _ :: _, _, _, _, h, _ => by simp [LR] at h
  | _ :: _, [], _, _, _, h, _ => by simp [LR] at h
  | x :: xs, y :: ys, n, cs, ds, h, hc => by
    simp only [List.zipIdx_cons, List.foldl_cons]
    exact writes_rel xs ys (n + 1) _ _ h.tail (by simp only [Array.toList_setIfInBounds]; exact hc.set _ h.head)
theorem fill_rel {ρ ρ' : Operand → Value} {place : Nat → Option (Nat × Nat)} : ∀ (l : List (Nat × Operand)) (cs ds cs' : Array Value), (∀ p ∈ l, VR φ (ρ p.2) (ρ' p.2)) → LR φ cs.toList ds.toList →
    Instr.fill place cs (l.map fun p => (p.1, ρ p.2)) = some cs' → ∃ ds', Instr.fill place ds (l.map fun p => (p.1, ρ' p.2)) = some ds' ∧ LR φ cs'.toList ds'.toList
  | [], cs, ds, cs', _, hc, h => by
    simp only [List.map_nil, Instr.fill, Option.some.injEq] at h
    subst h
    exact ⟨ds, rfl, hc⟩
  | p :: l, cs, ds, cs', hp, hc, h => by
    simp only [List.map_cons, Instr.fill] at h ⊢
    split at h
    · cases h
    · rename_i off size hpl
      have hv := (hp p (by simp)).cells
      have hsz : (ρ' p.2).cells.size = (ρ p.2).cells.size := by simpa using hv.1.symm
      have hsz2 : ds.size = cs.size := by simpa using hc.1.symm
      split at h
      · cases h
      · rename_i hcond
        rw [hsz, hsz2, if_neg hcond]
        refine fill_rel l _ _ cs' (fun q hq => hp q (by simp [hq])) ?_ h
        have := writes_rel (off := off) _ _ 0 cs ds hv hc
        simpa only [← Array.foldl_toList, Array.toList_zipIdx] using this

theorem places_run : ∀ (fs : List Field) (ps : List (Nat × Nat)), (fs.mapM fun f => (P.info? f.type).map fun i => (f.offset, i.size)) = some ps → (fs.mapM (m := Sem) fun f => Functor.map (Prod.mk f.offset) (sizeOf f.type)).run P W = .ok ps W
  | [], ps, h => by simp at h; subst h; simp
  | f :: fs, ps, h => by
    rw [List.mapM_cons] at h ⊢
    cases hi : P.info? f.type with
    | none => simp [hi] at h
    | some i =>
      cases hr : fs.mapM (fun f => (P.info? f.type).map fun i => (f.offset, i.size)) with
      | none => simp [hi, hr] at h
      | some qs =>
        simp [hi, hr] at h
        subst h
        have ih := places_run fs qs hr
        simp [sizeOf, typeInfo, hi] at ih ⊢
        simp [ih]
theorem build_ok {ρ ρ' : Operand → Value} {o : Oper} {t : TypeId} {parts : Array (Nat × Operand)} (ho : o.op = .build t parts) (hρ : ∀ x ∈ o.op.operands, VR φ (ρ x) (ρ' x)) {v : Value}
    (h : buildQ P t (parts.toList.map fun p => (p.1, ρ p.2)) = some v) : QOk P φ W ρ' o v := by
  unfold buildQ at h
  split at h
  · rename_i ps z hps hz
    obtain ⟨i, zv, hi, hzv, hzc, hzs⟩ := zeroS_spec hz
    unfold places at hps
    split at hps
    · rename_i fs hu
      cases hf : Instr.fill (ps[·]?) z.toArray (parts.toList.map fun p => (p.1, ρ p.2)) with
      | none => simp [hf] at h
      | some cs =>
        simp [hf] at h
        subst h
        have hp : ∀ p ∈ parts.toList, VR φ (ρ p.2) (ρ' p.2) := fun p hp => hρ p.2 (by simp only [ho, Op.operands]; exact List.mem_toArray.2 (List.mem_map.2 ⟨p, hp, rfl⟩))
        obtain ⟨ds, hd, hr⟩ := fill_rel parts.toList z.toArray z.toArray cs hp (sc_cells (by simpa using hzs)) hf
        refine ⟨.agg ds, ?_, ?_⟩
        · have hpl := places_run (W := W) fs.toList ps hps
          have hpl' : (fs.mapM (m := Sem) fun f => Functor.map (Prod.mk f.offset) (sizeOf f.type)).run P W = .ok ps.toArray W := by
            rw [Array.mapM_eq_mapM_toList]
            simp [hpl]
          have hz' : zv.cells = z.toArray := by rw [← hzc]
          simp [execOp, ho, Instr.build, zeroValue, typeInfo, hi, hzv, run_underlying hu, hpl', hz', hd]
        · obtain ⟨h1, h2⟩ := LR.toArr hr
          exact .agg h1 h2
    · cases hps
  · cases h

theorem field_ok {ρ' : Operand → Value} {o : Oper} {t : TypeId} {x : Operand} {f : Nat} (ho : o.op = .field t x f) {u v : Value} (hx : VR φ u (ρ' x)) (h : fieldQ P t u f = some v) : QOk P φ W ρ' o v := by
  unfold fieldQ at h
  split at h
  · rename_i fs cs hu
    generalize hx' : ρ' x = x' at hx
    cases hx with
    | sc h' => simp [Ev.sc] at h'
    | agg hs hh =>
      rename_i ys
      have hl := LR.ofArr hs hh
      split at h
      · rename_i fd hf
        split at h
        · rename_i n hn
          split at h
          · rename_i hle
            injection h with h; subst h
            have hag : (isAgg fd.type).run P W = .ok true W ∧ ∃ i, P.info? fd.type = some i ∧ i.size = n := by
              unfold aggSize at hn
              split at hn
              · rename_i d hud
                cases hi : P.info? fd.type with
                | none => simp [hi] at hn
                | some i => exact ⟨by simp [isAgg, run_underlying hud], i, rfl, by simpa [hi] using hn⟩
              · rename_i d e hud
                cases hi : P.info? fd.type with
                | none => simp [hi] at hn
                | some i => exact ⟨by simp [isAgg, run_underlying hud], i, rfl, by simpa [hi] using hn⟩
              · cases hn
              · cases hn
            obtain ⟨h1, i, h2, h3⟩ := hag
            refine ⟨_, ?_, VR.aggL ((hl.drop fd.offset).take n)⟩
            simp [execOp, ho, Instr.field, run_underlying hu, hf, hx', asAgg, part, h1, sizeOf, typeInfo, h2, h3]
            apply Array.ext'
            simp [Array.toList_extract]
          · cases h
        · rename_i hn
          obtain ⟨v', hv', hr⟩ := hl.get? h
          refine ⟨v', ?_, hr⟩
          rw [Array.getElem?_toList] at hv'
          have hag : (isAgg fd.type).run P W = .ok false W := by
            unfold aggSize at hn
            split at hn
            · cases hi : P.info? fd.type <;> simp [hi] at hn
            · cases hi : P.info? fd.type <;> simp [hi] at hn
            · rename_i d h1 h2 hud
              unfold isAgg
              rw [Sem.run_bind, run_underlying hud W]
              cases d <;> simp_all
            · cases hn
          simp [execOp, ho, Instr.field, run_underlying hu, hf, hx', asAgg, part, hag, hv']
        · cases h
      · cases h
  · cases h

theorem int_ok {ρ' : Operand → Value} {o : Oper} {op : BinOp} {t ty : TypeId} {x y : Operand} (ho : o.op = .binOp op t x y ty) {k : IntKind} {a b : Int} (hx : ρ' x = .int k a) (hy : ρ' y = .int k b) {v : Value} (h : intBin op k a b = some v) :
    QOk P φ W ρ' o v := by
  unfold intBin at h
  cases op <;> simp only [Option.some.injEq, reduceCtorEq] at h <;> subst h <;> refine ⟨_, ?_, .sc rfl⟩ <;> simp [execOp, ho, hx, hy, eqGuard, binOp, Op.intArith, Op.intCmp]

theorem equal_slice {t e : TypeId} (hu : P.underlying t = some (.slice e)) (a : Addr) (n c n' c' : Nat) : (Op.equal t (.slice (some a) n c) (.slice none n' c')).run P W = .ok false W := by
  unfold Op.equal Op.maxDepth
  rw [show (10000 : Nat) = 9999 + 1 from rfl, Op.equalIn]
  rw [Sem.run_bind, run_underlying hu]
  rfl
theorem equal_pointer {t e : TypeId} (hu : P.underlying t = some (.pointer e)) (a : Addr) : (Op.equal t (.pointer (some a)) (.pointer none)).run P W = .ok false W := by
  unfold Op.equal Op.maxDepth
  rw [show (10000 : Nat) = 9999 + 1 from rfl, Op.equalIn]
  rw [Sem.run_bind, run_underlying hu]
  rfl
theorem nil_ok {ρ ρ' : Operand → Value} {o : Oper} {op : BinOp} {t ty : TypeId} {x y : Operand} (ho : o.op = .binOp op t x y ty) (hρ : ∀ z ∈ o.op.operands, VR φ (ρ z) (ρ' z)) {v : Value} (h : nilQ P ρ o op t (ρ x) (ρ y) = some v) :
    QOk P φ W ρ' o v := by
  have hx := hρ x (by simp [ho, Op.operands])
  have hy := hρ y (by simp [ho, Op.operands])
  unfold nilQ at h
  split at h
  · rename_i e bb oo n c n' c' hu h1 h2
    rw [h1] at hx; rw [h2] at hy
    injection h with h; subst h
    have hy' := hy.of_sc rfl
    generalize hx' : ρ' x = x' at hx
    cases hx with
    | sc h' => simp [Ev.sc] at h'
    | slc hb => exact ⟨_, by simp [execOp, ho, hx', hy', eqGuard, binOp, equal_slice hu], .sc rfl⟩
  · rename_i e bb oo n c n' c' hu h1 h2
    rw [h1] at hx; rw [h2] at hy
    injection h with h; subst h
    have hy' := hy.of_sc rfl
    generalize hx' : ρ' x = x' at hx
    cases hx with
    | sc h' => simp [Ev.sc] at h'
    | slc hb => exact ⟨_, by simp [execOp, ho, hx', hy', eqGuard, binOp, equal_slice hu], .sc rfl⟩
  · rename_i e bb oo hu h1 h2
    rw [h1] at hx; rw [h2] at hy
    injection h with h; subst h
    have hy' := hy.of_sc rfl
    generalize hx' : ρ' x = x' at hx
    cases hx with
    | sc h' => simp [Ev.sc] at h'
    | ptr hb => exact ⟨_, by simp [execOp, ho, hx', hy', eqGuard, binOp, equal_pointer hu], .sc rfl⟩
  · rename_i e bb oo hu h1 h2
    rw [h1] at hx; rw [h2] at hy
    injection h with h; subst h
    have hy' := hy.of_sc rfl
    generalize hx' : ρ' x = x' at hx
    cases hx with
    | sc h' => simp [Ev.sc] at h'
    | ptr hb => exact ⟨_, by simp [execOp, ho, hx', hy', eqGuard, binOp, equal_pointer hu], .sc rfl⟩
  · exact gen_ok (by simp [ho]) hρ h

theorem len_ok {ρ ρ' : Operand → Value} {o : Oper} {c : Call} (ho : o.op = .call c) (hb : c.callee = .builtin .len) (hρ : ∀ z ∈ o.op.operands, VR φ (ρ z) (ρ' z)) {v : Value} (h : lenQ P ρ o (c.args.toList.map ρ) c.argTypes[0]? = some v) :
    QOk P φ W ρ' o v := by
  unfold lenQ at h
  split at h
  · rename_i A n cp e hargs hty
    injection h with h; subst h
    obtain ⟨callee, args, ts⟩ := c
    simp only at hb hargs hty
    subst hb
    obtain ⟨l⟩ := args
    simp only [List.map_eq_cons_iff, List.map_eq_nil_iff] at hargs
    obtain ⟨x, rest, rfl, hxv, rfl⟩ := hargs
    have hx := hρ x (by simp [ho, Op.operands, Call.operands])
    rw [hxv] at hx
    obtain ⟨t, ht, hu⟩ := Option.bind_eq_some_iff.1 hty
    have hx' : ∃ A' c', ρ' x = .slice A' n c' := by
      generalize ρ' x = x' at hx
      cases hx with
      | sc h' => exact ⟨_, _, rfl⟩
      | slc hb => exact ⟨_, _, rfl⟩
      | eslc => exact ⟨_, _, rfl⟩
      | enil => exact ⟨_, _, rfl⟩
    obtain ⟨A', c', hx'⟩ := hx'
    refine ⟨_, ?_, .sc rfl⟩
    simp [execOp, ho, resolve, invoke, builtin, Builtin.len_, ht, hx', run_underlying hu, goInt]
  · exact gen_ok (by simp [ho]) hρ h

theorem qop_ok (hw : WR P w0 φ H W) {ρ ρ' : Operand → Value} {o : Oper} (hρ : ∀ x ∈ o.op.operands, VR φ (ρ x) (ρ' x)) {v : Value} (h : qop P ρ o H = some v) : QOk P φ W ρ' o v := by
  have gen : genS P ρ o = some v → (∀ cs b, o.op ≠ .select cs b) → QOk P φ W ρ' o v := fun h hs => gen_ok hs hρ h
  unfold qop at h
  split at h
  case h_1 x ho => injection h with h; subst h; exact ⟨_, by simp [execOp, ho], hρ x (by simp [ho, Op.operands])⟩
  case h_2 x ho => injection h with h; subst h; exact ⟨_, by simp [execOp, ho], hρ x (by simp [ho, Op.operands])⟩
  case h_3 c a b ho =>
    unfold pickQ at h
    split at h
    · rename_i t hc
      injection h with h; subst h
      have h1 := hρ c (by simp [ho, Op.operands])
      rw [hc] at h1
      have h2 := h1.of_sc rfl
      refine ⟨if t then ρ' a else ρ' b, by simp [execOp, ho, h2, asBool], ?_⟩
      cases t
      · exact hρ b (by simp [ho, Op.operands])
      · exact hρ a (by simp [ho, Op.operands])
    · cases h
  case h_4 t x ho =>
    obtain ⟨b, g, k, off, hb, h1, h2, v', h3, h4⟩ := loadQ_ok hw (hρ x (by simp [ho, Op.operands])) h
    exact ⟨v', by simp [execOp, ho, Instr.loadAt, Instr.sureAddr, h2, h3], h4⟩
  case h_5 s x f ho => exact fieldAddr_ok ho (hρ x (by simp [ho, Op.operands])) h
  case h_6 t x ix ho => exact indexAddr_ok ho (hρ x (by simp [ho, Op.operands])) (hρ ix (by simp [ho, Op.operands])) h
  case h_7 t x lo hi ho => exact slice_ok hw ho hρ h
  case h_8 f first captured ho =>
    injection h with h; subst h
    refine ⟨_, by simp [execOp, ho, Instr.makeFunc]; rfl, ?_⟩
    have := VR.fnL2 (φ := φ) (f := f) (LR.map (f := ρ) (g := ρ') (l := first.toList) fun x hx => hρ x (by simp [ho, Op.operands]; exact .inl (Array.mem_toList_iff.1 hx))) (LR.map (f := ρ) (g := ρ') (l := captured.toList) fun x hx => hρ x (by simp [ho, Op.operands]; exact .inr (Array.mem_toList_iff.1 hx)))
    simpa [← Array.toList_map] using this
  case h_9 x ix ho => exact extract_ok ho (hρ x (by simp [ho, Op.operands])) h
  case h_10 t parts ho => exact build_ok ho hρ h
  case h_11 t x f ho => exact field_ok ho (hρ x (by simp [ho, Op.operands])) h
  case h_12 c ho =>
    unfold callQ at h
    split at h
    · rename_i hb; exact len_ok ho hb hρ h
    · exact gen h (by simp [ho])
    · exact gen h (by simp [ho])
    · cases h
  case h_13 op t x y ty ho =>
    unfold binQ at h
    split at h
    · rename_i k a k' b h1 h2
      split at h
      · rename_i hk
        obtain ⟨rfl, _⟩ := hk
        split at h
        · rename_i u hu
          injection h with h; subst h
          have hx := hρ x (by simp [ho, Op.operands])
          have hy := hρ y (by simp [ho, Op.operands])
          rw [h1] at hx; rw [h2] at hy
          exact int_ok ho (hx.of_sc rfl) (hy.of_sc rfl) hu
        · exact gen h (by simp [ho])
      · cases h
    · exact nil_ok ho hρ h
  case h_14 ho => exact gen h (by simp [ho])
  case h_15 ho => exact gen h (by simp [ho])
  case h_16 ho => exact gen h (by simp [ho])
  case h_17 => cases h
end
end Go.Proofs.Ytkliejppigfjiaa.Ev
