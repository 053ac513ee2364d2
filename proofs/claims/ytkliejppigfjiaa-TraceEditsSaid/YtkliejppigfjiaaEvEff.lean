/-
  What the evaluator makes of one operation is what the machine makes of it: new blocks, stores, append.
  Conditions: none.
-/
import Derived.Test.YtkliejppigfjiaaEvOps
import Derived.Room.Entries
namespace Go.Proofs.Ytkliejppigfjiaa.Ev
open Go.RowKit

section
variable {P : Program} {w0 : World} {φ : Phi} {H : SW} {W : World}

/-- What an operation does that calls nothing. -/
def EOk (P : Program) (w0 : World) (φ : Phi) (H : SW) (W : World) (ρ' : Operand → Value) (o : Oper) (v : Value) (H' : SW) : Prop :=
  ∃ v' W' φ', ((execOp ρ' o).run P W = .ok (.value v') W' ∨ ((execOp ρ' o).run P W = .ok .skip W' ∧ v' = undef)) ∧ WR P w0 φ' H' W' ∧ Ext φ H φ' H' ∧ VR φ' v v'

theorem push_cells (hw : WR P w0 φ H W) {W' : World} {cs : List Value} {ds : Array Value} {t : TypeId} {ex : Bool} {k : Nat} (hov : Ov w0 W') (hold : ∀ j, j < W.heap.size → W'.heap[j]? = W.heap[j]?)
    (hnew : W'.heap[W.heap.size]? = some (.cells ds t (0, 0))) (hk : ex = true → k = 0) (hsz : ds.size = cs.length + k * sz P t) (hl : LR φ cs (ds.toList.take cs.length)) :
    WR P w0 (upd φ H.n (W.heap.size, k)) (H.push (.cells cs t ex)) W' ∧ Ext φ H (upd φ H.n (W.heap.size, k)) (H.push (.cells cs t ex)) :=
  hw.push hov hold (Nat.le_refl _) ⟨ds, hnew, hk, hsz, hl.mono (Le.upd hw _)⟩
theorem push_alloc (hw : WR P w0 φ H W) {cs : List Value} {ds : Array Value} (t : TypeId) (hl : LR φ cs ds.toList) :
    WR P w0 (upd φ H.n (W.heap.size, 0)) (H.push (.cells cs t true)) (W.alloc (.cells ds t)) ∧ Ext φ H (upd φ H.n (W.heap.size, 0)) (H.push (.cells cs t true)) := by
  have hlen : ds.toList.length = cs.length := hl.1.symm
  refine push_cells hw (hw.ov.alloc _) (fun j hj => heap_alloc_old W _ hj) (heap_alloc_new W _) (fun _ => rfl) (by simpa using hlen) ?_
  rw [← hlen, List.take_length]; exact hl
theorem newVar_run (t : TypeId) (v : Value) : (newVar t v).run P W = .ok ⟨W.heap.size, 0, none⟩ (W.alloc (.cells v.cells t)) := by simp [newVar, newRow]

theorem alloc_ok (hw : WR P w0 φ H W) {ρ' : Operand → Value} {o : Oper} {t : TypeId} (ho : o.op = .alloc t) {v : Value} {H' : SW} (h : allocE P t H = some (v, H')) : EOk P w0 φ H W ρ' o v H' := by
  unfold allocE at h
  split at h
  · rename_i z hz
    obtain ⟨i, zv, hi, hzv, hzc, hzs⟩ := zeroS_spec hz
    simp only [allocS, Option.some.injEq, Prod.mk.injEq] at h
    obtain ⟨rfl, rfl⟩ := h
    obtain ⟨h1, h2⟩ := push_alloc hw (ds := zv.cells) t (sc_cells (l := z) hzs |> fun h => by rw [hzc]; exact h)
    refine ⟨_, _, _, .inl ?_, h1, h2, .ptr (k := 0) (upd_self _ _)⟩
    simp [execOp, ho, Instr.alloc, zeroValue, typeInfo, hi, hzv, newVar_run]
  · cases h
theorem box_ok (hw : WR P w0 φ H W) {ρ' : Operand → Value} {o : Oper} {t : TypeId} {x : Operand} (ho : o.op = .box t x) {u v : Value} {H' : SW} (hx : VR φ u (ρ' x)) (h : allocS t u.cells.toList H = some (v, H')) : EOk P w0 φ H W ρ' o v H' := by
  simp only [allocS, Option.some.injEq, Prod.mk.injEq] at h
  obtain ⟨rfl, rfl⟩ := h
  obtain ⟨h1, h2⟩ := push_alloc hw t hx.cells
  refine ⟨_, _, _, .inl ?_, h1, h2, .ptr (k := 0) (upd_self _ _)⟩
  simp [execOp, ho, Instr.box, newVar_run]

theorem made_self {z : List Value} (hz : z.all sc = true) (n : Nat) : LR φ ((Array.range n).map fun i => z.toArray[i % z.toArray.size]!).toList ((Array.range n).map fun i => z.toArray[i % z.toArray.size]!).toList := by
  refine LR.self (p := sc) (fun _ h => .sc h) ?_
  rw [List.all_eq_true]
  intro u hu'
  simp only [Array.toList_map, List.mem_map] at hu'
  obtain ⟨j, hj, rfl⟩ := hu'
  rw [Array.getElem!_eq_getD, Array.getD_eq_getD_getElem?]
  cases e : (z.toArray)[j % z.toArray.size]? with
  | none => rfl
  | some u =>
    obtain ⟨h1, rfl⟩ := Array.getElem?_eq_some_iff.1 e
    exact List.all_eq_true.1 hz _ (by simp)
theorem zeros_spec {n : Nat} {e : TypeId} {z : List Value} (hz : (if n = 0 then some [] else zeroS P e) = some z) :
    z.all sc = true ∧ ((n = 0 ∧ z = []) ∨ (n ≠ 0 ∧ ∃ i zv, P.info? e = some i ∧ i.zero = some zv ∧ zv.cells = z.toArray)) := by
  split at hz
  · rename_i h0; injection hz with hz; subst hz; exact ⟨rfl, .inl ⟨h0, rfl⟩⟩
  · rename_i h0
    obtain ⟨i, zv, hi, hzv, hzc, hzs⟩ := zeroS_spec hz
    exact ⟨hzs, .inr ⟨h0, i, zv, hi, hzv, by rw [← hzc]⟩⟩
theorem buildSlice_ok (hw : WR P w0 φ H W) {ρ ρ' : Operand → Value} {o : Oper} {t : TypeId} {len : Nat} {parts : Array (Nat × Operand)} (ho : o.op = .buildSlice t len parts) {v : Value} {H' : SW}
    (hρ : ∀ x ∈ o.op.operands, VR φ (ρ x) (ρ' x)) (h : buildSliceE P t len (parts.toList.map fun p => (p.1, ρ p.2)) H = some (v, H')) : EOk P w0 φ H W ρ' o v H' := by
  unfold buildSliceE at h
  split at h
  · rename_i e size he
    obtain ⟨hu, inf, hinf, hsz⟩ := elemSize_spec he
    split at h
    · cases h
    · rename_i hle
      split at h
      · rename_i z hz
        obtain ⟨hzs, hz⟩ := zeros_spec hz
        split at h
        · rename_i cs hcs
          injection h with h; obtain ⟨rfl, rfl⟩ := Prod.mk.inj h
          have hp : ∀ p ∈ parts.toList, VR φ (ρ p.2) (ρ' p.2) := fun p hp => hρ p.2 (by simp only [ho, Op.operands]; exact List.mem_toArray.2 (List.mem_map.2 ⟨p, hp, rfl⟩))
          obtain ⟨ds, hd, hr⟩ := fill_rel parts.toList _ _ cs hp (made_self hzs _) hcs
          obtain ⟨h1, h2⟩ := push_alloc hw (ds := ds) e hr
          refine ⟨.slice (some ⟨W.heap.size, 0, none⟩) len (len + 0), _, _, .inl ?_, h1, h2, .slc (k := 0) (upd_self _ _)⟩
          subst hsz
          have hle' : ¬ 16777216 < len * inf.size := by omega
          rcases hz with ⟨h0, rfl⟩ | ⟨h0, i, zv, hi, hzv, hzc⟩
          · simp [h0] at hd
            simp [execOp, ho, Instr.buildSlice, run_underlying hu, sizeOf, typeInfo, hinf, h0, hd, newRow]
          · obtain rfl : i = inf := Option.some.inj (hi.symm.trans hinf)
            simp only [← hzc] at hd
            simp only [execOp, ho, Instr.buildSlice, Sem.run_bind, run_underlying hu, sizeOf, typeInfo, zeroValue, Result.andThen_ok]
            simp [hinf, hle', h0, hzv, hd, newRow]
        · cases h
      · cases h
  · cases h

theorem makeSlice_ok (hw : WR P w0 φ H W) {ρ ρ' : Operand → Value} {o : Oper} {t : TypeId} {x y : Operand} (ho : o.op = .makeSlice t x y) {v : Value} {H' : SW}
    (hρ : ∀ x ∈ o.op.operands, VR φ (ρ x) (ρ' x)) (h : makeSliceE P t (ρ x) (ρ y) H = some (v, H')) : EOk P w0 φ H W ρ' o v H' := by
  have hx := hρ x (by simp [ho, Op.operands])
  have hy := hρ y (by simp [ho, Op.operands])
  unfold makeSliceE at h
  split at h
  · rename_i e size l c he hxv hyv
    rw [hxv] at hx; rw [hyv] at hy
    have hx' := hx.of_sc rfl
    have hy' := hy.of_sc rfl
    obtain ⟨hu, inf, hinf, hsz⟩ := elemSize_spec he
    split at h
    · rename_i i z hi hz
      obtain rfl : i = inf := Option.some.inj (hi.symm.trans hinf)
      split at h
      · rename_i hc
        obtain ⟨h1, h2, h3, h4⟩ := hc
        injection h with h; obtain ⟨rfl, rfl⟩ := Prod.mk.inj h
        obtain ⟨hzs, hz⟩ := zeros_spec hz
        obtain ⟨p1, p2⟩ := push_alloc hw e (made_self (φ := φ) hzs (c.toNat * size))
        refine ⟨.slice (some ⟨W.heap.size, 0, none⟩) l.toNat (c.toNat + 0), _, _, .inl ?_, p1, p2, .slc (k := 0) (upd_self _ _)⟩
        have wr : ∀ n : Int, 0 ≤ n → n < 2 ^ 40 → IntKind.i64.wrap n = n := fun n a b => by simp [IntKind.wrap, IntKind.bits, IntKind.signed]; omega
        have hl : IntKind.i64.wrap l = l := wr l h1 (by omega)
        have hcw : IntKind.i64.wrap c = c := wr c (by omega) h4
        have h5 : ¬ (281474976710656 : Int) < (i.bytes : Int) * c := by omega
        have h6 : ¬ c < 0 := by omega
        have h7 : ¬ l < 0 := by omega
        have h8 : ¬ c < l := by omega
        subst hsz
        rcases hz with ⟨h0, rfl⟩ | ⟨h0, i', zv, hi', hzv, hzc⟩
        · simp [execOp, ho, Instr.makeSlice, run_underlying hu, hx', hy', asInt, asIntOf, hl, hcw, sizeOf, typeInfo, hinf, h0, h5, h6, h7, h8, newRow, run_askRoom]
        · obtain rfl : i' = i := Option.some.inj (hi'.symm.trans hinf)
          simp [execOp, ho, Instr.makeSlice, run_underlying hu, hx', hy', asInt, asIntOf, hl, hcw, sizeOf, typeInfo, zeroValue, hinf, hzv, ← hzc, h0, h5, h6, h7, h8, newRow, run_askRoom]
      · cases h
    · cases h
  · cases h

theorem writeL_eq : ∀ (vs cs : List Value) (off : Nat), off + vs.length ≤ cs.length → writeL cs off vs = cs.take off ++ vs ++ cs.drop (off + vs.length)
  | [], cs, off, _ => by simp [writeL]
  | v :: vs, cs, off, h => by
    simp only [List.length_cons] at h
    rw [writeL, writeL_eq vs _ _ (by simp; omega)]
    have h1 : (cs.set off v).take (off + 1) = cs.take off ++ [v] := by
      have this : off < cs.length := by omega
      rw [List.take_add_one, List.take_set, List.set_eq_of_length_le (by simp; omega), List.getElem?_set_self this]
      rfl
    rw [h1, List.drop_set_of_lt (by omega)]
    simp [Nat.add_assoc, Nat.add_comm 1]
theorem writeL_rel : ∀ (vs ws cs ds : List Value) (n off : Nat), LR φ vs ws → LR φ cs (ds.take n) → LR φ (writeL cs off vs) ((writeL ds off ws).take n)
  | [], [], _, _, _, _, _, h => h
  | [], _ :: _, _, _, _, _, h, _ => by simp [LR] at h
  | _ :: _, [], _, _, _, _, h, _ => by simp [LR] at h
  | v :: vs, w :: ws, cs, ds, n, off, h, hc => by
    simp only [writeL]
    refine writeL_rel vs ws _ _ n (off + 1) h.tail ?_
    rw [List.take_set]
    exact hc.set _ h.head
theorem writeL_length : ∀ (vs cs : List Value) (off : Nat), (writeL cs off vs).length = cs.length
  | [], _, _ => rfl
  | v :: vs, cs, off => by rw [writeL, writeL_length]; simp
/-- Cells of a live block are written. -/
theorem put_cells (hw : WR P w0 φ H W) {b g k off : Nat} (hb : φ b = some (g, k)) {cs : List Value} {t : TypeId} {ex : Bool} (hg : H.get b = some (.cells cs t ex)) {vs ws : List Value} (hv : LR φ vs ws) (hle : off + vs.length ≤ cs.length) :
    ∃ cur : Array Value, W.heap[g]? = some (.cells cur t (0, 0)) ∧ off + ws.length ≤ cur.size ∧
      WR P w0 φ (H.put b (some (.cells (writeL cs off vs) t ex))) (W.setRow g (cur.toList.take off ++ ws ++ cur.toList.drop (off + ws.length)).toArray) ∧ Ext φ H φ (H.put b (some (.cells (writeL cs off vs) t ex))) := by
  obtain ⟨ds, h1, h2, h3, h4⟩ := hw.blk b g k _ hb hg
  have hle' : off + ws.length ≤ ds.size := by rw [← hv.1, h3]; omega
  refine ⟨ds, h1, hle', ?_⟩
  rw [← writeL_eq ws ds.toList off (by simpa using hle')]
  refine hw.put hb hg ?_ (fun j hj => setRow_other W g j _ hj) ⟨_, setRow_heap W g ds _ t _ h1, h2, ?_, ?_⟩
  · exact .of ⟨by simp [World.setRow, hw.ov.below.os], by simp [World.setRow, hw.ov.below.tape], by simp [World.setRow, hw.ov.below.output], by rw [setRow_size]; exact hw.ov.below.size, fun j hj => by
      rw [setRow_other W g j _ (by have := hw.high b g k hb; omega)]; exact hw.ov.below.block j hj⟩
  · simp [writeL_length, h3]
  · rw [writeL_length]; exact writeL_rel vs ws cs ds.toList _ off hv h4
theorem store_ok (hw : WR P w0 φ H W) {ρ ρ' : Operand → Value} {o : Oper} {t : TypeId} {a x : Operand} (ho : o.op = .store t a x) {v : Value} {H' : SW}
    (hρ : ∀ x ∈ o.op.operands, VR φ (ρ x) (ρ' x)) (h : storeE P t (ρ a) (ρ x) H = some (v, H')) : EOk P w0 φ H W ρ' o v H' := by
  have ha := hρ a (by simp [ho, Op.operands])
  have hx := hρ x (by simp [ho, Op.operands])
  unfold storeE at h
  split at h
  · rename_i b off hav
    rw [hav] at ha
    generalize ha' : ρ' a = a' at ha
    cases ha with
    | sc h' => simp [Ev.sc] at h'
    | ptr hb =>
      rename_i g k
      unfold storeS at h
      split at h
      · rename_i cs t' ex i hg hi
        split at h
        · rename_i hc
          obtain ⟨h1, h2, h3⟩ := hc
          injection h with h; obtain ⟨rfl, rfl⟩ := Prod.mk.inj h
          have hcells := hx.cells
          obtain ⟨cur, c1, c2, c3, c4⟩ := put_cells hw hb hg hcells (by simpa using h2)
          refine ⟨undef, _, φ, .inr ⟨?_, rfl⟩, c3, c4, VR.undef φ⟩
          have hst := run_storeCells_at (P := P) g off t' (ρ' x).cells.toList 0 cur W c1 (by simpa using c2) (hcells.one h3)
          have hsz : (ρ' x).cells.size = i.size := by have := hcells.1; simp at this; omega
          simp only [Nat.add_zero] at hst
          simp [execOp, ho, Instr.storeAt, Instr.sureAddr, ha', storeVar, sizeOf, typeInfo, hi, hsz, hst]
        · cases h
      · cases h
  · cases h

theorem setCells_setRow {W : World} {g o : Nat} {t : TypeId} {cur : Array Value} {vs : List Value} (h : W.heap[g]? = some (.cells cur t (0, 0))) (hl : o + vs.length ≤ cur.size) (h1 : ∀ v ∈ vs, v.oneCell' = true) :
    W.setCells g o vs = W.setRow g (cur.toList.take o ++ vs ++ cur.toList.drop (o + vs.length)).toArray := by
  have a := run_storeCells_at (P := default) g o t vs 0 cur W h (by simpa using hl) h1
  have b := run_storeCells_cells (P := default) g o vs 0 W (fun j hj => by
    have : o + j < cur.size := by omega
    simp [World.cell?, h, this]) (fun j hj => by simp [World.frozen?, h]) h1
  rw [a] at b
  injection b with _ b
  simpa using b.symm
theorem new_src (hw : WR P w0 φ H W) {x x' : Value} {size n : Nat} {new : List Value} {tx e' : TypeId} (hk : P.underlying tx = some (.slice e')) (hx : VR φ x x') (h : newS size x H = some (n, new)) :
    ∃ news, LR φ new news ∧ new.length = n * size ∧ Src P size tx x' n news W := by
  unfold newS at h
  split at h
  · simp only [Option.some.injEq, Prod.mk.injEq] at h
    obtain ⟨rfl, rfl⟩ := h
    rw [hx.of_sc rfl]
    exact ⟨[], LR.nil φ, by simp, Src.ofNil W hk _⟩
  · rename_i b off n' c
    split at h
    · rename_i cs t ex hg
      split at h
      · rename_i hc
        simp only [Option.some.injEq, Prod.mk.injEq] at h
        obtain ⟨rfl, rfl⟩ := h
        cases hx with
        | sc h' => simp [Ev.sc] at h'
        | slc hb =>
          obtain ⟨ds, hl, hcell⟩ := cells_at hw hb hg
          have hlr := (hl.drop off).take (n' * size)
          have hlen : ((cs.drop off).take (n' * size)).length = n' * size := by rw [List.length_take, List.length_drop]; omega
          refine ⟨_, hlr, hlen, Src.ofSlice W hk _ _ _ _ (by rw [← hlr.1, hlen]) (fun j u hu => ?_) (hlr.one hc.2)⟩
          rw [addr_add]
          rw [List.getElem?_take] at hu
          split at hu
          · rw [List.getElem?_drop] at hu; exact hcell _ _ hu
          · cases hu
      · cases h
    · cases h
  · cases h

theorem copy_ok (hw : WR P w0 φ H W) {ρ ρ' : Operand → Value} {o : Oper} {c : Call} (ho : o.op = .call c) (hb : c.callee = .builtin .copy) {v : Value} {H' : SW}
    (hρ : ∀ x ∈ o.op.operands, VR φ (ρ x) (ρ' x)) (h : copyE P (c.args.toList.map ρ) c.argTypes.toList H = some (v, H')) : EOk P w0 φ H W ρ' o v H' := by
  obtain ⟨callee, ⟨args⟩, ⟨ts⟩⟩ := c
  simp only at hb h
  subst hb
  unfold copyE at h
  split at h
  case h_2 => cases h
  rename_i _ b off n cp b' off' n' cp' t tx ha
  simp only [List.map_eq_cons_iff, List.map_eq_nil_iff] at ha
  obtain ⟨xs, r, rfl, hs, xx, r', rfl, hxv, rfl⟩ := ha
  have hsr := hρ xs (by simp [ho, Op.operands, Call.operands])
  have hxr := hρ xx (by simp [ho, Op.operands, Call.operands])
  rw [hs] at hsr; rw [hxv] at hxr
  have goal : ∀ v' W', (Builtin.copy_ #[t, tx] o.type #[ρ' xs, ρ' xx]).run P W = .ok v' W' → (execOp ρ' o).run P W = .ok (.value v') W' := fun v' W' hr => by
    simp [execOp, ho, resolve, invoke, builtin, hr]
  split at h
  case h_2 => cases h
  rename_i e cs t' ex cs' t2 ex2 hu hg hg'
  split at h
  case isFalse => cases h
  rename_i hc
  obtain ⟨h1, h2, h3, h4⟩ := hc
  injection h with h; obtain ⟨rfl, rfl⟩ := Prod.mk.inj h
  generalize hxs : ρ' xs = d at hsr
  generalize hxx : ρ' xx = s at hxr
  cases hsr with
  | sc h' => simp [Ev.sc] at h'
  | slc hbb =>
    rename_i g k
    cases hxr with
    | sc h' => simp [Ev.sc] at h'
    | slc hbb' =>
      rename_i g' k'
      obtain ⟨ds, hl, hcell⟩ := cells_at hw hbb' hg'
      have hlr := (hl.drop off').take (Nat.min n' n)
      have hlen : ((cs'.drop off').take (Nat.min n' n)).length = Nat.min n' n := by rw [List.length_take, List.length_drop]; omega
      obtain ⟨cur, c1, c2, c3, c4⟩ := put_cells hw hbb hg hlr (by rw [hlen]; exact h3)
      have hr := run_copy_row (P := P) W t tx o.type e g off n (cp + k) ⟨g', off', none⟩ n' (cp' + k') cur t' _ hu h1 c1 (by rw [← hlr.1, hlen]) (fun j u hu => by
        rw [addr_add]
        rw [List.getElem?_take] at hu
        split at hu
        · rw [List.getElem?_drop] at hu; exact hcell _ _ hu
        · cases hu) c2 (hlr.one h4)
      refine ⟨_, _, φ, .inl (goal _ _ (by rw [hxs, hxx]; exact hr)), c3, c4, ?_⟩
      rw [← hlr.1, hlen]
      exact .sc rfl
theorem append_ok (hw : WR P w0 φ H W) {ρ ρ' : Operand → Value} {o : Oper} {c : Call} (ho : o.op = .call c) (hb : c.callee = .builtin .append) {v : Value} {H' : SW}
    (hρ : ∀ x ∈ o.op.operands, VR φ (ρ x) (ρ' x)) (h : appendE P (c.args.toList.map ρ) c.argTypes.toList H = some (v, H')) : EOk P w0 φ H W ρ' o v H' := by
  obtain ⟨callee, ⟨args⟩, ⟨ts⟩⟩ := c
  simp only at hb h
  subst hb
  unfold appendE at h
  split at h
  case h_2 => cases h
  rename_i _ s x t tx ha
  simp only [List.map_eq_cons_iff, List.map_eq_nil_iff] at ha
  obtain ⟨xs, r, rfl, hs, xx, r', rfl, hxv, rfl⟩ := ha
  have hsr := hρ xs (by simp [ho, Op.operands, Call.operands])
  have hxr := hρ xx (by simp [ho, Op.operands, Call.operands])
  rw [hs] at hsr; rw [hxv] at hxr
  have goal : ∀ v' W', (Builtin.append_ #[t, tx] o.type #[ρ' xs, ρ' xx]).run P W = .ok v' W' → (execOp ρ' o).run P W = .ok (.value v') W' := fun v' W' hr => by
    simp [execOp, ho, resolve, invoke, builtin, hr]
  unfold appendS at h
  split at h
  case h_2 => cases h
  rename_i e e' base len cp hu hux
  split at h
  case h_2 => cases h
  rename_i i z hi hz
  obtain ⟨i', zv, hi', hzv, hzc, hzs⟩ := zeroS_spec hz
  obtain rfl : i' = i := Option.some.inj (hi'.symm.trans hi)
  split at h
  case h_2 => cases h
  rename_i n new hnew
  obtain ⟨news, hlr, hnl, hsrc⟩ := new_src hw hux hxr hnew
  try simp only at h
  split at h
  · cases h
  rename_i hguard
  simp only [not_or, Nat.not_lt, ge_iff_le, Nat.not_le, gt_iff_lt, ne_eq, Decidable.not_not] at hguard
  obtain ⟨hb0, hzl, hbig, hneed⟩ := hguard
  have hnl' : news.length = n * i'.size := hsrc.newsLen
  have hzsize : zv.cells.size = i'.size := by rw [hzl, ← hzc]; simp
  -- what the growing arm leaves
  have grow : ∀ (A : Option Addr) (cap : Nat) (olds olds' : List Value) (H1 : SW), WR P w0 φ H1 W → Ext φ H φ H1 → cap < len + n → LR φ olds olds' → olds.length = len * i'.size →
      (Builtin.firstCells i'.size len (.slice A len cap)).run P W.drew = .ok olds'.toArray W.drew → ρ' xs = .slice A len cap →
      some (v, H') = some (.slice (some ⟨H1.n, 0, none⟩) (len + n) (len + n), H1.push (.cells (olds ++ new) e false)) → H1.n = H.n → EOk P w0 φ H W ρ' o v H' := by
    intro A cap olds olds' H1 hw1 hext hcap hold holen hfirst hxs hv hn1
    injection hv with hv; obtain ⟨rfl, rfl⟩ := Prod.mk.inj hv
    have hfit : Builtin.nextslicecap (len + n) cap * i'.bytes ≤ 281474976710656 := growslice_fits hcap (by
      have : (len + n) * i'.bytes ≤ (len + n) * i'.bytes := Nat.le_refl _
      have h4 : (4 * (len + n) + 4000) * i'.bytes = 4 * ((len + n) * i'.bytes) + 4000 * i'.bytes := by rw [Nat.add_mul, Nat.mul_assoc]
      omega)
    have hr := run_append_grow_src (P := P) W t tx o.type e i' zv hu hi hzv A len cap olds' hfirst (ρ' xx) n news hsrc hcap (by omega) hfit
    have hge := grownCap_ge W (len + n) cap e
    have hl2 : LR φ (olds ++ new) (olds' ++ news) := hold.append hlr
    have hlen2 : (olds ++ new).length = (len + n) * i'.size := by rw [List.length_append, holen, hnl, Nat.add_mul]
    have hlen3 : (olds' ++ news).length = (len + n) * i'.size := by rw [← hl2.1, hlen2]
    obtain ⟨p1, p2⟩ := push_cells (k := grownCap W (len + n) cap e - (len + n)) (ex := false) hw1 (cs := olds ++ new) (t := e)
      (W' := W.drew.alloc (.cells ((olds' ++ news).toArray ++ Builtin.zeroCells zv.cells (grownCap W (len + n) cap e - (len + n))) e)) (hw1.ov.drew.alloc _)
      (fun j hj => heap_alloc_old W.drew _ hj) (heap_alloc_new W.drew _) (by simp) (by
        rw [Array.size_append, size_zeroCells, hzsize, List.size_toArray, hlen2, hlen3]
        simp [sz, hi]) (by
        rw [hlen2, Array.toList_append]
        show LR φ _ (List.take _ ((olds' ++ news) ++ _))
        rw [← hlen3, List.take_left]; exact hl2)
    refine ⟨_, _, _, .inl (goal _ _ (by rw [hxs]; exact hr)), p1, hext.trans p2, ?_⟩
    have : grownCap W (len + n) cap e = (len + n) + (grownCap W (len + n) cap e - (len + n)) := by omega
    rw [this]
    exact .slc (k := grownCap W (len + n) cap e - (len + n)) (by simp)
  split at h
  · -- nothing there yet
    split at h
    · rename_i hc
      obtain ⟨rfl, rfl⟩ := hc
      have hxs := hsr.of_sc rfl
      split at h
      · rename_i hn0
        subst hn0
        injection h with h; obtain ⟨rfl, rfl⟩ := Prod.mk.inj h
        have hnews : news = [] := List.eq_nil_of_length_eq_zero (by simpa using hnl')
        subst hnews
        refine ⟨_, _, φ, .inl (goal _ _ ?_), hw, Ext.refl φ H, .sc rfl⟩
        rw [hxs]
        have h1 := hsrc.len
        have h2 := hsrc.cells
        rcases hsrc.kind with ⟨e'', hk⟩ | hk <;> simp [Builtin.append_, run_underlying hu, run_underlying hk, sizeOf, typeInfo, hi, h1, h2]
      · rename_i hn0
        exact grow none 0 [] [] H hw (Ext.refl φ H) (by omega) (LR.nil φ) (by simp) (run_firstCells_none _ _ _ _ _) hxs (by rw [← h]; simp) rfl
    · cases h
  · rename_i b off
    generalize hxs : ρ' xs = s' at hsr
    cases hsr with
    | sc h' => simp [Ev.sc] at h'
    | slc hbb =>
      rename_i g k
      split at h
      case h_2 => cases h
      rename_i cs t' ex hg
      obtain ⟨dsA, d1, d2, d3, d4⟩ := hw.blk b g k _ hbb hg
      split at h
      · rename_i hroom
        split at h
        · rename_i hle
          injection h with h; obtain ⟨rfl, rfl⟩ := Prod.mk.inj h
          have hle1 : off + len * i'.size + new.length ≤ cs.length := by rw [hnl]; rw [Nat.add_mul] at hle; omega
          obtain ⟨cur, c1, c2, c3, c4⟩ := put_cells hw hbb hg (off := off + len * i'.size) hlr hle1
          have hr := run_append_room_src (P := P) W t tx o.type e i' hu hi g off len (cp + k) (ρ' xx) n news hsrc (by omega)
            (fun j hj => by have : off + len * i'.size + j < cur.size := by omega
                            simp [World.cell?, c1, this]) (fun j hj => by simp [World.frozen?, c1])
          rw [setCells_setRow c1 c2 hsrc.one] at hr
          exact ⟨_, _, φ, .inl (goal _ _ (by rw [hxs]; exact hr)), c3, c4, .slc hbb⟩
        · cases h
      · rename_i hfull
        split at h
        case isFalse => cases h
        rename_i hle
        obtain ⟨hle, rfl⟩ := hle
        obtain ⟨ds, hl, hcell⟩ := cells_at hw hbb hg
        have hold : LR φ ((cs.drop off).take (len * i'.size)) ((ds.drop off).take (len * i'.size)) := (hl.drop off).take _
        have holen : ((cs.drop off).take (len * i'.size)).length = len * i'.size := by rw [List.length_take, List.length_drop]; omega
        have hfirst : ∀ cap, (Builtin.firstCells i'.size len (.slice (some ⟨g, off, none⟩) len cap)).run P W.drew = .ok ((ds.drop off).take (len * i'.size)).toArray W.drew := fun cap => by
          refine run_firstCells_some W.drew i'.size len _ _ _ _ (by rw [← hold.1, holen]) fun j u hu => ?_
          rw [addr_add]
          rw [List.getElem?_take] at hu
          split at hu
          · rw [List.getElem?_drop] at hu; exact hcell _ _ hu
          · cases hu
        split at h
        · rename_i hex
          obtain rfl := d2 hex
          exact grow _ (cp + 0) _ _ H hw (Ext.refl φ H) (by omega) hold holen (hfirst _) hxs (by rw [← h]) rfl
        · split at h
          case isFalse => cases h
          rename_i hex hc
          obtain ⟨rfl, hcl, rfl⟩ := hc
          obtain ⟨hk1, hk2⟩ := hw.kill hbb
          have hall : (cs.drop 0).take (cp * i'.size) = cs := by rw [List.drop_zero, hcl, List.take_length]
          by_cases hcase : cp + n ≤ cp + k
          · -- in place
            have hsz : sz P t' = i'.size := by simp [sz, hi]
            have hnk : n * i'.size ≤ k * i'.size := Nat.mul_le_mul_right _ (by omega)
            have hkn : n * i'.size + (k - n) * i'.size = k * i'.size := by rw [← Nat.add_mul]; congr 1; omega
            rw [hsz] at d3
            have hle2 : 0 + cp * i'.size + news.length ≤ dsA.size := by rw [d3, hnl']; omega
            have hr := run_append_room_src (P := P) W t tx o.type t' i' hu hi g 0 cp (cp + k) (ρ' xx) n news hsrc hcase
              (fun j hj => by have : 0 + cp * i'.size + j < dsA.size := by omega
                              simp only [World.cell?, d1]
                              simp
                              omega) (fun j hj => by simp [World.frozen?, d1])
            rw [setCells_setRow d1 hle2 hsrc.one] at hr
            have hlr2 : LR φ (cs ++ new) (dsA.toList.take (0 + cp * i'.size) ++ news) := by
              rw [Nat.zero_add, hcl]; exact d4.append hlr
            have hlen2 : (cs ++ new).length = cs.length + n * i'.size := by rw [List.length_append, hnl]
            obtain ⟨p1, p2⟩ := hk1.pushAt (s := .cells (cs ++ new) t' false) (g := g) (k := k - n)
              (W' := W.setRow g (dsA.toList.take (0 + cp * i'.size) ++ news ++ dsA.toList.drop (0 + cp * i'.size + news.length)).toArray)
              (.of ⟨by simp [World.setRow, hw.ov.below.os], by simp [World.setRow, hw.ov.below.tape], by simp [World.setRow, hw.ov.below.output], by rw [setRow_size]; exact hw.ov.below.size, fun j hj => by
                rw [setRow_other W g j _ (by have := hw.high b g k hbb; omega)]; exact hw.ov.below.block j hj⟩)
              (fun j _ hj => setRow_other W g j _ hj) (hw.high b g k hbb) (fun c' k' s' h1 h2 => by
                rw [SW.get_put] at h2
                split at h2
                · cases h2
                · rename_i hne; exact hne (hw.inj c' b g k' k s' _ h1 hbb h2 hg))
              ⟨_, setRow_heap W g dsA _ t' _ d1, by simp, by
                have e3 : dsA.toList.length = cs.length + k * i'.size := by simpa using d3
                have e4 := hlr2.1
                rw [List.size_toArray, List.length_append, ← e4, hlen2, List.length_drop, e3, hsz, hnl']
                omega, by
                show LR _ _ (List.take _ ((_ ++ _) ++ _))
                rw [hlr2.1, List.take_left]
                exact hlr2.mono (Le.upd hk1 _)⟩
            injection h with h; obtain ⟨rfl, rfl⟩ := Prod.mk.inj h
            refine ⟨_, _, _, .inl (goal _ _ (by rw [hxs]; exact hr)), p1, hk2.trans p2, ?_⟩
            have e1 : cp + k = (cp + n) + (k - n) := by omega
            rw [e1]
            exact .slc (k := k - n) (upd_self _ _)
          · refine grow _ (cp + k) cs _ _ hk1 hk2 (by omega) (by rw [hall] at hold; exact hold) hcl.symm (hfirst _) hxs (by rw [← h]; rfl) rfl
  · cases h
end
end Go.Proofs.Ytkliejppigfjiaa.Ev
