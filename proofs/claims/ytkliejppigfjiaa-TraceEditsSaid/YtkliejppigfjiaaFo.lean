/-
  What the run on values by content says of one operation holds of the machine: operations that change nothing.
  Conditions: the table of types is the program's.
-/
import Derived.Test.YtkliejppigfjiaaFd
import Derived.Deep.AppendSrc
import Derived.Deep.MidRow
import Derived.MapKept
namespace Go.Proofs.Ytkliejppigfjiaa.Fx
open Go.RowKit

theorem intBeq (a b : Int) : (a == b) = decide (a = b) := by
  rw [Bool.eq_iff_iff]; simp
theorem lget_eq {α : Type} : ∀ (l : List α) (n : Nat), lget l n = l[n]?
  | [], _ => by simp [lget]
  | _ :: _, 0 => rfl
  | x :: l, n + 1 => by simpa [lget] using lget_eq l n
theorem ldrop_eq {α : Type} : ∀ (n : Nat) (l : List α), ldrop n l = l.drop n
  | 0, _ => rfl
  | _ + 1, [] => rfl
  | n + 1, x :: l => by simpa [ldrop] using ldrop_eq n l
theorem llen_eq {α : Type} : ∀ (l : List α), llen l = l.length
  | [] => rfl
  | _ :: l => by simp [llen, llen_eq l]
theorem lenIs_t {α : Type} : ∀ {l : List α} {n : Nat}, lenIs l n = true → l.length = n
  | [], 0, _ => rfl
  | _ :: l, n + 1, h => by simp only [lenIs] at h; simp [lenIs_t h]
  | [], _ + 1, h => by cases h
  | _ :: _, 0, h => by cases h
theorem lenGe_t {α : Type} : ∀ {l : List α} {n : Nat}, lenGe l n = true → n ≤ l.length
  | _, 0, _ => Nat.zero_le _
  | [], _ + 1, h => by cases h
  | _ :: l, n + 1, h => by simp only [lenGe] at h; simp [lenGe_t h]
theorem lapp_eq {α : Type} : ∀ (k l : List α), lapp k l = k ++ l
  | [], _ => rfl
  | _ :: k, l => by simp [lapp, lapp_eq k l]
theorem lset_eq {α : Type} : ∀ (l : List α) (n : Nat) (v : α), lset l n v = l.set n v
  | [], _, _ => rfl
  | _ :: _, 0, _ => rfl
  | x :: l, n + 1, v => by simp [lset, lset_eq l n v]
theorem lsc_eq : ∀ (l : List Value), lsc l = l.map .sc
  | [] => rfl
  | v :: l => by simp [lsc, lsc_eq l]
theorem takeK_ok : ∀ (n : Nat) (l : List V) (K : List V → Prop), takeK n l K → n ≤ l.length ∧ K (l.take n)
  | 0, l, K, h => ⟨Nat.zero_le _, by simpa [takeK] using h⟩
  | n + 1, [], K, h => by cases h
  | n + 1, x :: l, K, h => by
    obtain ⟨h1, h2⟩ := takeK_ok n l _ h
    exact ⟨by simpa using h1, by simpa using h2⟩
theorem spineK_ok : ∀ (l : List V) (K : List V → Prop), spineK l K → K l
  | [], _, h => h
  | _x :: l, _K, h => spineK_ok l _ h
theorem beq_t {a b : Nat} (h : Nat.beq a b = true) : a = b := Nat.eq_of_beq_eq_true h
theorem ble_t {a b : Nat} (h : Nat.ble a b = true) : a ≤ b := Nat.le_of_ble_eq_true h
theorem elemK_ok {v : V} {K : List V → Prop} (h : elemK v K) : K v.cells := by cases v <;> exact h
theorem forceN_ok {n : Nat} {K : Nat → Prop} (h : forceN n K) : K n := by cases n <;> exact h
theorem evs_ok {ρ : Env} : ∀ {l : List Operand} {K : List V → Prop}, evs ρ l K → ∃ vs, K vs ∧ vs.length = l.length ∧ ∀ (i : Nat) (x : Operand) (v : V), l[i]? = some x → vs[i]? = some v → ρ x = some v
  | [], K, h => ⟨[], h, rfl, fun i x v hx => by simp at hx⟩
  | x :: l, K, h => by
    simp only [evs] at h
    split at h
    · rename_i v hv
      obtain ⟨vs, h1, h2, h3⟩ := evs_ok h
      refine ⟨v :: vs, h1, by simp [h2], fun i y u hy hu => ?_⟩
      cases i with
      | zero => simp at hy hu; subst hy; subst hu; exact hv
      | succ i => exact h3 i y u (by simpa using hy) (by simpa using hu)
    · cases h
def okConst : Value → Bool
  | .agg cs => cs.toList.all Value.oneCell'
  | .tuple vs => vs.toList.all Value.oneCell'
  | v => v.oneCell'
theorem lsc_ok {m : Mem} : ∀ {l : List Value}, l.all Value.oneCell' = true → LR m (lsc l) l
  | [], _ => LR.nil m
  | v :: l, h => by
    simp only [List.all_cons, Bool.and_eq_true] at h
    exact LR.cons (.sc h.1) (lsc_ok h.2)
theorem ofV_ok {m : Mem} {v : Value} (h : okConst v = true) : VR m (ofV v) v := by
  cases v <;> first | exact VR.aggL (lsc_ok h) | exact VR.tupL (lsc_ok h) | exact .sc h
theorem lsc_get : ∀ {l : List Value} {j : Nat} {c : V} {u : Value}, (lsc l)[j]? = some c → l[j]? = some u → c = .sc u
  | [], j, c, u, h, _ => by simp [lsc] at h
  | v :: l, j, c, u, h, h' => by
    cases j with
    | zero => simp [lsc] at h h'; subst h; subst h'; rfl
    | succ j => simp [lsc] at h h'; exact lsc_get h h'
theorem lsc_len : ∀ {l : List Value}, (lsc l).length = l.length
  | [] => rfl
  | v :: l => by simp [lsc, lsc_len]
/-- A listed package-level variable. -/
theorem ev_global {m : Mem} {fr : Fr} {g : Nat} {v : V} (_hgl : GlOK m) (hv : ev fr (.global g) = some v) : VR m v (.pointer (some ⟨g, 0, none⟩)) := by
  simp only [ev] at hv
  first
    | (cases hv; done)
    | (split at hv
       · rename_i cs hg
         injection hv with hv
         subst hv
         obtain ⟨h1, h2⟩ := hgl g cs hg
         have := VR.pv (m := m) (g := g) (o := 0) (off := 0) (cs := lsc cs) cs h1 lsc_len (fun j c u hc hu => by
           rw [lsc_get hc hu]; exact .sc (h2 j u hu).2) (fun j u hu => by rw [Nat.zero_add]; exact h2 j u hu)
         simpa using this
       · cases hv)

def Rel (m : Mem) (ρ : Env) (o : Oper) (a : Act) : Prop := ∀ x ∈ o.op.operands, ∀ u, ρ x = some u → VR m u (a.eval x)
def Quiet (P : Program) (w0 : Base) (ρ : Env) (o : Oper) (H : SW) (v : V) : Prop :=
  ∀ (m : Mem) (a : Act), Rel m ρ o a → WR w0 m H → ∃ v' m', (execOp a.eval o).run P m.W = .ok (.value v') m'.W ∧ VR m' v v' ∧ WR w0 m' H ∧ Ext m H m' H ∧ m'.D = m.D
theorem Quiet.same {P : Program} {w0 : Base} {ρ : Env} {o : Oper} {H : SW} {v : V} (h : ∀ (m : Mem) (a : Act), Rel m ρ o a → WR w0 m H → ∃ v', (execOp a.eval o).run P m.W = .ok (.value v') m.W ∧ VR m v v') : Quiet P w0 ρ o H v := fun m a hr hw => by
  obtain ⟨v', h1, h2⟩ := h m a hr hw
  exact ⟨v', m, h1, h2, hw, Ext.refl _ _, rfl⟩

theorem srun0_ok {P : Program} {α : Type} : ∀ (s : Sem α) (a : α) (w : World), srun0 P s = some a → s.run P w = .ok a w
  | .pure _, _, _, h => by simp only [srun0, Option.some.injEq] at h; subst h; rfl
  | .program k, a, w, h => srun0_ok (k P) a w h
  | .mark _ k, a, w, h => srun0_ok k a w h
  | .load .., _, _, h => by cases h
  | .store .., _, _, h => by cases h
  | .new .., _, _, h => by cases h
  | .shape .., _, _, h => by cases h
  | .freeze .., _, _, h => by cases h
  | .frozen .., _, _, h => by cases h
  | .getObj .., _, _, h => by cases h
  | .setObj .., _, _, h => by cases h
  | .choose .., _, _, h => by cases h
  | .sys .., _, _, h => by cases h
  | .halt _, _, _, h => by cases h
theorem scs_ok {m : Mem} : ∀ {l : List V} {us us' : List Value}, scs l = some us → LR m l us' → us' = us
  | [], us, us', h, hr => by
    simp only [scs, Option.some.injEq] at h; subst h
    exact List.eq_nil_of_length_eq_zero hr.1.symm
  | .sc v :: l, us, us', h, hr => by
    simp only [scs] at h
    cases hs : scs l with
    | none => rw [hs] at h; cases h
    | some ws =>
      rw [hs] at h; simp only [Option.map_some, Option.some.injEq] at h; subst h
      cases us' with
      | nil => simp [LR] at hr
      | cons u us' =>
        rw [hr.head.of_sc, scs_ok hs hr.tail]
  | .ptr .. :: _, _, _, h, _ => by cases h
  | .pe .. :: _, _, _, h, _ => by cases h
  | .pv .. :: _, _, _, h, _ => by cases h
  | .sl .. :: _, _, _, h, _ => by cases h
  | .own .. :: _, _, _, h, _ => by cases h
  | .agg .. :: _, _, _, h, _ => by cases h
  | .tup .. :: _, _, _, h, _ => by cases h
  | .fn .. :: _, _, _, h, _ => by cases h
  | .mv .. :: _, _, _, h, _ => by cases h
  | .yld .. :: _, _, _, h, _ => by cases h
theorem toVal_ok {m : Mem} {v : V} {u u' : Value} (h : toVal v = some u) (hr : VR m v u') : u' = u := by
  cases v <;> simp only [toVal, Option.some.injEq, reduceCtorEq, Option.map_eq_some_iff] at h
  · subst h; exact hr.of_sc
  · obtain ⟨l, h1, rfl⟩ := h
    cases hr with
    | agg hs hh =>
      rename_i ys
      have := scs_ok h1 (⟨hs, hh⟩ : LR m _ _)
      rw [← this]
theorem gen_ok {P : Program} {w0 : Base} {ρ : Env} {o : Oper} {K : V → Prop} (h : gen P ρ o K) : ∃ v, (∀ H, Quiet P w0 ρ o H v) ∧ K v := by
  obtain ⟨hsel, v, h1, h2, h3, h4⟩ := h
  refine ⟨.sc v, fun H => Quiet.same fun m a hr _ => ⟨v, ?_, .sc h1⟩, h4⟩
  rw [execOp_congr o hsel (ρ := a.eval) (ρ' := fun x => (((ρ x).bind toVal).getD undef))]
  · exact srun0_ok _ _ _ h3
  · intro x hx
    obtain ⟨u, hu⟩ := h2 x hx
    rw [hu]
    obtain ⟨y, hy1, hy2⟩ := Option.bind_eq_some_iff.1 hu
    exact toVal_ok hy2 (hr x hx y hy1)

section
variable {P : Program} {T : Tbl}
theorem tk_spec {t : TypeId} {i : TI} (h : tiOf P t = some i) : ∃ inf z, P.info? t = some inf ∧ inf.size = i.size ∧ inf.bytes = i.bytes ∧ inf.zero = some z ∧ z.cells.toList = i.zero ∧ i.zero.all Value.oneCell' = true ∧ tkOf P t = some i.k := by
  unfold tiOf at h
  split at h
  · rename_i inf k h1 h2
    split at h
    · rename_i z hz
      split at h
      · rename_i hone
        injection h with h; subst h
        exact ⟨inf, z, h1, rfl, rfl, hz, rfl, hone, h2⟩
      · cases h
    · cases h
  · cases h
theorem tk_slice {t e : TypeId} {sz bytes : Nat} (h : tkOf P t = some (.slice e sz bytes)) : P.underlying t = some (.slice e) ∧ ∃ inf, P.info? e = some inf ∧ inf.size = sz ∧ inf.bytes = bytes := by
  unfold tkOf at h
  split at h
  · rename_i e' hu
    cases hi : P.info? e' with
    | none => rw [hi] at h; cases h
    | some inf => rw [hi] at h; injection h with h; injection h with h1 h2 h3; subst h1; exact ⟨hu, inf, hi, h2, h3⟩
  · rename_i fs hu
    cases hm : (fs.toList.mapM fun f => (P.info? f.type).map fun i => (f.offset, f.type, i.size)) with
    | none => rw [hm] at h; cases h
    | some l => rw [hm] at h; injection h with h; cases h
  · rename_i n e' hu
    cases hi : P.info? e' with
    | none => rw [hi] at h; cases h
    | some inf => rw [hi] at h; injection h with h; cases h
  · injection h with h; cases h
  · cases h
theorem tk_struct {t : TypeId} {fs : List (Nat × TypeId × Nat)} (h : tkOf P t = some (.struct fs)) : ∃ fs', P.underlying t = some (.struct fs') ∧ (fs'.toList.mapM fun f => (P.info? f.type).map fun i => (f.offset, f.type, i.size)) = some fs := by
  unfold tkOf at h
  split at h
  · rename_i e' hu
    cases hi : P.info? e' with
    | none => rw [hi] at h; cases h
    | some inf => rw [hi] at h; injection h with h; cases h
  · rename_i fs' hu
    cases hm : (fs'.toList.mapM fun f => (P.info? f.type).map fun i => (f.offset, f.type, i.size)) with
    | none => rw [hm] at h; cases h
    | some l => rw [hm] at h; injection h with h; injection h with h; subst h; exact ⟨fs', hu, hm⟩
  · rename_i n e' hu
    cases hi : P.info? e' with
    | none => rw [hi] at h; cases h
    | some inf => rw [hi] at h; injection h with h; cases h
  · injection h with h; cases h
  · cases h
theorem tk_array {t : TypeId} {n : Nat} {e : TypeId} {sz : Nat} (h : tkOf P t = some (.array n e sz)) : P.underlying t = some (.array n e) ∧ ∃ inf, P.info? e = some inf ∧ inf.size = sz := by
  unfold tkOf at h
  split at h
  · rename_i e' hu
    cases hi : P.info? e' with
    | none => rw [hi] at h; cases h
    | some inf => rw [hi] at h; injection h with h; cases h
  · rename_i fs' hu
    cases hm : (fs'.toList.mapM fun f => (P.info? f.type).map fun i => (f.offset, f.type, i.size)) with
    | none => rw [hm] at h; cases h
    | some l => rw [hm] at h; injection h with h; cases h
  · rename_i n e' hu
    cases hi : P.info? e' with
    | none => rw [hi] at h; cases h
    | some inf => rw [hi] at h; injection h with h; injection h with h1 h2 h3; subst h1; subst h2; exact ⟨hu, inf, hi, h3⟩
  · injection h with h; cases h
  · cases h
theorem tk_agg {t : TypeId} {i : TI} (h : tiOf P t = some i) (hk : (∃ fs, i.k = .struct fs) ∨ ∃ n e s, i.k = .array n e s) : ∃ d, P.underlying t = some d ∧ d.isRow = true ∧ ∀ W, (isAgg t).run P W = .ok true W := by
  obtain ⟨_, _, _, _, _, _, _, _, h7⟩ := tk_spec h
  rcases hk with ⟨fs, hk⟩ | ⟨n, e, s, hk⟩ <;> rw [hk] at h7
  · obtain ⟨fs', hu, _⟩ := tk_struct h7
    exact ⟨_, hu, rfl, fun W => by simp [isAgg, run_underlying hu]⟩
  · obtain ⟨hu, _⟩ := tk_array h7
    exact ⟨_, hu, rfl, fun W => by simp [isAgg, run_underlying hu]⟩
theorem tk_one {t : TypeId} {i : TI} (h : tiOf P t = some i) (hk : i.k = .one ∨ ∃ e s b, i.k = .slice e s b) (W : World) : (isAgg t).run P W = .ok false W := by
  obtain ⟨_, _, _, _, _, _, _, _, h7⟩ := tk_spec h
  rcases hk with hk | ⟨e, s, b, hk⟩ <;> rw [hk] at h7
  · unfold tkOf at h7
    split at h7
    · rename_i e' hu
      cases hi : P.info? e' with
      | none => rw [hi] at h7; cases h7
      | some inf => rw [hi] at h7; injection h7 with h7; cases h7
    · rename_i fs' hu
      cases hm : (fs'.toList.mapM fun f => (P.info? f.type).map fun i => (f.offset, f.type, i.size)) with
      | none => rw [hm] at h7; cases h7
      | some l => rw [hm] at h7; injection h7 with h7; cases h7
    · rename_i n e' hu
      cases hi : P.info? e' with
      | none => rw [hi] at h7; cases h7
      | some inf => rw [hi] at h7; injection h7 with h7; cases h7
    · rename_i d h1 h2 h3 hu
      unfold isAgg
      rw [Sem.run_bind, run_underlying hu W]
      cases d <;> simp_all
    · cases h7
  · obtain ⟨hu, _⟩ := tk_slice h7
    unfold isAgg
    rw [Sem.run_bind, run_underlying hu W]
    rfl

/-- What is loaded. -/
theorem loadK_ok (hT : ∀ t i, tget T t = some i → tiOf P t = some i) {t : TypeId} {cs : List V} {off : Nat} {K : V → Prop} (h : loadK T t cs off K) :
    ∃ v, K v ∧ (∀ (m : Mem) (g o : Nat) (us : List Value), LR m cs us → (∀ (j : Nat) (u : Value), us[j]? = some u → m.W.cell? ⟨g, o + j, none⟩ = some u) → ∃ v', (loadVar t ⟨g, o + off, none⟩).run P m.W = .ok v' m.W ∧ VR m v v') ∧
      ∀ (m : Mem) (us : List Value), LR m cs us → ∃ v', (part t us.toArray off).run P m.W = .ok v' m.W ∧ VR m v v' := by
  unfold loadK at h
  split at h
  case h_2 => cases h
  rename_i i hi
  have ht := hT t i hi
  obtain ⟨inf, z, hinf, hsz, _⟩ := tk_spec ht
  have agg : takeK i.size (ldrop off cs) (fun r => K (.agg r)) → ((∃ fs, i.k = .struct fs) ∨ ∃ n e s, i.k = .array n e s) → ∃ v, K v ∧ (∀ (m : Mem) (g o : Nat) (us : List Value), LR m cs us → (∀ (j : Nat) (u : Value), us[j]? = some u → m.W.cell? ⟨g, o + j, none⟩ = some u) → ∃ v', (loadVar t ⟨g, o + off, none⟩).run P m.W = .ok v' m.W ∧ VR m v v') ∧
      ∀ (m : Mem) (us : List Value), LR m cs us → ∃ v', (part t us.toArray off).run P m.W = .ok v' m.W ∧ VR m v v' := fun h hk => by
    obtain ⟨hle, hK⟩ := takeK_ok _ _ _ h
    rw [ldrop_eq] at hle hK
    obtain ⟨d, hu, hrow, hagg⟩ := tk_agg ht hk
    refine ⟨_, hK, fun m g o us hl hc => ?_, fun m us hl => ?_⟩
    · have hlen : ((us.drop off).take i.size).length = i.size := by rw [List.length_take, List.length_drop, ← hl.1]; rw [List.length_drop] at hle; omega
      have hrange : m.W.rangeAt g (o + off) ((us.drop off).take i.size) := fun j u hu => by
        rw [List.getElem?_take] at hu
        split at hu
        · rw [List.getElem?_drop] at hu; rw [Nat.add_assoc]; exact hc _ _ hu
        · cases hu
      exact ⟨_, run_loadVar_mid m.W g (o + off) t _ d hrange hu hrow (by rw [hlen, hinf]; simp [hsz]), VR.aggL (by simpa using (hl.drop off).take i.size)⟩
    · refine ⟨.agg ((us.drop off).take i.size).toArray, ?_, VR.aggL (by simpa using (hl.drop off).take i.size)⟩
      simp [part, hagg, sizeOf, typeInfo, hinf, hsz]
  have one : (match lget cs off with | some v => K v | none => False) → (i.k = .one ∨ ∃ e s b, i.k = .slice e s b) → ∃ v, K v ∧ (∀ (m : Mem) (g o : Nat) (us : List Value), LR m cs us → (∀ (j : Nat) (u : Value), us[j]? = some u → m.W.cell? ⟨g, o + j, none⟩ = some u) → ∃ v', (loadVar t ⟨g, o + off, none⟩).run P m.W = .ok v' m.W ∧ VR m v v') ∧
      ∀ (m : Mem) (us : List Value), LR m cs us → ∃ v', (part t us.toArray off).run P m.W = .ok v' m.W ∧ VR m v v' := fun h hk => by
    split at h
    case h_2 => cases h
    rename_i v hv
    rw [lget_eq] at hv
    refine ⟨v, h, fun m g o us hl hc => ?_, fun m us hl => ?_⟩
    · obtain ⟨v', hv', hr⟩ := hl.get? hv
      have hcell := hc _ _ hv'
      have hload : (load ⟨g, o + off, none⟩).run P m.W = .ok v' m.W := by simp [load, Sem.run, hcell]
      exact ⟨v', by simp only [loadVar, Sem.run_bind, tk_one ht hk m.W, Result.andThen_ok, Bool.false_eq_true, if_false, hload], hr⟩
    · obtain ⟨v', hv', hr⟩ := hl.get? hv
      exact ⟨v', by simp [part, tk_one ht hk m.W, hv'], hr⟩
  split at h
  · rename_i fs hk; exact agg h (.inl ⟨_, hk⟩)
  · rename_i n e s hk; exact agg h (.inr ⟨_, _, _, hk⟩)
  · rename_i hk; exact one h (.inl hk)
  · rename_i e s b hk; exact one h (.inr ⟨_, _, _, hk⟩)

theorem cells_at {w0 : Base} {m : Mem} {H : SW} (hw : WR w0 m H) {b g C : Nat} (hb : m.φ b = some (g, C)) {cs : List V} {t : TypeId} (hg : H.get b = some (.cells cs t)) :
    ∃ us : List Value, LR m cs us ∧ (∀ (j : Nat) (u : Value), us[j]? = some u → m.W.cell? ⟨g, 0 + j, none⟩ = some u) := by
  obtain ⟨ds, h1, h2⟩ := hw.blk b g C _ hb hg
  refine ⟨_, h2, fun j u hu => ?_⟩
  simp [World.cell?, h1] at hu ⊢
  exact hu
theorem row_at {w0 : Base} {m : Mem} {H : SW} (hw : WR w0 m H) {b g C : Nat} (hb : m.φ b = some (g, C)) {sz n : Nat} {e : Nat → V} {t : TypeId} (hg : H.get b = some (.row sz n e t)) {i : Nat} (hi : i < n) :
    ∃ us : List Value, LR m (e i).cells us ∧ us.length = sz ∧ ∀ (j : Nat) (u : Value), us[j]? = some u → m.W.cell? ⟨g, i * sz + j, none⟩ = some u ∧ u.oneCell' = true := by
  obtain ⟨ds, h1, h2, h3, us, h4⟩ := hw.blk b g C _ hb hg
  obtain ⟨k1, k2, k3⟩ := h4 i hi
  refine ⟨_, k1.cells, by simpa using k2, fun j u hu => ?_⟩
  rw [Array.getElem?_toList] at hu
  obtain ⟨l1, l2⟩ := k3 j u hu
  rw [Array.getElem?_toList] at l1
  exact ⟨by simp [World.cell?, h1, l1], l2⟩
theorem fields_at {W : World} : ∀ (fs : List Field) (ps : List (Nat × TypeId × Nat)), (fs.mapM fun f => (P.info? f.type).map fun i => (f.offset, f.type, i.size)) = some ps →
    (fs.mapM (m := Sem) fun f => Functor.map (Prod.mk f.offset) (sizeOf f.type)).run P W = .ok (ps.map fun p => (p.1, p.2.2)) W ∧ ∀ (k d : Nat) (ft : TypeId) (sz : Nat), ps[k]? = some (d, ft, sz) → ∃ f inf, fs[k]? = some f ∧ f.offset = d ∧ f.type = ft ∧ P.info? ft = some inf ∧ inf.size = sz
  | [], ps, h => by simp at h; subst h; simp
  | f :: fs, ps, h => by
    rw [List.mapM_cons] at h ⊢
    cases hi : P.info? f.type with
    | none => simp [hi] at h
    | some i =>
      cases hr : fs.mapM (fun f => (P.info? f.type).map fun i => (f.offset, f.type, i.size)) with
      | none => simp [hi, hr] at h
      | some qs =>
        simp [hi, hr] at h
        subst h
        obtain ⟨ih1, ih2⟩ := fields_at (W := W) fs qs hr
        refine ⟨?_, fun k d ft sz hk => ?_⟩
        · simp [sizeOf, typeInfo, hi] at ih1 ⊢
          simp [ih1]
        · cases k with
          | zero => simp at hk; obtain ⟨rfl, rfl, rfl⟩ := hk; exact ⟨f, i, rfl, rfl, rfl, hi, rfl⟩
          | succ k => simpa using ih2 k d ft sz (by simpa using hk)
theorem fields_size {fs : Array Field} {ps : List (Nat × TypeId × Nat)} (h : (fs.toList.mapM fun f => (P.info? f.type).map fun i => (f.offset, f.type, i.size)) = some ps) {k d : Nat} {ft : TypeId} {sz : Nat} (hk : lget ps k = some (d, ft, sz)) :
    ∃ f inf, fs[k]? = some f ∧ f.offset = d ∧ f.type = ft ∧ P.info? ft = some inf ∧ inf.size = sz := by
  rw [lget_eq] at hk
  obtain ⟨f, inf, h1, h2⟩ := (fields_at (W := default) _ _ h).2 k d ft sz hk
  exact ⟨f, inf, by rw [← Array.getElem?_toList]; exact h1, h2⟩
def agr (g : Tag) (H H2 : SW) : Prop := match g with
  | .rd b => H2.get b = H.get b
  | _ => True
/-- What a quiet operation gives: its value whatever has become of the rest of the heap. -/
def QOK (P : Program) (ρ : Env) (o : Oper) (H : SW) (K : V → Tag → Prop) : Prop :=
  ∃ v g, K v g ∧ (∀ b, g ≠ .wr b) ∧ ∀ (w0 : Base) (H2 : SW), agr g H H2 → Quiet P w0 ρ o H2 v
theorem QOK.no {ρ : Env} {o : Oper} {H : SW} {K : V → Tag → Prop} {v : V} (h : K v .no) (hq : ∀ (m : Mem) (a : Act), Rel m ρ o a → ∃ v', (execOp a.eval o).run P m.W = .ok (.value v') m.W ∧ VR m v v') : QOK P ρ o H K :=
  ⟨v, .no, h, fun _ e => (by cases e), fun _ _ _ => Quiet.same fun m a hr _ => hq m a hr⟩
theorem QOK.gen {ρ : Env} {o : Oper} {H : SW} {K : V → Tag → Prop} (h : gen P ρ o fun v => K v .no) : QOK P ρ o H K := by
  obtain ⟨v, h1, h2⟩ := gen_ok (w0 := default) h
  obtain ⟨hsel, v, h1, h2, h3, h4⟩ := h
  refine ⟨.sc v, .no, h4, fun _ e => (by cases e), fun w0 H2 _ => ?_⟩
  refine Quiet.same fun m a hr _ => ?_
  refine ⟨v, ?_, .sc h1⟩
  rw [execOp_congr o hsel (ρ := a.eval) (ρ' := fun x => (((ρ x).bind toVal).getD undef))]
  · exact srun0_ok _ _ _ h3
  · intro x hx
    obtain ⟨u, hu⟩ := h2 x hx
    rw [hu]
    obtain ⟨y, hy1, hy2⟩ := Option.bind_eq_some_iff.1 hu
    exact toVal_ok hy2 (hr x hx y hy1)
/-! ### Maps from int to bool -/
theorem mapIB_spec {t : TypeId} (h : mapIB P t = true) : ∃ k e i, P.underlying t = some (.map k e) ∧ P.underlying k = some (.int .i64) ∧ P.info? e = some i ∧ i.zero = some (.bool false) := by
  unfold mapIB at h
  split at h
  · rename_i k e hu
    rw [Bool.and_eq_true] at h
    obtain ⟨h1, h2⟩ := h
    split at h1
    · rename_i hk
      split at h2
      · rename_i i hi
        split at h2
        · rename_i hz
          exact ⟨k, e, i, hu, hk, hi, hz⟩
        · cases h2
      · cases h2
    · cases h1
  · cases h
theorem keys_int {es : Array MapEntry} {f : Int → Bool} (h : MapIs es f) : ∀ x ∈ es.toList, MapKept.IsKey (.int .i64) x.key := fun x hx => by
  obtain ⟨a, b, e, _⟩ := h.ty x hx
  rw [e]
  simp [MapKept.IsKey]
theorem run_lookIB {o : Oper} {t : TypeId} {x ix : Operand} {a : Act} {W : World} {g cl : Nat} {es : Array MapEntry} {f : Int → Bool} {i : Int} (ho : o.op = .lookup t x ix false) (h1 : mapIB P t = true) (hh : W.heap[g]? = some (.map es cl)) (hm : MapIs es f) (ex : a.eval x = .map (some g)) (hi : a.eval ix = .int .i64 i) :
    (execOp a.eval o).run P W = .ok (.value (.bool (f i))) W := by
  obtain ⟨k, e, inf, hu, hk, he, hz⟩ := mapIB_spec h1
  have ik : MapKept.IsKey (.int .i64) (.int .i64 i) := by simp [MapKept.IsKey]
  have ck := fun em => MapKept.run_checkKey (P := P) (w := W) hk ik em 9999
  rcases MapKept.findNow_spec ik es.toList 0 (keys_int hm) with ⟨f1, f2⟩ | ⟨j, e0, f1, f2, f3⟩
  · have fk := MapKept.run_findKey (P := P) (w := W) hk f1
    have fz : f i = false := hm.no i fun e he => f2 e he
    simp [execOp, ho, Instr.lookup, ex, hi, run_underlying hu, MapKept.run_getObj_map hh, ck, fk, zeroValue, typeInfo, he, hz, fz, Result.andThen]
  · have fk := MapKept.run_findKey (P := P) (w := W) hk f1
    obtain ⟨a', b, q1, q2⟩ := hm.ty e0 (List.mem_of_getElem? f2)
    have fz : f i = b := hm.hit e0 (List.mem_of_getElem? f2) i b f3 q2
    simp [execOp, ho, Instr.lookup, ex, hi, run_underlying hu, MapKept.run_getObj_map hh, ck, fk, q2, fz, Result.andThen]
theorem load_ok (hT : ∀ t i, tget T t = some i → tiOf P t = some i) {ρ : Env} {o : Oper} {H : SW} {K : V → Tag → Prop} {t : TypeId} {x : Operand} (ho : o.op = .load t x)
    (h : match ρ x with
    | some (.ptr b off) => match hget H.l b with
      | some (.cells cs _) => loadK T t cs off fun v => K v (.rd b)
      | _ => False
    | some (.pe b sz i off) => match hget H.l b with
      | some (.row sz' n e _) => match Nat.beq sz sz' with
        | true => ob (i < n) (elemK (e i) fun cs => loadK T t cs off fun v => K v (.rd b))
        | false => False
      | _ => False
    | some (.pv cs off) => loadK T t cs off fun v => K v .no
    | _ => False) : QOK P ρ o H K := by
  have run : ∀ (m : Mem) (a : Act) (g oo : Nat) (v : V), a.eval x = .pointer (some ⟨g, oo, none⟩) → (∃ v', (loadVar t ⟨g, oo, none⟩).run P m.W = .ok v' m.W ∧ VR m v v') → ∃ v', (execOp a.eval o).run P m.W = .ok (.value v') m.W ∧ VR m v v' := by
    rintro m a g oo v ha ⟨v', h1, h2⟩
    exact ⟨v', by simp [execOp, ho, Instr.loadAt, Instr.sureAddr, ha, h1], h2⟩
  split at h
  · rename_i b off hx
    split at h
    · rename_i cs t' hg
      obtain ⟨v, hK, hl, _⟩ := loadK_ok hT h
      refine ⟨v, _, hK, fun _ e => (by cases e), fun w0 H2 ha => Quiet.same fun m a hr hw => ?_⟩
      have hx' := hr x (by simp [ho, Op.operands]) _ hx
      generalize e : a.eval x = x' at hx'
      cases hx' with
      | ptr hb =>
        obtain ⟨us, h1, h2⟩ := cells_at hw hb (ha.trans hg)
        refine run m a _ _ v e ?_
        have := hl m _ 0 us h1 h2
        rwa [Nat.zero_add] at this
    · cases h
  · rename_i b sz i off hx
    split at h
    · rename_i sz' n e t' hg
      split at h
      · rename_i hs
        obtain rfl := beq_t hs
        obtain ⟨hi, h⟩ := h
        obtain ⟨v, hK, hl, _⟩ := loadK_ok hT (elemK_ok h)
        refine ⟨v, _, hK, fun _ e => (by cases e), fun w0 H2 ha => Quiet.same fun m a hr hw => ?_⟩
        have hx' := hr x (by simp [ho, Op.operands]) _ hx
        generalize e : a.eval x = x' at hx'
        cases hx' with
        | pe hb =>
          obtain ⟨us, h1, _, h2⟩ := row_at hw hb (ha.trans hg) hi
          exact run m a _ _ v e (hl m _ _ us h1 fun j u hu => (h2 j u hu).1)
      · cases h
    · cases h
  · rename_i cs off hx
    obtain ⟨v, hK, hl, _⟩ := loadK_ok hT h
    refine QOK.no hK fun m a hr => ?_
    have hx' := hr x (by simp [ho, Op.operands]) _ hx
    generalize e : a.eval x = x' at hx'
    cases hx' with
    | pv us hF hle hh hc => exact run m a _ _ v e (hl m _ _ us ⟨hle, hh⟩ fun j u hu => (hc j u hu).1)
  · cases h
theorem run_fieldAddr {fs : Array Field} {s : TypeId} {f : Nat} {fd : Field} {inf : TypeInfo} (hu : P.underlying s = some (.struct fs)) (hf : fs[f]? = some fd) (hi : P.info? fd.type = some inf) (hs : inf.size ≠ 0) {o : Oper} {x : Operand} (ho : o.op = .fieldAddr s x f)
    {a : Act} {g oo : Nat} (hx : a.eval x = .pointer (some ⟨g, oo, none⟩)) (W : World) : (execOp a.eval o).run P W = .ok (.value (.pointer (some ⟨g, oo + fd.offset, none⟩))) W := by
  simp [execOp, ho, Instr.fieldAt, run_underlying hu, hf, Instr.sureAddr, hx, fieldPlace, sizeOf, typeInfo, hi, hs, addr_add]
theorem run_indexAddr {t e : TypeId} {inf : TypeInfo} (hu : P.underlying t = some (.slice e)) (hi : P.info? e = some inf) {o : Oper} {x ix : Operand} (ho : o.op = .indexAddr t x ix) {a : Act} {g oo n c : Nat} {k : IntKind} {i : Int}
    (hx : a.eval x = .slice (some ⟨g, oo, none⟩) n c) (hix : a.eval ix = .int k i) (hr : 0 ≤ i ∧ i < (n : Int)) (W : World) : (execOp a.eval o).run P W = .ok (.value (.pointer (some ⟨g, oo + i.toNat * inf.size, none⟩))) W := by
  simp [execOp, ho, Instr.indexAt, run_underlying hu, hx, hix, asIntOf, hr, sizeOf, typeInfo, hi, addr_add]
theorem index_ok (hT : ∀ t i, tget T t = some i → tiOf P t = some i) {ρ : Env} {o : Oper} {H : SW} {K : V → Tag → Prop} {t : TypeId} {x ix : Operand} (ho : o.op = .indexAddr t x ix)
    (h : match tget T t with
    | some ti => match ti.k with
      | .slice _ sz' _ => match ρ ix with
        | some (.sc (.int _ i)) => match ρ x with
          | some (.sl sz n e) => match Nat.beq sz sz' with
            | true => ob (0 ≤ i ∧ i < (n : Int)) (elemK (e (toN i)) fun cs => K (.pv cs 0) .no)
            | false => False
          | some (.own b sz off n) => match Nat.beq sz sz' with
            | true => ob (0 ≤ i ∧ i < (n : Int)) (K (.pe b sz (off + toN i) 0) .no)
            | false => False
          | _ => False
        | _ => False
      | .array n _ sz => match ρ ix with
        | some (.sc (.int _ i)) => match ρ x with
          | some (.ptr b off) => ob (0 ≤ i ∧ i < (n : Int)) (forceN (Nat.add off (Nat.mul (toN i) sz)) fun d => K (.ptr b d) .no)
          | some (.pv cs off) => ob (0 ≤ i ∧ i < (n : Int)) (forceN (Nat.add off (Nat.mul (toN i) sz)) fun d => K (.pv cs d) .no)
          | _ => False
        | _ => False
      | _ => False
    | none => False) : QOK P ρ o H K := by
  split at h
  case h_2 => cases h
  rename_i ti hti
  split at h
  case h_3 => cases h
  case h_2 =>
    rename_i n ee sz hk
    obtain ⟨_, _, _, _, _, _, _, _, h7⟩ := tk_spec (hT _ _ hti)
    rw [hk] at h7
    obtain ⟨hu, inf, hinf, hsz⟩ := tk_array h7
    split at h
    case h_2 => cases h
    rename_i k i hix
    split at h
    case h_3 => cases h
    case h_2 =>
      rename_i cs off hx
      obtain ⟨hr, h⟩ := h
      have h := forceN_ok h
      refine QOK.no h fun m a hrel => ?_
      have hx' := hrel x (by simp [ho, Op.operands]) _ hx
      have hix' := (hrel ix (by simp [ho, Op.operands]) _ hix).of_sc
      generalize ex : a.eval x = x' at hx'
      cases hx' with
      | @pv _ g o _ us hF hl hh hc =>
        refine ⟨.pointer (some ⟨g, o + off + i.toNat * sz, none⟩), ?_, ?_⟩
        · subst hsz
          simp [execOp, ho, Instr.indexAt, run_underlying hu, Instr.sureAddr, ex, hix', asIntOf, hr, sizeOf, typeInfo, hinf, addr_add]
        · have e : Nat.add off (Nat.mul (toN i) sz) = off + i.toNat * sz := by rw [toN_eq]; rfl
          rw [e, Nat.add_assoc]
          exact .pv us hF hl hh hc
    rename_i b off hx
    obtain ⟨hr, h⟩ := h
    have h := forceN_ok h
    refine QOK.no h fun m a hrel => ?_
    have hx' := hrel x (by simp [ho, Op.operands]) _ hx
    have hix' := (hrel ix (by simp [ho, Op.operands]) _ hix).of_sc
    generalize ex : a.eval x = x' at hx'
    cases hx' with
    | ptr hb =>
      rename_i g C
      refine ⟨.pointer (some ⟨g, off + i.toNat * sz, none⟩), ?_, ?_⟩
      · subst hsz
        simp [execOp, ho, Instr.indexAt, run_underlying hu, Instr.sureAddr, ex, hix', asIntOf, hr, sizeOf, typeInfo, hinf, addr_add]
      · have e : Nat.add off (Nat.mul (toN i) sz) = off + i.toNat * sz := by rw [toN_eq]; rfl
        rw [e]
        exact .ptr hb
  rename_i ee sz' bytes hk
  obtain ⟨_, _, _, _, _, _, _, _, h7⟩ := tk_spec (hT _ _ hti)
  rw [hk] at h7
  obtain ⟨hu, inf, hinf, hsz, _⟩ := tk_slice h7
  split at h
  case h_2 => cases h
  rename_i k i hix
  split at h
  · rename_i sz n e hx
    split at h
    case h_2 => cases h
    rename_i hs
    obtain rfl := beq_t hs
    obtain ⟨hr, h⟩ := h
    refine QOK.no (elemK_ok h) fun m a hrel => ?_
    have hx' := hrel x (by simp [ho, Op.operands]) _ hx
    have hix' := (hrel ix (by simp [ho, Op.operands]) _ hix).of_sc
    generalize ex : a.eval x = x' at hx'
    rw [toN_eq]
    cases hx' with
    | sl us hnc hF hh hss hc =>
      refine ⟨_, run_indexAddr hu hinf ho ex hix' hr m.W, ?_⟩
      have hlt : i.toNat < n := by omega
      subst hsz
      exact VR.pv (off := 0) _ hF (hh _ hlt).cells.1 (hh _ hlt).cells.2 fun j u hu => by
        have := hc _ hlt j u (by rw [← Array.getElem?_toList]; exact hu)
        rw [← Nat.add_assoc] at this
        exact this
    | sl0 => omega
  · rename_i b sz off n hx
    split at h
    case h_2 => cases h
    rename_i hs
    obtain rfl := beq_t hs
    obtain ⟨hr, h⟩ := h
    refine QOK.no h fun m a hrel => ?_
    have hx' := hrel x (by simp [ho, Op.operands]) _ hx
    have hix' := (hrel ix (by simp [ho, Op.operands]) _ hix).of_sc
    generalize ex : a.eval x = x' at hx'
    rw [toN_eq]
    cases hx' with
    | own hb hle =>
      refine ⟨_, run_indexAddr hu hinf ho ex hix' hr m.W, ?_⟩
      have := VR.pe (m := m) (sz := sz) (i := off + i.toNat) (o := 0) hb
      rw [hsz, ← Nat.add_mul]
      exact this
    | own0 => omega
  · cases h

theorem loK_ok {ρ : Env} {lo : Option Operand} {K : Int → Prop} (h : loK ρ lo K) : ∃ l, K l ∧ ((lo = none ∧ l = 0) ∨ ∃ x k, lo = some x ∧ ρ x = some (.sc (.int k l))) := by
  unfold loK at h
  split at h
  · exact ⟨0, h, .inl ⟨rfl, rfl⟩⟩
  · rename_i x
    split at h
    · rename_i k i hx; exact ⟨i, h, .inr ⟨x, k, rfl, hx⟩⟩
    · cases h
theorem hiK_ok {ρ : Env} {hi : Option Operand} {n : Nat} {K : Int → Prop} (h : hiK ρ hi n K) : ∃ l, K l ∧ ((hi = none ∧ l = n) ∨ ∃ x k, hi = some x ∧ ρ x = some (.sc (.int k l))) := by
  unfold hiK at h
  split at h
  · exact ⟨n, h, .inl ⟨rfl, rfl⟩⟩
  · rename_i x
    split at h
    · rename_i k i hx; exact ⟨i, h, .inr ⟨x, k, rfl, hx⟩⟩
    · cases h
theorem run_slice {t e : TypeId} {inf : TypeInfo} (hu : P.underlying t = some (.slice e)) (hinf : P.info? e = some inf) {o : Oper} {x : Operand} {lo hi : Option Operand} (ho : o.op = .slice t x lo hi none) {a : Act} {A : Option Addr} {n c : Nat} (hx : a.eval x = .slice A n c)
    {l h : Int} (hlo : (lo = none ∧ l = 0) ∨ ∃ x k, lo = some x ∧ a.eval x = .int k l) (hhi : (hi = none ∧ h = n) ∨ ∃ x k, hi = some x ∧ a.eval x = .int k h) (h0 : 0 ≤ l) (h1 : l ≤ h) (h2 : h ≤ (c : Int)) (W : World) :
    (execOp a.eval o).run P W = .ok (.value (.slice (if c = l.toNat then A else A.map (·.add (l.toNat * inf.size))) (h.toNat - l.toNat) (c - l.toNat))) W := by
  have e1 : (match hi.map a.eval with | some v => Instr.sliceBound v c .sliceAcap | none => pure n : Sem Nat).run P W = .ok h.toNat W := by
    rcases hhi with ⟨rfl, rfl⟩ | ⟨y, k, rfl, hy⟩
    · rfl
    · have : 0 ≤ h ∧ h ≤ (c : Int) := ⟨by omega, h2⟩
      simp [Option.map_some, hy, Instr.sliceBound, asIntOf, this]
  have e2 : (match lo.map a.eval with | some v => Instr.sliceBound v h.toNat .sliceB | none => pure 0 : Sem Nat).run P W = .ok l.toNat W := by
    rcases hlo with ⟨rfl, rfl⟩ | ⟨y, k, rfl, hy⟩
    · rfl
    · have : 0 ≤ l ∧ l ≤ (h.toNat : Int) := ⟨h0, by omega⟩
      simp only [Option.map_some, hy, Instr.sliceBound, asIntOf, Sem.run_bind, Sem.run_pure, Result.andThen_ok]
      rw [if_pos this]; rfl
  have hb : (Instr.sliceBounds true n c (lo.map a.eval) (hi.map a.eval) none).run P W = .ok (l.toNat, h.toNat, c) W := by
    cases hi <;> cases lo <;> simp only [Option.map_none, Option.map_some] at e1 e2 ⊢ <;> simp [Instr.sliceBounds, e1, e2] <;> simp_all
  simp [execOp, ho, Instr.sliceAt, Instr.slice, run_underlying hu, hx, hb, sizeOf, typeInfo, hinf]
theorem run_sliceA {t e : TypeId} {n : Nat} {inf : TypeInfo} (hu : P.underlying t = some (.array n e)) (hinf : P.info? e = some inf) {o : Oper} {x : Operand} (ho : o.op = .slice t x none none none) {a : Act} {A : Addr} (hx : a.eval x = .pointer (some A)) (W : World) :
    (execOp a.eval o).run P W = .ok (.value (.slice (some (if n = 0 then A else A.add (0 * inf.size))) n n)) W := by
  simp [execOp, ho, Instr.sliceAt, Instr.sureAddr, Instr.sliceBounds, run_underlying hu, hx, sizeOf, typeInfo, hinf]
theorem slice_ok (hT : ∀ t i, tget T t = some i → tiOf P t = some i) {ρ : Env} {o : Oper} {H : SW} {K : V → Tag → Prop} {t : TypeId} {x : Operand} {lo hi : Option Operand} (ho : o.op = .slice t x lo hi none) (h : sliceW P T ρ o t x lo hi fun v => K v .no) : QOK P ρ o H K := by
  have bnd : ∀ (m : Mem) (a : Act) (p : Option Operand) (l d : Int), Rel m ρ o a → (∀ y, p = some y → y ∈ o.op.operands) → ((p = none ∧ l = d) ∨ ∃ x k, p = some x ∧ ρ x = some (.sc (.int k l))) → ((p = none ∧ l = d) ∨ ∃ x k, p = some x ∧ a.eval x = .int k l) := by
    intro m a p l d hr hmem hp
    rcases hp with hp | ⟨y, k, hy, hv⟩
    · exact .inl hp
    · exact .inr ⟨y, k, hy, (hr y (hmem y hy) _ hv).of_sc⟩
  unfold sliceW at h
  split at h
  · rename_i sz n e hx
    split at h
    case h_2 => cases h
    rename_i ti hti
    split at h
    case h_2 => cases h
    rename_i ee sz' bytes hk
    obtain ⟨_, _, _, _, _, _, _, _, h7⟩ := tk_spec (hT _ _ hti)
    rw [hk] at h7
    obtain ⟨hu, inf, hinf, hsz, _⟩ := tk_slice h7
    split at h
    case h_2 => cases h
    rename_i hs
    obtain rfl := beq_t hs
    obtain ⟨l, h, hl⟩ := loK_ok h
    obtain ⟨hh, h, hhi⟩ := hiK_ok h
    obtain ⟨⟨b1, b2, b3⟩, h⟩ := h
    refine QOK.no h fun m a hrel => ?_
    have hx' := hrel x (by simp [ho, Op.operands]) _ hx
    have hl' := bnd m a lo l 0 hrel (fun y hy => by simp [ho, Op.operands, hy]) hl
    have hh' := bnd m a hi hh n hrel (fun y hy => by simp [ho, Op.operands, hy]) hhi
    generalize ex : a.eval x = x' at hx'
    simp only [toN_eq]
    cases hx' with
    | @sl _ _ g oo c _ us hnc hF hh2 hss hc =>
      refine ⟨_, run_slice hu hinf ho ex hl' hh' b1 b2 (by omega) m.W, ?_⟩
      by_cases h0 : hh.toNat - l.toNat = 0
      · rw [h0]; exact .sl0
      · rw [if_neg (by omega), hsz]
        simp only [Option.map_some, addr_add]
        refine .sl (fun i => us (l.toNat + i)) (by omega) hF (fun i hi => hh2 _ (by omega)) (fun i hi => hss _ (by omega)) fun i hi j u hu => ?_
        have := hc (l.toNat + i) (by omega) j u hu
        rw [Nat.add_mul] at this
        have e1 : oo + l.toNat * sz + (i * sz + j) = oo + (l.toNat * sz + i * sz + j) := by omega
        rw [e1]; exact this
    | @sl0 _ c _ A =>
      refine ⟨_, run_slice hu hinf ho ex hl' hh' b1 b2 (by omega) m.W, ?_⟩
      have h0 : hh.toNat - l.toNat = 0 := by omega
      rw [h0]; exact .sl0
  · rename_i b sz off n hx
    split at h
    case h_2 => cases h
    rename_i ti hti
    split at h
    case h_2 => cases h
    rename_i ee sz' bytes hk
    obtain ⟨_, _, _, _, _, _, _, _, h7⟩ := tk_spec (hT _ _ hti)
    rw [hk] at h7
    obtain ⟨hu, inf, hinf, hsz, _⟩ := tk_slice h7
    split at h
    case h_2 => cases h
    rename_i hs
    obtain rfl := beq_t hs
    obtain ⟨l, h, hl⟩ := loK_ok h
    obtain ⟨hh, h, hhi⟩ := hiK_ok h
    obtain ⟨⟨b1, b2, b3, b4⟩, h⟩ := h
    refine QOK.no h fun m a hrel => ?_
    have hx' := hrel x (by simp [ho, Op.operands]) _ hx
    have hl' := bnd m a lo l 0 hrel (fun y hy => by simp [ho, Op.operands, hy]) hl
    have hh' := bnd m a hi hh n hrel (fun y hy => by simp [ho, Op.operands, hy]) hhi
    generalize ex : a.eval x = x' at hx'
    simp only [toN_eq]
    cases hx' with
    | @own _ g C _ _ _ hb hle =>
      refine ⟨_, run_slice hu hinf ho ex hl' hh' b1 b2 (by omega) m.W, ?_⟩
      have e1 : (if C - off = l.toNat then some (⟨g, off * sz, none⟩ : Addr) else Option.map (fun (z : Addr) => z.add (l.toNat * inf.size)) (some (⟨g, off * sz, none⟩ : Addr))) = some (⟨g, (off + l.toNat) * sz, none⟩ : Addr) := by
        split
        · have : l.toNat = 0 := by omega
          rw [this, Nat.add_zero]
        · simp only [Option.map_some, addr_add, hsz, Nat.add_mul]
      rw [e1, show C - off - l.toNat = C - (off + l.toNat) by omega]
      exact .own hb (by omega)
    | own0 =>
      refine ⟨_, run_slice hu hinf ho ex hl' hh' b1 b2 (by omega) m.W, ?_⟩
      have h0 : hh.toNat - l.toNat = 0 := by omega
      have h1 : l.toNat = 0 := by omega
      rw [h0, h1]
      exact .own0
  · rename_i cs off hx
    split at h
    case h_2 => cases h
    rename_i ti hti
    split at h
    case h_2 => cases h
    rename_i n ee sz hk
    obtain ⟨_, _, _, _, _, _, _, _, h7⟩ := tk_spec (hT _ _ hti)
    rw [hk] at h7
    obtain ⟨hu, inf, hinf, hsz⟩ := tk_array h7
    split at h
    case h_2 => cases h
    split at h
    case h_2 => cases h
    split at h
    case h_2 => cases h
    split at h
    case h_2 => cases h
    split at h
    case h_2 => cases h
    split at h
    case h_2 => cases h
    rename_i hlen
    split at h
    case h_2 => cases h
    rename_i hones
    refine QOK.no h fun m a hrel => ?_
    have hx' := hrel x (by simp [ho, Op.operands]) _ hx
    generalize ex : a.eval x = x' at hx'
    cases hx' with
    | @pv _ g o _ us hF hl hh hc =>
      have hcl : cs.length = n * sz := lenIs_t hlen
      refine ⟨_, run_sliceA hu hinf ho ex m.W, ?_⟩
      have e1 : (if n = 0 then (⟨g, o + 0, none⟩ : Addr) else (⟨g, o + 0, none⟩ : Addr).add (0 * inf.size)) = ⟨g, o, none⟩ := by
        split <;> simp [addr_add]
      rw [e1]
      refine .sl (fun i => .agg ((us.drop (i * sz)).take sz).toArray) (Nat.le_refl _) hF (fun i hi => ?_) (fun i hi => ?_) fun i hi j u hu => ?_
      · exact VR.aggL (LR.take (LR.drop (show LR m cs us from ⟨hl, hh⟩) (i * sz)) sz)
      · have : i * sz + sz ≤ n * sz := by rw [← Nat.succ_mul]; exact Nat.mul_le_mul_right _ hi
        simp [Value.cells]; omega
      · simp only [Value.cells, List.getElem?_toArray, List.getElem?_take, List.getElem?_drop] at hu
        split at hu
        · exact hc _ u hu
        · cases hu
  · exact QOK.gen h

theorem lset_rel {m : Mem} {cs : List V} {ds : List Value} (h : LR m cs ds) (n : Nat) {v : V} {u : Value} (hv : VR m v u) : LR m (lset cs n v) (ds.set n u) := by rw [lset_eq]; exact h.set n hv
theorem lwrite_eq : ∀ (vs cs : List Value) (off : Nat), off + vs.length ≤ cs.length → lwrite cs off vs = cs.take off ++ vs ++ cs.drop (off + vs.length)
  | [], cs, off, _ => by simp [lwrite]
  | v :: vs, cs, off, h => by
    simp only [List.length_cons] at h
    show lwrite (lset cs off v) (Nat.succ off) vs = _
    rw [lset_eq, lwrite_eq vs _ _ (by rw [List.length_set]; omega)]
    have h1 : (cs.set off v).take (Nat.succ off) = cs.take off ++ [v] := by
      have this : off < cs.length := by omega
      rw [Nat.succ_eq_add_one, List.take_add_one, List.take_set, List.set_eq_of_length_le (by simp; omega), List.getElem?_set_self this]
      rfl
    rw [h1, List.drop_set_of_lt (by omega)]
    simp [Nat.add_assoc, Nat.add_comm 1]
theorem lwrite_rel {m : Mem} : ∀ (vs : List V) (ws : List Value) (cs : List V) (ds : List Value) (off : Nat), LR m vs ws → LR m cs ds → LR m (lwrite cs off vs) (lwrite ds off ws)
  | [], [], _, _, _, _, h => h
  | [], _ :: _, _, _, _, h, _ => by simp [LR] at h
  | _ :: _, [], _, _, _, h, _ => by simp [LR] at h
  | v :: vs, w :: ws, cs, ds, off, h, hc => by
    simp only [lwrite]
    refine lwrite_rel vs ws _ _ _ h.tail ?_
    rw [lset_eq, lset_eq]
    exact hc.set _ h.head
theorem lwrite_length {α : Type} : ∀ (vs cs : List α) (off : Nat), (lwrite cs off vs).length = cs.length
  | [], _, _ => rfl
  | v :: vs, cs, off => by
    show (lwrite (lset cs off v) (Nat.succ off) vs).length = _
    rw [lwrite_length, lset_eq, List.length_set]
theorem fold_lwrite : ∀ (ws : List Value) (n off : Nat) (ds : Array Value), ((ws.zipIdx n).foldl (fun (a : Array Value) (p : Value × Nat) => a.setIfInBounds (off + p.2) p.1) ds).toList = lwrite ds.toList (off + n) ws
  | [], _, _, _ => rfl
  | w :: ws, n, off, ds => by
    simp only [List.zipIdx_cons, List.foldl_cons, lwrite]
    rw [fold_lwrite ws (n + 1) off]
    simp [lset_eq, Nat.add_assoc]
theorem partsK_ok {fs : List (Nat × TypeId × Nat)} {ρ : Env} (pl : Nat → Option (Nat × Nat)) (hpl : ∀ i d ft sz, fs[i]? = some (d, ft, sz) → pl i = some (d, sz)) : ∀ {l : List (Nat × Operand)} {cs : List V} {K : List V → Prop}, partsK fs ρ l cs K →
    ∃ cs', K cs' ∧ ∀ (m : Mem) (a : Act) (ds : Array Value), (∀ p ∈ l, ∀ u, ρ p.2 = some u → VR m u (a.eval p.2)) → LR m cs ds.toList → ∃ ds', Instr.fill pl ds (l.map fun p => (p.1, a.eval p.2)) = some ds' ∧ LR m cs' ds'.toList
  | [], cs, K, h => ⟨cs, h, fun m a ds _ hl => ⟨ds, rfl, hl⟩⟩
  | (i, x) :: l, cs, K, h => by
    simp only [partsK] at h
    split at h
    case h_2 => cases h
    rename_i d ft sz hf
    rw [lget_eq] at hf
    split at h
    case h_2 => cases h
    rename_i v hv
    split at h
    case h_2 => cases h
    rename_i hsz
    split at h
    case h_2 => cases h
    rename_i hle
    have hsz := lenIs_t hsz
    have hle : d + sz ≤ cs.length := lenGe_t hle
    obtain ⟨cs', h1, h2⟩ := partsK_ok pl hpl (spineK_ok _ _ h)
    refine ⟨cs', h1, fun m a ds hp hl => ?_⟩
    have hvr := hp (i, x) (by simp) v hv
    have hlen := hvr.cells.1
    have hf' : pl i = some (d, sz) := hpl i d ft sz hf
    simp only [List.map_cons, Instr.fill, hf']
    have hds := hl.1
    have c1 : (a.eval x).cells.size = sz := by simpa [← hsz] using hlen.symm
    rw [if_neg (by simp at hds; simp [c1]; omega)]
    refine h2 m a _ (fun p hp' => hp p (by simp [hp'])) ?_
    have := fold_lwrite (a.eval x).cells.toList 0 d ds
    simp only [← Array.foldl_toList, Array.toList_zipIdx]
    rw [this]
    exact lwrite_rel _ _ _ _ _ hvr.cells hl
theorem arrF_at {e : TypeId} {sz : Nat} : ∀ (n d i : Nat) {d' : Nat} {ft : TypeId} {s : Nat}, (arrF e sz n d)[i]? = some (d', ft, s) → d' = d + i * sz ∧ s = sz
  | 0, d, i, _, _, _, h => by simp [arrF] at h
  | n + 1, d, 0, d', ft, s, h => by
    simp only [arrF, List.getElem?_cons_zero, Option.some.injEq, Prod.mk.injEq] at h
    obtain ⟨h1, h2, h3⟩ := h
    exact ⟨by omega, h3.symm⟩
  | n + 1, d, i + 1, d', ft, s, h => by
    simp only [arrF, List.getElem?_cons_succ] at h
    obtain ⟨h1, h2⟩ := arrF_at n (Nat.add d sz) i h
    refine ⟨?_, h2⟩
    rw [h1, Nat.add_mul]
    show d + sz + i * sz = _
    omega
theorem build_ok (hT : ∀ t i, tget T t = some i → tiOf P t = some i) {ρ : Env} {o : Oper} {H : SW} {K : V → Tag → Prop} {t : TypeId} {parts : Array (Nat × Operand)} (ho : o.op = .build t parts) (h : match tget T t with
    | some i => match i.k with
      | .struct fs => spineK (lsc i.zero) fun z => partsK fs ρ parts.toList z fun cs => K (.agg cs) .no
      | .array n e sz => spineK (lsc i.zero) fun z => partsK (arrF e sz n 0) ρ parts.toList z fun cs => K (.agg cs) .no
      | _ => False
    | none => False) : QOK P ρ o H K := by
  split at h
  case h_2 => cases h
  rename_i i hi
  split at h
  case h_3 => cases h
  case h_2 =>
    rename_i n e sz hk
    obtain ⟨inf, z, h1, h2, h3, h4, h5, h6, h7⟩ := tk_spec (hT _ _ hi)
    rw [hk] at h7
    obtain ⟨hu, inf2, hinf2, hsz⟩ := tk_array h7
    obtain ⟨cs', hK, hp⟩ := partsK_ok (fun i => some (i * sz, sz)) (fun i d ft s hs => by obtain ⟨r1, r2⟩ := arrF_at n 0 i hs; subst r1 r2; simp) (spineK_ok _ _ h)
    refine QOK.no hK fun m a hrel => ?_
    have hz : LR m (lsc i.zero) z.cells.toList := by rw [h5]; exact lsc_ok h6
    obtain ⟨ds, hd, hr⟩ := hp m a z.cells (fun p hp u hu => hrel p.2 (by simp only [ho, Op.operands]; exact List.mem_toArray.2 (List.mem_map.2 ⟨p, hp, rfl⟩)) u hu) hz
    refine ⟨.agg ds, ?_, VR.aggL hr⟩
    subst hsz
    simp [execOp, ho, Instr.build, zeroValue, typeInfo, sizeOf, h1, h4, run_underlying hu, hinf2, hd]
  rename_i fs hk
  obtain ⟨inf, z, h1, h2, h3, h4, h5, h6, h7⟩ := tk_spec (hT _ _ hi)
  rw [hk] at h7
  obtain ⟨fs', hu, hfs⟩ := tk_struct h7
  obtain ⟨cs', hK, hp⟩ := partsK_ok ((fs.map fun p => (p.1, p.2.2))[·]?) (fun i d ft sz hs => by simp [hs]) (spineK_ok _ _ h)
  refine QOK.no hK fun m a hrel => ?_
  have hz : LR m (lsc i.zero) z.cells.toList := by rw [h5]; exact lsc_ok h6
  obtain ⟨ds, hd, hr⟩ := hp m a z.cells (fun p hp u hu => hrel p.2 (by simp only [ho, Op.operands]; exact List.mem_toArray.2 (List.mem_map.2 ⟨p, hp, rfl⟩)) u hu) hz
  refine ⟨.agg ds, ?_, VR.aggL hr⟩
  have hpl := (fields_at (W := m.W) fs'.toList fs hfs).1
  have hpl' : (fs'.mapM (m := Sem) fun f => Functor.map (Prod.mk f.offset) (sizeOf f.type)).run P m.W = .ok (fs.map fun p => (p.1, p.2.2)).toArray m.W := by
    rw [Array.mapM_eq_mapM_toList]
    simp [hpl]
  simp only [List.getElem?_map] at hd
  simp [execOp, ho, Instr.build, zeroValue, typeInfo, h1, h4, run_underlying hu, hpl', hd]
theorem indexV_ok (hT : ∀ t i, tget T t = some i → tiOf P t = some i) {ρ : Env} {o : Oper} {H : SW} {K : V → Tag → Prop} {t : TypeId} {x ix : Operand} (ho : o.op = .index t x ix) (h : match tget T t with
    | some ti => match ti.k with
      | .array n e sz => match ρ ix with
        | some (.sc (.int _ i)) => match ρ x with
          | some (.agg cs) => ob (0 ≤ i ∧ i < (n : Int)) (forceN (Nat.mul (toN i) sz) fun d => loadK T e cs d fun v => K v .no)
          | _ => False
        | _ => False
      | _ => gen P ρ o fun v => K v .no
    | none => gen P ρ o fun v => K v .no) : QOK P ρ o H K := by
  split at h
  case h_2 => exact QOK.gen h
  rename_i ti hti
  split at h
  case h_2 => exact QOK.gen h
  rename_i n e sz hk
  obtain ⟨_, _, _, _, _, _, _, _, h7⟩ := tk_spec (hT _ _ hti)
  rw [hk] at h7
  obtain ⟨hu, inf, hinf, hsz⟩ := tk_array h7
  split at h
  case h_2 => cases h
  rename_i k i hix
  split at h
  case h_2 => cases h
  rename_i cs hx
  obtain ⟨hr, h⟩ := h
  have h := forceN_ok h
  obtain ⟨v, hK, _, hp⟩ := loadK_ok hT h
  refine QOK.no hK fun m a hrel => ?_
  have hx' := hrel x (by simp [ho, Op.operands]) _ hx
  have hix' := (hrel ix (by simp [ho, Op.operands]) _ hix).of_sc
  generalize ex : a.eval x = x' at hx'
  cases hx' with
  | @agg _ ys hs hh =>
    obtain ⟨v', r1, r2⟩ := hp m ys.toList ⟨hs, hh⟩
    refine ⟨v', ?_, r2⟩
    have ee : Nat.mul (toN i) sz = i.toNat * inf.size := by rw [toN_eq, hsz]; rfl
    rw [ee] at r1
    have r1' : (part e ys (i.toNat * inf.size)).run P m.W = .ok v' m.W := by simpa using r1
    simp [execOp, ho, Instr.index, run_underlying hu, ex, hix', asIntOf, hr, sizeOf, typeInfo, hinf, r1']
theorem field_ok (hT : ∀ t i, tget T t = some i → tiOf P t = some i) {ρ : Env} {o : Oper} {H : SW} {K : V → Tag → Prop} {t : TypeId} {x : Operand} {f : Nat} (ho : o.op = .field t x f) (h : match tget T t with
    | some i => match i.k with
      | .struct fs => match lget fs f with
        | some (d, ft, _) => match ρ x with
          | some (.agg cs) => loadK T ft cs d fun v => K v .no
          | _ => False
        | none => False
      | _ => False
    | none => False) : QOK P ρ o H K := by
  split at h
  case h_2 => cases h
  rename_i i hi
  split at h
  case h_2 => cases h
  rename_i fs hk
  obtain ⟨inf, z, h1, h2, h3, h4, h5, h6, h7⟩ := tk_spec (hT _ _ hi)
  rw [hk] at h7
  obtain ⟨fs', hu, hfs⟩ := tk_struct h7
  split at h
  case h_2 => cases h
  rename_i d ft sz hf
  obtain ⟨fd, finf, f1, f2, f3, f4, f5⟩ := fields_size hfs hf
  split at h
  case h_2 => cases h
  rename_i cs hx
  obtain ⟨v, hK, _, hp⟩ := loadK_ok hT h
  refine QOK.no hK fun m a hrel => ?_
  have hx' := hrel x (by simp [ho, Op.operands]) _ hx
  generalize ex : a.eval x = x' at hx'
  cases hx' with
  | @agg _ ys hs hh =>
    obtain ⟨v', r1, r2⟩ := hp m ys.toList ⟨hs, hh⟩
    refine ⟨v', ?_, r2⟩
    subst f2 f3
    have r1' : (part fd.type ys fd.offset).run P m.W = .ok v' m.W := by simpa using r1
    simp [execOp, ho, Instr.field, run_underlying hu, f1, ex, asAgg, r1']
theorem fieldAddr_ok (hT : ∀ t i, tget T t = some i → tiOf P t = some i) {ρ : Env} {o : Oper} {H : SW} {K : V → Tag → Prop} {s : TypeId} {x : Operand} {f : Nat} (ho : o.op = .fieldAddr s x f) (h : match tget T s with
    | some i => match i.k with
      | .struct fs => match lget fs f with
        | some (d, _, sz) => match sz with
          | 0 => False
          | Nat.succ _ => match ρ x with
            | some (.ptr b off) => forceN (off + d) fun n => K (.ptr b n) .no
            | some (.pe b s i off) => forceN (off + d) fun n => K (.pe b s i n) .no
            | some (.pv cs off) => forceN (off + d) fun n => K (.pv cs n) .no
            | _ => False
        | none => False
      | _ => False
    | none => False) : QOK P ρ o H K := by
  split at h
  case h_2 => cases h
  rename_i i hi
  split at h
  case h_2 => cases h
  rename_i fs hk
  obtain ⟨inf, z, h1, h2, h3, h4, h5, h6, h7⟩ := tk_spec (hT _ _ hi)
  rw [hk] at h7
  obtain ⟨fs', hu, hfs⟩ := tk_struct h7
  split at h
  case h_2 => cases h
  rename_i d ft sz hf
  obtain ⟨fd, finf, f1, f2, f3, f4, f5⟩ := fields_size hfs hf
  split at h
  · cases h
  rename_i sz'
  subst f2 f3
  split at h
  · rename_i b off hx
    refine QOK.no (forceN_ok h) fun m a hrel => ?_
    have hx' := hrel x (by simp [ho, Op.operands]) _ hx
    generalize ex : a.eval x = x' at hx'
    cases hx' with
    | ptr hb => exact ⟨_, run_fieldAddr hu f1 f4 (by omega) ho ex m.W, .ptr hb⟩
  · rename_i b s' i' off hx
    refine QOK.no (forceN_ok h) fun m a hrel => ?_
    have hx' := hrel x (by simp [ho, Op.operands]) _ hx
    generalize ex : a.eval x = x' at hx'
    cases hx' with
    | pe hb => exact ⟨_, run_fieldAddr hu f1 f4 (by omega) ho ex m.W, by rw [Nat.add_assoc]; exact .pe hb⟩
  · rename_i cs off hx
    refine QOK.no (forceN_ok h) fun m a hrel => ?_
    have hx' := hrel x (by simp [ho, Op.operands]) _ hx
    generalize ex : a.eval x = x' at hx'
    cases hx' with
    | pv us hF hl hh hc => exact ⟨_, run_fieldAddr hu f1 f4 (by omega) ho ex m.W, by rw [Nat.add_assoc]; exact .pv us hF hl hh hc⟩
  · cases h
theorem QOK.arith {ρ : Env} {o : Oper} {H : SW} {K : V → Tag → Prop} {k : IntKind} {n : Int} (h : arith k n fun v => K v .no) (hq : ∀ (m : Mem) (a : Act), Rel m ρ o a → (execOp a.eval o).run P m.W = .ok (.value (.int k (k.wrap n))) m.W) : QOK P ρ o H K :=
  QOK.no (K := K) h.h fun m a hr => ⟨_, hq m a hr, .sc rfl⟩
theorem bin_ok (hT : ∀ t i, tget T t = some i → tiOf P t = some i) {ρ : Env} {o : Oper} {H : SW} {K : V → Tag → Prop} {op : BinOp} {t ty : TypeId} {x y : Operand} (ho : o.op = .binOp op t x y ty) (h : binW P T ρ o op t x y fun v => K v .no) : QOK P ρ o H K := by
  have hsl : ∀ {t : TypeId}, isSl T t = true → ∃ e, P.underlying t = some (.slice e) := fun {t} h => by
    unfold isSl at h
    split at h
    · rename_i i hi
      split at h
      · rename_i e s b hk
        obtain ⟨_, _, _, _, _, _, _, _, h7⟩ := tk_spec (hT _ _ hi)
        rw [hk] at h7
        exact ⟨_, (tk_slice h7).1⟩
      · cases h
    · cases h
  have nil : ∀ (n : Nat) (u : V), ρ x = some u → (∀ (m : Mem) (u' : Value), VR m u u' → 0 < n → ∃ A c, u' = .slice (some A) n c) → isSl T t = true → (match ρ y with | some (.sc (.slice none _ _)) => nilW n op (fun v => K v .no) | _ => False) → QOK P ρ o H K := by
    intro n u hx hu hs h
    obtain ⟨e, hue⟩ := hsl hs
    split at h
    case h_2 => cases h
    rename_i n' c' hy
    have eqv : ∀ (m : Mem) (a : Act), Rel m ρ o a → 0 < n → ∃ A c, a.eval x = .slice (some A) n c ∧ a.eval y = .slice none n' c' := fun m a hr hn => by
      obtain ⟨A, c, hA⟩ := hu m _ (hr x (by simp [ho, Op.operands]) _ hx) hn
      exact ⟨A, c, hA, (hr y (by simp [ho, Op.operands]) _ hy).of_sc⟩
    have eqs : ∀ (A : Addr) (c : Nat) (W : World), (Op.equal t (.slice (some A) n c) (.slice none n' c')).run P W = .ok false W := fun A c W => by
      unfold Op.equal Op.maxDepth
      rw [show (10000 : Nat) = 9999 + 1 from rfl, Op.equalIn]
      rw [Sem.run_bind, run_underlying hue]
      rfl
    unfold nilW at h
    split at h
    · obtain ⟨hn, h⟩ := h
      refine QOK.no h fun m a hr => ?_
      obtain ⟨A, c, e1, e2⟩ := eqv m a hr hn
      exact ⟨_, by simp [execOp, ho, e1, e2, eqGuard, binOp, eqs], .sc rfl⟩
    · obtain ⟨hn, h⟩ := h
      refine QOK.no h fun m a hr => ?_
      obtain ⟨A, c, e1, e2⟩ := eqv m a hr hn
      exact ⟨_, by simp [execOp, ho, e1, e2, eqGuard, binOp, eqs], .sc rfl⟩
    · cases h
  unfold binW at h
  split at h
  · rename_i k a hx
    split at h
    case h_2 => cases h
    rename_i k' b hy
    split at h
    case h_2 => cases h
    rename_i hk
    obtain rfl := ikn_inj hk
    have hv : ∀ (m : Mem) (c : Act), Rel m ρ o c → c.eval x = .int k a ∧ c.eval y = .int k b := fun m c hr =>
      ⟨(hr x (by simp [ho, Op.operands]) _ hx).of_sc, (hr y (by simp [ho, Op.operands]) _ hy).of_sc⟩
    unfold intW at h
    split at h
    · exact QOK.arith h fun m c hr => by obtain ⟨e1, e2⟩ := hv m c hr; simp [execOp, ho, e1, e2, eqGuard, binOp, Op.intArith]
    · exact QOK.arith h fun m c hr => by obtain ⟨e1, e2⟩ := hv m c hr; simp [execOp, ho, e1, e2, eqGuard, binOp, Op.intArith]
    · exact QOK.arith h fun m c hr => by obtain ⟨e1, e2⟩ := hv m c hr; simp [execOp, ho, e1, e2, eqGuard, binOp, Op.intArith]
    · obtain ⟨hb, h⟩ := h
      exact QOK.arith h fun m c hr => by obtain ⟨e1, e2⟩ := hv m c hr; simp [execOp, ho, e1, e2, eqGuard, binOp, Op.intDiv, hb]
    · obtain ⟨hb, h⟩ := h
      exact QOK.no h fun m c hr => by obtain ⟨e1, e2⟩ := hv m c hr; exact ⟨_, by simp [execOp, ho, e1, e2, eqGuard, binOp, Op.intDiv, hb], .sc rfl⟩
    · exact QOK.no h fun m c hr => by obtain ⟨e1, e2⟩ := hv m c hr; exact ⟨.bool (decide (a = b)), by simp [execOp, ho, e1, e2, eqGuard, binOp, Op.intCmp, intBeq], .sc rfl⟩
    · exact QOK.no h fun m c hr => by obtain ⟨e1, e2⟩ := hv m c hr; exact ⟨.bool (decide (a ≠ b)), by simp [execOp, ho, e1, e2, eqGuard, binOp, Op.intCmp, bne, intBeq], .sc rfl⟩
    · exact QOK.no h fun m c hr => by obtain ⟨e1, e2⟩ := hv m c hr; exact ⟨_, by simp [execOp, ho, e1, e2, eqGuard, binOp, Op.intCmp], .sc rfl⟩
    · exact QOK.no h fun m c hr => by obtain ⟨e1, e2⟩ := hv m c hr; exact ⟨_, by simp [execOp, ho, e1, e2, eqGuard, binOp, Op.intCmp], .sc rfl⟩
    · exact QOK.no h fun m c hr => by obtain ⟨e1, e2⟩ := hv m c hr; exact ⟨_, by simp [execOp, ho, e1, e2, eqGuard, binOp, Op.intCmp], .sc rfl⟩
    · exact QOK.no h fun m c hr => by obtain ⟨e1, e2⟩ := hv m c hr; exact ⟨_, by simp [execOp, ho, e1, e2, eqGuard, binOp, Op.intCmp], .sc rfl⟩
    · exact QOK.gen h
  · rename_i b sz off n hx
    split at h
    case h_2 => cases h
    rename_i hs
    refine nil n _ hx (fun m u' hr hn => ?_) hs h
    cases hr with
    | own hb hle => exact ⟨_, _, rfl⟩
    | own0 => omega
  · rename_i sz n e hx
    split at h
    case h_2 => cases h
    rename_i hs
    refine nil n _ hx (fun m u' hr hn => ?_) hs h
    cases hr with
    | sl us hnc hF hh hss hc => exact ⟨_, _, rfl⟩
    | sl0 => omega
  · rename_i hx
    split at h
    case h_2 => cases h
    rename_i hy
    have ev : ∀ (m : Mem) (a : Act), Rel m ρ o a → ∃ t v, a.eval x = .iface t v ∧ a.eval y = .nilIface := fun m a hr => by
      have h1 := hr x (by simp [ho, Op.operands]) _ hx
      generalize a.eval x = x' at h1
      cases h1 with
      | ifc => exact ⟨_, _, rfl, (hr y (by simp [ho, Op.operands]) _ hy).of_sc⟩
    obtain ⟨h1, h2⟩ := h
    have hu : ∃ ms, P.underlying t = some (.interface ms) := by
      unfold isIfB at h1
      split at h1
      · rename_i ms hu; exact ⟨ms, hu⟩
      · cases h1
    obtain ⟨ms, hu⟩ := hu
    have eqv : ∀ (W : World) (t' : TypeId) (v : Value), (Op.equal t (.iface t' v) .nilIface).run P W = .ok false W := fun W t' v => by
      show (Op.equalIn (9999 + 1) t (.iface t' v) .nilIface).run P W = _
      rw [Op.equalIn]
      simp [run_underlying hu, Result.andThen]
    cases op <;> first | exact h2.elim | skip
    · refine QOK.no h2 fun m a hr => ?_
      obtain ⟨t', v, e1, e2⟩ := ev m a hr
      exact ⟨_, by simp [execOp, ho, e1, e2, binOp, eqGuard, eqv, Result.andThen], .sc rfl⟩
    · refine QOK.no h2 fun m a hr => ?_
      obtain ⟨t', v, e1, e2⟩ := ev m a hr
      exact ⟨_, by simp [execOp, ho, e1, e2, binOp, eqGuard, eqv, Result.andThen], .sc rfl⟩
  · exact QOK.gen h

theorem isSl_ok (hT : ∀ t i, tget T t = some i → tiOf P t = some i) {t : TypeId} (h : isSl T t = true) : ∃ e, P.underlying t = some (.slice e) := by
  unfold isSl at h
  split at h
  · rename_i i hi
    split at h
    · rename_i e s b hk
      obtain ⟨_, _, _, _, _, _, _, _, h7⟩ := tk_spec (hT _ _ hi)
      rw [hk] at h7
      exact ⟨_, (tk_slice h7).1⟩
    · cases h
  · cases h
theorem len_ok (hT : ∀ t i, tget T t = some i → tiOf P t = some i) {ρ : Env} {o : Oper} {H : SW} {K : V → Tag → Prop} {c : Call} (ho : o.op = .call c) (hb : c.callee = .builtin .len) (h : lenW P T ρ o c.args.toList c.argTypes.toList fun v => K v .no) : QOK P ρ o H K := by
  obtain ⟨callee, ⟨args⟩, ⟨ts⟩⟩ := c
  simp only at hb h
  subst hb
  have go : ∀ (x : Operand) (n : Nat), args = [x] → (∀ (m : Mem) (a : Act), Rel m ρ o a → ∃ A c, a.eval x = .slice A n c) → (match lget ts 0 with
      | some t => match isSl T t with
        | true => K (I n) .no
        | false => False
      | none => False) → QOK P ρ o H K := by
    intro x n ha hx h
    split at h
    case h_2 => cases h
    rename_i t ht
    split at h
    case h_2 => cases h
    rename_i hs
    obtain ⟨e, hu⟩ := isSl_ok hT hs
    rw [lget_eq] at ht
    refine QOK.no h fun m a hr => ?_
    obtain ⟨A, c, hA⟩ := hx m a hr
    subst ha
    exact ⟨_, by simp [execOp, ho, resolve, invoke, builtin, Builtin.len_, ht, hA, run_underlying hu, goInt], .sc rfl⟩
  unfold lenW at h
  split at h
  · rename_i x
    split at h
    · rename_i b sz off n hx
      refine go x n rfl (fun m a hr => ?_) h
      have hv := hr x (by simp [ho, Op.operands, Call.operands]) _ hx
      generalize a.eval x = x' at hv
      cases hv <;> exact ⟨_, _, rfl⟩
    · rename_i sz n e hx
      refine go x n rfl (fun m a hr => ?_) h
      have hv := hr x (by simp [ho, Op.operands, Call.operands]) _ hx
      generalize a.eval x = x' at hv
      cases hv <;> exact ⟨_, _, rfl⟩
    · rename_i n c hx
      refine go x n rfl (fun m a hr => ?_) h
      exact ⟨_, _, (hr x (by simp [ho, Op.operands, Call.operands]) _ hx).of_sc⟩
    · exact QOK.gen h
  · cases h
theorem mm_ok {ρ : Env} {o : Oper} {H : SW} {K : V → Tag → Prop} {c : Call} {mx : Bool} (ho : o.op = .call c) (hb : c.callee = .builtin (if mx then .max else .min)) (h : mmW P mx ρ o c.args.toList fun v => K v .no) : QOK P ρ o H K := by
  obtain ⟨callee, ⟨args⟩, ⟨ts⟩⟩ := c
  simp only at hb h
  subst hb
  unfold mmW at h
  split at h
  · rename_i x y
    unfold mm2 at h
    split at h
    case h_2 => cases h
    rename_i k a hx
    split at h
    case h_2 => cases h
    rename_i k' b hy
    split at h
    case h_2 => cases h
    rename_i hk
    obtain rfl := ikn_inj hk
    have hv : ∀ (m : Mem) (c : Act), Rel m ρ o c → c.eval x = .int k a ∧ c.eval y = .int k b := fun m c hr =>
      ⟨(hr x (by simp [ho, Op.operands, Call.operands]) _ hx).of_sc, (hr y (by simp [ho, Op.operands, Call.operands]) _ hy).of_sc⟩
    split at h
    · refine QOK.no h fun m c hr => ?_
      obtain ⟨e1, e2⟩ := hv m c hr
      refine ⟨_, ?_, .sc rfl⟩
      have : (if b > a then b else a) = max a b := by omega
      simp [execOp, ho, resolve, invoke, builtin, Builtin.max_, Builtin.max2, e1, e2, this]
    · refine QOK.no h fun m c hr => ?_
      obtain ⟨e1, e2⟩ := hv m c hr
      refine ⟨_, ?_, .sc rfl⟩
      have : (if b < a then b else a) = min a b := by omega
      simp [execOp, ho, resolve, invoke, builtin, Builtin.min_, Builtin.min2, e1, e2, this]
  · exact QOK.gen h
theorem evs_rel {ρ : Env} {o : Oper} {l : List Operand} {vs : List V} (hl : vs.length = l.length) (hv : ∀ (i : Nat) (x : Operand) (v : V), l[i]? = some x → vs[i]? = some v → ρ x = some v) (hm : ∀ x ∈ l, x ∈ o.op.operands) {m : Mem} {a : Act} (hr : Rel m ρ o a) : LR m vs (l.map a.eval) := by
  refine ⟨by simp [hl], fun i x y hx hy => ?_⟩
  rw [List.getElem?_map] at hy
  obtain ⟨p, hp, rfl⟩ := Option.map_eq_some_iff.1 hy
  exact hr p (hm p (List.mem_of_getElem? hp)) _ (hv i p x hp hx)
/-- **Operations that change nothing.** -/
theorem qopW_ok (hT : ∀ t i, tget T t = some i → tiOf P t = some i) {ρ : Env} {o : Oper} {H : SW} {K : V → Tag → Prop} (hB : ∀ t n parts, o.op = .buildSlice t n parts → QOK P ρ o H K) (hC : ∀ t t2 x s, o.op = .convert t t2 x → ρ x = some (.sc (.string s)) → ob (bysB P t t2 = true) (K (.sl 1 s.size fun i => .sc (.int .u8 (sb s i))) .no) → QOK P ρ o H K) (h : qopW P T ρ o H K) : QOK P ρ o H K := by
  unfold qopW at h
  split at h
  case h_1 x ho =>
    split at h
    · rename_i v hx
      exact QOK.no h fun m a hr => ⟨_, by simp [execOp, ho], hr x (by simp [ho, Op.operands]) _ hx⟩
    · cases h
  case h_2 x ho =>
    split at h
    · rename_i v hx
      exact QOK.no h fun m a hr => ⟨_, by simp [execOp, ho], hr x (by simp [ho, Op.operands]) _ hx⟩
    · cases h
  case h_3 c a b ho =>
    split at h
    case h_2 => cases h
    rename_i t hc
    split at h
    · split at h
      · rename_i v hx
        refine QOK.no h fun m act hr => ⟨act.eval a, ?_, hr a (by simp [ho, Op.operands]) _ hx⟩
        have := (hr c (by simp [ho, Op.operands]) _ hc).of_sc
        simp [execOp, ho, this, asBool]
      · cases h
    · split at h
      · rename_i v hx
        refine QOK.no h fun m act hr => ⟨act.eval b, ?_, hr b (by simp [ho, Op.operands]) _ hx⟩
        have := (hr c (by simp [ho, Op.operands]) _ hc).of_sc
        simp [execOp, ho, this, asBool]
      · cases h
  case h_4 t x ho => exact load_ok hT ho h
  case h_5 s x f ho => exact fieldAddr_ok hT ho h
  case h_6 t x ix ho => exact index_ok hT ho h
  case h_7 t x lo hi ho => exact slice_ok hT ho h
  case h_8 f first captured ho =>
    split at h
    case h_2 =>
      split at h
      case h_2 => cases h
      rename_i hf
      obtain ⟨vs, h1, h2, h3⟩ := evs_ok h
      obtain rfl : captured = #[] := by rcases captured with ⟨l⟩; simp only at hf; subst hf; rfl
      refine QOK.no h1 fun m a hr => ⟨.func (.func f) (first.map a.eval) #[], by simp [execOp, ho, Instr.makeFunc], ?_⟩
      refine VR.mvL ?_
      rw [Array.toList_map]
      exact evs_rel h2 h3 (fun x hx => by simp [ho, Op.operands]; exact Array.mem_toList_iff.1 hx) hr
    rename_i hf
    obtain ⟨vs, h1, h2, h3⟩ := evs_ok h
    obtain rfl : first = #[] := by rcases first with ⟨l⟩; simp only at hf; subst hf; rfl
    refine QOK.no h1 fun m a hr => ⟨.func (.func f) #[] (captured.map a.eval), by simp [execOp, ho, Instr.makeFunc], ?_⟩
    refine VR.fnL ?_
    rw [Array.toList_map]
    exact evs_rel h2 h3 (fun x hx => by simp [ho, Op.operands]; exact Array.mem_toList_iff.1 hx) hr
  case h_9 x ix ho =>
    split at h
    case h_2 => cases h
    rename_i vs hx
    split at h
    case h_2 => cases h
    rename_i v hv
    rw [lget_eq] at hv
    refine QOK.no h fun m a hr => ?_
    have hx' := hr x (by simp [ho, Op.operands]) _ hx
    generalize ex : a.eval x = x' at hx'
    cases hx' with
    | @tup _ ys hs hh =>
      have hlr : LR m vs ys.toList := ⟨hs, hh⟩
      obtain ⟨v', hv', hr'⟩ := hlr.get? hv
      rw [Array.getElem?_toList] at hv'
      exact ⟨v', by simp [execOp, ho, Instr.extract, ex, hv'], hr'⟩
  case h_10 t parts ho => exact build_ok hT ho h
  case h_11 t x ix ho => exact indexV_ok hT ho h
  case h_12 t x f ho => exact field_ok hT ho h
  case h_13 op t x y ty ho => exact bin_ok hT ho h
  case h_14 t x ho =>
    split at h
    · rename_i k a hx
      exact QOK.arith h fun m c hr => by
        have := (hr x (by simp [ho, Op.operands]) _ hx).of_sc
        simp [execOp, ho, this, Op.unary, Op.intArith]
    · exact QOK.gen h
  case h_15 t x ho =>
    split at h
    · rename_i b hx
      exact QOK.no h fun m c hr => ⟨_, by
        have := (hr x (by simp [ho, Op.operands]) _ hx).of_sc
        simp [execOp, ho, this, Op.unary], .sc rfl⟩
    · cases h
  case h_16 c ho =>
    split at h
    · rename_i hb; exact len_ok hT ho hb h
    · rename_i hb; exact mm_ok (mx := true) ho hb h
    · rename_i hb; exact mm_ok (mx := false) ho hb h
    · exact QOK.gen h
  case h_17 t n parts ho => exact hB t n parts ho
  case h_18 x ho =>
    split at h
    · rename_i b off hx
      refine QOK.no h fun m a hr => ?_
      have hv := hr x (by simp [ho, Op.operands]) _ hx
      refine ⟨a.eval x, ?_, hv⟩
      generalize hu : a.eval x = u at hv
      cases hv with
      | ptr hp => simp [execOp, ho, hu]
    · rename_i b sz i off hx
      refine QOK.no h fun m a hr => ?_
      have hv := hr x (by simp [ho, Op.operands]) _ hx
      refine ⟨a.eval x, ?_, hv⟩
      generalize hu : a.eval x = u at hv
      cases hv with
      | pe hp => simp [execOp, ho, hu]
    · rename_i cs off hx
      refine QOK.no h fun m a hr => ?_
      have hv := hr x (by simp [ho, Op.operands]) _ hx
      refine ⟨a.eval x, ?_, hv⟩
      generalize hu : a.eval x = u at hv
      cases hv with
      | pv => simp [execOp, ho, hu]
    · cases h
  case h_19 t x ix ho =>
    split at h
    case h_2 => cases h
    rename_i i hi
    split at h
    · rename_i b hx
      split at h
      case h_2 => cases h
      rename_i g hg
      obtain ⟨h1, h2⟩ := h
      refine ⟨_, _, h2, fun _ e => (by cases e), fun w0 H2 ha => Quiet.same fun m a hr hw => ?_⟩
      have hxv := hr x (by simp [ho, Op.operands]) _ hx
      have hiv := (hr ix (by simp [ho, Op.operands]) _ hi).of_sc
      generalize ex : a.eval x = x' at hxv
      cases hxv with
      | mp hb =>
        obtain ⟨es, cl, q1, q2⟩ := hw.blk _ _ _ _ hb (ha.trans hg)
        exact ⟨_, run_lookIB ho h1 q1 q2 ex hiv, .sc rfl⟩
    · rename_i g hx
      obtain ⟨h1, h2⟩ := h
      refine QOK.no h2 fun m a hr => ?_
      have hxv := hr x (by simp [ho, Op.operands]) _ hx
      have hiv := (hr ix (by simp [ho, Op.operands]) _ hi).of_sc
      generalize ex : a.eval x = x' at hxv
      cases hxv with
      | mpv hF hh hm => exact ⟨_, run_lookIB ho h1 hh hm ex hiv, .sc rfl⟩
    · cases h
  case h_20 t t2 x ho =>
    split at h
    · rename_i hx; exact hC _ _ _ _ ho hx h
    · exact QOK.gen h
  case h_21 => exact QOK.gen h
end
end Go.Proofs.Ytkliejppigfjiaa.Fx
