/-
  Aids for the proofs of functions: rules in a handy form.
  Conditions: none.
-/
import Derived.Test.YtkliejppigfjiaaFk
namespace Go.Proofs.Ytkliejppigfjiaa.Fx
open Go.RowKit

theorem fn_i {P : Program} {T : Tbl} (hm : P.follows .mixedOrders = true) (hT : ∀ t i, tget T t = some i → tiOf P t = some i) {fid : Nat} {args : List V} {v : V} {news : List SB} (fn : Func) {nm og : String} {ta ps rt : Array TypeId} {nf nt : Nat} {rs : Array ResultVar} {c : Code} {nr ou : Bool} {fl : String} {el : Nat} {ln : Option Nat} {mt : List Departure} {tn : Array String}
    (hf : P.funcs[fid]? = some fn) (he : fn = ⟨nm, og, ta, ps, rt, nf, nt, rs, some c, nr, ou, fl, el, ln, mt, tn⟩) (hB : fnB P fid args.length = true)
    (h : codeW P T c (argFr 0 args) ⟨0, []⟩ (leaveW T rs.toList v news)) : FnOK P fid args v news := by
  subst he
  exact fn_ok hm hT hf rfl hB h
theorem ob_k {p K : Prop} (h : p) (k : K) : ob p K := ⟨h, k⟩
theorem ret0 {H : SW} {v0 v : V} (h : vm { H := H, H' := ⟨0, []⟩, σ := [] } v0 v) : RetS H v0 v [] := ⟨⟨[], rfl, h, trivial⟩⟩
theorem wrap_in {k : IntKind} {n : Int} (h : k.min ≤ n ∧ n ≤ k.max) : k.wrap n = n := by
  obtain ⟨h1, h2⟩ := h
  cases k <;> simp [IntKind.wrap, IntKind.min, IntKind.max, IntKind.bits, IntKind.signed] at * <;> omega
theorem arith_in {k : IntKind} {n : Int} {K : V → Prop} (h : k.min ≤ n ∧ n ≤ k.max) (hk : K (.sc (.int k n))) : arith k n K := by
  refine ⟨?_⟩
  rw [wrap_in h]; exact hk
theorem arith_64 {n : Int} {K : V → Prop} (h : -9223372036854775808 ≤ n ∧ n ≤ 9223372036854775807) (hk : K (.sc (.int .i64 n))) : arith .i64 n K := arith_in (by simpa [IntKind.min, IntKind.max, IntKind.bits, IntKind.signed] using h) hk
theorem arith_l {n : Int} (m : Int) {K : V → Prop} (e : n = m) (h : -9223372036854775808 ≤ m ∧ m ≤ 9223372036854775807) (hk : K (.sc (.int .i64 m))) : arith .i64 n K := by subst e; exact arith_64 h hk
theorem arith_w {k : IntKind} {n : Int} {K : V → Prop} (hk : K (.sc (.int k (k.wrap n)))) : arith k n K := ⟨hk⟩
theorem elemK_of {v w : V} {K : List V → Prop} (h : v = w) (k : elemK w K) : elemK v K := by rw [h]; exact k
theorem branch_nt {K : Bool → Prop} (h : K false) : branch (!true) K := ⟨h⟩
theorem branch_nf {K : Bool → Prop} (h : K true) : branch (!false) K := ⟨h⟩
theorem branch_ndec {p : Prop} [Decidable p] {K : Bool → Prop} (h : ¬p → K true) (h' : p → K false) : branch (!decide p) K := by
  by_cases hp : p
  · rw [decide_eq_true hp]; exact ⟨h' hp⟩
  · rw [decide_eq_false hp]; exact ⟨h hp⟩
@[simp] theorem toN_nat (k : Nat) : toN (k : Int) = k := by rw [toN_eq]; simp

/-! ### What holds no address of one's own; what holds none at all -/
class IsPure (v : V) : Prop where
  h : Pure v
class IsPureL (l : List V) : Prop where
  h : PureL l
instance {a : Value} : IsPure (.sc a) := ⟨pure_sc⟩
instance : IsPure .ifc := ⟨pure_ifc⟩
instance {f : Int → Bool} : IsPure (.mpv f) := ⟨pure_mpv⟩
instance : IsPureL [] := ⟨pureL_nil⟩
instance {v : V} {l : List V} [a : IsPure v] [b : IsPureL l] : IsPureL (v :: l) := ⟨pureL_cons a.h b.h⟩
instance {l : List V} [a : IsPureL l] : IsPure (.agg l) := ⟨pure_agg a.h⟩
instance {l : List V} [a : IsPureL l] : IsPure (.tup l) := ⟨pure_tup a.h⟩
instance {f : Nat} {l : List V} [a : IsPureL l] : IsPure (.fn f l) := ⟨pure_fn a.h⟩
instance {f : Nat} {l : List V} [a : IsPureL l] : IsPure (.mv f l) := ⟨pure_mv a.h⟩
instance {l : List V} {o : Nat} [a : IsPureL l] : IsPure (.pv l o) := ⟨pure_pv a.h⟩
instance {sz n : Nat} {e : Nat → V} [a : ∀ i, IsPure (e i)] : IsPure (.sl sz n e) := ⟨pure_sl fun i _ => (a i).h⟩
class IsPlain (v : V) : Prop where
  h : Plain v
class IsPlainL (l : List V) : Prop where
  h : PlainL l
instance {a : Value} : IsPlain (.sc a) := ⟨plain_sc⟩
instance : IsPlain .ifc := ⟨plain_ifc⟩
instance : IsPlainL [] := ⟨plainL_nil⟩
instance {v : V} {l : List V} [a : IsPlain v] [b : IsPlainL l] : IsPlainL (v :: l) := ⟨plainL_cons a.h b.h⟩
instance {l : List V} [a : IsPlainL l] : IsPlain (.agg l) := ⟨plain_agg a.h⟩
instance {l : List V} [a : IsPlainL l] : IsPlain (.tup l) := ⟨plain_tup a.h⟩
theorem vmL_pure {S : Vw} : ∀ {l : List V}, PureL l → vmL S l l
  | [], _ => .nil
  | v :: l, h => .cons (vm_pure (h v (by simp))) (vmL_pure fun w hw => h w (by simp [hw]))
theorem vm_p {S : Vw} {v : V} [a : IsPure v] : vm S v v := vm_pure a.h
theorem vmL_p {S : Vw} {l : List V} [a : IsPureL l] : vmL S l l := vmL_pure a.h
theorem pureS_no (q : Prop) : ∀ s ∈ ([] : List SB), PureS q s := fun s hs => by cases hs
/-- A call with arguments that hold nothing of one's own. -/
theorem call_u {P : Program} {fid : Nat} {args : List V} {v : V} {H : SW} {K : V → SW → Tag → Prop} (hf : FnOK P fid args v []) [a : IsPureL args] [b : IsPure v] (hk : K v H .no) : callW P fid args H K :=
  call_i hf (vmL_pure a.h) (pureS_no _) (rv_pure b.h) hk
/-- A call with arguments of one's own, lent. -/
theorem call_l {P : Program} {fid : Nat} {args args0 : List V} {v : V} {H : SW} {K : V → SW → Tag → Prop} (hf : FnOK P fid args0 v []) [b : IsPlain v] (ha : vmL { H := H, H' := ⟨0, []⟩, σ := [], fz := True } args args0) (hk : K v H .no) : callW P fid args H K :=
  call_p hf ha (pureS_no _) (rv_plain b.h) hk
theorem kept_no {H : SW} {σ : Sig} {q : Prop} {b : Nat} : ¬ ({ H := H, H' := ⟨0, []⟩, σ := σ, fz := q } : Vw).kept b := fun ⟨_, _, h, _⟩ => by cases h
theorem not_kept {S : Vw} {b : Nat} (h : ((S.H'.l.map (·.1)).all fun c => !(sget S.σ c == some b)) = true) : ¬ S.kept b := fun ⟨b', s', h1, h2⟩ => by
  have := List.all_eq_true.1 h b' (List.mem_map.2 ⟨_, hget_mem h1, rfl⟩)
  rw [h2] at this
  simp at this
theorem appF_lt {n : Nat} {e e' : Nat → V} {i : Nat} (h : i < n) : appF n e e' i = e i := if_pos h
theorem appF_ge {n : Nat} {e e' : Nat → V} {i : Nat} (h : ¬ i < n) : appF n e e' i = e' (i - n) := if_neg h
theorem appF_at {n : Nat} {e e' : Nat → V} : appF n e e' n = e' 0 := by rw [appF_ge (Nat.lt_irrefl n), Nat.sub_self]
theorem setF_at {e : Nat → V} {i : Nat} {v : V} : setF e i v i = v := if_pos rfl
theorem setF_ne {e : Nat → V} {i j : Nat} {v : V} (h : j ≠ i) : setF e i v j = e j := if_neg h
/-- The elements of a row to which one more was appended. -/
theorem vm_snoc {S : Vw} {k i : Nat} {e e' : Nat → V} {v : V} (hi : i < k + 1) (h1 : ∀ i, i < k → vm S (e i) (e' i)) (h2 : vm S v (e' k)) : vm S (appF k e (litF [v]) i) (e' i) := by
  by_cases h : i < k
  · rw [appF_lt h]; exact h1 i h
  · obtain rfl : i = k := by omega
    rw [appF_at]; exact h2
/-- A slice of one's own stays from now on. -/
theorem vm_fr {H : SW} {σ : Sig} {b sz n n' N : Nat} {e e' : Nat → V} {t : TypeId} {H' : SW} (hg : hget H.l b = some (.row sz N e t)) (hk : ((H'.l.map (·.1)).all fun c => !(sget σ c == some b)) = true) (hn : n = n') (hle : n ≤ N) (h : ∀ i, i < n' → vm { H := H, H' := H', σ := σ } (e i) (e' i)) :
    vm { H := H, H' := H', σ := σ } (.own b sz 0 n) (.sl sz n' e') := vm_frz (S := { H := H, H' := H', σ := σ }) trivial hg (not_kept hk) hn (by omega) fun i hi => by rw [Nat.zero_add]; exact h i hi
/-- A slice of one's own, lent: the elements one by one. -/
theorem vm_lend {H : SW} {σ : Sig} {b sz o n n' N : Nat} {e e' : Nat → V} {t : TypeId} (hg : hget H.l b = some (.row sz N e t)) (hn : n = n') (hle : o + n ≤ N) (h : ∀ i, i < n' → vm { H := H, H' := ⟨0, []⟩, σ := σ, fz := True } (e (o + i)) (e' i)) :
    vm { H := H, H' := ⟨0, []⟩, σ := σ, fz := True } (.own b sz o n) (.sl sz n' e') := vm_frz trivial hg kept_no hn hle h
/-- A literal slice of numbers, lent. -/
@[reducible] def eInts (l : List Int) : V := .sl 1 l.length fun i => I (l.getD i 0)
instance {l : List Int} : IsPure (eInts l) := ⟨pure_sl fun _ _ => pure_sc⟩
theorem vmL_get {S : Vw} : ∀ {xs ys : List V}, vmL S xs ys → ∀ i, i < ys.length → vm S (litF xs i) (litF ys i)
  | _, _, .nil, i, h => by simp at h
  | _, _, .cons h t, 0, _ => h
  | _, _, .cons h t, i + 1, hi => by
    have := vmL_get t i (by simpa using hi)
    simpa [litF, lget] using this
theorem vmL_len {S : Vw} : ∀ {xs ys : List V}, vmL S xs ys → xs.length = ys.length
  | _, _, .nil => rfl
  | _, _, .cons _ t => by simp [vmL_len t]
theorem litF_map {α : Type} (f : α → V) (d : α) (l : List α) (i : Nat) (h : i < l.length) : litF (l.map f) i = f (l.getD i d) := by
  rw [litF_eq, List.getD_eq_getElem?_getD, List.getD_eq_getElem?_getD]
  simp [h]
theorem vm_lit {H : SW} {σ : Sig} {b sz n : Nat} {vs : List V} {t : TypeId} {α : Type} {f : α → V} {d : α} (l : List α) (hg : hget H.l b = some (.row sz n (litF vs) t)) (hn : n = l.length) (h : vmL { H := H, H' := ⟨0, []⟩, σ := σ, fz := True } vs (l.map f)) :
    vm { H := H, H' := ⟨0, []⟩, σ := σ, fz := True } (.own b sz 0 n) (.sl sz l.length fun i => f (l.getD i d)) := by
  refine vm_lend hg hn (by omega) fun i hi => ?_
  have := vmL_get h i (by simpa using hi)
  rw [litF_map f d l i hi] at this
  simpa using this
theorem vm_lits {S : Vw} {sz n : Nat} {vs : List V} {α : Type} {f : α → V} {d : α} (l : List α) (hn : n = l.length) (h : vmL S vs (l.map f)) : vm S (.sl sz n (litF vs)) (.sl sz l.length fun i => f (l.getD i d)) := by
  refine vm_sl hn fun i hi => ?_
  have := vmL_get h i (by simpa using hi)
  rw [litF_map f d l i hi] at this
  exact this
theorem FnOK.of_calls {P : Program} {fid : Nat} {b : Bool} (he : Enters P fid) (h : ∀ w, Calls P fid #[] w fun e w' => e = .returned (.bool b) ∧ Ov w w') : FnOK P fid [] (B b) [] := by
  refine ⟨he, fun m args' hφ hF hD hgl hl => ?_⟩
  obtain rfl : args' = #[] := by
    have := hl.1
    simp at this
    exact Array.eq_empty_of_size_eq_zero (by omega)
  refine (callsIn_wide.2 (h m.W)).mono ?_
  rintro e W' ⟨rfl, ho⟩
  have no : ∀ b p, m.φ b = some p → False := fun b p h => by rw [hφ] at h; cases h
  refine ⟨.bool b, { m with W := W' }, rfl, rfl, fun _ h => h, rfl, ⟨ho, fun b p h => (no b p h).elim, fun b s h => (by cases h), fun b g C s h _ => (no b _ h).elim, fun b g C s h _ => (no b _ h).elim, fun b b' g C C' s s' h _ _ _ => (no b _ h).elim, fun g h => Nat.lt_of_lt_of_le (hF g h) ho.size,
    fun g hg => (by have hg' : g ∈ m.D.d := hg; rw [hD] at hg'; cases hg'), (by show m.D.d.Nodup; rw [hD]; exact List.nodup_nil), fun g hg => .inl hg, hgl.mono (fun _ h => h) (fun g hg => ho.below.block g (hF g hg))⟩, .sc rfl⟩
end Go.Proofs.Ytkliejppigfjiaa.Fx
namespace Go.Proofs.Ytkliejppigfjiaa.Fx
open Go.RowKit
theorem loop_x {P : Program} {T : Tbl} (hm : P.follows .mixedOrders = true) (hT : ∀ t i, tget T t = some i → tiOf P t = some i) {c : Code} {fr : Fr} {H : SW} {K : Exit → Fr → SW → Prop} {α : Type} (st : α → Fr × SW) (I : α → Prop) (μ : α → Nat) (x0 : α) (h0 : I x0) (h1 : Sub fr H (st x0))
    (round : ∀ x, I x → codeW P T c (st x).1 (st x).2 fun e fr' H' => match e with
      | .normal => ∃ y, I y ∧ μ y < μ x ∧ Sub fr' H' (st y)
      | .ret => K .ret fr' H'
      | .exit id => ∃ s : Fr × SW, Sub fr' H' s ∧ K (.exit id) s.1 s.2
      | _ => False) : loopW P T c fr H K := by
  refine ⟨?_⟩
  intro n rdm hc w0 rd out m b hr ha hw Q hQ
  obtain ⟨m1, e1, e2, e3, e4⟩ := h1.ok ha hw
  refine wpIn_loop_rounds (μ x0 + 1) ?_
  have key : ∀ (k : Nat) (x : α) (m1 : Mem) (b1 : Act), μ x < k → I x → Kp m m1 → AR m1 n out (st x).1 b1 → WR w0 m1 (st x).2 → Code.roundsIn (FW rd) 0 P c Q k b1 m1.W := by
    intro k
    induction k with
    | zero => intro x m1 b1 h; omega
    | succ k ih =>
      intro x m1 b1 hlt hI hF ha1 hw1
      rw [roundsIn_succ]
      refine codeW_ok hm hT c _ _ _ hc (round x hI) w0 rd out m1 b1 hr ha1 hw1 _ fun e fr2 H2 m2 b2 k2 x1 x2 x3 => ?_
      cases e with
      | normal =>
        obtain ⟨y, y1, y2, y3⟩ := k2
        obtain ⟨m3, f1, f2, f3, f4⟩ := y3.ok x2 x3
        show Code.roundsIn (FW rd) 0 P c Q k b2 m2.W
        rw [← f1]
        exact ih y m3 b2 (by omega) y1 ((hF.trans x1).trans f2) f3 f4
      | ret => exact hQ .ret fr2 H2 m2 b2 k2 (hF.trans x1) x2 x3
      | exit id =>
        obtain ⟨s, y3, y4⟩ := k2
        obtain ⟨m3, f1, f2, f3, f4⟩ := y3.ok x2 x3
        have := hQ (.exit id) s.1 s.2 m3 b2 y4 ((hF.trans x1).trans f2) f3 f4
        rw [f1] at this
        exact this
      | goto l => exact k2.elim
      | panic c => exact k2.elim
      | outgrown => exact k2.elim
  rw [← e1]
  exact key _ x0 m1 b (by omega) h0 e2 e3 e4
end Go.Proofs.Ytkliejppigfjiaa.Fx
namespace Go.Proofs.Ytkliejppigfjiaa.Fx
open Go.RowKit
@[reducible] def agK (v : V) (K : List V → Prop) : Prop := match v with
  | .agg cs => K cs
  | _ => False
/-- A new block as the caller has it: addresses of new blocks are moved. -/
inductive rvS (k : Nat) (q : Prop) : SB → SB → Prop
  | cells {cs cs' : List V} {t : TypeId} (h : rvL k q cs cs') : rvS k q (.cells cs t) (.cells cs' t)
  | row {sz n : Nat} {e e' : Nat → V} {t : TypeId} (h : ∀ i, i < n → rv k q (e i) (e' i)) : rvS k q (.row sz n e t) (.row sz n e' t)
inductive rvSL (k : Nat) (q : Prop) : List SB → List SB → Prop
  | nil : rvSL k q [] []
  | cons {s s' : SB} {l l' : List SB} (h : rvS k q s s') (t : rvSL k q l l') : rvSL k q (s :: l) (s' :: l')
theorem rvSL.len {k : Nat} {q : Prop} : ∀ {l l' : List SB}, rvSL k q l l' → l.length = l'.length
  | _, _, .nil => rfl
  | _, _, .cons _ t => by simp [t.len]
theorem rvSL.at {k : Nat} {q : Prop} : ∀ {l l' : List SB}, rvSL k q l l' → ∀ {i : Nat} {s' : SB}, l'[i]? = some s' → ∃ s, l[i]? = some s ∧ rvS k q s s'
  | _, _, .nil, i, s', h => by simp at h
  | _, _, .cons h t, 0, s', e => by
    simp at e
    subst e
    exact ⟨_, rfl, h⟩
  | _, _, .cons h t, i + 1, s', e => by
    simp at e
    obtain ⟨s, e1, e2⟩ := t.at e
    exact ⟨s, by simpa using e1, e2⟩
/-- **A call by its contract, whose new blocks hold addresses of new blocks.** -/
theorem callNest {P : Program} {fid : Nat} {args args0 : List V} {v v' : V} {news news' : List SB} {H : SW} {K : V → SW → Tag → Prop} (fz keepF : Prop) (hq : fz → keepF → False) (hf : FnOK P fid args0 v news) (ha : vmL { H := H, H' := ⟨0, []⟩, σ := [], fz := fz } args args0) (hn : rvSL H.n keepF news news') (hv : rv H.n keepF v v')
    (hk : K v' (pushL news' H) .no) : callW P fid args H K := by
  obtain ⟨he, hc⟩ := hf
  have hlen := hn.len
  refine ⟨⟨v', pushL news' H, .no, ⟨he, fun w0 m args' hw hargs => ?_⟩, fun b hb _ => by rw [pushL_get, if_neg (by omega)], hk⟩⟩
  have hleD : Le m { m with D := ⟨[], m.D.r⟩ } := ⟨fun _ _ h => h, fun _ h => h, fun _ _ => rfl⟩
  have hw0 : WR w0 { m with D := ⟨[], m.D.r⟩ } H := ⟨hw.ov, hw.dom, hw.hdom, fun b g C s h1 h2 => SBR.mono hleD rfl rfl (hw.blk b g C s h1 h2), hw.high, hw.inj, hw.fr, fun g hg => (by cases hg), List.nodup_nil, hw.new, hw.gl⟩
  have hlr : LR { m with D := ⟨[], m.D.r⟩ } args args'.toList := LR.mono hleD hargs
  have hlive : ∀ g, (({ H := H, H' := ⟨0, []⟩, σ := [], fz := fz } : Vw).mem { m with D := ⟨[], m.D.r⟩ }).F g → m.F g ∨ (fz ∧ g < m.W.heap.size) := fun g h => by
    rcases h with h | ⟨hz, b, C, s, h1, h2, _⟩
    · exact .inl h
    · exact .inr ⟨hz, (hw.blk b g C s h1 h2).lt⟩
  have hphi0 : (({ H := H, H' := ⟨0, []⟩, σ := [], fz := fz } : Vw).mem { m with D := ⟨[], m.D.r⟩ }).φ = fun _ => none := by
    funext b
    simp [Vw.mem]
  have := hc (({ H := H, H' := ⟨0, []⟩, σ := [], fz := fz } : Vw).mem { m with D := ⟨[], m.D.r⟩ }) args' hphi0 (fun g h => by
    rcases hlive g h with h | h
    · exact hw.fr g h
    · exact h.2) rfl (hw0.gl.mono (fun _ h => .inl h) (fun _ _ => rfl)) (ha.rel hw0 hlr)
  refine this.mono ?_
  rintro e W' ⟨u, m', rfl, hW, hF, hD, hw', hv'⟩
  have hov : Ov m.W m'.W := hw'.ov
  -- the caller's side
  let mr : Mem := { F := fun g => m.F g ∨ (m.W.heap.size ≤ g ∧ m'.F g), φ := fun b => if b < H.n then m.φ b else m'.φ (b - H.n), W := m'.W, D := m.D }
  have hle : Le m mr := ⟨fun b p h => by
    show (if b < H.n then m.φ b else m'.φ (b - H.n)) = some p
    rw [if_pos (hw.dom b p h)]; exact h, fun g h => .inl h, fun g hg => hov.below.block g (hw.fr g hg)⟩
  have hphi : ∀ b p, m'.φ b = some p → mr.φ (H.n + b) = some p := fun b p h => by
    show (if H.n + b < H.n then m.φ (H.n + b) else m'.φ (H.n + b - H.n)) = some p
    rw [if_neg (by omega), show H.n + b - H.n = b by omega]; exact h
  have hkF : keepF → ∀ g, m'.F g → mr.F g := fun hq' g h => by
    rcases hw'.new g h with h2 | h2
    · rcases hlive g h2 with h3 | h3
      · exact .inl h3
      · exact (hq h3.1 hq').elim
    · exact .inr ⟨h2, h⟩
  have newblk : ∀ b, b < news.length → ∀ s, news[b]? = some s → ∀ g C, m'.φ b = some (g, C) → SBR m' g C s ∧ m.W.heap.size ≤ g ∧ ¬ m'.F g := fun b hb s hs g C hp => by
    have hg : (pushL news ⟨0, []⟩).get b = some s := by rw [pushL_get, if_pos (by simp; exact hb)]; simpa using hs
    exact ⟨hw'.blk b g C s hp hg, (hw'.high b g C s hp hg).1, (hw'.high b g C s hp hg).2⟩
  have get_new : ∀ b s, (pushL news' H).get b = some s → (b < H.n ∧ H.get b = some s) ∨ (H.n ≤ b ∧ b - H.n < news.length ∧ ∃ s0, news[b - H.n]? = some s0 ∧ rvS H.n keepF s0 s) := fun b s h => by
    rw [pushL_get] at h
    split at h
    · rename_i hc; exact .inr ⟨hc.1, by omega, hn.at h⟩
    · exact .inl ⟨hw.hdom b s h, h⟩
  have phi_cases : ∀ b p, mr.φ b = some p → (b < H.n ∧ m.φ b = some p) ∨ (H.n ≤ b ∧ m'.φ (b - H.n) = some p) := fun b p h => by
    change (if b < H.n then m.φ b else m'.φ (b - H.n)) = some p at h
    split at h
    · rename_i hlt; exact .inl ⟨hlt, h⟩
    · rename_i hlt; exact .inr ⟨by omega, h⟩
  have pureS : ∀ s s', rvS H.n keepF s s' → ∀ g C, SBR m' g C s → SBR mr g C s' := fun s s' hp g C h => by
    cases hp with
    | cells hc =>
      obtain ⟨ds, h1, h2⟩ := h
      exact ⟨ds, h1, hc.rel hphi hkF rfl h2⟩
    | row hr =>
      obtain ⟨ds, h1, h2, h3, us, h4⟩ := h
      exact ⟨ds, h1, h2, h3, us, fun i hi => ⟨hr i hi m' mr _ hphi hkF rfl (h4 i hi).1, (h4 i hi).2⟩⟩
  have hwr : WR w0 mr (pushL news' H) := by
    refine ⟨hw.ov.trans hov, fun b p h => ?_, fun b s h => ?_, fun b g C s h1 h2 => ?_, fun b g C s h1 h2 => ?_, fun b c g C C' s s' h1 h2 h3 h4 => ?_, fun g h => ?_, fun g hg => ?_, hw.uniq, fun g h => ?_, hw.gl.mono hle.F hle.mem⟩
    · rw [pushL_n]
      rcases phi_cases b p h with ⟨h1, _⟩ | ⟨h1, h2⟩
      · omega
      · have := hw'.dom _ _ h2
        rw [pushL_n] at this
        simp at this; omega
    · rw [pushL_n]
      rcases get_new b s h with ⟨h1, _⟩ | ⟨h1, h2, _⟩ <;> omega
    · rcases phi_cases b _ h1 with ⟨k1, k2⟩ | ⟨k1, k2⟩ <;> rcases get_new b s h2 with ⟨l1, l2⟩ | ⟨l1, l2, s0, l3, l4⟩
      · have hb := hw.blk b g C s k2 l2
        exact hb.mono hle rfl (hov.below.block g hb.lt)
      · omega
      · omega
      · exact pureS s0 s l4 g C (newblk _ l2 s0 l3 g C k2).1
    · rcases phi_cases b _ h1 with ⟨k1, k2⟩ | ⟨k1, k2⟩ <;> rcases get_new b s h2 with ⟨l1, l2⟩ | ⟨l1, l2, s0, l3, l4⟩
      · obtain ⟨x1, x2⟩ := hw.high b g C s k2 l2
        refine ⟨x1, fun hF => ?_⟩
        rcases hF with hF | hF
        · exact x2 hF
        · have := (hw.blk b g C s k2 l2).lt; omega
      · omega
      · omega
      · obtain ⟨_, x2, x3⟩ := newblk _ l2 s0 l3 g C k2
        refine ⟨Nat.le_trans hw.ov.size x2, fun hF => ?_⟩
        rcases hF with hF | hF
        · have := hw.fr g hF; omega
        · exact x3 hF.2
    · rcases phi_cases b _ h1 with ⟨k1, k2⟩ | ⟨k1, k2⟩ <;> rcases get_new b s h3 with ⟨l1, l2⟩ | ⟨l1, l2, s0, l3, l4⟩ <;> rcases phi_cases c _ h2 with ⟨n1, n2⟩ | ⟨n1, n2⟩ <;> rcases get_new c s' h4 with ⟨o1, o2⟩ | ⟨o1, o2, s1, o3, o4⟩ <;> try omega
      · exact hw.inj b c g C C' s s' k2 n2 l2 o2
      · have := (hw.blk b g C s k2 l2).lt
        have := (newblk _ o2 s1 o3 g C' n2).2.1; omega
      · have := (hw.blk c g C' s' n2 o2).lt
        have := (newblk _ l2 s0 l3 g C k2).2.1; omega
      · have hg1 : (pushL news ⟨0, []⟩).get (b - H.n) = some s0 := by rw [pushL_get, if_pos (by simp; exact l2)]; simpa using l3
        have hg2 : (pushL news ⟨0, []⟩).get (c - H.n) = some s1 := by rw [pushL_get, if_pos (by simp; exact o2)]; simpa using o3
        have := hw'.inj _ _ g C C' s0 s1 k2 n2 hg1 hg2
        omega
    · rcases h with h | h
      · exact Nat.lt_of_lt_of_le (hw.fr g h) hov.size
      · exact hw'.fr g h.2
    · obtain ⟨x1, x2, x3⟩ := hw.marks g hg
      have hlt : g < m.W.heap.size := (Array.getElem?_eq_some_iff.1 x3).1
      refine ⟨x1, fun hF => ?_, by rw [← x3]; exact hov.below.block g hlt⟩
      rcases hF with hF | hF
      · exact x2 hF
      · omega
    · rcases h with h | h
      · exact hw.new g h
      · exact .inr (Nat.le_trans hw.ov.size h.1)
  refine ⟨u, mr, rfl, hW, ⟨hle, by rw [pushL_n]; omega, fun b hb => ?_, fun b cs t hb hn' hg => ?_⟩, rfl, hwr, hv m' mr u hphi hkF rfl hv'⟩
  · show (if b < H.n then m.φ b else m'.φ (b - H.n)) = m.φ b
    rw [if_pos hb]
  · rw [pushL_get, if_neg (by omega)]; exact hg
/-- With arguments of one's own, lent: what comes back is plain, or new. -/
theorem call_n {P : Program} {fid : Nat} {args args0 : List V} {v v' : V} {news news' : List SB} {H : SW} {K : V → SW → Tag → Prop} (hf : FnOK P fid args0 v news) (ha : vmL { H := H, H' := ⟨0, []⟩, σ := [], fz := True } args args0) (hn : rvSL H.n False news news') (hv : rv H.n False v v')
    (hk : K v' (pushL news' H) .no) : callW P fid args H K := callNest True False (fun _ h => h) hf ha hn hv hk
/-- With arguments that stay. -/
theorem call_m {P : Program} {fid : Nat} {args args0 : List V} {v v' : V} {news news' : List SB} {H : SW} {K : V → SW → Tag → Prop} (hf : FnOK P fid args0 v news) (ha : vmL { H := H, H' := ⟨0, []⟩, σ := [], fz := False } args args0) (hn : rvSL H.n True news news') (hv : rv H.n True v v')
    (hk : K v' (pushL news' H) .no) : callW P fid args H K := callNest False True (fun h _ => h) hf ha hn hv hk
end Go.Proofs.Ytkliejppigfjiaa.Fx
namespace Go.Proofs.Ytkliejppigfjiaa.Fx
open Go.RowKit
theorem loop_v {P : Program} {T : Tbl} (hm : P.follows .mixedOrders = true) (hT : ∀ t i, tget T t = some i → tiOf P t = some i) {c : Code} {fr : Fr} {H : SW} {K : Exit → Fr → SW → Prop} {α : Type} (st : α → Fr × SW) (I : α → Prop) (μ : α → Nat) (x0 : α) (h0 : I x0) (h1 : Sub fr H (st x0))
    (round : ∀ x, I x → ∃ s2 : Fr × SW, (Sub (st x).1 (st x).2 s2 ∨ s2 = st x) ∧ codeW P T c s2.1 s2.2 fun e fr' H' => match e with
      | .normal => ∃ y, I y ∧ μ y < μ x ∧ Sub fr' H' (st y)
      | .ret => K .ret fr' H'
      | .exit id => K (.exit id) fr' H'
      | _ => False) : loopW P T c fr H K := by
  refine ⟨?_⟩
  intro n rdm hc w0 rd out m b hr ha hw Q hQ
  obtain ⟨m1, e1, e2, e3, e4⟩ := h1.ok ha hw
  refine wpIn_loop_rounds (μ x0 + 1) ?_
  have key : ∀ (k : Nat) (x : α) (m1 : Mem) (b1 : Act), μ x < k → I x → Kp m m1 → AR m1 n out (st x).1 b1 → WR w0 m1 (st x).2 → Code.roundsIn (FW rd) 0 P c Q k b1 m1.W := by
    intro k
    induction k with
    | zero => intro x m1 b1 h; omega
    | succ k ih =>
      intro x m1 b1 hlt hI hF ha1 hw1
      rw [roundsIn_succ]
      obtain ⟨s2, hs2, hwalk⟩ := round x hI
      have hsee : ∃ m0, m0.W = m1.W ∧ Kp m1 m0 ∧ AR m0 n out s2.1 b1 ∧ WR w0 m0 s2.2 := by
        rcases hs2 with hs2 | hs2
        · exact hs2.ok ha1 hw1
        · subst hs2
          exact ⟨m1, rfl, Kp.refl m1, ha1, hw1⟩
      obtain ⟨m0, g1, g2, g3, g4⟩ := hsee
      rw [← g1]
      have hF := hF.trans g2
      refine codeW_ok hm hT c _ _ _ hc hwalk w0 rd out m0 b1 hr g3 g4 _ fun e fr2 H2 m2 b2 k2 x1 x2 x3 => ?_
      cases e with
      | normal =>
        obtain ⟨y, y1, y2, y3⟩ := k2
        obtain ⟨m3, f1, f2, f3, f4⟩ := y3.ok x2 x3
        show Code.roundsIn (FW rd) 0 P c Q k b2 m2.W
        rw [← f1]
        exact ih y m3 b2 (by omega) y1 ((hF.trans x1).trans f2) f3 f4
      | ret => exact hQ .ret fr2 H2 m2 b2 k2 (hF.trans x1) x2 x3
      | exit id => exact hQ (.exit id) fr2 H2 m2 b2 k2 (hF.trans x1) x2 x3
      | goto l => exact k2.elim
      | panic c => exact k2.elim
      | outgrown => exact k2.elim
  rw [← e1]
  exact key _ x0 m1 b (by omega) h0 e2 e3 e4
/-- What is returned is never written again: it may be taken as values. -/
theorem FnOK.freeze {P : Program} {fid : Nat} {args : List V} {v v' : V} {news : List SB} (h : FnOK P fid args v news) (hv : vm { H := pushL news ⟨0, []⟩, H' := ⟨0, []⟩, σ := [] } v v') : FnOK P fid args v' [] := by
  refine ⟨h.1, fun m args' h1 h2 h3 h4 h5 => (h.2 m args' h1 h2 h3 h4 h5).mono ?_⟩
  rintro e W' ⟨u, m', e1, e2, e3, e4, e5, e6⟩
  exact ⟨u, ({ H := pushL news ⟨0, []⟩, H' := ⟨0, []⟩, σ := [] } : Vw).mem m', e1, e2, fun g hg => .inl (e3 g hg), e4, view_ok (S := { H := pushL news ⟨0, []⟩, H' := ⟨0, []⟩, σ := [] }) rfl trivial e5, hv _ m' u e5 e6⟩
end Go.Proofs.Ytkliejppigfjiaa.Fx
namespace Go.Proofs.Ytkliejppigfjiaa.Fx
open Go.RowKit
section
variable {m : Mem} {H : SW} {w0 : Base}
theorem give_phi (hw : WR w0 m H) {b : Nat} : (({ H := H, H' := H.del b, σ := [], fz := True } : Vw).mem m).φ = m.φ := by
  funext c
  show (if c < H.n then (some c).bind m.φ else none) = m.φ c
  split
  · rfl
  · rw [hw.fresh c (by omega)]
theorem give_F {b g : Nat} (h : (({ H := H, H' := H.del b, σ := [], fz := True } : Vw).mem m).F g) : m.F g ∨ ∃ C, m.φ b = some (g, C) ∧ ∃ s, H.get b = some s := by
  rcases h with h | ⟨_, c, C, s, h1, h2, h3⟩
  · exact .inl h
  · by_cases e : c = b
    · subst e; exact .inr ⟨C, h1, s, h2⟩
    · exact (h3 ⟨c, s, by show (H.del b).get c = some s; rw [SW.get_del, if_neg e]; exact h2, rfl⟩).elim
theorem WR.give (hw : WR w0 m H) {b : Nat} {sz n : Nat} {e : Nat → V} {t : TypeId} (hg : H.get b = some (.row sz n e t)) :
    WR w0 (({ H := H, H' := H.del b, σ := [], fz := True } : Vw).mem m) (H.del b) ∧ Ext m H (({ H := H, H' := H.del b, σ := [], fz := True } : Vw).mem m) (H.del b) := by
  obtain ⟨k, x⟩ := hw.kill (b := b) (.inr fun cs t' h => by rw [hg] at h; cases h)
  have hphi := give_phi hw (b := b)
  have hl : Le m (({ H := H, H' := H.del b, σ := [], fz := True } : Vw).mem m) := ⟨fun c p h => by rw [hphi]; exact h, fun _ h => .inl h, fun _ _ => rfl⟩
  have live : ∀ c s, (H.del b).get c = some s → c ≠ b ∧ H.get c = some s := fun c s h => by
    rw [SW.get_del] at h
    split at h
    · cases h
    · rename_i hc; exact ⟨hc, h⟩
  refine ⟨⟨k.ov, fun c p h => k.dom c p (by rw [hphi] at h; exact h), k.hdom, fun c g C s h1 h2 => ?_, fun c g C s h1 h2 => ?_, fun c c' g C C' s s' h1 h2 h3 h4 => ?_, fun g h => ?_, fun g h => ?_, k.uniq, fun g h => ?_, k.gl.mono (fun _ h => .inl h) (fun _ _ => rfl)⟩,
    ⟨hl, Nat.le_refl _, fun c _ => by rw [hphi], fun c cs t' _ _ h => by
      rw [SW.get_del, if_neg]
      · exact h
      · rintro rfl; rw [hg] at h; cases h⟩⟩
  · rw [hphi] at h1
    exact (k.blk c g C s h1 h2).mono hl rfl rfl
  · rw [hphi] at h1
    obtain ⟨x1, x2⟩ := k.high c g C s h1 h2
    refine ⟨x1, fun hF => ?_⟩
    rcases give_F hF with hF | ⟨C', hF, s', hs'⟩
    · exact x2 hF
    · obtain ⟨y1, y2⟩ := live c s h2
      exact y1 (hw.inj c b g C C' s s' h1 hF y2 hs')
  · rw [hphi] at h1 h2
    exact k.inj c c' g C C' s s' h1 h2 h3 h4
  · rcases give_F h with h | ⟨C, h, s, hs⟩
    · exact hw.fr g h
    · exact (hw.blk b g C s h hs).lt
  · obtain ⟨h1, h2, h3⟩ := hw.marks g h
    refine ⟨h1, fun hF => ?_, h3⟩
    rcases give_F hF with hF | ⟨C, hF, s, hs⟩
    · exact h2 hF
    · exact (hw.blk b g C s hF hs).noMark h3
  · rcases give_F h with h | ⟨C, h, s, hs⟩
    · exact hw.new g h
    · exact .inr (hw.high b g C s h hs).1
end
theorem call_z {P : Program} {fid : Nat} {args args0 : List V} {v v' : V} {news : List SB} {H : SW} {K : V → SW → Tag → Prop} (b : Nat) {sz n : Nat} {e : Nat → V} {t : TypeId} (hf : FnOK P fid args0 v news) (hg : hget H.l b = some (.row sz n e t)) (hb : Nat.blt b H.n = true) [a : IsPureL args0]
    (ha : vmL { H := H, H' := H.del b, σ := [], fz := True } args args0) (hn : ∀ s ∈ news, PureS True s) (hv : rv H.n True v v') (hk : spineH (hdel H.l b) fun l => K v' (pushL news ⟨H.n, l⟩) (.wr b)) : callW P fid args H K := by
  have hk := spineH_ok _ _ hk
  have c1 : callW P fid args0 (H.del b) fun u G g => u = v' ∧ G = pushL news (H.del b) ∧ g = .no := callAny False True (fun h _ => h) hf (vmL_pure a.h) hn hv ⟨rfl, rfl, rfl⟩
  obtain ⟨u, G, g, ⟨c2, c3⟩, _, rfl, rfl, rfl⟩ := c1.ex
  refine ⟨⟨u, pushL news (H.del b), .wr b, ⟨c2, fun w0 m args' hw hargs => ?_⟩, fun c hc hne => ?_, hk⟩⟩
  · obtain ⟨x1, x2⟩ := hw.give (b := b) hg
    refine (c3 w0 _ args' x1 (ha.rel hw hargs)).mono ?_
    rintro e W' ⟨y, m', y1, y2, y3, y4, y5, y6⟩
    exact ⟨y, m', y1, y2, x2.trans y3, y4, y5, y6⟩
  · rw [pushL_get, if_neg (by show ¬ (H.n ≤ c ∧ _); omega), SW.get_del, if_neg fun e => by subst e; exact hne.1 rfl]
end Go.Proofs.Ytkliejppigfjiaa.Fx
