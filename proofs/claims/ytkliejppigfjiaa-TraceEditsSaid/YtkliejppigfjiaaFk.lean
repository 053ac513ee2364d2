/-
  A state seen otherwise; loops; functions and their contracts; calls.
  Conditions: the checks of the code; the program follows the rule on mixed orders.
-/
import Derived.Test.YtkliejppigfjiaaFc
import Derived.LoopNIn
import Derived.RangeFuncNested
namespace Go.Proofs.Ytkliejppigfjiaa.Fx
open Go.RowKit

/-! ### A state seen otherwise -/
abbrev Sig := List (Nat × Option Nat)
/-- From where a block of the new heap comes: from the block of that number, if nothing else is said; from none. -/
@[reducible] def sget : Sig → Nat → Option Nat
  | [], k => some k
  | (b, s) :: l, k => match nbeq b k with
    | true => s
    | false => sget l k
structure Vw where
  H : SW
  H' : SW
  σ : Sig
  fz : Prop := True
def Vw.kept (S : Vw) (b : Nat) : Prop := ∃ b' s', S.H'.get b' = some s' ∧ sget S.σ b' = some b
def Vw.mem (S : Vw) (m : Mem) : Mem :=
  { F := fun g => m.F g ∨ (S.fz ∧ ∃ b C s, m.φ b = some (g, C) ∧ S.H.get b = some s ∧ ¬ S.kept b),
    φ := fun b' => if b' < S.H'.n then (sget S.σ b').bind m.φ else none, W := m.W, D := m.D }
/-- The one value may be taken for the other. -/
def vm (S : Vw) (v v' : V) : Prop := ∀ (w0 : Base) (m : Mem) (u : Value), WR w0 m S.H → VR m v u → VR (S.mem m) v' u
inductive vmL (S : Vw) : List V → List V → Prop
  | nil : vmL S [] []
  | cons {x y : V} {xs ys : List V} (h : vm S x y) (t : vmL S xs ys) : vmL S (x :: xs) (y :: ys)
/-- A value without an address of one's own. -/
def Pure (v : V) : Prop := ∀ (m m' : Mem) (u : Value), (∀ g, m.F g → m'.F g) → (∀ g, m.F g → m'.W.heap[g]? = m.W.heap[g]?) → VR m v u → VR m' v u
section
variable {S : Vw} {m : Mem}
theorem vmL.rel {w0 : Base} (hw : WR w0 m S.H) : ∀ {xs ys : List V} {us : List Value}, vmL S xs ys → LR m xs us → LR (S.mem m) ys us
  | _, _, us, .nil, h => by
    obtain rfl : us = [] := List.eq_nil_of_length_eq_zero h.1.symm
    exact LR.nil _
  | _, _, us, .cons hh t, h => by
    cases us with
    | nil => simp [LR] at h
    | cons u us => exact LR.cons (hh w0 m u hw h.head) (t.rel hw h.tail)
theorem pure_sc {a : Value} : Pure (.sc a) := fun m m' u _ _ h => by cases h with | sc h => exact .sc h
theorem pure_sl {sz n : Nat} {e : Nat → V} (h : ∀ i, i < n → Pure (e i)) : Pure (.sl sz n e) := fun m m' u hF hm hv => by
  cases hv with
  | sl us hnc hFg hh hs hc => exact .sl us hnc (hF _ hFg) (fun i hi => h i hi m m' _ hF hm (hh i hi)) hs fun i hi j w hw => by rw [cell_congr (hm _ hFg)]; exact hc i hi j w hw
  | sl0 => exact .sl0
theorem pure_ifc : Pure .ifc := fun m m' u _ _ h => by cases h with | ifc => exact .ifc
theorem pure_mpv {f : Int → Bool} : Pure (.mpv f) := fun m m' u hF hm h => by
  cases h with
  | mpv hFg h1 h2 => exact .mpv (hF _ hFg) (by rw [hm _ hFg]; exact h1) h2
def PureL (l : List V) : Prop := ∀ v ∈ l, Pure v
theorem pureL_nil : PureL [] := fun v hv => by cases hv
theorem pureL_cons {v : V} {l : List V} (h : Pure v) (t : PureL l) : PureL (v :: l) := fun w hw => by
  rcases List.mem_cons.1 hw with rfl | hw
  · exact h
  · exact t w hw
theorem PureL.rel {m m' : Mem} {l : List V} {us : List Value} (h : PureL l) (hF : ∀ g, m.F g → m'.F g) (hm : ∀ g, m.F g → m'.W.heap[g]? = m.W.heap[g]?) (hr : LR m l us) : LR m' l us :=
  ⟨hr.1, fun i x y hx hy => h x (List.mem_of_getElem? hx) m m' y hF hm (hr.2 i x y hx hy)⟩
theorem pure_agg {l : List V} (h : PureL l) : Pure (.agg l) := fun m m' u hF hm hv => by
  cases hv with
  | agg hs hh => exact VR.aggL (h.rel hF hm ⟨hs, hh⟩)
theorem pure_tup {l : List V} (h : PureL l) : Pure (.tup l) := fun m m' u hF hm hv => by
  cases hv with
  | tup hs hh => exact VR.tupL (h.rel hF hm ⟨hs, hh⟩)
theorem pure_fn {f : Nat} {l : List V} (h : PureL l) : Pure (.fn f l) := fun m m' u hF hm hv => by
  cases hv with
  | fn hs hh => exact VR.fnL (h.rel hF hm ⟨hs, hh⟩)
theorem pure_mv {f : Nat} {l : List V} (h : PureL l) : Pure (.mv f l) := fun m m' u hF hm hv => by
  cases hv with
  | mv hs hh => exact VR.mvL (h.rel hF hm ⟨hs, hh⟩)
theorem pure_pv {l : List V} {off : Nat} (h : PureL l) : Pure (.pv l off) := fun m m' u hF hm hv => by
  cases hv with
  | pv us hFg hl hh hc =>
    have := h.rel hF hm (⟨hl, hh⟩ : LR m l us)
    exact .pv us (hF _ hFg) this.1 this.2 fun j w hw => by rw [cell_congr (hm _ hFg)]; exact hc j w hw

theorem Vw.F (S : Vw) (m : Mem) : ∀ g, m.F g → (S.mem m).F g := fun _ h => .inl h
theorem vm_pure {v : V} (h : Pure v) : vm S v v := fun _w0 m u _ hv => h m (S.mem m) u (S.F m) (fun _ _ => rfl) hv
theorem vm_sc {a a' : Value} (h : a = a') : vm S (.sc a) (.sc a') := by subst h; exact vm_pure pure_sc
theorem vm_int {k : IntKind} {a a' : Int} (h : a = a') : vm S (.sc (.int k a)) (.sc (.int k a')) := by subst h; exact vm_pure pure_sc
theorem vm_bool {a a' : Bool} (h : a = a') : vm S (.sc (.bool a)) (.sc (.bool a')) := by subst h; exact vm_pure pure_sc
theorem Vw.phi (S : Vw) (m : Mem) {b b' g C : Nat} (hs : sget S.σ b' = some b) (hn : Nat.blt b' S.H'.n = true) (h : m.φ b = some (g, C)) : (S.mem m).φ b' = some (g, C) := by
  show (if b' < S.H'.n then (sget S.σ b').bind m.φ else none) = _
  have : b' < S.H'.n := ble_t (show Nat.ble (b' + 1) S.H'.n = true from hn)
  rw [if_pos this, hs]; exact h
theorem vm_ptr {b b' o o' : Nat} (hs : sget S.σ b' = some b) (hn : Nat.blt b' S.H'.n = true) (ho : o = o') : vm S (.ptr b o) (.ptr b' o') := by
  subst ho
  intro w0 m u _ h
  cases h with
  | ptr h => exact .ptr (S.phi m hs hn h)
theorem vm_yld {l l' : Nat} (hs : sget S.σ l' = some l) (hn : Nat.blt l' S.H'.n = true) : vm S (.yld l) (.yld l') := by
  intro w0 m u _ h
  cases h with
  | yld h => exact .yld (S.phi m hs hn h)
theorem vm_mp {b b' : Nat} (hs : sget S.σ b' = some b) (hn : Nat.blt b' S.H'.n = true) : vm S (.mp b) (.mp b') := by
  intro w0 m u _ h
  cases h with
  | mp h => exact .mp (S.phi m hs hn h)
/-- A map that is not kept stays as it is. -/
theorem vm_mpz {b : Nat} {f f' : Int → Bool} (hz : S.fz) (hg : S.H.get b = some (.mpb f)) (hk : ¬ S.kept b) (h : ∀ k, f k = f' k) : vm S (.mp b) (.mpv f') := by
  intro w0 m u hw hv
  cases hv with
  | @mp _ g C hb =>
    obtain ⟨es, cl, d1, d2⟩ := hw.blk b g C _ hb hg
    exact .mpv (.inr ⟨hz, b, C, _, hb, hg, hk⟩) d1 (d2.congr h)
theorem vm_own {b b' sz o o' n n' : Nat} (hs : sget S.σ b' = some b) (hn : Nat.blt b' S.H'.n = true) (ho : o = o') (hnn : n = n') : vm S (.own b sz o n) (.own b' sz o' n') := by
  subst ho hnn
  intro w0 m u _ h
  cases h with
  | own h hle => exact .own (S.phi m hs hn h) hle
  | own0 => exact .own0
theorem vm_nil {b' sz n' : Nat} (h : n' = 0) : vm S (.sc (.slice none 0 0)) (.own b' sz 0 n') := by
  subst h
  intro w0 m u _ h
  cases h with
  | sc h => exact .own0
theorem vm_nilsl {sz n' c : Nat} {e : Nat → V} (h : n' = 0) : vm S (.sc (.slice none 0 c)) (.sl sz n' e) := by
  subst h
  intro w0 m u _ h
  cases h with
  | sc h => exact .sl0
theorem vm_sl {sz n n' : Nat} {e e' : Nat → V} (hn : n = n') (h : ∀ i, i < n' → vm S (e i) (e' i)) : vm S (.sl sz n e) (.sl sz n' e') := by
  subst hn
  intro w0 m u hw hv
  cases hv with
  | sl us hnc hFg hh hs hc => exact .sl us hnc (S.F m _ hFg) (fun i hi => h i hi w0 m _ hw (hh i hi)) hs hc
  | sl0 => exact .sl0
theorem vm_agg {xs ys : List V} (h : vmL S xs ys) : vm S (.agg xs) (.agg ys) := fun w0 m u hw hv => by
  cases hv with
  | agg hs hh => exact VR.aggL (h.rel hw ⟨hs, hh⟩)
theorem vm_tup {xs ys : List V} (h : vmL S xs ys) : vm S (.tup xs) (.tup ys) := fun w0 m u hw hv => by
  cases hv with
  | tup hs hh => exact VR.tupL (h.rel hw ⟨hs, hh⟩)
theorem vm_fn {f : Nat} {xs ys : List V} (h : vmL S xs ys) : vm S (.fn f xs) (.fn f ys) := fun w0 m u hw hv => by
  cases hv with
  | fn hs hh => exact VR.fnL (h.rel hw ⟨hs, hh⟩)
theorem vm_pv {xs ys : List V} {o o' : Nat} (h : vmL S xs ys) (ho : o = o') : vm S (.pv xs o) (.pv ys o') := fun w0 m u hw hv => by
  subst ho
  cases hv with
  | pv us hFg hl hh hc =>
    have := h.rel hw (⟨hl, hh⟩ : LR m xs us)
    exact .pv us (S.F m _ hFg) this.1 this.2 hc
/-- A block that is not kept stays as it is. -/
theorem vm_frz {b sz o n n' N : Nat} {e e' : Nat → V} {t : TypeId} (hz : S.fz) (hg : S.H.get b = some (.row sz N e t)) (hk : ¬ S.kept b) (hn : n = n') (hle : o + n ≤ N) (h : ∀ i, i < n' → vm S (e (o + i)) (e' i)) : vm S (.own b sz o n) (.sl sz n' e') := by
  subst hn
  intro w0 m u hw hv
  cases hv with
  | @own _ g C _ _ _ hb hle2 =>
    obtain ⟨ds, d1, d2, d3, us, d4⟩ := hw.blk b g C _ hb hg
    refine .sl (fun i => us (o + i)) (by omega) (.inr ⟨hz, b, C, _, hb, hg, hk⟩) (fun i hi => h i hi w0 m _ hw (d4 (o + i) (by omega)).1) (fun i hi => (d4 (o + i) (by omega)).2.1) fun i hi j w hj => ?_
    obtain ⟨a1, a2⟩ := (d4 (o + i) (by omega)).2.2 j w hj
    refine ⟨?_, a2⟩
    show m.W.cell? _ = _
    rw [Array.getElem?_toList] at a1
    simp only [World.cell?, d1]
    rw [← Nat.add_assoc, ← Nat.add_mul]
    simpa using a1
  | own0 => exact .sl0
theorem vm_frzp {b o o' : Nat} {cs cs' : List V} {t : TypeId} (hz : S.fz) (hg : S.H.get b = some (.cells cs t)) (hk : ¬ S.kept b) (h1 : ones cs = true) (ho : o = o') (h : vmL S cs cs') : vm S (.ptr b o) (.pv cs' o') := by
  subst ho
  intro w0 m u hw hv
  cases hv with
  | @ptr _ g C _ hb =>
    obtain ⟨ds, d1, d2⟩ := hw.blk b g C _ hb hg
    have hr := h.rel hw d2
    have := VR.pv (m := S.mem m) (g := g) (o := 0) (off := o) (cs := cs') ds.toList (.inr ⟨hz, b, C, _, hb, hg, hk⟩) hr.1 hr.2 fun j w hj => by
      refine ⟨?_, d2.ones h1 w (List.mem_of_getElem? hj)⟩
      show m.W.cell? _ = _
      rw [Array.getElem?_toList] at hj
      simp only [World.cell?, d1]
      simpa using hj
    simpa using this
end

/-! ### The whole state -/
def frS (S : Vw) (fr : Fr) : Fr → Prop
  | [] => True
  | (t, v') :: l => (∃ v, fget fr t = some v ∧ vm S v v') ∧ frS S fr l
def sbm (S : Vw) : SB → SB → Prop
  | .cells cs t, .cells cs' t' => t = t' ∧ vmL S cs cs'
  | .row sz n e t, .row sz' n' e' t' => sz = sz' ∧ t = t' ∧ n = n' ∧ ∀ i, i < n' → vm S (e i) (e' i)
  | .loop i s, .loop i' s' => i = i' ∧ s = s' ∧ frS S i.fr i.fr
  | .mpb f, .mpb f' => ∀ k, f k = f' k
  | _, _ => False
def hpS (S : Vw) : List (Nat × SB) → Prop
  | [] => True
  | (b', s') :: l => (match sget S.σ b' with
    | some b => ∃ s, S.H.get b = some s ∧ sbm S s s'
    | none => ∃ sz e t, s' = .row sz 0 e t) ∧ hpS S l
def subB (S : Vw) : Bool :=
  let l := S.H'.l.map (·.1)
  (l.all fun b => decide (b < S.H'.n)) && (l.all fun b => l.all fun c => b == c || !(sget S.σ b == sget S.σ c) || sget S.σ b == none)
theorem sbm_cells {S : Vw} {cs cs' : List V} {t : TypeId} (h : vmL S cs cs') : sbm S (.cells cs t) (.cells cs' t) := ⟨rfl, h⟩
theorem sbm_row {S : Vw} {sz n n' : Nat} {e e' : Nat → V} {t : TypeId} (hn : n = n') (h : ∀ i, i < n' → vm S (e i) (e' i)) : sbm S (.row sz n e t) (.row sz n' e' t) := ⟨rfl, rfl, hn, h⟩
theorem sbm_loop {S : Vw} {i : LInfo} {s : LSt} (h : frS S i.fr i.fr) : sbm S (.loop i s) (.loop i s) := ⟨rfl, rfl, h⟩
theorem frS_get {S : Vw} {fr : Fr} : ∀ {l : Fr}, frS S fr l → ∀ t v, fget l t = some v → ∃ v0, fget fr t = some v0 ∧ vm S v0 v
  | [], _, t, v, hv => by cases hv
  | (k, x) :: l, hl, t, v, hv => by
    simp only [fget] at hv
    rcases beq_cases k t with ⟨e, rfl⟩ | ⟨e, _⟩
    · simp only [e, Option.some.injEq] at hv; subst hv; exact hl.1
    · simp only [e] at hv; exact frS_get hl.2 t v hv
theorem hget_mem : ∀ {l : List (Nat × SB)} {b : Nat} {s : SB}, hget l b = some s → (b, s) ∈ l
  | [], _, _, h => by cases h
  | (c, x) :: l, b, s, h => by
    simp only [hget] at h
    rcases nbeq_cases c b with ⟨e, rfl⟩ | ⟨e, _⟩
    · simp only [e, Option.some.injEq] at h; subst h; exact List.mem_cons_self
    · simp only [e] at h; exact List.mem_cons_of_mem _ (hget_mem h)
theorem hpS_mem {S : Vw} : ∀ {l : List (Nat × SB)}, hpS S l → ∀ b' s', (b', s') ∈ l → match sget S.σ b' with
    | some b => ∃ s, S.H.get b = some s ∧ sbm S s s'
    | none => ∃ sz e t, s' = .row sz 0 e t
  | [], _, b', s', h => by cases h
  | (c, x) :: l, h, b', s', hm => by
    rcases List.mem_cons.1 hm with e | hm
    · injection e with e1 e2; subst e1; subst e2; exact h.1
    · exact hpS_mem h.2 b' s' hm
theorem sbm.rel {S : Vw} {w0 : Base} {m : Mem} {g C : Nat} {s s' : SB} (hw : WR w0 m S.H) (h : sbm S s s') (hr : SBR m g C s) : SBR (S.mem m) g C s' := by
  cases s with
  | loop i s =>
    cases s' with
    | loop i' s' =>
      obtain ⟨rfl, rfl, h⟩ := h
      obtain ⟨r, hr⟩ := hr
      refine ⟨r, hr.at_, hr.tok, hr.st, hr.pe, hr.ps, hr.ag, hr.bd, hr.n, fun t v hv => ?_⟩
      obtain ⟨v0, k1, k2⟩ := frS_get h t v hv
      exact k2 w0 m _ hw (hr.fr t v0 k1)
    | cells => exact h.elim
    | row => exact h.elim
    | mpb => exact h.elim
  | mpb f =>
    cases s' with
    | loop => exact h.elim
    | cells => exact h.elim
    | row => exact h.elim
    | mpb f' =>
      obtain ⟨es, cl, h1, h2⟩ := hr
      exact ⟨es, cl, h1, h2.congr h⟩
  | cells cs t =>
    cases s' with
    | mpb => exact h.elim
    | loop => exact h.elim
    | cells cs' t' =>
      obtain ⟨rfl, h⟩ := h
      obtain ⟨ds, h1, h2⟩ := hr
      exact ⟨ds, h1, h.rel hw h2⟩
    | row => exact h.elim
  | row sz n e t =>
    cases s' with
    | mpb => exact h.elim
    | loop => exact h.elim
    | cells => exact h.elim
    | row sz' n' e' t' =>
      obtain ⟨rfl, rfl, rfl, h⟩ := h
      obtain ⟨ds, h1, h2, h3, us, h4⟩ := hr
      exact ⟨ds, h1, h2, h3, us, fun i hi => ⟨h i hi w0 m _ hw (h4 i hi).1, (h4 i hi).2⟩⟩
theorem view_ok {S : Vw} {w0 : Base} {m : Mem} (hb : subB S = true) (hh : hpS S S.H'.l) (hw : WR w0 m S.H) : WR w0 (S.mem m) S.H' := by
  simp only [subB, Bool.and_eq_true] at hb
  obtain ⟨hb1, hb2⟩ := hb
  have hdom : ∀ b s, S.H'.get b = some s → b < S.H'.n := fun b s h => by
    have := List.all_eq_true.1 hb1 b (List.mem_map.2 ⟨_, hget_mem h, rfl⟩)
    simpa using this
  have hinj : ∀ b c s s' x, S.H'.get b = some s → S.H'.get c = some s' → sget S.σ b = some x → sget S.σ c = some x → b = c := fun b c s s' x h1 h2 h3 h4 => by
    have := List.all_eq_true.1 (List.all_eq_true.1 hb2 b (List.mem_map.2 ⟨_, hget_mem h1, rfl⟩)) c (List.mem_map.2 ⟨_, hget_mem h2, rfl⟩)
    simpa [h3, h4] using this
  have hphi : ∀ b' p, (S.mem m).φ b' = some p → b' < S.H'.n ∧ ∃ b, sget S.σ b' = some b ∧ m.φ b = some p := fun b' p h => by
    change (if b' < S.H'.n then (sget S.σ b').bind m.φ else none) = some p at h
    split at h
    · rename_i hlt
      obtain ⟨b, h1, h2⟩ := Option.bind_eq_some_iff.1 h
      exact ⟨hlt, b, h1, h2⟩
    · cases h
  have src : ∀ b' b s', S.H'.get b' = some s' → sget S.σ b' = some b → ∃ s, S.H.get b = some s ∧ sbm S s s' := fun b' b s' h1 h2 => by
    have := hpS_mem hh b' s' (hget_mem h1)
    rw [h2] at this
    exact this
  refine ⟨hw.ov, fun b p h => (hphi b p h).1, hdom, fun b' g C s' h1 h2 => ?_, fun b' g C s' h1 h2 => ?_, fun b' c' g C C' s s' h1 h2 h3 h4 => ?_, fun g h => ?_, fun g hg => ?_, hw.uniq, fun g h => ?_, hw.gl.mono (fun _ h => .inl h) (fun _ _ => rfl)⟩
  · obtain ⟨_, b, k1, k2⟩ := hphi _ _ h1
    obtain ⟨s, k3, k4⟩ := src b' b s' h2 k1
    exact k4.rel hw (hw.blk b g C s k2 k3)
  · obtain ⟨_, b, k1, k2⟩ := hphi _ _ h1
    obtain ⟨s, k3, k4⟩ := src b' b s' h2 k1
    obtain ⟨l1, l2⟩ := hw.high b g C s k2 k3
    refine ⟨l1, fun hF => ?_⟩
    rcases hF with hF | ⟨_, c, C', s2, e1, e2, e3⟩
    · exact l2 hF
    · obtain rfl := hw.inj c b g C' C s2 s e1 k2 e2 k3
      exact e3 ⟨b', s', h2, k1⟩
  · obtain ⟨_, b, k1, k2⟩ := hphi _ _ h1
    obtain ⟨_, c, l1, l2⟩ := hphi _ _ h2
    obtain ⟨s1, k3, _⟩ := src b' b s h3 k1
    obtain ⟨s2, l3, _⟩ := src c' c s' h4 l1
    obtain rfl := hw.inj b c g C C' s1 s2 k2 l2 k3 l3
    exact hinj b' c' s s' b h3 h4 k1 l1
  · rcases h with h | ⟨_, b, C, s, h1, h2, _⟩
    · exact hw.fr g h
    · exact (hw.blk b g C s h1 h2).lt
  · obtain ⟨h1, h2, h3⟩ := hw.marks g hg
    refine ⟨h1, fun hF => ?_, h3⟩
    rcases hF with hF | ⟨_, b, C, s, e1, e2, _⟩
    · exact h2 hF
    · exact (hw.blk b g C s e1 e2).noMark h3
  · rcases h with h | ⟨_, b, C, s, h1, h2, _⟩
    · exact hw.new g h
    · exact .inr (hw.high b g C s h1 h2).1
def Sub (fr : Fr) (H : SW) (st : Fr × SW) : Prop := ∃ σ, subB { H := H, H' := st.2, σ := σ } = true ∧ frS { H := H, H' := st.2, σ := σ } fr st.1 ∧ hpS { H := H, H' := st.2, σ := σ } st.2.l
theorem Sub.ok {fr : Fr} {H : SW} {st : Fr × SW} (h : Sub fr H st) {w0 : Base} {m : Mem} {n : Nat} {out : Mk} {b : Act} (ha : AR m n out fr b) (hw : WR w0 m H) : ∃ m', m'.W = m.W ∧ Kp m m' ∧ AR m' n out st.1 b ∧ WR w0 m' st.2 := by
  obtain ⟨σ, h1, h2, h3⟩ := h
  refine ⟨({ H := H, H' := st.2, σ := σ } : Vw).mem m, rfl, ⟨fun g hg => .inl hg, fun _ _ => rfl⟩, ⟨ha.n, fun t v hv => ?_, ha.dfr, ha.dr⟩, view_ok h1 h3 hw⟩
  obtain ⟨v0, k1, k2⟩ := frS_get h2 t v hv
  exact k2 w0 m _ hw (ha.get t v0 k1)
/-! ### Loops -/
theorem loop_i {P : Program} {T : Tbl} (hm : P.follows .mixedOrders = true) (hT : ∀ t i, tget T t = some i → tiOf P t = some i) {c : Code} {fr : Fr} {H : SW} {K : Exit → Fr → SW → Prop} {α : Type} (st : α → Fr × SW) (I : α → Prop) (μ : α → Nat) (x0 : α) (h0 : I x0) (h1 : Sub fr H (st x0))
    (round : ∀ x, I x → codeW P T c (st x).1 (st x).2 fun e fr' H' => match e with
      | .normal => ∃ y, I y ∧ μ y < μ x ∧ Sub fr' H' (st y)
      | .ret => K .ret fr' H'
      | .exit id => K (.exit id) fr' H'
      | _ => False) : loopW P T c fr H K := by
  refine ⟨?_⟩
  intro n rdm hc w0 rd out m b hr ha hw Q hQ
  obtain ⟨m1, e1, e2, e3, e4⟩ := h1.ok ha hw
  refine wpIn_loop_rounds (μ x0 + 1) ?_
  have key : ∀ (k : Nat) (x : α) (m1 : Mem) (b1 : Act), μ x < k → I x → Kp m m1 → AR m1 n out (st x).1 b1 → WR w0 m1 (st x).2 → Code.roundsIn (FW rd) 0 P c Q k b1 m1.W := by
    intro k
    induction k with
    | zero => intro x m1 b1 h; omega
    | succ k ih =>
      intro x m1 b1 hlt hI hF ha1 hw1
      rw [roundsIn_succ]
      refine codeW_ok hm hT c _ _ _ hc (round x hI) w0 rd out m1 b1 hr ha1 hw1 _ fun e fr2 H2 m2 b2 k2 x1 x2 x3 => ?_
      cases e with
      | normal =>
        obtain ⟨y, y1, y2, y3⟩ := k2
        obtain ⟨m3, f1, f2, f3, f4⟩ := y3.ok x2 x3
        show Code.roundsIn (FW rd) 0 P c Q k b2 m2.W
        rw [← f1]
        exact ih y m3 b2 (by omega) y1 ((hF.trans x1).trans f2) f3 f4
      | ret => exact hQ .ret fr2 H2 m2 b2 k2 (hF.trans x1) x2 x3
      | exit id => exact hQ (.exit id) fr2 H2 m2 b2 k2 (hF.trans x1) x2 x3
      | goto l => exact k2.elim
      | panic c => exact k2.elim
      | outgrown => exact k2.elim
  rw [← e1]
  exact key _ x0 m1 b (by omega) h0 e2 e3 e4

/-! ### Functions -/
@[reducible] def pushL : List SB → SW → SW
  | [], H => H
  | s :: l, H => pushL l (H.push s)
/-- **What a function does.** Its arguments are as told and hold no address of the caller's own; it returns v, and the blocks 'news' beside it are the caller's own from then on. Nothing that was there is changed. -/
def FnOK (P : Program) (fid : Nat) (args : List V) (v : V) (news : List SB) : Prop :=
  Enters P fid ∧ ∀ (m : Mem) (args' : Array Value), m.φ = (fun _ => none) → (∀ g, m.F g → g < m.W.heap.size) → m.D.d = [] → GlOK m → LR m args args'.toList →
    CallsIn (FW none) 0 P fid args' m.W fun e W' => ∃ v' m', e = .returned v' ∧ m'.W = W' ∧ (∀ g, m.F g → m'.F g) ∧ m'.D = m.D ∧ WR ⟨m.W, m.F⟩ m' (pushL news ⟨0, []⟩) ∧ VR m' v v'
@[reducible] def resW (T : Tbl) (fr : Fr) (H : SW) : List ResultVar → (List V → Prop) → Prop
  | [], K => K []
  | .tmp t :: l, K => match fget fr t with
    | some v => resW T fr H l fun vs => K (v :: vs)
    | none => False
  | .cell x t :: l, K => match fget fr x with
    | some (.ptr b off) => match hget H.l b with
      | some (.cells cs _) => loadK T t cs off fun v => resW T fr H l fun vs => K (v :: vs)
      | _ => False
    | _ => False
@[reducible] def oneOf : List V → V
  | [v] => v
  | vs => .tup vs
@[reducible] def argFr : Nat → List V → Fr
  | _, [] => []
  | i, v :: l => (i, v) :: argFr (Nat.succ i) l
/-- What is returned, seen by the caller. -/
structure RetS (H : SW) (v0 v : V) (news : List SB) : Prop where
  ex : ∃ σ, subB { H := H, H' := pushL news ⟨0, []⟩, σ := σ } = true ∧ vm { H := H, H' := pushL news ⟨0, []⟩, σ := σ } v0 v ∧ hpS { H := H, H' := pushL news ⟨0, []⟩, σ := σ } (pushL news ⟨0, []⟩).l
@[reducible] def leaveW (T : Tbl) (rs : List ResultVar) (v : V) (news : List SB) : Exit → Fr → SW → Prop
  | .normal, fr, H => resW T fr H rs fun vs => RetS H (oneOf vs) v news
  | .ret, fr, H => resW T fr H rs fun vs => RetS H (oneOf vs) v news
  | _, _, _ => False
def fnB (P : Program) (fid nargs : Nat) : Bool := match P.funcs[fid]? with
  | some fn => (match fn.body with
    | some c => chk fn.ntmps false c
    | none => false) && !(fn.name == "runtime.NumGoroutine") && decide (nargs ≤ fn.ntmps)
  | none => false
section
variable {P : Program} {T : Tbl} {w0 : Base} {m : Mem} {H : SW} {n : Nat} {fr : Fr} {b : Act}
def resM (tmps : Array Value) : ResultVar → Sem Value
  | .tmp t => pure (tmps.getD t undef)
  | .cell x t => do loadVar t (← asAddr (tmps.getD x undef))
theorem results_eq (fn : Func) (tmps : Array Value) : results fn tmps = (do let vs ← fn.results.mapM (resM tmps); pure (if h : vs.size = 1 then vs[0] else .tuple vs)) := by
  unfold results
  congr 2
/-- What is returned of the temporaries, after the marks are taken. -/
theorem resW_run (hT : ∀ t i, tget T t = some i → tiOf P t = some i) : ∀ (l : List ResultVar) (K : List V → Prop), resW T fr H l K → ∃ vs, K vs ∧ ∀ (w0 : Base) (m : Mem) (out : Mk) (b : Act), AR m n out fr b → WR w0 m H →
    ∀ (m' : Mem), m'.φ = m.φ → m'.F = m.F → (∀ g, g ∉ m.D.d → m'.W.heap[g]? = m.W.heap[g]?) → ∃ ws, LR m vs ws ∧ (l.mapM (m := Sem) (resM b.tmps)).run P m'.W = .ok ws m'.W
  | [], K, h => ⟨[], h, fun _ m _ _ _ _ _ _ _ _ => ⟨[], LR.nil m, rfl⟩⟩
  | .tmp t :: l, K, h => by
    simp only [resW] at h
    split at h
    case h_2 => cases h
    rename_i v hv
    obtain ⟨vs, hK, hr⟩ := resW_run hT l _ h
    refine ⟨v :: vs, hK, fun w0 m out b ha hw m' e1 e2 e3 => ?_⟩
    obtain ⟨ws, k1, k2⟩ := hr w0 m out b ha hw m' e1 e2 e3
    refine ⟨_, LR.cons (ha.get t v hv) k1, ?_⟩
    rw [List.mapM_cons, Sem.run_bind]
    show Result.andThen (.ok (b.tmps.getD t undef) m'.W) _ = _
    rw [Result.andThen_ok, Sem.run_bind, k2, Result.andThen_ok]
    rfl
  | .cell x t :: l, K, h => by
    simp only [resW] at h
    split at h
    case h_2 => cases h
    rename_i bb off hv
    split at h
    case h_2 => cases h
    rename_i cs tt hg
    obtain ⟨v, h, hl, _⟩ := loadK_ok hT h
    obtain ⟨vs, hK, hr⟩ := resW_run hT l _ h
    refine ⟨v :: vs, hK, fun w0 m out b ha hw m' e1 e2 e3 => ?_⟩
    obtain ⟨ws, k1, k2⟩ := hr w0 m out b ha hw m' e1 e2 e3
    have hx := ha.get x _ hv
    generalize ex : b.tmps.getD x undef = x' at hx
    cases hx with
    | @ptr _ g C _ hb =>
      obtain ⟨ds, d1, d2⟩ := hw.blk bb g C _ hb hg
      have hnD : g ∉ m.D.d := fun hD => by rw [(hw.marks g hD).2.2] at d1; cases d1
      have hD : ∀ j ∈ m.D.d, ¬ m.F j := fun j hj => (hw.marks j hj).2.1
      have hle : Le m m' := ⟨fun b p h => by rw [e1]; exact h, fun g h => by rw [e2]; exact h, fun j hj => e3 j fun hjD => hD j hjD hj⟩
      have hle' : Le m' m := ⟨fun b p h => by rw [e1] at h; exact h, fun g h => by rw [e2] at h; exact h, fun j hj => (e3 j fun hjD => hD j hjD (by rw [e2] at hj; exact hj)).symm⟩
      obtain ⟨v', r1, r2⟩ := hl m' g 0 ds.toList (d2.mono hle) fun j u hu => by
        rw [Array.getElem?_toList] at hu
        simp only [World.cell?, e3 g hnD, d1]
        simpa using hu
      refine ⟨_, LR.cons (r2.mono hle') k1, ?_⟩
      rw [Nat.zero_add] at r1
      rw [List.mapM_cons, Sem.run_bind]
      have : (resM b.tmps (.cell x t)).run P m'.W = .ok v' m'.W := by simp only [resM, ex, asAddr, Sem.run_bind, Sem.run_pure, Result.andThen_ok, r1]
      rw [this, Result.andThen_ok, Sem.run_bind, k2, Result.andThen_ok]
      rfl
theorem marks_ok {fn : Func} {tmps : Array Value} {out : List Nat} {R : Ending → World → Prop} : ∀ (D : List Nat) (m : Mem), m.D.d = D ++ out → WR w0 m H →
    (∀ m', m'.φ = m.φ → m'.F = m.F → (∀ g, g ∉ D → m'.W.heap[g]? = m.W.heap[g]?) → m'.D.d = out → m'.D.r = m.D.r → WR w0 m' H → ∃ v, (results fn tmps).run P m'.W = .ok v m'.W ∧ R (.returned v) m'.W) → LeavesInM (FW none) 0 P fn tmps R (D.map markOf) .returning m.W
  | [], m, hD, hw, hR => hR m rfl rfl (fun _ _ => rfl) hD rfl hw
  | g :: D, m, hD, hw, hR => by
    have hmk := hw.marks g (by rw [hD]; simp)
    have hnd := hw.uniq
    rw [hD, List.cons_append] at hnd
    obtain ⟨hnd1, hnd2⟩ := List.nodup_cons.1 hnd
    refine ⟨by simp, .inl ⟨g, m.W.putObj g (.deferred none), rfl, run_takeDeferred hmk.2.2, ?_⟩⟩
    have hother : ∀ j, j ≠ g → (m.W.putObj g (.deferred none)).heap[j]? = m.W.heap[j]? := fun j hj => by
      simp only [World.putObj]
      rw [Array.getElem?_setIfInBounds_ne (Ne.symm hj)]
    have hsz : (m.W.putObj g (.deferred none)).heap.size = m.W.heap.size := by simp [World.putObj]
    have hl : Le m { m with W := m.W.putObj g (.deferred none), D := ⟨D ++ out, m.D.r⟩ } := ⟨fun _ _ h => h, fun _ h => h, fun j hj => hother j (by rintro rfl; exact hmk.2.1 hj)⟩
    have hw' : WR w0 { m with W := m.W.putObj g (.deferred none), D := ⟨D ++ out, m.D.r⟩ } H := by
      refine ⟨.of ⟨hw.ov.below.os, hw.ov.below.tape, hw.ov.below.output, by show w0.W.heap.size ≤ (m.W.putObj g (.deferred none)).heap.size; rw [hsz]; exact hw.ov.below.size, fun j hj => ?_⟩, hw.dom, hw.hdom, fun c g' k' s hc hs => ?_, hw.high, hw.inj, fun j hj => by show j < (m.W.putObj g (.deferred none)).heap.size; rw [hsz]; exact hw.fr j hj, fun j hj => ?_, hnd2, hw.new, hw.gl.mono hl.F hl.mem⟩
      · rw [hother j (by omega)]
        exact hw.ov.below.block j hj
      · refine (hw.blk c g' k' s hc hs).mono hl rfl (hother g' ?_)
        rintro rfl
        exact (hw.blk c g' k' s hc hs).noMark hmk.2.2
      · obtain ⟨k1, k2, k3⟩ := hw.marks j (by rw [hD]; exact List.mem_cons_of_mem _ hj)
        exact ⟨k1, k2, by rw [← k3]; exact hother j (by rintro rfl; exact hnd1 hj)⟩
    refine marks_ok D { m with W := m.W.putObj g (.deferred none), D := ⟨D ++ out, m.D.r⟩ } rfl hw' fun m' e1 e2 e3 e4 e6 e5 => hR m' e1 e2 (fun j hj => ?_) e4 e6 e5
    rw [e3 j (fun h => hj (List.mem_cons_of_mem _ h))]
    exact hother j (by rintro rfl; exact hj (by simp))
theorem argFr_get : ∀ (l : List V) (i t : Nat), fget (argFr i l) t = if i ≤ t then l[t - i]? else none
  | [], i, t => by simp [fget]
  | v :: l, i, t => by
    simp only [fget]
    rcases beq_cases i t with ⟨e, rfl⟩ | ⟨e, hn⟩
    · simp []
    · simp only [e, argFr_get l (Nat.succ i) t]
      by_cases hlt : Nat.succ i ≤ t
      · rw [if_pos hlt, if_pos (by omega), show t - i = (t - Nat.succ i) + 1 by omega]; rfl
      · rw [if_neg hlt, if_neg (by omega)]
/-- **A function's contract out of its code.** -/
theorem fn_ok (hm : P.follows .mixedOrders = true) (hT : ∀ t i, tget T t = some i → tiOf P t = some i) {fid : Nat} {args : List V} {v : V} {news : List SB} {fn : Func} {c : Code} (hf : P.funcs[fid]? = some fn) (hb : fn.body = some c) (hB : fnB P fid args.length = true)
    (h : codeW P T c (argFr 0 args) ⟨0, []⟩ (leaveW T fn.results.toList v news)) : FnOK P fid args v news := by
  unfold fnB at hB
  simp only [hf, hb, Bool.and_eq_true, decide_eq_true_eq, Bool.not_eq_true'] at hB
  obtain ⟨⟨hc, hent⟩, hlen⟩ := hB
  refine ⟨enters_of hf hent hb, fun m args' hφ hF hD hgl hargs => callsIn_of_wp_marks hf hb trivial ?_⟩
  have hsz : args'.size = args.length := by simpa using hargs.1.symm
  have no : ∀ b p, m.φ b = some p → False := fun b p h => by rw [hφ] at h; cases h
  have hw : WR ⟨m.W, m.F⟩ m ⟨0, []⟩ := ⟨Ov.refl _, fun b p h => (no b p h).elim, fun b s h => (by cases h), fun b g C s h _ => (no b _ h).elim, fun b g C s h _ => (no b _ h).elim, fun b b' g C C' s s' h _ _ _ => (no b _ h).elim, hF,
    fun g hg => (by rw [hD] at hg; cases hg), (by rw [hD]; exact List.nodup_nil), fun g hg => .inl hg, hgl⟩
  have ha : AR m fn.ntmps m.D (argFr 0 args) { tmps := args' ++ Array.replicate (fn.ntmps - args'.size) undef, defers := [] } := by
    refine ⟨by simp; omega, fun t w hw => ?_, ⟨[], by simp, rfl⟩, rfl⟩
    rw [argFr_get, if_pos (Nat.zero_le _), Nat.sub_zero] at hw
    obtain ⟨u, hu, hr⟩ := hargs.get? hw
    rw [Array.getElem?_toList] at hu
    have hlt : t < args'.size := (Array.getElem?_eq_some_iff.1 hu).1
    have : (args' ++ Array.replicate (fn.ntmps - args'.size) undef).getD t undef = u := by
      rw [Array.getD_eq_getD_getElem?, Array.getElem?_append_left hlt, hu]; rfl
    rw [this]; exact hr
  refine codeW_ok hm hT c _ _ _ hc h ⟨m.W, m.F⟩ none m.D m _ rfl ha hw _ fun e fr' H' m' b' k x1 x2 x3 => ?_
  have main : resW T fr' H' fn.results.toList (fun vs => RetS H' (oneOf vs) v news) → LeavesInM (FW none) 0 P fn b'.tmps (fun e W' => ∃ v' m', e = .returned v' ∧ m'.W = W' ∧ (∀ g, m.F g → m'.F g) ∧ m'.D = m.D ∧ WR ⟨m.W, m.F⟩ m' (pushL news ⟨0, []⟩) ∧ VR m' v v') b'.defers .returning m'.W := by
    intro hres
    obtain ⟨vs, ⟨⟨σ, s1, s2, s3⟩⟩, hrun⟩ := resW_run (n := fn.ntmps) hT _ _ hres
    obtain ⟨own, o1, o2⟩ := x2.dfr
    rw [hD, List.append_nil] at o1
    rw [o2, ← o1]
    refine marks_ok (out := []) m'.D.d m' (by simp) x3 fun m2 e1 e2 e3 e4 e6 e5 => ?_
    obtain ⟨ws, k1, k2⟩ := hrun _ m' _ b' x2 x3 m2 e1 e2 e3
    have hDF : ∀ j ∈ m'.D.d, ¬ m'.F j := fun j hj => (x3.marks j hj).2.1
    have hle : Le m' m2 := ⟨fun b p h => by rw [e1]; exact h, fun g h => by rw [e2]; exact h, fun j hj => e3 j fun hjD => hDF j hjD hj⟩
    have hone : ∃ v', (results fn b'.tmps).run P m2.W = .ok v' m2.W ∧ VR m' (oneOf vs) v' := by
      rw [results_eq, Array.mapM_eq_mapM_toList, Sem.run_bind]
      have h3 : (Functor.map List.toArray (fn.results.toList.mapM (m := Sem) (resM b'.tmps))).run P m2.W = .ok ws.toArray m2.W := by
        rw [map_eq_pure_bind, Sem.run_bind, k2]; rfl
      rw [h3, Result.andThen_ok, Sem.run_pure]
      refine ⟨_, rfl, ?_⟩
      match vs, ws, k1 with
      | [], [], k1 => exact VR.tupL k1
      | [v], [w], k1 => exact k1.head
      | _ :: _ :: _, _ :: _ :: _, k1 => 
        rw [dif_neg (by simp)]
        exact VR.tupL (by simpa using k1)
      | [], _ :: _, k1 => simp [LR] at k1
      | _ :: _, [], k1 => simp [LR] at k1
      | [_], _ :: _ :: _, k1 => simp [LR] at k1
      | _ :: _ :: _, [_], k1 => simp [LR] at k1
    obtain ⟨v', r1, r2⟩ := hone
    refine ⟨v', r1, v', ({ H := H', H' := pushL news ⟨0, []⟩, σ := σ } : Vw).mem m2, rfl, rfl, fun g hg => .inl ?_, ?_, view_ok s1 s3 e5, s2 _ m2 v' e5 (r2.mono hle)⟩
    · rw [e2]; exact x1.F g hg
    · show m2.D = m.D
      cases hm2 : m2.D with
      | mk d r =>
        rw [hm2] at e4 e6
        cases hmD : m.D with
        | mk d' r' =>
          have hdr := x2.dr
          rw [hmD] at hD hdr
          simp only at e4 e6 hD hdr
          rw [e4, e6, hD, hdr]
  cases e with
  | normal => exact main k
  | ret => exact main k
  | exit id => exact k.elim
  | goto l => exact k.elim
  | panic c => exact k.elim
  | outgrown => exact k.elim

/-! ### Calls -/
/-- What the caller takes the result for: the new blocks have numbers from k on. -/
def rv (k : Nat) (keepF : Prop) (v v' : V) : Prop := ∀ (m m' : Mem) (u : Value), (∀ b p, m.φ b = some p → m'.φ (k + b) = some p) → (keepF → ∀ g, m.F g → m'.F g) → m'.W = m.W → VR m v u → VR m' v' u
def Plain (v : V) : Prop := ∀ (m m' : Mem) (u : Value), VR m v u → VR m' v u
def PlainL (l : List V) : Prop := ∀ v ∈ l, Plain v
theorem plain_sc {a : Value} : Plain (.sc a) := fun m m' u h => by cases h with | sc h => exact .sc h
theorem plain_ifc : Plain .ifc := fun m m' u h => by cases h with | ifc => exact .ifc
theorem plainL_nil : PlainL [] := fun v hv => by cases hv
theorem plainL_cons {v : V} {l : List V} (h : Plain v) (t : PlainL l) : PlainL (v :: l) := fun w hw => by
  rcases List.mem_cons.1 hw with rfl | hw
  · exact h
  · exact t w hw
theorem plain_agg {l : List V} (h : PlainL l) : Plain (.agg l) := fun m m' u hv => by
  cases hv with
  | agg hs hh => exact .agg hs fun i x y hx hy => h x (List.mem_of_getElem? hx) m m' y (hh i x y hx hy)
theorem plain_tup {l : List V} (h : PlainL l) : Plain (.tup l) := fun m m' u hv => by
  cases hv with
  | tup hs hh => exact .tup hs fun i x y hx hy => h x (List.mem_of_getElem? hx) m m' y (hh i x y hx hy)
inductive rvL (k : Nat) (keepF : Prop) : List V → List V → Prop
  | nil : rvL k keepF [] []
  | cons {x y : V} {xs ys : List V} (h : rv k keepF x y) (t : rvL k keepF xs ys) : rvL k keepF (x :: xs) (y :: ys)
theorem rv_plain {k : Nat} {q : Prop} {v : V} (h : Plain v) : rv k q v v := fun m m' u _ _ _ hv => h m m' u hv
theorem rv_pure {k : Nat} {v : V} (h : Pure v) : rv k True v v := fun m m' u _ hF hW hv => h m m' u (hF trivial) (fun g _ => by rw [hW]) hv
theorem rv_own {k : Nat} {q : Prop} {b sz o n : Nat} : rv k q (.own b sz o n) (.own (k + b) sz o n) := fun m m' u hφ _ _ hv => by
  cases hv with
  | own h hle => exact .own (hφ _ _ h) hle
  | own0 => exact .own0
theorem rv_ptr {k : Nat} {q : Prop} {b o : Nat} : rv k q (.ptr b o) (.ptr (k + b) o) := fun m m' u hφ _ _ hv => by
  cases hv with
  | ptr h => exact .ptr (hφ _ _ h)
theorem rvL.rel {k : Nat} {q : Prop} {m m' : Mem} (hφ : ∀ b p, m.φ b = some p → m'.φ (k + b) = some p) (hF : q → ∀ g, m.F g → m'.F g) (hW : m'.W = m.W) : ∀ {xs ys : List V} {us : List Value}, rvL k q xs ys → LR m xs us → LR m' ys us
  | _, _, us, .nil, h => by
    obtain rfl : us = [] := List.eq_nil_of_length_eq_zero h.1.symm
    exact LR.nil _
  | _, _, us, .cons hh t, h => by
    cases us with
    | nil => simp [LR] at h
    | cons u us => exact LR.cons (hh m m' u hφ hF hW h.head) (t.rel hφ hF hW h.tail)
theorem rv_agg {k : Nat} {q : Prop} {xs ys : List V} (h : rvL k q xs ys) : rv k q (.agg xs) (.agg ys) := fun m m' u hφ hF hW hv => by
  cases hv with
  | agg hs hh => exact VR.aggL (h.rel hφ hF hW ⟨hs, hh⟩)
theorem rv_tup {k : Nat} {q : Prop} {xs ys : List V} (h : rvL k q xs ys) : rv k q (.tup xs) (.tup ys) := fun m m' u hφ hF hW hv => by
  cases hv with
  | tup hs hh => exact VR.tupL (h.rel hφ hF hW ⟨hs, hh⟩)
/-- The new blocks hold nothing of one's own. -/
def PureS (q : Prop) : SB → Prop
  | .loop .. => False
  | .mpb .. => False
  | .cells cs _ => ∀ c ∈ cs, (q ∧ Pure c) ∨ Plain c
  | .row _ n e _ => ∀ i, i < n → (q ∧ Pure (e i)) ∨ Plain (e i)
theorem pushL_n : ∀ (l : List SB) (H : SW), (pushL l H).n = H.n + l.length
  | [], H => rfl
  | s :: l, H => by simp only [pushL]; rw [pushL_n l]; simp; omega
theorem pushL_get : ∀ (l : List SB) (H : SW) (b : Nat), (pushL l H).get b = if H.n ≤ b ∧ b < H.n + l.length then l[b - H.n]? else H.get b
  | [], H, b => by simp only [pushL, List.length_nil, Nat.add_zero]; rw [if_neg (by omega)]
  | s :: l, H, b => by
    simp only [pushL]
    rw [pushL_get l, SW.get_push]
    simp only [List.length_cons]
    by_cases h1 : b = H.n
    · subst h1; rw [if_neg (by omega), if_pos rfl, if_pos (by omega), Nat.sub_self]; rfl
    · rw [if_neg h1]
      by_cases h2 : H.n.succ ≤ b ∧ b < H.n.succ + l.length
      · rw [if_pos h2, if_pos (by omega), show b - H.n = (b - H.n.succ) + 1 by omega]; rfl
      · rw [if_neg h2, if_neg (by omega)]
/-- **A call by its contract.** ('fz': blocks of one's own may be lent to the callee; then what it returns must be plain, or new blocks.) -/
theorem callAny {P : Program} {fid : Nat} {args args0 : List V} {v v' : V} {news : List SB} {H : SW} {K : V → SW → Tag → Prop} (fz keepF : Prop) (hq : fz → keepF → False) (hf : FnOK P fid args0 v news) (ha : vmL { H := H, H' := ⟨0, []⟩, σ := [], fz := fz } args args0) (hn : ∀ s ∈ news, PureS keepF s) (hv : rv H.n keepF v v')
    (hk : K v' (pushL news H) .no) : callW P fid args H K := by
  obtain ⟨he, hc⟩ := hf
  refine ⟨⟨v', pushL news H, .no, ⟨he, fun w0 m args' hw hargs => ?_⟩, fun b hb _ => by rw [pushL_get, if_neg (by omega)], hk⟩⟩
  have hleD : Le m { m with D := ⟨[], m.D.r⟩ } := ⟨fun _ _ h => h, fun _ h => h, fun _ _ => rfl⟩
  have hw0 : WR w0 { m with D := ⟨[], m.D.r⟩ } H := ⟨hw.ov, hw.dom, hw.hdom, fun b g C s h1 h2 => SBR.mono hleD rfl rfl (hw.blk b g C s h1 h2), hw.high, hw.inj, hw.fr, fun g hg => (by cases hg), List.nodup_nil, hw.new, hw.gl⟩
  have hlr : LR { m with D := ⟨[], m.D.r⟩ } args args'.toList := LR.mono hleD hargs
  have hlive : ∀ g, (({ H := H, H' := ⟨0, []⟩, σ := [], fz := fz } : Vw).mem { m with D := ⟨[], m.D.r⟩ }).F g → m.F g ∨ (fz ∧ g < m.W.heap.size) := fun g h => by
    rcases h with h | ⟨hz, b, C, s, h1, h2, _⟩
    · exact .inl h
    · exact .inr ⟨hz, (hw.blk b g C s h1 h2).lt⟩
  have hphi0 : (({ H := H, H' := ⟨0, []⟩, σ := [], fz := fz } : Vw).mem { m with D := ⟨[], m.D.r⟩ }).φ = fun _ => none := by
    funext b
    simp [Vw.mem]
  have := hc (({ H := H, H' := ⟨0, []⟩, σ := [], fz := fz } : Vw).mem { m with D := ⟨[], m.D.r⟩ }) args' hphi0 (fun g h => by
    rcases hlive g h with h | h
    · exact hw.fr g h
    · exact h.2) rfl (hw0.gl.mono (fun _ h => .inl h) (fun _ _ => rfl)) (ha.rel hw0 hlr)
  refine this.mono ?_
  rintro e W' ⟨u, m', rfl, hW, hF, hD, hw', hv'⟩
  have hov : Ov m.W m'.W := hw'.ov
  -- the caller's side
  let mr : Mem := { F := fun g => m.F g ∨ (m.W.heap.size ≤ g ∧ m'.F g), φ := fun b => if b < H.n then m.φ b else m'.φ (b - H.n), W := m'.W, D := m.D }
  have hle : Le m mr := ⟨fun b p h => by
    show (if b < H.n then m.φ b else m'.φ (b - H.n)) = some p
    rw [if_pos (hw.dom b p h)]; exact h, fun g h => .inl h, fun g hg => hov.below.block g (hw.fr g hg)⟩
  have hphi : ∀ b p, m'.φ b = some p → mr.φ (H.n + b) = some p := fun b p h => by
    show (if H.n + b < H.n then m.φ (H.n + b) else m'.φ (H.n + b - H.n)) = some p
    rw [if_neg (by omega), show H.n + b - H.n = b by omega]; exact h
  have hkF : keepF → ∀ g, m'.F g → mr.F g := fun hq' g h => by
    rcases hw'.new g h with h2 | h2
    · rcases hlive g h2 with h3 | h3
      · exact .inl h3
      · exact (hq h3.1 hq').elim
    · exact .inr ⟨h2, h⟩
  have newblk : ∀ b, b < news.length → ∀ s, news[b]? = some s → ∀ g C, m'.φ b = some (g, C) → SBR m' g C s ∧ m.W.heap.size ≤ g ∧ ¬ m'.F g := fun b hb s hs g C hp => by
    have hg : (pushL news ⟨0, []⟩).get b = some s := by rw [pushL_get, if_pos (by simp; exact hb)]; simpa using hs
    exact ⟨hw'.blk b g C s hp hg, (hw'.high b g C s hp hg).1, (hw'.high b g C s hp hg).2⟩
  have get_new : ∀ b s, (pushL news H).get b = some s → (b < H.n ∧ H.get b = some s) ∨ (H.n ≤ b ∧ b - H.n < news.length ∧ news[b - H.n]? = some s) := fun b s h => by
    rw [pushL_get] at h
    split at h
    · rename_i hc; exact .inr ⟨hc.1, by omega, h⟩
    · exact .inl ⟨hw.hdom b s h, h⟩
  have phi_cases : ∀ b p, mr.φ b = some p → (b < H.n ∧ m.φ b = some p) ∨ (H.n ≤ b ∧ m'.φ (b - H.n) = some p) := fun b p h => by
    change (if b < H.n then m.φ b else m'.φ (b - H.n)) = some p at h
    split at h
    · rename_i hlt; exact .inl ⟨hlt, h⟩
    · rename_i hlt; exact .inr ⟨by omega, h⟩
  have pureS : ∀ s, s ∈ news → ∀ g C, SBR m' g C s → SBR mr g C s := fun s hs g C h => by
    have hp := hn s hs
    have one : ∀ (c : V) (u : Value), (keepF ∧ Pure c) ∨ Plain c → VR m' c u → VR mr c u := fun c u h hv => by
      rcases h with ⟨hq', h⟩ | h
      · exact h m' mr u (hkF hq') (fun _ _ => rfl) hv
      · exact h m' mr u hv
    cases s with
    | loop => exact hp.elim
    | mpb => exact hp.elim
    | cells cs t =>
      obtain ⟨ds, h1, h2⟩ := h
      exact ⟨ds, h1, h2.1, fun i x y hx hy => one x y (hp x (List.mem_of_getElem? hx)) (h2.2 i x y hx hy)⟩
    | row sz n e t =>
      obtain ⟨ds, h1, h2, h3, us, h4⟩ := h
      exact ⟨ds, h1, h2, h3, us, fun i hi => ⟨one _ _ (hp i hi) (h4 i hi).1, (h4 i hi).2⟩⟩
  have hwr : WR w0 mr (pushL news H) := by
    refine ⟨hw.ov.trans hov, fun b p h => ?_, fun b s h => ?_, fun b g C s h1 h2 => ?_, fun b g C s h1 h2 => ?_, fun b c g C C' s s' h1 h2 h3 h4 => ?_, fun g h => ?_, fun g hg => ?_, hw.uniq, fun g h => ?_, hw.gl.mono hle.F hle.mem⟩
    · rw [pushL_n]
      rcases phi_cases b p h with ⟨h1, _⟩ | ⟨h1, h2⟩
      · omega
      · have := hw'.dom _ _ h2
        rw [pushL_n] at this
        simp at this; omega
    · rw [pushL_n]
      rcases get_new b s h with ⟨h1, _⟩ | ⟨h1, h2, _⟩ <;> omega
    · rcases phi_cases b _ h1 with ⟨k1, k2⟩ | ⟨k1, k2⟩ <;> rcases get_new b s h2 with ⟨l1, l2⟩ | ⟨l1, l2, l3⟩
      · have hb := hw.blk b g C s k2 l2
        exact hb.mono hle rfl (hov.below.block g hb.lt)
      · omega
      · omega
      · exact pureS s (List.mem_of_getElem? l3) g C (newblk _ l2 s l3 g C k2).1
    · rcases phi_cases b _ h1 with ⟨k1, k2⟩ | ⟨k1, k2⟩ <;> rcases get_new b s h2 with ⟨l1, l2⟩ | ⟨l1, l2, l3⟩
      · obtain ⟨x1, x2⟩ := hw.high b g C s k2 l2
        refine ⟨x1, fun hF => ?_⟩
        rcases hF with hF | hF
        · exact x2 hF
        · have := (hw.blk b g C s k2 l2).lt; omega
      · omega
      · omega
      · obtain ⟨_, x2, x3⟩ := newblk _ l2 s l3 g C k2
        refine ⟨Nat.le_trans hw.ov.size x2, fun hF => ?_⟩
        rcases hF with hF | hF
        · have := hw.fr g hF; omega
        · exact x3 hF.2
    · rcases phi_cases b _ h1 with ⟨k1, k2⟩ | ⟨k1, k2⟩ <;> rcases get_new b s h3 with ⟨l1, l2⟩ | ⟨l1, l2, l3⟩ <;> rcases phi_cases c _ h2 with ⟨n1, n2⟩ | ⟨n1, n2⟩ <;> rcases get_new c s' h4 with ⟨o1, o2⟩ | ⟨o1, o2, o3⟩ <;> try omega
      · exact hw.inj b c g C C' s s' k2 n2 l2 o2
      · have := (hw.blk b g C s k2 l2).lt
        have := (newblk _ o2 s' o3 g C' n2).2.1; omega
      · have := (hw.blk c g C' s' n2 o2).lt
        have := (newblk _ l2 s l3 g C k2).2.1; omega
      · have hg1 : (pushL news ⟨0, []⟩).get (b - H.n) = some s := by rw [pushL_get, if_pos (by simp; exact l2)]; simpa using l3
        have hg2 : (pushL news ⟨0, []⟩).get (c - H.n) = some s' := by rw [pushL_get, if_pos (by simp; exact o2)]; simpa using o3
        have := hw'.inj _ _ g C C' s s' k2 n2 hg1 hg2
        omega
    · rcases h with h | h
      · exact Nat.lt_of_lt_of_le (hw.fr g h) hov.size
      · exact hw'.fr g h.2
    · obtain ⟨x1, x2, x3⟩ := hw.marks g hg
      have hlt : g < m.W.heap.size := (Array.getElem?_eq_some_iff.1 x3).1
      refine ⟨x1, fun hF => ?_, by rw [← x3]; exact hov.below.block g hlt⟩
      rcases hF with hF | hF
      · exact x2 hF
      · omega
    · rcases h with h | h
      · exact hw.new g h
      · exact .inr (Nat.le_trans hw.ov.size h.1)
  refine ⟨u, mr, rfl, hW, ⟨hle, by rw [pushL_n]; omega, fun b hb => ?_, fun b cs t hb hn' hg => ?_⟩, rfl, hwr, hv m' mr u hphi hkF rfl hv'⟩
  · show (if b < H.n then m.φ b else m'.φ (b - H.n)) = m.φ b
    rw [if_pos hb]
  · rw [pushL_get, if_neg (by omega)]; exact hg
/-- With arguments that stay: what comes back may hold what stays. -/
theorem call_i {P : Program} {fid : Nat} {args args0 : List V} {v v' : V} {news : List SB} {H : SW} {K : V → SW → Tag → Prop} (hf : FnOK P fid args0 v news) (ha : vmL { H := H, H' := ⟨0, []⟩, σ := [], fz := False } args args0) (hn : ∀ s ∈ news, PureS True s) (hv : rv H.n True v v')
    (hk : K v' (pushL news H) .no) : callW P fid args H K := callAny False True (fun h _ => h) hf ha hn hv hk
/-- With arguments of one's own, lent: what comes back is plain. -/
theorem call_p {P : Program} {fid : Nat} {args args0 : List V} {v v' : V} {news : List SB} {H : SW} {K : V → SW → Tag → Prop} (hf : FnOK P fid args0 v news) (ha : vmL { H := H, H' := ⟨0, []⟩, σ := [], fz := True } args args0) (hn : ∀ s ∈ news, PureS False s) (hv : rv H.n False v v')
    (hk : K v' (pushL news H) .no) : callW P fid args H K := callAny True False (fun _ h => h) hf ha hn hv hk
end
end Go.Proofs.Ytkliejppigfjiaa.Fx
