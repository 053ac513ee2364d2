/-
  The evaluator is right: what it returns of a closed call the machine returns, in every world, whatever is drawn.
  Conditions: the program follows the rule on mixed orders.
-/
import Derived.Test.YtkliejppigfjiaaEvAny
import Derived.RangeFuncNested
import Derived.LoopNIn
namespace Go.Proofs.Ytkliejppigfjiaa.Ev
open Go.RowKit

section
variable {P : Program} {w0 : World} {φ : Phi} {H : SW} {W : World} {r : Option Nat}

theorem SA.n_put (a : SA) (d : Option Tmp) (v : Value) : (a.put d v).n = a.n := by
  cases d with
  | none => rfl
  | some d => simp only [SA.put]; split <;> rfl
theorem SA.defers_put (a : SA) (d : Option Tmp) (v : Value) : (a.put d v).defers = a.defers := by
  cases d with
  | none => rfl
  | some d => simp only [SA.put]; split <;> rfl
theorem putAll_n : ∀ (l : List Oper) (vs : List Value) (a : SA), (putAll l vs a).n = a.n ∧ (putAll l vs a).defers = a.defers
  | [], _, _ => ⟨rfl, rfl⟩
  | _ :: _, [], _ => ⟨rfl, rfl⟩
  | o :: l, v :: vs, a => by
    simp only [putAll]
    obtain ⟨h1, h2⟩ := putAll_n l vs (a.put o.dst v)
    exact ⟨by rw [h1, SA.n_put], by rw [h2, SA.defers_put]⟩
theorem putAll_get : ∀ (l : List Oper) (i0 : Nat) (vs : List Value) (a : SA), vs.length = l.length → (∀ (k : Nat) (o : Oper) t, l[k]? = some o → o.dst = some t → wr l i0 t = some (i0 + k) ∧ t < a.n) →
    ∀ t, (putAll l vs a).get t = match wr l i0 t with | some j => vs.getD (j - i0) undef | none => a.get t
  | [], _, _, _, _, _, _ => rfl
  | _ :: _, _, [], _, h, _, _ => by simp at h
  | o :: l, i0, v :: vs, a, hlen, hu, t => by
    have hu' : ∀ (k : Nat) (o' : Oper) t, l[k]? = some o' → o'.dst = some t → wr l (i0 + 1) t = some (i0 + 1 + k) ∧ t < (a.put o.dst v).n := fun k o' t hk hd => by
      obtain ⟨h1, h2⟩ := hu (k + 1) o' t (by simpa using hk) hd
      unfold wr at h1
      split at h1
      · injection h1 with h1; omega
      · exact ⟨by rw [h1]; congr 1; omega, by rw [SA.n_put]; exact h2⟩
    have ih := putAll_get l (i0 + 1) vs (a.put o.dst v) (by simpa using hlen) hu' t
    simp only [putAll]
    rw [ih]
    conv => rhs; unfold wr
    by_cases hd : o.dst = some t
    · rw [if_pos hd]
      have hnone : wr l (i0 + 1) t = none := by
        cases e : wr l (i0 + 1) t with
        | none => rfl
        | some j =>
          obtain ⟨h1, o', h2, h3⟩ := wr_spec l (i0 + 1) t j e
          obtain ⟨h4, _⟩ := hu (j - (i0 + 1) + 1) o' t (by simpa using h2) h3
          unfold wr at h4
          rw [if_pos hd] at h4
          injection h4 with h4
          omega
      rw [hnone]
      simp only [Nat.sub_self]
      obtain ⟨_, hlt⟩ := hu 0 o t rfl hd
      rw [hd, SA.get_put _ _ _ _ hlt, if_pos rfl]
      rfl
    · rw [if_neg hd]
      cases e : wr l (i0 + 1) t with
      | none =>
        simp only
        cases hdd : o.dst with
        | none => rfl
        | some d =>
          obtain ⟨_, hlt⟩ := hu 0 o d rfl hdd
          rw [SA.get_put _ _ _ _ hlt, if_neg]
          rintro rfl; exact hd hdd
      | some j =>
        obtain ⟨h1, _⟩ := wr_spec l (i0 + 1) t j e
        simp only
        rw [show j - i0 = (j - (i0 + 1)) + 1 by omega]
        rfl

theorem draw_ok {C R : Nat → List Value → SW → Option (Value × SW)} (hm : P.follows .mixedOrders = true) (hC : COk P w0 C) (hR : ROk P w0 R) {ops : Array Oper} {id : Nat} {a a' : SA} {H' : SW} {b : Act} {Q : Exit → Act → World → Prop}
    (ha : AR φ a b) (hw : WR P w0 φ H W) (h : drawS P C R ops a H = some (a', H'))
    (hQ : ∀ φ' b' W', Ext φ H φ' H' → AR φ' a' b' → WR P w0 φ' H' W' → Q .normal b' W') : (Code.region id ops true).wpIn (FW r) 0 P Q b W := by
  unfold drawS at h
  simp only at h
  generalize preds ops.toList [] = PD at h
  split at h
  case isFalse => cases h
  rename_i hst
  have st := static_of hst
  split at h
  case h_2 => cases h
  rename_i H1 hb
  split at h
  case h_2 => cases h
  rename_i vals H2 hs hgo
  split at h
  case isFalse => cases h
  rename_i hstages
  injection h with h; obtain ⟨rfl, rfl⟩ := Prod.mk.inj h
  have hz : births_ ops.toList 0 = 0 := by simp [births_]
  obtain ⟨⟨vs, hv1, hv2⟩, ⟨more, hmore⟩, hlen, hturn⟩ := drawGo_spec (n := a.n) st H.n ops.toList [] H1 [] vals (H2 :: hs) (by simp) (by simp [rank]) (by simpa [hz] using hgo)
  obtain ⟨b1, b2, b3, b4⟩ := births_spec (P := P) (w0 := w0) _ _ _ hb
  have hturn' : ∀ (i : Nat) (o : Oper), ops[i]? = some o → Turn P C R ops PD a H.n vals (H2 :: hs).reverse i o := fun i o hi => by
    have := hturn i o (by rw [Array.getElem?_toList]; exact hi)
    simpa using this
  have hsl : (H2 :: hs).reverse.length = rank ops.toList ops.toList.length + 1 := by rw [List.length_reverse]; exact hlen
  have pl : Plan P C R ops PD a H H1 vals (H2 :: hs).reverse := by
    refine ⟨st, by rw [hv1]; simpa using hv2, hturn', hsl, by rw [hmore]; rfl, fun i o hi hl hwant s Hs hHs hwin => ?_, hb⟩
    have hslt : s < rank ops.toList ops.toList.length + 1 := by rw [← hsl]; exact (List.getElem?_eq_some_iff.1 hHs).1
    simp only [Bool.or_eq_true, decide_eq_true_eq] at hstages
    rcases hstages with h0 | h1
    · have hfr : fresh o = false := by unfold isLoad at hl; unfold fresh; split at hl <;> simp_all
      have hef : effect o = false := by unfold isLoad at hl; unfold effect; split at hl <;> simp_all
      obtain ⟨v, Hq, q1, q2, q3⟩ := (hturn' i o hi).qu hfr hwant hef
      have hr0 : rank ops.toList i = 0 := by
        have := rank_le (l := ops.toList) (i := i) (by have := lt_of_some hi; simp; omega)
        omega
      obtain rfl : s = 0 := by omega
      rw [hr0] at q1
      obtain rfl : Hs = Hq := Option.some.inj (hHs.symm.trans q1)
      rw [q3, List.getD_eq_getElem?_getD, q2]; rfl
    · have h2 := allB_spec h1 i o (by rw [Array.getElem?_toList]; exact hi)
      simp only [Nat.zero_add, hl, hwant, Bool.not_true, Bool.false_or] at h2
      have h3 := List.all_eq_true.1 h2 s (List.mem_filter.2 ⟨by simpa using hslt, hwin⟩)
      rw [hHs] at h3
      unfold stageOk at h3
      simp only at h3
      split at h3
      · rename_i v hv; rw [hv, veq2_eq h3]
      · cases h3
  refine wpIn_region_any hm ?_
  obtain ⟨c1, c2⟩ := b1 hw
  have hrep : ∀ i, (Array.replicate ops.size false).getD i false = false := fun i => by
    rw [Array.getD_eq_getD_getElem?, Array.getElem?_replicate]; split <;> rfl
  refine inv_any (φ0 := φ) (ds := b.defers) hC hR pl ?_ ops.size 0 φ _ b _ ⟨by simp, closed_none _ _, fun i o hi he => ?_, ⟨H1, pl.h0, c1.other hw.ov.drew (fun _ _ _ _ _ _ => rfl), c2, fun i o hi hf _ => ?_⟩, ha.n, rfl, fun t => ?_⟩ ?_
  · intro s φ' L b' W' hinv hdone
    obtain ⟨Hs, hHs, hw', hext, _⟩ := hinv.hs
    have hslt : s < rank ops.toList ops.toList.length + 1 := by rw [← hsl]; exact (List.getElem?_eq_some_iff.1 hHs).1
    have hs' : s = rank ops.toList ops.toList.length := by
      rcases Nat.eq_zero_or_pos (rank ops.toList ops.toList.length) with h0 | h0
      · omega
      · obtain ⟨j, oj, hj, hej, hrj⟩ := rank_hit ops.toList (rank ops.toList ops.toList.length - 1) (by omega)
        rw [Array.getElem?_toList] at hj
        have := (hinv.ef j oj hj hej).1 (hdone j (lt_of_some hj))
        omega
    have hlast : Hs = H2 := by
      rw [List.length_cons] at hlen
      rw [List.reverse_cons, hs', List.getElem?_append_right (by rw [List.length_reverse]; omega)] at hHs
      have e : rank ops.toList ops.toList.length - hs.reverse.length = 0 := by rw [List.length_reverse]; omega
      rw [e] at hHs
      simpa using hHs.symm
    subst hlast
    obtain ⟨p1, p2⟩ := putAll_n ops.toList vals a
    refine hQ φ' b' W' hext ⟨by rw [hinv.n, p1], fun t => ?_, by rw [p2, hinv.dfr]; exact ha.dfr.mono (hw.le hext)⟩ hw'
    have hsl' := hinv.slot t
    unfold cur at hsl'
    rw [putAll_get ops.toList 0 vals a (by rw [pl.len]; simp) (fun k o t hk hd => by rw [Nat.zero_add]; exact st.dst k o (by rw [← Array.getElem?_toList]; exact hk) t hd) t]
    cases e : wr ops.toList 0 t with
    | none => rw [e] at hsl'; exact hsl'
    | some j =>
      rw [e] at hsl'
      obtain ⟨oj, hoj, _⟩ := wr_some e
      simp only [hdone j (lt_of_some hoj), if_true] at hsl'
      exact hsl'
  · rw [hrep]; simp
  · obtain ⟨t, z, e1, e2, e3, e4, e5⟩ := b4 i o (by rw [Array.getElem?_toList]; exact hi) hf
    exact ⟨hw.fresh _ (Nat.le_add_right _ _), ⟨t, z, e1, e3, e4⟩, e5⟩
  · unfold cur
    have := ha.get t
    cases wr ops.toList 0 t with
    | none => exact this
    | some j => simp only [hrep, Bool.false_eq_true, if_false]; exact this
  · unfold undone
    exact Nat.le_trans (List.length_filter_le _ _) (by simp)

/-! ### Leaving a function -/
def resM (tmps : Array Value) : ResultVar → Sem Value
  | .tmp t => pure (tmps.getD t undef)
  | .cell x t => do loadVar t (← asAddr (tmps.getD x undef))
theorem results_eq (fn : Func) (tmps : Array Value) : results fn tmps = (do let vs ← fn.results.mapM (resM tmps); pure (if h : vs.size = 1 then vs[0] else .tuple vs)) := by
  unfold results
  congr 2
theorem resL_run {a : SA} {b : Act} (ha : AR φ a b) (hw : WR P w0 φ H W) : ∀ (l : List ResultVar) (vs : List Value), resL P a H l = some vs →
    ∃ ws, LR φ vs ws ∧ (l.mapM (m := Sem) (resM b.tmps)).run P W = .ok ws W
  | [], vs, h => by
    simp only [resL, Option.some.injEq] at h
    subst h
    exact ⟨[], LR.nil φ, rfl⟩
  | x :: l, vs, h => by
    unfold resL at h
    split at h
    · rename_i v hv
      split at h
      · rename_i us hus
        injection h with h; subst h
        obtain ⟨ws, h1, h2⟩ := resL_run ha hw l us hus
        have one : ∃ w, VR φ v w ∧ (resM b.tmps x).run P W = .ok w W := by
          cases x with
          | tmp t =>
            simp only [resOne, Option.some.injEq] at hv
            subst hv
            exact ⟨_, ha.get t, rfl⟩
          | cell x t =>
            obtain ⟨bb, g, k, off, hb, e1, e2, w, e3, e4⟩ := loadQ_ok hw (ha.get x) hv
            exact ⟨w, e4, by simp only [resM, e2, asAddr, Sem.run_bind, Sem.run_pure, Result.andThen_ok, e3]⟩
        obtain ⟨w, h3, h4⟩ := one
        refine ⟨w :: ws, LR.cons h3 h1, ?_⟩
        rw [List.mapM_cons, Sem.run_bind, h4, Result.andThen_ok, Sem.run_bind, h2, Result.andThen_ok]
        rfl
      · cases h
    · cases h
theorem resS_run {fn : Func} {a : SA} {b : Act} (ha : AR φ a b) (hw : WR P w0 φ H W) {v : Value} (h : resS P fn a H = some v) : ∃ v', (results fn b.tmps).run P W = .ok v' W ∧ VR φ v v' := by
  unfold resS at h
  split at h
  · rename_i vs hvs
    injection h with h; subst h
    obtain ⟨ws, h1, h2⟩ := resL_run ha hw _ _ hvs
    refine ⟨oneOf ws, ?_, ?_⟩
    · rw [results_eq, Array.mapM_eq_mapM_toList, Sem.run_bind]
      have h3 : (Functor.map List.toArray (fn.results.toList.mapM (m := Sem) (resM b.tmps))).run P W = .ok ws.toArray W := by
        rw [map_eq_pure_bind, Sem.run_bind, h2]; rfl
      rw [h3, Result.andThen_ok, Sem.run_pure]
      congr 1
      match ws with
      | [] => rfl
      | [w] => rfl
      | _ :: _ :: _ => simp [oneOf]
    · match vs, ws, h1 with
      | [], [], h1 => exact VR.tupL h1
      | [v], [w], h1 => exact h1.head
      | _ :: _ :: _, _ :: _ :: _, h1 => exact VR.tupL h1
      | [], _ :: _, h1 => simp [LR] at h1
      | _ :: _, [], h1 => simp [LR] at h1
      | [_], _ :: _ :: _, h1 => simp [LR] at h1
      | _ :: _ :: _, [_], h1 => simp [LR] at h1
  · cases h
theorem marks_ok {fn : Func} {tmps : Array Value} {R : Ending → World → Prop} : ∀ (ds : List Nat) (es : List Deferred) (φ : Phi) (H : SW) (W : World) (H' : SW), DR φ ds es → WR P w0 φ H W → marksS ds H = some H' →
    (∀ W', Ext φ H φ H' → WR P w0 φ H' W' → ∃ v, (results fn tmps).run P W' = .ok v W' ∧ R (.returned v) W') → LeavesInM (FW none) 0 P fn tmps R es .returning W
  | [], [], φ, H, W, H', _, hw, h, hR => by
    simp only [marksS, Option.some.injEq] at h
    subst h
    exact hR W (Ext.refl _ _) hw
  | [], _ :: _, _, _, _, _, hd, _, _, _ => hd.elim
  | _ :: _, [], _, _, _, _, hd, _, _, _ => hd.elim
  | d :: ds, e :: es, φ, H, W, H', ⟨⟨g, k, hg, he⟩, hd⟩, hw, h, hR => by
    unfold marksS at h
    split at h
    · rename_i hget
      have hblk := hw.blk d g k _ hg hget
      obtain ⟨k1, k2⟩ := hw.kill hg
      refine ⟨by simp, .inl ⟨g, W.putObj g (.deferred none), by rw [he], run_takeDeferred hblk, ?_⟩⟩
      have hw' : WR P w0 φ (H.put d none) (W.putObj g (.deferred none)) := by
        refine k1.other (.of ⟨hw.ov.below.os, hw.ov.below.tape, hw.ov.below.output, by simp [World.putObj]; exact hw.ov.below.size, fun j hj => ?_⟩) fun c g' k' s hc hs => ?_
        · have := hw.high d g k hg
          simp only [World.putObj]
          rw [Array.getElem?_setIfInBounds_ne (by omega)]
          exact hw.ov.below.block j hj
        · simp only [World.putObj]
          rw [SW.get_put] at hs
          split at hs
          · cases hs
          · rename_i hne
            rw [Array.getElem?_setIfInBounds_ne]
            rintro rfl
            exact hne (hw.inj c d g k' k s _ hc hg hs hget)
      exact marks_ok ds es φ _ _ H' hd hw' h fun W' h1 h2 => hR W' (k2.trans h1) h2
    · cases h

/-! ### Calls, rounds, code -/
def RR (φ : Phi) : Option Nat → Option Nat → Prop
  | none, none => True
  | some l, some g => ∃ k, φ l = some (g, k)
  | _, _ => False
theorem RR.mono {φ φ' : Phi} (hl : Le φ φ') : ∀ {a b : Option Nat}, RR φ a b → RR φ' a b
  | none, none, _ => trivial
  | some _l, some _g, ⟨k, h⟩ => ⟨k, hl _ _ h⟩
  | none, some _, h => h.elim
  | some _, none, h => h.elim
def CodeOK (P : Program) (w0 : World) (go : Go_) : Prop :=
  ∀ rd c a H x a' H', go rd c a H = some (x, a', H') → ∀ φ b W rd', RR φ rd rd' → AR φ a b → WR P w0 φ H W → ∀ Q : Exit → Act → World → Prop,
    (∀ φ' b' W', Ext φ H φ' H' → AR φ' a' b' → WR P w0 φ' H' W' → Q x b' W') → c.wpIn (FW rd') 0 P Q b W

theorem args_n : ∀ (vs : List Value) (a : SA) (i : Nat), (SA.args a i vs).n = a.n ∧ (SA.args a i vs).defers = a.defers
  | [], _, _ => ⟨rfl, rfl⟩
  | v :: vs, a, i => by
    simp only [SA.args]
    obtain ⟨h1, h2⟩ := args_n vs (a.put (some i) v) (i + 1)
    exact ⟨by rw [h1, SA.n_put], by rw [h2, SA.defers_put]⟩
theorem args_get : ∀ (vs : List Value) (a : SA) (i : Nat) (t : Nat), i + vs.length ≤ a.n → (SA.args a i vs).get t = if i ≤ t ∧ t < i + vs.length then vs.getD (t - i) undef else a.get t
  | [], a, i, t, _ => by simp only [SA.args, List.length_nil, Nat.add_zero]; rw [if_neg (by omega)]
  | v :: vs, a, i, t, h => by
    simp only [List.length_cons] at h ⊢
    simp only [SA.args]
    rw [args_get vs _ (i + 1) t (by rw [SA.n_put]; omega), SA.get_put _ _ _ _ (by omega)]
    by_cases e : t = i
    · subst e
      rw [if_neg (by omega), if_pos rfl, if_pos (by omega), Nat.sub_self]; rfl
    · rw [if_neg e]
      by_cases e2 : i + 1 ≤ t ∧ t < i + 1 + vs.length
      · rw [if_pos e2, if_pos (by omega), show t - i = (t - (i + 1)) + 1 by omega]; rfl
      · rw [if_neg e2, if_neg (by omega)]
theorem args_rel {vs : List Value} {ws : Array Value} (h : LR φ vs ws.toList) (n : Nat) :
    AR φ (SA.args { n := vs.length + (n - vs.length), tr := .lf, defers := [] } 0 vs) { tmps := ws ++ Array.replicate (n - ws.size) undef, defers := [] } := by
  have hlen : ws.size = vs.length := by simpa using h.1.symm
  obtain ⟨h1, h2⟩ := args_n vs { n := vs.length + (n - vs.length), tr := .lf, defers := [] } 0
  refine ⟨by rw [h1]; simp [hlen], fun t => ?_, by rw [h2]; exact trivial⟩
  rw [args_get _ _ _ _ (by simp)]
  simp only [Array.getD_eq_getD_getElem?, Array.getElem?_append, Array.getElem?_replicate]
  by_cases ht : t < vs.length
  · rw [if_pos (by omega), if_pos (by omega), Nat.sub_zero, List.getD_eq_getElem?_getD]
    have : (vs)[t]? = some vs[t] := by simp [ht]
    obtain ⟨y, hy, hr⟩ := h.get? this
    rw [Array.getElem?_toList] at hy
    rw [this, hy]; exact hr
  · rw [if_neg (by omega), if_neg (by omega)]
    have e : (if t - ws.size < n - ws.size then some undef else none : Option Value).getD undef = undef := by split <;> rfl
    rw [e]
    exact VR.undef φ
theorem putParams_rel : ∀ (ts : List Tmp) (vs ws : List Value) (a : SA) (b : Act), LR φ vs ws → AR φ a b → AR φ (putParams ts vs a) { tmps := (ts.zip ws).foldl (fun (x : Array Value) (p : Tmp × Value) => x.setIfInBounds p.1 p.2) b.tmps, defers := b.defers }
  | [], _, _, _, _, _, h => h
  | _ :: _, [], [], _, _, _, h => h
  | _ :: _, [], _ :: _, _, _, h, _ => by simp [LR] at h
  | _ :: _, _ :: _, [], _, _, h, _ => by simp [LR] at h
  | t :: ts, v :: vs, w :: ws, a, b, h, ha => by
    simp only [putParams, List.zip_cons_cons, List.foldl_cons]
    exact putParams_rel ts vs ws _ (b.put (some t) w) h.tail (ha.put h.head (some t))
theorem putParams_n : ∀ (ts : List Tmp) (vs : List Value) (a : SA), (putParams ts vs a).defers = a.defers
  | [], _, _ => rfl
  | _ :: _, [], _ => rfl
  | t :: ts, v :: vs, a => by simp only [putParams]; rw [putParams_n ts vs, SA.defers_put]

theorem call_ok {go : Go_} (hgo : CodeOK P w0 go) : COk P w0 (callB P go) := by
  intro fid args H v H' h
  unfold callB at h
  split at h
  · cases h
  rename_i fn hf
  split at h
  case isFalse => cases h
  rename_i hent
  split at h
  · cases h
  rename_i c hb
  have hent' : (fn.name == "runtime.NumGoroutine") = false := by simpa [entersB] using hent
  refine ⟨enters_of hf hent' hb, fun φ W args' hw hargs => callsIn_of_wp_marks hf hb trivial ?_⟩
  generalize hres : go none c (SA.args { n := args.length + (fn.ntmps - args.length), tr := .lf, defers := [] } 0 args) H = res at h
  have main : ∀ x a' H1, res = some (x, a', H1) → (x = .normal ∨ x = .ret) → (match marksS a'.defers H1 with
      | some H'' => (match resS P fn a' H'' with
        | some v => some (v, H'')
        | none => none)
      | none => none) = some (v, H') →
      c.wpIn (FW none) 0 P (bodyPostM (FW none) 0 P fn (Post P w0 φ H v H')) { tmps := args' ++ Array.replicate (fn.ntmps - args'.size) undef, defers := [] } W := by
    intro x a' H1 hr hx hm
    rw [hr] at hres
    split at hm
    case h_2 => cases hm
    rename_i H2 hmk
    split at hm
    case h_2 => cases hm
    rename_i v0 hrs
    injection hm with hm; obtain ⟨rfl, rfl⟩ := Prod.mk.inj hm
    refine hgo none c _ H x a' H1 hres φ _ W none trivial (args_rel hargs _) hw _ fun φ' b' W' h1 h2 h3 => ?_
    have : LeavesInM (FW none) 0 P fn b'.tmps (Post P w0 φ H v0 H2) b'.defers .returning W' := by
      refine marks_ok _ _ φ' H1 W' H2 h2.dfr h3 hmk fun W'' k1 k2 => ?_
      obtain ⟨v', e1, e2⟩ := resS_run h2 k2 hrs
      exact ⟨v', e1, v', φ', rfl, h1.trans k1, k2, e2⟩
    rcases hx with rfl | rfl <;> exact this
  unfold leaveB at h
  split at h
  · exact main _ _ _ rfl (.inl rfl) h
  · exact main _ _ _ rfl (.inr rfl) h
  · cases h

theorem putObj_ok (hw : WR P w0 φ H W) {l g k : Nat} (hl : φ l = some (g, k)) {s0 : SB} (h0 : H.get l = some s0) {o : Obj} {s : SB} (hs : ∀ W' : World, W'.heap[g]? = some o → SBR P φ W' g k s) :
    WR P w0 φ (H.put l (some s)) (W.putObj g o) ∧ Ext φ H φ (H.put l (some s)) := by
  have hlt := (hw.blk l g k s0 hl h0).lt
  refine hw.put hl h0 (.of ⟨hw.ov.below.os, hw.ov.below.tape, hw.ov.below.output, by simp; exact hw.ov.below.size, fun j hj => ?_⟩) (fun j hj => World.putObj_heap_other hj) (hs _ (World.putObj_heap_same hlt))
  rw [World.putObj_heap_other (by have := hw.high l g k hl; omega)]
  exact hw.ov.below.block j hj
theorem round_ok {go : Go_} (hgo : CodeOK P w0 go) : ROk P w0 (roundB go) := by
  intro l args H v H' h φ W args' g k hw hl hargs
  unfold roundB at h
  split at h
  case h_2 => cases h
  rename_i rc hget
  obtain ⟨l', e1, e2, e3, e4, e5, e6, e7, e8⟩ := hw.blk l g k _ hl hget
  split at h
  case isFalse => cases h
  rename_i hlen
  have hsz : args'.size = l'.params.size := by rw [e4, ← hlen]; simpa using hargs.1.symm
  refine ⟨_, _, _, _, run_yield e1 hsz, roundIn_of_wpIn (F := FW none) trivial ?_⟩
  rw [e5, e6]
  show rc.assign.wpIn (FW (some g)) 0 P _ _ W
  generalize hres : go (some l) rc.assign (putParams rc.params.toList args { rc.act with defers := [] }) H = res at h
  unfold roundBody at h
  split at h
  case h_2 => cases h
  rename_i a₁ H₁
  split at h
  case h_2 => cases h
  rename_i r₁ hg₁
  split at h
  case isFalse => cases h
  rename_i hready
  split at h
  case h_2 => cases h
  rename_i x a₂ H₂ hbody
  have hinit : AR φ (putParams rc.params.toList args { rc.act with defers := [] }) { tmps := (l'.params.zip args').foldl (fun tmps (t, a) => tmps.setIfInBounds t a) l'.tmps, defers := [] } := by
    have := putParams_rel rc.params.toList args args'.toList { rc.act with defers := [] } { tmps := l'.tmps, defers := [] } hargs ⟨e7, e8, trivial⟩
    rw [← Array.foldl_toList, Array.toList_zip, e4]
    exact this
  refine hgo (some l) rc.assign _ H .normal a₁ H₁ hres φ _ W (some g) ⟨k, hl⟩ hinit hw _ fun φ₁ b₁ W₁ x1 x2 x3 => ?_
  have hl₁ : φ₁ l = some (g, k) := hw.le x1 _ _ hl
  obtain ⟨l₁, f1, f2, f3, f4, f5, f6, f7, f8⟩ := x3.blk l g k _ hl₁ hg₁
  refine ⟨_, run_beginRound f1 (by rw [f2]; exact hready), ?_⟩
  show rc.body.wpIn (FW (some g)) 0 P _ _ _
  obtain ⟨y1, y2⟩ := putObj_ok x3 hl₁ hg₁ (o := .loop { l₁ with state := .busy }) (s := .loop { r₁ with state := .busy }) fun W' hW' => ⟨_, hW', rfl, f3, f4, f5, f6, f7, f8⟩
  refine hgo (some l) rc.body a₁ _ x a₂ H₂ hbody φ₁ b₁ _ (some g) ⟨k, hl₁⟩ x2 y1 _ fun φ₂ b₂ W₂ z1 z2 z3 => ?_
  have hl₂ : φ₂ l = some (g, k) := y1.le z1 _ _ hl₁
  unfold endRoundB at h
  split at h
  case h_2 => cases h
  rename_i r₂ hg₂
  obtain ⟨l₂, g1, g2, g3, g4, g5, g6, g7, g8⟩ := z3.blk l g k _ hl₂ hg₂
  have fin : ∀ (jump : Option Code), some (v, H') = some (.bool jump.isNone, H₂.put l (some (.loop { r₂ with state := if jump.isNone then .ready else .done, pending := jump }))) →
      ∃ v' w', (Instr.endRound g jump).run P W₂ = .ok v' w' ∧ Post P w0 φ H v H' (.returned v') w' := by
    intro jump hv
    injection hv with hv; obtain ⟨rfl, rfl⟩ := Prod.mk.inj hv
    obtain ⟨k1, k2⟩ := putObj_ok z3 hl₂ hg₂ (o := .loop { l₂ with state := if jump.isNone then .ready else .done, pending := jump }) (s := .loop { r₂ with state := if jump.isNone then .ready else .done, pending := jump }) fun W' hW' => ⟨_, hW', rfl, rfl, g4, g5, g6, g7, g8⟩
    exact ⟨_, _, run_endRound jump g1, _, φ₂, rfl, ((x1.trans y2).trans z1).trans k2, k1, .sc rfl⟩
  cases x <;> simp only [reduceCtorEq] at h
  case normal => exact fin none h.symm
  case ret => exact fin (some .ret) h.symm
  case exit id => exact fin (some (.exit id)) h.symm

theorem range_ok {go : Go_} (hgo : CodeOK P w0 go) {rd : Option Nat} {gx : Operand} {params : Array Tmp} {assign body : Code} {a a' : SA} {H H' : SW} {x : Exit} (hx : okX gx = true) (h : rangeS P go rd params assign body a H (a.eval gx) = some (x, a', H')) {φ : Phi} {b : Act} {W : World} {rd' : Option Nat}
    (hrr : RR φ rd rd') (ha : AR φ a b) (hw : WR P w0 φ H W) {Q : Exit → Act → World → Prop} (hQ : ∀ φ' b' W', Ext φ H φ' H' → AR φ' a' b' → WR P w0 φ' H' W' → Q x b' W') :
    (Code.rangeFunc gx params assign body).wpIn (FW rd') 0 P Q b W := by
  have hg := eval_rel ha hx
  unfold rangeS at h
  split at h
  case h_2 => cases h
  rename_i fid first captured hv
  rw [hv] at hg
  generalize hgx : b.eval gx = gv at hg
  cases hg with
  | sc h' => simp [Ev.sc] at h'
  | fn hp h0 hs hh =>
    rename_i qs ys
    have hcap := LR.ofArr hs hh
    have hpre := LR.ofArr hp h0
    -- the jump behind the loop
    have jump : ∀ (l : Nat) (b1 : Act) (a1 : SA) (φ1 : Phi) (H1 : SW) (W1 : World) (g k : Nat) (r1 : SLoop), Ext φ H φ1 H1 → AR φ1 a1 b1 → WR P w0 φ1 H1 W1 → φ1 l = some (g, k) → H1.get l = some (.loop r1) → r1.state ≠ .busy →
        jumpS a1 (H1.put l (some (.loop { r1 with state := .exhausted }))) r1.pending = some (x, a', H') → ∃ jump w₄, (Instr.endLoop g).run P W1 = .ok jump w₄ ∧
          (match jump with
           | none => Q .normal b1 w₄
           | some c => c.wpIn (FW rd') 0 P Q b1 w₄) := by
      intro l b1 a1 φ1 H1 W1 g k r1 hext har hwr hl hget hst hj
      obtain ⟨l', e1, e2, e3, e4, e5, e6, e7, e8⟩ := hwr.blk l g k _ hl hget
      obtain ⟨s1, pd, ac1, pa1, as1, bo1⟩ := r1
      obtain ⟨s2, pd2, fn2, tm2, pa2, as2, bo2, df2⟩ := l'
      simp only at e2 e3 e4 e5 e6 e7 e8 hst hj
      subst e2 e3 e4 e5 e6
      obtain ⟨k1, k2⟩ := putObj_ok hwr hl hget (o := .loop ⟨.exhausted, pd2, fn2, tm2, pa2, as2, bo2, df2⟩) (s := .loop ⟨.exhausted, pd2, ac1, pa2, as2, bo2⟩) fun W' hW' => ⟨_, hW', rfl, rfl, rfl, rfl, rfl, e7, e8⟩
      refine ⟨_, _, run_endLoop e1 hst, ?_⟩
      cases pd2 with
      | none =>
        simp only [jumpS, Option.some.injEq, Prod.mk.injEq] at hj
        obtain ⟨rfl, rfl, rfl⟩ := hj
        exact hQ φ1 b1 _ (hext.trans k2) har k1
      | some c =>
        cases c <;> simp only [jumpS, reduceCtorEq, Option.some.injEq, Prod.mk.injEq] at hj
        case ret =>
          obtain ⟨rfl, rfl, rfl⟩ := hj
          exact wpIn_ret (hQ φ1 b1 _ (hext.trans k2) har k1)
        case exit id =>
          obtain ⟨rfl, rfl, rfl⟩ := hj
          exact wpIn_exit (hQ φ1 b1 _ (hext.trans k2) har k1)
    have hres : ∀ (l : Nat) (w : World), (resolve b.eval (rangeCall gx l) 0).run P w = .ok { target := .fn (.func fid) ys, args := qs ++ #[.func (.yield l) #[] #[]] } w := fun l w => by
      simp [resolve, hgx, Deferred.ofValue]
      rfl
    have hinv : ∀ (l : Nat) (w : World), Enters P fid → (invoke (.fn (.func fid) ys) (qs ++ #[.func (.yield l) #[] #[]])).run P w = .ok (.enter fid ((qs ++ #[.func (.yield l) #[] #[]]) ++ ys)) w := fun l w he => he _ w
    split at h
    · -- outermost
      cases rd' with
      | some _ => exact hrr.elim
      | none =>
        unfold endRangeS at h
        split at h
        case h_2 => cases h
        rename_i v1 H1 hcall
        split at h
        case h_2 => cases h
        rename_i r1 hget
        split at h
        · cases h
        rename_i hst
        obtain ⟨hent, hcalls⟩ := call_ok hgo _ _ _ _ _ hcall
        refine wpIn_rangeFunc fun fn _ => ?_
        obtain ⟨p1, p2⟩ := hw.push (s := .dfr) (g := W.heap.size) (k := 0) (W' := W.alloc (.deferred (some []))) (hw.ov.alloc _) (fun j hj => heap_alloc_old W _ hj) (Nat.le_refl _) (heap_alloc_new W _)
        obtain ⟨q1, q2⟩ := p1.push (s := .loop { state := .ready, pending := none, act := a, params, assign, body }) (g := W.heap.size + 1) (k := 0)
          (W' := (W.alloc (.deferred (some []))).alloc (.loop { state := .ready, pending := none, fn := fn, tmps := b.tmps, params, assign, body, defers := W.heap.size })) (p1.ov.alloc _) (fun j hj => heap_alloc_old _ _ hj) (by simp)
          ⟨_, by have := heap_alloc_new (W.alloc (.deferred (some []))) (.loop { state := .ready, pending := none, fn := fn, tmps := b.tmps, params, assign, body, defers := W.heap.size }); simpa using this, rfl, rfl, rfl, rfl, rfl, ha.n, fun t => ((ha.get t).mono (hw.le p2)).mono (Le.upd p1 _)⟩
        have hl : (upd (upd φ H.n (W.heap.size, 0)) (H.push .dfr).n (W.heap.size + 1, 0)) (H.n + 1) = some (W.heap.size + 1, 0) := upd_self _ _
        have hd : (upd (upd φ H.n (W.heap.size, 0)) (H.push .dfr).n (W.heap.size + 1, 0)) H.n = some (W.heap.size, 0) := Le.upd p1 _ _ _ (upd_self _ _)
        refine ⟨_, _, _, _, _, fid, _, _, run_enterLoop_outer fn b.tmps params assign body, hres _ _, fun _ _ => trivial, hinv _ _ hent, fun h => by simp [Fence.wide] at h, ?_⟩
        have := hcalls _ _ ((qs ++ #[.func (.yield (W.heap.size + 1)) #[] #[]]) ++ ys) q1 (by
          rw [Array.toList_append, Array.toList_append, List.append_assoc]
          exact (hpre.mono (hw.le (p2.trans q2))).append (LR.cons (.yld hl) (hcap.mono (hw.le (p2.trans q2)))))
        refine CallsIn.mono this ?_
        rintro e W3 ⟨v', φ', rfl, x1, x2, x3⟩
        have hle := q1.le x1
        exact jump (H.n + 1) _ { a with defers := H.n :: a.defers } φ' H1 W3 _ 0 r1 ((p2.trans q2).trans x1)
          ⟨ha.n, fun t => (ha.get t).mono (hw.le ((p2.trans q2).trans x1)), ⟨⟨_, 0, hle _ _ hd, rfl⟩, ha.dfr.mono (hw.le ((p2.trans q2).trans x1))⟩⟩ x2 (hle _ _ hl) hget hst h
    · -- within a round
      rename_i l0
      cases rd' with
      | none => exact hrr.elim
      | some g0 =>
        obtain ⟨k0, hl0⟩ := hrr
        split at h
        case h_2 => cases h
        rename_i r0 hget0
        obtain ⟨l0', o1, _⟩ := hw.blk l0 g0 k0 _ hl0 hget0
        unfold endRangeS at h
        split at h
        case h_2 => cases h
        rename_i v1 H1 hcall
        split at h
        case h_2 => cases h
        rename_i r1 hget
        split at h
        · cases h
        rename_i hst
        obtain ⟨hent, hcalls⟩ := call_ok hgo _ _ _ _ _ hcall
        refine wpIn_rangeFunc fun fn _ => ?_
        obtain ⟨q1, q2⟩ := hw.push (s := .loop { state := .ready, pending := none, act := a, params, assign, body }) (g := W.heap.size) (k := 0)
          (W' := W.alloc (.loop { state := .ready, pending := none, fn := fn, tmps := b.tmps, params, assign, body, defers := l0'.defers })) (hw.ov.alloc _) (fun j hj => heap_alloc_old _ _ hj) (Nat.le_refl _)
          ⟨_, heap_alloc_new W _, rfl, rfl, rfl, rfl, rfl, ha.n, fun t => (ha.get t).mono (Le.upd hw _)⟩
        have hl : (upd φ H.n (W.heap.size, 0)) H.n = some (W.heap.size, 0) := upd_self _ _
        refine ⟨_, _, _, _, _, fid, _, _, run_enterLoop_inner o1 fn b.tmps params assign body, hres _ _, fun _ _ => trivial, hinv _ _ hent, fun h => by simp [Fence.wide] at h, ?_⟩
        have := hcalls _ _ ((qs ++ #[.func (.yield W.heap.size) #[] #[]]) ++ ys) q1 (by
          rw [Array.toList_append, Array.toList_append, List.append_assoc]
          exact (hpre.mono (hw.le q2)).append (LR.cons (.yld hl) (hcap.mono (hw.le q2))))
        refine CallsIn.mono (F := FW (some g0)) this ?_
        rintro e W3 ⟨v', φ', rfl, x1, x2, x3⟩
        have hle := q1.le x1
        exact jump H.n _ a φ' H1 W3 _ 0 r1 (q2.trans x1) ⟨ha.n, fun t => (ha.get t).mono (hw.le (q2.trans x1)), ha.dfr.mono (hw.le (q2.trans x1))⟩ x2 (hle _ _ hl) hget hst h

/-- A loop, so many rounds at most. -/
def LoopOK (P : Program) (w0 : World) (f : Nat) : Prop :=
  ∀ rd c a H x a' H', codeS P f rd (.loop c) a H = some (x, a', H') → ∀ φ b W rd', RR φ rd rd' → AR φ a b → WR P w0 φ H W → ∀ Q : Exit → Act → World → Prop,
    (∀ φ' b' W', Ext φ H φ' H' → AR φ' a' b' → WR P w0 φ' H' W' → Q x b' W') → Code.roundsIn (FW rd') 0 P c Q f b W
theorem code_ok (hm : P.follows .mixedOrders = true) : ∀ (f : Nat), CodeOK P w0 (codeS P f) ∧ LoopOK P w0 f
  | 0 => ⟨fun rd c a H x a' H' h => (by cases h), fun rd c a H x a' H' h => (by cases h)⟩
  | f + 1 => by
    obtain ⟨ihc, ihl⟩ := code_ok hm f
    have hC := call_ok ihc
    have hR := round_ok ihc
    have loop : LoopOK P w0 (f + 1) := by
      intro rd c a H x a' H' h φ b W rd' hrr ha hw Q hQ
      rw [roundsIn_succ]
      simp only [codeS] at h
      generalize hres : codeS P f rd c a H = res at h
      unfold contS at h
      split at h
      · rename_i a1 H1
        refine ihc rd c a H _ _ _ hres φ b W rd' hrr ha hw _ fun φ1 b1 W1 x1 x2 x3 => ?_
        exact ihl rd c a1 H1 x a' H' h φ1 b1 W1 rd' (hrr.mono (hw.le x1)) x2 x3 Q fun φ2 b2 W2 y1 y2 y3 => hQ φ2 b2 W2 (x1.trans y1) y2 y3
      · rename_i hne
        rw [h] at hres
        refine ihc rd c a H _ _ _ hres φ b W rd' hrr ha hw _ fun φ1 b1 W1 x1 x2 x3 => ?_
        have hx : x ≠ .normal := fun e => hne a' H' (by rw [h, e])
        have := hQ φ1 b1 W1 x1 x2 x3
        cases x <;> first | exact this | exact absurd rfl hx
    refine ⟨?_, loop⟩
    intro rd c a H x a' H' h φ b W rd' hrr ha hw Q hQ
    cases c <;> simp only [codeS] at h
    case skip => simp only [Option.some.injEq, Prod.mk.injEq] at h; obtain ⟨rfl, rfl, rfl⟩ := h; exact wpIn_skip (hQ φ b W (Ext.refl _ _) ha hw)
    case ret => simp only [Option.some.injEq, Prod.mk.injEq] at h; obtain ⟨rfl, rfl, rfl⟩ := h; exact wpIn_ret (hQ φ b W (Ext.refl _ _) ha hw)
    case exit id => simp only [Option.some.injEq, Prod.mk.injEq] at h; obtain ⟨rfl, rfl, rfl⟩ := h; exact wpIn_exit (hQ φ b W (Ext.refl _ _) ha hw)
    case seq x1 y1 =>
      refine wpIn_seq ?_
      generalize hres : codeS P f rd x1 a H = res at h
      unfold contS at h
      split at h
      · rename_i a1 H1
        refine ihc rd x1 a H _ _ _ hres φ b W rd' hrr ha hw _ fun φ1 b1 W1 x1 x2 x3 => ?_
        exact ihc rd y1 a1 H1 x a' H' h φ1 b1 W1 rd' (hrr.mono (hw.le x1)) x2 x3 Q fun φ2 b2 W2 y1 y2 y3 => hQ φ2 b2 W2 (x1.trans y1) y2 y3
      · rename_i hne
        rw [h] at hres
        refine ihc rd x1 a H _ _ _ hres φ b W rd' hrr ha hw _ fun φ1 b1 W1 x1 x2 x3 => ?_
        have hx : x ≠ .normal := fun e => hne a' H' (by rw [h, e])
        have := hQ φ1 b1 W1 x1 x2 x3
        cases x <;> first | exact this | exact absurd rfl hx
    case cond cx t e =>
      split at h
      case isFalse => cases h
      rename_i hx
      unfold condS at h
      split at h
      · rename_i bb hb
        have hv := eval_rel ha hx
        rw [hb] at hv
        exact wpIn_cond (hv.of_sc rfl) (ihc rd _ a H _ _ _ h φ b W rd' hrr ha hw Q hQ)
      · cases h
    case block id body =>
      refine wpIn_block ?_
      generalize hres : codeS P f rd body a H = res at h
      unfold blockS at h
      split at h
      · rename_i id' a1 H1
        refine ihc rd body a H _ _ _ hres φ b W rd' hrr ha hw _ fun φ1 b1 W1 x1 x2 x3 => ?_
        split at h
        · rename_i e
          simp only [Option.some.injEq, Prod.mk.injEq] at h; obtain ⟨rfl, rfl, rfl⟩ := h
          simp only [Exit.inBlock, e, if_true]
          exact hQ φ1 b1 W1 x1 x2 x3
        · rename_i e
          simp only [Option.some.injEq, Prod.mk.injEq] at h; obtain ⟨rfl, rfl, rfl⟩ := h
          simp only [Exit.inBlock, e, if_false]
          exact hQ φ1 b1 W1 x1 x2 x3
      · rename_i hne
        rw [h] at hres
        refine ihc rd body a H _ _ _ hres φ b W rd' hrr ha hw _ fun φ1 b1 W1 x1 x2 x3 => ?_
        have := hQ φ1 b1 W1 x1 x2 x3
        cases x <;> first | exact this | exact absurd h (hne _ a' H')
    case loop body => exact wpIn_loop_rounds (f + 1) (loop rd body a H x a' H' (by simp only [codeS]; exact h) φ b W rd' hrr ha hw Q hQ)
    case region id ops d =>
      unfold regionS at h
      split at h
      case h_2 => cases h
      rename_i a1 H1 hres
      simp only [Option.some.injEq, Prod.mk.injEq] at h
      obtain ⟨rfl, rfl, rfl⟩ := h
      cases d with
      | true => exact draw_ok hm hC hR ha hw (by simpa using hres) hQ
      | false =>
        refine wpIn_region ?_
        rw [List.range_eq_range', show ops.size = ops.toList.length by simp]
        exact seq_ok hC hR ops.toList 0 φ a H b W _ _ (by simp) ha hw (by simpa using hres) hQ
    case rangeFunc g params assign body =>
      split at h
      case isFalse => cases h
      rename_i hx
      exact range_ok ihc hx h hrr ha hw hQ
    all_goals cases h

/-- **A closed call.** -/
theorem closed_ok (hm : P.follows .mixedOrders = true) {fuel f : Nat} {v : Value} (h : closedS P fuel f = some v) (hv : grd 3 v = true) (w : World) : Calls P f #[] w fun e w' => e = .returned v ∧ Ov w w' := by
  unfold closedS at h
  cases hc : callB P (codeS P fuel) f [] ⟨0, .lf⟩ with
  | none => rw [hc] at h; cases h
  | some r =>
    obtain ⟨u, H'⟩ := r
    rw [hc] at h
    simp only [Option.map_some, Option.some.injEq] at h
    subst h
    obtain ⟨_, hcalls⟩ := call_ok (w0 := w) (code_ok hm fuel).1 _ _ _ _ _ hc
    have := hcalls (fun _ => none) w #[] ⟨Ov.refl w, fun b p h => (by cases h), fun b g k s h => (by cases h), fun b g k h => (by cases h), fun b b' g k k' s s' h => (by cases h)⟩ (LR.nil _)
    refine (callsIn_wide.1 this).mono ?_
    rintro e w' ⟨v', φ', rfl, _, h2, h3⟩
    rw [grd_same 3 _ _ hv h3]
    exact ⟨rfl, h2.ov⟩
end
end Go.Proofs.Ytkliejppigfjiaa.Ev
