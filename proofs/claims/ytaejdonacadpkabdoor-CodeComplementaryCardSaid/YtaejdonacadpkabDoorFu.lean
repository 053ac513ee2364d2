/-
  Aids for the proofs of functions: rules in a handy form.
  Conditions: none.
-/
import Derived.Test.YtaejdonacadpkabDoorFk
namespace Go.Proofs.YtaejdonacadpkabDoor.Fx
open Go.RowKit

theorem fn_i {P : Program} {T : Tbl} (hm : P.follows .mixedOrders = true) (hT : ∀ t i, tget T t = some i → tiOf P t = some i) {fid : Nat} {args : List V} {v : V} {news : List SB} (fn : Func) {nm og : String} {ta ps rt : Array TypeId} {nf nt : Nat} {rs : Array ResultVar} {c : Code} {nr ou : Bool} {fl : String} {el : Nat} {ln : Option Nat} {mt : List Departure} {tn : Array String}
    (hf : P.funcs[fid]? = some fn) (he : fn = ⟨nm, og, ta, ps, rt, nf, nt, rs, some c, nr, ou, fl, el, ln, mt, tn⟩) (hB : fnB P fid args.length = true)
    (h : codeW P T c (argFr 0 args) ⟨0, []⟩ (leaveW T rs.toList v news)) : FnOK P fid args v news := by
  subst he
  exact fn_ok hm hT hf rfl hB h
theorem ob_k {p K : Prop} (h : p) (k : K) : ob p K := ⟨h, k⟩
theorem ret0 {H : SW} {v0 v : V} (h : vm { H := H, H' := ⟨0, []⟩, σ := [] } v0 v) : RetS H v0 v [] := ⟨⟨[], rfl, h, trivial⟩⟩
theorem wrap_in {k : IntKind} {n : Int} (h : k.min ≤ n ∧ n ≤ k.max) : k.wrap n = n := by
  obtain ⟨h1, h2⟩ := h
  cases k <;> simp [IntKind.wrap, IntKind.min, IntKind.max, IntKind.bits, IntKind.signed] at * <;> omega
theorem arith_in {k : IntKind} {n : Int} {K : V → Prop} (h : k.min ≤ n ∧ n ≤ k.max) (hk : K (.sc (.int k n))) : arith k n K := by
  refine ⟨?_⟩
  rw [wrap_in h]; exact hk
theorem arith_64 {n : Int} {K : V → Prop} (h : -9223372036854775808 ≤ n ∧ n ≤ 9223372036854775807) (hk : K (.sc (.int .i64 n))) : arith .i64 n K := arith_in (by simpa [IntKind.min, IntKind.max, IntKind.bits, IntKind.signed] using h) hk
theorem arith_l {n : Int} (m : Int) {K : V → Prop} (e : n = m) (h : -9223372036854775808 ≤ m ∧ m ≤ 9223372036854775807) (hk : K (.sc (.int .i64 m))) : arith .i64 n K := by subst e; exact arith_64 h hk
theorem arith_w {k : IntKind} {n : Int} {K : V → Prop} (hk : K (.sc (.int k (k.wrap n)))) : arith k n K := ⟨hk⟩
theorem elemK_of {v w : V} {K : List V → Prop} (h : v = w) (k : elemK w K) : elemK v K := by rw [h]; exact k
theorem branch_nt {K : Bool → Prop} (h : K false) : branch (!true) K := ⟨h⟩
theorem branch_nf {K : Bool → Prop} (h : K true) : branch (!false) K := ⟨h⟩
theorem branch_ndec {p : Prop} [Decidable p] {K : Bool → Prop} (h : ¬p → K true) (h' : p → K false) : branch (!decide p) K := by
  by_cases hp : p
  · rw [decide_eq_true hp]; exact ⟨h' hp⟩
  · rw [decide_eq_false hp]; exact ⟨h hp⟩
@[simp] theorem toN_nat (k : Nat) : toN (k : Int) = k := by rw [toN_eq]; simp

/-! ### What holds no address of one's own; what holds none at all -/
class IsPure (v : V) : Prop where
  h : Pure v
class IsPureL (l : List V) : Prop where
  h : PureL l
instance {a : Value} : IsPure (.sc a) := ⟨pure_sc⟩
instance : IsPureL [] := ⟨pureL_nil⟩
instance {v : V} {l : List V} [a : IsPure v] [b : IsPureL l] : IsPureL (v :: l) := ⟨pureL_cons a.h b.h⟩
instance {l : List V} [a : IsPureL l] : IsPure (.agg l) := ⟨pure_agg a.h⟩
instance {l : List V} [a : IsPureL l] : IsPure (.tup l) := ⟨pure_tup a.h⟩
instance {f : Nat} {l : List V} [a : IsPureL l] : IsPure (.fn f l) := ⟨pure_fn a.h⟩
instance {f : Nat} {l : List V} [a : IsPureL l] : IsPure (.mv f l) := ⟨pure_mv a.h⟩
instance {l : List V} {o : Nat} [a : IsPureL l] : IsPure (.pv l o) := ⟨pure_pv a.h⟩
instance {sz n : Nat} {e : Nat → V} [a : ∀ i, IsPure (e i)] : IsPure (.sl sz n e) := ⟨pure_sl fun i _ => (a i).h⟩
class IsPlain (v : V) : Prop where
  h : Plain v
class IsPlainL (l : List V) : Prop where
  h : PlainL l
instance {a : Value} : IsPlain (.sc a) := ⟨plain_sc⟩
instance : IsPlainL [] := ⟨plainL_nil⟩
instance {v : V} {l : List V} [a : IsPlain v] [b : IsPlainL l] : IsPlainL (v :: l) := ⟨plainL_cons a.h b.h⟩
instance {l : List V} [a : IsPlainL l] : IsPlain (.agg l) := ⟨plain_agg a.h⟩
instance {l : List V} [a : IsPlainL l] : IsPlain (.tup l) := ⟨plain_tup a.h⟩
theorem vmL_pure {S : Vw} : ∀ {l : List V}, PureL l → vmL S l l
  | [], _ => .nil
  | v :: l, h => .cons (vm_pure (h v (by simp))) (vmL_pure fun w hw => h w (by simp [hw]))
theorem vm_p {S : Vw} {v : V} [a : IsPure v] : vm S v v := vm_pure a.h
theorem vmL_p {S : Vw} {l : List V} [a : IsPureL l] : vmL S l l := vmL_pure a.h
theorem pureS_no (q : Prop) : ∀ s ∈ ([] : List SB), PureS q s := fun s hs => by cases hs
/-- A call with arguments that hold nothing of one's own. -/
theorem call_u {P : Program} {fid : Nat} {args : List V} {v : V} {H : SW} {K : V → SW → Tag → Prop} (hf : FnOK P fid args v []) [a : IsPureL args] [b : IsPure v] (hk : K v H .no) : callW P fid args H K :=
  call_i hf (vmL_pure a.h) (pureS_no _) (rv_pure b.h) hk
/-- A call with arguments of one's own, lent. -/
theorem call_l {P : Program} {fid : Nat} {args args0 : List V} {v : V} {H : SW} {K : V → SW → Tag → Prop} (hf : FnOK P fid args0 v []) [b : IsPlain v] (ha : vmL { H := H, H' := ⟨0, []⟩, σ := [], fz := True } args args0) (hk : K v H .no) : callW P fid args H K :=
  call_p hf ha (pureS_no _) (rv_plain b.h) hk
theorem kept_no {H : SW} {σ : Sig} {q : Prop} {b : Nat} : ¬ ({ H := H, H' := ⟨0, []⟩, σ := σ, fz := q } : Vw).kept b := fun ⟨_, _, h, _⟩ => by cases h
theorem not_kept {S : Vw} {b : Nat} (h : ((S.H'.l.map (·.1)).all fun c => !(sget S.σ c == some b)) = true) : ¬ S.kept b := fun ⟨b', s', h1, h2⟩ => by
  have := List.all_eq_true.1 h b' (List.mem_map.2 ⟨_, hget_mem h1, rfl⟩)
  rw [h2] at this
  simp at this
theorem appF_lt {n : Nat} {e e' : Nat → V} {i : Nat} (h : i < n) : appF n e e' i = e i := if_pos h
theorem appF_ge {n : Nat} {e e' : Nat → V} {i : Nat} (h : ¬ i < n) : appF n e e' i = e' (i - n) := if_neg h
theorem appF_at {n : Nat} {e e' : Nat → V} : appF n e e' n = e' 0 := by rw [appF_ge (Nat.lt_irrefl n), Nat.sub_self]
theorem setF_at {e : Nat → V} {i : Nat} {v : V} : setF e i v i = v := if_pos rfl
theorem setF_ne {e : Nat → V} {i j : Nat} {v : V} (h : j ≠ i) : setF e i v j = e j := if_neg h
/-- The elements of a row to which one more was appended. -/
theorem vm_snoc {S : Vw} {k i : Nat} {e e' : Nat → V} {v : V} (hi : i < k + 1) (h1 : ∀ i, i < k → vm S (e i) (e' i)) (h2 : vm S v (e' k)) : vm S (appF k e (litF [v]) i) (e' i) := by
  by_cases h : i < k
  · rw [appF_lt h]; exact h1 i h
  · obtain rfl : i = k := by omega
    rw [appF_at]; exact h2
/-- A slice of one's own stays from now on. -/
theorem vm_fr {H : SW} {σ : Sig} {b sz n n' N : Nat} {e e' : Nat → V} {t : TypeId} {H' : SW} (hg : hget H.l b = some (.row sz N e t)) (hk : ((H'.l.map (·.1)).all fun c => !(sget σ c == some b)) = true) (hn : n = n') (hle : n ≤ N) (h : ∀ i, i < n' → vm { H := H, H' := H', σ := σ } (e i) (e' i)) :
    vm { H := H, H' := H', σ := σ } (.own b sz 0 n) (.sl sz n' e') := vm_frz (S := { H := H, H' := H', σ := σ }) trivial hg (not_kept hk) hn (by omega) fun i hi => by rw [Nat.zero_add]; exact h i hi
/-- A slice of one's own, lent: the elements one by one. -/
theorem vm_lend {H : SW} {σ : Sig} {b sz o n n' N : Nat} {e e' : Nat → V} {t : TypeId} (hg : hget H.l b = some (.row sz N e t)) (hn : n = n') (hle : o + n ≤ N) (h : ∀ i, i < n' → vm { H := H, H' := ⟨0, []⟩, σ := σ, fz := True } (e (o + i)) (e' i)) :
    vm { H := H, H' := ⟨0, []⟩, σ := σ, fz := True } (.own b sz o n) (.sl sz n' e') := vm_frz trivial hg kept_no hn hle h
/-- A literal slice of numbers, lent. -/
@[reducible] def eInts (l : List Int) : V := .sl 1 l.length fun i => I (l.getD i 0)
instance {l : List Int} : IsPure (eInts l) := ⟨pure_sl fun _ _ => pure_sc⟩
theorem vmL_get {S : Vw} : ∀ {xs ys : List V}, vmL S xs ys → ∀ i, i < ys.length → vm S (litF xs i) (litF ys i)
  | _, _, .nil, i, h => by simp at h
  | _, _, .cons h t, 0, _ => h
  | _, _, .cons h t, i + 1, hi => by
    have := vmL_get t i (by simpa using hi)
    simpa [litF, lget] using this
theorem vmL_len {S : Vw} : ∀ {xs ys : List V}, vmL S xs ys → xs.length = ys.length
  | _, _, .nil => rfl
  | _, _, .cons _ t => by simp [vmL_len t]
theorem litF_map {α : Type} (f : α → V) (d : α) (l : List α) (i : Nat) (h : i < l.length) : litF (l.map f) i = f (l.getD i d) := by
  rw [litF_eq, List.getD_eq_getElem?_getD, List.getD_eq_getElem?_getD]
  simp [h]
theorem vm_lit {H : SW} {σ : Sig} {b sz n : Nat} {vs : List V} {t : TypeId} {α : Type} {f : α → V} {d : α} (l : List α) (hg : hget H.l b = some (.row sz n (litF vs) t)) (hn : n = l.length) (h : vmL { H := H, H' := ⟨0, []⟩, σ := σ, fz := True } vs (l.map f)) :
    vm { H := H, H' := ⟨0, []⟩, σ := σ, fz := True } (.own b sz 0 n) (.sl sz l.length fun i => f (l.getD i d)) := by
  refine vm_lend hg hn (by omega) fun i hi => ?_
  have := vmL_get h i (by simpa using hi)
  rw [litF_map f d l i hi] at this
  simpa using this
theorem vm_lits {S : Vw} {sz n : Nat} {vs : List V} {α : Type} {f : α → V} {d : α} (l : List α) (hn : n = l.length) (h : vmL S vs (l.map f)) : vm S (.sl sz n (litF vs)) (.sl sz l.length fun i => f (l.getD i d)) := by
  refine vm_sl hn fun i hi => ?_
  have := vmL_get h i (by simpa using hi)
  rw [litF_map f d l i hi] at this
  exact this
theorem FnOK.of_calls {P : Program} {fid : Nat} {b : Bool} (he : Enters P fid) (h : ∀ w, Calls P fid #[] w fun e w' => e = .returned (.bool b) ∧ Ov w w') : FnOK P fid [] (B b) [] := by
  refine ⟨he, fun m args' hφ hF hD hgl hl => ?_⟩
  obtain rfl : args' = #[] := by
    have := hl.1
    simp at this
    exact Array.eq_empty_of_size_eq_zero (by omega)
  refine (callsIn_wide.2 (h m.W)).mono ?_
  rintro e W' ⟨rfl, ho⟩
  have no : ∀ b p, m.φ b = some p → False := fun b p h => by rw [hφ] at h; cases h
  refine ⟨.bool b, { m with W := W' }, rfl, rfl, fun _ h => h, rfl, ⟨ho, fun b p h => (no b p h).elim, fun b s h => (by cases h), fun b g C s h _ => (no b _ h).elim, fun b g C s h _ => (no b _ h).elim, fun b b' g C C' s s' h _ _ _ => (no b _ h).elim, fun g h => Nat.lt_of_lt_of_le (hF g h) ho.size,
    fun g hg => (by have hg' : g ∈ m.D.d := hg; rw [hD] at hg'; cases hg'), (by show m.D.d.Nodup; rw [hD]; exact List.nodup_nil), fun g hg => .inl hg, hgl.mono (fun _ h => h) (fun g hg => ho.below.block g (hF g hg))⟩, .sc rfl⟩
end Go.Proofs.YtaejdonacadpkabDoor.Fx
