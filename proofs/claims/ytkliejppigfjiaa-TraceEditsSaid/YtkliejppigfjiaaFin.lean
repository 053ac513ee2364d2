/-
  What comes in: the data of a call's arguments, as values by content.
  Conditions: none.
-/
import Derived.ProofKit
import Derived.OpenShut
import Derived.ShutString
import Derived.ChangeOld
import Derived.Below
import Derived.Test.YtkliejppigfjiaaFu
namespace Go.Proofs.Ytkliejppigfjiaa.Fx
open Go.RowKit Go.ChangeShapes Go.WideShapes

/-- The world at the start: all of it stays. -/
@[reducible] def m0 (W : World) : Mem := ⟨fun g => g < W.heap.size, fun _ => none, W, ⟨[], fun _ => none⟩⟩
/-- Every reading at a type is the cells of some content. -/
def In (P : Program) (t : TypeId) {α : Type} (f : α → V) (Ok : α → Prop) : Prop :=
  ∀ (H : Type) (enc : TypeId × Value → H) (W : World) (fuel : Nat) (cs : List Value) (x : DataW H × List MemPlace), DataW.trod enc P W 0 (fun _ => true) true fuel t cs = some x →
    ∃ a, Ok a ∧ LR (m0 W) (f a).cells cs ∧ (∀ u ∈ cs, u.oneCell' = true) ∧ cs.length = P.cellsOf t
section
variable {P : Program}
theorem in_int {t : TypeId} (ht : P.underlying t = some (.int .i64)) (hc : P.cellsOf t = 1) : In P t I (fun n => -9223372036854775808 ≤ n ∧ n ≤ 9223372036854775807) := by
  intro H enc W fuel cs x h
  obtain ⟨n, rfl, rfl, hw⟩ := DataW.trod_int ht h
  exact ⟨n, bounds_i64 hw, LR.one (.sc rfl), by simp [Value.oneCell'], by simp [hc]⟩
theorem in_bool {t : TypeId} (ht : P.underlying t = some .bool) (hc : P.cellsOf t = 1) : In P t B (fun _ => True) := by
  intro H enc W fuel cs x h
  obtain ⟨n, rfl, rfl⟩ := DataW.trod_bool ht h
  exact ⟨n, trivial, LR.one (.sc rfl), by simp [Value.oneCell'], by simp [hc]⟩
theorem in_string {t : TypeId} (ht : P.underlying t = some .string) (hc : P.cellsOf t = 1) : In P t (fun s => V.sc (.string s)) (fun s => s.size ≤ 9223372036854775807) := by
  intro H enc W fuel cs x h
  obtain ⟨n, rfl, rfl, hl⟩ := DataW.trod_string ht h
  exact ⟨n, hl, LR.one (.sc rfl), by simp [Value.oneCell'], by simp [hc]⟩
/-- Fields, one behind the other. -/
def InL (P : Program) (ts : List TypeId) {α : Type} (f : α → List V) (Ok : α → Prop) : Prop :=
  ∀ (H : Type) (enc : TypeId × Value → H) (W : World) (fuel : Nat) (css : List (List Value)), css.length = ts.length → (∀ (i : Nat) (t : TypeId) (cs : List Value), ts[i]? = some t → css[i]? = some cs → ∃ x, DataW.trod enc P W 0 (fun _ => true) true fuel t cs = some x) →
    ∃ a, Ok a ∧ LR (m0 W) (f a) css.flatten ∧ (∀ u ∈ css.flatten, u.oneCell' = true)
theorem inL_nil : InL P [] (fun (_ : Unit) => []) (fun _ => True) := by
  intro H enc W fuel css hl _
  obtain rfl : css = [] := List.eq_nil_of_length_eq_zero hl
  exact ⟨(), trivial, LR.nil _, by simp⟩
theorem inL_cons {t : TypeId} {ts : List TypeId} {α β : Type} {f : α → V} {Ok : α → Prop} {g : β → List V} {Ok' : β → Prop} (h : In P t f Ok) (hs : InL P ts g Ok') : InL P (t :: ts) (fun (a : α × β) => (f a.1).cells ++ g a.2) (fun a => Ok a.1 ∧ Ok' a.2) := by
  intro H enc W fuel css hl hh
  match css, hl with
  | cs :: css, hl =>
    obtain ⟨x, hx⟩ := hh 0 t cs rfl rfl
    obtain ⟨a, h1, h2, h3, _⟩ := h H enc W fuel cs x hx
    obtain ⟨b, k1, k2, k3⟩ := hs H enc W fuel css (by simpa using hl) (fun i t cs h1 h2 => hh (i + 1) t cs (by simpa using h1) (by simpa using h2))
    refine ⟨(a, b), ⟨h1, k1⟩, by simpa using h2.append k2, fun u hu => ?_⟩
    simp only [List.flatten_cons, List.mem_append] at hu
    exact hu.elim (h3 u) (k3 u)
/-- The cut of a struct's cells by its fields. -/
def cuts (P : Program) : List TypeId → Nat → List Value → List (List Value)
  | [], _, _ => []
  | t :: ts, o, cs => (cs.drop o).take (P.cellsOf t) :: cuts P ts (o + P.cellsOf t) cs
def fitB (P : Program) : List Field → Nat → Nat → Bool
  | [], o, n => o == n
  | f :: fs, o, n => f.offset == o && fitB P fs (o + P.cellsOf f.type) n
theorem cuts_flatten : ∀ (fs : List Field) (o : Nat) (cs : List Value), fitB P fs o cs.length = true → (cuts P (fs.map (·.type)) o cs).flatten = cs.drop o
  | [], o, cs, h => by
    simp [fitB] at h
    subst h
    simp [cuts]
  | f :: fs, o, cs, h => by
    simp only [fitB, Bool.and_eq_true] at h
    simp only [List.map_cons, cuts, List.flatten_cons, cuts_flatten fs _ cs h.2]
    rw [← List.drop_drop, List.take_append_drop]
theorem cuts_get : ∀ (fs : List Field) (o n : Nat) (cs : List Value), fitB P fs o n = true → ∀ (i : Nat) (f : Field), fs[i]? = some f → (cuts P (fs.map (·.type)) o cs)[i]? = some ((cs.drop f.offset).take (P.cellsOf f.type))
  | [], _, _, _, _, _, _, h => by simp at h
  | f :: fs, o, n, cs, h, i, f', hi => by
    simp only [fitB, Bool.and_eq_true, beq_iff_eq] at h
    cases i with
    | zero => simp at hi; subst hi; simp [cuts, h.1]
    | succ i => simp at hi; simpa [cuts] using cuts_get fs _ n cs h.2 i f' hi
theorem cuts_length : ∀ (ts : List TypeId) (o : Nat) (cs : List Value), (cuts P ts o cs).length = ts.length
  | [], _, _ => rfl
  | t :: ts, o, cs => by simp [cuts, cuts_length ts]
theorem in_struct {t : TypeId} {fs : Array Field} {α β : Type} {g : α → List V} {Ok : α → Prop} {f : β → V} {Ok' : β → Prop} (ht : P.underlying t = some (.struct fs)) (hfit : fitB P fs.toList 0 (P.cellsOf t) = true)
    (h : InL P (fs.toList.map (·.type)) g Ok) (to : ∀ a, Ok a → ∃ b, Ok' b ∧ f b = .agg (g a)) : In P t f Ok' := by
  intro H enc W fuel cs x hx
  obtain ⟨xs, n, rfl, rfl, hl, hlen, hf⟩ := DataW.trod_struct ht hx
  obtain ⟨a, h1, h2, h3⟩ := h H enc W n (cuts P (fs.toList.map (·.type)) 0 cs) (by rw [cuts_length]) (by
    intro i t' cs' hi hc
    simp only [List.getElem?_map, Option.map_eq_some_iff] at hi
    obtain ⟨f0, hf0, rfl⟩ := hi
    rw [cuts_get _ 0 _ cs hfit i f0 hf0] at hc
    injection hc with hc
    subst hc
    have hi2 : i < xs.length := by
      have := (List.getElem?_eq_some_iff.1 hf0).1
      simp at this
      omega
    exact ⟨xs[i], by rw [hf i f0 (by simpa using hf0)]; simp [hi2]⟩)
  rw [cuts_flatten _ 0 cs (by rw [hl]; exact hfit), List.drop_zero] at h2 h3
  obtain ⟨b, hb, e⟩ := to a h1
  exact ⟨b, hb, by rw [e]; exact h2, h3, hl⟩
theorem ofCells {m : Mem} {v : V} {cs : List Value} (hv : ∀ vs, v ≠ .tup vs) (h : LR m v.cells cs) (h1 : ∀ u ∈ cs, u.oneCell' = true) : ∃ u, VR m v u ∧ u.cells.toList = cs ∧ ∀ w ∈ u.cells.toList, w.oneCell' = true := by
  by_cases ha : ∃ vs, v = .agg vs
  · obtain ⟨vs, rfl⟩ := ha
    exact ⟨.agg cs.toArray, VR.aggL (by simpa [V.cells] using h), by simp [Value.cells], by simpa [Value.cells] using h1⟩
  · have e : v.cells = [v] := by
      cases v with
      | agg vs => exact (ha ⟨vs, rfl⟩).elim
      | tup vs => exact (hv vs rfl).elim
      | _ => rfl
    rw [e] at h
    have hl := h.1
    match cs, hl with
    | [u], _ =>
      have hu := h1 u (by simp)
      have ec : u.cells.toList = [u] := by
        cases u <;> first | rfl | (simp [Value.oneCell'] at hu; done)
      exact ⟨u, h.head, ec, by rw [ec]; exact h1⟩
theorem in_slice {t e : TypeId} {α : Type} {f : α → V} {Ok : α → Prop} (d : α) {sz : Nat} (ht : P.underlying t = some (.slice e)) (hc : P.cellsOf t = 1) (hsz : P.cellsOf e = sz) (h0 : 0 < sz) (hv : ∀ a vs, f a ≠ .tup vs) (h : In P e f Ok) :
    In P t (fun l : List α => .sl sz l.length fun i => f (l.getD i d)) (fun l => l.length ≤ 9223372036854775807 ∧ ∀ a ∈ l, Ok a) := by
  intro H enc W fuel cs x hx
  rcases DataW.trod_slice ht hx with ⟨rfl, rfl⟩ | ⟨A, len, cap, elems, rest, n, rfl, rfl, rfl, _, hlc, hcm, hle, hel, _, _⟩
  · exact ⟨[], ⟨Nat.zero_le _, by simp⟩, LR.one .sl0, by simp [Value.oneCell'], by simp [hc]⟩
  · have hm : cap ≤ 9223372036854775807 := hcm
    have each : ∀ i, i < len → ∃ (a : α) (u : Value), Ok a ∧ VR (m0 W) (f a) u ∧ u.cells.size = sz ∧ W.cells? 0 (A.add (i * sz)) sz = some u.cells.toList ∧ ∀ w ∈ u.cells.toList, w.oneCell' = true := by
      intro i hi
      have := hel i hi
      rw [hsz, List.getElem?_eq_getElem (by omega : i < elems.length)] at this
      obtain ⟨cs', h1, h2⟩ := Option.bind_eq_some_iff.1 this
      obtain ⟨a, k1, k2, k3, k4⟩ := h H enc W n cs' _ h2
      obtain ⟨u, u1, u2, u3⟩ := ofCells (hv a) k2 k3
      exact ⟨a, u, k1, u1, by rw [← Array.length_toList, u2, k4, hsz], by rw [u2]; exact h1, u3⟩
    rcases Nat.eq_zero_or_pos len with rfl | hp
    · exact ⟨[], ⟨Nat.zero_le _, by simp⟩, LR.one .sl0, by simp [Value.oneCell'], by simp [hc]⟩
    · have : Nonempty α := ⟨d⟩
      let a : Nat → α := fun i => if hi : i < len then Classical.choose (each i hi) else d
      let u : Nat → Value := fun i => if hi : i < len then Classical.choose (Classical.choose_spec (each i hi)) else default
      have hau : ∀ i, i < len → Ok (a i) ∧ VR (m0 W) (f (a i)) (u i) ∧ (u i).cells.size = sz ∧ W.cells? 0 (A.add (i * sz)) sz = some (u i).cells.toList ∧ ∀ w ∈ (u i).cells.toList, w.oneCell' = true := by
        intro i hi
        simp only [a, u, hi, dif_pos]
        exact Classical.choose_spec (Classical.choose_spec (each i hi))
      have cell : ∀ i, i < len → ∀ (j : Nat) (w : Value), (u i).cells[j]? = some w → W.cell? ((A.add (i * sz)).add j) = some w ∧ w.oneCell' = true := by
        intro i hi j w hj
        obtain ⟨_, _, k3, k4, k5⟩ := hau i hi
        have hj' : (u i).cells.toList[j]? = some w := by simpa using hj
        refine ⟨?_, k5 w (List.mem_of_getElem? hj')⟩
        unfold World.cells? at k4
        rw [if_pos (Nat.zero_le _)] at k4
        have hjl : j < sz := by rw [← k3]; exact (Array.getElem?_eq_some_iff.1 hj).1
        rw [mapM_some_get k4 j j (by simp [hjl]), hj']
      obtain ⟨g, o, sp⟩ := A
      have h00 : ∃ w, (u 0).cells[0]? = some w := ⟨(u 0).cells[0]'(by rw [(hau 0 hp).2.2.1]; exact h0), by simp⟩
      obtain ⟨w, hw⟩ := h00
      have hc0 := (cell 0 hp 0 w hw).1
      have hsp : sp = none := by simpa [Addr.add] using World.cell?_spot hc0
      subst hsp
      have hF : g < W.heap.size := by
        have := (hau 0 hp).2.2.2.1
        have := World.cells?_block this h0
        simpa [Addr.add] using this
      refine ⟨(List.range len).map a, ⟨by simp; omega, ?_⟩, LR.one ?_, by simp [Value.oneCell'], by simp [hc]⟩
      · intro b hb
        simp only [List.mem_map, List.mem_range] at hb
        obtain ⟨i, hi, rfl⟩ := hb
        exact (hau i hi).1
      · have el : ((List.range len).map a).length = len := by simp
        rw [el]
        refine .sl u hlc hF ?_ (fun i hi => (hau i hi).2.2.1) ?_
        · intro i hi
          have : ((List.range len).map a).getD i d = a i := by
            rw [List.getD_eq_getElem?_getD]
            simp [hi]
          rw [this]
          exact (hau i hi).2.1
        · intro i hi j w hj
          have := cell i hi j w hj
          rw [add_plain, add_plain, Nat.add_assoc] at this
          exact this
theorem In.mono {t : TypeId} {α : Type} {f : α → V} {Ok Ok' : α → Prop} (h : In P t f Ok) (hh : ∀ a, Ok a → Ok' a) : In P t f Ok' := by
  intro H enc W fuel cs x hx
  obtain ⟨a, h1, h2⟩ := h H enc W fuel cs x hx
  exact ⟨a, hh a h1, h2⟩
variable {H : Type} {enc : TypeId × Value → H} {W : World} {t : TypeId} {α : Type} {f : α → V} {Ok : α → Prop} {v : Value} {d : DataW H} {ps : List MemPlace} {r : Reach} {base : Nat}
theorem come_agg {fs : Array Field} (h : In P t f Ok) (ht : P.underlying t = some (.struct fs)) (hf : ∀ a, ∃ vs, f a = .agg vs) (hv : Value.okWide P W r base t v) (hd : DataW.Trod enc P W 0 (fun _ => true) true t v d ps) : ∃ a, Ok a ∧ VR (m0 W) (f a) v := by
  obtain ⟨cs, rfl, _⟩ := okWide_struct ht hv
  obtain ⟨fuel, hd⟩ := hd
  obtain ⟨a, h1, h2, _⟩ := h H enc W fuel _ _ hd
  obtain ⟨vs, e⟩ := hf a
  refine ⟨a, h1, ?_⟩
  rw [e] at h2 ⊢
  exact VR.aggL (by simpa [V.cells, Value.cells] using h2)
theorem come_one (h : In P t f Ok) (hv : v.cells = #[v]) (hf : ∀ a, (f a).one = true) (hd : DataW.Trod enc P W 0 (fun _ => true) true t v d ps) : ∃ a, Ok a ∧ VR (m0 W) (f a) v := by
  obtain ⟨fuel, hd⟩ := hd
  obtain ⟨a, h1, h2, _⟩ := h H enc W fuel _ _ hd
  refine ⟨a, h1, ?_⟩
  have e : (f a).cells = [f a] := by
    have := hf a
    cases hfa : f a <;> rw [hfa] at this <;> first | rfl | cases this
  rw [e, hv] at h2
  exact h2.head
theorem come_int (ht : P.underlying t = some (.int .i64)) (hc : P.cellsOf t = 1) (hv : Value.okWide P W r base t v) (hd : DataW.Trod enc P W 0 (fun _ => true) true t v d ps) : ∃ n : Int, (-9223372036854775808 ≤ n ∧ n ≤ 9223372036854775807) ∧ VR (m0 W) (I n) v := by
  obtain ⟨n, rfl⟩ := okWide_int ht hv
  exact come_one (in_int ht hc) rfl (fun _ => rfl) hd
theorem come_slice {e : TypeId} (h : In P t f Ok) (ht : P.underlying t = some (.slice e)) (hf : ∀ a, (f a).one = true) (hv : Value.okWide P W r base t v) (hd : DataW.Trod enc P W 0 (fun _ => true) true t v d ps) : ∃ a, Ok a ∧ VR (m0 W) (f a) v := by
  obtain ⟨a, l, c, rfl⟩ := okWide_slice ht hv
  exact come_one h rfl hf hd
theorem come_string (ht : P.underlying t = some .string) (hc : P.cellsOf t = 1) (hv : Value.okWide P W r base t v) (hd : DataW.Trod enc P W 0 (fun _ => true) true t v d ps) : ∃ s : ByteArray, s.size ≤ 9223372036854775807 ∧ VR (m0 W) (.sc (.string s)) v := by
  obtain ⟨n, rfl⟩ := okWide_string ht hv
  exact come_one (in_string ht hc) rfl (fun _ => rfl) hd
theorem come_bool (ht : P.underlying t = some .bool) (hc : P.cellsOf t = 1) (hv : Value.okWide P W r base t v) (hd : DataW.Trod enc P W 0 (fun _ => true) true t v d ps) : ∃ b : Bool, VR (m0 W) (B b) v := by
  obtain ⟨n, rfl⟩ := okWide_bool ht hv
  obtain ⟨a, _, h⟩ := come_one (in_bool ht hc) rfl (fun _ => rfl) hd
  exact ⟨a, h⟩
/-- From the contract to the call. -/
theorem FnOK.calls {fid : Nat} {args : List V} {b : Bool} {args' : Array Value} (h : FnOK P fid args (B b) []) (hl : LR (m0 W) args args'.toList) (hgl : GlOK (m0 W)) : Calls P fid args' W fun e w' => e = .returned (.bool b) ∧ Below W.heap.size W w' := by
  refine callsIn_wide.1 ((h.2 (m0 W) args' rfl (fun _ h => h) rfl hgl hl).mono ?_)
  rintro e W' ⟨v', m', rfl, rfl, _, _, wr, hv⟩
  rw [VR.of_sc hv]
  exact ⟨rfl, wr.ov.below⟩
end
end Go.Proofs.Ytkliejppigfjiaa.Fx
namespace Go.Proofs.Ytkliejppigfjiaa.Fx
open Go.RowKit Go.ChangeShapes Go.WideShapes
variable {P : Program}
theorem in_arr2 {t e : TypeId} {α : Type} {f : α → V} {Ok : α → Prop} (ht : P.underlying t = some (.array 2 e)) (hc : P.cellsOf t = P.cellsOf e + P.cellsOf e) (h : In P e f Ok) : In P t (fun p : α × α => .agg ((f p.1).cells ++ (f p.2).cells)) (fun p => Ok p.1 ∧ Ok p.2) := by
  intro H enc W fuel cs x hx
  obtain ⟨xs, m, rfl, rfl, hl, hlen, hf⟩ := DataW.trod_array ht hx
  match xs, hlen with
  | [y0, y1], _ =>
    have h0 := hf 0 (by omega)
    have h1 := hf 1 (by omega)
    rw [Nat.zero_mul, List.drop_zero] at h0
    rw [Nat.one_mul] at h1
    obtain ⟨a, a1, a2, a3, a4⟩ := h H enc W m _ _ (h0.trans rfl)
    obtain ⟨b, b1, b2, b3, b4⟩ := h H enc W m _ _ (h1.trans rfl)
    have e1 : cs = cs.take (P.cellsOf e) ++ (cs.drop (P.cellsOf e)).take (P.cellsOf e) := by
      conv => lhs; rw [← List.take_append_drop (P.cellsOf e) cs]
      congr 1
      rw [List.take_of_length_le (by rw [List.length_drop]; omega)]
    refine ⟨(a, b), ⟨a1, b1⟩, ?_, fun u hu => ?_, hl⟩
    · rw [e1]
      exact a2.append b2
    · rw [e1] at hu
      rcases List.mem_append.1 hu with hu | hu
      · exact a3 u hu
      · exact b3 u hu
section
variable {H : Type} {enc : TypeId × Value → H} {W : World} {t : TypeId} {α : Type} {f : α → V} {Ok : α → Prop} {v : Value} {d : DataW H} {ps : List MemPlace} {r : Reach} {base : Nat}
theorem come_arr {n : Nat} {e : TypeId} (h : In P t f Ok) (ht : P.underlying t = some (.array n e)) (hf : ∀ a, ∃ vs, f a = .agg vs) (hv : Value.okWide P W r base t v) (hd : DataW.Trod enc P W 0 (fun _ => true) true t v d ps) : ∃ a, Ok a ∧ VR (m0 W) (f a) v := by
  have hv' : ∃ cs, v = .agg cs := by
    simp only [Value.okWide, ht] at hv
    obtain ⟨cs, h1, _⟩ := hv
    exact ⟨cs, h1⟩
  obtain ⟨cs, rfl⟩ := hv'
  obtain ⟨fuel, hd⟩ := hd
  obtain ⟨a, h1, h2, _⟩ := h H enc W fuel _ _ hd
  obtain ⟨vs, e⟩ := hf a
  refine ⟨a, h1, ?_⟩
  rw [e] at h2 ⊢
  exact VR.aggL (by simpa [V.cells, Value.cells] using h2)
end
end Go.Proofs.Ytkliejppigfjiaa.Fx
