/-
  Calls that change a row of one's own in place.
  Conditions: none.
-/
import Derived.Test.YtcdcmeiipfafdaaGreatFu
import Derived.Sort.Grow
import Derived.Sort.Row
namespace Go.Proofs.YtcdcmeiipfafdaaGreat.Fx
open Go.RowKit

/-- A function that is handed a row of numbers and changes it in place; what it returns: nothing, or the row cut. -/
def RowFn (P : Program) (fid : Nat) (zs zs' : List Int) (res : Option Nat) : Prop :=
  Enters P fid ∧ ∀ (W : World) (g off cap : Nat), Go.Sort.Holds (Value.int .i64) W g off zs.toArray → g < W.heap.size → zs.length ≤ cap →
    CallsIn (FW none) 0 P fid #[.slice (some ⟨g, off, none⟩) zs.length cap] W fun e W' => e = .returned (match res with | none => .tuple #[] | some k => .slice (some ⟨g, off, none⟩) k cap) ∧
      ∃ n os, W' = Go.Sort.grow (Go.Sort.putRow (Value.int .i64) (Go.Sort.ahead W n) g off zs'.toArray) os
section
variable {m : Mem} {H : SW} {w0 : Base}
/-- A block is written; there may be new blocks that nobody knows. -/
theorem WR.writeG (h : WR w0 m H) {W' : World} {b g C : Nat} {s s0 : SB} (hb : m.φ b = some (g, C)) (h0 : H.get b = some s0) (hov : Ov w0.W W') (hold : ∀ j, j < m.W.heap.size → j ≠ g → W'.heap[j]? = m.W.heap[j]?) (hsz : m.W.heap.size ≤ W'.heap.size) (hs : SBR { m with W := W' } g C s) :
    WR w0 { m with W := W' } (H.put b s) ∧ Ext m H { m with W := W' } (H.put b s) := by
  have live : ∀ c s', (H.put b s).get c = some s' → ∃ s'', H.get c = some s'' := fun c s' hc => by
    rw [SW.get_put] at hc
    split at hc
    · rename_i e; obtain ⟨rfl, _⟩ := e; exact ⟨s0, h0⟩
    · exact ⟨s', hc⟩
  obtain ⟨hh1, hh2⟩ := h.high b g C s0 hb h0
  have hl : Le m { m with W := W' } := ⟨fun _ _ h => h, fun _ h => h, fun j hj => hold j (h.fr j hj) (by rintro rfl; exact hh2 hj)⟩
  have hD : ∀ j ∈ m.D.d, j ≠ g := fun j hj e => by
    subst e
    exact (h.blk b j C s0 hb h0).noMark (h.marks j hj).2.2
  refine ⟨⟨hov, fun c p hc => h.dom c p hc, fun c s' hc => ?_, fun c g' k' s' hc hget => ?_, fun c g' k' s' hc hget => ?_, fun c c' g' k1 k2 s1 s2 h1 h2 h3 h4 => ?_, fun j hj => Nat.lt_of_lt_of_le (h.fr j hj) hsz, fun j hj => ?_, h.uniq, h.new, h.gl.mono hl.F hl.mem⟩,
    ⟨hl, Nat.le_refl _, fun _ _ => rfl, fun c cs t _ hn hg => ?_⟩⟩
  · obtain ⟨s'', e⟩ := live c s' hc; exact h.hdom c s'' e
  · rw [SW.get_put] at hget
    split at hget
    · rename_i e; obtain ⟨rfl, _⟩ := e
      have hc' : m.φ c = some (g', k') := hc
      rw [hb] at hc'; injection hc' with hc'; obtain ⟨rfl, rfl⟩ := Prod.mk.inj hc'
      injection hget with hget; subst hget; exact hs
    · rename_i e
      have hbk := h.blk c g' k' s' hc hget
      refine hbk.mono hl rfl (hold _ hbk.lt fun e' => ?_)
      subst e'
      exact e ⟨h.inj c b g' k' C s' s0 hc hb hget h0, by rw [h0]; rfl⟩
  · obtain ⟨s'', e⟩ := live c s' hget; exact h.high c g' k' s'' hc e
  · obtain ⟨u1, e1⟩ := live c s1 h3
    obtain ⟨u2, e2⟩ := live c' s2 h4
    exact h.inj c c' g' k1 k2 u1 u2 h1 h2 e1 e2
  · obtain ⟨h1, h2, h3⟩ := h.marks j hj
    exact ⟨h1, h2, by rw [← h3]; exact hold j (Array.getElem?_eq_some_iff.1 h3).1 (hD j hj)⟩
  · rw [SW.get_put, if_neg]
    · exact hg
    · rintro ⟨rfl, _⟩; rw [hb] at hn; cases hn
end
@[reducible] def rowRes (b : Nat) : Option Nat → V
  | none => .tup []
  | some k => .own b 1 0 k
/-- **A call that changes a row of numbers.** -/
theorem call_row {P : Program} {fid : Nat} {zs zs' : List Int} {res : Option Nat} {H : SW} {K : V → SW → Tag → Prop} {b n : Nat} {t : TypeId} {e : Nat → V} (hf : RowFn P fid zs zs' res) (hg : hget H.l b = some (.row 1 n e t)) (hn : zs.length = n) (h0 : 0 < n) (hl : zs'.length = n)
    (he : ∀ i, i < n → e i = I (zs.getD i 0)) (hr : ∀ k, res = some k → k ≤ n) (hk : spineH (hput H.l b (.row 1 n (fun i => I (zs'.getD i 0)) t)) fun l => K (rowRes b res) ⟨H.n, l⟩ (.wr b)) : callW P fid [.own b 1 0 n] H K := by
  have hk := spineH_ok _ _ hk
  obtain ⟨hent, hc⟩ := hf
  refine ⟨⟨_, _, .wr b, ⟨hent, fun w0 m args' hw hargs => ?_⟩, fun c hc hne => get_put_old fun e => hne.1 (by rw [e]), hk⟩⟩
  obtain ⟨u, hu, hv⟩ := hargs.get? (i := 0) rfl
  have ha : args' = #[u] := by
    apply Array.ext'
    have hlen := hargs.1
    match hh : args'.toList with
    | [x] => rw [hh] at hu; simp at hu; subst hu; rfl
    | [] => rw [hh] at hlen; simp at hlen
    | _ :: _ :: _ => rw [hh] at hlen; simp at hlen
  subst ha
  cases hv with
  | own0 => omega
  | @own _ g C _ _ _ hφ hle =>
    obtain ⟨ds, d1, d2, d3, us, d4⟩ := hw.blk b g C _ hφ hg
    have hds : ∀ i, i < n → ds[i]? = some (.int .i64 (zs.getD i 0)) := fun i hi => by
      obtain ⟨a1, a2, a3⟩ := d4 i hi
      rw [he i hi] at a1
      have := a1.of_sc
      have := (a3 0 (.int .i64 (zs.getD i 0)) (by rw [this]; rfl)).1
      simpa using this
    have hH : Go.Sort.Holds (Value.int .i64) m.W g (0 * 1) zs.toArray := fun j hj => by
      have hj' : j < n := by simpa [hn] using hj
      refine ⟨?_, by simp [World.frozen?, d1]⟩
      simp only [World.cell?, d1, Nat.zero_mul, Nat.zero_add]
      simp only [Option.isSome_none, Bool.false_eq_true, if_false]
      rw [hds j hj']
      congr 2
      simp [List.getD_eq_getElem?_getD, hn, hj', List.getElem?_eq_getElem (by omega : j < zs.length), getElem!_pos zs.toArray j hj]
    have hlt : g < m.W.heap.size := (Array.getElem?_eq_some_iff.1 d1).1
    have := hc m.W g (0 * 1) (C - 0) hH hlt (by omega)
    rw [hn] at this
    refine this.mono ?_
    rintro e' W' ⟨rfl, k, os, rfl⟩
    have hheap : (Go.Sort.grow (Go.Sort.putRow (Value.int .i64) (Go.Sort.ahead m.W k) g (0 * 1) zs'.toArray) os).heap = (m.W.heap.modify g (Go.Sort.onCells (Go.Sort.putCells (Value.int .i64) (0 * 1) zs'.toArray))) ++ os := rfl
    have hold : ∀ j, j < m.W.heap.size → j ≠ g → (Go.Sort.grow (Go.Sort.putRow (Value.int .i64) (Go.Sort.ahead m.W k) g (0 * 1) zs'.toArray) os).heap[j]? = m.W.heap[j]? := fun j hj hne => by
      rw [hheap, Array.getElem?_append, if_pos (by simpa using hj), Array.getElem?_modify, if_neg (Ne.symm hne)]
    have hat : (Go.Sort.grow (Go.Sort.putRow (Value.int .i64) (Go.Sort.ahead m.W k) g (0 * 1) zs'.toArray) os).heap[g]? = some (.cells (Go.Sort.putCells (Value.int .i64) (0 * 1) zs'.toArray ds) t (0, 0)) := by
      rw [hheap, Array.getElem?_append, if_pos (by simpa using hlt), Array.getElem?_modify, if_pos rfl, d1]; rfl
    have hsz : m.W.heap.size ≤ (Go.Sort.grow (Go.Sort.putRow (Value.int .i64) (Go.Sort.ahead m.W k) g (0 * 1) zs'.toArray) os).heap.size := by
      rw [hheap]; simp
    have hgh := (hw.high b g C _ hφ hg).1
    have hov : Ov w0.W (Go.Sort.grow (Go.Sort.putRow (Value.int .i64) (Go.Sort.ahead m.W k) g (0 * 1) zs'.toArray) os) := .of ⟨hw.ov.below.os, hw.ov.below.tape, hw.ov.below.output, Nat.le_trans hw.ov.below.size hsz, fun j hj => by
      rw [hold j (Nat.lt_of_lt_of_le hj hw.ov.size) (by omega)]; exact hw.ov.below.block j hj⟩
    obtain ⟨p1, p2⟩ := hw.writeG hφ hg hov hold hsz (s := .row 1 n (fun i => I (zs'.getD i 0)) t) ⟨_, hat, by simpa [Go.Sort.putCells] using d2, d3, fun i => .int .i64 (zs'.getD i 0), fun i hi => ⟨.sc rfl, rfl, fun j u hu => by
      have hj : j = 0 := by
        have := (Array.getElem?_eq_some_iff.1 hu).1
        simp [Value.cells] at this; omega
      subst hj
      have hu' : u = .int .i64 (zs'.getD i 0) := by
        have : some u = some (Value.int .i64 (zs'.getD i 0)) := by rw [← hu]; rfl
        exact Option.some.inj this
      subst hu'
      refine ⟨?_, rfl⟩
      have hids : i < ds.size := by omega
      rw [Array.getElem?_toList]
      simp only [Go.Sort.putCells, Nat.mul_one, Nat.add_zero, Array.getElem?_mapIdx, Nat.zero_le, true_and, Nat.zero_add]
      rw [Array.getElem?_eq_getElem hids]
      simp only [Option.map_some]
      rw [if_pos (by simp; omega)]
      congr 2
      simp [List.getD_eq_getElem?_getD, List.getElem?_eq_getElem (by omega : i < zs'.length), getElem!_pos zs'.toArray i (by simp; omega)]⟩⟩
    refine ⟨_, _, rfl, rfl, p2, rfl, p1, ?_⟩
    cases res with
    | none => exact VR.undef _
    | some q => exact VR.own hφ (by have := hr q rfl; omega)
end Go.Proofs.YtcdcmeiipfafdaaGreat.Fx
