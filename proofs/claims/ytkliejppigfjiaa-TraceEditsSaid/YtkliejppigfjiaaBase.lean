/-
  Plain lemmas of this claim, with no function of the program in sight: worlds that differ by new blocks alone, slices that read as lists, a drawn region whose calls make memory.
  Conditions: none.
-/
import Derived.WalkKit
import Derived.WalkSpells
import Derived.WalkLawsBesides
import Derived.Handy
import Derived.Lib.Hide
import Derived.StillTail
import Derived.BigQuiet
import Derived.Deep.QuietTactic
import Derived.Maps.AppendAt
import Derived.PlainAid
import Derived.Shelf.Abstract
namespace Go.Proofs.Ytkliejppigfjiaa
open Go.RowKit

/-! ### Worlds: 'ov w X' is w where w has blocks, and X beyond -/

def ov (w X : World) : World := { X with os := w.os, tape := w.tape, output := w.output, heap := w.heap ++ X.heap.extract w.heap.size X.heap.size }

theorem ov_os (w X : World) : (ov w X).os = w.os := rfl
theorem ov_tape (w X : World) : (ov w X).tape = w.tape := rfl
theorem ov_size (w X : World) : (ov w X).heap.size = w.heap.size + (X.heap.size - w.heap.size) := by simp [ov]
theorem ov_block (w X : World) (k : Nat) (h : k < w.heap.size) : (ov w X).heap[k]? = w.heap[k]? := by simp [ov, Array.getElem?_append, h]
theorem ov_below (w X : World) : Below w.heap.size w (ov w X) := ⟨rfl, rfl, rfl, by rw [ov_size]; omega, fun k h => ov_block w X k h⟩
theorem ov_of_below {w W : World} (h : Below w.heap.size w W) : W = ov w W := by
  have hh : W.heap = w.heap ++ W.heap.extract w.heap.size W.heap.size := by
    apply Array.ext_getElem?
    intro i
    by_cases hi : i < w.heap.size
    · rw [h.block i hi]; simp [Array.getElem?_append, hi]
    · rw [Array.getElem?_append, if_neg hi, Array.getElem?_extract]
      by_cases hi2 : i < W.heap.size
      · rw [if_pos (by omega)]; congr 1; omega
      · rw [if_neg (by omega)]; exact Array.getElem?_eq_none (by omega)
  obtain ⟨hp, tp, dr, o, out⟩ := W
  obtain ⟨h1, h2, h3, _, _⟩ := h
  simp only at h1 h2 h3 hh
  subst h1 h2 h3
  simp only [ov]
  congr 1

/-- What a call leaves that makes memory and writes none that was there. -/
def Ov (w W : World) : Prop := ∃ X, W = ov w X
theorem Ov.of {w W : World} (h : Below w.heap.size w W) : Ov w W := ⟨W, ov_of_below h⟩
theorem Ov.below {w W : World} (h : Ov w W) : Below w.heap.size w W := by obtain ⟨X, rfl⟩ := h; exact ov_below w X
theorem Ov.refl (w : World) : Ov w w := .of (Below.refl _ _)
theorem Ov.trans {a b c : World} (h : Ov a b) (k : Ov b c) : Ov a c := .of (h.below.trans (k.below.mono h.below.size))
theorem Ov.size {a b : World} (h : Ov a b) : a.heap.size ≤ b.heap.size := h.below.size
theorem Ov.alloc {a w : World} (h : Ov a w) (o : Obj) : Ov a (w.alloc o) := .of (h.below.alloc h.size o)
theorem Ov.drew {a w : World} (h : Ov a w) : Ov a w.drew := .of h.below.drew
theorem Ov.drewN {a w : World} (h : Ov a w) (n : Nat) : Ov a (w.drewN n) := .of ⟨h.below.os, h.below.tape, h.below.output, h.below.size, h.below.block⟩
theorem Ov.ov_ {a w : World} (h : Ov a w) (X : World) : Ov a (ov w X) := h.trans ⟨X, rfl⟩
theorem Ov.setCell {a w : World} (h : Ov a w) {p : Addr} (hp : a.heap.size ≤ p.block) (u : Value) : Ov a (w.setCell p u) := .of (h.below.setCell hp u)
theorem Ov.grown {a w w' : World} {row : Option Nat} (h : Ov a w) (hg : w.grownBy w' row) (hr : ∀ k, row = some k → a.heap.size ≤ k) : Ov a w' := .of (h.below.grown hg h.size hr)
/-- What was made since an earlier world counts from there. -/
theorem Ov.since {a b : World} (o : Obj) (h : Ov (a.alloc o) b) : Ov a b := ((Ov.refl a).alloc o).trans h
theorem Ov.sinceDrew {a b : World} (h : Ov a.drew b) : Ov a b := ((Ov.refl a).drew).trans h

/-- The world has a cell there: told by one rule for each way a world is made, so that no side goal is nested. -/
def old (w : World) (a : Addr) : Bool := (w.cell? a).isSome
theorem old_lt {w : World} {a : Addr} (h : old w a = true) : a.block < w.heap.size := by
  obtain ⟨v, hv⟩ := Option.isSome_iff_exists.1 h
  exact World.block_lt_of_cell? w a hv
theorem old_or {w W : World} {a : Addr} (h : ∀ v, w.cell? a = some v → (W.cell? a).isSome = true) : old W a = (old w a || (W.cell? a).isSome) := by
  unfold old
  cases hw : w.cell? a with
  | none => simp
  | some v => simp [h v hw]
@[go_sem] theorem old_of {w : World} {a : Addr} {v : Value} (h : w.cell? a = some v) : old w a = true := by simp [old, h]
@[go_sem] theorem old_drew (w : World) (a : Addr) : old w.drew a = old w a := rfl
@[go_sem] theorem old_drewN (w : World) (n : Nat) (a : Addr) : old (w.drewN n) a = old w a := rfl
@[go_sem] theorem old_alloc (w : World) (o : Obj) (a : Addr) : old (w.alloc o) a = (old w a || ((w.alloc o).cell? a).isSome) :=
  old_or fun v hv => by rw [World.cell?_alloc_lt w o a (World.block_lt_of_cell? w a hv), hv]; rfl
@[go_sem] theorem old_ov (w X : World) (a : Addr) : old (ov w X) a = (old w a || ((ov w X).cell? a).isSome) :=
  old_or fun v hv => by rw [(ov_below w X).cell (World.block_lt_of_cell? w a hv), hv]; rfl
@[go_sem] theorem old_setCell (w : World) (p : Addr) (u : Value) (a : Addr) : old (w.setCell p u) a = (old w a || ((w.setCell p u).cell? a).isSome) :=
  old_or fun v hv => by
    by_cases e : p = a
    · subst e; rw [World.cell?_setCell_same _ _ _ hv]; rfl
    · rw [World.cell?_setCell_other _ _ _ _ e, hv]; rfl
@[go_sem] theorem cell?_ov (w X : World) (a : Addr) (h : old w a = true) : (ov w X).cell? a = w.cell? a := (ov_below w X).cell (old_lt h)
@[go_sem] theorem frozen?_ov (w X : World) (a : Addr) (h : old w a = true) : (ov w X).frozen? a = w.frozen? a := (ov_below w X).frozen (old_lt h)
@[go_sem] theorem cell?_alloc_old (w : World) (o : Obj) (a : Addr) (h : old w a = true) : (w.alloc o).cell? a = w.cell? a := World.cell?_alloc_lt w o a (old_lt h)
@[go_sem] theorem frozen?_alloc_old (w : World) (o : Obj) (a : Addr) (h : old w a = true) : (w.alloc o).frozen? a = w.frozen? a :=
  World.frozen?_of_block (w := w) (Below.heap_alloc w o _ (old_lt h))
theorem Ov.cell {w W : World} (h : Ov w W) {a : Addr} {v : Value} (hc : w.cell? a = some v) : W.cell? a = some v :=
  (h.below.cell (World.block_lt_of_cell? w a hc)).trans hc
theorem Ov.heap {w W : World} (h : Ov w W) {k : Nat} {o : Obj} (hc : w.heap[k]? = some o) : W.heap[k]? = some o :=
  (h.below.block k (Array.getElem?_eq_some_iff.1 hc).1).trans hc

/-! ### Slices that read as lists -/

theorem addr_add (b o j : Nat) : (⟨b, o, none⟩ : Addr).add j = ⟨b, o + j, none⟩ := by unfold Addr.add; split <;> simp_all

/-- The address A leads to cells that hold xs, or xs is empty. -/
def Rd (w : World) (A : Option Addr) (xs : List Value) : Prop := xs = [] ∨ ∃ b o, A = some ⟨b, o, none⟩ ∧ ∀ j u, xs[j]? = some u → w.cell? ⟨b, o + j, none⟩ = some u

theorem Rd.nil (w : World) (A : Option Addr) : Rd w A [] := .inl rfl
theorem Rd.open_ {w : World} {A : Option Addr} {xs : List Value} (h : Rd w A xs) (hne : 0 < xs.length) : ∃ b o, A = some ⟨b, o, none⟩ ∧ ∀ j u, xs[j]? = some u → w.cell? ⟨b, o + j, none⟩ = some u := by
  rcases h with rfl | h
  · simp at hne
  · exact h
theorem Rd.at_ {w : World} {A : Option Addr} {xs : List Value} (h : Rd w A xs) {k : Nat} {u : Value} (hu : xs[k]? = some u) : ∃ b o, A = some ⟨b, o, none⟩ ∧ w.cell? ⟨b, o + k, none⟩ = some u := by
  rcases h with rfl | ⟨b, o, rfl, hc⟩
  · simp at hu
  · exact ⟨b, o, rfl, hc k u hu⟩
theorem Rd.at0 {w : World} {A : Option Addr} {xs : List Value} (h : Rd w A xs) {u : Value} (hu : xs[0]? = some u) : ∃ b o, A = some ⟨b, o, none⟩ ∧ w.cell? ⟨b, o, none⟩ = some u := by
  obtain ⟨b, o, hA, hc⟩ := h.at_ hu
  exact ⟨b, o, hA, by simpa using hc⟩
theorem Rd.keep {w W : World} {A : Option Addr} {xs : List Value} (h : Rd w A xs) (o : Ov w W) : Rd W A xs := by
  rcases h with rfl | ⟨b, f, rfl, hc⟩
  · exact .inl rfl
  · exact .inr ⟨b, f, rfl, fun j u hu => o.cell (hc j u hu)⟩
theorem Rd.ov {w : World} {A : Option Addr} {xs : List Value} (h : Rd w A xs) (X : World) : Rd (ov w X) A xs := h.keep ⟨X, rfl⟩
theorem Rd.alloc {w : World} {A : Option Addr} {xs : List Value} (h : Rd w A xs) (o : Obj) : Rd (w.alloc o) A xs := h.keep ((Ov.refl w).alloc o)
theorem Rd.drew {w : World} {A : Option Addr} {xs : List Value} (h : Rd w A xs) : Rd w.drew A xs := h
theorem Rd.undrew {w : World} {A : Option Addr} {xs : List Value} (h : Rd w.drew A xs) : Rd w A xs := h
/-- A block that is known whole. -/
theorem Rd.lit {w : World} {g : Nat} {cs : Array Value} {t : TypeId} {m : Nat × Nat} {xs : List Value} (h : w.heap[g]? = some (.cells cs t m)) (hx : cs.toList = xs) : Rd w (some ⟨g, 0, none⟩) xs := by
  subst hx
  refine .inr ⟨g, 0, rfl, fun j u hu => ?_⟩
  simp only [World.cell?, h]
  simpa using hu
theorem Rd.new (w : World) (cs : Array Value) (t : TypeId) (m : Nat × Nat) : Rd (w.alloc (.cells cs t m)) (some ⟨w.heap.size, 0, none⟩) cs.toList :=
  Rd.lit (cs := cs) (t := t) (m := m) (by show (w.heap.push _)[w.heap.size]? = _; simp) rfl
theorem Rd.own {w : World} {base : Nat} {e : TypeId} {size n : Nat} {A : Option Addr} {c : Nat} {xs : List Value} (h : w.ownsRow base e size (.slice A n c) n xs) : Rd w A xs := by
  obtain ⟨hl, hv⟩ := h
  rcases hv with ⟨_, rfl⟩ | ⟨g, cap, cur, hv, _, hg, _, _, _, hx⟩
  · exact .inl (List.eq_nil_of_length_eq_zero (by omega))
  · obtain rfl : A = some ⟨g, 0, none⟩ := by injection hv
    refine .inr ⟨g, 0, rfl, fun j u hu => ?_⟩
    simp only [World.cell?, hg]
    rw [← hx, List.getElem?_take] at hu
    split at hu
    · simpa using hu
    · cases hu
/-- A cut of a slice: from element k on ('size' cells an element). -/
theorem Rd.cut {w : World} {A : Option Addr} {xs : List Value} (h : Rd w A xs) (k : Nat) : Rd w (A.map (·.add k)) (xs.drop k) := by
  rcases h with rfl | ⟨b, o, rfl, hc⟩
  · exact .inl (by simp)
  · refine .inr ⟨b, o + k, by simp [addr_add], fun j u hu => ?_⟩
    rw [Nat.add_assoc]
    exact hc _ u (by simpa using hu)
theorem Rd.take {w : World} {A : Option Addr} {xs : List Value} (h : Rd w A xs) (k : Nat) : Rd w A (xs.take k) := by
  rcases h with rfl | ⟨b, o, rfl, hc⟩
  · exact .inl (by simp)
  · refine .inr ⟨b, o, rfl, fun j u hu => hc j u ?_⟩
    rw [List.getElem?_take] at hu
    split at hu
    · exact hu
    · cases hu

theorem ret_int {k : IntKind} {a b : Int} (h : a = b) : Ending.returned (.int k a) = .returned (.int k b) := by rw [h]
theorem ret_bool {a b : Bool} (h : a = b) : Ending.returned (.bool a) = .returned (.bool b) := by rw [h]

abbrev ints (l : List Int) : List Value := l.map (Value.int .i64)

/-! ### A block that is known whole -/
def Blk (w : World) (g : Nat) (t : TypeId) (cs : Array Value) : Prop := w.heap[g]? = some (.cells cs t (0, 0))
section
variable {w W : World} {g : Nat} {t : TypeId} {cs : Array Value}
theorem Blk.lt (h : Blk w g t cs) : g < w.heap.size := (Array.getElem?_eq_some_iff.1 h).1
theorem Blk.cell (h : Blk w g t cs) {i : Nat} {u : Value} (hu : cs[i]? = some u) : w.cell? ⟨g, i, none⟩ = some u := by
  unfold Blk at h
  simp only [World.cell?, h]
  simpa using hu
theorem Blk.free (h : Blk w g t cs) (i : Nat) : w.frozen? ⟨g, i, none⟩ = false := by
  unfold Blk at h
  simp [World.frozen?, h]
theorem Blk.new (w : World) (t : TypeId) (cs : Array Value) : Blk (w.alloc (.cells cs t)) w.heap.size t cs := by
  show (w.heap.push _)[w.heap.size]? = _
  simp
theorem Blk.new_ {w : World} {t : TypeId} {cs : Array Value} {g : Nat} (h : w.heap.size = g) : Blk (w.alloc (.cells cs t)) g t cs := h ▸ Blk.new w t cs
theorem Blk.one {a : Value} (h : Blk w g t #[a]) : w.cell? ⟨g, 0, none⟩ = some a ∧ w.frozen? ⟨g, 0, none⟩ = false := ⟨h.cell rfl, h.free 0⟩
theorem Blk.two {a b : Value} (h : Blk w g t #[a, b]) : w.cell? ⟨g, 0, none⟩ = some a ∧ w.cell? ⟨g, 1, none⟩ = some b ∧ w.frozen? ⟨g, 0, none⟩ = false ∧ w.frozen? ⟨g, 1, none⟩ = false := ⟨h.cell rfl, h.cell rfl, h.free 0, h.free 1⟩
theorem Blk.three {a b c : Value} (h : Blk w g t #[a, b, c]) : w.cell? ⟨g, 0, none⟩ = some a ∧ w.cell? ⟨g, 1, none⟩ = some b ∧ w.cell? ⟨g, 2, none⟩ = some c ∧ w.frozen? ⟨g, 0, none⟩ = false ∧ w.frozen? ⟨g, 1, none⟩ = false ∧ w.frozen? ⟨g, 2, none⟩ = false := ⟨h.cell rfl, h.cell rfl, h.cell rfl, h.free 0, h.free 1, h.free 2⟩
theorem Blk.four {a b c d : Value} (h : Blk w g t #[a, b, c, d]) : w.cell? ⟨g, 0, none⟩ = some a ∧ w.cell? ⟨g, 1, none⟩ = some b ∧ w.cell? ⟨g, 2, none⟩ = some c ∧ w.cell? ⟨g, 3, none⟩ = some d ∧ w.frozen? ⟨g, 0, none⟩ = false ∧ w.frozen? ⟨g, 1, none⟩ = false ∧ w.frozen? ⟨g, 2, none⟩ = false ∧ w.frozen? ⟨g, 3, none⟩ = false := ⟨h.cell rfl, h.cell rfl, h.cell rfl, h.cell rfl, h.free 0, h.free 1, h.free 2, h.free 3⟩
theorem Blk.five {a b c d e : Value} (h : Blk w g t #[a, b, c, d, e]) : w.cell? ⟨g, 0, none⟩ = some a ∧ w.cell? ⟨g, 1, none⟩ = some b ∧ w.cell? ⟨g, 2, none⟩ = some c ∧ w.cell? ⟨g, 3, none⟩ = some d ∧ w.cell? ⟨g, 4, none⟩ = some e ∧ w.frozen? ⟨g, 0, none⟩ = false ∧ w.frozen? ⟨g, 1, none⟩ = false ∧ w.frozen? ⟨g, 2, none⟩ = false ∧ w.frozen? ⟨g, 3, none⟩ = false ∧ w.frozen? ⟨g, 4, none⟩ = false := ⟨h.cell rfl, h.cell rfl, h.cell rfl, h.cell rfl, h.cell rfl, h.free 0, h.free 1, h.free 2, h.free 3, h.free 4⟩
theorem Blk.cast {ds : Array Value} (h : Blk w g t cs) (e : cs = ds) : Blk w g t ds := e ▸ h
theorem Blk.keep (h : Blk w g t cs) (o : Ov w W) : Blk W g t cs := o.heap h
theorem Blk.ov (h : Blk w g t cs) (X : World) : Blk (ov w X) g t cs := h.keep ⟨X, rfl⟩
theorem Blk.alloc (h : Blk w g t cs) (o : Obj) : Blk (w.alloc o) g t cs := h.keep ((Ov.refl w).alloc o)
theorem Blk.drew (h : Blk w g t cs) : Blk w.drew g t cs := h
theorem Blk.set_ (h : Blk w g t cs) (i : Nat) (u : Value) : Blk (w.setCell ⟨g, i, none⟩ u) g t (cs.setIfInBounds i u) := by
  unfold Blk at h ⊢
  simp [World.setCell, Array.getElem?_modify, h]
theorem Blk.far (h : Blk w g t cs) {p : Addr} (hp : g ≠ p.block) (u : Value) : Blk (w.setCell p u) g t cs := (Below.heap_setCell w p u g hp).trans h
theorem Blk.grown {row : Option Nat} (h : Blk w g t cs) (hb : w.grownBy W row) (hg : some g ≠ row) : Blk W g t cs := (hb.block g h.lt hg).trans h
theorem Blk.rd (h : Blk w g t cs) : Rd w (some ⟨g, 0, none⟩) cs.toList := Rd.lit h rfl
end
/-- What was written of the call's own leaves an elder world as it was. -/
theorem Rd.setCell {w : World} {A : Option Addr} {xs : List Value} (h : Rd w A xs) {p : Addr} (hp : ∀ b o, A = some ⟨b, o, none⟩ → b ≠ p.block) (u : Value) : Rd (w.setCell p u) A xs := by
  rcases h with rfl | ⟨b, o, rfl, hc⟩
  · exact .inl rfl
  · refine .inr ⟨b, o, rfl, fun j v hv => ?_⟩
    have hb := hp b o rfl
    rw [World.cell?_of_block (w := w) (Below.heap_setCell w p u b hb)]
    exact hc j v hv

/-! ### append onto a row of the call's own, whatever the source -/
section
variable {P : Program} (w : World)
theorem run_append_nothing (base : Nat) (t ty e : TypeId) (i : TypeInfo) (size : Nat) (ht : P.underlying t = some (.slice e)) (hi : P.info? e = some i)
    (v : Value) (n : Nat) (xs : List Value) (hown : w.ownsRow base e size v n xs) (c : Nat) : (Builtin.append_ #[t, t] ty #[v, .slice none 0 c]).run P w = .ok v w := by
  rcases hown.2 with ⟨rfl, rfl⟩ | ⟨g, cap, cur, rfl, _, _, hnc, _⟩
  · simp [Builtin.append_, run_underlying ht, sizeOf, typeInfo, hi, Builtin.lenOf, Builtin.firstCells]
  · simp [Builtin.append_, run_underlying ht, sizeOf, typeInfo, hi, Builtin.lenOf, Builtin.firstCells, hnc, storeCells]

theorem run_append_rd (base : Nat) (t ty e : TypeId) (i : TypeInfo) (z : Value) (size bytes : Nat) (ht : P.underlying t = some (.slice e)) (hi : P.info? e = some i) (hz : i.zero = some z)
    (hsize : i.size = size) (hby : i.bytes = bytes) (hzs : z.cells.size = size) (hsz : 0 < size)
    (v : Value) (n : Nat) (xs : List Value) (hown : w.ownsRow base e size v n xs)
    (A : Option Addr) (m c : Nat) (news : List Value) (hl : news.length = m * size) (hr : Rd w A news) (h1 : ∀ u ∈ news, u.oneCell' = true)
    (h63 : n + m ≤ maxLen) (hbytes : (n + m) * bytes ≤ 140737488355328) (hbase : base ≤ w.heap.size) :
    ∃ v' w', (Builtin.append_ #[t, t] ty #[v, .slice A m c]).run P w = .ok v' w' ∧ w'.ownsRow base e size v' (n + m) (xs ++ news) ∧ w.grownBy w' v.ownBlock ∧
      (v'.ownBlock = v.ownBlock ∨ v'.ownBlock = some w.heap.size) := by
  rcases Nat.eq_zero_or_pos m with h0 | h0
  · subst h0
    obtain rfl : news = [] := List.eq_nil_of_length_eq_zero (by simpa using hl)
    cases A with
    | none => exact ⟨v, w, run_append_nothing w base t ty e i size ht hi v n xs hown c, by simpa using hown, World.grownBy.refl w _, .inl rfl⟩
    | some ad =>
      obtain ⟨v', w', hrun, h2, h3, _, h5⟩ := run_append_own_at (P := P) w base t ty e i z size bytes ht hi hz hsize hby hzs hsz v n xs hown ad 0 c [] hl (fun j u hu => by simp at hu) h1 h63 hbytes hbase
      exact ⟨v', w', hrun, h2, h3, h5⟩
  · rcases hr with rfl | ⟨b, f, rfl, hc⟩
    · have := Nat.mul_pos h0 hsz; simp at hl; omega
    · obtain ⟨v', w', hrun, h2, h3, _, h5⟩ := run_append_own_at (P := P) w base t ty e i z size bytes ht hi hz hsize hby hzs hsz v n xs hown ⟨b, f, none⟩ m c news hl (fun j u hu => by rw [addr_add]; exact hc j u hu) h1 h63 hbytes hbase
      exact ⟨v', w', hrun, h2, h3, h5⟩

/-- 'append(s, x...)', s the call's own (or nil): what comes behind it, whatever was returned. -/
theorem wp_append_rd {ops : Array Oper} {rest : List Oper} {o : Oper} {a : Act} {Q : Exit → Act → World → Prop} (hgd : o.guard = none) {s x : Operand} {t : TypeId}
    (ho : o.op = .call { callee := .builtin .append, args := #[s, x], argTypes := #[t, t] })
    {base : Nat} {e : TypeId} {i : TypeInfo} {z : Value} {size bytes : Nat} (ht : P.underlying t = some (.slice e)) (hi : P.info? e = some i) (hz : i.zero = some z)
    (hsize : i.size = size) (hby : i.bytes = bytes) (hzs : z.cells.size = size) (hsz : 0 < size)
    {v : Value} {n : Nat} {xs : List Value} (hs : a.eval s = v) (hown : w.ownsRow base e size v n xs)
    {A : Option Addr} {m c : Nat} {news : List Value} (hx : a.eval x = .slice A m c) (hl : news.length = m * size) (hr : Rd w A news) (h1 : ∀ u ∈ news, u.oneCell' = true)
    (h63 : n + m ≤ maxLen) (hbytes : (n + m) * bytes ≤ 140737488355328) (hbase : base ≤ w.heap.size)
    (h : ∀ A' c' w', w'.ownsRow base e size (.slice A' (n + m) c') (n + m) (xs ++ news) → w.grownBy w' v.ownBlock → ((Value.slice A' (n + m) c').ownBlock = v.ownBlock ∨ (Value.slice A' (n + m) c').ownBlock = some w.heap.size) →
      wpList P ops Q rest (a.put o.dst (.slice A' (n + m) c')) w') : wpList P ops Q (o :: rest) a w :=
  wpList_plain hgd fun _ hK => by
    obtain ⟨v', w', hrun, h2, h3, h4⟩ := run_append_rd (P := P) w base t o.type e i z size bytes ht hi hz hsize hby hzs hsz v n xs hown A m c news hl hr h1 h63 hbytes hbase
    unfold Oper.wp execOp
    simp only [ho, resolve, invoke, builtin, Sem.run_bind, Sem.run_pure, Result.andThen_ok, List.map_toArray, List.map_cons, List.map_nil, hs, hx, hrun]
    have hv : ∃ A' c', v' = .slice A' (n + m) c' := by
      rcases h2.2 with ⟨rfl, h0⟩ | ⟨g, cap, cur, rfl, _⟩
      · exact ⟨none, 0, by rw [h0]⟩
      · exact ⟨_, _, rfl⟩
    obtain ⟨A', c', rfl⟩ := hv
    exact hK _ _ (h A' c' w' h2 h3 h4)
end
theorem own_empty (w : World) (base : Nat) (e : TypeId) (size : Nat) (hb : base ≤ w.heap.size) : (w.alloc (.cells #[] e)).ownsRow base e size (.slice (some ⟨w.heap.size, 0, none⟩) 0 0) 0 [] :=
  ⟨by simp, .inr ⟨w.heap.size, 0, #[], rfl, hb, by show (w.heap.push _)[w.heap.size]? = _; simp, Nat.le_refl _, by simp [maxLen], by simp, by simp⟩⟩
theorem Ov.appended {a w w' : World} {v : Value} {base e size n : Nat} {xs : List Value} (h : Ov a w) (hown : w.ownsRow base e size v n xs) (hb : a.heap.size ≤ base) (hg : w.grownBy w' v.ownBlock) : Ov a w' :=
  h.grown hg fun k hk => by
    rcases hown.2 with ⟨rfl, _⟩ | ⟨g, cap, cur, rfl, hg', _⟩
    · cases hk
    · cases hk; exact Nat.le_trans hb hg'
theorem oneInts (l : List Int) : ∀ u ∈ ints l, u.oneCell' = true := by
  intro u hu
  obtain ⟨n, _, rfl⟩ := List.mem_map.1 hu
  rfl

/-! ### Lists of structs as cells; a slice's tail -/
theorem flat_at {α : Type} {f : α → List Value} {s : Nat} (hs : ∀ x, (f x).length = s) : ∀ (l : List α) (k : Nat) (h : k < l.length) (j : Nat) (u : Value), (f l[k])[j]? = some u → (l.flatMap f)[k * s + j]? = some u
  | x :: l, 0, _, j, u, hu => by
    have hj : j < (f x).length := (List.getElem?_eq_some_iff.1 (by simpa using hu)).1
    simp only [List.flatMap_cons, Nat.zero_mul, Nat.zero_add]
    rw [List.getElem?_append_left hj]
    simpa using hu
  | x :: l, k + 1, h, j, u, hu => by
    have ih := flat_at hs l k (by simpa using h) j u (by simpa using hu)
    simp only [List.flatMap_cons]
    rw [List.getElem?_append_right (by rw [hs, Nat.add_mul]; omega), hs, show (k + 1) * s + j - s = k * s + j from by rw [Nat.add_mul]; omega]
    exact ih
theorem flat_length {α : Type} {f : α → List Value} {s : Nat} (hs : ∀ x, (f x).length = s) (l : List α) : (l.flatMap f).length = l.length * s := by
  induction l with
  | nil => simp
  | cons x l ih => simp only [List.flatMap_cons, List.length_append, ih, hs, List.length_cons, Nat.add_mul]; omega
theorem flat_drop {α : Type} {f : α → List Value} {s : Nat} (hs : ∀ x, (f x).length = s) : ∀ (l : List α) (k : Nat), (l.flatMap f).drop (k * s) = (l.drop k).flatMap f
  | [], k => by simp
  | x :: l, 0 => by simp
  | x :: l, k + 1 => by
    simp only [List.flatMap_cons, List.drop_succ_cons]
    rw [← flat_drop hs l k, List.drop_append, List.drop_of_length_le (by rw [hs, Nat.add_mul]; omega), hs, show (k + 1) * s - s = k * s from by rw [Nat.add_mul]; omega]
    simp
theorem flat_take {α : Type} {f : α → List Value} {s : Nat} (hs : ∀ x, (f x).length = s) : ∀ (l : List α) (k : Nat), (l.flatMap f).take (k * s) = (l.take k).flatMap f
  | [], k => by simp
  | x :: l, 0 => by simp
  | x :: l, k + 1 => by
    simp only [List.flatMap_cons, List.take_succ_cons]
    rw [← flat_take hs l k, List.take_append, List.take_of_length_le (by rw [hs, Nat.add_mul]; omega), hs, show (k + 1) * s - s = k * s from by rw [Nat.add_mul]; omega]
/-- Element k of a slice of structs: its cells. -/
theorem Rd.el {α : Type} {f : α → List Value} {s : Nat} (hs : ∀ x, (f x).length = s) (h0 : 0 < s) {w : World} {A : Option Addr} {l : List α} (h : Rd w A (l.flatMap f)) {k : Nat} (hk : k < l.length) :
    ∃ b o, A = some ⟨b, o, none⟩ ∧ ∀ j u, (f l[k])[j]? = some u → w.cell? ⟨b, o + k * s + j, none⟩ = some u := by
  rcases h.open_ (by rw [flat_length hs]; exact Nat.mul_pos (by omega) h0) with ⟨b, o, hA, hc⟩
  exact ⟨b, o, hA, fun j u hu => by rw [Nat.add_assoc]; exact hc _ u (flat_at hs l k hk j u hu)⟩

theorem slice_from {P : Program} (t : TypeId) {e : TypeId} {i : TypeInfo} {size : Nat} (ht : P.underlying t = some (.slice e)) (hi : P.info? e = some i) (hs : i.size = size) (A : Option Addr) (n c k : Nat) (z : Int) (hz : z = k) (hk : k ≤ n) (hc : n ≤ c) :
    ∃ A', (∀ w, (Instr.slice t (.slice A n c) (some (.int .i64 z)) none none).run P w = .ok (.slice A' (n - k) (c - k)) w) ∧ ∀ W xs, Rd W A xs → xs.length = n * size → Rd W A' (xs.drop (k * size)) := by
  subst hz
  refine ⟨if c = k then A else A.map (·.add (k * size)), fun w => ?_, fun W xs hr hl => ?_⟩
  · have h0 : (0 : Int) ≤ (k : Int) := by omega
    have h1 : (k : Int) ≤ (n : Int) := by omega
    simp [Instr.slice, run_underlying ht, Instr.sliceBounds, run_sliceBound, h0, hk, sizeOf, typeInfo, hi, hs]
  · split
    · rename_i e
      have : n = k := by omega
      subst this
      rw [List.drop_of_length_le (by omega)]
      exact .inl rfl
    · exact hr.cut _

/-! ### A region that draws its order: all but a tail in a forced order is read, reckoned, or called in ways that write nothing that was there -/

section
variable {P : Program} {ops : Array Oper} {md : Region.Mode} {C : World → Prop}

def wpAnyLQ (P : Program) (md : Region.Mode) (ops : Array Oper) (C : World → Prop) (n : Nat) (L : Array Bool → Act → Prop) : Nat → Array Bool → Act → Prop
  | 0, listed, a => L listed a
  | f + 1, listed, a =>
    Region.ready md ops listed ≠ [] ∧ ∀ i ∈ Region.ready md ops listed, i < n ∧ qOp P ops C i (wpAnyLQ P md ops C n L f (listed.setIfInBounds i true)) a

theorem wpAny_of_headQ {n g : Nat} {L : Array Bool → Act → Prop} {Q' : Exit → Act → World → Prop} (hL : ∀ listed a, L listed a → ∀ w, C w → wpAny P md ops Q' g listed a w) :
    ∀ (f : Nat) (listed : Array Bool) (a : Act) (w : World), C w → wpAnyLQ P md ops C n L f listed a → wpAny P md ops Q' (f + g) listed a w
  | 0, listed, a, w, hw, h => by rw [Nat.zero_add]; exact hL _ _ h w hw
  | f + 1, listed, a, w, hw, h => by
    rw [show f + 1 + g = (f + g) + 1 by omega]
    exact ⟨fun h0 => absurd h0 h.1, fun i hi => wpOp_of_qOp hw (fun a' w' hw' h' => wpAny_of_headQ hL f _ a' w' hw' h') (h.2 i hi).2⟩

theorem wpAnyLQ_first {n i : Nat} {oi : Oper} {v : Value} {L : Array Bool → Act → Prop} (hi : ops[i]? = some oi) (hsel : ∀ (j : Nat) (o : Oper) cs b, ops[j]? = some o → o.op ≠ .select cs b)
    (hs : Region.sinkB md ops n = true) (hc : Region.chainB md ops n = true) (hn : n < ops.size) (hin : i < n)
    (hdone : ∀ listed a, L listed a → ∀ j ∈ Region.ready md ops listed, n ≤ j) :
    ∀ (f : Nat) (listed : Array Bool) (a : Act), HeadInv md ops n listed →
      (∀ j oj, ops[j]? = some oj → j ≠ i → listed.getD j true = false → (∀ e ∈ oj.after, Region.binds md e = true → e.on ≠ i) → oi.apart ops oj = true) →
      i ∈ Region.ready md ops listed → YieldsIn P ops C oi v a →
      wpAnyLQ P md ops C n L f (listed.setIfInBounds i true) (a.put oi.dst v) → wpAnyLQ P md ops C n L (f + 1) listed a := by
  intro f
  induction f with
  | zero =>
    intro listed a inv _ hr hy H
    have hun := (mem_ready.1 hr).1
    refine ⟨fun h => (by rw [h] at hr; cases hr), fun j hj => ?_⟩
    have hjn : j < n := by
      rcases Nat.lt_or_ge j n with h | h
      · exact h
      · exact absurd hj (tail_waits hs hc hn inv _ i rfl hin hun j h)
    refine ⟨hjn, ?_⟩
    by_cases hji : j = i
    · subst hji; exact hy.qOp hi H
    · have := hdone _ _ H j (ready_mono hj hji)
      omega
  | succ f ih =>
    intro listed a inv hfree hr hy H
    have hun := (mem_ready.1 hr).1
    refine ⟨fun h => (by rw [h] at hr; cases hr), fun j hj => ?_⟩
    have hjn : j < n := by
      rcases Nat.lt_or_ge j n with h | h
      · exact h
      · exact absurd hj (tail_waits hs hc hn inv _ i rfl hin hun j h)
    refine ⟨hjn, ?_⟩
    by_cases hji : j = i
    · subst hji; exact hy.qOp hi H
    · have h1 := (H.2 j (ready_mono hj hji)).2
      obtain ⟨hjun, oj, hoj, hall⟩ := mem_ready.1 hj
      have hnot : ∀ e ∈ oj.after, Region.binds md e = true → e.on ≠ i := fun e he hb heq => by
        have h1 := hall e he hb
        rw [heq, getD_both hun] at h1
        cases h1
      have h2 := qOp_put hoj (hfree j oj hoj hji hjun hnot) (fun cs b => hsel i oi cs b hi) (fun cs b => hsel j oj cs b hoj) hy h1
      have hfree' : ∀ k ok, ops[k]? = some ok → k ≠ i → (listed.setIfInBounds j true).getD k true = false →
          (∀ e ∈ ok.after, Region.binds md e = true → e.on ≠ i) → oi.apart ops ok = true := fun k ok hk hki hun hno => by
        refine hfree k ok hk hki ?_ hno
        by_cases hjk : j = k
        · subst hjk; exact hjun
        · rw [getD_set_ne true hjk] at hun; exact hun
      refine qOp_mono (fun a' h3 => ih (listed.setIfInBounds j true) a' (inv.set hj hjn) hfree' (ready_mono hr (Ne.symm hji)) h3.1 ?_) h2
      rw [Array.setIfInBounds_comm _ _ hji]
      exact h3.2

theorem wpAnyLQ_lex {n g : Nat} {Lq : Act → Prop} (hsel : Region.noSelect ops = true) (hs : Region.sinkB md ops n = true) (hc : Region.chainB md ops n = true) (hn : n < ops.size) :
    ∀ (l : List Oper) (k : Nat) (listed : Array Bool) (a : Act), (∀ j, j < l.length → l[j]? = ops[k + j]?) → k + l.length = n → HeadInv md ops n listed →
    Region.lexHead md ops g l.length k listed = true → wpQuiet P ops C Lq l a →
    wpAnyLQ P md ops C n (fun listed' a' => Region.seqB md ops g n listed' = true ∧ Lq a') l.length listed a
  | [], k, listed, a, _, hk, _, hB, h => by
    have : k = n := by simpa using hk
    subst this
    exact ⟨by simpa [Region.lexHead] using hB, h⟩
  | o :: l, k, listed, a, hl, hk, inv, hB, h => by
    have h0 : ops[k]? = some o := by simpa using (hl 0 (by simp)).symm
    simp only [List.length_cons, Region.lexHead, Bool.and_eq_true] at hB
    obtain ⟨⟨hr, hf⟩, hB'⟩ := hB
    have hkn : k < n := by simp only [List.length_cons] at hk; omega
    have hr' : k ∈ Region.ready md ops listed := by simpa using hr
    have hst : qOp P ops C k (wpQuiet P ops C Lq l) a := by unfold qOp; simp only [h0]; exact h
    obtain ⟨v, hy, hK⟩ := yieldsIn_of_qOp h0 hst
    exact wpAnyLQ_first h0 (Region.noSelect_spec hsel) hs hc hn hkn (fun listed' a' hL => seqB_ready hL.1) l.length listed a inv (Region.free_spec h0 hf) hr' hy
      (wpAnyLQ_lex hsel hs hc hn l (k + 1) _ _ (fun j hj => by have := hl (j + 1) (by simp; omega); simpa [Nat.add_assoc, Nat.add_comm 1 j] using this) (by simp only [List.length_cons] at hk; omega) (inv.set hr' hkn) hB' hK)

theorem wpQuiet_imp {Q Q' : Act → Prop} (h : ∀ a, Q a → Q' a) : ∀ (l : List Oper) (a : Act), wpQuiet P ops C Q l a → wpQuiet P ops C Q' l a
  | [], _, hh => h _ hh
  | o :: rest, a, hh => by
    unfold wpQuiet at hh ⊢
    split
    · rename_i hw
      rw [if_pos hw] at hh
      exact Oper.quiet_mono (fun a' h' => wpQuiet_imp h rest a' h') hh
    · rename_i hw
      rw [if_neg hw] at hh
      exact wpQuiet_imp h rest _ hh

/-- The lexical walk of the first n operations; then 'T' of what is left. -/
def wpQT (P : Program) (ops : Array Oper) (C : World → Prop) (T : List Oper → Act → Prop) : Nat → List Oper → Act → Prop
  | 0, l, a => T l a
  | _ + 1, [], a => T [] a
  | n + 1, o :: rest, a => if Region.wanted o (yielded ops a.tmps) then o.quiet P a C (wpQT P ops C T n rest) else wpQT P ops C T n rest (a.put o.dst undef)

theorem wpQT_want {T : List Oper → Act → Prop} {n : Nat} {o : Oper} {rest : List Oper} {a : Act} (hw : Region.wanted o (yielded ops a.tmps) = true)
    (h : ∀ K : Act → Prop, (∀ a, wpQT P ops C T n rest a → K a) → o.quiet P a C K) : wpQT P ops C T (n + 1) (o :: rest) a := by
  unfold wpQT; rw [if_pos hw]; exact h _ fun _ h => h
theorem wpQT_skip {T : List Oper → Act → Prop} {n : Nat} {o : Oper} {rest : List Oper} {a : Act} (hw : Region.wanted o (yielded ops a.tmps) = false)
    (h : wpQT P ops C T n rest (a.put o.dst undef)) : wpQT P ops C T (n + 1) (o :: rest) a := by
  unfold wpQT; rw [if_neg (by rw [hw]; exact Bool.false_ne_true)]; exact h
theorem wpQT_step {T : List Oper → Act → Prop} {n : Nat} {o : Oper} {rest : List Oper} {a : Act} (h : wpQuiet P ops C (fun a' => wpQT P ops C T n rest a') [o] a) : wpQT P ops C T (n + 1) (o :: rest) a := by
  unfold wpQuiet at h; unfold wpQT; exact h
theorem wpQT_end {T : List Oper → Act → Prop} {l : List Oper} {a : Act} (h : T l a) : wpQT P ops C T 0 l a := h
theorem wpQT_quiet {T : List Oper → Act → Prop} : ∀ (n : Nat) (l : List Oper) (a : Act), wpQT P ops C T n l a → wpQuiet P ops C (T (l.drop n)) (l.take n) a
  | 0, _, _, h => h
  | _ + 1, [], _, h => h
  | n + 1, o :: rest, a, h => by
    unfold wpQT at h
    simp only [List.take_succ_cons, List.drop_succ_cons]
    unfold wpQuiet
    split
    · rename_i hw
      rw [if_pos hw] at h
      exact Oper.quiet_mono (fun a' h' => wpQT_quiet n rest a' h') h
    · rename_i hw
      rw [if_neg hw] at h
      exact wpQT_quiet n rest _ h

/-- The first n operations in whatever order, their calls free to make memory; then the rest, whose order is forced. -/
theorem wp_region_tail {id : Nat} {Q : Exit → Act → World → Prop} {a : Act} {w : World} {l : List Oper} (n : Nat) (hm : P.follows .mixedOrders = true) (hB : Region.lexTailB .any l.toArray n = true)
    (h : wpQT P l.toArray (fun W => ∃ X, W = ov w.drew X) (fun tl a' => ∀ X, wpList P l.toArray Q tl a' (ov w.drew X)) n l a) : (Code.region id l.toArray true).wp P Q a w := by
  replace h := wpQT_quiet _ _ _ h
  simp only [Region.lexTailB, Bool.and_eq_true, decide_eq_true_eq] at hB
  obtain ⟨⟨⟨⟨hsel, hn⟩, hs⟩, hc⟩, hlex⟩ := hB
  have hn' : n < l.length := by simpa using hn
  have htl : (l.take n).length = n := by simp; omega
  have hdl : (l.drop n).length = l.toArray.size - n := by simp
  have inv0 : HeadInv .any l.toArray n (Array.replicate l.toArray.size false) :=
    ⟨by simp, fun j oj _ hl => (by rw [getD_replicate_false] at hl; cases hl), fun t _ ht => getD_in (by simpa using ht) (getD_replicate_false _ _)⟩
  have H := wpAnyLQ_lex (md := .any) (g := l.toArray.size - n) hsel hs hc hn (l.take n) 0 _ a (fun j hj => by
    have hj' : j < n := by rw [htl] at hj; exact hj
    simp [hj']) (by simpa using htl) inv0 (by rw [htl]; exact hlex) h
  refine wp_region_any hm ?_
  have := wpAny_of_headQ (Q' := Q) (g := l.toArray.size - n) (fun listed a' hL W hW => by
    obtain ⟨X, rfl⟩ := hW
    have := wpAny_of_seq (md := .any) (Q' := Q) (l.drop n) n listed a' (ov w.drew X) (fun j => by simp [List.getElem?_drop]) (by rw [hdl]; exact hL.1) (hL.2 X)
    rwa [hdl] at this) _ _ _ w.drew (Ov.refl w.drew) H
  rw [htl, show n + (l.toArray.size - n) = l.toArray.size by omega] at this
  exact this

/-- Every operation in whatever order, the calls free to make memory. -/
theorem wp_region_calls {id : Nat} {Q : Exit → Act → World → Prop} {a : Act} {w : World} {l : List Oper} (n : Nat) (hm : P.follows .mixedOrders = true) (hB : Region.lexB .any l.toArray = true) (hn : l.length = n)
    (h : wpQT P l.toArray (fun W => ∃ X, W = ov w.drew X) (fun _ a' => ∀ X, Q .normal a' (ov w.drew X)) n l a) : (Code.region id l.toArray true).wp P Q a w := by
  subst hn
  have h := wpQT_quiet _ _ _ h
  rw [List.take_length] at h
  exact wp_region_quiet (C := fun W => ∃ X, W = ov w.drew X) hm hB (Ov.refl w.drew) (wpQuiet_imp (fun a' h' W ⟨X, e⟩ => by subst e; exact h' X) l a (by simpa using h))
end

/-! ### A call of a function value whose function is known -/
section
variable {P : Program}
theorem exec_fn {o : Oper} {a : Act} {w : World} {c : Call} {x : Operand} {f : FuncId} {cap : Array Value} (hop : o.op = .call c) (hc : c.callee = .value x) (hx : a.eval x = .func (.func f) #[] cap) (he : Enters P f) :
    (execOp a.eval o).run P w = .ok (.enter f (c.args.map a.eval ++ cap)) w := by
  unfold execOp
  simp only [hop, resolve, hc, hx, Deferred.ofValue, Sem.run_bind, Sem.run_pure, Result.andThen_ok, invoke]
  simpa using he _ w
theorem quiet_fn {C : World → Prop} {o : Oper} {a : Act} {c : Call} {x : Operand} {f : FuncId} {cap args : Array Value} {v : Value} {K : Act → Prop} (hop : o.op = .call c) (hc : c.callee = .value x) (hx : a.eval x = .func (.func f) #[] cap)
    (he : Enters P f) (hargs : c.args.map a.eval ++ cap = args) (h : ∀ w, C w → Calls P f args w fun e w' => e = .returned v ∧ C w') (hk : K (a.put o.dst v)) : o.quiet P a C K :=
  ⟨v, fun w hw => by unfold Oper.quietAt; rw [exec_fn hop hc hx he, hargs]; exact ⟨rfl, h w hw⟩, hk⟩
theorem wp_fn {ops : Array Oper} {Q : Exit → Act → World → Prop} {rest : List Oper} {o : Oper} {a : Act} {w : World} {c : Call} {x : Operand} {f : FuncId} {cap args : Array Value} (hg : o.guard = none) (hop : o.op = .call c) (hc : c.callee = .value x)
    (hx : a.eval x = .func (.func f) #[] cap) (he : Enters P f) (hargs : c.args.map a.eval ++ cap = args)
    (h : Calls P f args w fun e w' => ∃ v, e = .returned v ∧ wpList P ops Q rest (a.put o.dst v) w') : wpList P ops Q (o :: rest) a w :=
  wpList_plain hg fun _ hK => by
    unfold Oper.wp
    rw [exec_fn hop hc hx he, hargs, Oper.upon_enter]
    exact h.mono fun e w' ⟨v, he, hv⟩ => by subst he; exact hK _ _ hv
end

section
variable {P : Program} {ops : Array Oper} {Q : Exit → Act → World → Prop} {rest : List Oper} {o : Oper} {a : Act} {w : World}
theorem wp_fn1 {x y : Operand} {ts : Array TypeId} {f : FuncId} {cap : Array Value} {u : Value} (hg : o.guard = none) (hop : o.op = .call { callee := .value x, args := #[y], argTypes := ts })
    (hx : a.eval x = .func (.func f) #[] cap) (he : Enters P f) (hy : a.eval y = u)
    (h : Calls P f (#[u] ++ cap) w fun e w' => ∃ v, e = .returned v ∧ wpList P ops Q rest (a.put o.dst v) w') : wpList P ops Q (o :: rest) a w :=
  wp_fn hg hop rfl hx he (by simp [hy]) h
theorem wp_fn2 {x y z : Operand} {ts : Array TypeId} {f : FuncId} {cap : Array Value} {u v : Value} (hg : o.guard = none) (hop : o.op = .call { callee := .value x, args := #[y, z], argTypes := ts })
    (hx : a.eval x = .func (.func f) #[] cap) (he : Enters P f) (hy : a.eval y = u) (hz : a.eval z = v)
    (h : Calls P f (#[u, v] ++ cap) w fun e w' => ∃ v, e = .returned v ∧ wpList P ops Q rest (a.put o.dst v) w') : wpList P ops Q (o :: rest) a w :=
  wp_fn hg hop rfl hx he (by simp [hy, hz]) h
end

/-- A contract met inside such a region. -/
theorem quietly {P : Program} {f : FuncId} {args : Array Value} {w X : World} {v : Value} (h : Calls P f args (ov w X) fun e W => e = .returned v ∧ Ov (ov w X) W) :
    Calls P f args (ov w X) fun e W => e = .returned v ∧ ∃ Y, W = ov w Y :=
  h.mono fun _ _ ⟨he, hW⟩ => ⟨he, ((Ov.refl w).ov_ X).trans hW⟩
theorem quietlyS {P : Program} {f : FuncId} {args : Array Value} {w X : World} {v : Value} (h : Calls P f args (ov w X) fun e W => e = .returned v ∧ ov w X = W) :
    Calls P f args (ov w X) fun e W => e = .returned v ∧ ∃ Y, W = ov w Y :=
  h.mono fun _ _ ⟨he, hW⟩ => ⟨he, X, hW.symm⟩
end Go.Proofs.Ytkliejppigfjiaa
