/-
  Values by content: what a value stands for, and when a machine's value and world are as told. (Definitions, and that later steps keep it so.)
  Conditions: none.
-/
import Derived.RangeFuncLeaves
import Derived.OrdersIn
import Derived.Test.YtkliejppigfjiaaReg
import Derived.Test.YtkliejppigfjiaaGt
namespace Go.Proofs.Ytkliejppigfjiaa.Fx
open Go.RowKit

/-- (An interface value that is not nil; a map from int to bool of one's own; one that stays.) A value: without an address · a pointer to a block of one's own · to an element of a row of one's own · to memory that stays, and what it holds · a slice that stays, by what it holds · a slice of one's own · .. -/
inductive V where
  | sc (v : Value)
  | ptr (b off : Nat)
  | pe (b sz i off : Nat)
  | pv (cs : List V) (off : Nat)
  | sl (sz n : Nat) (g : Nat → V)
  | own (b sz off n : Nat)
  | agg (cs : List V)
  | tup (vs : List V)
  | fn (f : FuncId) (caps : List V)
  | mv (f : FuncId) (pre : List V)
  | yld (l : Nat)
  | ifc
  | mp (b : Nat)
  | mpv (g : Int → Bool)
@[reducible] def V.cells : V → List V
  | .agg cs => cs
  | .sc v => [.sc v]
  | .ptr b o => [.ptr b o]
  | .pe b s i o => [.pe b s i o]
  | .pv c o => [.pv c o]
  | .sl s n g => [.sl s n g]
  | .own b s o n => [.own b s o n]
  | .fn f c => [.fn f c]
  | .mv f c => [.mv f c]
  | .yld l => [.yld l]
  | .ifc => [.ifc]
  | .mp b => [.mp b]
  | .mpv g => [.mpv g]
  | .tup vs => [.tup vs]
@[reducible] def I (n : Int) : V := .sc (.int .i64 n)
@[reducible] def B (b : Bool) : V := .sc (.bool b)

abbrev Fr := List (Nat × V)
@[reducible] def fget : Fr → Nat → Option V
  | [], _ => none
  | (t, v) :: l, k => match Nat.beq t k with
    | true => some v
    | false => fget l k
/-- A range over a function: the temporaries from which each round starts, and what is done in one. -/
structure LInfo where
  fr : Fr
  ps : Array Tmp
  ag : Code
  bd : Code
  n : Nat
  tok : Nat
inductive LSt where
  | ready
  | busy
  | ret
  | exit (id : Nat)
/-- A block of one's own: cells that are known one by one, or a row of n elements (there may be room behind them); a range over a function. -/
inductive SB where
  | cells (cs : List V) (t : TypeId)
  | row (sz n : Nat) (g : Nat → V) (t : TypeId)
  | loop (i : LInfo) (s : LSt)
  | mpb (g : Int → Bool)
structure SW where
  n : Nat
  l : List (Nat × SB)
/-- Equality of small numbers, by their digits of one. -/
@[reducible] def nbeq : Nat → Nat → Bool
  | 0, 0 => true
  | Nat.succ a, Nat.succ b => nbeq a b
  | 0, Nat.succ _ => false
  | Nat.succ _, 0 => false
@[reducible] def hget : List (Nat × SB) → Nat → Option SB
  | [], _ => none
  | (b, s) :: l, k => match nbeq b k with
    | true => some s
    | false => hget l k
@[reducible] def hput : List (Nat × SB) → Nat → SB → List (Nat × SB)
  | [], _, _ => []
  | (b, s) :: l, k, x => match nbeq b k with
    | true => (b, x) :: l
    | false => (b, s) :: hput l k x
@[reducible] def hdel : List (Nat × SB) → Nat → List (Nat × SB)
  | [], _ => []
  | (b, s) :: l, k => match nbeq b k with
    | true => hdel l k
    | false => (b, s) :: hdel l k
@[reducible] def SW.get (H : SW) (b : Nat) : Option SB := hget H.l b
@[reducible] def SW.put (H : SW) (b : Nat) (x : SB) : SW := ⟨H.n, hput H.l b x⟩
@[reducible] def SW.del (H : SW) (b : Nat) : SW := ⟨H.n, hdel H.l b⟩
/-- A new block. -/
@[reducible] def pushK (H : SW) (s : SB) (K : Nat → SW → Prop) : Prop := match H.n with
  | 0 => K 0 ⟨Nat.succ 0, (0, s) :: H.l⟩
  | Nat.succ m => K (Nat.succ m) ⟨Nat.succ (Nat.succ m), (Nat.succ m, s) :: H.l⟩
@[reducible] def spineH : List (Nat × SB) → (List (Nat × SB) → Prop) → Prop
  | [], K => K []
  | (b, s) :: l, K => spineH l fun r => K ((b, s) :: r)
@[reducible] def SW.push (H : SW) (s : SB) : SW := ⟨Nat.succ H.n, (H.n, s) :: H.l⟩
theorem beq_cases (b k : Nat) : (Nat.beq b k = true ∧ b = k) ∨ (Nat.beq b k = false ∧ b ≠ k) := by
  by_cases h : b = k
  · subst h; exact .inl ⟨Nat.beq_refl b, rfl⟩
  · refine .inr ⟨?_, h⟩
    cases e : Nat.beq b k with
    | false => rfl
    | true => exact absurd (Nat.eq_of_beq_eq_true e) h
theorem nbeq_eq : ∀ (a b : Nat), nbeq a b = Nat.beq a b
  | 0, 0 => rfl
  | Nat.succ a, Nat.succ b => nbeq_eq a b
  | 0, Nat.succ _ => rfl
  | Nat.succ _, 0 => rfl
theorem nbeq_cases (b k : Nat) : (nbeq b k = true ∧ b = k) ∨ (nbeq b k = false ∧ b ≠ k) := by
  rw [nbeq_eq]; exact beq_cases b k
theorem hget_hput : ∀ (l : List (Nat × SB)) (k : Nat) (x : SB) (c : Nat), hget (hput l k x) c = if c = k ∧ (hget l k).isSome then some x else hget l c
  | [], _, _, _ => by simp [hget]
  | (b, s) :: l, k, x, c => by
    have ih := hget_hput l k x c
    rcases nbeq_cases b k with ⟨h, rfl⟩ | ⟨h, hn⟩
    · simp only [hput, h, hget]
      rcases nbeq_cases b c with ⟨h2, rfl⟩ | ⟨h2, hn2⟩
      · simp [h2]
      · simp [h2, Ne.symm hn2]
    · simp only [hput, h, hget]
      rcases nbeq_cases b c with ⟨h2, rfl⟩ | ⟨h2, hn2⟩
      · simp [h2, hn]
      · simp only [h2, ih]
theorem hget_hdel : ∀ (l : List (Nat × SB)) (k : Nat) (c : Nat), hget (hdel l k) c = if c = k then none else hget l c
  | [], _, _ => by simp [hget]
  | (b, s) :: l, k, c => by
    have ih := hget_hdel l k c
    rcases nbeq_cases b k with ⟨h, rfl⟩ | ⟨h, hn⟩
    · simp only [hdel, h, hget, ih]
      rcases nbeq_cases b c with ⟨h2, rfl⟩ | ⟨h2, hn2⟩
      · simp
      · simp [h2]
    · simp only [hdel, h, hget]
      rcases nbeq_cases b c with ⟨h2, rfl⟩ | ⟨h2, hn2⟩
      · simp [h2, hn]
      · simp only [h2, ih]
theorem SW.get_put (H : SW) (b : Nat) (x : SB) (c : Nat) : (H.put b x).get c = if c = b ∧ (H.get b).isSome then some x else H.get c := hget_hput _ _ _ _
theorem SW.get_del (H : SW) (b : Nat) (c : Nat) : (H.del b).get c = if c = b then none else H.get c := hget_hdel _ _ _
theorem SW.get_push (H : SW) (s : SB) (c : Nat) : (H.push s).get c = if c = H.n then some s else H.get c := by
  simp only [SW.get, hget]
  rcases nbeq_cases H.n c with ⟨h, e⟩ | ⟨h, e⟩
  · simp only [e.symm, if_true]
    have h2 : nbeq H.n H.n = true := by rw [nbeq_eq]; exact Nat.beq_refl _
    simp only [h2]
  · simp [h, Ne.symm e]

theorem pushK_ok {H : SW} {s : SB} {K : Nat → SW → Prop} (h : pushK H s K) : K H.n (H.push s) := by
  obtain ⟨n, l⟩ := H
  cases n <;> exact h
theorem spineH_ok : ∀ (l : List (Nat × SB)) (K : List (Nat × SB) → Prop), spineH l K → K l
  | [], _, h => h
  | (_b, _s) :: l, _K, h => spineH_ok l _ h
/-- The machine's side: blocks that stay, where the blocks of one's own lie and how many elements fit, the world, the marks of ranges over functions. -/
structure Mk where
  d : List Nat
  r : Nat → Option (Nat × Array Value)
structure Mem where
  F : Nat → Prop
  φ : Nat → Option (Nat × Nat)
  W : World
  D : Mk
/-- The world at the start, and the blocks that stayed then. -/
structure Base where
  W : World
  F : Nat → Prop
instance : Inhabited Base := ⟨⟨default, fun _ => False⟩⟩
/-- A map's entries are from int to bool, and it has f. -/
structure MapIs (es : Array MapEntry) (f : Int → Bool) : Prop where
  ty : ∀ e ∈ es.toList, ∃ a b, e.key = .int .i64 a ∧ e.val = .bool b
  nd : (es.toList.map (·.key)).Nodup
  hit : ∀ e ∈ es.toList, ∀ a b, e.key = .int .i64 a → e.val = .bool b → f a = b
  no : ∀ a, (∀ e ∈ es.toList, e.key ≠ .int .i64 a) → f a = false
theorem MapIs.congr {es : Array MapEntry} {f g : Int → Bool} (h : MapIs es f) (e : ∀ a, f a = g a) : MapIs es g := by
  obtain rfl : f = g := funext e
  exact h
inductive VR (m : Mem) : V → Value → Prop
  | sc {v : Value} (h : v.oneCell' = true) : VR m (.sc v) v
  | ptr {b g C o : Nat} (h : m.φ b = some (g, C)) : VR m (.ptr b o) (.pointer (some ⟨g, o, none⟩))
  | pe {b g C sz i o : Nat} (h : m.φ b = some (g, C)) : VR m (.pe b sz i o) (.pointer (some ⟨g, i * sz + o, none⟩))
  | pv {cs : List V} {g o off : Nat} (us : List Value) (hF : m.F g) (hl : cs.length = us.length) (h : ∀ (j : Nat) (c : V) (u : Value), cs[j]? = some c → us[j]? = some u → VR m c u)
      (hc : ∀ (j : Nat) (u : Value), us[j]? = some u → m.W.cell? ⟨g, o + j, none⟩ = some u ∧ u.oneCell' = true) : VR m (.pv cs off) (.pointer (some ⟨g, o + off, none⟩))
  | sl {sz n g o c : Nat} {e : Nat → V} (us : Nat → Value) (hnc : n ≤ c) (hF : m.F g) (h : ∀ i, i < n → VR m (e i) (us i)) (hs : ∀ i, i < n → (us i).cells.size = sz)
      (hc : ∀ i, i < n → ∀ (j : Nat) (u : Value), (us i).cells[j]? = some u → m.W.cell? ⟨g, o + (i * sz + j), none⟩ = some u ∧ u.oneCell' = true) : VR m (.sl sz n e) (.slice (some ⟨g, o, none⟩) n c)
  | sl0 {sz c : Nat} {e : Nat → V} {A : Option Addr} : VR m (.sl sz 0 e) (.slice A 0 c)
  | own {b g C sz off n : Nat} (h : m.φ b = some (g, C)) (hle : off + n ≤ C) : VR m (.own b sz off n) (.slice (some ⟨g, off * sz, none⟩) n (C - off))
  | own0 {b sz : Nat} : VR m (.own b sz 0 0) (.slice none 0 0)
  | agg {xs : List V} {ys : Array Value} (hs : xs.length = ys.toList.length) (h : ∀ (i : Nat) (x : V) (y : Value), xs[i]? = some x → ys.toList[i]? = some y → VR m x y) : VR m (.agg xs) (.agg ys)
  | tup {xs : List V} {ys : Array Value} (hs : xs.length = ys.toList.length) (h : ∀ (i : Nat) (x : V) (y : Value), xs[i]? = some x → ys.toList[i]? = some y → VR m x y) : VR m (.tup xs) (.tuple ys)
  | fn {f : Nat} {xs : List V} {ys : Array Value} (hs : xs.length = ys.toList.length) (h : ∀ (i : Nat) (x : V) (y : Value), xs[i]? = some x → ys.toList[i]? = some y → VR m x y) : VR m (.fn f xs) (.func (.func f) #[] ys)
  | mv {f : Nat} {xs : List V} {ys : Array Value} (hs : xs.length = ys.toList.length) (h : ∀ (i : Nat) (x : V) (y : Value), xs[i]? = some x → ys.toList[i]? = some y → VR m x y) : VR m (.mv f xs) (.func (.func f) ys #[])
  | yld {l g k : Nat} (h : m.φ l = some (g, k)) : VR m (.yld l) (.func (.yield g) #[] #[])
  | ifc {t : TypeId} {v : Value} : VR m .ifc (.iface t v)
  | mp {b g C : Nat} (h : m.φ b = some (g, C)) : VR m (.mp b) (.map (some g))
  | mpv {f : Int → Bool} {g cl : Nat} {es : Array MapEntry} (hF : m.F g) (h : m.W.heap[g]? = some (.map es cl)) (hm : MapIs es f) : VR m (.mpv f) (.map (some g))
/-- Lists of values. -/
def LR (m : Mem) (xs : List V) (ys : List Value) : Prop := xs.length = ys.length ∧ ∀ (i : Nat) (x : V) (y : Value), xs[i]? = some x → ys[i]? = some y → VR m x y
section
variable {m m' : Mem}
theorem LR.nil (m : Mem) : LR m [] [] := ⟨rfl, fun _ _ _ h => by simp at h⟩
theorem LR.cons {x : V} {y : Value} {xs : List V} {ys : List Value} (h : VR m x y) (hs : LR m xs ys) : LR m (x :: xs) (y :: ys) := by
  refine ⟨by simp [hs.1], fun i a b ha hb => ?_⟩
  cases i with
  | zero => simp at ha hb; subst ha; subst hb; exact h
  | succ i => simp at ha hb; exact hs.2 i a b ha hb
theorem LR.head {x : V} {y : Value} {xs : List V} {ys : List Value} (h : LR m (x :: xs) (y :: ys)) : VR m x y := h.2 0 x y rfl rfl
theorem LR.tail {x : V} {y : Value} {xs : List V} {ys : List Value} (h : LR m (x :: xs) (y :: ys)) : LR m xs ys := ⟨by simpa using h.1, fun i a b ha hb => h.2 (i + 1) a b (by simpa using ha) (by simpa using hb)⟩
theorem LR.one {x : V} {y : Value} (h : VR m x y) : LR m [x] [y] := .cons h (.nil m)
theorem LR.get? {xs : List V} {ys : List Value} (h : LR m xs ys) {i : Nat} {x : V} (hx : xs[i]? = some x) : ∃ y, ys[i]? = some y ∧ VR m x y := by
  obtain ⟨hi, rfl⟩ := List.getElem?_eq_some_iff.1 hx
  have : i < ys.length := by rw [← h.1]; exact hi
  exact ⟨ys[i], by simp [this], h.2 i _ _ hx (by simp [this])⟩
theorem LR.append {xs us : List V} {ys vs : List Value} (h : LR m xs ys) (k : LR m us vs) : LR m (xs ++ us) (ys ++ vs) := by
  refine ⟨by simp [h.1, k.1], fun i a b ha hb => ?_⟩
  rw [List.getElem?_append] at ha hb
  rw [← h.1] at hb
  split at ha <;> rename_i hi
  · rw [if_pos hi] at hb; exact h.2 i a b ha hb
  · rw [if_neg hi] at hb; exact k.2 _ a b ha hb
theorem LR.drop {xs : List V} {ys : List Value} (h : LR m xs ys) (n : Nat) : LR m (xs.drop n) (ys.drop n) := by
  refine ⟨by simp [h.1], fun i a b ha hb => ?_⟩
  rw [List.getElem?_drop] at ha hb
  exact h.2 _ a b ha hb
theorem LR.take {xs : List V} {ys : List Value} (h : LR m xs ys) (n : Nat) : LR m (xs.take n) (ys.take n) := by
  refine ⟨by simp [h.1], fun i a b ha hb => ?_⟩
  rw [List.getElem?_take] at ha hb
  split at ha
  · rename_i hi; rw [if_pos hi] at hb; exact h.2 _ a b ha hb
  · cases ha
theorem LR.set {xs : List V} {ys : List Value} (h : LR m xs ys) (n : Nat) {x : V} {y : Value} (hv : VR m x y) : LR m (xs.set n x) (ys.set n y) := by
  refine ⟨by simp [h.1], fun i a b ha hb => ?_⟩
  rw [List.getElem?_set] at ha hb
  rw [← h.1] at hb
  split at ha
  · rename_i hi
    rw [if_pos hi] at hb
    split at ha
    · rename_i hl
      rw [if_pos hl] at hb
      injection ha with ha; injection hb with hb; subst ha; subst hb; exact hv
    · cases ha
  · rename_i hi; rw [if_neg hi] at hb; exact h.2 _ a b ha hb
theorem LR.map {α : Type} {f : α → V} {g : α → Value} : ∀ {l : List α}, (∀ x ∈ l, VR m (f x) (g x)) → LR m (l.map f) (l.map g)
  | [], _ => LR.nil m
  | x :: l, h => LR.cons (h x (by simp)) (LR.map fun y hy => h y (by simp [hy]))
theorem VR.aggL {xs : List V} {ys : Array Value} (h : LR m xs ys.toList) : VR m (.agg xs) (.agg ys) := .agg h.1 h.2
theorem VR.tupL {xs : List V} {ys : Array Value} (h : LR m xs ys.toList) : VR m (.tup xs) (.tuple ys) := .tup h.1 h.2
theorem VR.fnL {f : Nat} {xs : List V} {ys : Array Value} (h : LR m xs ys.toList) : VR m (.fn f xs) (.func (.func f) #[] ys) := .fn h.1 h.2
theorem VR.mvL {f : Nat} {xs : List V} {ys : Array Value} (h : LR m xs ys.toList) : VR m (.mv f xs) (.func (.func f) ys #[]) := .mv h.1 h.2
theorem VR.undef (m : Mem) : VR m (.tup []) undef := .tup rfl fun i x y hx => by simp at hx
theorem VR.of_sc {v v' : Value} (h : VR m (.sc v) v') : v' = v := by cases h; rfl
theorem VR.cells {v : V} {u : Value} (h : VR m v u) : LR m v.cells u.cells.toList := by
  cases h with
  | agg hs hh => exact ⟨hs, hh⟩
  | sc h => cases u <;> first | exact LR.one (.sc h) | cases h
  | ptr h => exact LR.one (.ptr h)
  | pe h => exact LR.one (.pe h)
  | pv us hF hl h hc => exact LR.one (.pv us hF hl h hc)
  | sl us hnc hF h hs hc => exact LR.one (.sl us hnc hF h hs hc)
  | sl0 => exact LR.one .sl0
  | own h hle => exact LR.one (.own h hle)
  | own0 => exact LR.one .own0
  | tup hs hh => exact LR.one (.tup hs hh)
  | fn hs hh => exact LR.one (.fn hs hh)
  | mv hs hh => exact LR.one (.mv hs hh)
  | yld h => exact LR.one (.yld h)
  | ifc => exact LR.one .ifc
  | mp h => exact LR.one (.mp h)
  | mpv hF h hm => exact LR.one (.mpv hF h hm)
/-- A value that lies in one cell. -/
@[reducible] def V.one : V → Bool
  | .agg _ => false
  | .tup _ => false
  | .sc _ => true
  | .ptr .. => true
  | .pe .. => true
  | .pv .. => true
  | .sl .. => true
  | .own .. => true
  | .fn .. => true
  | .mv .. => true
  | .yld .. => true
  | .ifc => true
  | .mp .. => true
  | .mpv .. => true
theorem VR.one {v : V} {u : Value} (h : VR m v u) (h1 : v.one = true) : u.oneCell' = true := by
  cases h <;> first | assumption | rfl | cases h1
@[reducible] def ones : List V → Bool
  | [] => true
  | v :: l => match v.one with
    | true => ones l
    | false => false
theorem LR.ones : ∀ {xs : List V} {ys : List Value}, LR m xs ys → ones xs = true → ∀ u ∈ ys, u.oneCell' = true
  | [], [], _, _ => fun v h => by cases h
  | [], _ :: _, h, _ => by simp [LR] at h
  | _ :: _, [], h, _ => by simp [LR] at h
  | x :: xs, y :: ys, h, ha => fun v hv => by
    simp only [Fx.ones] at ha
    split at ha
    · rename_i h1
      rcases List.mem_cons.1 hv with rfl | hv
      · exact h.head.one h1
      · exact LR.ones h.tail ha v hv
    · cases ha

/-- Nothing that stays is changed; the old blocks lie where they lay. -/
structure Le (m m' : Mem) : Prop where
  φ : ∀ b p, m.φ b = some p → m'.φ b = some p
  F : ∀ g, m.F g → m'.F g
  mem : ∀ g, m.F g → m'.W.heap[g]? = m.W.heap[g]?
theorem Le.refl (m : Mem) : Le m m := ⟨fun _ _ h => h, fun _ h => h, fun _ _ => rfl⟩
theorem Le.trans {a b c : Mem} (h : Le a b) (k : Le b c) : Le a c := ⟨fun b p e => k.φ b p (h.φ b p e), fun g e => k.F g (h.F g e), fun g e => (k.mem g (h.F g e)).trans (h.mem g e)⟩
theorem cell_congr {W W' : World} {a : Addr} (h : W'.heap[a.block]? = W.heap[a.block]?) : W'.cell? a = W.cell? a := by simp only [World.cell?, h]
theorem VR.mono (hl : Le m m') {v : V} {u : Value} (h : VR m v u) : VR m' v u := by
  induction h with
  | sc h => exact .sc h
  | ptr h => exact .ptr (hl.φ _ _ h)
  | pe h => exact .pe (hl.φ _ _ h)
  | pv us hF hle _ hc ih => exact .pv us (hl.F _ hF) hle ih fun j u hu => by rw [cell_congr (hl.mem _ hF)]; exact hc j u hu
  | sl us hnc hF _ hs hc ih => exact .sl us hnc (hl.F _ hF) ih hs fun i hi j u hu => by rw [cell_congr (hl.mem _ hF)]; exact hc i hi j u hu
  | sl0 => exact .sl0
  | own h hle => exact .own (hl.φ _ _ h) hle
  | own0 => exact .own0
  | agg hs _ ih => exact .agg hs ih
  | tup hs _ ih => exact .tup hs ih
  | fn hs _ ih => exact .fn hs ih
  | mv hs _ ih => exact .mv hs ih
  | yld h => exact .yld (hl.φ _ _ h)
  | ifc => exact .ifc
  | mp h => exact .mp (hl.φ _ _ h)
  | mpv hF h hm => exact .mpv (hl.F _ hF) (by rw [hl.mem _ hF]; exact h) hm
theorem LR.mono (hl : Le m m') {xs : List V} {ys : List Value} (h : LR m xs ys) : LR m' xs ys := ⟨h.1, fun i a b ha hb => (h.2 i a b ha hb).mono hl⟩

/-! ### Heaps -/
def RowR (m : Mem) (sz n : Nat) (e : Nat → V) (ds : List Value) : Prop := ∃ us : Nat → Value, ∀ i, i < n → VR m (e i) (us i) ∧ (us i).cells.size = sz ∧ ∀ (j : Nat) (u : Value), (us i).cells[j]? = some u → ds[i * sz + j]? = some u ∧ u.oneCell' = true
def LSt.of : LSt → LoopState × Option Code
  | .ready => (.ready, none)
  | .busy => (.busy, none)
  | .ret => (.done, some .ret)
  | .exit id => (.done, some (.exit id))
structure LoopR (m : Mem) (g : Nat) (i : LInfo) (s : LSt) (r : Loop) : Prop where
  at_ : m.W.heap[g]? = some (.loop r)
  tok : m.D.r i.tok = some (g, r.tmps)
  st : r.state = s.of.1
  pe : r.pending = s.of.2
  ps : r.params = i.ps
  ag : r.assign = i.ag
  bd : r.body = i.bd
  n : r.tmps.size = i.n
  fr : ∀ t v, fget i.fr t = some v → VR m v (r.tmps.getD t undef)
def SBR (m : Mem) (g C : Nat) : SB → Prop
  | .loop i s => ∃ r : Loop, LoopR m g i s r
  | .mpb f => ∃ (es : Array MapEntry) (cl : Nat), m.W.heap[g]? = some (.map es cl) ∧ MapIs es f
  | .cells cs t => ∃ ds : Array Value, m.W.heap[g]? = some (.cells ds t (0, 0)) ∧ LR m cs ds.toList
  | .row sz n e t => ∃ ds : Array Value, m.W.heap[g]? = some (.cells ds t (0, 0)) ∧ ds.size = C * sz ∧ n ≤ C ∧ RowR m sz n e ds.toList
/-- The package-level variables that the statement lists stay, and hold what it says. -/
@[reducible] def ggetL : List (Nat × List Value) → Nat → Option (List Value)
  | [], _ => none
  | (b, s) :: l, k => match nbeq b k with
    | true => some s
    | false => ggetL l k
def GlOK (m : Mem) : Prop := ∀ g cs, ggetL gtab g = some cs → m.F g ∧ ∀ (j : Nat) (u : Value), cs[j]? = some u → m.W.cell? ⟨g, j, none⟩ = some u ∧ u.oneCell' = true
theorem GlOK.mono {m m' : Mem} (h : GlOK m) (hF : ∀ g, m.F g → m'.F g) (hm : ∀ g, m.F g → m'.W.heap[g]? = m.W.heap[g]?) : GlOK m' := fun g cs hg =>
  ⟨hF g (h g cs hg).1, fun j u hu => by rw [cell_congr (hm g (h g cs hg).1)]; exact (h g cs hg).2 j u hu⟩
structure WR (w0 : Base) (m : Mem) (H : SW) : Prop where
  ov : Ov w0.W m.W
  dom : ∀ b p, m.φ b = some p → b < H.n
  hdom : ∀ b s, H.get b = some s → b < H.n
  blk : ∀ b g C s, m.φ b = some (g, C) → H.get b = some s → SBR m g C s
  high : ∀ b g C s, m.φ b = some (g, C) → H.get b = some s → w0.W.heap.size ≤ g ∧ ¬ m.F g
  inj : ∀ b b' g C C' s s', m.φ b = some (g, C) → m.φ b' = some (g, C') → H.get b = some s → H.get b' = some s' → b = b'
  fr : ∀ g, m.F g → g < m.W.heap.size
  marks : ∀ g ∈ m.D.d, w0.W.heap.size ≤ g ∧ ¬ m.F g ∧ m.W.heap[g]? = some (.deferred (some []))
  uniq : m.D.d.Nodup
  new : ∀ g, m.F g → w0.F g ∨ w0.W.heap.size ≤ g
  gl : GlOK m
structure Ext (m : Mem) (H : SW) (m' : Mem) (H' : SW) : Prop extends Le m m' where
  n : H.n ≤ H'.n
  old : ∀ b, b < H.n → m'.φ b = m.φ b
  un : ∀ b cs t, b < H.n → m.φ b = none → H.get b = some (.cells cs t) → H'.get b = some (.cells cs t)
theorem Ext.refl (m : Mem) (H : SW) : Ext m H m H := ⟨Le.refl m, Nat.le_refl _, fun _ _ => rfl, fun _ _ _ _ _ h => h⟩
theorem Ext.trans {a b c : Mem} {H H' H'' : SW} (h : Ext a H b H') (k : Ext b H' c H'') : Ext a H c H'' :=
  ⟨h.toLe.trans k.toLe, Nat.le_trans h.n k.n, fun b hb => (k.old b (Nat.lt_of_lt_of_le hb h.n)).trans (h.old b hb), fun b cs t hb hn hg =>
    k.un b cs t (Nat.lt_of_lt_of_le hb h.n) (by rw [h.old b hb]; exact hn) (h.un b cs t hb hn hg)⟩
end
section
variable {m m' : Mem} {H H' : SW} {w0 : Base}
theorem RowR.mono (hl : Le m m') {sz n : Nat} {e : Nat → V} {ds : List Value} (h : RowR m sz n e ds) : RowR m' sz n e ds := by
  obtain ⟨us, h4⟩ := h
  exact ⟨us, fun i hi => ⟨(h4 i hi).1.mono hl, (h4 i hi).2⟩⟩
theorem SBR.mono (hl : Le m m') (hD : m'.D.r = m.D.r) {g C : Nat} {s : SB} (e : m'.W.heap[g]? = m.W.heap[g]?) (h : SBR m g C s) : SBR m' g C s := by
  cases s with
  | loop i s =>
    obtain ⟨r, h⟩ := h
    exact ⟨r, by rw [e]; exact h.at_, by rw [hD]; exact h.tok, h.st, h.pe, h.ps, h.ag, h.bd, h.n, fun t v hv => (h.fr t v hv).mono hl⟩
  | cells cs t => obtain ⟨ds, h1, h2⟩ := h; exact ⟨ds, by rw [e]; exact h1, h2.mono hl⟩
  | row sz n x t => obtain ⟨ds, h1, h2, h3, h4⟩ := h; exact ⟨ds, by rw [e]; exact h1, h2, h3, h4.mono hl⟩
  | mpb f => obtain ⟨es, cl, h1, h2⟩ := h; exact ⟨es, cl, by rw [e]; exact h1, h2⟩
theorem SBR.lt {g C : Nat} {s : SB} (h : SBR m g C s) : g < m.W.heap.size := by
  cases s with
  | loop i s => obtain ⟨r, h1⟩ := h; exact (Array.getElem?_eq_some_iff.1 h1.at_).1
  | cells cs t => obtain ⟨ds, h1, _⟩ := h; exact (Array.getElem?_eq_some_iff.1 h1).1
  | row sz n x t => obtain ⟨ds, h1, _⟩ := h; exact (Array.getElem?_eq_some_iff.1 h1).1
  | mpb f => obtain ⟨es, cl, h1, _⟩ := h; exact (Array.getElem?_eq_some_iff.1 h1).1
theorem SBR.noMark {g C : Nat} {s : SB} (h : SBR m g C s) {x : Option (List Deferred)} (e : m.W.heap[g]? = some (.deferred x)) : False := by
  cases s with
  | loop i s => obtain ⟨r, h1⟩ := h; rw [h1.at_] at e; cases e
  | cells cs t => obtain ⟨ds, h1, _⟩ := h; rw [h1] at e; cases e
  | row sz n x t => obtain ⟨ds, h1, _⟩ := h; rw [h1] at e; cases e
  | mpb f => obtain ⟨es, cl, h1, _⟩ := h; rw [h1] at e; cases e
def upd (φ : Nat → Option (Nat × Nat)) (b : Nat) (p : Nat × Nat) : Nat → Option (Nat × Nat) := fun c => if c = b then some p else φ c
@[simp] theorem upd_self (φ : Nat → Option (Nat × Nat)) (b : Nat) (p : Nat × Nat) : upd φ b p b = some p := by simp [upd]
theorem WR.fresh (h : WR w0 m H) (b : Nat) (hb : H.n ≤ b) : m.φ b = none := by
  cases e : m.φ b with
  | none => rfl
  | some p => have := h.dom b p e; omega
theorem WR.hfresh (h : WR w0 m H) (b : Nat) (hb : H.n ≤ b) : H.get b = none := by
  cases e : H.get b with
  | none => rfl
  | some p => have := h.hdom b p e; omega
/-- A new block of one's own, at a block of the machine's at which no live one lies. -/
theorem WR.pushAt (h : WR w0 m H) {W' : World} {s : SB} {g C : Nat} (hov : Ov w0.W W') (hold : ∀ j, j < m.W.heap.size → j ≠ g → W'.heap[j]? = m.W.heap[j]?) (hsz : m.W.heap.size ≤ W'.heap.size) (hg : w0.W.heap.size ≤ g)
    (hF : ¬ m.F g) (hD : g ∉ m.D.d) (hfree : ∀ c k s, m.φ c = some (g, k) → H.get c = some s → False) (hs : SBR { m with φ := upd m.φ H.n (g, C), W := W' } g C s) :
    WR w0 { m with φ := upd m.φ H.n (g, C), W := W' } (H.push s) ∧ Ext m H { m with φ := upd m.φ H.n (g, C), W := W' } (H.push s) := by
  have hl : Le m { m with φ := upd m.φ H.n (g, C), W := W' } := ⟨fun b q hb => by
    have := h.dom b q hb
    simp only [Fx.upd]; rw [if_neg (by omega)]; exact hb, fun _ h => h, fun j hj => hold j (h.fr j hj) (by rintro rfl; exact hF hj)⟩
  refine ⟨⟨hov, fun b p hb => ?_, fun b s' hb => ?_, fun b g' k' s' hb hget => ?_, fun b g' k' s' hb hget => ?_, fun b b' g' k1 k2 s1 s2 h1 h2 h3 h4 => ?_, fun j hj => Nat.lt_of_lt_of_le (h.fr j hj) hsz, fun j hj => ?_, h.uniq, h.new, h.gl.mono hl.F hl.mem⟩, ⟨hl, by simp, fun b hb => ?_, fun b cs t hb _ hg => ?_⟩⟩
  · simp only [upd] at hb
    split at hb
    · subst_vars; simp
    · have := h.dom b p hb; simp; omega
  · rw [SW.get_push] at hb
    split at hb
    · subst_vars; simp
    · have := h.hdom b s' hb; simp; omega
  · simp only [upd] at hb
    rw [SW.get_push] at hget
    split at hb
    · rename_i e; subst e
      simp only [if_true, Option.some.injEq] at hget
      injection hb with hb
      obtain ⟨rfl, rfl⟩ := Prod.mk.inj hb
      subst hget; exact hs
    · rename_i e
      rw [if_neg e] at hget
      have h1 := h.blk b g' k' s' hb hget
      exact h1.mono hl rfl (hold _ h1.lt fun e' => by subst e'; exact hfree _ _ _ hb hget)
  · simp only [upd] at hb
    rw [SW.get_push] at hget
    split at hb
    · injection hb with hb; obtain ⟨rfl, rfl⟩ := Prod.mk.inj hb; exact ⟨hg, hF⟩
    · rename_i e
      rw [if_neg e] at hget
      exact h.high b g' k' s' hb hget
  · simp only [upd] at h1 h2
    rw [SW.get_push] at h3 h4
    split at h1 <;> split at h2
    · subst_vars; rfl
    · rename_i e1 e2
      injection h1 with h1; obtain ⟨rfl, rfl⟩ := Prod.mk.inj h1
      rw [if_neg e2] at h4
      exact (hfree _ _ _ h2 h4).elim
    · rename_i e1 e2
      injection h2 with h2; obtain ⟨rfl, rfl⟩ := Prod.mk.inj h2
      rw [if_neg e1] at h3
      exact (hfree _ _ _ h1 h3).elim
    · rename_i e1 e2
      rw [if_neg e1] at h3; rw [if_neg e2] at h4
      exact h.inj b b' g' k1 k2 s1 s2 h1 h2 h3 h4
  · obtain ⟨h1, h2, h3⟩ := h.marks j hj
    refine ⟨h1, h2, ?_⟩
    rw [← h3]
    exact hold j (Array.getElem?_eq_some_iff.1 h3).1 (by rintro rfl; exact hD hj)
  · simp only [upd]; rw [if_neg (by omega)]
  · rw [SW.get_push, if_neg (by omega)]; exact hg
/-- A new block of one's own, new in the machine as well. -/
theorem WR.pushNew (h : WR w0 m H) {W' : World} {s : SB} {g C : Nat} (hov : Ov w0.W W') (hold : ∀ j, j < m.W.heap.size → W'.heap[j]? = m.W.heap[j]?) (hsz : m.W.heap.size ≤ W'.heap.size) (hg : m.W.heap.size ≤ g) (hs : SBR { m with φ := upd m.φ H.n (g, C), W := W' } g C s) :
    WR w0 { m with φ := upd m.φ H.n (g, C), W := W' } (H.push s) ∧ Ext m H { m with φ := upd m.φ H.n (g, C), W := W' } (H.push s) :=
  h.pushAt hov (fun j hj _ => hold j hj) hsz (Nat.le_trans h.ov.size hg) (fun hF => by have := h.fr g hF; omega) (fun hD => by have := (Array.getElem?_eq_some_iff.1 (h.marks g hD).2.2).1; omega)
    (fun c k s hc hs => by have := (h.blk c g k s hc hs).lt; omega) hs
/-- A block is written. -/
theorem WR.write (h : WR w0 m H) {W' : World} {b g C : Nat} {s s0 : SB} (hb : m.φ b = some (g, C)) (h0 : H.get b = some s0) (hov : Ov w0.W W') (hold : ∀ j, j ≠ g → W'.heap[j]? = m.W.heap[j]?) (hsz : m.W.heap.size ≤ W'.heap.size) (hs : SBR { m with W := W' } g C s) :
    WR w0 { m with W := W' } (H.put b s) ∧ Ext m H { m with W := W' } (H.put b s) := by
  have live : ∀ c s', (H.put b s).get c = some s' → ∃ s'', H.get c = some s'' := fun c s' hc => by
    rw [SW.get_put] at hc
    split at hc
    · rename_i e; obtain ⟨rfl, _⟩ := e; exact ⟨s0, h0⟩
    · exact ⟨s', hc⟩
  obtain ⟨hh1, hh2⟩ := h.high b g C s0 hb h0
  have hl : Le m { m with W := W' } := ⟨fun _ _ h => h, fun _ h => h, fun j hj => hold j (by rintro rfl; exact hh2 hj)⟩
  have hD : ∀ j ∈ m.D.d, j ≠ g := fun j hj e => by
    subst e
    exact (h.blk b j C s0 hb h0).noMark (h.marks j hj).2.2
  refine ⟨⟨hov, fun c p hc => h.dom c p hc, fun c s' hc => ?_, fun c g' k' s' hc hget => ?_, fun c g' k' s' hc hget => ?_, fun c c' g' k1 k2 s1 s2 h1 h2 h3 h4 => ?_, fun j hj => Nat.lt_of_lt_of_le (h.fr j hj) hsz, fun j hj => ?_, h.uniq, h.new, h.gl.mono hl.F hl.mem⟩,
    ⟨hl, Nat.le_refl _, fun _ _ => rfl, fun c cs t _ hn hg => ?_⟩⟩
  · obtain ⟨s'', e⟩ := live c s' hc; exact h.hdom c s'' e
  · rw [SW.get_put] at hget
    split at hget
    · rename_i e; obtain ⟨rfl, _⟩ := e
      have hc' : m.φ c = some (g', k') := hc
      rw [hb] at hc'; injection hc' with hc'; obtain ⟨rfl, rfl⟩ := Prod.mk.inj hc'
      injection hget with hget; subst hget; exact hs
    · rename_i e
      refine (h.blk c g' k' s' hc hget).mono hl rfl (hold _ fun e' => ?_)
      subst e'
      exact e ⟨h.inj c b g' k' C s' s0 hc hb hget h0, by rw [h0]; rfl⟩
  · obtain ⟨s'', e⟩ := live c s' hget; exact h.high c g' k' s'' hc e
  · obtain ⟨u1, e1⟩ := live c s1 h3
    obtain ⟨u2, e2⟩ := live c' s2 h4
    exact h.inj c c' g' k1 k2 u1 u2 h1 h2 e1 e2
  · obtain ⟨h1, h2, h3⟩ := h.marks j hj
    exact ⟨h1, h2, by rw [← h3]; exact hold j (hD j hj)⟩
  · rw [SW.get_put, if_neg]
    · exact hg
    · rintro ⟨rfl, _⟩; rw [hb] at hn; cases hn
/-- A block is dropped. -/
theorem WR.kill (h : WR w0 m H) {b : Nat} (hb : m.φ b ≠ none ∨ ∀ cs t, H.get b ≠ some (.cells cs t)) : WR w0 m (H.del b) ∧ Ext m H m (H.del b) := by
  have live : ∀ c s', (H.del b).get c = some s' → H.get c = some s' := fun c s' hc => by
    rw [SW.get_del] at hc
    split at hc
    · cases hc
    · exact hc
  refine ⟨⟨h.ov, h.dom, fun c s' hc => h.hdom c s' (live _ _ hc), fun c g' k' s' hc hget => h.blk c g' k' s' hc (live _ _ hget), fun c g' k' s' hc hget => h.high c g' k' s' hc (live _ _ hget), fun c c' g' k1 k2 s1 s2 h1 h2 h3 h4 => h.inj c c' g' k1 k2 s1 s2 h1 h2 (live _ _ h3) (live _ _ h4),
    h.fr, h.marks, h.uniq, h.new, h.gl⟩, ⟨Le.refl m, Nat.le_refl _, fun _ _ => rfl, fun c cs t hlt hn hg => ?_⟩⟩
  rw [SW.get_del, if_neg]
  · exact hg
  · rintro rfl
    rcases hb with hb | hb
    · exact hb hn
    · exact hb cs t hg
/-- The machine's world alone changes, in blocks that nobody knows. -/
theorem WR.other (h : WR w0 m H) {W' : World} (hov : Ov w0.W W') (hold : ∀ b g k s, m.φ b = some (g, k) → H.get b = some s → W'.heap[g]? = m.W.heap[g]?) (hF : ∀ g, m.F g → W'.heap[g]? = m.W.heap[g]?) (hsz : m.W.heap.size ≤ W'.heap.size)
    (hD : ∀ g ∈ m.D.d, W'.heap[g]? = m.W.heap[g]?) : WR w0 { m with W := W' } H ∧ Ext m H { m with W := W' } H := by
  have hl : Le m { m with W := W' } := ⟨fun _ _ h => h, fun _ h => h, hF⟩
  exact ⟨⟨hov, h.dom, h.hdom, fun b g k s hb hget => (h.blk b g k s hb hget).mono hl rfl (hold b g k s hb hget), h.high, h.inj, fun g hg => Nat.lt_of_lt_of_le (h.fr g hg) hsz, fun g hg => by
    obtain ⟨h1, h2, h3⟩ := h.marks g hg
    exact ⟨h1, h2, by rw [← h3]; exact hD g hg⟩, h.uniq, h.new, h.gl.mono hl.F hl.mem⟩, ⟨hl, Nat.le_refl _, fun _ _ => rfl, fun _ _ _ _ _ h => h⟩⟩
end
end Go.Proofs.Ytkliejppigfjiaa.Fx
