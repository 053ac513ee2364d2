/-
  The evaluator's heap beside the machine's: what it means that they agree, and that steps keep it so.
  Conditions: none.
-/
import Derived.Test.YtkliejppigfjiaaEv
namespace Go.Proofs.Ytkliejppigfjiaa.Ev
open Go.RowKit

theorem Tr.get_set {α : Type} : ∀ (f : Nat) (t : Tr α) (i : Nat) (x : Option α) (j : Nat), i < f → (Tr.set f t i x).get j = if j = i then x else t.get j
  | 0, _, i, _, _, h => by omega
  | f + 1, .lf, i, x, j, h => by
    unfold Tr.set
    by_cases hi : i = 0
    · subst hi; simp only [if_true, Tr.get]; split <;> simp
    · rw [if_neg hi]
      by_cases hm : i % 2 = 1
      · rw [if_pos hm]
        by_cases hj : j = 0
        · subst hj; simp [Tr.get, Ne.symm hi]
        · by_cases hn : j % 2 = 1
          · have := Tr.get_set f .lf (i / 2) x (j / 2) (by omega)
            simp only [Tr.get, hj, hn, if_false, if_true, this]
            by_cases e : j = i
            · subst e; simp
            · rw [if_neg (by omega), if_neg e]
          · simp only [Tr.get, hj, hn, if_false]; rw [if_neg (by omega)]
      · rw [if_neg hm]
        by_cases hj : j = 0
        · subst hj; simp [Tr.get, Ne.symm hi]
        · by_cases hn : j % 2 = 1
          · simp only [Tr.get, hj, hn, if_false, if_true]; rw [if_neg (by omega)]
          · have := Tr.get_set f .lf (i / 2 - 1) x (j / 2 - 1) (by omega)
            simp only [Tr.get, hj, hn, if_false, this]
            by_cases e : j = i
            · subst e; simp
            · rw [if_neg (by omega), if_neg e]
  | f + 1, .nd l v r, i, x, j, h => by
    unfold Tr.set
    by_cases hi : i = 0
    · subst hi; simp only [if_true, Tr.get]; split <;> simp_all
    · rw [if_neg hi]
      by_cases hm : i % 2 = 1
      · rw [if_pos hm]
        by_cases hj : j = 0
        · subst hj; simp [Tr.get, Ne.symm hi]
        · by_cases hn : j % 2 = 1
          · have := Tr.get_set f l (i / 2) x (j / 2) (by omega)
            simp only [Tr.get, hj, hn, if_false, if_true, this]
            by_cases e : j = i
            · subst e; simp
            · rw [if_neg (by omega), if_neg e]
          · simp only [Tr.get, hj, hn, if_false]; rw [if_neg (by omega)]
      · rw [if_neg hm]
        by_cases hj : j = 0
        · subst hj; simp [Tr.get, Ne.symm hi]
        · by_cases hn : j % 2 = 1
          · simp only [Tr.get, hj, hn, if_false, if_true]; rw [if_neg (by omega)]
          · have := Tr.get_set f r (i / 2 - 1) x (j / 2 - 1) (by omega)
            simp only [Tr.get, hj, hn, if_false, this]
            by_cases e : j = i
            · subst e; simp
            · rw [if_neg (by omega), if_neg e]
theorem SW.get_put (H : SW) (b : Nat) (x : Option SB) (c : Nat) : (H.put b x).get c = if c = b then x else H.get c := Tr.get_set _ _ _ _ _ (by omega)
theorem SW.get_push (H : SW) (s : SB) (c : Nat) : (H.push s).get c = if c = H.n then some s else H.get c := Tr.get_set _ _ _ _ _ (by omega)
@[simp] theorem SW.n_put (H : SW) (b : Nat) (x : Option SB) : (H.put b x).n = H.n := rfl
@[simp] theorem SW.n_push (H : SW) (s : SB) : (H.push s).n = H.n + 1 := rfl

/-- Where a block lies, and by how many elements it is longer. -/
abbrev Phi := Nat → Option (Nat × Nat)
inductive VR (φ : Phi) : Value → Value → Prop
  | sc {v : Value} (h : sc v = true) : VR φ v v
  | ptr {b g k o : Nat} (h : φ b = some (g, k)) : VR φ (.pointer (some ⟨b, o, none⟩)) (.pointer (some ⟨g, o, none⟩))
  | slc {b g k o n c : Nat} (h : φ b = some (g, k)) : VR φ (.slice (some ⟨b, o, none⟩) n c) (.slice (some ⟨g, o, none⟩) n (c + k))
  | fn {f : Nat} {ps qs xs ys : Array Value} (hp : ps.size = qs.size) (h0 : ∀ i (hx : i < ps.size) (hy : i < qs.size), VR φ ps[i] qs[i]) (hs : xs.size = ys.size) (h : ∀ i (hx : i < xs.size) (hy : i < ys.size), VR φ xs[i] ys[i]) : VR φ (.func (.func f) ps xs) (.func (.func f) qs ys)
  | yld {b g k : Nat} (h : φ b = some (g, k)) : VR φ (.func (.yield b) #[] #[]) (.func (.yield g) #[] #[])
  | agg {xs ys : Array Value} (hs : xs.size = ys.size) (h : ∀ i (hx : i < xs.size) (hy : i < ys.size), VR φ xs[i] ys[i]) : VR φ (.agg xs) (.agg ys)
  | tup {xs ys : Array Value} (hs : xs.size = ys.size) (h : ∀ i (hx : i < xs.size) (hy : i < ys.size), VR φ xs[i] ys[i]) : VR φ (.tuple xs) (.tuple ys)
  | eptr {B o : Nat} : VR φ (.pointer (some ⟨B, o, some 0⟩)) (.pointer (some ⟨B, o, none⟩))
  | eslc {B o n c : Nat} : VR φ (.slice (some ⟨B, o, some 0⟩) n c) (.slice (some ⟨B, o, none⟩) n c)
  | enil {B o c c' : Nat} {A : Option Addr} : VR φ (.slice (some ⟨B, o, some 0⟩) 0 c) (.slice A 0 c')
/-- Lists of values. -/
def LR (φ : Phi) (xs ys : List Value) : Prop := xs.length = ys.length ∧ ∀ (i : Nat) (x y : Value), xs[i]? = some x → ys[i]? = some y → VR φ x y
theorem LR.nil (φ : Phi) : LR φ [] [] := ⟨rfl, fun _ _ _ h => by simp at h⟩
theorem LR.cons {φ : Phi} {x y : Value} {xs ys : List Value} (h : VR φ x y) (hs : LR φ xs ys) : LR φ (x :: xs) (y :: ys) := by
  refine ⟨by simp [hs.1], fun i a b ha hb => ?_⟩
  cases i with
  | zero => simp at ha hb; subst ha; subst hb; exact h
  | succ i => simp at ha hb; exact hs.2 i a b ha hb
theorem LR.head {φ : Phi} {x y : Value} {xs ys : List Value} (h : LR φ (x :: xs) (y :: ys)) : VR φ x y := h.2 0 x y rfl rfl
theorem LR.tail {φ : Phi} {x y : Value} {xs ys : List Value} (h : LR φ (x :: xs) (y :: ys)) : LR φ xs ys := ⟨by simpa using h.1, fun i a b ha hb => h.2 (i + 1) a b (by simpa using ha) (by simpa using hb)⟩
theorem LR.ofArr {φ : Phi} {xs ys : Array Value} (hs : xs.size = ys.size) (h : ∀ i (hx : i < xs.size) (hy : i < ys.size), VR φ xs[i] ys[i]) : LR φ xs.toList ys.toList := by
  refine ⟨by simpa using hs, fun i a b ha hb => ?_⟩
  rw [Array.getElem?_toList] at ha hb
  obtain ⟨h1, rfl⟩ := Array.getElem?_eq_some_iff.1 ha
  obtain ⟨h2, rfl⟩ := Array.getElem?_eq_some_iff.1 hb
  exact h i h1 h2
theorem LR.toArr {φ : Phi} {xs ys : Array Value} (h : LR φ xs.toList ys.toList) : xs.size = ys.size ∧ ∀ i (hx : i < xs.size) (hy : i < ys.size), VR φ xs[i] ys[i] :=
  ⟨by simpa using h.1, fun i hx hy => h.2 i _ _ (by simp [hx]) (by simp [hy])⟩
theorem VR.aggL {φ : Phi} {xs ys : List Value} (h : LR φ xs ys) : VR φ (.agg xs.toArray) (.agg ys.toArray) := by
  obtain ⟨h1, h2⟩ := LR.toArr (xs := xs.toArray) (ys := ys.toArray) (by simpa using h)
  exact .agg h1 h2
theorem VR.tupL {φ : Phi} {xs ys : List Value} (h : LR φ xs ys) : VR φ (.tuple xs.toArray) (.tuple ys.toArray) := by
  obtain ⟨h1, h2⟩ := LR.toArr (xs := xs.toArray) (ys := ys.toArray) (by simpa using h)
  exact .tup h1 h2
theorem VR.fnL {φ : Phi} {f : Nat} {xs ys : List Value} (h : LR φ xs ys) : VR φ (.func (.func f) #[] xs.toArray) (.func (.func f) #[] ys.toArray) := by
  obtain ⟨h1, h2⟩ := LR.toArr (xs := xs.toArray) (ys := ys.toArray) (by simpa using h)
  exact .fn rfl (fun i hx => by simp at hx) h1 h2
theorem VR.fnL2 {φ : Phi} {f : Nat} {ps qs xs ys : List Value} (h0 : LR φ ps qs) (h : LR φ xs ys) : VR φ (.func (.func f) ps.toArray xs.toArray) (.func (.func f) qs.toArray ys.toArray) := by
  obtain ⟨h1, h2⟩ := LR.toArr (xs := xs.toArray) (ys := ys.toArray) (by simpa using h)
  obtain ⟨h3, h4⟩ := LR.toArr (xs := ps.toArray) (ys := qs.toArray) (by simpa using h0)
  exact .fn h3 h4 h1 h2
theorem VR.undef (φ : Phi) : VR φ undef undef := .tup rfl fun i hx => by simp at hx
theorem LR.get? {φ : Phi} {xs ys : List Value} (h : LR φ xs ys) {i : Nat} {x : Value} (hx : xs[i]? = some x) : ∃ y, ys[i]? = some y ∧ VR φ x y := by
  obtain ⟨hi, rfl⟩ := List.getElem?_eq_some_iff.1 hx
  have : i < ys.length := by rw [← h.1]; exact hi
  exact ⟨ys[i], by simp [this], h.2 i _ _ hx (by simp [this])⟩
theorem LR.append {φ : Phi} {xs ys us vs : List Value} (h : LR φ xs ys) (k : LR φ us vs) : LR φ (xs ++ us) (ys ++ vs) := by
  refine ⟨by simp [h.1, k.1], fun i a b ha hb => ?_⟩
  rw [List.getElem?_append] at ha hb
  rw [← h.1] at hb
  split at ha <;> rename_i hi
  · rw [if_pos hi] at hb; exact h.2 i a b ha hb
  · rw [if_neg hi] at hb; exact k.2 _ a b ha hb
theorem LR.drop {φ : Phi} {xs ys : List Value} (h : LR φ xs ys) (n : Nat) : LR φ (xs.drop n) (ys.drop n) := by
  refine ⟨by simp [h.1], fun i a b ha hb => ?_⟩
  rw [List.getElem?_drop] at ha hb
  exact h.2 _ a b ha hb
theorem LR.take {φ : Phi} {xs ys : List Value} (h : LR φ xs ys) (n : Nat) : LR φ (xs.take n) (ys.take n) := by
  refine ⟨by simp [h.1], fun i a b ha hb => ?_⟩
  rw [List.getElem?_take] at ha hb
  split at ha
  · rename_i hi; rw [if_pos hi] at hb; exact h.2 _ a b ha hb
  · cases ha
theorem LR.set {φ : Phi} {xs ys : List Value} (h : LR φ xs ys) (n : Nat) {x y : Value} (hv : VR φ x y) : LR φ (xs.set n x) (ys.set n y) := by
  refine ⟨by simp [h.1], fun i a b ha hb => ?_⟩
  rw [List.getElem?_set] at ha hb
  rw [← h.1] at hb
  split at ha
  · rename_i hi
    rw [if_pos hi] at hb
    split at ha
    · rename_i hl
      rw [if_pos hl] at hb
      injection ha with ha; injection hb with hb; subst ha; subst hb; exact hv
    · cases ha
  · rename_i hi; rw [if_neg hi] at hb; exact h.2 _ a b ha hb
theorem LR.map {φ : Phi} {α : Type} {f g : α → Value} : ∀ {l : List α}, (∀ x ∈ l, VR φ (f x) (g x)) → LR φ (l.map f) (l.map g)
  | [], _ => LR.nil φ
  | x :: l, h => LR.cons (h x (by simp)) (LR.map fun y hy => h y (by simp [hy]))

def Le (φ φ' : Phi) : Prop := ∀ b p, φ b = some p → φ' b = some p
theorem VR.mono {φ φ' : Phi} (hl : Le φ φ') {v v' : Value} (h : VR φ v v') : VR φ' v v' := by
  induction h with
  | sc h => exact .sc h
  | ptr h => exact .ptr (hl _ _ h)
  | slc h => exact .slc (hl _ _ h)
  | fn hp _ hs _ ih0 ih => exact .fn hp ih0 hs ih
  | yld h => exact .yld (hl _ _ h)
  | agg hs _ ih => exact .agg hs ih
  | tup hs _ ih => exact .tup hs ih
  | eptr => exact .eptr
  | eslc => exact .eslc
  | enil => exact .enil
theorem LR.mono {φ φ' : Phi} (hl : Le φ φ') {xs ys : List Value} (h : LR φ xs ys) : LR φ' xs ys := ⟨h.1, fun i a b ha hb => (h.2 i a b ha hb).mono hl⟩

theorem VR.of_sc {φ : Phi} {v v' : Value} (h : VR φ v v') (hs : Ev.sc v = true) : v' = v := by
  cases h <;> first | rfl | simp [Ev.sc] at hs
theorem LR.of_all {φ : Phi} {p : Value → Bool} (hp : ∀ v v', p v = true → VR φ v v' → v' = v) : ∀ {xs ys : List Value}, LR φ xs ys → xs.all p = true → ys = xs
  | [], [], _, _ => rfl
  | [], _ :: _, h, _ => by simp [LR] at h
  | _ :: _, [], h, _ => by simp [LR] at h
  | x :: xs, y :: ys, h, ha => by
    simp only [List.all_cons, Bool.and_eq_true] at ha
    rw [hp x y ha.1 h.head, LR.of_all hp h.tail ha.2]
theorem grd_same {φ : Phi} : ∀ (n : Nat) (v v' : Value), grd n v = true → VR φ v v' → v' = v
  | 0, v, v', h, r => r.of_sc (by simpa [grd] using h)
  | n + 1, v, v', h, r => by
    cases r with
    | agg hs hh =>
      simp only [grd] at h
      have := LR.of_all (grd_same n) (LR.ofArr hs hh) h
      rw [Array.toList_inj.1 this]
    | tup hs hh =>
      simp only [grd] at h
      have := LR.of_all (grd_same n) (LR.ofArr hs hh) h
      rw [Array.toList_inj.1 this]
    | sc h' => rfl
    | _ => simp [grd, Ev.sc] at h
theorem LR.self {φ : Phi} {p : Value → Bool} (hp : ∀ v, p v = true → VR φ v v) : ∀ {xs : List Value}, xs.all p = true → LR φ xs xs
  | [], _ => LR.nil φ
  | x :: xs, h => by
    simp only [List.all_cons, Bool.and_eq_true] at h
    exact LR.cons (hp x h.1) (LR.self hp h.2)
theorem grd_self {φ : Phi} : ∀ (n : Nat) (v : Value), grd n v = true → VR φ v v
  | 0, v, h => .sc (by simpa [grd] using h)
  | n + 1, v, h => by
    cases v with
    | agg cs =>
      simp only [grd] at h
      obtain ⟨h1, h2⟩ := LR.toArr (LR.self (φ := φ) (grd_self n) h)
      exact .agg h1 h2
    | tuple cs =>
      simp only [grd] at h
      obtain ⟨h1, h2⟩ := LR.toArr (LR.self (φ := φ) (grd_self n) h)
      exact .tup h1 h2
    | _ => exact .sc (by simpa [grd] using h)
theorem sc_cells {φ : Phi} {l : List Value} (h : l.all sc = true) : LR φ l l := LR.self (fun _ h => .sc h) h
theorem VR.cells {φ : Phi} {v v' : Value} (h : VR φ v v') : LR φ v.cells.toList v'.cells.toList := by
  cases h with
  | agg hs hh => exact LR.ofArr hs hh
  | sc h =>
    cases ‹Value› <;> first | exact LR.cons (.sc h) (LR.nil φ) | simp [Ev.sc] at h
  | ptr h => exact LR.cons (.ptr h) (LR.nil φ)
  | slc h => exact LR.cons (.slc h) (LR.nil φ)
  | fn hp h0 hs h => exact LR.cons (.fn hp h0 hs h) (LR.nil φ)
  | yld h => exact LR.cons (.yld h) (LR.nil φ)
  | tup hs h => exact LR.cons (.tup hs h) (LR.nil φ)
  | eptr => exact LR.cons .eptr (LR.nil φ)
  | eslc => exact LR.cons .eslc (LR.nil φ)
  | enil => exact LR.cons .enil (LR.nil φ)
theorem VR.one {φ : Phi} {v v' : Value} (h : VR φ v v') (h1 : v.oneCell' = true) : v'.oneCell' = true := by
  cases h <;> simp_all [Value.oneCell']
theorem LR.one {φ : Phi} : ∀ {xs ys : List Value}, LR φ xs ys → xs.all Value.oneCell' = true → ∀ v ∈ ys, v.oneCell' = true
  | [], [], _, _ => fun v h => by cases h
  | [], _ :: _, h, _ => by simp [LR] at h
  | _ :: _, [], h, _ => by simp [LR] at h
  | x :: xs, y :: ys, h, ha => fun v hv => by
    simp only [List.all_cons, Bool.and_eq_true] at ha
    rcases List.mem_cons.1 hv with rfl | hv
    · exact h.head.one ha.1
    · exact LR.one h.tail ha.2 v hv

/-! ### Heaps -/
def sz (P : Program) (t : TypeId) : Nat := ((P.info? t).map (·.size)).getD 0
def DR (φ : Phi) : List Nat → List Deferred → Prop
  | [], [] => True
  | b :: bs, d :: ds => (∃ g k, φ b = some (g, k) ∧ d = { target := .collected g, args := #[] }) ∧ DR φ bs ds
  | _, _ => False
structure AR (φ : Phi) (a : SA) (b : Act) : Prop where
  n : b.tmps.size = a.n
  get : ∀ t, VR φ (a.get t) (b.tmps.getD t undef)
  dfr : DR φ a.defers b.defers
def SBR (P : Program) (φ : Phi) (W : World) (g k : Nat) : SB → Prop
  | .cells cs t ex => ∃ ds : Array Value, W.heap[g]? = some (.cells ds t (0, 0)) ∧ (ex = true → k = 0) ∧ ds.size = cs.length + k * sz P t ∧ LR φ cs (ds.toList.take cs.length)
  | .dfr => W.heap[g]? = some (.deferred (some []))
  | .loop l => ∃ l' : Loop, W.heap[g]? = some (.loop l') ∧ l'.state = l.state ∧ l'.pending = l.pending ∧ l'.params = l.params ∧ l'.assign = l.assign ∧ l'.body = l.body ∧
      l'.tmps.size = l.act.n ∧ ∀ t, VR φ (l.act.get t) (l'.tmps.getD t undef)
structure WR (P : Program) (w0 : World) (φ : Phi) (H : SW) (W : World) : Prop where
  ov : Ov w0 W
  dom : ∀ b p, φ b = some p → b < H.n
  blk : ∀ b g k s, φ b = some (g, k) → H.get b = some s → SBR P φ W g k s
  high : ∀ b g k, φ b = some (g, k) → w0.heap.size ≤ g
  inj : ∀ b b' g k k' s s', φ b = some (g, k) → φ b' = some (g, k') → H.get b = some s → H.get b' = some s' → b = b'
structure Ext (φ : Phi) (H : SW) (φ' : Phi) (H' : SW) : Prop where
  n : H.n ≤ H'.n
  old : ∀ b, b < H.n → φ' b = φ b
  un : ∀ b, b < H.n → φ b = none → H'.get b = H.get b
theorem Ext.refl (φ : Phi) (H : SW) : Ext φ H φ H := ⟨Nat.le_refl _, fun _ _ => rfl, fun _ _ _ => rfl⟩
theorem Ext.trans {φ φ' φ'' : Phi} {H H' H'' : SW} (h : Ext φ H φ' H') (k : Ext φ' H' φ'' H'') : Ext φ H φ'' H'' :=
  ⟨Nat.le_trans h.n k.n, fun b hb => (k.old b (Nat.lt_of_lt_of_le hb h.n)).trans (h.old b hb), fun b hb hn => by
    rw [k.un b (Nat.lt_of_lt_of_le hb h.n) (by rw [h.old b hb]; exact hn), h.un b hb hn]⟩
section
variable {P : Program} {w0 : World} {φ φ' : Phi} {H H' : SW} {W W' : World}
theorem WR.le (h : WR P w0 φ H W) (e : Ext φ H φ' H') : Le φ φ' := fun b p hb => by rw [e.old b (h.dom b p hb)]; exact hb
theorem DR.mono (hl : Le φ φ') : ∀ {a : List Nat} {b : List Deferred}, DR φ a b → DR φ' a b
  | [], [], _ => trivial
  | _b :: _bs, _d :: _ds, ⟨⟨g, k, h, e⟩, hr⟩ => ⟨⟨g, k, hl _ _ h, e⟩, DR.mono hl hr⟩
  | [], _ :: _, h => h.elim
  | _ :: _, [], h => h.elim
theorem AR.mono (hl : Le φ φ') {a : SA} {b : Act} (h : AR φ a b) : AR φ' a b := ⟨h.n, fun t => (h.get t).mono hl, h.dfr.mono hl⟩
theorem SA.get_put (a : SA) (d t : Nat) (v : Value) (hd : d < a.n) : (a.put (some d) v).get t = if t = d then v else a.get t := by
  simp only [SA.put, hd, if_true, SA.get, Tr.get_set _ _ _ _ _ (Nat.lt_succ_self d)]
  by_cases e : t = d <;> simp [e]
theorem AR.put {a : SA} {b : Act} (h : AR φ a b) {v v' : Value} (hv : VR φ v v') (d : Option Tmp) : AR φ (a.put d v) (b.put d v') := by
  cases d with
  | none => exact h
  | some d =>
    by_cases hd : d < a.n
    · refine ⟨by simp [Act.put, SA.put, hd, h.n], fun t => ?_, ?_⟩
      · rw [SA.get_put _ _ _ _ hd]
        simp only [Act.put, Array.getD_eq_getD_getElem?, Array.getElem?_setIfInBounds]
        by_cases e : t = d
        · subst e
          simp [h.n, hd, hv]
        · rw [if_neg e, if_neg (Ne.symm e)]
          simpa [Array.getD_eq_getD_getElem?] using h.get t
      · simpa [SA.put, hd, Act.put] using h.dfr
    · have h1 : a.put (some d) v = a := by simp [SA.put, hd]
      have h2 : b.put (some d) v' = b := by
        have : ¬ d < b.tmps.size := by rw [h.n]; exact hd
        simp [Act.put, Array.setIfInBounds, this]
      rw [h1, h2]; exact h
theorem SBR.mono (hl : Le φ φ') {g k : Nat} {s : SB} (h : SBR P φ W g k s) : SBR P φ' W g k s := by
  cases s with
  | cells cs t ex => obtain ⟨ds, h1, h2, h3, h4⟩ := h; exact ⟨ds, h1, h2, h3, h4.mono hl⟩
  | dfr => exact h
  | loop l => obtain ⟨l', h1, h2, h3, h4, h5, h6, h7, h8⟩ := h; exact ⟨l', h1, h2, h3, h4, h5, h6, h7, fun t => (h8 t).mono hl⟩
theorem SBR.congr {g k : Nat} {s : SB} (e : W'.heap[g]? = W.heap[g]?) (h : SBR P φ W g k s) : SBR P φ W' g k s := by
  cases s <;> unfold SBR at * <;> rw [e] <;> exact h
theorem SBR.lt {g k : Nat} {s : SB} (h : SBR P φ W g k s) : g < W.heap.size := by
  have key : ∀ o, W.heap[g]? = some o → g < W.heap.size := fun o h => (Array.getElem?_eq_some_iff.1 h).1
  cases s with
  | cells cs t ex => obtain ⟨ds, h1, _⟩ := h; exact key _ h1
  | dfr => exact key _ h
  | loop l => obtain ⟨l', h1, _⟩ := h; exact key _ h1
def upd (φ : Phi) (b : Nat) (p : Nat × Nat) : Phi := fun c => if c = b then some p else φ c
@[simp] theorem upd_self (b : Nat) (p : Nat × Nat) : upd φ b p b = some p := by simp [upd]
theorem WR.fresh (h : WR P w0 φ H W) (b : Nat) (hb : H.n ≤ b) : φ b = none := by
  cases e : φ b with
  | none => rfl
  | some p => have := h.dom b p e; omega
theorem Le.upd (h : WR P w0 φ H W) (p : Nat × Nat) : Le φ (upd φ H.n p) := fun b q hb => by
  have := h.dom b q hb
  simp only [Ev.upd]; rw [if_neg (by omega)]; exact hb
/-- A new block of the evaluator's, at a block of the machine's at which no live one lies. -/
theorem WR.pushAt (h : WR P w0 φ H W) {s : SB} {g k : Nat} (hov : Ov w0 W') (hold : ∀ j, j < W.heap.size → j ≠ g → W'.heap[j]? = W.heap[j]?) (hg : w0.heap.size ≤ g)
    (hfree : ∀ c k s, φ c = some (g, k) → H.get c = some s → False) (hs : SBR P (upd φ H.n (g, k)) W' g k s) :
    WR P w0 (upd φ H.n (g, k)) (H.push s) W' ∧ Ext φ H (upd φ H.n (g, k)) (H.push s) := by
  have hl := Le.upd h (g, k)
  refine ⟨⟨hov, fun b p hb => ?_, fun b g' k' s' hb hget => ?_, fun b g' k' hb => ?_, fun b b' g' k1 k2 s1 s2 h1 h2 h3 h4 => ?_⟩, ⟨by simp, fun b hb => ?_, fun b hb _ => ?_⟩⟩
  · simp only [upd] at hb
    split at hb
    · subst_vars; simp
    · have := h.dom b p hb; simp; omega
  · simp only [upd] at hb
    rw [SW.get_push] at hget
    split at hb
    · rename_i e; subst e
      simp only [if_true, Option.some.injEq] at hget
      injection hb with hb
      obtain ⟨rfl, rfl⟩ := Prod.mk.inj hb
      subst hget; exact hs
    · rename_i e
      rw [if_neg e] at hget
      have h1 := h.blk b g' k' s' hb hget
      exact (h1.congr (hold _ h1.lt fun e' => by subst e'; exact hfree _ _ _ hb hget)).mono hl
  · simp only [upd] at hb
    split at hb
    · injection hb with hb; obtain ⟨rfl, rfl⟩ := Prod.mk.inj hb; exact hg
    · exact h.high b g' k' hb
  · simp only [upd] at h1 h2
    rw [SW.get_push] at h3 h4
    split at h1 <;> split at h2
    · subst_vars; rfl
    · rename_i e1 e2
      injection h1 with h1; obtain ⟨rfl, rfl⟩ := Prod.mk.inj h1
      rw [if_neg e2] at h4
      exact (hfree _ _ _ h2 h4).elim
    · rename_i e1 e2
      injection h2 with h2; obtain ⟨rfl, rfl⟩ := Prod.mk.inj h2
      rw [if_neg e1] at h3
      exact (hfree _ _ _ h1 h3).elim
    · rename_i e1 e2
      rw [if_neg e1] at h3; rw [if_neg e2] at h4
      exact h.inj b b' g' k1 k2 s1 s2 h1 h2 h3 h4
  · simp only [upd]; rw [if_neg (by omega)]
  · rw [SW.get_push, if_neg (by omega)]
/-- A new block of the evaluator's, new in the machine as well. -/
theorem WR.push (h : WR P w0 φ H W) {s : SB} {g k : Nat} (hov : Ov w0 W') (hold : ∀ j, j < W.heap.size → W'.heap[j]? = W.heap[j]?) (hg : W.heap.size ≤ g) (hs : SBR P (upd φ H.n (g, k)) W' g k s) :
    WR P w0 (upd φ H.n (g, k)) (H.push s) W' ∧ Ext φ H (upd φ H.n (g, k)) (H.push s) :=
  h.pushAt hov (fun j hj _ => hold j hj) (Nat.le_trans h.ov.size hg) (fun c k s hc hs => by have := (h.blk c g k s hc hs).lt; omega) hs
/-- A block is written. -/
theorem WR.put (h : WR P w0 φ H W) {b g k : Nat} {s s0 : SB} (hb : φ b = some (g, k)) (h0 : H.get b = some s0) (hov : Ov w0 W') (hold : ∀ j, j ≠ g → W'.heap[j]? = W.heap[j]?) (hs : SBR P φ W' g k s) :
    WR P w0 φ (H.put b (some s)) W' ∧ Ext φ H φ (H.put b (some s)) := by
  have live : ∀ c s', (H.put b (some s)).get c = some s' → ∃ s'', H.get c = some s'' := fun c s' hc => by
    rw [SW.get_put] at hc
    split at hc
    · subst_vars; exact ⟨s0, h0⟩
    · exact ⟨s', hc⟩
  refine ⟨⟨hov, fun c p hc => h.dom c p hc, fun c g' k' s' hc hget => ?_, h.high, fun c c' g' k1 k2 s1 s2 h1 h2 h3 h4 => ?_⟩, ⟨Nat.le_refl _, fun _ _ => rfl, fun c _ hn => ?_⟩⟩
  · rw [SW.get_put] at hget
    split at hget
    · rename_i e; subst e
      rw [hb] at hc; injection hc with hc; obtain ⟨rfl, rfl⟩ := Prod.mk.inj hc
      injection hget with hget; subst hget; exact hs
    · rename_i e
      refine (h.blk c g' k' s' hc hget).congr (hold _ fun e' => ?_)
      subst e'
      exact e (h.inj c b g' k' k s' s0 hc hb hget h0)
  · obtain ⟨u1, e1⟩ := live c s1 h3
    obtain ⟨u2, e2⟩ := live c' s2 h4
    exact h.inj c c' g' k1 k2 u1 u2 h1 h2 e1 e2
  · rw [SW.get_put, if_neg]
    rintro rfl; rw [hb] at hn; cases hn
/-- A block is dropped. -/
theorem WR.kill (h : WR P w0 φ H W) {b : Nat} {p : Nat × Nat} (hb : φ b = some p) : WR P w0 φ (H.put b none) W ∧ Ext φ H φ (H.put b none) := by
  have live : ∀ c s', (H.put b none).get c = some s' → H.get c = some s' := fun c s' hc => by
    rw [SW.get_put] at hc
    split at hc
    · cases hc
    · exact hc
  refine ⟨⟨h.ov, fun c p hc => h.dom c p hc, fun c g' k' s' hc hget => h.blk c g' k' s' hc (live _ _ hget), h.high, fun c c' g' k1 k2 s1 s2 h1 h2 h3 h4 => h.inj c c' g' k1 k2 s1 s2 h1 h2 (live _ _ h3) (live _ _ h4)⟩, ⟨Nat.le_refl _, fun _ _ => rfl, fun c _ hn => ?_⟩⟩
  rw [SW.get_put, if_neg]
  rintro rfl; rw [hb] at hn; cases hn
/-- The same evaluator's heap, the machine's world in a block that no live one lies at, or one dropped. -/
theorem WR.other (h : WR P w0 φ H W) (hov : Ov w0 W') (hold : ∀ b g k s, φ b = some (g, k) → H.get b = some s → W'.heap[g]? = W.heap[g]?) : WR P w0 φ H W' :=
  ⟨hov, h.dom, fun b g k s hb hget => (h.blk b g k s hb hget).congr (hold b g k s hb hget), h.high, h.inj⟩
end
end Go.Proofs.Ytkliejppigfjiaa.Ev
