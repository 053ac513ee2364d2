/-
  Chapter 3: which edits stand, and what they make of a trace: plain laws.
  Conditions: none.
-/
import Derived.Test.Ytkliejppigfjiaa3Nb
namespace Go.Proofs.Ytkliejppigfjiaa
open Go.RowKit Fx
def wdK (l : List Ed) : Nat → Int → Bool
  | 0 => fun _ => false
  | k + 1 => if wdK l k (l.getD (l.length - 1 - k) edD).no = true then wdK l k else if (l.getD (l.length - 1 - k) edD).kd = 2 then upM (wdK l k) (l.getD (l.length - 1 - k) edD).ro true else wdK l k
def stB (l : List Ed) (i : Nat) : Bool := !(wdK l (l.length - 1 - i) (l.getD i edD).no)
theorem wdK_iff {l : List Ed} {a : Int} : ∀ k, k ≤ l.length → (wdK l k a = true ↔ ∃ j, l.length - k ≤ j ∧ j < l.length ∧ (l.getD j edD).kd = 2 ∧ (l.getD j edD).ro = a ∧ stB l j = true)
  | 0, _ => by
    constructor
    · intro h; cases h
    · rintro ⟨j, h1, h2, _⟩; omega
  | k + 1, hk => by
    have ih := wdK_iff (l := l) (a := a) k (by omega)
    have ei : l.length - 1 - (l.length - 1 - k) = k := by omega
    have es : stB l (l.length - 1 - k) = !(wdK l k (l.getD (l.length - 1 - k) edD).no) := by unfold stB; rw [ei]
    have more : (∃ j, l.length - (k + 1) ≤ j ∧ j < l.length ∧ (l.getD j edD).kd = 2 ∧ (l.getD j edD).ro = a ∧ stB l j = true) ↔ (((l.getD (l.length - 1 - k) edD).kd = 2 ∧ (l.getD (l.length - 1 - k) edD).ro = a ∧ stB l (l.length - 1 - k) = true) ∨ ∃ j, l.length - k ≤ j ∧ j < l.length ∧ (l.getD j edD).kd = 2 ∧ (l.getD j edD).ro = a ∧ stB l j = true) := by
      constructor
      · rintro ⟨j, h1, h2, h3, h4, h5⟩
        by_cases e : j = l.length - 1 - k
        · subst e; exact .inl ⟨h3, h4, h5⟩
        · exact .inr ⟨j, by omega, h2, h3, h4, h5⟩
      · rintro (⟨h3, h4, h5⟩ | ⟨j, h1, h2, h3⟩)
        · exact ⟨_, by omega, by omega, h3, h4, h5⟩
        · exact ⟨j, by omega, h2, h3⟩
    rw [more, ← ih, es]
    simp only [wdK]
    split
    · rename_i h; rw [h]; simp
    · rename_i h
      have h : wdK l k (l.getD (l.length - 1 - k) edD).no = false := by simpa using h
      split
      · rename_i h2
        rw [h]
        simp only [upM, Bool.not_false, and_true, h2, true_and]
        by_cases e : a = (l.getD (l.length - 1 - k) edD).ro
        · simp [e]
        · rw [if_neg e]
          exact ⟨.inr, fun h => h.elim (fun h => (e h.symm).elim) id⟩
      · rename_i h2
        exact ⟨.inr, fun h => h.elim (fun h => (h2 h.1).elim) id⟩
theorem stB_false {l : List Ed} {i j : Nat} (h1 : i < j) (h2 : j < l.length) (h3 : (l.getD j edD).kd = 2) (h4 : (l.getD j edD).ro = (l.getD i edD).no) (h5 : stB l j = true) : stB l i = false := by
  have : wdK l (l.length - 1 - i) (l.getD i edD).no = true := (wdK_iff _ (by omega)).2 ⟨j, by omega, h2, h3, h4, h5⟩
  unfold stB; rw [this]; rfl
theorem stB_true {l : List Ed} {i : Nat} (hi : i < l.length) (h : ∀ j, i < j → j < l.length → ¬ ((l.getD j edD).kd = 2 ∧ (l.getD j edD).ro = (l.getD i edD).no ∧ stB l j = true)) : stB l i = true := by
  have : ¬ wdK l (l.length - 1 - i) (l.getD i edD).no = true := fun e => by
    obtain ⟨j, h1, h2, h3, h4, h5⟩ := (wdK_iff _ (by omega)).1 e
    exact h j (by omega) h2 ⟨h3, h4, h5⟩
  have : wdK l (l.length - 1 - i) (l.getD i edD).no = false := by simpa using this
  unfold stB; rw [this]; rfl
def actB (l : List Ed) (i : Nat) : Bool := stB l i && decide ((l.getD i edD).kd ≠ 2)
def edV (e : Ed) : Int := if e.kd = 1 then -1 else e.ro
/-- The rows after the first k edits. -/
def fwR (l : List Ed) (fr : Int) (rs : List Int) : Nat → List Int
  | 0 => rs
  | k + 1 => if actB l k = true then (fwR l fr rs k).set ((l.getD k edD).co - fr).toNat (edV (l.getD k edD)) else fwR l fr rs k
/-- The columns that the last k edits decide, and the rows. -/
def dcK (l : List Ed) : Nat → Int → Bool
  | 0 => fun _ => false
  | k + 1 => if actB l (l.length - 1 - k) = true ∧ dcK l k (l.getD (l.length - 1 - k) edD).co = false then upM (dcK l k) (l.getD (l.length - 1 - k) edD).co true else dcK l k
def bwR (l : List Ed) (fr : Int) (rs : List Int) : Nat → List Int
  | 0 => rs
  | k + 1 => if actB l (l.length - 1 - k) = true ∧ dcK l k (l.getD (l.length - 1 - k) edD).co = false then (bwR l fr rs k).set ((l.getD (l.length - 1 - k) edD).co - fr).toNat (edV (l.getD (l.length - 1 - k) edD)) else bwR l fr rs k
theorem fwR_len {l : List Ed} {fr : Int} {rs : List Int} : ∀ k, (fwR l fr rs k).length = rs.length
  | 0 => rfl
  | k + 1 => by simp only [fwR]; split <;> simp [fwR_len k]
theorem bwR_len {l : List Ed} {fr : Int} {rs : List Int} : ∀ k, (bwR l fr rs k).length = rs.length
  | 0 => rfl
  | k + 1 => by simp only [bwR]; split <;> simp [bwR_len k]
theorem getD_set {l : List Int} {i j : Nat} {v : Int} (hi : i < l.length) : (l.set i v).getD j 0 = if j = i then v else l.getD j 0 := by
  rw [List.getD_eq_getElem?_getD, List.getD_eq_getElem?_getD, List.getElem?_set]
  by_cases h : i = j
  · subst h; simp [hi]
  · rw [if_neg h, if_neg (fun e => h e.symm)]
/-- All edits lie in the trace. -/
def fits (l : List Ed) (fr : Int) (n : Nat) : Prop := ∀ i, i < l.length → (l.getD i edD).kd ≠ 2 → 0 ≤ (l.getD i edD).co - fr ∧ (l.getD i edD).co - fr < n
theorem bw_step {act : Bool} {D : Int → Bool} {B F : List Int} {fr co v r0 : Int} {c n : Nat} (_hb : c < B.length) (hl : c < F.length) (hn : act = true → 0 ≤ co - fr ∧ co - fr < (n : Int)) (hk : n = B.length ∧ n = F.length) (h1 : D (fr + c) = false → B.getD c 0 = r0) :
    ((if act = true ∧ D co = false then upM D co true else D) (fr + c) = false → (if act = true ∧ D co = false then B.set (co - fr).toNat v else B).getD c 0 = r0) ∧
    (if D (fr + c) = true then B.getD c 0 else (if act = true then F.set (co - fr).toNat v else F).getD c 0) = if (if act = true ∧ D co = false then upM D co true else D) (fr + c) = true then (if act = true ∧ D co = false then B.set (co - fr).toNat v else B).getD c 0 else F.getD c 0 := by
  cases act with
  | false => simpa using h1
  | true =>
    obtain ⟨f1, f2⟩ := hn rfl
    cases hd : D co with
    | true =>
      simp only [true_and, Bool.true_eq_false, if_false, if_true]
      refine ⟨h1, ?_⟩
      by_cases e : fr + c = co
      · rw [e, hd]; rfl
      · rw [getD_set (by omega), if_neg (show ¬ c = (co - fr).toNat by omega)]
    | false =>
      simp only [true_and, if_true]
      rw [getD_set (by omega), getD_set (by omega)]
      by_cases e : fr + c = co
      · rw [if_pos (show c = (co - fr).toNat by omega), if_pos (show c = (co - fr).toNat by omega), e, hd]
        simp [upM]
      · rw [if_neg (show ¬ c = (co - fr).toNat by omega), if_neg (show ¬ c = (co - fr).toNat by omega)]
        have : upM D co true (fr + c) = D (fr + c) := if_neg e
        rw [this]
        exact ⟨h1, rfl⟩
theorem bw_inv {l : List Ed} {fr : Int} {rs : List Int} (hf : fits l fr rs.length) {c : Nat} (hc : c < rs.length) : ∀ k, k ≤ l.length →
    ((dcK l k (fr + c) = false → (bwR l fr rs k).getD c 0 = rs.getD c 0) ∧ (fwR l fr rs l.length).getD c 0 = if dcK l k (fr + c) = true then (bwR l fr rs k).getD c 0 else (fwR l fr rs (l.length - k)).getD c 0)
  | 0, _ => ⟨fun _ => rfl, rfl⟩
  | k + 1, hk => by
    obtain ⟨h1, h2⟩ := bw_inv hf hc k (by omega)
    have e1 : l.length - k = l.length - 1 - k + 1 := by omega
    have e2 : l.length - (k + 1) = l.length - 1 - k := by omega
    rw [h2, e1, e2]
    have hi : l.length - 1 - k < l.length := by omega
    have hfi := hf _ hi
    have lb := bwR_len (l := l) (fr := fr) (rs := rs) k
    have lf := fwR_len (l := l) (fr := fr) (rs := rs) (l.length - 1 - k)
    exact bw_step (by omega) (by omega) (fun ha => hfi (by
      unfold actB at ha
      simp only [Bool.and_eq_true, decide_eq_true_eq] at ha
      exact ha.2)) (by omega) h1
theorem bw_fw {l : List Ed} {fr : Int} {rs : List Int} (hf : fits l fr rs.length) : bwR l fr rs l.length = fwR l fr rs l.length := by
  refine List.ext_getElem (by rw [fwR_len, bwR_len]) fun c h1 h2 => ?_
  rw [bwR_len] at h1
  obtain ⟨h3, h4⟩ := bw_inv hf h1 l.length (Nat.le_refl _)
  have e : ∀ (L : List Int) (h : c < L.length), L[c] = L.getD c 0 := fun L h => by rw [List.getD_eq_getElem?_getD]; simp [h]
  rw [e, e, h4]
  split
  · rfl
  · rename_i h
    rw [h3 (by simpa using h), Nat.sub_self]; rfl
end Go.Proofs.Ytkliejppigfjiaa
