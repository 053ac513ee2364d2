/-
  In plain words: errors in turn, frames, lines, waves, chirps of chapter 1.
  Conditions: none.
-/
import Derived.Test.YtaejdonacadpkabDoorFu
namespace Go.Proofs.YtaejdonacadpkabDoor
open Go.RowKit Fx
/-! ### Errors in turn -/
def findErr {α : Type} (f : α → Int) : List α → Int → Int × Int
  | [], _ => (0, 0)
  | x :: l, k => if f x ≠ 0 then (k, f x) else findErr f l (k + 1)
theorem findErr_hit {α : Type} (f : α → Int) (d : α) : ∀ (l : List α) (k : Nat) (s : Int), (∀ i, i < k → f (l.getD i d) = 0) → k < l.length → f (l.getD k d) ≠ 0 → findErr f l s = (s + k, f (l.getD k d))
  | [], k, s, _, h, _ => by simp at h
  | x :: l, 0, s, _, _, h => by
    have h' : f x ≠ 0 := by simpa using h
    simp [findErr, h']
  | x :: l, k + 1, s, h0, h1, h2 => by
    have hx : f x = 0 := by simpa using h0 0 (by omega)
    have := findErr_hit f d l k (s + 1) (fun i hi => by simpa using h0 (i + 1) (by omega)) (by simpa using h1) (by simpa using h2)
    simp only [findErr, hx, ne_eq, not_true_eq_false, if_false, this]
    simp; omega
theorem findErr_none {α : Type} (f : α → Int) (d : α) : ∀ (l : List α) (s : Int), (∀ i, i < l.length → f (l.getD i d) = 0) → findErr f l s = (0, 0)
  | [], s, _ => rfl
  | x :: l, s, h => by
    have hx : f x = 0 := by simpa using h 0 (by simp)
    simp only [findErr, hx, ne_eq, not_true_eq_false, if_false]
    exact findErr_none f d l (s + 1) fun i hi => by simpa using h (i + 1) (by simpa using hi)
theorem findErr_z {α : Type} (f : α → Int) (d : α) : ∀ (l : List α) (s : Int), (findErr f l s).2 = 0 → ∀ i, i < l.length → f (l.getD i d) = 0
  | [], _, _, i, hi => by simp at hi
  | x :: l, s, h, i, hi => by
    unfold findErr at h
    split at h
    · rename_i h0; exact absurd h h0
    · rename_i h0
      cases i with
      | zero => simpa using h0
      | succ i => simpa using findErr_z f d l (s + 1) h i (by simpa using hi)
def firstErr : List Int → Int
  | [] => 0
  | e :: l => if e ≠ 0 then e else firstErr l
theorem firstErr_hit : ∀ (l : List Int) (k : Nat), (∀ i, i < k → l.getD i 0 = 0) → k < l.length → l.getD k 0 ≠ 0 → firstErr l = l.getD k 0
  | [], k, _, h, _ => by simp at h
  | x :: l, 0, _, _, h => by
    have h' : x ≠ 0 := by simpa using h
    simp [firstErr, h']
  | x :: l, k + 1, h0, h1, h2 => by
    have hx : x = 0 := by simpa using h0 0 (by omega)
    have := firstErr_hit l k (fun i hi => by simpa using h0 (i + 1) (by omega)) (by simpa using h1) (by simpa using h2)
    simp only [firstErr, hx, ne_eq, not_true_eq_false, if_false, this]
    simp
theorem firstErr_none : ∀ (l : List Int), (∀ i, i < l.length → l.getD i 0 = 0) → firstErr l = 0
  | [], _ => rfl
  | x :: l, h => by
    have hx : x = 0 := by simpa using h 0 (by simp)
    simp only [firstErr, hx, ne_eq, not_true_eq_false, if_false]
    exact firstErr_none l fun i hi => by simpa using h (i + 1) (by simpa using hi)
theorem first_two {a b : Int} : firstErr [a, b] = if a ≠ 0 then a else b := by
  simp only [firstErr]; grind
theorem first_three {a b c : Int} : firstErr [a, b, c] = if a ≠ 0 then a else if b ≠ 0 then b else c := by
  simp only [firstErr]; grind
theorem vm_pair {S : Vw} {a b : Int} {p : Int × Int} (h : (a, b) = p) : vm S (.tup [I a, I b]) (.tup [I p.1, I p.2]) := by subst h; exact vm_p
theorem sbm_snoc {S : Vw} {α : Type} {f : α → V} {d : α} {l : List α} {v : α} {x : V} {sz : Nat} {t : TypeId} [h : ∀ a, IsPure (f a)] (hx : vm S x (f v)) :
    sbm S (.row sz (l.length + 1) (appF l.length (fun i => f (l.getD i d)) (litF [x])) t) (.row sz (l ++ [v]).length (fun i => f ((l ++ [v]).getD i d)) t) := by
  refine sbm_row (by simp) fun i hi => ?_
  rw [List.length_append] at hi
  refine vm_snoc (e' := fun i => f ((l ++ [v]).getD i d)) hi (fun j hj => ?_) ?_
  · have : (l ++ [v]).getD j d = l.getD j d := by
      rw [List.getD_eq_getElem?_getD, List.getD_eq_getElem?_getD, List.getElem?_append_left hj]
    show vm S _ (f ((l ++ [v]).getD j d))
    rw [this]; exact vm_p
  · have : (l ++ [v]).getD l.length d = v := by
      rw [List.getD_eq_getElem?_getD, List.getElem?_append_right (Nat.le_refl _)]; simp
    show vm S _ (f ((l ++ [v]).getD l.length d))
    rw [this]; exact hx
/-! ### Numbers in pairs -/
@[reducible] def eP (p : Int × Int) : V := .agg [I p.1, I p.2]
@[reducible] def ePs (l : List (Int × Int)) : V := .sl 2 l.length fun i => eP (l.getD i (0, 0))
@[reducible] def eIl (l : List (List Int)) : V := .sl 1 l.length fun i => eInts (l.getD i [])
/-- The places below k at which something holds. -/
def idxK (p : Nat → Bool) : Nat → List Int
  | 0 => []
  | k + 1 => if p k = true then idxK p k ++ [(k : Int)] else idxK p k
theorem idxK_yes {p : Nat → Bool} {k : Nat} (h : p k = true) : idxK p (k + 1) = idxK p k ++ [(k : Int)] := by rw [idxK, if_pos h]
theorem idxK_no {p : Nat → Bool} {k : Nat} (h : p k = false) : idxK p (k + 1) = idxK p k := by rw [idxK, if_neg (by rw [h]; simp)]
theorem idxK_len (p : Nat → Bool) : ∀ k, (idxK p k).length ≤ k
  | 0 => Nat.le_refl _
  | k + 1 => by
    have := idxK_len p k
    rw [idxK]; split <;> simp <;> omega
theorem idxK_congr {p q : Nat → Bool} : ∀ k, (∀ i, i < k → p i = q i) → idxK p k = idxK q k
  | 0, _ => rfl
  | k + 1, h => by rw [idxK, idxK, h k (by omega), idxK_congr k fun i hi => h i (by omega)]
/-! ### Frames -/
structure Frm where
  g : Int
  lim : Int
  sm : List (Int × Int)
  gp : List Int
@[reducible] def eF (f : Frm) : V := .agg [I f.g, I f.lim, ePs f.sm, eInts f.gp]
def frPre (f : Frm) : Int := if ¬ (-8 ≤ f.g ∧ f.g ≤ 8 ∧ 1 ≤ f.lim ∧ f.lim ≤ 2000000) then 2 else if f.sm.length = 0 then 10 else if 64 < f.sm.length then 8 else 0
def smE (m : Int) (p : Int × Int) : Int := if -m ≤ p.1 ∧ p.1 ≤ m ∧ -m ≤ p.2 ∧ p.2 ≤ m then 0 else 2
def gpE (n : Nat) (l : List Int) (i : Nat) : Int := if ¬ (0 ≤ l.getD i 0 ∧ l.getD i 0 ≤ (n : Int) - 1) then 6 else if 0 < i ∧ l.getD i 0 ≤ l.getD (i - 1) 0 then 9 else 0
def gpL (n : Nat) (l : List Int) : List Int := (List.range l.length).map (gpE n l)
theorem gpL_len (n : Nat) (l : List Int) : (gpL n l).length = l.length := by simp [gpL]
theorem gpL_at {n : Nat} {l : List Int} {i : Nat} (h : i < l.length) : id ((gpL n l).getD i 0) = gpE n l i := by
  unfold gpL
  simp [List.getD_eq_getElem?_getD, h]
def frC (f : Frm) : Int × Int := if frPre f ≠ 0 then (0, frPre f) else if (findErr (smE f.lim) f.sm 0).2 ≠ 0 then findErr (smE f.lim) f.sm 0 else findErr id (gpL f.sm.length f.gp) 0
def frE (f : Frm) : Int := (frC f).2
theorem frC_pre {f : Frm} (h : frPre f ≠ 0) : frC f = (0, frPre f) := if_pos h
theorem frC_sm {f : Frm} (h : frPre f = 0) (h2 : (findErr (smE f.lim) f.sm 0).2 ≠ 0) : frC f = findErr (smE f.lim) f.sm 0 := by unfold frC; rw [if_neg (fun k => k h), if_pos h2]
theorem frC_gp {f : Frm} (h : frPre f = 0) (h2 : (findErr (smE f.lim) f.sm 0).2 = 0) : frC f = findErr id (gpL f.sm.length f.gp) 0 := by unfold frC; rw [if_neg (fun k => k h), if_neg (fun k => k h2)]
def smallB (m : Int) (p : Int × Int) : Bool := decide (-m < p.1 ∧ p.1 < m) && decide (-m < p.2 ∧ p.2 < m)
def usB (f : Frm) (i : Nat) : Bool := smallB f.lim (f.sm.getD i (0, 0)) && !decide ((i : Int) ∈ f.gp)
structure Frm.Val (f : Frm) : Prop where
  g : -8 ≤ f.g ∧ f.g ≤ 8
  lim : 1 ≤ f.lim ∧ f.lim ≤ 2000000
  n0 : 0 < f.sm.length
  n1 : f.sm.length ≤ 64
  sm : ∀ i, i < f.sm.length → -f.lim ≤ (f.sm.getD i (0, 0)).1 ∧ (f.sm.getD i (0, 0)).1 ≤ f.lim ∧ -f.lim ≤ (f.sm.getD i (0, 0)).2 ∧ (f.sm.getD i (0, 0)).2 ≤ f.lim
  gp : ∀ i, i < f.gp.length → 0 ≤ f.gp.getD i 0 ∧ f.gp.getD i 0 ≤ (f.sm.length : Int) - 1
  up : ∀ i, 0 < i → i < f.gp.length → f.gp.getD (i - 1) 0 < f.gp.getD i 0
theorem frPre_0 {f : Frm} (h : frPre f = 0) : (-8 ≤ f.g ∧ f.g ≤ 8) ∧ (1 ≤ f.lim ∧ f.lim ≤ 2000000) ∧ 0 < f.sm.length ∧ f.sm.length ≤ 64 := by
  unfold frPre at h
  split at h
  · cases h
  split at h
  · cases h
  split at h
  · cases h
  omega
theorem frPre_z {f : Frm} (h : frE f = 0) : frPre f = 0 := by
  unfold frE frC at h
  split at h
  · exact h
  · rename_i h2; exact Decidable.not_not.1 h2
theorem frm_val {f : Frm} (h : frE f = 0) : f.Val := by
  have h0 := frPre_z h
  have h1 : (findErr (smE f.lim) f.sm 0).2 = 0 := by
    by_cases c : (findErr (smE f.lim) f.sm 0).2 = 0
    · exact c
    · unfold frE at h; rw [frC_sm h0 c] at h; exact h
  unfold frE at h
  rw [frC_gp h0 h1] at h
  obtain ⟨a1, a2, a3, a4⟩ := frPre_0 h0
  have z := findErr_z _ (0, 0) _ _ h1
  have y := findErr_z _ 0 _ _ h
  have w : ∀ i, i < f.gp.length → gpE f.sm.length f.gp i = 0 := fun i hi => by rw [← gpL_at hi]; exact y i (by rw [gpL_len]; exact hi)
  refine ⟨a1, a2, a3, a4, fun i hi => ?_, fun i hi => ?_, fun i h0 hi => ?_⟩
  · have := z i hi
    unfold smE at this
    split at this
    · assumption
    · cases this
  · have := w i hi
    unfold gpE at this
    split at this
    · cases this
    · omega
  · have := w i hi
    unfold gpE at this
    split at this
    · cases this
    · split at this
      · cases this
      · omega
end Go.Proofs.YtaejdonacadpkabDoor
