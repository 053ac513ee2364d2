/-
  Chapter 7: the document's least numbers of changes and its schedule (by contract).
  Conditions: none.
-/
import Derived.Test.YtcdcmeiipfafdaaGreat7R
namespace Go.Proofs.YtcdcmeiipfafdaaGreat
open Go.RowKit Fx
@[reducible] def okT (t : Tb) (s : Int) : Prop := okH (usB t s) t.fr.length
def gT (t : Tb) (s : Int) (h : Nat) : Int := gF (usB t s) t.fr.length h
def gL (t : Tb) (s : Int) : List Int := (List.range 25).map (gT t s)
theorem gL_len {t : Tb} {s : Int} : (gL t s).length = 25 := by unfold gL; simp
theorem gL_at {t : Tb} {s : Int} {h : Nat} (hh : h < 25) : (gL t s).getD h 0 = gT t s h := by
  unfold gL
  rw [List.getD_eq_getElem?_getD, List.getElem?_map, List.getElem?_range hh]; rfl
theorem fwK_bd {us : Nat → Nat → Bool} {n : Nat} : ∀ d h : Nat, -1 ≤ fwK us n d h ∧ fwK us n d h ≤ d
  | 0, h => by rw [fwK]; split <;> omega
  | d + 1, h => by
    have i1 := fwK_bd (us := us) (n := n) d h
    have i2 := fwK_bd (us := us) (n := n) d (23 - d + longest us n (23 - d))
    rw [fwK]; split <;> omega
theorem vm_setI {S : Vw} {f g : Nat → Int} {k i : Nat} {x : Int} (h1 : i = k → x = g i) (h2 : i ≠ k → f i = g i) : vm S (setF (fun i => I (f i)) k (I x) i) (I (g i)) := by
  by_cases e : i = k
  · subst e
    rw [setF_at]
    exact vm_int (h1 rfl)
  · rw [setF_ne e]
    exact vm_int (h2 e)
/-! ### The document's schedule -/
theorem uslK_spec (t : Tb) (s : Int) (h : Nat) : ∀ k, (∀ j, j < (uslK t s h k).length → ∃ c : Nat, c < k ∧ (uslK t s h k).getD j 0 = c ∧ usB t s h c = true) ∧ (∀ c : Nat, c < k → usB t s h c = true → ∃ j, j < (uslK t s h k).length ∧ (uslK t s h k).getD j 0 = c) ∧
    ∀ i j, i < j → j < (uslK t s h k).length → (uslK t s h k).getD i 0 < (uslK t s h k).getD j 0
  | 0 => ⟨fun j hj => by simp [uslK] at hj, fun c hc => by omega, fun i j _ hj => by simp [uslK] at hj⟩
  | k + 1 => by
    obtain ⟨i1, i2, i3⟩ := uslK_spec t s h k
    by_cases hu : usB t s h k = true
    · have e : uslK t s h (k + 1) = uslK t s h k ++ [(k : Int)] := if_pos hu
      have g1 : ∀ j, j < (uslK t s h k).length → (uslK t s h (k + 1)).getD j 0 = (uslK t s h k).getD j 0 := fun j hj => by
        rw [e, List.getD_eq_getElem?_getD, List.getElem?_append_left hj, List.getD_eq_getElem?_getD]
      have g2 : (uslK t s h (k + 1)).getD (uslK t s h k).length 0 = (k : Int) := by
        rw [e, List.getD_eq_getElem?_getD, List.getElem?_append_right (Nat.le_refl _)]; simp
      have ln : (uslK t s h (k + 1)).length = (uslK t s h k).length + 1 := by rw [e]; simp
      refine ⟨fun j hj => ?_, fun c hc hcu => ?_, fun i j hij hj => ?_⟩
      · by_cases e2 : j = (uslK t s h k).length
        · subst e2; exact ⟨k, by omega, g2, hu⟩
        · obtain ⟨c, c1, c2, c3⟩ := i1 j (by omega)
          exact ⟨c, by omega, by rw [g1 j (by omega)]; exact c2, c3⟩
      · by_cases e2 : c = k
        · subst e2; exact ⟨_, by omega, g2⟩
        · obtain ⟨j, j1, j2⟩ := i2 c (by omega) hcu
          exact ⟨j, by omega, by rw [g1 j j1]; exact j2⟩
      · by_cases e2 : j = (uslK t s h k).length
        · subst e2
          obtain ⟨c, c1, c2, _⟩ := i1 i hij
          rw [g2, g1 i hij, c2]; omega
        · rw [g1 i (by omega), g1 j (by omega)]
          exact i3 i j hij (by omega)
    · have e : uslK t s h (k + 1) = uslK t s h k := if_neg hu
      rw [e]
      refine ⟨fun j hj => ?_, fun c hc hcu => ?_, i3⟩
      · obtain ⟨c, c1, c2, c3⟩ := i1 j hj
        exact ⟨c, by omega, c2, c3⟩
      · by_cases e2 : c = k
        · subst e2; exact (hu hcu).elim
        · exact i2 c (by omega) hcu
def schT (t : Tb) (s : Int) : List Int := (sch (usB t s) t.fr.length 24).1
theorem pick_us {us : Nat → Nat → Bool} {n h c : Nat} (hk : okH us n) (hh : h < 24) (I : SchI us n h) (hc : c < n) (hp : pickB us n h (sch us n h).1 (sch us n h).2 c = true) : us h c = true := by
  cases e : us h c with
  | true => rfl
  | false =>
    have a := (aft_ok hk hh).1 c hc
    rw [e, if_neg (by decide)] at a
    have lf := I.left
    unfold pickB at hp
    rw [decide_eq_true_eq, a] at hp
    have : 0 ≤ used (sch us n h).1 c := by
      unfold used chg
      split <;> try split
      all_goals omega
    omega
theorem used_at {us : Nat → Nat → Bool} {n h c : Nat} (I : SchI us n h) : used (sch us n h).1 c = if h = 0 then 0 else chg ((sch us n h).1.getD (h - 1) 0) c := by
  unfold used; rw [I.len]
theorem getD_snoc_lt {l : List Int} {x : Int} {j : Nat} (h : j < l.length) : (l ++ [x]).getD j 0 = l.getD j 0 := by
  rw [List.getD_eq_getElem?_getD, List.getElem?_append_left h, List.getD_eq_getElem?_getD]
theorem getD_snoc_at {l : List Int} {x : Int} {k : Nat} (h : l.length = k) : (l ++ [x]).getD k 0 = x := by
  rw [List.getD_eq_getElem?_getD, List.getElem?_append_right (by omega), h]; simp
end Go.Proofs.YtcdcmeiipfafdaaGreat
