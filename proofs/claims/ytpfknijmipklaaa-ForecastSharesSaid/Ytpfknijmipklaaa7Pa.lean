/-
  Chapter 7, plain: the quantile is the greatest number of which enough are at least as great.
  Conditions: none.
-/
import Derived.Test.Ytpfknijmipklaaa7Z
namespace Go.Proofs.Ytpfknijmipklaaa
open Go.RowKit Fx
/-- How many are at least as great. -/
def cge (H : List Int) (v : Int) : Nat := (H.filter fun x => decide (v ≤ x)).length
theorem cge_perm {H T : List Int} (p : H.Perm T) (v : Int) : cge H v = cge T v := (p.filter _).length_eq
theorem cge_le (H : List Int) (v : Int) : cge H v ≤ H.length := List.length_filter_le _ _
theorem enB_mono {n m t s : Int} (h : n ≤ m) (e : enB n t s = true) : enB m t s = true := by
  unfold enB at *
  rw [decide_eq_true_eq] at *
  omega
theorem enB_all {t s : Int} (ht : 0 ≤ t) (hs : s ≤ 1000) : enB t t s = true := by
  unfold enB
  rw [decide_eq_true_eq, Int.mul_comm s t]
  exact Int.mul_le_mul_of_nonneg_left hs ht
theorem getD_mem {T : List Int} {i : Nat} (h : i < T.length) : T.getD i 0 ∈ T := by
  rw [List.getD_eq_getElem?_getD, List.getElem?_eq_getElem h]; exact List.getElem_mem h
section
variable {T : List Int} (hT : ∀ i j, i ≤ j → j < T.length → T.getD j 0 ≤ T.getD i 0)
include hT
theorem cge_at {i : Nat} (h : i < T.length) : i + 1 ≤ cge T (T.getD i 0) := by
  have e : cge T (T.getD i 0) = ((T.take (i + 1)).filter fun x => decide (T.getD i 0 ≤ x)).length + ((T.drop (i + 1)).filter fun x => decide (T.getD i 0 ≤ x)).length := by
    unfold cge
    conv => lhs; rw [← List.take_append_drop (i + 1) T]
    rw [List.filter_append, List.length_append]
    congr 3 <;> rw [List.take_append_drop]
  have f : (T.take (i + 1)).filter (fun x => decide (T.getD i 0 ≤ x)) = T.take (i + 1) := List.filter_eq_self.2 fun x hx => by
    obtain ⟨j, hj, rfl⟩ := List.getElem_of_mem hx
    rw [List.length_take] at hj
    rw [decide_eq_true_eq, List.getElem_take]
    have := hT j i (by omega) h
    rwa [List.getD_eq_getElem?_getD (i := j), List.getElem?_eq_getElem (by omega)] at this
  rw [e, f, List.length_take]
  omega
theorem cge_top {v : Int} (hv : v ∈ T) : 0 < cge T v ∧ cge T v ≤ T.length ∧ v ≤ T.getD (cge T v - 1) 0 := by
  have hp : 0 < cge T v := List.length_pos_of_mem (List.mem_filter.2 ⟨hv, by simp⟩)
  have hl := cge_le T v
  refine ⟨hp, hl, Int.not_lt.1 fun hlt => ?_⟩
  have e : cge T v = ((T.take (cge T v - 1)).filter fun x => decide (v ≤ x)).length + ((T.drop (cge T v - 1)).filter fun x => decide (v ≤ x)).length := by
    conv => lhs; unfold cge; rw [← List.take_append_drop (cge T v - 1) T]
    rw [List.filter_append, List.length_append]
  have f : (T.drop (cge T v - 1)).filter (fun x => decide (v ≤ x)) = [] := List.filter_eq_nil_iff.2 fun x hx => by
    obtain ⟨j, hj, rfl⟩ := List.getElem_of_mem hx
    rw [List.length_drop] at hj
    rw [decide_eq_true_eq, List.getElem_drop]
    have := hT (cge T v - 1) (cge T v - 1 + j) (by omega) (by omega)
    rw [List.getD_eq_getElem?_getD (i := cge T v - 1 + j), List.getElem?_eq_getElem (by omega)] at this
    simp only [Option.getD_some] at this
    omega
  rw [f, List.length_nil] at e
  have := List.length_filter_le (fun x => decide (v ≤ x)) (T.take (cge T v - 1))
  rw [List.length_take] at this
  omega
end
theorem qntK_spec (T : List Int) (s : Int) : ∀ k, (qntK T s k = none ∧ ∀ i : Nat, i < k → enB ((i : Int) + 1) T.length s = false) ∨
    ∃ i : Nat, i < k ∧ enB ((i : Int) + 1) T.length s = true ∧ (∀ j : Nat, j < i → enB ((j : Int) + 1) T.length s = false) ∧ qntK T s k = some (T.getD i 0)
  | 0 => .inl ⟨rfl, fun i h => by omega⟩
  | k + 1 => by
    rcases qntK_spec T s k with ⟨h1, h2⟩ | ⟨i, h1, h2, h3, h4⟩
    · cases e : enB ((k : Int) + 1) T.length s with
      | false =>
        refine .inl ⟨by rw [qntK, h1]; simp only [e]; rfl, fun i hi => ?_⟩
        by_cases hk : i = k
        · subst hk; exact e
        · exact h2 i (by omega)
      | true => exact .inr ⟨k, by omega, e, h2, by rw [qntK, h1]; simp only [e]; rfl⟩
    · exact .inr ⟨i, by omega, h2, h3, by rw [qntK, h4]⟩
theorem tops_perm (L : List (Int × Int)) : (tops L).Perm (topK L L.length) := (List.reverse_perm _).trans (List.mergeSort_perm _ _)
theorem tops_desc (L : List (Int × Int)) : ∀ i j, i ≤ j → j < (tops L).length → (tops L).getD j 0 ≤ (tops L).getD i 0 := fun i j hij hj => by
  by_cases e : i = j
  · subst e; exact Int.le_refl _
  have p : (tops L).Pairwise fun a b => b ≤ a := by
    unfold tops
    rw [List.pairwise_reverse]
    exact (List.pairwise_mergeSort (fun a b c h1 h2 => by simp only [decide_eq_true_eq] at *; omega) (fun a b => by simp only [Bool.or_eq_true, decide_eq_true_eq]; omega) (topK L L.length)).imp fun h => by simpa using h
  have := List.pairwise_iff_getElem.1 p i j (by omega) hj (by omega)
  rw [List.getD_eq_getElem?_getD, List.getElem?_eq_getElem hj, List.getD_eq_getElem?_getD, List.getElem?_eq_getElem (by omega : i < (tops L).length)]
  exact this
/-- What is a quantile. -/
theorem qnt_spec {L : List (Int × Int)} {s : Int} (h0 : 0 < L.length) (hs : s ≤ 1000) :
    qnt L s ∈ topK L L.length ∧ enB (cge (topK L L.length) (qnt L s)) L.length s = true ∧ ∀ v ∈ topK L L.length, enB (cge (topK L L.length) v) L.length s = true → v ≤ qnt L s := by
  have tl := tops_len L
  have hd := tops_desc L
  have pm := tops_perm L
  rcases qntK_spec (tops L) s (tops L).length with ⟨_, h2⟩ | ⟨i, h1, h2, h3, h4⟩
  · have := h2 (L.length - 1) (by omega)
    rw [tl, show (((L.length - 1 : Nat) : Int) + 1) = (L.length : Int) by omega, enB_all (by omega) hs] at this
    cases this
  · have hq : qnt L s = (tops L).getD i 0 := by unfold qnt; rw [h4]; rfl
    rw [hq]
    have m := getD_mem h1
    refine ⟨pm.mem_iff.1 m, ?_, fun v hv he => ?_⟩
    · rw [← cge_perm pm, ← tl]
      refine enB_mono ?_ h2
      have := cge_at hd h1
      omega
    · have hv' := pm.mem_iff.2 hv
      rw [← cge_perm pm, ← tl] at he
      obtain ⟨c1, c2, c3⟩ := cge_top hd hv'
      have : i ≤ cge (tops L) v - 1 := by
        refine Nat.not_lt.1 fun hlt => ?_
        have := h3 _ hlt
        rw [show (((cge (tops L) v - 1 : Nat) : Int) + 1) = (cge (tops L) v : Int) by omega, he] at this
        cases this
      have := hd i (cge (tops L) v - 1) this (by omega)
      omega
/-- The document's quantile: the greatest so far. -/
def rqK (l : List Rc) (q : Qr) (s n : Int) : Nat → Int
  | 0 => 0
  | k + 1 => if cntB q (l.getD k rc0) = true ∧ enB (cge (topK (sel q l) (sel q l).length) (l.getD k rc0).hi) n s = true then max (rqK l q s n k) (l.getD k rc0).hi else rqK l q s n k
theorem rqK_spec {l : List Rc} {q : Qr} {s n : Int} : ∀ k, (rqK l q s n k = 0 ∨ ∃ i, i < k ∧ cntB q (l.getD i rc0) = true ∧ enB (cge (topK (sel q l) (sel q l).length) (l.getD i rc0).hi) n s = true ∧ rqK l q s n k = (l.getD i rc0).hi) ∧ 0 ≤ rqK l q s n k ∧
    ∀ i, i < k → cntB q (l.getD i rc0) = true → enB (cge (topK (sel q l) (sel q l).length) (l.getD i rc0).hi) n s = true → (l.getD i rc0).hi ≤ rqK l q s n k
  | 0 => ⟨.inl rfl, Int.le_refl _, fun i h => by omega⟩
  | k + 1 => by
    obtain ⟨h1, h2, h3⟩ := rqK_spec (l := l) (q := q) (s := s) (n := n) k
    rw [rqK]
    by_cases c : cntB q (l.getD k rc0) = true ∧ enB (cge (topK (sel q l) (sel q l).length) (l.getD k rc0).hi) n s = true
    · rw [if_pos c]
      refine ⟨?_, by omega, fun i hi a b => ?_⟩
      · by_cases hm : rqK l q s n k ≤ (l.getD k rc0).hi
        · exact .inr ⟨k, by omega, c.1, c.2, Int.max_eq_right hm⟩
        · rw [Int.max_eq_left (by omega)]
          rcases h1 with h1 | ⟨i, i1, i2, i3, i4⟩
          · exact .inl h1
          · exact .inr ⟨i, by omega, i2, i3, i4⟩
      · by_cases e : i = k
        · subst e; omega
        · have := h3 i (by omega) a b; omega
    · rw [if_neg c]
      refine ⟨?_, h2, fun i hi a b => ?_⟩
      · rcases h1 with h1 | ⟨i, i1, i2, i3, i4⟩
        · exact .inl h1
        · exact .inr ⟨i, by omega, i2, i3, i4⟩
      · by_cases e : i = k
        · subst e; exact (c ⟨a, b⟩).elim
        · exact h3 i (by omega) a b
theorem topK_mem {L : List (Int × Int)} {v : Int} : ∀ k, v ∈ topK L k ↔ ∃ i, i < k ∧ v = (L.getD i (0, 0)).2
  | 0 => ⟨fun h => (by cases h), fun ⟨i, h, _⟩ => by omega⟩
  | k + 1 => by
    rw [topK, List.mem_append, topK_mem k, List.mem_singleton]
    constructor
    · rintro (⟨i, h1, h2⟩ | h)
      · exact ⟨i, by omega, h2⟩
      · exact ⟨k, by omega, h⟩
    · rintro ⟨i, h1, h2⟩
      by_cases e : i = k
      · subst e; exact .inr h2
      · exact .inl ⟨i, by omega, h2⟩
theorem selK_has {q : Qr} {l : List Rc} {i : Nat} : ∀ k, i < k → cntB q (l.getD i rc0) = true → ((l.getD i rc0).lo, (l.getD i rc0).hi) ∈ selK q l k
  | 0, h, _ => by omega
  | k + 1, h, hc => by
    by_cases e : i = k
    · subst e; rw [selK_yes hc]; simp
    · have := selK_has (q := q) (l := l) k (by omega) hc
      by_cases c : cntB q (l.getD k rc0) = true
      · rw [selK_yes c]; exact List.mem_append_left _ this
      · rw [selK_no c]; exact this
theorem mem_getD {L : List (Int × Int)} {p : Int × Int} : p ∈ L ↔ ∃ i, i < L.length ∧ p = L.getD i (0, 0) := by
  constructor
  · intro h
    obtain ⟨i, hi, rfl⟩ := List.getElem_of_mem h
    exact ⟨i, hi, by rw [List.getD_eq_getElem?_getD, List.getElem?_eq_getElem hi]; rfl⟩
  · rintro ⟨i, hi, rfl⟩
    rw [List.getD_eq_getElem?_getD, List.getElem?_eq_getElem hi]; exact List.getElem_mem hi
theorem best_qnt {l : List Rc} {q : Qr} {s : Int} (hr : recsE l = 0) (h0 : 0 < (sel q l).length) (hs : s ≤ 1000) : rqK l q s (sel q l).length l.length = qnt (sel q l) s := by
  obtain ⟨a1, a2, a3⟩ := qnt_spec (s := s) h0 hs
  obtain ⟨b1, b2, b3⟩ := rqK_spec (l := l) (q := q) (s := s) (n := (sel q l).length) l.length
  obtain ⟨_, v2⟩ := sel_val (q := q) hr
  obtain ⟨i, i1, i2⟩ := (topK_mem _).1 a1
  have m : (sel q l).getD i (0, 0) ∈ selK q l l.length := mem_getD.2 ⟨i, i1, rfl⟩
  obtain ⟨j, j1, j2, j3⟩ := selK_in l.length (Nat.le_refl _) m
  have hj : (l.getD j rc0).hi = qnt (sel q l) s := by rw [i2, j3]
  have le1 : qnt (sel q l) s ≤ rqK l q s (sel q l).length l.length := by
    have := b3 j j1 j2 (by rw [hj]; exact a2)
    omega
  have v := v2 i i1
  refine Int.le_antisymm ?_ le1
  rcases b1 with b1 | ⟨k, k1, k2, k3, k4⟩
  · omega
  · rw [k4]
    refine a3 _ ?_ k3
    obtain ⟨e, e1, e2⟩ := mem_getD.1 (selK_has (q := q) l.length k1 k2)
    exact (topK_mem _).2 ⟨e, e1, by rw [show ((sel q l).getD e (0, 0)) = _ from e2.symm]⟩
end Go.Proofs.Ytpfknijmipklaaa
