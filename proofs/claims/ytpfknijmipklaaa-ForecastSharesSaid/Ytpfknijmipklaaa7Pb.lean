/-
  Chapter 7, plain: windows are the longest runs of frequencies with enough ranges.
  Conditions: none.
-/
import Derived.Test.Ytpfknijmipklaaa7Pa
namespace Go.Proofs.Ytpfknijmipklaaa
open Go.RowKit Fx
/-! ### Runs -/
def runS (p : Nat → Bool) (k : Nat) (W : List (Int × Int)) : List (Int × Int) :=
  if p k = true then
    if 0 < W.length ∧ (W.getD (W.length - 1) (0, 0)).2 = (k : Int) - 1 then W.set (W.length - 1) ((W.getD (W.length - 1) (0, 0)).1, (k : Int)) else W ++ [((k : Int), (k : Int))]
  else W
def runK (p : Nat → Bool) : Nat → List (Int × Int)
  | 0 => []
  | k + 1 => runS p k (runK p k)
theorem runK_no {p : Nat → Bool} {a : Nat} : ∀ b, a ≤ b → (∀ f, a ≤ f → f < b → p f = false) → runK p b = runK p a
  | 0, h, _ => by obtain rfl : a = 0 := by omega
                  rfl
  | b + 1, h, hp => by
    by_cases e : a = b + 1
    · subst e; rfl
    · rw [runK, runS, if_neg (by rw [hp b (by omega) (by omega)]; decide), runK_no b (by omega) fun f h1 h2 => hp f h1 (by omega)]
theorem getD_set {W : List (Int × Int)} {i : Nat} {x : Int × Int} (h : i < W.length) : (W.set i x).getD i (0, 0) = x := by
  rw [List.getD_eq_getElem?_getD, List.getElem?_set, if_pos rfl, if_pos h]; rfl
theorem getD_app {W : List (Int × Int)} {x : Int × Int} : (W ++ [x]).getD W.length (0, 0) = x := by
  rw [List.getD_eq_getElem?_getD, List.getElem?_append_right (Nat.le_refl _)]; simp
theorem runK_yes {p : Nat → Bool} {a : Nat} : ∀ b, a < b → (∀ f, a ≤ f → f < b → p f = true) →
    runK p b = if 0 < (runK p a).length ∧ ((runK p a).getD ((runK p a).length - 1) (0, 0)).2 = (a : Int) - 1 then (runK p a).set ((runK p a).length - 1) (((runK p a).getD ((runK p a).length - 1) (0, 0)).1, (b : Int) - 1) else runK p a ++ [((a : Int), (b : Int) - 1)]
  | 0, h, _ => by omega
  | b + 1, h, hp => by
    have e1 : ((b + 1 : Nat) : Int) - 1 = (b : Int) := by omega
    rw [e1]
    by_cases e : a = b
    · subst e
      rw [runK, runS, if_pos (hp a (Nat.le_refl _) h)]
    · have ih := runK_yes (p := p) (a := a) b (by omega) fun f h1 h2 => hp f h1 (by omega)
      rw [runK, runS, if_pos (hp b (by omega) (by omega)), ih]
      by_cases c : 0 < (runK p a).length ∧ ((runK p a).getD ((runK p a).length - 1) (0, 0)).2 = (a : Int) - 1
      · rw [if_pos c, if_pos c, List.length_set, getD_set (by omega), if_pos ⟨c.1, rfl⟩, List.set_set]
      · rw [if_neg c, if_neg c, List.length_append, List.length_singleton, Nat.add_sub_cancel, getD_app, if_pos ⟨by omega, rfl⟩]
        rw [List.set_append_right _ _ (Nat.le_refl _), Nat.sub_self]; rfl
/-! ### Borders -/
theorem compactUpTo_spec {d : Array Int} (hs : ∀ i, i + 1 < d.size → d[i]! ≤ d[i + 1]!) : ∀ m, m ≤ d.size →
    (Lib.compactUpTo d m).Pairwise (· < ·) ∧ (∀ x ∈ Lib.compactUpTo d m, 0 < m ∧ x ≤ d[m - 1]!) ∧ ∀ x, x ∈ Lib.compactUpTo d m ↔ ∃ i, i < m ∧ x = d[i]!
  | 0, _ => ⟨by simp [Lib.compactUpTo], fun x hx => by simp [Lib.compactUpTo] at hx, fun x => by simp [Lib.compactUpTo]⟩
  | m + 1, h => by
    obtain ⟨h1, h2, h3⟩ := compactUpTo_spec hs m (by omega)
    rw [Lib.compactUpTo_succ]
    by_cases k : Lib.keeps d m = true
    · have lt : ∀ x ∈ Lib.compactUpTo d m, x < d[m]! := fun x hx => by
        obtain ⟨hp, hx'⟩ := h2 x hx
        have a := hs (m - 1) (by omega)
        rw [show m - 1 + 1 = m by omega] at a
        have b : d[m]! ≠ d[m - 1]! := by
          unfold Lib.keeps at k
          rw [decide_eq_true_eq] at k
          rcases k with k | k
          · omega
          · exact k
        omega
      rw [if_pos k]
      refine ⟨List.pairwise_append.2 ⟨h1, by simp, fun x hx y hy => ?_⟩, fun x hx => ⟨by omega, ?_⟩, fun x => ?_⟩
      · rw [List.mem_singleton] at hy; subst hy; exact lt x hx
      · rw [Nat.add_sub_cancel]
        rcases List.mem_append.1 hx with hx | hx
        · exact Int.le_of_lt (lt x hx)
        · rw [List.mem_singleton] at hx; subst hx; exact Int.le_refl _
      · rw [List.mem_append, h3, List.mem_singleton]
        constructor
        · rintro (⟨i, i1, i2⟩ | e)
          · exact ⟨i, by omega, i2⟩
          · exact ⟨m, by omega, e⟩
        · rintro ⟨i, i1, i2⟩
          by_cases e : i = m
          · subst e; exact .inr i2
          · exact .inl ⟨i, by omega, i2⟩
    · rw [if_neg k, List.append_nil]
      have hk : 0 < m ∧ d[m]! = d[m - 1]! := by
        unfold Lib.keeps at k
        rw [decide_eq_true_eq] at k
        refine ⟨by omega, Decidable.byContradiction fun c => k (.inr c)⟩
      refine ⟨h1, fun x hx => ⟨by omega, ?_⟩, fun x => ?_⟩
      · rw [Nat.add_sub_cancel, hk.2]; exact (h2 x hx).2
      · rw [h3]
        constructor
        · rintro ⟨i, i1, i2⟩; exact ⟨i, by omega, i2⟩
        · rintro ⟨i, i1, i2⟩
          by_cases e : i = m
          · subst e; exact ⟨i - 1, by omega, by rw [i2, hk.2]⟩
          · exact ⟨i, by omega, i2⟩
theorem arr_at {zs : List Int} {i : Nat} (h : i < zs.length) : zs.toArray[i]! = zs.getD i 0 := by
  rw [getElem!_pos zs.toArray i (by simpa using h), List.getD_eq_getElem?_getD, List.getElem?_eq_getElem h]; simp
structure BordV (L : List (Int × Int)) : Prop where
  lt : ∀ i j, i < j → j < (bords L).length → (bords L).getD i 0 < (bords L).getD j 0
  mem : ∀ x, x ∈ bordK L L.length → ∃ i, i < (bords L).length ∧ x = (bords L).getD i 0
  first : (bords L).getD 0 0 = 0
  last : (bords L).getD ((bords L).length - 1) 0 = 3001
  two : 2 ≤ (bords L).length
theorem bordK_base (L : List (Int × Int)) : ∀ k, 0 ∈ bordK L k ∧ 3001 ∈ bordK L k
  | 0 => ⟨by simp [bordK], by simp [bordK]⟩
  | k + 1 => by
    obtain ⟨a, b⟩ := bordK_base L k
    rw [bordK]
    exact ⟨List.mem_append_left _ a, List.mem_append_left _ b⟩
theorem bordK_has (L : List (Int × Int)) {i : Nat} : ∀ k, i < k → (L.getD i (0, 0)).1 ∈ bordK L k ∧ (L.getD i (0, 0)).2 + 1 ∈ bordK L k
  | 0, h => by omega
  | k + 1, h => by
    rw [bordK]
    by_cases e : i = k
    · subst e; exact ⟨by simp, by simp⟩
    · obtain ⟨a, b⟩ := bordK_has L (i := i) k (by omega)
      exact ⟨List.mem_append_left _ a, List.mem_append_left _ b⟩
theorem bord_val {L : List (Int × Int)} (h : ∀ i, i < L.length → 0 ≤ (L.getD i (0, 0)).1 ∧ (L.getD i (0, 0)).1 ≤ (L.getD i (0, 0)).2 ∧ (L.getD i (0, 0)).2 ≤ 3000) : BordV L := by
  have so : (sortB L).Pairwise (· ≤ ·) := by
    unfold sortB
    exact (List.pairwise_mergeSort (fun a b c h1 h2 => by simp only [decide_eq_true_eq] at *; omega) (fun a b => by simp only [Bool.or_eq_true, decide_eq_true_eq]; omega) (bordK L L.length)).imp fun h => by simpa using h
  have hs : ∀ i, i + 1 < (sortB L).toArray.size → (sortB L).toArray[i]! ≤ (sortB L).toArray[i + 1]! := fun i hi => by
    have hi : i + 1 < (sortB L).length := by simpa using hi
    rw [arr_at (by omega), arr_at hi]
    have := List.pairwise_iff_getElem.1 so i (i + 1) (by omega) hi (by omega)
    rw [List.getD_eq_getElem?_getD, List.getElem?_eq_getElem (by omega), List.getD_eq_getElem?_getD, List.getElem?_eq_getElem hi]
    exact this
  obtain ⟨c1, _, c3⟩ := compactUpTo_spec hs (sortB L).length (by simp)
  change (bords L).Pairwise (· < ·) at c1
  change ∀ x, x ∈ bords L ↔ _ at c3
  have lt : ∀ i j, i < j → j < (bords L).length → (bords L).getD i 0 < (bords L).getD j 0 := fun i j hij hj => by
    have := List.pairwise_iff_getElem.1 c1 i j (by omega) hj hij
    rw [List.getD_eq_getElem?_getD, List.getElem?_eq_getElem (by omega), List.getD_eq_getElem?_getD, List.getElem?_eq_getElem hj]
    exact this
  have mem : ∀ x, x ∈ bordK L L.length → ∃ i, i < (bords L).length ∧ x = (bords L).getD i 0 := fun x hx => by
    have hx' : x ∈ sortB L := List.mem_mergeSort.2 hx
    obtain ⟨j, hj, e⟩ := List.getElem_of_mem hx'
    have : x ∈ bords L := (c3 x).2 ⟨j, hj, by rw [arr_at hj, List.getD_eq_getElem?_getD, List.getElem?_eq_getElem hj]; exact e.symm⟩
    obtain ⟨i, hi, e⟩ := List.getElem_of_mem this
    exact ⟨i, hi, by rw [List.getD_eq_getElem?_getD, List.getElem?_eq_getElem hi]; exact e.symm⟩
  obtain ⟨m0, m1⟩ := bordK_base L L.length
  obtain ⟨i, i1, i2⟩ := mem 0 m0
  obtain ⟨j, j1, j2⟩ := mem 3001 m1
  have bd := bords_bd h
  have f0 : (bords L).getD 0 0 = 0 := by
    by_cases e : i = 0
    · subst e; exact i2.symm
    · have := lt 0 i (by omega) i1
      have := bd 0
      omega
  have f1 : (bords L).getD ((bords L).length - 1) 0 = 3001 := by
    by_cases e : j = (bords L).length - 1
    · subst e; exact j2.symm
    · have := lt j ((bords L).length - 1) (by omega) (by omega)
      have := bd ((bords L).length - 1)
      omega
  refine ⟨lt, mem, f0, f1, Nat.not_lt.1 fun hl => ?_⟩
  rw [show (bords L).length - 1 = 0 by omega, f0] at f1
  omega
/-- Between two borders the number of ranges is the same. -/
theorem num_same {L : List (Int × Int)} (V : BordV L) {k : Nat} (hk : k + 1 < (bords L).length) {f : Int} (h1 : (bords L).getD k 0 ≤ f) (h2 : f < (bords L).getD (k + 1) 0) : num L f = num L ((bords L).getD k 0) := by
  have below : ∀ x, x ∈ bordK L L.length → (x ≤ f ↔ x ≤ (bords L).getD k 0) := fun x hx => by
    obtain ⟨j, j1, rfl⟩ := V.mem x hx
    refine ⟨fun h => ?_, fun h => by omega⟩
    by_cases e : j ≤ k
    · by_cases e2 : j = k
      · subst e2; exact Int.le_refl _
      · exact Int.le_of_lt (V.lt j k (by omega) (by omega))
    · by_cases e2 : j = k + 1
      · subst e2; omega
      · have := V.lt (k + 1) j (by omega) j1; omega
  have key : ∀ n, n ≤ L.length → numK L f n = numK L ((bords L).getD k 0) n := fun n => by
    induction n with
    | zero => intro _; rfl
    | succ n ih =>
      intro hn
      have a := bordK_has L (i := n) L.length (by omega)
      have b1 := below _ a.1
      have b2 := below _ a.2
      have : inB f (L.getD n (0, 0)) = inB ((bords L).getD k 0) (L.getD n (0, 0)) := by
        unfold inB
        exact decide_eq_decide.2 (by omega)
      simp only [numK, ih (by omega), this]
  exact key _ (Nat.le_refl _)
/-- Whether enough ranges have a frequency. -/
def enf (L : List (Int × Int)) (s : Int) (f : Nat) : Bool := enB (num L (f : Int)) L.length s
theorem winK_run {L : List (Int × Int)} {s : Int} (V : BordV L) (bd : ∀ i, 0 ≤ (bords L).getD i 0) : ∀ k, k < (bords L).length → winK (bords L) L s k = runK (enf L s) ((bords L).getD k 0).toNat
  | 0, _ => by rw [V.first]; rfl
  | k + 1, h => by
    have lt := V.lt k (k + 1) (by omega) h
    have b0 := bd k
    have ea : (((bords L).getD k 0).toNat : Int) = (bords L).getD k 0 := Int.toNat_of_nonneg b0
    have eb : (((bords L).getD (k + 1) 0).toNat : Int) = (bords L).getD (k + 1) 0 := Int.toNat_of_nonneg (bd (k + 1))
    have same : ∀ f : Nat, ((bords L).getD k 0).toNat ≤ f → f < ((bords L).getD (k + 1) 0).toNat → enf L s f = enB (num L ((bords L).getD k 0)) L.length s := fun f h1 h2 => by
      unfold enf
      rw [num_same V h (by omega) (by omega)]
    rw [winK, winS, winK_run V bd k (by omega)]
    cases e : enB (num L ((bords L).getD k 0)) L.length s with
    | false =>
      rw [if_neg (by decide)]
      exact (runK_no _ (by omega) fun f h1 h2 => (same f h1 h2).trans e).symm
    | true =>
      rw [if_pos rfl, runK_yes (((bords L).getD (k + 1) 0).toNat) (by omega) fun f h1 h2 => (same f h1 h2).trans e, ea, eb]
theorem win_run {L : List (Int × Int)} {s : Int} (h : ∀ i, i < L.length → 0 ≤ (L.getD i (0, 0)).1 ∧ (L.getD i (0, 0)).1 ≤ (L.getD i (0, 0)).2 ∧ (L.getD i (0, 0)).2 ≤ 3000) : win L s = runK (enf L s) 3001 := by
  have V := bord_val h
  have t := V.two
  unfold win
  rw [winK_run V (fun i => (bords_bd h i).1) _ (by omega), V.last]; rfl
end Go.Proofs.Ytpfknijmipklaaa
