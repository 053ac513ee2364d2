/-
  Chapter 7, plain: what runs are; greater shares.
  Conditions: none.
-/
import Derived.Test.Ytpfknijmipklaaa7Pb
namespace Go.Proofs.Ytpfknijmipklaaa
open Go.RowKit Fx
structure RunV (p : Nat → Bool) (k : Nat) (W : List (Int × Int)) : Prop where
  r : ∀ i, i < W.length → 0 ≤ (W.getD i (0, 0)).1 ∧ (W.getD i (0, 0)).1 ≤ (W.getD i (0, 0)).2 ∧ (W.getD i (0, 0)).2 < k
  g : ∀ i j, i < j → j < W.length → (W.getD i (0, 0)).2 + 1 < (W.getD j (0, 0)).1
  c : ∀ f : Nat, f < k → (p f = true ↔ ∃ i, i < W.length ∧ (W.getD i (0, 0)).1 ≤ f ∧ (f : Int) ≤ (W.getD i (0, 0)).2)
theorem getD_set_ne {W : List (Int × Int)} {i j : Nat} {x : Int × Int} (h : i ≠ j) : (W.set i x).getD j (0, 0) = W.getD j (0, 0) := by
  rw [List.getD_eq_getElem?_getD, List.getElem?_set, if_neg h, ← List.getD_eq_getElem?_getD]
theorem getD_app_lt {W : List (Int × Int)} {i : Nat} {x : Int × Int} (h : i < W.length) : (W ++ [x]).getD i (0, 0) = W.getD i (0, 0) := by
  rw [List.getD_eq_getElem?_getD, List.getElem?_append_left h, ← List.getD_eq_getElem?_getD]
theorem run_val (p : Nat → Bool) : ∀ k, RunV p k (runK p k)
  | 0 => ⟨fun i h => absurd h (by simp [runK]), fun i j _ h => absurd h (by simp [runK]), fun f h => by omega⟩
  | k + 1 => by
    have V := run_val p k
    rw [runK]
    generalize runK p k = W at *
    unfold runS
    by_cases e : p k = true
    · rw [if_pos e]
      by_cases c : 0 < W.length ∧ (W.getD (W.length - 1) (0, 0)).2 = (k : Int) - 1
      · rw [if_pos c]
        obtain ⟨c1, c2⟩ := c
        have at_ : ∀ i, i < W.length → (W.set (W.length - 1) ((W.getD (W.length - 1) (0, 0)).1, (k : Int))).getD i (0, 0) = if i = W.length - 1 then ((W.getD (W.length - 1) (0, 0)).1, (k : Int)) else W.getD i (0, 0) := fun i hi => by
          by_cases h : i = W.length - 1
          · subst h; rw [if_pos rfl, getD_set (by omega)]
          · rw [if_neg h, getD_set_ne (Ne.symm h)]
        have rl := V.r (W.length - 1) (by omega)
        refine ⟨fun i hi => ?_, fun i j hij hj => ?_, fun f hf => ?_⟩
        · rw [List.length_set] at hi
          rw [at_ i hi]
          have := V.r i hi
          split
          · refine ⟨rl.1, ?_, ?_⟩ <;> simp only <;> omega
          · omega
        · rw [List.length_set] at hj
          rw [at_ i (by omega), at_ j hj, if_neg (by omega)]
          have := V.g i j hij hj
          split
          · rename_i h; subst h; exact this
          · exact this
        · constructor
          · intro hp
            by_cases hk : f = k
            · subst hk
              refine ⟨W.length - 1, by rw [List.length_set]; omega, ?_⟩
              rw [at_ _ (by omega), if_pos rfl]
              simp only
              omega
            · obtain ⟨i, i1, i2, i3⟩ := (V.c f (by omega)).1 hp
              refine ⟨i, by rw [List.length_set]; exact i1, ?_⟩
              rw [at_ i i1]
              split
              · rename_i h; subst h; simp only; omega
              · exact ⟨i2, i3⟩
          · rintro ⟨i, i1, i2⟩
            by_cases hk : f = k
            · subst hk; exact e
            · rw [List.length_set] at i1
              rw [at_ i i1] at i2
              refine (V.c f (by omega)).2 ⟨i, i1, ?_⟩
              split at i2
              · rename_i h; subst h; simp only at i2; omega
              · exact i2
      · rw [if_neg c]
        have low : ∀ i, i < W.length → (W.getD i (0, 0)).2 + 1 < k := fun i hi => by
          have a := V.r i hi
          have b := V.r (W.length - 1) (by omega)
          by_cases h : i = W.length - 1
          · subst h
            have : (W.getD (W.length - 1) (0, 0)).2 ≠ (k : Int) - 1 := fun h => c ⟨by omega, h⟩
            omega
          · have := V.g i (W.length - 1) (by omega) (by omega)
            omega
        refine ⟨fun i hi => ?_, fun i j hij hj => ?_, fun f hf => ?_⟩
        · rw [List.length_append, List.length_singleton] at hi
          by_cases h : i < W.length
          · rw [getD_app_lt h]; have := V.r i h; omega
          · obtain rfl : i = W.length := by omega
            rw [getD_app]; simp only; omega
        · rw [List.length_append, List.length_singleton] at hj
          rw [getD_app_lt (by omega)]
          by_cases h : j < W.length
          · rw [getD_app_lt h]; exact V.g i j hij h
          · obtain rfl : j = W.length := by omega
            rw [getD_app]; exact low i hij
        · constructor
          · intro hp
            by_cases hk : f = k
            · subst hk
              exact ⟨W.length, by simp, by rw [getD_app]; simp⟩
            · obtain ⟨i, i1, i2⟩ := (V.c f (by omega)).1 hp
              exact ⟨i, by rw [List.length_append]; omega, by rw [getD_app_lt i1]; exact i2⟩
          · rintro ⟨i, i1, i2⟩
            by_cases hk : f = k
            · subst hk; exact e
            · rw [List.length_append, List.length_singleton] at i1
              by_cases h : i < W.length
              · rw [getD_app_lt h] at i2; exact (V.c f (by omega)).2 ⟨i, h, i2⟩
              · obtain rfl : i = W.length := by omega
                rw [getD_app] at i2; simp only at i2; omega
    · rw [if_neg e]
      refine ⟨fun i hi => by have := V.r i hi; omega, V.g, fun f hf => ?_⟩
      by_cases hk : f = k
      · subst hk
        exact ⟨fun h => absurd h e, fun ⟨i, i1, i2⟩ => by have := V.r i i1; omega⟩
      · exact V.c f (by omega)
/-- A run is the longest one. -/
theorem RunV.most {p : Nat → Bool} {k : Nat} {W : List (Int × Int)} (V : RunV p k W) {lo hi : Nat} (h1 : lo ≤ hi) (h2 : hi < k) (h : ∀ f, lo ≤ f → f ≤ hi → p f = true) : ∃ i, i < W.length ∧ (W.getD i (0, 0)).1 ≤ lo ∧ (hi : Int) ≤ (W.getD i (0, 0)).2 := by
  obtain ⟨i, i1, i2, i3⟩ := (V.c lo (by omega)).1 (h lo (Nat.le_refl _) h1)
  refine ⟨i, i1, i2, Int.not_lt.1 fun hlt => ?_⟩
  have ri := V.r i i1
  have e : (((W.getD i (0, 0)).2 + 1).toNat : Int) = (W.getD i (0, 0)).2 + 1 := Int.toNat_of_nonneg (by omega)
  obtain ⟨j, j1, j2, j3⟩ := (V.c ((W.getD i (0, 0)).2 + 1).toNat (by omega)).1 (h _ (by omega) (by omega))
  rw [e] at j2 j3
  rcases Nat.lt_trichotomy i j with hij | hij | hij
  · have := V.g i j hij j1; omega
  · subst hij; omega
  · have := V.g j i hij i1; omega
theorem enf_le {L : List (Int × Int)} {s s' : Int} (h : s ≤ s') {f : Nat} (e : enf L s' f = true) : enf L s f = true := by
  unfold enf enB at *
  rw [decide_eq_true_eq] at *
  have := Int.mul_le_mul_of_nonneg_right h (by omega : 0 ≤ (L.length : Int))
  omega
theorem qnt_le {L : List (Int × Int)} {s s' : Int} (h0 : 0 < L.length) (h : s ≤ s') (hs : s' ≤ 1000) : qnt L s' ≤ qnt L s := by
  obtain ⟨a1, a2, _⟩ := qnt_spec (s := s') h0 hs
  obtain ⟨_, _, b3⟩ := qnt_spec (s := s) h0 (by omega)
  refine b3 _ a1 ?_
  unfold enB at *
  rw [decide_eq_true_eq] at *
  have := Int.mul_le_mul_of_nonneg_right h (by omega : 0 ≤ (L.length : Int))
  omega
theorem win_len {L : List (Int × Int)} {s : Int} : (win L s).length ≤ 2 * L.length + 1 := by
  have a := winK_len (bords L) L s ((bords L).length - 1)
  have b := compact_le (sortB L)
  change (bords L).length ≤ _ at b
  rw [sortB_len, bordK_len] at b
  unfold win
  omega
end Go.Proofs.Ytpfknijmipklaaa
