/-
  Chapter 5: usable frequencies from both sides, in plain words; the remainder (by contract).
  Conditions: none.
-/
import Derived.Test.Ytplaocfagjeikaa5U
namespace Go.Proofs.Ytplaocfagjeikaa
open Go.RowKit Fx
theorem task_inc {t : Task} (v : t.Val) {j : Nat} : ∀ k, j < k → k < t.fr.length → t.fr.getD j 0 < t.fr.getD k 0
  | 0, h, _ => by omega
  | k + 1, h, hk => by
    have := v.inc (k + 1) hk (by omega)
    rw [show k + 1 - 1 = k by omega] at this
    by_cases e : j = k
    · subst e; exact this
    · have := task_inc v (j := j) k (by omega) (by omega)
      omega
theorem ans_none {s : Sky} {F : Int} {t : Task} {c : Nat} : ¬ 0 < mxLK (ansL s F t c) ((ansL s F t c).length - 1) → ∀ n, n < c → ansAt s F t c n = 0 := fun h n hn => by
  have mp := (mxLK_pos (l := ansL s F t c) (fun i => (ans_range ..).1) ((ansL s F t c).length - 1)).1
  by_cases e : ansAt s F t c n = 0
  · exact e
  · exact absurd (mp.2 ⟨n, by rw [ansL_len]; omega, by rw [ansL_at hn]; exact e⟩) h
structure UsaAt (s : Sky) (t : Task) (c : Nat) (k : Nat) (u : Usa) : Prop where
  per : u.per = 0 ∨ ∃ j, j < k ∧ u.per = t.fr.getD j 0
  sure : u.sure = 0 ∨ ∃ j, j < k ∧ u.sure = t.fr.getD j 0
  le : u.sure ≤ u.per
  at0 : 0 ≤ u.at_
  at1 : u.at_ ≤ c - 1
  hit : 0 < u.sure → ansAt s (u.sure * u.sure) t c u.at_.toNat = 2
  above : ∀ i, i < k → u.per < t.fr.getD i 0 → ∀ n, n < c → ansAt s (t.fr.getD i 0 * t.fr.getD i 0) t c n = 0
theorem usa_at {s : Sky} {t : Task} {c : Nat} (v : t.Val) (h0 : 0 < c) : ∀ k, k ≤ t.fr.length → UsaAt s t c k (usaK s t c k)
  | 0, _ => ⟨.inl rfl, .inl rfl, Int.le_refl _, Int.le_refl _, by show (0 : Int) ≤ _; omega, fun h => absurd (show (0 : Int) < 0 from h) (by decide), fun i hi => by omega⟩
  | k + 1, hk => by
    have ih := usa_at (s := s) v h0 k (by omega)
    have f1 := (v.f k (by omega)).1
    have pl : (usaK s t c k).per < t.fr.getD k 0 := by
      rcases ih.per with h | ⟨j, h1, h2⟩
      · omega
      · have := task_inc v k h1 (by omega)
        omega
    have nx := usa_next (s := s) (t := t) (k := k) h0
    have an := ans_none (s := s) (F := t.fr.getD k 0 * t.fr.getD k 0) (t := t) (c := c)
    have la : ∀ n, n < c → (ansL s (t.fr.getD k 0 * t.fr.getD k 0) t c).getD n 0 = ansAt s (t.fr.getD k 0 * t.fr.getD k 0) t c n := fun n hn => ansL_at hn
    have ll := ansL_len s (t.fr.getD k 0 * t.fr.getD k 0) t c
    have mp := (mxLK_pos (l := ansL s (t.fr.getD k 0 * t.fr.getD k 0) t c) (fun i => (ans_range ..).1) ((ansL s (t.fr.getD k 0 * t.fr.getD k 0) t c).length - 1)).1
    rw [nx]
    clear nx
    generalize ansL s (t.fr.getD k 0 * t.fr.getD k 0) t c = L at *
    generalize usaK s t c k = u at *
    dsimp only
    have le := ih.le
    have a0 := ih.at0
    have a1 := ih.at1
    rcases idx_spec (x := 2) L 0 with ⟨a, b⟩ | ⟨m, a, b, d, e⟩
    · rw [if_neg (by omega), if_neg (by omega)]
      by_cases hm : 0 < mxLK L (L.length - 1)
      · rw [if_pos hm]
        refine ⟨.inr ⟨k, by omega, rfl⟩, ?_, by dsimp only; omega, a0, a1, ih.hit, fun i hi hp => ?_⟩
        · rcases ih.sure with h | ⟨j, h1, h2⟩
          · exact .inl h
          · exact .inr ⟨j, by omega, h2⟩
        · dsimp only at hp
          by_cases e : i = k
          · subst e; omega
          · have := task_inc v k (show i < k by omega) (by omega)
            omega
      · rw [if_neg hm]
        refine ⟨?_, ?_, le, a0, a1, ih.hit, fun i hi hp => ?_⟩
        · rcases ih.per with h | ⟨j, h1, h2⟩
          · exact .inl h
          · exact .inr ⟨j, by omega, h2⟩
        · rcases ih.sure with h | ⟨j, h1, h2⟩
          · exact .inl h
          · exact .inr ⟨j, by omega, h2⟩
        · by_cases e : i = k
          · subst e; exact an hm
          · exact ih.above i (by omega) hp
    · have hm : 0 < mxLK L (L.length - 1) := mp.2 ⟨m, by omega, by rw [← b]; decide⟩
      rw [if_pos (by omega), if_pos (by omega), if_pos hm]
      refine ⟨.inr ⟨k, by omega, rfl⟩, .inr ⟨k, by omega, rfl⟩, Int.le_refl _, by dsimp only; omega, by dsimp only; omega, fun _ => ?_, fun i hi hp => ?_⟩
      · dsimp only
        rw [show (idxE 2 L 0).toNat = m by omega, ← la m (by omega)]; exact b.symm
      · dsimp only at hp
        by_cases e : i = k
        · subst e; omega
        · have := task_inc v k (show i < k by omega) (by omega)
          omega
/-- A wider target. -/
theorem ans_wide {s : Sky} {F : Int} {t t' : Task} {c n : Nat} (hl : t'.lo ≤ t.lo) (hh : t.hi ≤ t'.hi) (_lt : t.lo ≤ t.hi) : (ansAt s F t c n = 2 → ansAt s F t' c n = 2) ∧ (ansAt s F t c n ≠ 0 → ansAt s F t' c n ≠ 0) := by
  unfold ansAt
  by_cases h : gLand s F c n = true
  · rw [if_pos h, if_pos h]
    unfold answerE
    constructor
    · intro h2
      split at h2
      · cases h2
      split at h2
      · rename_i h3 h4
        rw [if_neg (by omega), if_pos (by omega)]
      · cases h2
    · intro h2
      split at h2
      · exact absurd rfl h2
      · rw [if_neg (by omega)]
        split <;> decide
  · rw [if_neg h, if_neg h]
    exact ⟨fun h => (by cases h), fun h => absurd rfl h⟩
theorem usa_wide {s : Sky} {t t' : Task} {c : Nat} (v : t.Val) (h0 : 0 < c) (hl : t'.lo ≤ t.lo) (hh : t.hi ≤ t'.hi) (hf : t'.fr = t.fr) : ∀ k, k ≤ t.fr.length → (usaK s t c k).sure ≤ (usaK s t' c k).sure ∧ (usaK s t c k).per ≤ (usaK s t' c k).per
  | 0, _ => ⟨Int.le_refl _, Int.le_refl _⟩
  | k + 1, hk => by
    have ih := usa_wide (s := s) v h0 hl hh hf k (by omega)
    have ua := usa_at (s := s) v h0 k (by omega)
    have f1 := (v.f k (by omega)).1
    have pl : (usaK s t c k).per < t.fr.getD k 0 := by
      rcases ua.per with h | ⟨j, h1, h2⟩
      · omega
      · have := task_inc v k h1 (by omega)
        omega
    have sl := ua.le
    have n1 := usa_next (s := s) (t := t) (k := k) h0
    have n2 := usa_next (s := s) (t := t') (k := k) h0
    have aw := fun n => ans_wide (s := s) (F := t.fr.getD k 0 * t.fr.getD k 0) (c := c) (n := n) hl hh v.lh
    have la : ∀ n, n < c → (ansL s (t.fr.getD k 0 * t.fr.getD k 0) t c).getD n 0 = ansAt s (t.fr.getD k 0 * t.fr.getD k 0) t c n := fun n hn => ansL_at hn
    have la' : ∀ n, n < c → (ansL s (t.fr.getD k 0 * t.fr.getD k 0) t' c).getD n 0 = ansAt s (t.fr.getD k 0 * t.fr.getD k 0) t' c n := fun n hn => ansL_at hn
    have ll := ansL_len s (t.fr.getD k 0 * t.fr.getD k 0) t c
    have ll' := ansL_len s (t.fr.getD k 0 * t.fr.getD k 0) t' c
    have mp := (mxLK_pos (l := ansL s (t.fr.getD k 0 * t.fr.getD k 0) t c) (fun i => (ans_range ..).1) ((ansL s (t.fr.getD k 0 * t.fr.getD k 0) t c).length - 1)).1
    have mp' := (mxLK_pos (l := ansL s (t.fr.getD k 0 * t.fr.getD k 0) t' c) (fun i => (ans_range ..).1) ((ansL s (t.fr.getD k 0 * t.fr.getD k 0) t' c).length - 1)).1
    rw [hf] at n2
    rw [n1, n2]
    clear n1 n2
    generalize ansL s (t.fr.getD k 0 * t.fr.getD k 0) t c = L at *
    generalize ansL s (t.fr.getD k 0 * t.fr.getD k 0) t' c = L' at *
    dsimp only
    have up : 0 < mxLK L (L.length - 1) → 0 < mxLK L' (L'.length - 1) := fun h => by
      obtain ⟨n, h1, h2⟩ := mp.1 h
      exact mp'.2 ⟨n, by omega, by rw [la' n (by omega)]; exact (aw n).2 (by rw [← la n (by omega)]; exact h2)⟩
    have us : 0 ≤ idxE 2 L 0 → 0 ≤ idxE 2 L' 0 := fun h => by
      rcases idx_spec (x := 2) L 0 with ⟨a, b⟩ | ⟨m, a, b, d, e⟩
      · omega
      · rcases idx_spec (x := 2) L' 0 with ⟨a', b'⟩ | ⟨m', a', b', d', e'⟩
        · refine absurd ?_ (b' m (by omega))
          rw [la' m (by omega)]
          exact ((aw m).1 (by rw [← la m (by omega)]; exact b.symm)).symm
        · omega
    constructor
    · by_cases h : 0 ≤ idxE 2 L 0
      · rw [if_pos h, if_pos (us h)]; exact Int.le_refl _
      · rw [if_neg h]
        split
        · omega
        · exact ih.1
    · by_cases h : 0 < mxLK L (L.length - 1)
      · rw [if_pos h, if_pos (up h)]; exact Int.le_refl _
      · rw [if_neg h]
        split
        · omega
        · exact ih.2
theorem skip_at {s : Sky} {F : Int} {c : Nat} : ∀ k, ∀ n, n < k → gLand s F c n = true → (skipK s F c k).found = true ∧ (skipK s F c k).lo ≤ (gGr s F c n).1 ∧ (skipK s F c k).hi ≤ (gGr s F c n).2
  | 0, n, h, _ => by omega
  | k + 1, n, hn, hl => by
    have ih := skip_at (s := s) (F := F) (c := c) k n
    by_cases hk : gLand s F c k = true
    · by_cases hf : (skipK s F c k).found = false
      · rw [skipK_first hk hf]
        by_cases e : n = k
        · subst e; exact ⟨rfl, Int.le_refl _, Int.le_refl _⟩
        · have := (ih (by omega) hl).1
          rw [hf] at this; cases this
      · rw [Bool.not_eq_false] at hf
        by_cases hm : (gGr s F c k).2 < (skipK s F c k).hi
        · rw [skipK_less hk hf hm]
          by_cases e : n = k
          · subst e; exact ⟨rfl, by dsimp only; omega, Int.le_refl _⟩
          · have := ih (by omega) hl
            exact ⟨rfl, by dsimp only; omega, by dsimp only; omega⟩
        · rw [skipK_more hk hf hm]
          by_cases e : n = k
          · subst e; exact ⟨rfl, by dsimp only; omega, by dsimp only; omega⟩
          · have := ih (by omega) hl
            exact ⟨rfl, by dsimp only; omega, by dsimp only; omega⟩
    · have hk2 : gLand s F c k = false := by simpa using hk
      rw [skipK_no hk2]
      by_cases e : n = k
      · subst e; exact absurd hl hk
      · exact ih (by omega) hl
/-- The remainder that is not negative. -/
def modE (a n : Int) : Int := if a.tmod n < 0 then a.tmod n + n else a.tmod n
theorem modE_bd {a n : Int} (h : 0 < n) : 0 ≤ modE a n ∧ modE a n < n := by
  unfold modE
  have h1 := Int.tmod_lt_of_pos a h
  have h2 := Int.lt_tmod_of_pos a h
  split <;> omega
theorem mod_ok {a n : Int} (h : 0 < n ∧ n ≤ 1000) : FnOK Try.prog 43 [I a, I n] (I (modE a n)) [] := by
  have h1 := Int.tmod_lt_of_pos a h.1
  have h2 := Int.lt_tmod_of_pos a h.1
  refine fn_i hmix hT Try.f43 (by kernel_rfl) rfl (by kernel_rfl) ?_
  with_reducible conv => whnf
  repeat' ((first | (with_reducible refine branch_t ?_) | (with_reducible refine branch_f ?_) | (with_reducible refine branch_nt ?_) | (with_reducible refine branch_nf ?_) | (with_reducible refine branch_dec (fun _ => ?_) (fun _ => ?_)) | (with_reducible refine branch_ndec (fun _ => ?_) (fun _ => ?_)) | (with_reducible refine branch_bool (fun _ => ?_) (fun _ => ?_)) | (with_reducible refine arith_64 (by omega) ?_) | (with_reducible refine ob_i (by omega) (fun _ => ?_)) | (with_reducible refine ob_i (by unfold room; omega) (fun _ => ?_)) | (with_reducible refine ob_i (by (try simp only [toN_eq, Int.toNat_natCast] at *); (try dsimp only [toN] at *); omega) (fun _ => ?_)) | (with_reducible refine arith_64 (by (try simp only [toN_eq, Int.toNat_natCast] at *); (try dsimp only [toN] at *); omega) ?_) | (with_reducible refine ob_k rfl ?_) | ((with_reducible refine ob_k ?_ ?_); focus kernel_rfl) | (refine yield_i hmix hT rfl hL efr eps eag ebd rfl (by kernel_rfl) ?_)  | (apply call_l (first_ok (l := [_, _]) (Nat.le_of_ble_eq_true rfl)) (.cons (vm_lit _ rfl rfl (.cons (vm_int rfl) (.cons (vm_int rfl) .nil))) .nil)) | (apply call_l (first_ok (l := [_, _, _]) (Nat.le_of_ble_eq_true rfl)) (.cons (vm_lit _ rfl rfl (.cons (vm_int rfl) (.cons (vm_int rfl) (.cons (vm_int rfl) .nil)))) .nil)) | (apply call_l (first_ok (l := [_, _, _, _]) (Nat.le_of_ble_eq_true rfl)) (.cons (vm_lit _ rfl rfl (.cons (vm_int rfl) (.cons (vm_int rfl) (.cons (vm_int rfl) (.cons (vm_int rfl) .nil))))) .nil))) <;> (try (exfalso; omega; done)) <;> (with_reducible conv => whnf))
  · exact ret0 (vm_int (if_pos (by assumption)).symm)
  · exact ret0 (vm_int (if_neg (by assumption)).symm)
theorem ck_own {s : Sky} {t : Task} {c : Nat} (v : t.Val) (h0 : 0 < c) (hp : 0 < (usaK s t c t.fr.length).per) : ckE t.fr c (usaK s t c t.fr.length) (usaK s t c t.fr.length).sure (usaK s t c t.fr.length).at_ (usaK s t c t.fr.length).per = 0 := by
  have ua := usa_at (s := s) v h0 _ (Nat.le_refl _)
  have a0 := ua.at0
  have a1 := ua.at1
  have le := ua.le
  have h1 : hasB t.fr (usaK s t c t.fr.length).per = true := by
    rcases ua.per with h | ⟨j, h1, h2⟩
    · omega
    · exact has_spec.2 ⟨j, h1, h2⟩
  have h2 : (usaK s t c t.fr.length).sure ≠ 0 → hasB t.fr (usaK s t c t.fr.length).sure = true := fun hn => by
    rcases ua.sure with h | ⟨j, h1, h2⟩
    · omega
    · exact has_spec.2 ⟨j, h1, h2⟩
  unfold ckE
  rw [if_neg ?_, if_neg (by omega), if_neg (by omega), if_pos ⟨rfl, rfl, rfl⟩]
  rintro (h | ⟨h, h3⟩)
  · rw [h1] at h; cases h
  · rw [h2 h] at h3; cases h3
end Go.Proofs.Ytplaocfagjeikaa
