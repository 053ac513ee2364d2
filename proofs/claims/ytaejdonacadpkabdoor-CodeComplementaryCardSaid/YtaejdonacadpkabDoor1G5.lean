/-
  Chapter 1 (plain): what complementary pairs of codes give: exchanged, reversed, opposite, doubled and interleaved pairs are complementary.
  Conditions: none.
-/
import Derived.Test.YtaejdonacadpkabDoor1G4
namespace Go.Proofs.YtaejdonacadpkabDoor
open Go.RowKit Fx
/-! ### Sums -/
def sm (f : Nat → Int) : Nat → Int
  | 0 => 0
  | m + 1 => sm f m + f m
theorem corK_sm (a b : List Int) (k : Nat) : ∀ m, corK a b k m = sm (fun i => a.getD (k + i) 0 * b.getD i 0) m
  | 0 => rfl
  | m + 1 => by unfold corK sm; rw [corK_sm a b k m]
theorem sm_congr {f g : Nat → Int} : ∀ m, (∀ i, i < m → f i = g i) → sm f m = sm g m
  | 0, _ => rfl
  | m + 1, h => by unfold sm; rw [sm_congr m fun i hi => h i (by omega), h m (by omega)]
theorem sm_shift (f : Nat → Int) : ∀ m, sm f (m + 1) = f 0 + sm (fun i => f (i + 1)) m
  | 0 => by simp [sm]
  | m + 1 => by
    have ih := sm_shift f m
    show sm f (m + 1) + f (m + 1) = f 0 + (sm (fun i => f (i + 1)) m + f (m + 1))
    rw [ih]
    omega
theorem sm_rev (f : Nat → Int) : ∀ m, sm (fun i => f (m - 1 - i)) m = sm f m
  | 0 => rfl
  | m + 1 => by
    rw [sm_shift]
    have ih := sm_rev f m
    rw [sm_congr m (g := fun i => f (m - 1 - i)) (fun i hi => by rw [show m + 1 - 1 - (i + 1) = m - 1 - i by omega]), ih]
    show f (m + 1 - 1 - 0) + sm f m = sm f m + f m
    rw [show m + 1 - 1 - 0 = m by omega]
    omega
/-! ### When two codes are complementary -/
theorem clK_0 {a b : List Int} : ∀ r k : Nat, 1 ≤ k → (clK a b r k = 0 ↔ ∀ j, k ≤ j → j < k + r → cor a a j + cor b b j = 0)
  | 0, k, _ => by
    constructor
    · intro _ j h1 h2; omega
    · intro _; rfl
  | r + 1, k, hk => by
    have ih := clK_0 (a := a) (b := b) r (k + 1) (by omega)
    unfold clK
    by_cases c : cor a a k + cor b b k ≠ 0
    · rw [if_pos c]
      constructor
      · intro h; omega
      · intro h; exact absurd (h k (Nat.le_refl _) (by omega)) c
    · rw [if_neg c, ih]
      constructor
      · intro h j h1 h2
        by_cases q : j = k
        · subst q; omega
        · exact h j (by omega) (by omega)
      · intro h j h1 h2; exact h j (by omega) (by omega)
theorem clV_0 {a b : List Int} : clV a b = 0 ↔ ∀ j, 1 ≤ j → j < a.length → cor a a j + cor b b j = 0 := by
  unfold clV
  rw [clK_0 _ 1 (Nat.le_refl _)]
  constructor
  · intro h j h1 h2; exact h j h1 (by omega)
  · intro h j h1 h2; exact h j h1 (by omega)
/-- A complementary pair. -/
structure Cp (a b : List Int) : Prop where
  ea : codeE a = 0
  eb : codeE b = 0
  el : a.length = b.length
  z : ∀ j, 1 ≤ j → j < a.length → cor a a j + cor b b j = 0
theorem Cp.pk {a b : List Int} (h : Cp a b) : pkE a b = 0 ∧ pkV a b = 0 := by
  have p : prE a b = 0 := by
    unfold prE
    rw [if_neg (fun c => c h.ea), if_neg (fun c => c h.eb), decide_eq_true (by have := h.el; omega)]
    rfl
  have c := clV_0.2 h.z
  unfold pkE pkV
  rw [p, c]
  exact ⟨rfl, rfl⟩
theorem cp_of {a b : List Int} (h : pkE a b = 0) : Cp a b := by
  unfold pkE at h
  split at h
  · rename_i c; exact absurd h c
  · rename_i c
    obtain ⟨ea, eb, el⟩ := pr_val (Decidable.not_not.1 c)
    split at h
    · rename_i d; exact ⟨ea, eb, el, clV_0.1 d⟩
    · cases h
theorem code_at {a : List Int} (h : codeE a = 0) : (0 < a.length ∧ a.length ≤ 32) ∧ ∀ i, i < a.length → a.getD i 0 = 1 ∨ a.getD i 0 = -1 := by
  unfold codeE at h
  split at h
  · cases h
  split at h
  · cases h
  split at h
  · rename_i h1 h2 h3
    refine ⟨by omega, fun i hi => ?_⟩
    have := List.all_eq_true.1 h3 a[i] (List.getElem_mem hi)
    have e : a.getD i 0 = a[i] := by simp [List.getD_eq_getElem?_getD, hi]
    rw [e]
    unfold is1 at this
    simpa using this
  · cases h
theorem code_of {a : List Int} (h0 : 0 < a.length) (h1 : a.length ≤ 32) (h : ∀ i, i < a.length → a.getD i 0 = 1 ∨ a.getD i 0 = -1) : codeE a = 0 := by
  unfold codeE
  rw [if_neg (by omega), if_neg (by omega), if_pos]
  refine List.all_eq_true.2 fun x hx => ?_
  obtain ⟨i, hi, rfl⟩ := List.getElem_of_mem hx
  have := h i hi
  have e : a.getD i 0 = a[i] := by simp [List.getD_eq_getElem?_getD, hi]
  rw [e] at this
  unfold is1
  simpa using this
theorem Cp.swap {a b : List Int} (h : Cp a b) : Cp b a := ⟨h.eb, h.ea, h.el.symm, fun j h1 h2 => by have := h.z j h1 (by have := h.el; omega); omega⟩
/-! ### Reversed -/
def revK (a : List Int) (k : Nat) : List Int := (List.range k).map fun i => a.getD (a.length - 1 - i) 0
theorem revK_len (a : List Int) (k : Nat) : (revK a k).length = k := by simp [revK]
theorem revK_at {a : List Int} {k i : Nat} (h : i < k) : (revK a k).getD i 0 = a.getD (a.length - 1 - i) 0 := range_map_at h
theorem cor_rev {a : List Int} {k : Nat} (h : k < a.length) : cor (revK a a.length) (revK a a.length) k = cor a a k := by
  unfold cor
  rw [revK_len, corK_sm, corK_sm, ← sm_rev (fun i => a.getD (k + i) 0 * a.getD i 0)]
  refine sm_congr _ fun i hi => ?_
  rw [revK_at (by omega), revK_at (by omega), Int.mul_comm]
  rw [show a.length - 1 - i = k + (a.length - k - 1 - i) by omega, show a.length - 1 - (k + i) = a.length - k - 1 - i by omega]
theorem Cp.rev {a b : List Int} (h : Cp a b) : Cp (revK a a.length) b := by
  obtain ⟨⟨l0, l1⟩, at_⟩ := code_at h.ea
  refine ⟨code_of (by rw [revK_len]; exact l0) (by rw [revK_len]; exact l1) fun i hi => ?_, h.eb, by rw [revK_len]; exact h.el, fun j h1 h2 => ?_⟩
  · rw [revK_len] at hi
    rw [revK_at hi]
    exact at_ _ (by omega)
  · rw [revK_len] at h2
    rw [cor_rev h2]
    exact h.z j h1 h2
/-! ### Opposite -/
theorem cor_neg (b : List Int) (k : Nat) : cor (negL b) (negL b) k = cor b b k := by
  unfold cor
  rw [negL_len, corK_sm, corK_sm]
  refine sm_congr _ fun i hi => ?_
  rw [negL_at, negL_at, Int.neg_mul, Int.mul_neg, Int.neg_neg]
theorem code_neg {b : List Int} (h : codeE b = 0) : codeE (negL b) = 0 := by
  obtain ⟨⟨l0, l1⟩, at_⟩ := code_at h
  refine code_of (by rw [negL_len]; exact l0) (by rw [negL_len]; exact l1) fun i hi => ?_
  rw [negL_len] at hi
  rw [negL_at]
  have := at_ i hi
  omega
theorem Cp.neg {a b : List Int} (h : Cp a b) : Cp a (negL b) := ⟨h.ea, code_neg h.eb, by rw [negL_len]; exact h.el, fun j h1 h2 => by rw [cor_neg]; exact h.z j h1 h2⟩
/-! ### Doubled -/
theorem dbl_sum {a b : List Int} {k : Nat} (el : a.length = b.length) : ∀ m : Nat, m ≤ 2 * a.length - k → corK (a ++ b) (a ++ b) k m + corK (a ++ negL b) (a ++ negL b) k m = 2 * corK a a k (min m (a.length - k)) + 2 * corK b b k (m - a.length)
  | 0, _ => by simp [corK]
  | m + 1, h => by
    have ih := dbl_sum (k := k) el m (by omega)
    have e1 : corK (a ++ b) (a ++ b) k (m + 1) = corK (a ++ b) (a ++ b) k m + (a ++ b).getD (k + m) 0 * (a ++ b).getD m 0 := rfl
    have e2 : corK (a ++ negL b) (a ++ negL b) k (m + 1) = corK (a ++ negL b) (a ++ negL b) k m + (a ++ negL b).getD (k + m) 0 * (a ++ negL b).getD m 0 := rfl
    rw [e1, e2, app_at, app_at, app_at, app_at]
    by_cases c1 : k + m < a.length
    · rw [if_pos c1, if_pos (by omega), if_pos c1, if_pos (by omega)]
      rw [show min m (a.length - k) = m by omega, show m - a.length = 0 by omega] at ih
      rw [show min (m + 1) (a.length - k) = m + 1 by omega, show m + 1 - a.length = 0 by omega]
      have e3 : corK a a k (m + 1) = corK a a k m + a.getD (k + m) 0 * a.getD m 0 := rfl
      rw [e3]
      omega
    · by_cases c2 : m < a.length
      · rw [if_neg c1, if_pos c2, if_neg c1, if_pos c2, negL_at, Int.neg_mul]
        rw [show min m (a.length - k) = a.length - k by omega, show m - a.length = 0 by omega] at ih
        rw [show min (m + 1) (a.length - k) = a.length - k by omega, show m + 1 - a.length = 0 by omega]
        omega
      · rw [if_neg c1, if_neg c2, if_neg c1, if_neg c2, negL_at, negL_at, Int.neg_mul, Int.mul_neg, Int.neg_neg]
        rw [show min m (a.length - k) = a.length - k by omega] at ih
        rw [show min (m + 1) (a.length - k) = a.length - k by omega, show m + 1 - a.length = (m - a.length) + 1 by omega]
        have e3 : corK b b k (m - a.length + 1) = corK b b k (m - a.length) + b.getD (k + (m - a.length)) 0 * b.getD (m - a.length) 0 := rfl
        rw [e3, show k + m - a.length = k + (m - a.length) by omega]
        omega
theorem Cp.dbl {a b : List Int} (h : Cp a b) (h16 : 2 * a.length ≤ 32) : Cp (a ++ b) (a ++ negL b) := by
  obtain ⟨⟨l0, l1⟩, at_⟩ := code_at h.ea
  obtain ⟨_, bt⟩ := code_at h.eb
  have el := h.el
  have n1 : (a ++ b).length = 2 * a.length := by rw [List.length_append]; omega
  have n2 : (a ++ negL b).length = 2 * a.length := by rw [List.length_append, negL_len]; omega
  refine ⟨code_of (by omega) (by omega) fun i hi => ?_, code_of (by omega) (by omega) fun i hi => ?_, by omega, fun j h1 h2 => ?_⟩
  · rw [app_at]
    split
    · exact at_ _ (by assumption)
    · exact bt _ (by omega)
  · rw [app_at]
    split
    · exact at_ _ (by assumption)
    · rw [negL_at]
      have := bt (i - a.length) (by omega)
      omega
  · unfold cor
    rw [n1, n2, dbl_sum el _ (Nat.le_refl _)]
    by_cases c : j < a.length
    · have := h.z j h1 c
      unfold cor at this
      rw [show min (2 * a.length - j) (a.length - j) = a.length - j by omega, show 2 * a.length - j - a.length = b.length - j by omega]
      omega
    · rw [show min (2 * a.length - j) (a.length - j) = 0 by omega, show 2 * a.length - j - a.length = 0 by omega]
      rfl
/-! ### Interleaved -/
theorem ilK_at {a b : List Int} : ∀ {m i : Nat}, i < 2 * m → (ilK a b m).getD i 0 = if i % 2 = 0 then a.getD (i / 2) 0 else b.getD (i / 2) 0
  | 0, i, h => by omega
  | m + 1, i, h => by
    show (ilK a b m ++ [a.getD m 0, b.getD m 0]).getD i 0 = _
    rw [app_at, ilK_len]
    by_cases c : i < 2 * m
    · rw [if_pos c, ilK_at c]
    · rw [if_neg c]
      by_cases d : i = 2 * m
      · subst d
        rw [if_pos (by omega), show 2 * m - 2 * m = 0 by omega, show 2 * m / 2 = m by omega]
        rfl
      · obtain rfl : i = 2 * m + 1 := by omega
        rw [if_neg (by omega), show 2 * m + 1 - 2 * m = 1 by omega, show (2 * m + 1) / 2 = m by omega]
        rfl
theorem il_even {a b : List Int} {n k : Nat} : ∀ m : Nat, 2 * k + m ≤ 2 * n → corK (ilK a b n) (ilK a b n) (2 * k) m + corK (ilK a (negL b) n) (ilK a (negL b) n) (2 * k) m = 2 * corK a a k ((m + 1) / 2) + 2 * corK b b k (m / 2)
  | 0, _ => by simp [corK]
  | m + 1, h => by
    have ih := il_even (a := a) (b := b) (n := n) (k := k) m (by omega)
    have e1 : corK (ilK a b n) (ilK a b n) (2 * k) (m + 1) = corK (ilK a b n) (ilK a b n) (2 * k) m + (ilK a b n).getD (2 * k + m) 0 * (ilK a b n).getD m 0 := rfl
    have e2 : corK (ilK a (negL b) n) (ilK a (negL b) n) (2 * k) (m + 1) = corK (ilK a (negL b) n) (ilK a (negL b) n) (2 * k) m + (ilK a (negL b) n).getD (2 * k + m) 0 * (ilK a (negL b) n).getD m 0 := rfl
    rw [e1, e2, ilK_at (by omega), ilK_at (by omega), ilK_at (by omega), ilK_at (by omega)]
    by_cases c : m % 2 = 0
    · rw [if_pos (by omega), if_pos c, if_pos (by omega), if_pos c]
      rw [show (m + 1 + 1) / 2 = m / 2 + 1 by omega, show (m + 1) / 2 = m / 2 by omega]
      rw [show (m + 1) / 2 = m / 2 by omega] at ih
      have e3 : corK a a k (m / 2 + 1) = corK a a k (m / 2) + a.getD (k + m / 2) 0 * a.getD (m / 2) 0 := rfl
      rw [e3, show (2 * k + m) / 2 = k + m / 2 by omega]
      omega
    · rw [if_neg (by omega), if_neg c, if_neg (by omega), if_neg c, negL_at, negL_at, Int.neg_mul, Int.mul_neg, Int.neg_neg]
      rw [show (m + 1 + 1) / 2 = m / 2 + 1 by omega, show (m + 1) / 2 = m / 2 + 1 by omega]
      rw [show (m + 1) / 2 = m / 2 + 1 by omega] at ih
      have e3 : corK b b k (m / 2 + 1) = corK b b k (m / 2) + b.getD (k + m / 2) 0 * b.getD (m / 2) 0 := rfl
      rw [e3, show (2 * k + m) / 2 = k + m / 2 by omega]
      omega
theorem il_odd {a b : List Int} {n k : Nat} : ∀ m : Nat, 2 * k + 1 + m ≤ 2 * n → corK (ilK a b n) (ilK a b n) (2 * k + 1) m + corK (ilK a (negL b) n) (ilK a (negL b) n) (2 * k + 1) m = 0
  | 0, _ => by simp [corK]
  | m + 1, h => by
    have ih := il_odd (a := a) (b := b) (n := n) (k := k) m (by omega)
    have e1 : corK (ilK a b n) (ilK a b n) (2 * k + 1) (m + 1) = corK (ilK a b n) (ilK a b n) (2 * k + 1) m + (ilK a b n).getD (2 * k + 1 + m) 0 * (ilK a b n).getD m 0 := rfl
    have e2 : corK (ilK a (negL b) n) (ilK a (negL b) n) (2 * k + 1) (m + 1) = corK (ilK a (negL b) n) (ilK a (negL b) n) (2 * k + 1) m + (ilK a (negL b) n).getD (2 * k + 1 + m) 0 * (ilK a (negL b) n).getD m 0 := rfl
    rw [e1, e2, ilK_at (by omega), ilK_at (by omega), ilK_at (by omega), ilK_at (by omega)]
    by_cases c : m % 2 = 0
    · rw [if_neg (by omega), if_pos c, if_neg (by omega), if_pos c, negL_at, Int.neg_mul]
      omega
    · rw [if_pos (by omega), if_neg c, if_pos (by omega), if_neg c, negL_at, Int.mul_neg]
      omega
theorem Cp.il {a b : List Int} (h : Cp a b) (h16 : 2 * a.length ≤ 32) : Cp (ilK a b a.length) (ilK a (negL b) a.length) := by
  obtain ⟨⟨l0, l1⟩, at_⟩ := code_at h.ea
  obtain ⟨_, bt⟩ := code_at h.eb
  have el := h.el
  have n1 := ilK_len a b a.length
  have n2 := ilK_len a (negL b) a.length
  refine ⟨code_of (by omega) (by omega) fun i hi => ?_, code_of (by omega) (by omega) fun i hi => ?_, by omega, fun j h1 h2 => ?_⟩
  · rw [ilK_at (by omega)]
    split
    · exact at_ _ (by omega)
    · exact bt _ (by omega)
  · rw [ilK_at (by omega)]
    split
    · exact at_ _ (by omega)
    · rw [negL_at]
      have := bt (i / 2) (by omega)
      omega
  · unfold cor
    rw [n1, n2]
    by_cases c : j % 2 = 0
    · obtain ⟨k, rfl⟩ : ∃ k, j = 2 * k := ⟨j / 2, by omega⟩
      rw [il_even _ (by omega)]
      have := h.z k (by omega) (by omega)
      unfold cor at this
      rw [show (2 * a.length - 2 * k + 1) / 2 = a.length - k by omega, show (2 * a.length - 2 * k) / 2 = b.length - k by omega]
      omega
    · obtain ⟨k, rfl⟩ : ∃ k, j = 2 * k + 1 := ⟨j / 2, by omega⟩
      exact il_odd _ (by omega)
/-! ### At every lag -/
theorem cor_0 {a : List Int} (h : ∀ i, i < a.length → a.getD i 0 = 1 ∨ a.getD i 0 = -1) : ∀ m, m ≤ a.length → corK a a 0 m = m
  | 0, _ => rfl
  | m + 1, hm => by
    have ih := cor_0 h m (by omega)
    unfold corK
    rw [ih, Nat.zero_add]
    rcases h m (by omega) with e | e <;> rw [e] <;> simp
theorem lag_sum {a b : List Int} (h : Cp a b) {lag : Int} (hl : -((a.length : Int) - 1) ≤ lag ∧ lag ≤ (a.length : Int) - 1) : rcK a a lag a.length + rcK b b lag b.length = if lag = 0 then 2 * (a.length : Int) else 0 := by
  obtain ⟨⟨l0, l1⟩, at_⟩ := code_at h.ea
  obtain ⟨_, bt⟩ := code_at h.eb
  have el := h.el
  by_cases c : lag = 0
  · subst c
    rw [if_pos rfl]
    have p := rcK_pos (a := a) (b := a) 0 a.length
    have q := rcK_pos (a := b) (b := b) 0 b.length
    rw [show min a.length (a.length - 0) = a.length by omega, cor_0 at_ _ (Nat.le_refl _)] at p
    rw [show min b.length (b.length - 0) = b.length by omega, cor_0 bt _ (Nat.le_refl _)] at q
    change rcK a a (0 : Int) a.length = _ at p
    change rcK b b (0 : Int) b.length = _ at q
    rw [p, q]
    omega
  · rw [if_neg c]
    by_cases d : 0 ≤ lag
    · obtain ⟨l, rfl⟩ : ∃ l : Nat, lag = l := ⟨lag.toNat, by omega⟩
      rw [rcK_pos, rcK_pos, show min a.length (a.length - l) = a.length - l by omega, show min b.length (b.length - l) = b.length - l by omega]
      exact h.z l (by omega) (by omega)
    · obtain ⟨l, rfl⟩ : ∃ l : Nat, lag = -(l : Int) := ⟨(-lag).toNat, by omega⟩
      rw [rcK_neg l (by omega) _ (by omega), rcK_neg l (by omega) _ (by omega)]
      exact h.z l (by omega) (by omega)
end Go.Proofs.YtaejdonacadpkabDoor
