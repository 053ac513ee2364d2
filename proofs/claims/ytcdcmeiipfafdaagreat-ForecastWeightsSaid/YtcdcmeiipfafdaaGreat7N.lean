/-
  In plain words: the best schedule, no schedule has fewer changes, ranges that are apart.
  Conditions: none.
-/
import Derived.Test.YtcdcmeiipfafdaaGreatFu
namespace Go.Proofs.YtcdcmeiipfafdaaGreat
section
variable (us : Nat → Nat → Bool) (n : Nat)
/-- How many hours from h on a column is usable, of so many. -/
def las (c : Nat) : Nat → Nat → Nat
  | 0, _ => 0
  | f + 1, h => if us h c = true then las c f (h + 1) + 1 else 0
def lasts (h c : Nat) : Nat := las us c (24 - h) h
def mxK (f : Nat → Nat) : Nat → Nat
  | 0 => 0
  | k + 1 => max (mxK f k) (f k)
def longest (h : Nat) : Nat := mxK (lasts us h) n
/-- The least number of changes from each hour on, of the last d hours. -/
def fwK : Nat → Nat → Int
  | 0, h => if h = 24 then -1 else 0
  | d + 1, h => if h = 23 - d then 1 + fwK d (23 - d + longest us n (23 - d)) else fwK d h
def gF (h : Nat) : Int := fwK us n 24 h
/-- The least of the first k. -/
def mnK (f : Nat → Int) : Nat → Int
  | 0 => 1000
  | k + 1 => if k = 0 then f 0 else min (mnK f k) (f k)
/-- The least number of changes from an hour on, with a column: d hours from the last one. -/
def aK : Nat → Nat → Int
  | 0, c => if us 23 c = true then 0 else 1000
  | d + 1, c => if us (22 - d) c = true then min (min (aK d c) (mnK (aK d) n + 1)) 1000 else 1000
def aft (h c : Nat) : Int := aK us n (23 - h) c
def okH : Prop := ∀ h, h < 24 → ∃ c, c < n ∧ us h c = true
end
section
variable {us : Nat → Nat → Bool} {n : Nat}
theorem mxK_le {f : Nat → Nat} : ∀ k c, c < k → f c ≤ mxK f k
  | 0, c, h => by omega
  | k + 1, c, h => by
    rw [mxK]
    by_cases e : c = k
    · subst e; omega
    · have := mxK_le (f := f) k c (by omega); omega
theorem mxK_ex {f : Nat → Nat} : ∀ k, 0 < mxK f k → ∃ c, c < k ∧ mxK f k = f c
  | 0, h => by simp [mxK] at h
  | k + 1, h => by
    rw [mxK] at h ⊢
    by_cases e : mxK f k ≤ f k
    · exact ⟨k, by omega, by omega⟩
    · obtain ⟨c, h1, h2⟩ := mxK_ex (f := f) k (by omega)
      exact ⟨c, by omega, by omega⟩
theorem mxK_all {f : Nat → Nat} {b : Nat} : ∀ k, (∀ c, c < k → f c ≤ b) → mxK f k ≤ b
  | 0, _ => Nat.zero_le _
  | k + 1, h => by
    rw [mxK]
    have := mxK_all (f := f) k fun c hc => h c (by omega)
    have := h k (by omega)
    omega
theorem mnK_le {f : Nat → Int} : ∀ k c, c < k → mnK f k ≤ f c
  | 0, c, h => by omega
  | k + 1, c, h => by
    rw [mnK]
    by_cases e : c = k
    · subst e
      split
      · subst_vars; omega
      · omega
    · have := mnK_le (f := f) k c (by omega)
      rw [if_neg (by omega)]; omega
theorem mnK_ex {f : Nat → Int} : ∀ k, 0 < k → ∃ c, c < k ∧ mnK f k = f c
  | 0, h => by omega
  | k + 1, _ => by
    rw [mnK]
    by_cases e : k = 0
    · subst e; exact ⟨0, by omega, by simp⟩
    · rw [if_neg e]
      by_cases e2 : f k ≤ mnK f k
      · exact ⟨k, by omega, by omega⟩
      · obtain ⟨c, h1, h2⟩ := mnK_ex (f := f) k (by omega)
        exact ⟨c, by omega, by omega⟩
theorem mnK_eq {f : Nat → Int} {v : Int} {k : Nat} (h1 : ∀ c, c < k → v ≤ f c) (h2 : ∃ c, c < k ∧ f c = v) : mnK f k = v := by
  obtain ⟨c, c1, c2⟩ := h2
  have := mnK_le (f := f) k c c1
  obtain ⟨b, b1, b2⟩ := mnK_ex (f := f) k (by omega)
  have := h1 b b1
  omega
/-! ### Columns that last -/
theorem lasts_step {h c : Nat} (hh : h < 24) : lasts us h c = if us h c = true then lasts us (h + 1) c + 1 else 0 := by
  unfold lasts
  rw [show 24 - h = (24 - (h + 1)) + 1 by omega, las]
theorem lasts_24 {c : Nat} : lasts us 24 c = 0 := rfl
theorem lasts_le {c : Nat} : ∀ d h, h + d = 24 → lasts us h c ≤ d
  | 0, h, e => by
    obtain rfl : h = 24 := by omega
    rw [lasts_24]; omega
  | d + 1, h, e => by
    have := lasts_le (c := c) d (h + 1) (by omega)
    rw [lasts_step (by omega)]
    split <;> omega
theorem lasts_us {c : Nat} : ∀ d h, h + d = 24 → ∀ i, i < lasts us h c → us (h + i) c = true
  | 0, h, e, i, hi => by
    obtain rfl : h = 24 := by omega
    rw [lasts_24] at hi; omega
  | d + 1, h, e, i, hi => by
    rw [lasts_step (by omega)] at hi
    split at hi
    · rename_i hu
      cases i with
      | zero => exact hu
      | succ i =>
        have := lasts_us (c := c) d (h + 1) (by omega) i (by omega)
        rwa [show h + (i + 1) = h + 1 + i by omega]
    · omega
theorem lasts_end {c : Nat} : ∀ d h, h + d = 24 → h + lasts us h c < 24 → us (h + lasts us h c) c = false
  | 0, h, e, hi => by
    obtain rfl : h = 24 := by omega
    rw [lasts_24] at hi; omega
  | d + 1, h, e, hi => by
    by_cases hu : us h c = true
    · have e1 : lasts us h c = lasts us (h + 1) c + 1 := by rw [lasts_step (by omega), if_pos hu]
      rw [e1] at hi ⊢
      have := lasts_end (c := c) d (h + 1) (by omega) (by omega)
      rwa [show h + (lasts us (h + 1) c + 1) = h + 1 + lasts us (h + 1) c by omega]
    · have e1 : lasts us h c = 0 := by rw [lasts_step (by omega), if_neg hu]
      rw [e1]
      simpa using hu
/-- A column lasts so long exactly if it is usable at all these hours. -/
theorem lasts_ge {h c m : Nat} (hm : h + m ≤ 24) : m ≤ lasts us h c ↔ ∀ i, i < m → us (h + i) c = true := by
  constructor
  · intro hl i hi
    exact lasts_us (24 - h) h (by omega) i (by omega)
  · intro ha
    refine Classical.byContradiction fun hn => ?_
    have := lasts_end (us := us) (c := c) (24 - h) h (by omega) (by omega)
    rw [ha _ (by omega)] at this
    cases this
theorem long_le {h c : Nat} (hc : c < n) : lasts us h c ≤ longest us n h := mxK_le n c hc
theorem long_hi {h : Nat} (hh : h ≤ 24) : h + longest us n h ≤ 24 := by
  have := mxK_all (f := lasts us h) (b := 24 - h) n fun c _ => lasts_le (24 - h) h (by omega)
  unfold longest; omega
theorem long_pos {h : Nat} (hh : h < 24) : 0 < longest us n h ↔ ∃ c, c < n ∧ us h c = true := by
  constructor
  · intro hl
    obtain ⟨c, h1, h2⟩ := mxK_ex n hl
    refine ⟨c, h1, ?_⟩
    have := lasts_us (us := us) (c := c) (24 - h) h (by omega) 0 (by unfold longest at hl; omega)
    simpa using this
  · rintro ⟨c, h1, h2⟩
    have := long_le (us := us) (h := h) h1
    rw [lasts_step hh, if_pos h2] at this
    omega
theorem long_next {h : Nat} (hh : h < 24) : longest us n h ≤ longest us n (h + 1) + 1 := by
  refine mxK_all n fun c hc => ?_
  have := long_le (us := us) (h := h + 1) hc
  rw [lasts_step hh]
  split <;> omega
/-! ### The least number of changes -/
theorem fwK_low : ∀ d h, d ≤ 24 → h < 24 - d → fwK us n d h = 0
  | 0, h, _, hh => by simp [fwK]; omega
  | d + 1, h, hd, hh => by
    rw [fwK, if_neg (by omega)]
    exact fwK_low d h (by omega) (by omega)
theorem fwK_more : ∀ d h, d ≤ 24 → 24 - d ≤ h → fwK us n d h = fwK us n (24 - h) h
  | 0, h, _, hh => by
    rw [show 24 - h = 0 by omega]
  | d + 1, h, hd, hh => by
    by_cases e : h = 23 - d
    · rw [show 24 - h = d + 1 by omega]
    · rw [fwK, if_neg e]
      exact fwK_more d h (by omega) (by omega)
theorem gF_at {d h : Nat} (hd : d ≤ 24) (hh : 24 - d ≤ h) : fwK us n d h = gF us n h := by
  unfold gF
  rw [fwK_more d h hd hh, fwK_more 24 h (Nat.le_refl _) (by omega)]
theorem gF_24 : gF us n 24 = -1 := by
  rw [← gF_at (d := 0) (by omega) (by omega)]; rfl
theorem gF_step {h : Nat} (hh : h < 24) (hl : 0 < longest us n h) : gF us n h = 1 + gF us n (h + longest us n h) := by
  rw [← gF_at (d := 24 - h) (by omega) (by omega), show 24 - h = (23 - h) + 1 by omega, fwK, if_pos (by omega), show 23 - (23 - h) = h by omega]
  rw [gF_at (by omega) (by omega)]
theorem gF_bd (hk : okH us n) : ∀ d h : Nat, h + d = 24 → -1 ≤ gF us n h ∧ gF us n h < d
  | d, h, e => by
    by_cases h0 : h = 24
    · subst h0; rw [gF_24]; omega
    · have hl := (long_pos (us := us) (n := n) (by omega)).2 (hk h (by omega))
      have hi := long_hi (us := us) (n := n) (h := h) (by omega)
      have := gF_bd hk (24 - (h + longest us n h)) (h + longest us n h) (by omega)
      rw [gF_step (by omega) hl]
      omega
termination_by d => d
theorem gF_anti1 (hk : okH us n) : ∀ d h, h + d = 23 → ∀ j, h ≤ j → j ≤ 24 → gF us n j ≤ gF us n h
  | d, h, e, j, h1, h2 => by
    by_cases hj : j = h
    · subst hj; omega
    have hl := (long_pos (us := us) (n := n) (h := h) (by omega)).2 (hk h (by omega))
    have hi := long_hi (us := us) (n := n) (h := h) (by omega)
    -- one hour on
    have one : gF us n (h + 1) ≤ gF us n h := by
      rw [gF_step (h := h) (by omega) hl]
      by_cases h23 : h = 23
      · subst h23
        have : longest us n 23 = 1 := by omega
        rw [this]; omega
      · have hl' := (long_pos (us := us) (n := n) (h := h + 1) (by omega)).2 (hk (h + 1) (by omega))
        have hn := long_next (us := us) (n := n) (h := h) (by omega)
        have hi' := long_hi (us := us) (n := n) (h := h + 1) (by omega)
        rw [gF_step (h := h + 1) (by omega) hl']
        by_cases h4 : h + longest us n h = 24
        · rw [show h + 1 + longest us n (h + 1) = 24 by omega, h4]; omega
        · have := gF_anti1 hk (23 - (h + longest us n h)) (h + longest us n h) (by omega) (h + 1 + longest us n (h + 1)) (by omega) (by omega)
          omega
    by_cases h23 : h = 23
    · obtain rfl : j = h + 1 := by omega
      exact one
    · have := gF_anti1 hk (23 - (h + 1)) (h + 1) (by omega) j (by omega) h2
      omega
termination_by d => d
theorem gF_anti (hk : okH us n) {h j : Nat} (h1 : h ≤ j) (h2 : j ≤ 24) : gF us n j ≤ gF us n h := by
  by_cases e : h = 24
  · obtain rfl : j = 24 := by omega
    subst e; omega
  · exact gF_anti1 hk (23 - h) h (by omega) j h1 h2
/-- The least number of changes from an hour on is that of the longest column. -/
theorem aft_eq (hk : okH us n) : ∀ d, d ≤ 23 → (∀ c, c < n → aK us n d c = if us (23 - d) c = true then 1 + gF us n (23 - d + lasts us (23 - d) c) else 1000) ∧ mnK (aK us n d) n = gF us n (23 - d)
  | 0, _ => by
    have p1 : ∀ c, c < n → aK us n 0 c = if us (23 - 0) c = true then 1 + gF us n (23 - 0 + lasts us (23 - 0) c) else 1000 := fun c hc => by
      rw [aK]
      by_cases hu : us 23 c = true
      · rw [if_pos hu, if_pos (by simpa using hu), Nat.sub_zero, lasts_step (by omega), if_pos hu, show lasts us (23 + 1) c = 0 from rfl, show 23 + (0 + 1) = 24 from rfl, gF_24]; omega
      · rw [if_neg hu, if_neg (by simpa using hu)]
    refine ⟨p1, ?_⟩
    obtain ⟨c, c1, c2⟩ := hk 23 (by omega)
    have hl := (long_pos (us := us) (n := n) (h := 23) (by omega)).2 ⟨c, c1, c2⟩
    have hi := long_hi (us := us) (n := n) (h := 23) (by omega)
    have g : gF us n 23 = 0 := by rw [gF_step (by omega) hl, show 23 + longest us n 23 = 24 by omega, gF_24]; omega
    rw [Nat.sub_zero, g]
    refine mnK_eq (fun c hc => ?_) ⟨c, c1, ?_⟩
    · rw [aK]; split <;> omega
    · rw [aK, if_pos c2]
  | d + 1, hd => by
    obtain ⟨i1, i2⟩ := aft_eq hk d (by omega)
    have hs : 23 - (d + 1) + 1 = 23 - d := by omega
    have gb := gF_bd hk (d + 1) (23 - d) (by omega)
    have p1 : ∀ c, c < n → aK us n (d + 1) c = if us (23 - (d + 1)) c = true then 1 + gF us n (23 - (d + 1) + lasts us (23 - (d + 1)) c) else 1000 := fun c hc => by
      rw [aK, i1 c hc, i2, show 22 - d = 23 - (d + 1) by omega]
      by_cases hu : us (23 - (d + 1)) c = true
      · have ls : lasts us (23 - (d + 1)) c = lasts us (23 - d) c + 1 := by rw [lasts_step (h := 23 - (d + 1)) (by omega), if_pos hu, hs]
        rw [if_pos hu, if_pos hu, ls]
        by_cases hv : us (23 - d) c = true
        · rw [if_pos hv]
          have le := lasts_le (us := us) (c := c) (d + 1) (23 - d) (by omega)
          have := gF_anti hk (h := 23 - d) (j := 23 - d + lasts us (23 - d) c) (by omega) (by omega)
          rw [show 23 - (d + 1) + (lasts us (23 - d) c + 1) = 23 - d + lasts us (23 - d) c by omega]
          omega
        · have l0 : lasts us (23 - d) c = 0 := by rw [lasts_step (by omega), if_neg hv]
          rw [if_neg hv, l0, show 23 - (d + 1) + (0 + 1) = 23 - d by omega]
          omega
      · rw [if_neg hu, if_neg hu]
    refine ⟨p1, ?_⟩
    have hl := (long_pos (us := us) (n := n) (h := 23 - (d + 1)) (by omega)).2 (hk _ (by omega))
    have hi := long_hi (us := us) (n := n) (h := 23 - (d + 1)) (by omega)
    have gs := gF_step (us := us) (n := n) (h := 23 - (d + 1)) (by omega) hl
    have gb2 := gF_bd hk (d + 2) (23 - (d + 1)) (by omega)
    refine mnK_eq (fun c hc => ?_) ?_
    · rw [p1 c hc]
      split
      · rw [gs]
        have := gF_anti hk (h := 23 - (d + 1) + lasts us (23 - (d + 1)) c) (j := 23 - (d + 1) + longest us n (23 - (d + 1))) (by have := long_le (us := us) (h := 23 - (d + 1)) hc; omega) hi
        omega
      · omega
    · obtain ⟨c, c1, c2⟩ := mxK_ex n hl
      refine ⟨c, c1, ?_⟩
      have hu := lasts_us (us := us) (c := c) (d + 2) (23 - (d + 1)) (by omega) 0 (by unfold longest at hl; omega)
      rw [p1 c c1, if_pos (by simpa using hu), gs]
      unfold longest
      rw [c2]
/-- Without a usable column at some hour there is no schedule. -/
theorem aft_none {h0 : Nat} (hh : h0 < 24) (hn : ∀ c, c < n → us h0 c = false) (n0 : 0 < n) : ∀ d, d ≤ 23 → 23 - d ≤ h0 → (∀ c, c < n → aK us n d c = 1000) ∧ mnK (aK us n d) n = 1000
  | 0, _, h => by
    obtain rfl : h0 = 23 := by omega
    have p : ∀ c, c < n → aK us n 0 c = 1000 := fun c hc => by rw [aK, if_neg (by rw [hn c hc]; decide)]
    exact ⟨p, mnK_eq (fun c hc => by rw [p c hc]; omega) ⟨0, n0, p 0 n0⟩⟩
  | d + 1, hd, h => by
    have p : ∀ c, c < n → aK us n (d + 1) c = 1000 := fun c hc => by
      rw [aK]
      by_cases e : 22 - d = h0
      · rw [if_neg (by rw [e, hn c hc]; decide)]
      · obtain ⟨i1, i2⟩ := aft_none hh hn n0 d (by omega) (by omega)
        rw [i1 c hc, i2]
        split <;> omega
    exact ⟨p, mnK_eq (fun c hc => by rw [p c hc]; omega) ⟨0, n0, p 0 n0⟩⟩
theorem aK_bd : ∀ d c, 0 < n → 0 ≤ aK us n d c ∧ aK us n d c ≤ 1000
  | 0, c, _ => by rw [aK]; split <;> omega
  | d + 1, c, n0 => by
    rw [aK]
    have i1 := aK_bd d c n0
    obtain ⟨b, b1, b2⟩ := mnK_ex (f := aK us n d) n n0
    have i2 := aK_bd d b n0
    split <;> omega
end
end Go.Proofs.YtcdcmeiipfafdaaGreat
namespace Go.Proofs.YtcdcmeiipfafdaaGreat
/-! ### The first index -/
def fstIx (p : Nat → Bool) : Nat → Int
  | 0 => -1
  | k + 1 => if 0 ≤ fstIx p k then fstIx p k else if p k = true then (k : Int) else -1
theorem fstIx_spec {p : Nat → Bool} : ∀ k, (fstIx p k = -1 ∧ ∀ i, i < k → p i = false) ∨ ∃ j, j < k ∧ p j = true ∧ (∀ i, i < j → p i = false) ∧ fstIx p k = (j : Int)
  | 0 => .inl ⟨rfl, fun i h => by omega⟩
  | k + 1 => by
    rw [fstIx]
    rcases fstIx_spec (p := p) k with ⟨h1, h2⟩ | ⟨j, h1, h2, h3, h4⟩
    · rw [h1, if_neg (by omega)]
      by_cases hp : p k = true
      · rw [if_pos hp]
        exact .inr ⟨k, by omega, hp, h2, rfl⟩
      · rw [if_neg hp]
        refine .inl ⟨rfl, fun i hi => ?_⟩
        by_cases e : i = k
        · subst e; simpa using hp
        · exact h2 i (by omega)
    · rw [h4, if_pos (by omega)]
      exact .inr ⟨j, by omega, h2, h3, rfl⟩
theorem fstIx_hit {p : Nat → Bool} {j k : Nat} (h1 : j < k) (h2 : p j = true) (h3 : ∀ i, i < j → p i = false) : fstIx p k = (j : Int) := by
  rcases fstIx_spec (p := p) k with ⟨_, q2⟩ | ⟨i, i1, i2, i3, i4⟩
  · rw [q2 j h1] at h2; cases h2
  · rw [i4]
    rcases Nat.lt_trichotomy i j with e | e | e
    · rw [h3 i e] at i2; cases i2
    · omega
    · rw [i3 j e] at h2; cases h2
theorem fstIx_none {p : Nat → Bool} {k : Nat} (h : ∀ i, i < k → p i = false) : fstIx p k = -1 := by
  rcases fstIx_spec (p := p) k with ⟨q1, _⟩ | ⟨i, i1, i2, _⟩
  · exact q1
  · rw [h i i1] at i2; cases i2
/-! ### Changes -/
def chg (a b : Int) : Int := if a ≠ b then 1 else 0
def chgK (l : List Int) : Nat → Int
  | 0 => 0
  | k + 1 => if 0 < k then chgK l k + chg (l.getD (k - 1) 0) (l.getD k 0) else chgK l k
theorem chgK_mono (l : List Int) : ∀ k j, k ≤ j → chgK l k ≤ chgK l j
  | k, 0, h => by
    obtain rfl : k = 0 := by omega
    omega
  | k, j + 1, h => by
    by_cases e : k = j + 1
    · subst e; omega
    · have := chgK_mono l k j (by omega)
      rw [chgK]
      unfold chg
      split <;> try split
      all_goals omega
theorem chgK_bd (l : List Int) : ∀ k : Nat, 0 ≤ chgK l k ∧ chgK l k ≤ k
  | 0 => by simp [chgK]
  | k + 1 => by
    have := chgK_bd l k
    rw [chgK]
    unfold chg
    split <;> try split
    all_goals omega
theorem chgK_app (l : List Int) (x : Int) : ∀ k, k ≤ l.length → chgK (l ++ [x]) k = chgK l k
  | 0, _ => rfl
  | k + 1, h => by
    have ih := chgK_app l x k (by omega)
    have e : ∀ i, i < l.length → (l ++ [x]).getD i 0 = l.getD i 0 := fun i hi => by
      rw [List.getD_eq_getElem?_getD, List.getD_eq_getElem?_getD, List.getElem?_append_left hi]
    rw [chgK, chgK, ih, e k (by omega), e (k - 1) (by omega)]
theorem chgK_same {l : List Int} {lo : Nat} : ∀ hi, lo ≤ hi → chgK l (hi + 1) = chgK l (lo + 1) → ∀ i, lo ≤ i → i ≤ hi → l.getD i 0 = l.getD lo 0
  | 0, h, _, i, h1, h2 => by
    obtain rfl : lo = 0 := by omega
    obtain rfl : i = 0 := by omega
    rfl
  | hi + 1, h, he, i, h1, h2 => by
    by_cases e : lo = hi + 1
    · obtain rfl : i = lo := by omega
      rfl
    · have m1 := chgK_mono l (lo + 1) (hi + 1) (by omega)
      have st : chgK l (hi + 1 + 1) = chgK l (hi + 1) + chg (l.getD hi 0) (l.getD (hi + 1) 0) := by
        rw [chgK, if_pos (by omega), Nat.add_sub_cancel]
      have cb : 0 ≤ chg (l.getD hi 0) (l.getD (hi + 1) 0) := by unfold chg; split <;> omega
      have ih := chgK_same (l := l) (lo := lo) hi (by omega) (by omega)
      by_cases e2 : i = hi + 1
      · subst e2
        have cz : chg (l.getD hi 0) (l.getD (hi + 1) 0) = 0 := by omega
        have : l.getD hi 0 = l.getD (hi + 1) 0 := by
          refine Classical.byContradiction fun hn => ?_
          unfold chg at cz
          rw [if_pos hn] at cz
          omega
        rw [← this]
        exact ih hi (by omega) (by omega)
      · exact ih i h1 (by omega)
section
variable (us : Nat → Nat → Bool) (n : Nat)
/-- A schedule: a usable column at each hour. -/
structure Sched (l : List Int) : Prop where
  len : l.length = 24
  col : ∀ h, h < 24 → 0 ≤ l.getD h 0 ∧ l.getD h 0 < n
  use : ∀ h, h < 24 → us h (l.getD h 0).toNat = true
def m0 : Int := mnK (aft us n 0) n
def used (l : List Int) (i : Nat) : Int := if l.length = 0 then 0 else chg (l.getD (l.length - 1) 0) i
def pickB (h : Nat) (l : List Int) (left : Int) (i : Nat) : Bool := decide (aft us n h i + used l i ≤ left)
def pick (h : Nat) (l : List Int) (left : Int) : Int := fstIx (pickB us n h l left) n
def usedI (l : List Int) (c : Int) : Int := if l.length = 0 then 0 else chg (l.getD (l.length - 1) 0) c
/-- The best schedule's first h hours, and how many changes are left. -/
def sch : Nat → List Int × Int
  | 0 => ([], m0 us n)
  | h + 1 => ((sch h).1 ++ [pick us n h (sch h).1 (sch h).2], (sch h).2 - usedI (sch h).1 (pick us n h (sch h).1 (sch h).2))
end
section
variable {us : Nat → Nat → Bool} {n : Nat}
theorem aft_step {h c : Nat} (hh : h < 23) : aft us n h c = if us h c = true then min (min (aft us n (h + 1) c) (mnK (aft us n (h + 1)) n + 1)) 1000 else 1000 := by
  unfold aft
  rw [show 23 - h = (23 - (h + 1)) + 1 by omega, aK, show 22 - (23 - (h + 1)) = h by omega]
theorem aft_23 {c : Nat} : aft us n 23 c = if us 23 c = true then 0 else 1000 := rfl
theorem aft_bd {h c : Nat} (n0 : 0 < n) : 0 ≤ aft us n h c ∧ aft us n h c ≤ 1000 := aK_bd _ _ n0
/-- No schedule has fewer changes. -/
theorem sched_min {l : List Int} (s : Sched us n l) : ∀ d h, h + d = 23 → aft us n h (l.getD h 0).toNat ≤ chgK l 24 - chgK l (h + 1)
  | 0, h, e => by
    obtain rfl : h = 23 := by omega
    rw [aft_23, if_pos (s.use 23 (by omega))]
    show (0 : Int) ≤ chgK l 24 - chgK l 24
    omega
  | d + 1, h, e => by
    have ih := sched_min s d (h + 1) (by omega)
    rw [aft_step (by omega), if_pos (s.use h (by omega))]
    have st : chgK l (h + 1 + 1) = chgK l (h + 1) + chg (l.getD h 0) (l.getD (h + 1) 0) := by
      rw [chgK, if_pos (by omega), Nat.add_sub_cancel]
    have cn := (s.col (h + 1) (by omega))
    have ml := mnK_le (f := aft us n (h + 1)) n (l.getD (h + 1) 0).toNat (by omega)
    by_cases e2 : l.getD h 0 = l.getD (h + 1) 0
    · have cz : chg (l.getD h 0) (l.getD (h + 1) 0) = 0 := by unfold chg; rw [if_neg (fun k => k e2)]
      rw [e2]
      omega
    · have cz : chg (l.getD h 0) (l.getD (h + 1) 0) = 1 := by unfold chg; rw [if_pos e2]
      omega
theorem sched_m0 {l : List Int} (s : Sched us n l) : m0 us n ≤ chgK l 24 := by
  have h1 := sched_min s 23 0 (by omega)
  have cn := s.col 0 (by omega)
  have ml := mnK_le (f := aft us n 0) n (l.getD 0 0).toNat (by omega)
  have : chgK l (0 + 1) = 0 := rfl
  unfold m0
  omega
theorem aft_ok (hk : okH us n) {h : Nat} (hh : h < 24) : (∀ c, c < n → aft us n h c = if us h c = true then 1 + gF us n (h + lasts us h c) else 1000) ∧ mnK (aft us n h) n = gF us n h := by
  have := aft_eq hk (23 - h) (by omega)
  rwa [show 23 - (23 - h) = h by omega] at this
theorem m0_ok (hk : okH us n) : m0 us n = gF us n 0 := (aft_ok hk (h := 0) (by omega)).2
theorem m0_none (n0 : 0 < n) (hk : ¬ okH us n) : m0 us n = 1000 := by
  have : ∃ h0, h0 < 24 ∧ ∀ c, c < n → us h0 c = false := by
    refine Classical.byContradiction fun hn => hk fun h hh => ?_
    refine Classical.byContradiction fun hc => hn ⟨h, hh, fun c hcn => ?_⟩
    cases e : us h c with
    | false => rfl
    | true => exact (hc ⟨c, hcn, e⟩).elim
  obtain ⟨h0, h1, h2⟩ := this
  exact (aft_none h1 h2 n0 23 (by omega) (by omega)).2
structure SchI (us : Nat → Nat → Bool) (n h : Nat) : Prop where
  len : (sch us n h).1.length = h
  left : 0 ≤ (sch us n h).2 ∧ (sch us n h).2 ≤ 23
  col : ∀ i, i < h → 0 ≤ (sch us n h).1.getD i 0 ∧ (sch us n h).1.getD i 0 < n
  use : ∀ i, i < h → us i ((sch us n h).1.getD i 0).toNat = true
  last : 0 < h → aft us n (h - 1) ((sch us n h).1.getD (h - 1) 0).toNat ≤ (sch us n h).2
  cnt : chgK (sch us n h).1 h = m0 us n - (sch us n h).2
/-- There is always a column that leaves enough changes. -/
theorem pick_ok (hk : okH us n) {h : Nat} (hh : h < 24) (I : SchI us n h) : ∃ j, j < n ∧ pickB us n h (sch us n h).1 (sch us n h).2 j = true ∧ (∀ i, i < j → pickB us n h (sch us n h).1 (sch us n h).2 i = false) ∧ pick us n h (sch us n h).1 (sch us n h).2 = (j : Int) := by
  have ex : ∃ c, c < n ∧ pickB us n h (sch us n h).1 (sch us n h).2 c = true := by
    obtain ⟨c0, c0n, _⟩ := hk h hh
    obtain ⟨b, b1, b2⟩ := mnK_ex (f := aft us n h) n (by omega)
    by_cases h0 : h = 0
    · subst h0
      refine ⟨b, b1, ?_⟩
      unfold pickB
      rw [decide_eq_true_eq]
      show aft us n 0 b + 0 ≤ m0 us n
      unfold m0
      omega
    · have l1 := I.last (by omega)
      have cn := I.col (h - 1) (by omega)
      have lf := I.left
      have hs : h - 1 + 1 = h := by omega
      rw [aft_step (h := h - 1) (by omega), if_pos (I.use (h - 1) (by omega)), hs] at l1
      have uu : ∀ i, used (sch us n h).1 i = chg ((sch us n h).1.getD (h - 1) 0) i := fun i => by
        unfold used; rw [if_neg (by rw [I.len]; exact h0), I.len]
      by_cases e : aft us n h ((sch us n h).1.getD (h - 1) 0).toNat ≤ (sch us n h).2
      · refine ⟨((sch us n h).1.getD (h - 1) 0).toNat, by omega, ?_⟩
        unfold pickB
        rw [decide_eq_true_eq, uu]
        have : chg ((sch us n h).1.getD (h - 1) 0) (((sch us n h).1.getD (h - 1) 0).toNat : Int) = 0 := by
          unfold chg; rw [if_neg (fun k => k (by omega))]
        omega
      · refine ⟨b, b1, ?_⟩
        unfold pickB
        rw [decide_eq_true_eq, uu]
        have : chg ((sch us n h).1.getD (h - 1) 0) b ≤ 1 := by unfold chg; split <;> omega
        omega
  rcases fstIx_spec (p := pickB us n h (sch us n h).1 (sch us n h).2) n with ⟨q1, q2⟩ | q
  · obtain ⟨c, c1, c2⟩ := ex
    rw [q2 c c1] at c2; cases c2
  · exact q
theorem sch_ok (hk : okH us n) : ∀ h, h ≤ 24 → SchI us n h
  | 0, _ => by
    have gb := gF_bd hk 24 0 (by omega)
    obtain ⟨c0, c0n, _⟩ := hk 0 (by omega)
    obtain ⟨b, b1, b2⟩ := mnK_ex (f := aft us n 0) n (by omega)
    have := aft_bd (us := us) (n := n) (h := 0) (c := b) (by omega)
    have e : (sch us n 0).2 = gF us n 0 := m0_ok hk
    refine ⟨rfl, ⟨?_, by rw [e]; omega⟩, fun i hi => by omega, fun i hi => by omega, fun hi => by omega, ?_⟩
    · show 0 ≤ m0 us n
      unfold m0; omega
    · show (0 : Int) = m0 us n - m0 us n
      omega
  | h + 1, hh => by
    have I := sch_ok hk h (by omega)
    obtain ⟨j, j1, j2, j3, j4⟩ := pick_ok hk (by omega) I
    have e1 : (sch us n (h + 1)).1 = (sch us n h).1 ++ [(j : Int)] := by rw [sch, j4]
    have e2 : (sch us n (h + 1)).2 = (sch us n h).2 - used (sch us n h).1 j := by rw [sch, j4]; rfl
    have ln : (sch us n (h + 1)).1.length = h + 1 := by rw [e1]; simp [I.len]
    have g1 : ∀ i, i < h → (sch us n (h + 1)).1.getD i 0 = (sch us n h).1.getD i 0 := fun i hi => by
      rw [e1, List.getD_eq_getElem?_getD, List.getElem?_append_left (by rw [I.len]; exact hi), List.getD_eq_getElem?_getD]
    have g2 : (sch us n (h + 1)).1.getD h 0 = (j : Int) := by
      rw [e1, List.getD_eq_getElem?_getD, List.getElem?_append_right (by rw [I.len]; omega), I.len]; simp
    have pj := j2
    unfold pickB at pj
    rw [decide_eq_true_eq] at pj
    have ub : 0 ≤ used (sch us n h).1 j := by
      unfold used chg
      split <;> try split
      all_goals omega
    have ab := aft_bd (us := us) (n := n) (h := h) (c := j) (by omega)
    have lf := I.left
    have uj : us h j = true := by
      cases e : us h j with
      | true => rfl
      | false =>
        have := (aft_ok hk (h := h) (by omega)).1 j j1
        rw [e, if_neg (by decide)] at this
        omega
    refine ⟨ln, ⟨by rw [e2]; omega, by rw [e2]; omega⟩, fun i hi => ?_, fun i hi => ?_, fun _ => ?_, ?_⟩
    · by_cases e : i = h
      · subst e; rw [g2]; omega
      · rw [g1 i (by omega)]; exact I.col i (by omega)
    · by_cases e : i = h
      · subst e; rw [g2]; simpa using uj
      · rw [g1 i (by omega)]; exact I.use i (by omega)
    · rw [Nat.add_sub_cancel, g2, Int.toNat_natCast, e2]; omega
    · rw [chgK, e1, chgK_app _ _ h (by rw [I.len]; omega), I.cnt, ← e1, g2, e2]
      by_cases h0 : h = 0
      · subst h0
        rw [if_neg (by omega)]
        show m0 us n - m0 us n = m0 us n - (m0 us n - 0)
        omega
      · rw [if_pos (by omega), g1 (h - 1) (by omega)]
        have : used (sch us n h).1 j = chg ((sch us n h).1.getD (h - 1) 0) j := by
          unfold used; rw [if_neg (by rw [I.len]; exact h0), I.len]
        omega
theorem sch_sched (hk : okH us n) : Sched us n (sch us n 24).1 ∧ chgK (sch us n 24).1 24 = m0 us n := by
  have I := sch_ok hk 24 (Nat.le_refl _)
  have s : Sched us n (sch us n 24).1 := ⟨I.len, I.col, I.use⟩
  refine ⟨s, ?_⟩
  have := sched_m0 s
  have := I.cnt
  have := I.left
  omega
/-! ### Ranges that are apart -/
def stB (us : Nat → Nat → Bool) (n lo hi : Nat) : Bool := decide (hi - lo < longest us n lo)
theorem stB_iff {lo hi : Nat} (h1 : lo ≤ hi) (h2 : hi < 24) : stB us n lo hi = true ↔ ∃ c, c < n ∧ ∀ i, lo ≤ i → i ≤ hi → us i c = true := by
  unfold stB
  rw [decide_eq_true_eq]
  constructor
  · intro h
    obtain ⟨c, c1, c2⟩ := mxK_ex n (show 0 < mxK (lasts us lo) n by unfold longest at h; omega)
    refine ⟨c, c1, fun i i1 i2 => ?_⟩
    have := lasts_us (us := us) (c := c) (24 - lo) lo (by omega) (i - lo) (by unfold longest at h; omega)
    rwa [show lo + (i - lo) = i by omega] at this
  · rintro ⟨c, c1, c2⟩
    have := (lasts_ge (us := us) (h := lo) (c := c) (m := hi - lo + 1) (by omega)).2 fun i hi => c2 _ (by omega) (by omega)
    have := long_le (us := us) (h := lo) c1
    omega
/-- A range in which no column stays forces a change. -/
theorem apart_one {l : List Int} (s : Sched us n l) {lo hi : Nat} (h1 : lo ≤ hi) (h2 : hi < 24) (hn : stB us n lo hi = false) : chgK l (lo + 1) + 1 ≤ chgK l (hi + 1) := by
  refine Classical.byContradiction fun hc => ?_
  have m := chgK_mono l (lo + 1) (hi + 1) (by omega)
  have same := chgK_same (l := l) hi h1 (by omega)
  have cn := s.col lo (by omega)
  have : stB us n lo hi = true := (stB_iff h1 h2).2 ⟨(l.getD lo 0).toNat, by omega, fun i i1 i2 => by
    rw [← same i i1 i2]; exact s.use i (by omega)⟩
  rw [hn] at this; cases this
end
end Go.Proofs.YtcdcmeiipfafdaaGreat
