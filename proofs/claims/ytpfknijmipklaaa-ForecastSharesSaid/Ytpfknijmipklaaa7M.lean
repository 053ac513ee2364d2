/-
  In plain words: columns that last, the least number of changes of a day's schedule.
  Conditions: none.
-/
import Derived.Test.YtpfknijmipklaaaFu
namespace Go.Proofs.Ytpfknijmipklaaa
section
variable (us : Nat → Nat → Bool) (n : Nat)
/-- How many hours from h on a column is usable, of so many. -/
def las (c : Nat) : Nat → Nat → Nat
  | 0, _ => 0
  | f + 1, h => if us h c = true then las c f (h + 1) + 1 else 0
def lasts (h c : Nat) : Nat := las us c (24 - h) h
def mxK (f : Nat → Nat) : Nat → Nat
  | 0 => 0
  | k + 1 => max (mxK f k) (f k)
def longest (h : Nat) : Nat := mxK (lasts us h) n
/-- The least number of changes from each hour on, of the last d hours. -/
def fwK : Nat → Nat → Int
  | 0, h => if h = 24 then -1 else 0
  | d + 1, h => if h = 23 - d then 1 + fwK d (23 - d + longest us n (23 - d)) else fwK d h
def gF (h : Nat) : Int := fwK us n 24 h
/-- The least of the first k. -/
def mnK (f : Nat → Int) : Nat → Int
  | 0 => 1000
  | k + 1 => if k = 0 then f 0 else min (mnK f k) (f k)
/-- The least number of changes from an hour on, with a column: d hours from the last one. -/
def aK : Nat → Nat → Int
  | 0, c => if us 23 c = true then 0 else 1000
  | d + 1, c => if us (22 - d) c = true then min (min (aK d c) (mnK (aK d) n + 1)) 1000 else 1000
def aft (h c : Nat) : Int := aK us n (23 - h) c
def okH : Prop := ∀ h, h < 24 → ∃ c, c < n ∧ us h c = true
end
section
variable {us : Nat → Nat → Bool} {n : Nat}
theorem mxK_le {f : Nat → Nat} : ∀ k c, c < k → f c ≤ mxK f k
  | 0, c, h => by omega
  | k + 1, c, h => by
    rw [mxK]
    by_cases e : c = k
    · subst e; omega
    · have := mxK_le (f := f) k c (by omega); omega
theorem mxK_ex {f : Nat → Nat} : ∀ k, 0 < mxK f k → ∃ c, c < k ∧ mxK f k = f c
  | 0, h => by simp [mxK] at h
  | k + 1, h => by
    rw [mxK] at h ⊢
    by_cases e : mxK f k ≤ f k
    · exact ⟨k, by omega, by omega⟩
    · obtain ⟨c, h1, h2⟩ := mxK_ex (f := f) k (by omega)
      exact ⟨c, by omega, by omega⟩
theorem mxK_all {f : Nat → Nat} {b : Nat} : ∀ k, (∀ c, c < k → f c ≤ b) → mxK f k ≤ b
  | 0, _ => Nat.zero_le _
  | k + 1, h => by
    rw [mxK]
    have := mxK_all (f := f) k fun c hc => h c (by omega)
    have := h k (by omega)
    omega
theorem mnK_le {f : Nat → Int} : ∀ k c, c < k → mnK f k ≤ f c
  | 0, c, h => by omega
  | k + 1, c, h => by
    rw [mnK]
    by_cases e : c = k
    · subst e
      split
      · subst_vars; omega
      · omega
    · have := mnK_le (f := f) k c (by omega)
      rw [if_neg (by omega)]; omega
theorem mnK_ex {f : Nat → Int} : ∀ k, 0 < k → ∃ c, c < k ∧ mnK f k = f c
  | 0, h => by omega
  | k + 1, _ => by
    rw [mnK]
    by_cases e : k = 0
    · subst e; exact ⟨0, by omega, by simp⟩
    · rw [if_neg e]
      by_cases e2 : f k ≤ mnK f k
      · exact ⟨k, by omega, by omega⟩
      · obtain ⟨c, h1, h2⟩ := mnK_ex (f := f) k (by omega)
        exact ⟨c, by omega, by omega⟩
theorem mnK_eq {f : Nat → Int} {v : Int} {k : Nat} (h1 : ∀ c, c < k → v ≤ f c) (h2 : ∃ c, c < k ∧ f c = v) : mnK f k = v := by
  obtain ⟨c, c1, c2⟩ := h2
  have := mnK_le (f := f) k c c1
  obtain ⟨b, b1, b2⟩ := mnK_ex (f := f) k (by omega)
  have := h1 b b1
  omega
/-! ### Columns that last -/
theorem lasts_step {h c : Nat} (hh : h < 24) : lasts us h c = if us h c = true then lasts us (h + 1) c + 1 else 0 := by
  unfold lasts
  rw [show 24 - h = (24 - (h + 1)) + 1 by omega, las]
theorem lasts_24 {c : Nat} : lasts us 24 c = 0 := rfl
theorem lasts_le {c : Nat} : ∀ d h, h + d = 24 → lasts us h c ≤ d
  | 0, h, e => by
    obtain rfl : h = 24 := by omega
    rw [lasts_24]; omega
  | d + 1, h, e => by
    have := lasts_le (c := c) d (h + 1) (by omega)
    rw [lasts_step (by omega)]
    split <;> omega
theorem lasts_us {c : Nat} : ∀ d h, h + d = 24 → ∀ i, i < lasts us h c → us (h + i) c = true
  | 0, h, e, i, hi => by
    obtain rfl : h = 24 := by omega
    rw [lasts_24] at hi; omega
  | d + 1, h, e, i, hi => by
    rw [lasts_step (by omega)] at hi
    split at hi
    · rename_i hu
      cases i with
      | zero => exact hu
      | succ i =>
        have := lasts_us (c := c) d (h + 1) (by omega) i (by omega)
        rwa [show h + (i + 1) = h + 1 + i by omega]
    · omega
theorem lasts_end {c : Nat} : ∀ d h, h + d = 24 → h + lasts us h c < 24 → us (h + lasts us h c) c = false
  | 0, h, e, hi => by
    obtain rfl : h = 24 := by omega
    rw [lasts_24] at hi; omega
  | d + 1, h, e, hi => by
    by_cases hu : us h c = true
    · have e1 : lasts us h c = lasts us (h + 1) c + 1 := by rw [lasts_step (by omega), if_pos hu]
      rw [e1] at hi ⊢
      have := lasts_end (c := c) d (h + 1) (by omega) (by omega)
      rwa [show h + (lasts us (h + 1) c + 1) = h + 1 + lasts us (h + 1) c by omega]
    · have e1 : lasts us h c = 0 := by rw [lasts_step (by omega), if_neg hu]
      rw [e1]
      simpa using hu
/-- A column lasts so long exactly if it is usable at all these hours. -/
theorem lasts_ge {h c m : Nat} (hm : h + m ≤ 24) : m ≤ lasts us h c ↔ ∀ i, i < m → us (h + i) c = true := by
  constructor
  · intro hl i hi
    exact lasts_us (24 - h) h (by omega) i (by omega)
  · intro ha
    refine Classical.byContradiction fun hn => ?_
    have := lasts_end (us := us) (c := c) (24 - h) h (by omega) (by omega)
    rw [ha _ (by omega)] at this
    cases this
theorem long_le {h c : Nat} (hc : c < n) : lasts us h c ≤ longest us n h := mxK_le n c hc
theorem long_hi {h : Nat} (hh : h ≤ 24) : h + longest us n h ≤ 24 := by
  have := mxK_all (f := lasts us h) (b := 24 - h) n fun c _ => lasts_le (24 - h) h (by omega)
  unfold longest; omega
theorem long_pos {h : Nat} (hh : h < 24) : 0 < longest us n h ↔ ∃ c, c < n ∧ us h c = true := by
  constructor
  · intro hl
    obtain ⟨c, h1, h2⟩ := mxK_ex n hl
    refine ⟨c, h1, ?_⟩
    have := lasts_us (us := us) (c := c) (24 - h) h (by omega) 0 (by unfold longest at hl; omega)
    simpa using this
  · rintro ⟨c, h1, h2⟩
    have := long_le (us := us) (h := h) h1
    rw [lasts_step hh, if_pos h2] at this
    omega
theorem long_next {h : Nat} (hh : h < 24) : longest us n h ≤ longest us n (h + 1) + 1 := by
  refine mxK_all n fun c hc => ?_
  have := long_le (us := us) (h := h + 1) hc
  rw [lasts_step hh]
  split <;> omega
/-! ### The least number of changes -/
theorem fwK_low : ∀ d h, d ≤ 24 → h < 24 - d → fwK us n d h = 0
  | 0, h, _, hh => by simp [fwK]; omega
  | d + 1, h, hd, hh => by
    rw [fwK, if_neg (by omega)]
    exact fwK_low d h (by omega) (by omega)
theorem fwK_more : ∀ d h, d ≤ 24 → 24 - d ≤ h → fwK us n d h = fwK us n (24 - h) h
  | 0, h, _, hh => by
    rw [show 24 - h = 0 by omega]
  | d + 1, h, hd, hh => by
    by_cases e : h = 23 - d
    · rw [show 24 - h = d + 1 by omega]
    · rw [fwK, if_neg e]
      exact fwK_more d h (by omega) (by omega)
theorem gF_at {d h : Nat} (hd : d ≤ 24) (hh : 24 - d ≤ h) : fwK us n d h = gF us n h := by
  unfold gF
  rw [fwK_more d h hd hh, fwK_more 24 h (Nat.le_refl _) (by omega)]
theorem gF_24 : gF us n 24 = -1 := by
  rw [← gF_at (d := 0) (by omega) (by omega)]; rfl
theorem gF_step {h : Nat} (hh : h < 24) (hl : 0 < longest us n h) : gF us n h = 1 + gF us n (h + longest us n h) := by
  rw [← gF_at (d := 24 - h) (by omega) (by omega), show 24 - h = (23 - h) + 1 by omega, fwK, if_pos (by omega), show 23 - (23 - h) = h by omega]
  rw [gF_at (by omega) (by omega)]
theorem gF_bd (hk : okH us n) : ∀ d h : Nat, h + d = 24 → -1 ≤ gF us n h ∧ gF us n h < d
  | d, h, e => by
    by_cases h0 : h = 24
    · subst h0; rw [gF_24]; omega
    · have hl := (long_pos (us := us) (n := n) (by omega)).2 (hk h (by omega))
      have hi := long_hi (us := us) (n := n) (h := h) (by omega)
      have := gF_bd hk (24 - (h + longest us n h)) (h + longest us n h) (by omega)
      rw [gF_step (by omega) hl]
      omega
termination_by d => d
theorem gF_anti1 (hk : okH us n) : ∀ d h, h + d = 23 → ∀ j, h ≤ j → j ≤ 24 → gF us n j ≤ gF us n h
  | d, h, e, j, h1, h2 => by
    by_cases hj : j = h
    · subst hj; omega
    have hl := (long_pos (us := us) (n := n) (h := h) (by omega)).2 (hk h (by omega))
    have hi := long_hi (us := us) (n := n) (h := h) (by omega)
    -- one hour on
    have one : gF us n (h + 1) ≤ gF us n h := by
      rw [gF_step (h := h) (by omega) hl]
      by_cases h23 : h = 23
      · subst h23
        have : longest us n 23 = 1 := by omega
        rw [this]; omega
      · have hl' := (long_pos (us := us) (n := n) (h := h + 1) (by omega)).2 (hk (h + 1) (by omega))
        have hn := long_next (us := us) (n := n) (h := h) (by omega)
        have hi' := long_hi (us := us) (n := n) (h := h + 1) (by omega)
        rw [gF_step (h := h + 1) (by omega) hl']
        by_cases h4 : h + longest us n h = 24
        · rw [show h + 1 + longest us n (h + 1) = 24 by omega, h4]; omega
        · have := gF_anti1 hk (23 - (h + longest us n h)) (h + longest us n h) (by omega) (h + 1 + longest us n (h + 1)) (by omega) (by omega)
          omega
    by_cases h23 : h = 23
    · obtain rfl : j = h + 1 := by omega
      exact one
    · have := gF_anti1 hk (23 - (h + 1)) (h + 1) (by omega) j (by omega) h2
      omega
termination_by d => d
theorem gF_anti (hk : okH us n) {h j : Nat} (h1 : h ≤ j) (h2 : j ≤ 24) : gF us n j ≤ gF us n h := by
  by_cases e : h = 24
  · obtain rfl : j = 24 := by omega
    subst e; omega
  · exact gF_anti1 hk (23 - h) h (by omega) j h1 h2
/-- The least number of changes from an hour on is that of the longest column. -/
theorem aft_eq (hk : okH us n) : ∀ d, d ≤ 23 → (∀ c, c < n → aK us n d c = if us (23 - d) c = true then 1 + gF us n (23 - d + lasts us (23 - d) c) else 1000) ∧ mnK (aK us n d) n = gF us n (23 - d)
  | 0, _ => by
    have p1 : ∀ c, c < n → aK us n 0 c = if us (23 - 0) c = true then 1 + gF us n (23 - 0 + lasts us (23 - 0) c) else 1000 := fun c hc => by
      rw [aK]
      by_cases hu : us 23 c = true
      · rw [if_pos hu, if_pos (by simpa using hu), Nat.sub_zero, lasts_step (by omega), if_pos hu, show lasts us (23 + 1) c = 0 from rfl, show 23 + (0 + 1) = 24 from rfl, gF_24]; omega
      · rw [if_neg hu, if_neg (by simpa using hu)]
    refine ⟨p1, ?_⟩
    obtain ⟨c, c1, c2⟩ := hk 23 (by omega)
    have hl := (long_pos (us := us) (n := n) (h := 23) (by omega)).2 ⟨c, c1, c2⟩
    have hi := long_hi (us := us) (n := n) (h := 23) (by omega)
    have g : gF us n 23 = 0 := by rw [gF_step (by omega) hl, show 23 + longest us n 23 = 24 by omega, gF_24]; omega
    rw [Nat.sub_zero, g]
    refine mnK_eq (fun c hc => ?_) ⟨c, c1, ?_⟩
    · rw [aK]; split <;> omega
    · rw [aK, if_pos c2]
  | d + 1, hd => by
    obtain ⟨i1, i2⟩ := aft_eq hk d (by omega)
    have hs : 23 - (d + 1) + 1 = 23 - d := by omega
    have gb := gF_bd hk (d + 1) (23 - d) (by omega)
    have p1 : ∀ c, c < n → aK us n (d + 1) c = if us (23 - (d + 1)) c = true then 1 + gF us n (23 - (d + 1) + lasts us (23 - (d + 1)) c) else 1000 := fun c hc => by
      rw [aK, i1 c hc, i2, show 22 - d = 23 - (d + 1) by omega]
      by_cases hu : us (23 - (d + 1)) c = true
      · have ls : lasts us (23 - (d + 1)) c = lasts us (23 - d) c + 1 := by rw [lasts_step (h := 23 - (d + 1)) (by omega), if_pos hu, hs]
        rw [if_pos hu, if_pos hu, ls]
        by_cases hv : us (23 - d) c = true
        · rw [if_pos hv]
          have le := lasts_le (us := us) (c := c) (d + 1) (23 - d) (by omega)
          have := gF_anti hk (h := 23 - d) (j := 23 - d + lasts us (23 - d) c) (by omega) (by omega)
          rw [show 23 - (d + 1) + (lasts us (23 - d) c + 1) = 23 - d + lasts us (23 - d) c by omega]
          omega
        · have l0 : lasts us (23 - d) c = 0 := by rw [lasts_step (by omega), if_neg hv]
          rw [if_neg hv, l0, show 23 - (d + 1) + (0 + 1) = 23 - d by omega]
          omega
      · rw [if_neg hu, if_neg hu]
    refine ⟨p1, ?_⟩
    have hl := (long_pos (us := us) (n := n) (h := 23 - (d + 1)) (by omega)).2 (hk _ (by omega))
    have hi := long_hi (us := us) (n := n) (h := 23 - (d + 1)) (by omega)
    have gs := gF_step (us := us) (n := n) (h := 23 - (d + 1)) (by omega) hl
    have gb2 := gF_bd hk (d + 2) (23 - (d + 1)) (by omega)
    refine mnK_eq (fun c hc => ?_) ?_
    · rw [p1 c hc]
      split
      · rw [gs]
        have := gF_anti hk (h := 23 - (d + 1) + lasts us (23 - (d + 1)) c) (j := 23 - (d + 1) + longest us n (23 - (d + 1))) (by have := long_le (us := us) (h := 23 - (d + 1)) hc; omega) hi
        omega
      · omega
    · obtain ⟨c, c1, c2⟩ := mxK_ex n hl
      refine ⟨c, c1, ?_⟩
      have hu := lasts_us (us := us) (c := c) (d + 2) (23 - (d + 1)) (by omega) 0 (by unfold longest at hl; omega)
      rw [p1 c c1, if_pos (by simpa using hu), gs]
      unfold longest
      rw [c2]
/-- Without a usable column at some hour there is no schedule. -/
theorem aft_none {h0 : Nat} (hh : h0 < 24) (hn : ∀ c, c < n → us h0 c = false) (n0 : 0 < n) : ∀ d, d ≤ 23 → 23 - d ≤ h0 → (∀ c, c < n → aK us n d c = 1000) ∧ mnK (aK us n d) n = 1000
  | 0, _, h => by
    obtain rfl : h0 = 23 := by omega
    have p : ∀ c, c < n → aK us n 0 c = 1000 := fun c hc => by rw [aK, if_neg (by rw [hn c hc]; decide)]
    exact ⟨p, mnK_eq (fun c hc => by rw [p c hc]; omega) ⟨0, n0, p 0 n0⟩⟩
  | d + 1, hd, h => by
    have p : ∀ c, c < n → aK us n (d + 1) c = 1000 := fun c hc => by
      rw [aK]
      by_cases e : 22 - d = h0
      · rw [if_neg (by rw [e, hn c hc]; decide)]
      · obtain ⟨i1, i2⟩ := aft_none hh hn n0 d (by omega) (by omega)
        rw [i1 c hc, i2]
        split <;> omega
    exact ⟨p, mnK_eq (fun c hc => by rw [p c hc]; omega) ⟨0, n0, p 0 n0⟩⟩
theorem aK_bd : ∀ d c, 0 < n → 0 ≤ aK us n d c ∧ aK us n d c ≤ 1000
  | 0, c, _ => by rw [aK]; split <;> omega
  | d + 1, c, n0 => by
    rw [aK]
    have i1 := aK_bd d c n0
    obtain ⟨b, b1, b2⟩ := mnK_ex (f := aK us n d) n n0
    have i2 := aK_bd d b n0
    split <;> omega
end
end Go.Proofs.Ytpfknijmipklaaa
