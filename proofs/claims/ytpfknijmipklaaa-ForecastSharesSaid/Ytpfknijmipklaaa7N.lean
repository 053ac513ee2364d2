/-
  In plain words: the best schedule, no schedule has fewer changes, ranges that are apart.
  Conditions: none.
-/
import Derived.Test.Ytpfknijmipklaaa7M
namespace Go.Proofs.Ytpfknijmipklaaa
/-! ### The first index -/
def fstIx (p : Nat → Bool) : Nat → Int
  | 0 => -1
  | k + 1 => if 0 ≤ fstIx p k then fstIx p k else if p k = true then (k : Int) else -1
theorem fstIx_spec {p : Nat → Bool} : ∀ k, (fstIx p k = -1 ∧ ∀ i, i < k → p i = false) ∨ ∃ j, j < k ∧ p j = true ∧ (∀ i, i < j → p i = false) ∧ fstIx p k = (j : Int)
  | 0 => .inl ⟨rfl, fun i h => by omega⟩
  | k + 1 => by
    rw [fstIx]
    rcases fstIx_spec (p := p) k with ⟨h1, h2⟩ | ⟨j, h1, h2, h3, h4⟩
    · rw [h1, if_neg (by omega)]
      by_cases hp : p k = true
      · rw [if_pos hp]
        exact .inr ⟨k, by omega, hp, h2, rfl⟩
      · rw [if_neg hp]
        refine .inl ⟨rfl, fun i hi => ?_⟩
        by_cases e : i = k
        · subst e; simpa using hp
        · exact h2 i (by omega)
    · rw [h4, if_pos (by omega)]
      exact .inr ⟨j, by omega, h2, h3, rfl⟩
theorem fstIx_hit {p : Nat → Bool} {j k : Nat} (h1 : j < k) (h2 : p j = true) (h3 : ∀ i, i < j → p i = false) : fstIx p k = (j : Int) := by
  rcases fstIx_spec (p := p) k with ⟨_, q2⟩ | ⟨i, i1, i2, i3, i4⟩
  · rw [q2 j h1] at h2; cases h2
  · rw [i4]
    rcases Nat.lt_trichotomy i j with e | e | e
    · rw [h3 i e] at i2; cases i2
    · omega
    · rw [i3 j e] at h2; cases h2
theorem fstIx_none {p : Nat → Bool} {k : Nat} (h : ∀ i, i < k → p i = false) : fstIx p k = -1 := by
  rcases fstIx_spec (p := p) k with ⟨q1, _⟩ | ⟨i, i1, i2, _⟩
  · exact q1
  · rw [h i i1] at i2; cases i2
/-! ### Changes -/
def chg (a b : Int) : Int := if a ≠ b then 1 else 0
def chgK (l : List Int) : Nat → Int
  | 0 => 0
  | k + 1 => if 0 < k then chgK l k + chg (l.getD (k - 1) 0) (l.getD k 0) else chgK l k
theorem chgK_mono (l : List Int) : ∀ k j, k ≤ j → chgK l k ≤ chgK l j
  | k, 0, h => by
    obtain rfl : k = 0 := by omega
    omega
  | k, j + 1, h => by
    by_cases e : k = j + 1
    · subst e; omega
    · have := chgK_mono l k j (by omega)
      rw [chgK]
      unfold chg
      split <;> try split
      all_goals omega
theorem chgK_bd (l : List Int) : ∀ k : Nat, 0 ≤ chgK l k ∧ chgK l k ≤ k
  | 0 => by simp [chgK]
  | k + 1 => by
    have := chgK_bd l k
    rw [chgK]
    unfold chg
    split <;> try split
    all_goals omega
theorem chgK_app (l : List Int) (x : Int) : ∀ k, k ≤ l.length → chgK (l ++ [x]) k = chgK l k
  | 0, _ => rfl
  | k + 1, h => by
    have ih := chgK_app l x k (by omega)
    have e : ∀ i, i < l.length → (l ++ [x]).getD i 0 = l.getD i 0 := fun i hi => by
      rw [List.getD_eq_getElem?_getD, List.getD_eq_getElem?_getD, List.getElem?_append_left hi]
    rw [chgK, chgK, ih, e k (by omega), e (k - 1) (by omega)]
theorem chgK_same {l : List Int} {lo : Nat} : ∀ hi, lo ≤ hi → chgK l (hi + 1) = chgK l (lo + 1) → ∀ i, lo ≤ i → i ≤ hi → l.getD i 0 = l.getD lo 0
  | 0, h, _, i, h1, h2 => by
    obtain rfl : lo = 0 := by omega
    obtain rfl : i = 0 := by omega
    rfl
  | hi + 1, h, he, i, h1, h2 => by
    by_cases e : lo = hi + 1
    · obtain rfl : i = lo := by omega
      rfl
    · have m1 := chgK_mono l (lo + 1) (hi + 1) (by omega)
      have st : chgK l (hi + 1 + 1) = chgK l (hi + 1) + chg (l.getD hi 0) (l.getD (hi + 1) 0) := by
        rw [chgK, if_pos (by omega), Nat.add_sub_cancel]
      have cb : 0 ≤ chg (l.getD hi 0) (l.getD (hi + 1) 0) := by unfold chg; split <;> omega
      have ih := chgK_same (l := l) (lo := lo) hi (by omega) (by omega)
      by_cases e2 : i = hi + 1
      · subst e2
        have cz : chg (l.getD hi 0) (l.getD (hi + 1) 0) = 0 := by omega
        have : l.getD hi 0 = l.getD (hi + 1) 0 := by
          refine Classical.byContradiction fun hn => ?_
          unfold chg at cz
          rw [if_pos hn] at cz
          omega
        rw [← this]
        exact ih hi (by omega) (by omega)
      · exact ih i h1 (by omega)
section
variable (us : Nat → Nat → Bool) (n : Nat)
/-- A schedule: a usable column at each hour. -/
structure Sched (l : List Int) : Prop where
  len : l.length = 24
  col : ∀ h, h < 24 → 0 ≤ l.getD h 0 ∧ l.getD h 0 < n
  use : ∀ h, h < 24 → us h (l.getD h 0).toNat = true
def m0 : Int := mnK (aft us n 0) n
def used (l : List Int) (i : Nat) : Int := if l.length = 0 then 0 else chg (l.getD (l.length - 1) 0) i
def pickB (h : Nat) (l : List Int) (left : Int) (i : Nat) : Bool := decide (aft us n h i + used l i ≤ left)
def pick (h : Nat) (l : List Int) (left : Int) : Int := fstIx (pickB us n h l left) n
def usedI (l : List Int) (c : Int) : Int := if l.length = 0 then 0 else chg (l.getD (l.length - 1) 0) c
/-- The best schedule's first h hours, and how many changes are left. -/
def sch : Nat → List Int × Int
  | 0 => ([], m0 us n)
  | h + 1 => ((sch h).1 ++ [pick us n h (sch h).1 (sch h).2], (sch h).2 - usedI (sch h).1 (pick us n h (sch h).1 (sch h).2))
end
section
variable {us : Nat → Nat → Bool} {n : Nat}
theorem aft_step {h c : Nat} (hh : h < 23) : aft us n h c = if us h c = true then min (min (aft us n (h + 1) c) (mnK (aft us n (h + 1)) n + 1)) 1000 else 1000 := by
  unfold aft
  rw [show 23 - h = (23 - (h + 1)) + 1 by omega, aK, show 22 - (23 - (h + 1)) = h by omega]
theorem aft_23 {c : Nat} : aft us n 23 c = if us 23 c = true then 0 else 1000 := rfl
theorem aft_bd {h c : Nat} (n0 : 0 < n) : 0 ≤ aft us n h c ∧ aft us n h c ≤ 1000 := aK_bd _ _ n0
/-- No schedule has fewer changes. -/
theorem sched_min {l : List Int} (s : Sched us n l) : ∀ d h, h + d = 23 → aft us n h (l.getD h 0).toNat ≤ chgK l 24 - chgK l (h + 1)
  | 0, h, e => by
    obtain rfl : h = 23 := by omega
    rw [aft_23, if_pos (s.use 23 (by omega))]
    show (0 : Int) ≤ chgK l 24 - chgK l 24
    omega
  | d + 1, h, e => by
    have ih := sched_min s d (h + 1) (by omega)
    rw [aft_step (by omega), if_pos (s.use h (by omega))]
    have st : chgK l (h + 1 + 1) = chgK l (h + 1) + chg (l.getD h 0) (l.getD (h + 1) 0) := by
      rw [chgK, if_pos (by omega), Nat.add_sub_cancel]
    have cn := (s.col (h + 1) (by omega))
    have ml := mnK_le (f := aft us n (h + 1)) n (l.getD (h + 1) 0).toNat (by omega)
    by_cases e2 : l.getD h 0 = l.getD (h + 1) 0
    · have cz : chg (l.getD h 0) (l.getD (h + 1) 0) = 0 := by unfold chg; rw [if_neg (fun k => k e2)]
      rw [e2]
      omega
    · have cz : chg (l.getD h 0) (l.getD (h + 1) 0) = 1 := by unfold chg; rw [if_pos e2]
      omega
theorem sched_m0 {l : List Int} (s : Sched us n l) : m0 us n ≤ chgK l 24 := by
  have h1 := sched_min s 23 0 (by omega)
  have cn := s.col 0 (by omega)
  have ml := mnK_le (f := aft us n 0) n (l.getD 0 0).toNat (by omega)
  have : chgK l (0 + 1) = 0 := rfl
  unfold m0
  omega
theorem aft_ok (hk : okH us n) {h : Nat} (hh : h < 24) : (∀ c, c < n → aft us n h c = if us h c = true then 1 + gF us n (h + lasts us h c) else 1000) ∧ mnK (aft us n h) n = gF us n h := by
  have := aft_eq hk (23 - h) (by omega)
  rwa [show 23 - (23 - h) = h by omega] at this
theorem m0_ok (hk : okH us n) : m0 us n = gF us n 0 := (aft_ok hk (h := 0) (by omega)).2
theorem m0_none (n0 : 0 < n) (hk : ¬ okH us n) : m0 us n = 1000 := by
  have : ∃ h0, h0 < 24 ∧ ∀ c, c < n → us h0 c = false := by
    refine Classical.byContradiction fun hn => hk fun h hh => ?_
    refine Classical.byContradiction fun hc => hn ⟨h, hh, fun c hcn => ?_⟩
    cases e : us h c with
    | false => rfl
    | true => exact (hc ⟨c, hcn, e⟩).elim
  obtain ⟨h0, h1, h2⟩ := this
  exact (aft_none h1 h2 n0 23 (by omega) (by omega)).2
structure SchI (us : Nat → Nat → Bool) (n h : Nat) : Prop where
  len : (sch us n h).1.length = h
  left : 0 ≤ (sch us n h).2 ∧ (sch us n h).2 ≤ 23
  col : ∀ i, i < h → 0 ≤ (sch us n h).1.getD i 0 ∧ (sch us n h).1.getD i 0 < n
  use : ∀ i, i < h → us i ((sch us n h).1.getD i 0).toNat = true
  last : 0 < h → aft us n (h - 1) ((sch us n h).1.getD (h - 1) 0).toNat ≤ (sch us n h).2
  cnt : chgK (sch us n h).1 h = m0 us n - (sch us n h).2
/-- There is always a column that leaves enough changes. -/
theorem pick_ok (hk : okH us n) {h : Nat} (hh : h < 24) (I : SchI us n h) : ∃ j, j < n ∧ pickB us n h (sch us n h).1 (sch us n h).2 j = true ∧ (∀ i, i < j → pickB us n h (sch us n h).1 (sch us n h).2 i = false) ∧ pick us n h (sch us n h).1 (sch us n h).2 = (j : Int) := by
  have ex : ∃ c, c < n ∧ pickB us n h (sch us n h).1 (sch us n h).2 c = true := by
    obtain ⟨c0, c0n, _⟩ := hk h hh
    obtain ⟨b, b1, b2⟩ := mnK_ex (f := aft us n h) n (by omega)
    by_cases h0 : h = 0
    · subst h0
      refine ⟨b, b1, ?_⟩
      unfold pickB
      rw [decide_eq_true_eq]
      show aft us n 0 b + 0 ≤ m0 us n
      unfold m0
      omega
    · have l1 := I.last (by omega)
      have cn := I.col (h - 1) (by omega)
      have lf := I.left
      have hs : h - 1 + 1 = h := by omega
      rw [aft_step (h := h - 1) (by omega), if_pos (I.use (h - 1) (by omega)), hs] at l1
      have uu : ∀ i, used (sch us n h).1 i = chg ((sch us n h).1.getD (h - 1) 0) i := fun i => by
        unfold used; rw [if_neg (by rw [I.len]; exact h0), I.len]
      by_cases e : aft us n h ((sch us n h).1.getD (h - 1) 0).toNat ≤ (sch us n h).2
      · refine ⟨((sch us n h).1.getD (h - 1) 0).toNat, by omega, ?_⟩
        unfold pickB
        rw [decide_eq_true_eq, uu]
        have : chg ((sch us n h).1.getD (h - 1) 0) (((sch us n h).1.getD (h - 1) 0).toNat : Int) = 0 := by
          unfold chg; rw [if_neg (fun k => k (by omega))]
        omega
      · refine ⟨b, b1, ?_⟩
        unfold pickB
        rw [decide_eq_true_eq, uu]
        have : chg ((sch us n h).1.getD (h - 1) 0) b ≤ 1 := by unfold chg; split <;> omega
        omega
  rcases fstIx_spec (p := pickB us n h (sch us n h).1 (sch us n h).2) n with ⟨q1, q2⟩ | q
  · obtain ⟨c, c1, c2⟩ := ex
    rw [q2 c c1] at c2; cases c2
  · exact q
theorem sch_ok (hk : okH us n) : ∀ h, h ≤ 24 → SchI us n h
  | 0, _ => by
    have gb := gF_bd hk 24 0 (by omega)
    obtain ⟨c0, c0n, _⟩ := hk 0 (by omega)
    obtain ⟨b, b1, b2⟩ := mnK_ex (f := aft us n 0) n (by omega)
    have := aft_bd (us := us) (n := n) (h := 0) (c := b) (by omega)
    have e : (sch us n 0).2 = gF us n 0 := m0_ok hk
    refine ⟨rfl, ⟨?_, by rw [e]; omega⟩, fun i hi => by omega, fun i hi => by omega, fun hi => by omega, ?_⟩
    · show 0 ≤ m0 us n
      unfold m0; omega
    · show (0 : Int) = m0 us n - m0 us n
      omega
  | h + 1, hh => by
    have I := sch_ok hk h (by omega)
    obtain ⟨j, j1, j2, j3, j4⟩ := pick_ok hk (by omega) I
    have e1 : (sch us n (h + 1)).1 = (sch us n h).1 ++ [(j : Int)] := by rw [sch, j4]
    have e2 : (sch us n (h + 1)).2 = (sch us n h).2 - used (sch us n h).1 j := by rw [sch, j4]; rfl
    have ln : (sch us n (h + 1)).1.length = h + 1 := by rw [e1]; simp [I.len]
    have g1 : ∀ i, i < h → (sch us n (h + 1)).1.getD i 0 = (sch us n h).1.getD i 0 := fun i hi => by
      rw [e1, List.getD_eq_getElem?_getD, List.getElem?_append_left (by rw [I.len]; exact hi), List.getD_eq_getElem?_getD]
    have g2 : (sch us n (h + 1)).1.getD h 0 = (j : Int) := by
      rw [e1, List.getD_eq_getElem?_getD, List.getElem?_append_right (by rw [I.len]; omega), I.len]; simp
    have pj := j2
    unfold pickB at pj
    rw [decide_eq_true_eq] at pj
    have ub : 0 ≤ used (sch us n h).1 j := by
      unfold used chg
      split <;> try split
      all_goals omega
    have ab := aft_bd (us := us) (n := n) (h := h) (c := j) (by omega)
    have lf := I.left
    have uj : us h j = true := by
      cases e : us h j with
      | true => rfl
      | false =>
        have := (aft_ok hk (h := h) (by omega)).1 j j1
        rw [e, if_neg (by decide)] at this
        omega
    refine ⟨ln, ⟨by rw [e2]; omega, by rw [e2]; omega⟩, fun i hi => ?_, fun i hi => ?_, fun _ => ?_, ?_⟩
    · by_cases e : i = h
      · subst e; rw [g2]; omega
      · rw [g1 i (by omega)]; exact I.col i (by omega)
    · by_cases e : i = h
      · subst e; rw [g2]; simpa using uj
      · rw [g1 i (by omega)]; exact I.use i (by omega)
    · rw [Nat.add_sub_cancel, g2, Int.toNat_natCast, e2]; omega
    · rw [chgK, e1, chgK_app _ _ h (by rw [I.len]; omega), I.cnt, ← e1, g2, e2]
      by_cases h0 : h = 0
      · subst h0
        rw [if_neg (by omega)]
        show m0 us n - m0 us n = m0 us n - (m0 us n - 0)
        omega
      · rw [if_pos (by omega), g1 (h - 1) (by omega)]
        have : used (sch us n h).1 j = chg ((sch us n h).1.getD (h - 1) 0) j := by
          unfold used; rw [if_neg (by rw [I.len]; exact h0), I.len]
        omega
theorem sch_sched (hk : okH us n) : Sched us n (sch us n 24).1 ∧ chgK (sch us n 24).1 24 = m0 us n := by
  have I := sch_ok hk 24 (Nat.le_refl _)
  have s : Sched us n (sch us n 24).1 := ⟨I.len, I.col, I.use⟩
  refine ⟨s, ?_⟩
  have := sched_m0 s
  have := I.cnt
  have := I.left
  omega
/-! ### Ranges that are apart -/
def stB (us : Nat → Nat → Bool) (n lo hi : Nat) : Bool := decide (hi - lo < longest us n lo)
theorem stB_iff {lo hi : Nat} (h1 : lo ≤ hi) (h2 : hi < 24) : stB us n lo hi = true ↔ ∃ c, c < n ∧ ∀ i, lo ≤ i → i ≤ hi → us i c = true := by
  unfold stB
  rw [decide_eq_true_eq]
  constructor
  · intro h
    obtain ⟨c, c1, c2⟩ := mxK_ex n (show 0 < mxK (lasts us lo) n by unfold longest at h; omega)
    refine ⟨c, c1, fun i i1 i2 => ?_⟩
    have := lasts_us (us := us) (c := c) (24 - lo) lo (by omega) (i - lo) (by unfold longest at h; omega)
    rwa [show lo + (i - lo) = i by omega] at this
  · rintro ⟨c, c1, c2⟩
    have := (lasts_ge (us := us) (h := lo) (c := c) (m := hi - lo + 1) (by omega)).2 fun i hi => c2 _ (by omega) (by omega)
    have := long_le (us := us) (h := lo) c1
    omega
/-- A range in which no column stays forces a change. -/
theorem apart_one {l : List Int} (s : Sched us n l) {lo hi : Nat} (h1 : lo ≤ hi) (h2 : hi < 24) (hn : stB us n lo hi = false) : chgK l (lo + 1) + 1 ≤ chgK l (hi + 1) := by
  refine Classical.byContradiction fun hc => ?_
  have m := chgK_mono l (lo + 1) (hi + 1) (by omega)
  have same := chgK_same (l := l) hi h1 (by omega)
  have cn := s.col lo (by omega)
  have : stB us n lo hi = true := (stB_iff h1 h2).2 ⟨(l.getD lo 0).toNat, by omega, fun i i1 i2 => by
    rw [← same i i1 i2]; exact s.use i (by omega)⟩
  rw [hn] at this; cases this
end
end Go.Proofs.Ytpfknijmipklaaa
