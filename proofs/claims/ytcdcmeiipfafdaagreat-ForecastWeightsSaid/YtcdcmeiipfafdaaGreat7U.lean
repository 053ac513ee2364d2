/-
  Chapter 7: the best schedule and ranges that are apart, the laws ForecastSchedules and ForecastFewest (by contract).
  Conditions: none.
-/
import Derived.Test.YtcdcmeiipfafdaaGreat7T
namespace Go.Proofs.YtcdcmeiipfafdaaGreat
open Go.RowKit Fx
/-! ### Plain -/
section
variable (us : Nat → Nat → Bool) (n : Nat)
def apS : Nat → List (Int × Int) × Nat
  | 0 => ([], 0)
  | h + 1 => if (apS h).2 < h ∧ stB us n (apS h).2 h = false then ((apS h).1 ++ [(((apS h).2 : Int), (h : Int))], h) else apS h
end
section
variable {us : Nat → Nat → Bool} {n : Nat}
structure ApI (us : Nat → Nat → Bool) (n h : Nat) : Prop where
  fr : (apS us n h).2 ≤ h ∧ (0 < h → (apS us n h).2 < h)
  on : h ≤ (apS us n h).2 + longest us n (apS us n h).2
  cnt : ((apS us n h).1.length : Int) = gF us n 0 - gF us n (apS us n h).2
  ok : ∀ k, k < (apS us n h).1.length → ∃ lo hi : Nat, (apS us n h).1.getD k (0, 0) = ((lo : Int), (hi : Int)) ∧ lo < hi ∧ hi < 24 ∧ stB us n lo hi = false ∧ prv (apS us n h).1 k ≤ lo
  last : prv (apS us n h).1 (apS us n h).1.length = (apS us n h).2
theorem prv_app {L : List (Int × Int)} {x : Int × Int} {k : Nat} (h : k ≤ L.length) : prv (L ++ [x]) k = prv L k := by
  unfold prv
  by_cases k0 : 0 < k
  · rw [if_pos k0, if_pos k0, List.getD_eq_getElem?_getD, List.getElem?_append_left (by omega), List.getD_eq_getElem?_getD]
  · rw [if_neg k0, if_neg k0]
theorem apS_ok (hk : okH us n) : ∀ h, h ≤ 24 → ApI us n h
  | 0, _ => ⟨⟨Nat.le_refl _, fun h => by omega⟩, Nat.zero_le _, by simp [apS], fun k hk => by simp [apS] at hk, by simp [apS, prv]⟩
  | h + 1, hh => by
    obtain ⟨⟨i1, i1'⟩, i2, i3, i4, i5⟩ := apS_ok hk h (by omega)
    have lh := (long_pos (us := us) (n := n) (h := h) (by omega)).2 (hk h (by omega))
    by_cases c : (apS us n h).2 < h ∧ stB us n (apS us n h).2 h = false
    · have e : apS us n (h + 1) = ((apS us n h).1 ++ [(((apS us n h).2 : Int), (h : Int))], h) := if_pos c
      have cs := c.2
      unfold stB at cs
      rw [decide_eq_false_iff_not] at cs
      have lf := (long_pos (us := us) (n := n) (h := (apS us n h).2) (by omega)).2 (hk _ (by omega))
      have gs := gF_step (us := us) (n := n) (h := (apS us n h).2) (by omega) lf
      rw [show (apS us n h).2 + longest us n (apS us n h).2 = h by omega] at gs
      rw [show ApI us n (h + 1) = ApI us n (h + 1) from rfl]
      refine ⟨?_, ?_, ?_, ?_, ?_⟩
      · rw [e]; exact ⟨by dsimp only; omega, fun _ => by dsimp only; omega⟩
      · rw [e]; dsimp only; omega
      · rw [e]; dsimp only
        rw [List.length_append, List.length_singleton]
        omega
      · rw [e]
        intro k hk'
        dsimp only at hk' ⊢
        rw [List.length_append, List.length_singleton] at hk'
        by_cases e2 : k = (apS us n h).1.length
        · subst e2
          refine ⟨(apS us n h).2, h, ?_, c.1, by omega, c.2, ?_⟩
          · rw [List.getD_eq_getElem?_getD, List.getElem?_append_right (Nat.le_refl _)]; simp
          · rw [prv_app (Nat.le_refl _), i5]; omega
        · obtain ⟨lo, hi, o1, o2, o3, o4, o5⟩ := i4 k (by omega)
          refine ⟨lo, hi, ?_, o2, o3, o4, ?_⟩
          · rw [List.getD_eq_getElem?_getD, List.getElem?_append_left (by omega), ← List.getD_eq_getElem?_getD]; exact o1
          · rw [prv_app (by omega)]; exact o5
      · rw [e]; dsimp only
        unfold prv
        rw [List.length_append, List.length_singleton, if_pos (by omega), Nat.add_sub_cancel, List.getD_eq_getElem?_getD, List.getElem?_append_right (Nat.le_refl _)]
        simp
    · have e : apS us n (h + 1) = apS us n h := if_neg c
      refine ⟨?_, ?_, ?_, ?_, ?_⟩ <;> rw [e]
      · refine ⟨by omega, fun _ => by omega⟩
      · by_cases e2 : (apS us n h).2 < h
        · have : stB us n (apS us n h).2 h = true := by
            cases e3 : stB us n (apS us n h).2 h with
            | true => rfl
            | false => exact (c ⟨e2, e3⟩).elim
          unfold stB at this
          rw [decide_eq_true_eq] at this
          omega
        · have e3 : (apS us n h).2 = h := by omega
          rw [e3]; omega
      · exact i3
      · exact i4
      · exact i5
theorem apS_len (hk : okH us n) : ((apS us n 24).1.length : Int) = gF us n 0 := by
  have I := apS_ok hk 24 (by omega)
  have f1 := I.fr.2 (by omega)
  have lf := (long_pos (us := us) (n := n) (h := (apS us n 24).2) f1).2 (hk _ f1)
  have lh := long_hi (us := us) (n := n) (h := (apS us n 24).2) (by omega)
  have on := I.on
  have gs := gF_step (us := us) (n := n) f1 lf
  rw [show (apS us n 24).2 + longest us n (apS us n 24).2 = 24 by omega, gF_24] at gs
  have := I.cnt
  omega
end
def apT (t : Tb) (s : Int) : List (Int × Int) := (apS (usB t s) t.fr.length 24).1
theorem apT_ok {t : Tb} {s : Int} (hk : okT t s) : apV t s (apT t s) = (m0 (usB t s) t.fr.length, 0) := by
  have I := apS_ok hk 24 (by omega)
  have ln := apS_len hk
  have gb := gF_bd hk 24 0 (by omega)
  change ((apT t s).length : Int) = _ at ln
  rw [apV_none (by omega), ln, m0_ok hk]
  intro k hk'
  obtain ⟨lo, hi, o1, o2, o3, o4, o5⟩ := I.ok k hk'
  change (apT t s).getD k (0, 0) = _ at o1
  change prv (apT t s) k ≤ _ at o5
  have e12 : a12 (apT t s) k = 0 := by
    unfold a12
    rw [o1, if_neg (fun h => h ⟨⟨by dsimp only; omega, by dsimp only; omega⟩, by dsimp only; omega, by dsimp only; omega⟩), if_neg (fun h => h ⟨by dsimp only; omega, o5⟩)]
  unfold aE
  rw [e12, if_neg (by decide), o1]
  dsimp only
  rw [Int.toNat_natCast, Int.toNat_natCast, if_neg (by rw [show stT t s lo hi = false from o4]; decide)]
/-- Accepted ranges are no more than a schedule's changes. -/
theorem apV_le {t : Tb} {s : Int} {L : List (Int × Int)} {l : List Int} (S : Sched (usB t s) t.fr.length l) (h : (apV t s L).2 = 0) : (apV t s L).1 ≤ chgK l 24 := by
  have hl : L.length < 24 := by
    refine Classical.byContradiction fun hn => ?_
    rw [show apV t s L = (0, 8) from if_pos (by omega)] at h
    simp at h
  have hz : ∀ k, k < L.length → aE t s L k = 0 := fun k hk => by
    rcases fstIx_spec (p := fun k => decide (aE t s L k ≠ 0)) L.length with ⟨_, q⟩ | ⟨j, j1, j2, j3, _⟩
    · have := q k hk
      simpa using this
    · rw [apV_hit hl (fun i hi => by simpa using j3 i hi) (by simpa using j2) j1] at h
      rw [decide_eq_true_eq] at j2
      exact (j2 h).elim
  rw [apV_none hl hz]
  have main : ∀ k, k ≤ L.length → (k = 0 ∨ (0 ≤ (L.getD (k - 1) (0, 0)).2 ∧ (L.getD (k - 1) (0, 0)).2 < 24 ∧ (k : Int) ≤ chgK l ((L.getD (k - 1) (0, 0)).2.toNat + 1))) := by
    intro k
    induction k with
    | zero => exact fun _ => .inl rfl
    | succ k ih =>
      intro hk
      right
      rw [Nat.add_sub_cancel]
      have z := hz k (by omega)
      unfold aE at z
      have z12 : a12 L k = 0 := by
        refine Classical.byContradiction fun hn => ?_
        rw [if_pos hn] at z; exact hn z
      rw [if_neg (by omega)] at z
      have zs : stT t s (L.getD k (0, 0)).1.toNat (L.getD k (0, 0)).2.toNat = false := by
        cases e : stT t s (L.getD k (0, 0)).1.toNat (L.getD k (0, 0)).2.toNat with
        | false => rfl
        | true => rw [if_pos e] at z; omega
      unfold a12 at z12
      have b1 : (0 ≤ (L.getD k (0, 0)).1 ∧ (L.getD k (0, 0)).1 ≤ 23) ∧ 0 ≤ (L.getD k (0, 0)).2 ∧ (L.getD k (0, 0)).2 ≤ 23 := by
        refine Classical.byContradiction fun hn => ?_
        rw [if_pos hn] at z12; omega
      rw [if_neg (fun h => h b1)] at z12
      have b2 : (L.getD k (0, 0)).1 < (L.getD k (0, 0)).2 ∧ prv L k ≤ (L.getD k (0, 0)).1 := by
        refine Classical.byContradiction fun hn => ?_
        rw [if_pos hn] at z12; omega
      have one := apart_one S (lo := (L.getD k (0, 0)).1.toNat) (hi := (L.getD k (0, 0)).2.toNat) (by omega) (by omega) zs
      refine ⟨by omega, by omega, ?_⟩
      rcases ih (by omega) with k0 | ⟨p1, p2, p3⟩
      · subst k0
        have := chgK_bd l ((L.getD 0 (0, 0)).1.toNat + 1)
        omega
      · by_cases k0 : k = 0
        · subst k0
          have := chgK_bd l ((L.getD 0 (0, 0)).1.toNat + 1)
          omega
        · have pv : prv L k = (L.getD (k - 1) (0, 0)).2 := if_pos (by omega)
          have := chgK_mono l ((L.getD (k - 1) (0, 0)).2.toNat + 1) ((L.getD k (0, 0)).1.toNat + 1) (by omega)
          omega
  rcases main L.length (Nat.le_refl _) with h0 | ⟨p1, p2, p3⟩
  · have := chgK_bd l 24
    dsimp only
    omega
  · have := chgK_mono l ((L.getD (L.length - 1) (0, 0)).2.toNat + 1) 24 (by omega)
    dsimp only
    omega
theorem chV_sched {t : Tb} {s : Int} {l : List Int} (h : (chV t s l).2 = 0) : Sched (usB t s) t.fr.length l ∧ (chV t s l).1 = chgK l 24 := by
  have hl : l.length = 24 := by
    refine Classical.byContradiction fun hn => ?_
    rw [show chV t s l = (0, 10) from if_pos hn] at h
    simp at h
  have hz : firstK (cE t s l) 24 = 0 := by
    refine Classical.byContradiction fun hn => ?_
    unfold chV at h
    rw [if_neg (by omega), if_pos hn] at h
    exact hn h
  have z := firstK_z 24 hz
  have each : ∀ i, i < 24 → (0 ≤ l.getD i 0 ∧ l.getD i 0 ≤ (t.fr.length : Int) - 1) ∧ usB t s i (l.getD i 0).toNat = true := fun i hi => by
    have := z i hi
    unfold cE at this
    have b1 : 0 ≤ l.getD i 0 ∧ l.getD i 0 ≤ (t.fr.length : Int) - 1 := by
      refine Classical.byContradiction fun hn => ?_
      rw [if_pos hn] at this; omega
    rw [if_neg (fun h => h b1)] at this
    refine ⟨b1, ?_⟩
    cases e : usB t s i (l.getD i 0).toNat with
    | true => rfl
    | false => rw [if_pos e] at this; omega
  refine ⟨⟨hl, fun i hi => ?_, fun i hi => (each i hi).2⟩, ?_⟩
  · have := (each i hi).1; omega
  · rw [chV_none hl z]
theorem sched_chV {t : Tb} {s : Int} {l : List Int} (S : Sched (usB t s) t.fr.length l) : chV t s l = (chgK l 24, 0) := by
  refine chV_none S.len fun i hi => ?_
  have c := S.col i hi
  unfold cE
  rw [if_neg (fun h => h ⟨c.1, by omega⟩), if_neg (by rw [S.use i hi]; decide)]
end Go.Proofs.YtcdcmeiipfafdaaGreat
