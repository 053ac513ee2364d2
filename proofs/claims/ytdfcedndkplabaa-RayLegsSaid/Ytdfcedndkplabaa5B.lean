/-
  Chapter 5, in plain words: skies, rays, legs.
  Conditions: none.
-/
import Derived.Test.Ytdfcedndkplabaa5A
namespace Go.Proofs.Ytdfcedndkplabaa
open Go.RowKit Fx
structure Sky where
  h : Int
  sl : List (Int × Int)
@[reducible] def eSlab (p : Int × Int) : V := .agg [I p.1, I p.2]
@[reducible] def eSlabs (l : List (Int × Int)) : V := .sl 2 l.length fun i => eSlab (l.getD i (0, 0))
@[reducible] def eSky (s : Sky) : V := .agg [I s.h, eSlabs s.sl]
def findErr {α : Type} (f : α → Int) : List α → Int → Int × Int
  | [], _ => (0, 0)
  | x :: l, k => if f x ≠ 0 then (k, f x) else findErr f l (k + 1)
theorem findErr_hit {α : Type} (f : α → Int) (d : α) : ∀ (l : List α) (k : Nat) (s : Int), (∀ i, i < k → f (l.getD i d) = 0) → k < l.length → f (l.getD k d) ≠ 0 → findErr f l s = (s + k, f (l.getD k d))
  | [], k, s, _, h, _ => by simp at h
  | x :: l, 0, s, _, _, h => by
    have h' : f x ≠ 0 := by simpa using h
    simp [findErr, h']
  | x :: l, k + 1, s, h0, h1, h2 => by
    have hx : f x = 0 := by simpa using h0 0 (by omega)
    have := findErr_hit f d l k (s + 1) (fun i hi => by simpa using h0 (i + 1) (by omega)) (by simpa using h1) (by simpa using h2)
    simp only [findErr, hx, ne_eq, not_true_eq_false, if_false, this]
    simp; omega
theorem findErr_none {α : Type} (f : α → Int) (d : α) : ∀ (l : List α) (s : Int), (∀ i, i < l.length → f (l.getD i d) = 0) → findErr f l s = (0, 0)
  | [], s, _ => rfl
  | x :: l, s, h => by
    have hx : f x = 0 := by simpa using h 0 (by simp)
    simp only [findErr, hx, ne_eq, not_true_eq_false, if_false]
    exact findErr_none f d l (s + 1) fun i hi => by simpa using h (i + 1) (by simpa using hi)
theorem findErr_z {α : Type} (f : α → Int) (d : α) : ∀ (l : List α) (s : Int), (findErr f l s).2 = 0 → ∀ i, i < l.length → f (l.getD i d) = 0
  | [], _, _, i, hi => by simp at hi
  | x :: l, s, h, i, hi => by
    unfold findErr at h
    split at h
    · rename_i h0; exact absurd h h0
    · rename_i h0
      cases i with
      | zero => simpa using h0
      | succ i => simpa using findErr_z f d l (s + 1) h i (by simpa using hi)
def firstErr : List Int → Int
  | [] => 0
  | e :: l => if e ≠ 0 then e else firstErr l
theorem firstErr_hit : ∀ (l : List Int) (k : Nat), (∀ i, i < k → l.getD i 0 = 0) → k < l.length → l.getD k 0 ≠ 0 → firstErr l = l.getD k 0
  | [], k, _, h, _ => by simp at h
  | x :: l, 0, _, _, h => by
    have h' : x ≠ 0 := by simpa using h
    simp [firstErr, h']
  | x :: l, k + 1, h0, h1, h2 => by
    have hx : x = 0 := by simpa using h0 0 (by omega)
    have := firstErr_hit l k (fun i hi => by simpa using h0 (i + 1) (by omega)) (by simpa using h1) (by simpa using h2)
    simp only [firstErr, hx, ne_eq, not_true_eq_false, if_false, this]
    simp
theorem firstErr_none : ∀ (l : List Int), (∀ i, i < l.length → l.getD i 0 = 0) → firstErr l = 0
  | [], _ => rfl
  | x :: l, h => by
    have hx : x = 0 := by simpa using h 0 (by simp)
    simp only [firstErr, hx, ne_eq, not_true_eq_false, if_false]
    exact firstErr_none l fun i hi => by simpa using h (i + 1) (by simpa using hi)
/-! ### What is valid -/
def slabE (p : Int × Int) : Int := if ¬ (1 ≤ p.1 ∧ p.1 ≤ 500) ∨ ¬ (0 ≤ p.2 ∧ p.2 ≤ 9000000) then 2 else 0
def skyC (s : Sky) : Int × Int := if ¬ (1 ≤ s.h ∧ s.h ≤ 500) then (0, 2) else if s.sl.length = 0 then (0, 10) else if 12 < s.sl.length then (0, 8) else findErr slabE s.sl 0
def skyE (s : Sky) : Int := (skyC s).2
def freqE (f : Int) : Int := if ¬ (1 ≤ f ∧ f ≤ 3000) then 2 else 0
def launchE (n d : Int) : Int := if ¬ (0 < d ∧ Int.gcd n d = 1) then 3 else if ¬ (d ≤ 100 ∧ 0 ≤ n ∧ n ≤ d - 1) then 2 else 0
def gridE (g : Int) : Int := if ¬ (1 ≤ g ∧ g ≤ 100) then 2 else 0
def shotE (f n d : Int) : Int := if freqE f ≠ 0 then freqE f else launchE n d
def rayE (s : Sky) (f n d : Int) : Int := if skyE s ≠ 0 then skyE s else shotE f n d
structure Sky.Val (s : Sky) : Prop where
  h1 : 1 ≤ s.h
  h2 : s.h ≤ 500
  n0 : 0 < s.sl.length
  n1 : s.sl.length ≤ 12
  t : ∀ i, i < s.sl.length → 1 ≤ (s.sl.getD i (0, 0)).1 ∧ (s.sl.getD i (0, 0)).1 ≤ 500
  q : ∀ i, i < s.sl.length → 0 ≤ (s.sl.getD i (0, 0)).2 ∧ (s.sl.getD i (0, 0)).2 ≤ 9000000
/-- The same, but there may be no slab. -/
structure Sky.Fine (s : Sky) : Prop where
  h1 : 1 ≤ s.h
  h2 : s.h ≤ 500
  n1 : s.sl.length ≤ 12
  t : ∀ i, i < s.sl.length → 1 ≤ (s.sl.getD i (0, 0)).1 ∧ (s.sl.getD i (0, 0)).1 ≤ 500
  q : ∀ i, i < s.sl.length → 0 ≤ (s.sl.getD i (0, 0)).2 ∧ (s.sl.getD i (0, 0)).2 ≤ 9000000
theorem Sky.Val.fine {s : Sky} (v : s.Val) : s.Fine := ⟨v.h1, v.h2, v.n1, v.t, v.q⟩
theorem sky_val {s : Sky} (h : skyE s = 0) : s.Val := by
  have h0 := h
  unfold skyE skyC at h
  split at h
  · cases h
  split at h
  · cases h
  split at h
  · cases h
  have z := findErr_z slabE (0, 0) _ _ h
  refine ⟨by omega, by omega, by omega, by omega, fun i hi => ?_, fun i hi => ?_⟩ <;> have := z i hi <;> unfold slabE at this <;> split at this <;> first | (cases this; done) | omega
theorem val_sky {s : Sky} (h : s.Val) : skyC s = (0, 0) := by
  have := h.h1; have := h.h2; have := h.n0; have := h.n1
  unfold skyC
  rw [if_neg (by omega), if_neg (by omega), if_neg (by omega)]
  refine findErr_none _ (0, 0) _ _ fun i hi => ?_
  have := h.t i hi
  have := h.q i hi
  unfold slabE
  rw [if_neg (by omega)]
structure LaunchV (n d : Int) : Prop where
  n0 : 0 ≤ n
  nd : n < d
  d1 : d ≤ 100
  g : Int.gcd n d = 1
theorem launch_val {n d : Int} (h : launchE n d = 0) : LaunchV n d := by
  unfold launchE at h
  split at h
  · cases h
  split at h
  · cases h
  rename_i a b
  have a := Decidable.not_not.1 a
  exact ⟨by omega, by omega, by omega, a.2⟩
theorem val_launch {n d : Int} (h : LaunchV n d) : launchE n d = 0 := by
  have := h.n0; have := h.nd; have := h.d1; have := h.g
  unfold launchE
  rw [if_neg (fun h => h ⟨by omega, by assumption⟩), if_neg (by omega)]
theorem freq_val {f : Int} (h : freqE f = 0) : 1 ≤ f ∧ f ≤ 3000 := by
  unfold freqE at h
  split at h
  · cases h
  · omega
/-! ### Rays -/
/-- By how much an index square exceeds the launch, times denominators. -/
def leftE (F n d q : Int) : Int := d * (F - q) - n * F
def apexL (F n d : Int) : List (Int × Int) → Nat
  | [] => 0
  | p :: l => if leftE F n d p.2 ≤ 0 then 0 else apexL F n d l + 1
theorem apexL_hit {F n d : Int} : ∀ (l : List (Int × Int)) (k : Nat), (∀ i, i < k → ¬ leftE F n d (l.getD i (0, 0)).2 ≤ 0) → k < l.length → leftE F n d (l.getD k (0, 0)).2 ≤ 0 → apexL F n d l = k
  | [], k, _, h, _ => by simp at h
  | x :: l, 0, _, _, h => by
    have h' : leftE F n d x.2 ≤ 0 := by simpa using h
    unfold apexL; rw [if_pos h']
  | x :: l, k + 1, h0, h1, h2 => by
    have hx : ¬ leftE F n d x.2 ≤ 0 := by simpa using h0 0 (by omega)
    unfold apexL
    rw [if_neg hx, apexL_hit l k (fun i hi => by simpa using h0 (i + 1) (by omega)) (by simpa using h1) (by simpa using h2)]
theorem apexL_none {F n d : Int} : ∀ (l : List (Int × Int)), (∀ i, i < l.length → ¬ leftE F n d (l.getD i (0, 0)).2 ≤ 0) → apexL F n d l = l.length
  | [], _ => rfl
  | x :: l, h => by
    have hx : ¬ leftE F n d x.2 ≤ 0 := by simpa using h 0 (by simp)
    unfold apexL
    rw [if_neg hx, apexL_none l fun i hi => by simpa using h (i + 1) (by simpa using hi)]
    simp
theorem apexL_le {F n d : Int} : ∀ (l : List (Int × Int)), apexL F n d l ≤ l.length
  | [] => Nat.le_refl _
  | x :: l => by
    have := apexL_le (F := F) (n := n) (d := d) l
    unfold apexL
    split
    · simp
    · simp; omega
theorem apexL_below {F n d : Int} : ∀ (l : List (Int × Int)) (i : Nat), i < apexL F n d l → 0 < leftE F n d (l.getD i (0, 0)).2
  | [], i, h => by simp [apexL] at h
  | x :: l, i, h => by
    unfold apexL at h
    split at h
    · omega
    · cases i with
      | zero => have : 0 < leftE F n d x.2 := by omega
                simpa using this
      | succ i => simpa using apexL_below l i (by omega)
theorem apexL_at {F n d : Int} : ∀ (l : List (Int × Int)), apexL F n d l < l.length → leftE F n d (l.getD (apexL F n d l) (0, 0)).2 ≤ 0
  | [], h => by simp at h
  | x :: l, h => by
    unfold apexL at h ⊢
    split at h
    · rw [if_pos (by assumption)]; simpa
    · rename_i hx
      rw [if_neg hx]
      simpa using apexL_at l (by simpa using h)
structure ShotV (F n d : Int) : Prop where
  f0 : 1 ≤ F
  f1 : F ≤ 9000000
  n0 : 0 ≤ n
  nd : n < d
  d1 : d ≤ 100
theorem prod_bd {a b A B : Int} (ha : -A ≤ a ∧ a ≤ A) (hb : -B ≤ b ∧ b ≤ B) : -(A * B) ≤ a * b ∧ a * b ≤ A * B := by
  have h1 := Int.mul_nonneg (show 0 ≤ A - a by omega) (show 0 ≤ B - b by omega)
  have h2 := Int.mul_nonneg (show 0 ≤ A - a by omega) (show 0 ≤ B + b by omega)
  have h3 := Int.mul_nonneg (show 0 ≤ A + a by omega) (show 0 ≤ B - b by omega)
  have h4 := Int.mul_nonneg (show 0 ≤ A + a by omega) (show 0 ≤ B + b by omega)
  constructor <;> grind
theorem sq_bd {f : Int} (h : 1 ≤ f ∧ f ≤ 3000) : 1 ≤ f * f ∧ f * f ≤ 9000000 := by
  have h1 := Int.mul_le_mul h.1 h.1 (by omega) (by omega)
  have h2 := Int.mul_le_mul h.2 h.2 (by omega) (by omega)
  omega
theorem left_bd {F n d q : Int} (v : ShotV F n d) (hq : 0 ≤ q ∧ q ≤ 9000000) : (-900000000 ≤ d * (F - q) ∧ d * (F - q) ≤ 900000000) ∧ (0 ≤ n * F ∧ n * F ≤ 900000000) := by
  have := v.f0; have := v.f1; have := v.n0; have := v.nd; have := v.d1
  have h1 := prod_bd (a := d) (b := F - q) (A := 100) (B := 9000000) (by omega) (by omega)
  have h2 := prod_bd (a := n) (b := F) (A := 100) (B := 9000000) (by omega) (by omega)
  have h3 := Int.mul_nonneg (show 0 ≤ n by omega) (show 0 ≤ F by omega)
  omega
theorem left_zero {F n d : Int} (v : ShotV F n d) : 0 < leftE F n d 0 := by
  have := v.f0; have := v.nd
  unfold leftE
  have h := Int.mul_pos (show 0 < d - n by omega) (show 0 < F by omega)
  have e : d * (F - 0) - n * F = (d - n) * F := by grind
  omega
def rootLo (num den : Int) : Int := rt (num / den)
def rootHi (num den : Int) : Int := if num % den = 0 ∧ rt (num / den) * rt (num / den) = num / den then rt (num / den) else rt (num / den) + 1
def legNum (t F n : Int) : Int := 100 * t * (100 * t) * n * F
def legE (t F n d q : Int) : Int × Int := (rootLo (legNum t F n) (leftE F n d q), rootHi (legNum t F n) (leftE F n d q))
theorem legNum_bd {t F n d : Int} (v : ShotV F n d) (ht : 1 ≤ t ∧ t ≤ 500) : (0 ≤ 100 * t * (100 * t) ∧ 100 * t * (100 * t) ≤ 2500000000) ∧ (0 ≤ 100 * t * (100 * t) * n ∧ 100 * t * (100 * t) * n ≤ 247500000000) ∧ (0 ≤ legNum t F n ∧ legNum t F n ≤ 2227500000000000000) := by
  have := v.f0; have := v.f1; have := v.n0; have := v.nd; have := v.d1
  have a0 := Int.mul_nonneg (show 0 ≤ 100 * t by omega) (show 0 ≤ 100 * t by omega)
  have a1 := Int.mul_le_mul (show 100 * t ≤ 50000 by omega) (show 100 * t ≤ 50000 by omega) (by omega) (by omega)
  have b0 := Int.mul_nonneg a0 (show 0 ≤ n by omega)
  have b1 := Int.mul_le_mul (show 100 * t * (100 * t) ≤ 2500000000 by omega) (show n ≤ 99 by omega) (by omega) (by omega)
  have c0 := Int.mul_nonneg b0 (show 0 ≤ F by omega)
  have c1 := Int.mul_le_mul (show 100 * t * (100 * t) * n ≤ 247500000000 by omega) (show F ≤ 9000000 by omega) (by omega) (by omega)
  unfold legNum
  omega
theorem rootLo_bd {num den : Int} (h : 0 ≤ num ∧ num ≤ 2227500000000000000) (hd : 0 < den) : 0 ≤ rootLo num den ∧ rootLo num den ≤ 1500000000 := by
  have q0 : 0 ≤ num / den := Int.ediv_nonneg h.1 (by omega)
  have q1 : num / den ≤ num := Int.ediv_le_self _ h.1
  obtain ⟨a, b, c⟩ := rt_spec q0
  unfold rootLo
  refine ⟨a, ?_⟩
  rcases Int.lt_or_le 1500000000 (rt (num / den)) with h3 | h3
  · have := Int.mul_le_mul (show 1500000001 ≤ rt (num / den) by omega) (show 1500000001 ≤ rt (num / den) by omega) (by omega) (by omega)
    omega
  · exact h3
theorem rootHi_bd {num den : Int} : rootLo num den ≤ rootHi num den ∧ rootHi num den ≤ rootLo num den + 1 := by
  unfold rootHi rootLo
  split <;> omega
theorem leg_bd {t F n d q : Int} (v : ShotV F n d) (ht : 1 ≤ t ∧ t ≤ 500) (hl : 0 < leftE F n d q) : 0 ≤ (legE t F n d q).1 ∧ (legE t F n d q).1 ≤ 1500000000 ∧ (legE t F n d q).1 ≤ (legE t F n d q).2 ∧ (legE t F n d q).2 ≤ (legE t F n d q).1 + 1 := by
  have h := (legNum_bd v ht).2.2
  have h1 := rootLo_bd h hl
  have h2 := rootHi_bd (num := legNum t F n) (den := leftE F n d q)
  unfold legE
  dsimp only
  omega
/-- The legs, from the ground on. -/
def legAt (s : Sky) (F n d : Int) : Nat → Int × Int
  | 0 => legE s.h F n d 0
  | i + 1 => legE (s.sl.getD i (0, 0)).1 F n d (s.sl.getD i (0, 0)).2
def upTo (s : Sky) (F n d : Int) : Nat → Int × Int
  | 0 => (0, 0)
  | k + 1 => ((upTo s F n d k).1 + (legAt s F n d k).1, (upTo s F n d k).2 + (legAt s F n d k).2)
theorem legAt_bd {s : Sky} {F n d : Int} (sv : s.Fine) (v : ShotV F n d) {k : Nat} (hk : k ≤ apexL F n d s.sl) : 0 ≤ (legAt s F n d k).1 ∧ (legAt s F n d k).1 ≤ 1500000000 ∧ (legAt s F n d k).1 ≤ (legAt s F n d k).2 ∧ (legAt s F n d k).2 ≤ (legAt s F n d k).1 + 1 := by
  cases k with
  | zero => exact leg_bd v ⟨sv.h1, sv.h2⟩ (left_zero v)
  | succ i =>
    have := apexL_le (F := F) (n := n) (d := d) s.sl
    exact leg_bd v (sv.t i (by omega)) (apexL_below s.sl i (by omega))
theorem upTo_bd {s : Sky} {F n d : Int} (sv : s.Fine) (v : ShotV F n d) : ∀ k, k ≤ apexL F n d s.sl + 1 → 0 ≤ (upTo s F n d k).1 ∧ (upTo s F n d k).1 ≤ 1500000000 * k ∧ (upTo s F n d k).1 ≤ (upTo s F n d k).2 ∧ (upTo s F n d k).2 ≤ (upTo s F n d k).1 + k
  | 0, _ => by simp [upTo]
  | k + 1, hk => by
    have ih := upTo_bd sv v k (by omega)
    have := legAt_bd sv v (k := k) (by omega)
    simp only [upTo]
    omega
def groundE (s : Sky) (F n d : Int) : Int × Int := (2 * (upTo s F n d (apexL F n d s.sl + 1)).1, 2 * (upTo s F n d (apexL F n d s.sl + 1)).2)
theorem ground_bd {s : Sky} {F n d : Int} (sv : s.Fine) (v : ShotV F n d) : 0 ≤ (groundE s F n d).1 ∧ (groundE s F n d).1 ≤ 39000000000 ∧ (groundE s F n d).1 ≤ (groundE s F n d).2 ∧ (groundE s F n d).2 ≤ (groundE s F n d).1 + 26 := by
  have := upTo_bd sv v _ (Nat.le_refl _)
  have h := apexL_le (F := F) (n := n) (d := d) s.sl
  have := sv.n1
  unfold groundE
  dsimp only
  omega
end Go.Proofs.Ytdfcedndkplabaa
