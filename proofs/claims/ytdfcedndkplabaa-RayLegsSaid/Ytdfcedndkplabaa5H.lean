/-
  Chapter 5, in plain words: legs and sine squares by reduced fractions are those of the whole numbers; mirror heights.
  Conditions: none.
-/
import Derived.Test.Ytdfcedndkplabaa5E
namespace Go.Proofs.Ytdfcedndkplabaa
open Go.RowKit Fx
theorem shotV {f n d : Int} (fv : 1 ≤ f ∧ f ≤ 3000) (lv : LaunchV n d) : ShotV (f * f) n d :=
  ⟨(sq_bd fv).1, (sq_bd fv).2, lv.n0, lv.nd, lv.d1⟩
theorem rayE_zero {s : Sky} {f n d : Int} (h : rayE s f n d = 0) : s.Val ∧ (1 ≤ f ∧ f ≤ 3000) ∧ LaunchV n d := by
  have h0 : skyE s = 0 := by unfold rayE at h; grind
  have h1 : shotE f n d = 0 := by unfold rayE at h; grind
  have h2 : freqE f = 0 := by unfold shotE at h1; grind
  have h3 : launchE n d = 0 := by unfold shotE at h1; grind
  exact ⟨sky_val h0, freq_val h2, launch_val h3⟩
/-! ### Roots of scaled quotients -/
theorem root_scale {k a b : Int} (hk : 0 < k) : rootLo (k * a) (k * b) = rootLo a b ∧ rootHi (k * a) (k * b) = rootHi a b := by
  have e1 : k * a / (k * b) = a / b := Int.mul_ediv_mul_of_pos a b hk
  have e2 : k * a % (k * b) = k * (a % b) := Int.mul_emod_mul_of_pos a b hk
  have e3 : k * (a % b) = 0 ↔ a % b = 0 := by
    constructor
    · intro h
      rcases Int.mul_eq_zero.1 h with h | h
      · omega
      · exact h
    · intro h; rw [h]; simp
  unfold rootLo rootHi
  rw [e1, e2]
  refine ⟨rfl, ?_⟩
  simp only [e3]
theorem ceil_eq {a b : Int} (hb : 0 < b) : ceilE a b = if a % b = 0 then a / b else a / b + 1 := by
  have h1 := Int.mul_ediv_add_emod a b
  have h2 := Int.emod_lt_of_pos a hb
  have h3 := Int.emod_nonneg a (show b ≠ 0 by omega)
  have fin : ∀ q r : Int, b * q + r = 0 - a → 0 ≤ r → r < b → (0 - a) / b = q := fun q r h1 h2 h3 => by
    rw [← h1, Int.add_comm, Int.add_mul_ediv_left _ _ (by omega), Int.ediv_eq_zero_of_lt h2 h3]; omega
  unfold ceilE
  split
  · rename_i hz
    rw [fin (-(a / b)) 0 (by rw [Int.mul_neg]; omega) (by omega) hb]; omega
  · have e : b * (-(a / b) - 1) = -(b * (a / b)) - b := by grind
    rw [fin (-(a / b) - 1) (b - a % b) (by omega) (by omega) (by omega)]; omega
theorem rtUp_ceil {a b : Int} (ha : 0 ≤ a) (hb : 0 < b) : rtUp (ceilE a b) = rootHi a b := by
  have q0 : 0 ≤ a / b := Int.ediv_nonneg ha (by omega)
  obtain ⟨r0, r1, r2⟩ := rt_spec q0
  rw [ceil_eq hb]
  unfold rootHi
  by_cases hz : a % b = 0
  · rw [if_pos hz]
    by_cases he : rt (a / b) * rt (a / b) = a / b
    · rw [if_pos ⟨hz, he⟩]
      refine rtUp_uniq q0 r0 (by omega) ?_
      rcases (show rt (a / b) = 0 ∨ 0 < rt (a / b) by omega) with h | h
      · exact .inl h
      · refine .inr ?_
        have : (rt (a / b) - 1) * (rt (a / b) - 1) = rt (a / b) * rt (a / b) - 2 * rt (a / b) + 1 := by grind
        omega
    · rw [if_neg (fun h => he h.2)]
      refine rtUp_uniq q0 (by omega) (by omega) (.inr ?_)
      rw [show rt (a / b) + 1 - 1 = rt (a / b) by omega]
      omega
  · rw [if_neg hz, if_neg (fun h => hz h.1)]
    refine rtUp_uniq (by omega) (by omega) (by omega) (.inr ?_)
    rw [show rt (a / b) + 1 - 1 = rt (a / b) by omega]
    omega
/-! ### Legs by reduced fractions -/
theorem red (F q : Int) (hF : 0 < F) : ∃ g : Int, 0 < g ∧ F - q = g * (low (F - q) F).1 ∧ F = g * (low (F - q) F).2 ∧ 0 < (low (F - q) F).2 := by
  obtain ⟨g, g0, _, e1, e2, p, _⟩ := low_split (n := F - q) hF
  exact ⟨g, g0, e1, e2, p⟩
def rNum (F n q : Int) : Int := n * (low (F - q) F).2
def rDen (F n d q : Int) : Int := (low (F - q) F).1 * d - n * (low (F - q) F).2
theorem rDen_left {F n d q : Int} (v : ShotV F n d) : ∃ g : Int, 0 < g ∧ leftE F n d q = g * rDen F n d q ∧ n * F = g * rNum F n q := by
  have := v.f0
  obtain ⟨g, g0, e1, e2, p⟩ := red F q (by omega)
  refine ⟨g, g0, ?_, ?_⟩
  · unfold leftE rDen
    generalize (low (F - q) F).1 = a at *
    generalize (low (F - q) F).2 = b at *
    grind
  · unfold rNum
    generalize (low (F - q) F).2 = b at *
    grind
theorem rDen_pos {F n d q : Int} (v : ShotV F n d) (h : 0 < leftE F n d q) : 0 < rDen F n d q := by
  obtain ⟨g, g0, e, _⟩ := rDen_left (q := q) v
  rw [e] at h
  exact Int.pos_of_mul_pos_right h (by omega)
theorem cmp_left {F n d q : Int} (v : ShotV F n d) : (low (F - q) F).1 * d ≤ n * (low (F - q) F).2 ↔ leftE F n d q ≤ 0 := by
  obtain ⟨g, g0, e, _⟩ := rDen_left (q := q) v
  rw [e]
  have h : rDen F n d q = (low (F - q) F).1 * d - n * (low (F - q) F).2 := rfl
  constructor
  · intro h1
    have := Int.mul_le_mul_of_nonneg_left (show rDen F n d q ≤ 0 by omega) (show 0 ≤ g by omega)
    omega
  · intro h1
    rcases Int.lt_or_le 0 (rDen F n d q) with h2 | h2
    · have := Int.mul_pos g0 h2; omega
    · omega
theorem leg_red {t F n d q : Int} (v : ShotV F n d) (ht : 1 ≤ t ∧ t ≤ 500) (hl : 0 < leftE F n d q) :
    legE t F n d q = (rt (100 * t * 100 * t * (low (rNum F n q) (rDen F n d q)).1 / (low (rNum F n q) (rDen F n d q)).2), rtUp (ceilE (100 * t * 100 * t * (low (rNum F n q) (rDen F n d q)).1) (low (rNum F n q) (rDen F n d q)).2)) := by
  have := v.f0; have := v.n0
  obtain ⟨g, g0, e1, e2⟩ := rDen_left (q := q) v
  have dp := rDen_pos v hl
  obtain ⟨h, h0, _, c1, c2, c3, _⟩ := low_split (n := rNum F n q) dp
  have np : 0 ≤ rNum F n q := by
    have := Int.mul_nonneg (show 0 ≤ n by omega) (show 0 ≤ F by omega)
    rcases Int.lt_or_le (rNum F n q) 0 with h2 | h2
    · have := Int.mul_neg_of_pos_of_neg g0 h2; omega
    · exact h2
  have ap := ((low_size (n := rNum F n q) dp).2.1 np).1
  generalize low (rNum F n q) (rDen F n d q) = x at *
  have k0 : 0 < g * h := Int.mul_pos g0 h0
  have eN : legNum t F n = g * h * (100 * t * 100 * t * x.1) := by
    unfold legNum
    have : 100 * t * (100 * t) * n * F = 100 * t * (100 * t) * (n * F) := by grind
    rw [this, e2, c1]
    grind
  have eD : leftE F n d q = g * h * x.2 := by rw [e1, c2]; grind
  have tp : 0 ≤ 100 * t * 100 * t * x.1 := Int.mul_nonneg (Int.mul_nonneg (by omega) (by omega)) ap
  obtain ⟨s1, s2⟩ := root_scale (a := 100 * t * 100 * t * x.1) (b := x.2) k0
  unfold legE
  rw [eN, eD, s1, s2, rtUp_ceil tp c3]
  rfl
theorem low_one {F : Int} (h : 0 < F) : low (F - 0) F = (1, 1) := by
  unfold low
  rw [Int.sub_zero, Int.gcd_self, show ((F.natAbs : Nat) : Int) = F by omega, Int.ediv_self (by omega)]
theorem left_lt {F n d q : Int} (v : ShotV F n d) (h : 0 < leftE F n d q) : 0 < d * (F - q) ∧ 0 < F - q := by
  have b := Int.mul_nonneg (show 0 ≤ n by have := v.n0; omega) (show 0 ≤ F by have := v.f0; omega)
  have := v.nd; have := v.n0
  unfold leftE at h
  exact ⟨by omega, Int.pos_of_mul_pos_right (show 0 < d * (F - q) by omega) (by omega)⟩
theorem sine_red {F n d q : Int} (v : ShotV F n d) (h : 0 < leftE F n d q) : 0 < d * (low (F - q) F).1 ∧ low (n * (low (F - q) F).2) (d * (low (F - q) F).1) = low (n * F) (d * (F - q)) := by
  have := v.f0; have := v.nd; have := v.n0
  obtain ⟨g, g0, e1, e2, p⟩ := red F q (by omega)
  obtain ⟨l1, l2⟩ := left_lt v h
  have ap : 0 < (low (F - q) F).1 := Int.pos_of_mul_pos_right (a := g) (by rw [← e1]; exact l2) (by omega)
  refine ⟨Int.mul_pos (by omega) ap, low_eq (Int.mul_pos (by omega) ap) l1 ?_⟩
  generalize (low (F - q) F).1 = a at *
  generalize (low (F - q) F).2 = b at *
  rw [e1]
  have : n * F * (d * a) = n * (g * b) * (d * a) := by rw [← e2]
  rw [this]
  grind
/-! ### What the walks answer -/
def sinL (s : Sky) (F n d : Int) : List (Int × Int) := (List.range (apexL F n d s.sl)).map fun i => low (n * F) (d * (F - (s.sl.getD i (0, 0)).2))
theorem sinL_len (s : Sky) (F n d : Int) : (sinL s F n d).length = apexL F n d s.sl := by unfold sinL; simp
theorem sinL_at {s : Sky} {F n d : Int} {k : Nat} (h : k < apexL F n d s.sl) : (sinL s F n d).getD k (0, 0) = low (n * F) (d * (F - (s.sl.getD k (0, 0)).2)) := by
  unfold sinL
  rw [List.getD_eq_getElem?_getD, List.getElem?_map, List.getElem?_range h]; rfl
def legL (s : Sky) (F n d : Int) : List (Int × Int) := (List.range (apexL F n d s.sl + 1)).map (legAt s F n d)
theorem legL_len (s : Sky) (F n d : Int) : (legL s F n d).length = apexL F n d s.sl + 1 := by unfold legL; simp
theorem legL_at {s : Sky} {F n d : Int} {k : Nat} (h : k < apexL F n d s.sl + 1) : (legL s F n d).getD k (0, 0) = legAt s F n d k := by
  unfold legL
  rw [List.getD_eq_getElem?_getD, List.getElem?_map, List.getElem?_range h]; rfl
def upK (g : Nat → Int × Int) : Nat → Int × Int
  | 0 => (0, 0)
  | k + 1 => ((upK g k).1 + (g k).1, (upK g k).2 + (g k).2)
theorem upK_eq {s : Sky} {F n d : Int} {g : Nat → Int × Int} : ∀ k, (∀ i, i < k → g i = legAt s F n d i) → upK g k = upTo s F n d k
  | 0, _ => rfl
  | k + 1, h => by
    simp only [upK, upTo]
    rw [upK_eq k fun i hi => h i (by omega), h k (by omega)]
def bordK (s : Sky) : Nat → Int
  | 0 => s.h
  | k + 1 => bordK s k + (s.sl.getD k (0, 0)).1
theorem bord_bd {s : Sky} (v : s.Fine) : ∀ k, k ≤ s.sl.length → 1 ≤ bordK s k ∧ bordK s k ≤ 500 * (k + 1)
  | 0, _ => by have := v.h1; have := v.h2; simp only [bordK]; omega
  | k + 1, hk => by
    have ih := bord_bd v k (by omega)
    have := v.t k (by omega)
    simp only [bordK]; omega
/-- The mirror height, or an error. -/
def mirE (s : Sky) (F n d : Int) : Int := if n = 0 then 11 else if apexL F n d s.sl = s.sl.length then 21 else if 2000000 < (groundE s F n d).2 then 8 else 0
def mirR (s : Sky) (F n d : Int) : Int × Int := if mirE s F n d ≠ 0 then (0, 0) else
  (rootLo ((upTo s F n d (apexL F n d s.sl + 1)).1 * (upTo s F n d (apexL F n d s.sl + 1)).1 * (d - n)) n, rootHi ((upTo s F n d (apexL F n d s.sl + 1)).2 * (upTo s F n d (apexL F n d s.sl + 1)).2 * (d - n)) n)
theorem half_eq {u d n : Int} : rootLo (2 * u * (2 * u) * (d - n)) (4 * n) = rootLo (u * u * (d - n)) n ∧ rootHi (2 * u * (2 * u) * (d - n)) (4 * n) = rootHi (u * u * (d - n)) n := by
  have e : 2 * u * (2 * u) * (d - n) = 4 * (u * u * (d - n)) := by grind
  rw [e]
  exact root_scale (by omega)
end Go.Proofs.Ytdfcedndkplabaa
