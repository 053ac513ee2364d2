/-
  In plain words: fractions in lowest terms, roots rounded down.
  Conditions: none.
-/
import Derived.Test.YtdfcedndkplabaaFu
namespace Go.Proofs.Ytdfcedndkplabaa
open Go.RowKit Fx
/-! ### Fractions in lowest terms -/
def low (n d : Int) : Int × Int := (n / (Int.gcd n d : Int), d / (Int.gcd n d : Int))
theorem low_split {n d : Int} (h : 0 < d) : ∃ g : Int, 0 < g ∧ g = Int.gcd n d ∧ n = g * (low n d).1 ∧ d = g * (low n d).2 ∧ 0 < (low n d).2 ∧ Int.gcd (low n d).1 (low n d).2 = 1 := by
  have hg : 0 < Int.gcd n d := Int.gcd_pos_of_ne_zero_right n (by omega)
  have e1 : n = (Int.gcd n d : Int) * (low n d).1 := (Int.mul_ediv_cancel' (Int.gcd_dvd_left n d)).symm
  have e2 : d = (Int.gcd n d : Int) * (low n d).2 := (Int.mul_ediv_cancel' (Int.gcd_dvd_right n d)).symm
  refine ⟨Int.gcd n d, by omega, rfl, e1, e2, ?_, Int.gcd_ediv_gcd_ediv_gcd hg⟩
  have h2 : 0 < (Int.gcd n d : Int) * (low n d).2 := by rw [← e2]; exact h
  exact Int.pos_of_mul_pos_right h2 (by omega)
theorem low_td1 (n d : Int) : n.tdiv (Int.gcd n d : Int) = (low n d).1 := Int.tdiv_eq_ediv_of_dvd (Int.gcd_dvd_left n d)
theorem low_td2 (n d : Int) : d.tdiv (Int.gcd n d : Int) = (low n d).2 := Int.tdiv_eq_ediv_of_dvd (Int.gcd_dvd_right n d)
theorem gcd_step (a b : Int) : Int.gcd b (a.tmod b) = Int.gcd a b := by
  rw [Int.gcd_eq_natAbs_gcd_natAbs, Int.gcd_eq_natAbs_gcd_natAbs, Int.natAbs_tmod, Nat.gcd_comm a.natAbs]
  exact (Nat.gcd_comm _ _).trans (Nat.gcd_rec _ _).symm
theorem low_uniq {a b c e : Int} (hb : 0 < b) (he : 0 < e) (h1 : Int.gcd a b = 1) (h2 : Int.gcd c e = 1) (h : a * e = c * b) : a = c ∧ b = e := by
  have d1 : b ∣ e := by
    have : b ∣ a * e := ⟨c, by rw [h, Int.mul_comm]⟩
    have t : Int.gcd b (a * e) = Int.gcd b e := Int.gcd_mul_right_right_of_gcd_eq_one (by rw [Int.gcd_comm]; exact h1)
    have q := Int.gcd_eq_natAbs_left this
    rw [t] at q
    exact Int.gcd_eq_natAbs_left_iff_dvd.1 q
  have d2 : e ∣ b := by
    have : e ∣ c * b := ⟨a, by rw [← h, Int.mul_comm]⟩
    have t : Int.gcd e (c * b) = Int.gcd e b := Int.gcd_mul_right_right_of_gcd_eq_one (by rw [Int.gcd_comm]; exact h2)
    have q := Int.gcd_eq_natAbs_left this
    rw [t] at q
    exact Int.gcd_eq_natAbs_left_iff_dvd.1 q
  have eb : b = e := Int.dvd_antisymm (by omega) (by omega) d1 d2
  subst eb
  exact ⟨Int.eq_of_mul_eq_mul_right (by omega) h, rfl⟩
theorem low_eq {n d m k : Int} (hd : 0 < d) (hk : 0 < k) (h : n * k = m * d) : low n d = low m k := by
  obtain ⟨g, g0, _, e1, e2, p2, c⟩ := low_split (n := n) hd
  obtain ⟨g', g0', _, e1', e2', p2', c'⟩ := low_split (n := m) hk
  have : (low n d).1 * (low m k).2 = (low m k).1 * (low n d).2 := by
    have h3 : (g * g') * ((low n d).1 * (low m k).2) = (g * g') * ((low m k).1 * (low n d).2) := by
      have : n * k = (g * (low n d).1) * (g' * (low m k).2) := by rw [← e1, ← e2']
      have : m * d = (g' * (low m k).1) * (g * (low n d).2) := by rw [← e1', ← e2]
      grind
    exact Int.eq_of_mul_eq_mul_left (by have := Int.mul_pos g0 g0'; omega) h3
  have := low_uniq p2 p2' c c' this
  exact Prod.ext this.1 this.2
theorem low_le {n d m k : Int} (hd : 0 < d) (hk : 0 < k) : (low n d).1 * (low m k).2 ≤ (low m k).1 * (low n d).2 ↔ n * k ≤ m * d := by
  obtain ⟨g, g0, _, e1, e2, p2, c⟩ := low_split (n := n) hd
  obtain ⟨g', g0', _, e1', e2', p2', c'⟩ := low_split (n := m) hk
  have gg := Int.mul_pos g0 g0'
  have q1 : n * k = (g * g') * ((low n d).1 * (low m k).2) := by
    have : n * k = (g * (low n d).1) * (g' * (low m k).2) := by rw [← e1, ← e2']
    grind
  have q2 : m * d = (g * g') * ((low m k).1 * (low n d).2) := by
    have : m * d = (g' * (low m k).1) * (g * (low n d).2) := by rw [← e1', ← e2]
    grind
  rw [q1, q2]
  exact ⟨fun h => Int.mul_le_mul_of_nonneg_left h (by omega), fun h => Int.le_of_mul_le_mul_left h gg⟩
/-- A fraction that is in lowest terms already. -/
theorem low_self {n d : Int} (_hd : 0 < d) (h : Int.gcd n d = 1) : low n d = (n, d) := by
  unfold low; rw [h]; simp
theorem low_size {n d : Int} (hd : 0 < d) : (low n d).2 ≤ d ∧ (0 ≤ n → 0 ≤ (low n d).1 ∧ (low n d).1 ≤ n) ∧ (n ≤ 0 → n ≤ (low n d).1 ∧ (low n d).1 ≤ 0) := by
  obtain ⟨g, g0, _, e1, e2, p2, c⟩ := low_split (n := n) hd
  generalize low n d = x at *
  have one : ∀ y : Int, 0 ≤ y → y ≤ g * y := fun y hy => by
    have := Int.mul_le_mul_of_nonneg_right (show (1 : Int) ≤ g by omega) hy
    omega
  refine ⟨by have := one x.2 (by omega); omega, fun h => ?_, fun h => ?_⟩
  · have h0 : 0 ≤ x.1 := by
      rcases Int.lt_or_le x.1 0 with h3 | h3
      · have := Int.mul_neg_of_pos_of_neg g0 h3; omega
      · exact h3
    have := one x.1 h0
    omega
  · have h0 : x.1 ≤ 0 := by
      rcases Int.lt_or_le 0 x.1 with h3 | h3
      · have := Int.mul_pos g0 h3; omega
      · exact h3
    have := one (-x.1) (by omega)
    have : g * -x.1 = -(g * x.1) := by grind
    omega
theorem low_lt {n d : Int} (hd : 0 < d) (h : n < d) : (low n d).1 < (low n d).2 := by
  obtain ⟨g, g0, _, e1, e2, p2, c⟩ := low_split (n := n) hd
  generalize low n d = x at *
  rcases Int.lt_or_le x.1 x.2 with h3 | h3
  · exact h3
  · have := Int.mul_le_mul_of_nonneg_left h3 (show 0 ≤ g by omega)
    omega
theorem low_idem {n d : Int} (hd : 0 < d) : low (low n d).1 (low n d).2 = low n d := by
  obtain ⟨g, g0, _, e1, e2, p2, c⟩ := low_split (n := n) hd
  exact low_self p2 c
/-! ### Roots -/
def rtN : Nat → Nat
  | 0 => 0
  | n + 1 => if (rtN n + 1) * (rtN n + 1) ≤ n + 1 then rtN n + 1 else rtN n
theorem rtN_spec : ∀ n, rtN n * rtN n ≤ n ∧ n < (rtN n + 1) * (rtN n + 1)
  | 0 => by decide
  | n + 1 => by
    have ih := rtN_spec n
    unfold rtN
    split
    · refine ⟨by assumption, ?_⟩
      grind
    · omega
def rt (n : Int) : Int := (rtN n.toNat : Int)
theorem rt_spec {n : Int} (h : 0 ≤ n) : 0 ≤ rt n ∧ rt n * rt n ≤ n ∧ n < (rt n + 1) * (rt n + 1) := by
  have := rtN_spec n.toNat
  unfold rt
  refine ⟨by omega, ?_, ?_⟩
  · have h2 : ((rtN n.toNat * rtN n.toNat : Nat) : Int) ≤ (n.toNat : Int) := by exact_mod_cast this.1
    rw [Int.natCast_mul] at h2
    omega
  · have h2 : (n.toNat : Int) < (((rtN n.toNat + 1) * (rtN n.toNat + 1) : Nat) : Int) := by exact_mod_cast this.2
    rw [Int.natCast_mul] at h2
    simp only [Int.natCast_add, Int.cast_ofNat_Int] at h2
    omega
theorem sq_lt {a b : Int} (ha : 0 ≤ a) (hb : 0 ≤ b) : a * a < b * b ↔ a < b := by
  constructor
  · intro h
    rcases Int.lt_or_le a b with h1 | h1
    · exact h1
    · have := Int.mul_le_mul h1 h1 hb ha
      omega
  · intro h
    rcases Int.lt_or_le 0 a with h2 | h2
    · exact Int.mul_lt_mul h (Int.le_of_lt h) h2 hb
    · obtain rfl : a = 0 := by omega
      have := Int.mul_pos h h
      omega
theorem sq_le {a b : Int} (ha : 0 ≤ a) (hb : 0 ≤ b) : a * a ≤ b * b ↔ a ≤ b := by
  have := sq_lt hb ha
  omega
theorem rt_uniq {n r : Int} (h0 : 0 ≤ r) (h1 : r * r ≤ n) (h2 : n < (r + 1) * (r + 1)) : rt n = r := by
  have hn : 0 ≤ n := by have := Int.mul_nonneg h0 h0; omega
  obtain ⟨a, b, c⟩ := rt_spec hn
  have e1 := (sq_lt (a := rt n) (b := r + 1) a (by omega)).1 (by omega)
  have e2 := (sq_lt (a := r) (b := rt n + 1) h0 (by omega)).1 (by omega)
  omega
theorem rt_le {n r : Int} (hn : 0 ≤ n) (h0 : 0 ≤ r) : r ≤ rt n ↔ r * r ≤ n := by
  obtain ⟨a, b, c⟩ := rt_spec hn
  have e1 := sq_le (a := r) (b := rt n) h0 a
  have e2 := sq_lt (a := r) (b := rt n + 1) h0 (by omega)
  omega
theorem rt_mono {n m : Int} (hn : 0 ≤ n) (h : n ≤ m) : rt n ≤ rt m := by
  obtain ⟨a, b, c⟩ := rt_spec hn
  exact (rt_le (by omega) a).2 (by omega)
theorem newton_le {n x : Int} (hn : 0 ≤ n) (hx : 0 < x) : rt n ≤ (x + n / x) / 2 := by
  obtain ⟨a, b, c⟩ := rt_spec hn
  have h1 : 2 * rt n - x ≤ n / x := (Int.le_ediv_iff_mul_le hx).2 (by
    have e : 0 ≤ (rt n - x) * (rt n - x) := by
      rcases Int.le_total 0 (rt n - x) with h | h
      · exact Int.mul_nonneg h h
      · exact Int.mul_nonneg_of_nonpos_of_nonpos h h
    grind)
  omega
theorem newton_end {n x : Int} (hn : 0 ≤ n) (hx : 0 < x) (h : x ≤ (x + n / x) / 2) (hr : rt n ≤ x) : x = rt n := by
  have h1 : x ≤ n / x := by omega
  have h2 := (Int.le_ediv_iff_mul_le hx).1 h1
  have := (rt_le hn (show 0 ≤ x by omega)).2 h2
  omega
/-- The root rounded up. -/
def rtUp (n : Int) : Int := if rt n * rt n < n then rt n + 1 else rt n
theorem rtUp_uniq {n r : Int} (h0 : 0 ≤ n) (hr : 0 ≤ r) (h1 : n ≤ r * r) (h2 : r = 0 ∨ (r - 1) * (r - 1) < n) : rtUp n = r := by
  obtain ⟨a, b, c⟩ := rt_spec h0
  unfold rtUp
  have e1 := sq_lt (a := rt n) (b := r) a hr
  have e2 := sq_le (a := rt n) (b := r) a hr
  rcases h2 with rfl | h2
  · have : n = 0 := by omega
    subst this
    have : rt 0 = 0 := by decide
    rw [this]; decide
  · by_cases h3 : r = 0
    · subst h3
      have : n = 0 := by omega
      subst this
      have : rt 0 = 0 := by decide
      rw [this]; decide
    have e3 := sq_lt (a := r - 1) (b := rt n + 1) (by omega) (by omega)
    split
    · have := e1.1 (by omega); omega
    · have h4 : rt n * rt n = n := by omega
      have := (sq_lt (a := r - 1) (b := rt n) (by omega) a).1 (by omega)
      have := e2.1 (by omega)
      omega
end Go.Proofs.Ytdfcedndkplabaa
