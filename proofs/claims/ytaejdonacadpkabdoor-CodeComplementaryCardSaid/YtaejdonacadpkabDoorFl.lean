/-
  Whole numbers in doubles: sums, differences and products of whole numbers below 2^53 in size are exact.
  Conditions: none.
-/
import Derived.Laws.ComplexArith
namespace Go.Proofs.YtaejdonacadpkabDoor.Fx
open Go.RowKit

def fs (s : Bool) (a : Nat) : Int := if s then -(a : Int) else a
/-- A word of a double that stands for a whole number. -/
def Rep (x : Nat) (n : Int) : Prop := ∃ (s : Bool) (a k : Nat), Ieee.double.read x = .number s (a <<< k) (-(k : Int)) ∧ n = fs s a
def two53 : Nat := 9007199254740992
theorem log_lt {a L : Nat} (h0 : 0 < a) (h : a < 2 ^ L) : a.log2 < L := (Nat.log2_lt (by omega)).2 h
theorem shl (a k : Nat) : a <<< k = a * 2 ^ k := Nat.shiftLeft_eq a k
theorem log_shl {a : Nat} (h0 : 0 < a) (k : Nat) : (a <<< k).log2 = a.log2 + k := by
  rw [shl]
  have h1 := Nat.log2_self_le (n := a) (by omega)
  have h2 := Nat.lt_log2_self (n := a)
  have hp : 0 < 2 ^ k := Nat.pow_pos (by decide)
  have hne : a * 2 ^ k ≠ 0 := Nat.mul_ne_zero (by omega) (by omega)
  apply Nat.le_antisymm
  · have : (a * 2 ^ k).log2 < a.log2 + k + 1 := (Nat.log2_lt hne).2 (by
      rw [show a.log2 + k + 1 = (a.log2 + 1) + k by omega, Nat.pow_add]
      exact Nat.mul_lt_mul_of_pos_right h2 hp)
    omega
  · exact (Nat.le_log2 hne).2 (by rw [Nat.pow_add]; exact Nat.mul_le_mul_right _ h1)
/-- What is cut from a number with enough zeros behind. -/
theorem cut_shl (way : Ieee.Toward) (s : Bool) (b d : Nat) (h0 : way = .even ∨ way = .zero) : way.cut s (b <<< d) d = b := by
  rcases Nat.eq_zero_or_pos b with rfl | hb
  rotate_left
  · have hg : min d ((b <<< d).log2 + 2) = d := by rw [log_shl hb]; omega
    unfold Ieee.Toward.cut
    simp only [hg]
    have hp : 0 < 2 ^ d := Nat.pow_pos (by decide)
    have e1 : (1 <<< d) = 2 ^ d := by rw [shl]; simp
    rw [e1, shl, Nat.mul_div_cancel _ hp, Nat.mul_mod_left]
    rcases h0 with rfl | rfl <;> simp <;> omega
  · unfold Ieee.Toward.cut
    have e : 0 <<< d = 0 := by simp
    rw [e]
    have hp : 0 < 1 <<< min d (Nat.log2 0 + 2) := by rw [shl]; exact Nat.mul_pos (by decide) (Nat.pow_pos (by decide))
    rcases h0 with rfl | rfl
    · simp only [Nat.zero_div, Nat.zero_mod]
      have : ¬ (1 <<< min d (Nat.log2 0 + 2) < 2 * 0) := by omega
      have : ¬ (1 <<< min d (Nat.log2 0 + 2) = 2 * 0) := by omega
      simp
    · simp
theorem shl_shl (a i j : Nat) : a <<< i <<< j = a <<< (i + j) := by rw [shl, shl, shl, Nat.pow_add, Nat.mul_assoc]
theorem nearest_shl (s : Bool) (a k : Nat) (h0 : 0 < a) (h : a < two53) : Ieee.double.nearest s (a <<< k) (-(k : Int)) = Ieee.double.word s ((1022 + a.log2) * 4503599627370496 + a <<< (52 - a.log2)) := by
  have hL : a.log2 < 53 := log_lt h0 (by simpa [two53] using h)
  have hne : a <<< k ≠ 0 := by rw [shl]; exact Nat.mul_ne_zero (by omega) (Nat.ne_of_gt (Nat.pow_pos (by decide)))
  unfold Ieee.Format.nearest
  rw [if_neg hne, log_shl h0]
  have elast : max (-(k : Int) + ((a.log2 + k : Nat) : Int) - ((Ieee.double.fractionBits : Nat) : Int)) Ieee.double.leastPlace = (a.log2 : Int) - 52 := by
    have e1 : Ieee.double.leastPlace = -1074 := by decide
    have e2 : ((Ieee.double.fractionBits : Nat) : Int) = 52 := rfl
    rw [e1, e2]; omega
  simp only [elast]
  have e1 : Ieee.double.leastPlace = -1074 := by decide
  have e3 : Ieee.double.binade = 4503599627370496 := by decide
  have e4 : Ieee.double.infRung = 2047 * 4503599627370496 := by decide
  rw [e1, e3, e4]
  have kept : Ieee.Toward.even.cut s ((a <<< k) <<< (-(k : Int) - ((a.log2 : Int) - 52)).toNat) ((a.log2 : Int) - 52 - -(k : Int)).toNat = a <<< (52 - a.log2) := by
    by_cases hk : k ≤ 52 - a.log2
    · rw [show ((a.log2 : Int) - 52 - -(k : Int)).toNat = 0 by omega, show (-(k : Int) - ((a.log2 : Int) - 52)).toNat = 52 - a.log2 - k by omega, shl_shl, show k + (52 - a.log2 - k) = 52 - a.log2 by omega]
      exact cut_shl .even s (a <<< (52 - a.log2)) 0 (.inl rfl)
    · rw [show ((a.log2 : Int) - 52 - -(k : Int)).toNat = k - (52 - a.log2) by omega, show (-(k : Int) - ((a.log2 : Int) - 52)).toNat = 0 by omega]
      have := cut_shl .even s (a <<< (52 - a.log2)) (k - (52 - a.log2)) (.inl rfl)
      rw [shl_shl, show 52 - a.log2 + (k - (52 - a.log2)) = k by omega] at this
      simpa using this
  rw [kept]
  congr 1
  have hup : a <<< (52 - a.log2) < 9007199254740992 := by
    rw [shl]
    have h2 := Nat.lt_log2_self (n := a)
    calc a * 2 ^ (52 - a.log2) < 2 ^ (a.log2 + 1) * 2 ^ (52 - a.log2) := Nat.mul_lt_mul_of_pos_right h2 (Nat.pow_pos (by decide))
      _ = 2 ^ 53 := by rw [← Nat.pow_add]; congr 1; omega
      _ = 9007199254740992 := by decide
  rw [show ((a.log2 : Int) - 52 - -1074).toNat = 1022 + a.log2 by omega]
  generalize a <<< (52 - a.log2) = b at hup
  rw [Nat.min_eq_left (by omega)]
theorem read_word (s : Bool) (r : Nat) (hr : r < 9223372036854775808) : Ieee.double.word s r / Ieee.double.signWeight % 2 = (if s then 1 else 0) ∧ Ieee.double.word s r % Ieee.double.signWeight = r := by
  have e : Ieee.double.signWeight = 9223372036854775808 := by decide
  unfold Ieee.Format.word
  rw [e]
  cases s
  · simp only [Bool.false_eq_true, if_false]
    omega
  · simp only [if_true]
    omega
theorem read_nearest (s : Bool) (a k : Nat) (h0 : 0 < a) (h : a < two53) : Ieee.double.read (Ieee.double.nearest s (a <<< k) (-(k : Int))) = .number s (a <<< (52 - a.log2)) (-((52 - a.log2 : Nat) : Int)) := by
  have hL : a.log2 < 53 := log_lt h0 (by simpa [two53] using h)
  rw [nearest_shl s a k h0 h]
  have hup : a <<< (52 - a.log2) < 9007199254740992 := by
    rw [shl]
    have h2 := Nat.lt_log2_self (n := a)
    calc a * 2 ^ (52 - a.log2) < 2 ^ (a.log2 + 1) * 2 ^ (52 - a.log2) := Nat.mul_lt_mul_of_pos_right h2 (Nat.pow_pos (by decide))
      _ = 2 ^ 53 := by rw [← Nat.pow_add]; congr 1; omega
      _ = 9007199254740992 := by decide
  have hlo : 4503599627370496 ≤ a <<< (52 - a.log2) := by
    rw [shl]
    have h1 := Nat.log2_self_le (n := a) (by omega)
    calc 4503599627370496 = 2 ^ 52 := by decide
      _ = 2 ^ a.log2 * 2 ^ (52 - a.log2) := by rw [← Nat.pow_add]; congr 1; omega
      _ ≤ a * 2 ^ (52 - a.log2) := Nat.mul_le_mul_right _ h1
  generalize a <<< (52 - a.log2) = b at hup hlo
  generalize a.log2 = L at hL
  obtain ⟨w1, w2⟩ := read_word s ((1022 + L) * 4503599627370496 + b) (by omega)
  unfold Ieee.Format.read
  rw [w1, w2]
  have e1 : Ieee.double.leastPlace = -1074 := by decide
  have e3 : Ieee.double.binade = 4503599627370496 := by decide
  have e4 : Ieee.double.infRung = 2047 * 4503599627370496 := by decide
  rw [e1, e3, e4, if_neg (by omega), if_pos (by omega)]
  have d1 : ((1022 + L) * 4503599627370496 + b) % 4503599627370496 = b - 4503599627370496 := by omega
  have d2 : ((1022 + L) * 4503599627370496 + b) / 4503599627370496 = 1023 + L := by omega
  rw [d1, d2, Ieee.Datum.number.injEq]
  refine ⟨?_, ?_, ?_⟩
  · cases s <;> rfl
  · omega
  · omega
theorem read_zero (s : Bool) : Ieee.double.read (Ieee.double.word s 0) = .number s (0 <<< 1074) (-((1074 : Nat) : Int)) := by
  cases s <;> decide +kernel
theorem rep_nearest (s : Bool) (a k : Nat) (h : a < two53) : Rep (Ieee.double.nearest s (a <<< k) (-(k : Int))) (fs s a) := by
  by_cases h0 : 0 < a
  · exact ⟨s, a, _, read_nearest s a k h0 h, rfl⟩
  · obtain rfl : a = 0 := by omega
    unfold Ieee.Format.nearest
    rw [if_pos (by simp)]
    exact ⟨s, 0, 1074, read_zero s, rfl⟩
/-- The word of a whole number. -/
def fl (n : Int) : Nat := FloatKind.f64.nearest n
theorem rep_fl {n : Int} (h1 : -9007199254740992 < n) (h2 : n < 9007199254740992) : Rep (fl n) n := by
  have := rep_nearest (decide (n < 0)) n.natAbs 0 (by unfold two53; omega)
  have e : fs (decide (n < 0)) n.natAbs = n := by
    unfold fs
    by_cases h : n < 0 <;> simp [h] <;> omega
  rw [e] at this
  simpa [fl, FloatKind.nearest, FloatKind.encode, FloatKind.format, Ieee.Format.write] using this
theorem signed_shl (s : Bool) (a i j : Nat) : Ieee.signed s (a <<< i) j = fs s a * 2 ^ (i + j) := by
  unfold Ieee.signed fs
  rw [shl_shl, shl]
  cases s <;> simp [Int.neg_mul]
theorem natAbs_mul_pow (n : Int) (k : Nat) : (n * 2 ^ k).natAbs = n.natAbs <<< k := by
  rw [shl, Int.natAbs_mul, Int.natAbs_pow]; rfl
theorem write_int {s : Bool} {n : Int} {k : Nat} (hs : n ≠ 0 → s = decide (n < 0)) (h : n.natAbs < two53) : Rep (Ieee.double.write (.number s (n.natAbs <<< k) (-(k : Int)))) n := by
  have := rep_nearest s n.natAbs k h
  have e : fs s n.natAbs = n := by
    unfold fs
    by_cases h0 : n = 0
    · subst h0; simp
    · rw [hs h0]
      by_cases h : n < 0 <;> simp [h] <;> omega
  rw [e] at this
  exact this
theorem sum_rep {s t : Bool} {a b i j : Nat} : ∃ z k : Nat, ∃ u : Bool, (Ieee.Datum.number s (a <<< i) (-(i : Int))).sum (.number t (b <<< j) (-(j : Int))) = some (.number u (z <<< k) (-(k : Int))) ∧ z = (fs s a + fs t b).natAbs ∧ (fs s a + fs t b ≠ 0 → u = decide (fs s a + fs t b < 0)) := by
  have eb : min (-(i : Int)) (-(j : Int)) = -((max i j : Nat) : Int) := by omega
  refine ⟨_, max i j, (if (fs s a + fs t b) * 2 ^ (max i j) = 0 then s && t else decide ((fs s a + fs t b) * 2 ^ (max i j) < 0)), ?_, rfl, fun h => ?_⟩
  · simp only [Ieee.Datum.sum, eb]
    rw [show (-(i : Int) - -((max i j : Nat) : Int)).toNat = max i j - i by omega, show (-(j : Int) - -((max i j : Nat) : Int)).toNat = max i j - j by omega]
    rw [signed_shl, signed_shl, show i + (max i j - i) = max i j by omega, show j + (max i j - j) = max i j by omega, ← Int.add_mul, natAbs_mul_pow]
  · have hp : (0 : Int) < 2 ^ (max i j) := Int.pow_pos (by decide)
    rw [if_neg (Int.mul_ne_zero h (by omega))]
    by_cases hn : fs s a + fs t b < 0
    · have := Int.mul_neg_of_neg_of_pos hn hp
      simp [hn, this]
    · have := Int.mul_nonneg (Int.not_lt.1 hn) (Int.le_of_lt hp)
      simp [hn, Int.not_lt.2 this]
theorem rep_add {x y : Nat} {n m : Int} (hx : Rep x n) (hy : Rep y m) (h1 : -9007199254740992 < n + m) (h2 : n + m < 9007199254740992) : ∃ z, Ieee.double.add x y = some z ∧ Rep z (n + m) := by
  obtain ⟨s, a, i, e1, rfl⟩ := hx
  obtain ⟨t, b, j, e2, rfl⟩ := hy
  obtain ⟨z, k, u, e3, hz, hu⟩ := sum_rep (s := s) (t := t) (a := a) (b := b) (i := i) (j := j)
  refine ⟨Ieee.double.write (.number u (z <<< k) (-(k : Int))), ?_, ?_⟩
  · unfold Ieee.Format.add; rw [e1, e2, e3]; rfl
  · rw [hz]; exact write_int hu (by unfold two53; omega)
theorem rep_sub {x y : Nat} {n m : Int} (hx : Rep x n) (hy : Rep y m) (h1 : -9007199254740992 < n - m) (h2 : n - m < 9007199254740992) : ∃ z, Ieee.double.sub x y = some z ∧ Rep z (n - m) := by
  obtain ⟨s, a, i, e1, rfl⟩ := hx
  obtain ⟨t, b, j, e2, rfl⟩ := hy
  obtain ⟨z, k, u, e3, hz, hu⟩ := sum_rep (s := s) (t := !t) (a := a) (b := b) (i := i) (j := j)
  have e : fs (!t) b = - fs t b := by cases t <;> simp [fs]
  rw [e, ← Int.sub_eq_add_neg] at hz hu
  refine ⟨Ieee.double.write (.number u (z <<< k) (-(k : Int))), ?_, ?_⟩
  · unfold Ieee.Format.sub; rw [e1, e2]; simp only [Ieee.Datum.opposite]; rw [e3]; rfl
  · rw [hz]; exact write_int hu (by unfold two53; omega)
theorem rep_mul {x y : Nat} {n m : Int} (hx : Rep x n) (hy : Rep y m) (h1 : -9007199254740992 < n * m) (h2 : n * m < 9007199254740992) : ∃ z, Ieee.double.mul x y = some z ∧ Rep z (n * m) := by
  obtain ⟨s, a, i, e1, rfl⟩ := hx
  obtain ⟨t, b, j, e2, rfl⟩ := hy
  have hm : (a <<< i) * (b <<< j) = (a * b) <<< (i + j) := by
    rw [shl, shl, shl, Nat.pow_add]
    rw [Nat.mul_assoc, Nat.mul_assoc, Nat.mul_left_comm (2 ^ i)]
  have en : (fs s a * fs t b) = fs (s ^^ t) (a * b) := by
    unfold fs
    cases s <;> cases t <;> simp [Int.neg_mul, Int.mul_neg]
  have hlt : a * b < two53 := by
    rw [en] at h1 h2
    unfold fs at h1 h2; unfold two53
    generalize a * b = q at *
    cases hst : (s ^^ t) <;> rw [hst] at h1 h2 <;> simp at h1 h2 <;> omega
  refine ⟨Ieee.double.write (.number (s ^^ t) ((a * b) <<< (i + j)) (-((i + j : Nat) : Int))), ?_, ?_⟩
  · unfold Ieee.Format.mul; rw [e1, e2]
    simp only [Ieee.Datum.product, hm, Option.map_some]
    congr 3; omega
  · rw [en]; exact rep_nearest _ _ _ hlt
theorem rep_int {x : Nat} {n : Int} (h : Rep x n) (h1 : -9223372036854775808 ≤ n) (h2 : n ≤ 9223372036854775807) : floatToIntVal .f64 x .i64 = some n := by
  obtain ⟨s, a, k, e, rfl⟩ := h
  unfold floatToIntVal
  have e1 : FloatKind.f64.decode x = .number s (a <<< k) (-(k : Int)) := e
  rw [e1]
  have e2 : (Ieee.Datum.number s (a <<< k) (-(k : Int))).toInt .zero = some (fs s a) := by
    simp only [Ieee.Datum.toInt, Ieee.Datum.integral]
    rw [show (-(k : Int)).toNat = 0 by omega, show (- -(k : Int)).toNat = k by omega]
    have := cut_shl .zero s a k (.inr rfl)
    simp only [Nat.shiftLeft_zero]
    rw [this]
    simp [Ieee.signed, fs]
  rw [e2]
  have e3 : IntKind.i64.min = -9223372036854775808 := by decide
  have e4 : IntKind.i64.max = 9223372036854775807 := by decide
  have : IntKind.i64.min ≤ fs s a ∧ fs s a ≤ IntKind.i64.max := by rw [e3, e4]; exact ⟨h1, h2⟩
  show (if _ then _ else _) = _
  rw [if_pos this]
/-! ### The operations as functions -/
def fadd (x y : Nat) : Nat := (Ieee.double.add x y).getD 0
def fsub (x y : Nat) : Nat := (Ieee.double.sub x y).getD 0
def fmul (x y : Nat) : Nat := (Ieee.double.mul x y).getD 0
section
variable {x y : Nat} {n m : Int}
theorem add_ok (hx : Rep x n) (hy : Rep y m) (h1 : -9007199254740992 < n + m) (h2 : n + m < 9007199254740992) : floatBits .add .f64 x y = some (fadd x y) ∧ Rep (fadd x y) (n + m) := by
  obtain ⟨z, e, r⟩ := rep_add hx hy h1 h2
  unfold fadd; rw [e]; exact ⟨e, r⟩
theorem sub_ok (hx : Rep x n) (hy : Rep y m) (h1 : -9007199254740992 < n - m) (h2 : n - m < 9007199254740992) : floatBits .sub .f64 x y = some (fsub x y) ∧ Rep (fsub x y) (n - m) := by
  obtain ⟨z, e, r⟩ := rep_sub hx hy h1 h2
  unfold fsub; rw [e]; exact ⟨e, r⟩
theorem mul_ok (hx : Rep x n) (hy : Rep y m) (h1 : -9007199254740992 < n * m) (h2 : n * m < 9007199254740992) : floatBits .mul .f64 x y = some (fmul x y) ∧ Rep (fmul x y) (n * m) := by
  obtain ⟨z, e, r⟩ := rep_mul hx hy h1 h2
  unfold fmul; rw [e]; exact ⟨e, r⟩
end
attribute [irreducible] fadd fsub fmul
end Go.Proofs.YtaejdonacadpkabDoor.Fx
