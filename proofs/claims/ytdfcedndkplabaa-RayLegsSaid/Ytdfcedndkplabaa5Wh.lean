/-
  Chapter 5: the law RayLegs (by contract).
  Conditions: none.
-/
import Derived.Test.Ytdfcedndkplabaa5Wg
namespace Go.Proofs.Ytdfcedndkplabaa
open Go.RowKit Fx Wd
/-- The sine square of a leg, and its thickness. -/
def sinA (s : Sky) (F : Int) (l : Int × Int) : Nat → Int × Int
  | 0 => l
  | i + 1 => (sinL s F l.1 l.2).getD i (0, 0)
def thkA (s : Sky) : Nat → Int
  | 0 => s.h
  | i + 1 => (s.sl.getD i (0, 0)).1
/-- What the law asks of one leg. -/
structure LegOK (L sn : Int × Int) (t : Int) : Prop where
  right : FnOK Try.prog 12 [eFrac sn] (B true) []
  cmp : FnOK Try.prog 13 [eFrac sn, eFrac (1, 1)] (I (-1)) []
  rat : ∃ a one ff dv sq : Int × Int, ∃ c1 c2 : Int, FnOK Try.prog 17 [eFrac sn] (eR a) [] ∧ FnOK Try.prog 20 [eR (1, 1), eR a] (eR one) [] ∧ FnOK Try.prog 16 [eR (100 * t, 1), eR (100 * t, 1)] (eR ff) [] ∧ FnOK Try.prog 22 [eR a, eR one] (eR dv) [] ∧ FnOK Try.prog 16 [eR ff, eR dv] (eR sq) [] ∧ FnOK Try.prog 15 [eR (L.1 * L.1, 1), eR sq] (I c1) [] ∧ c1 ≤ 0 ∧ FnOK Try.prog 15 [eR (L.2 * L.2, 1), eR sq] (I c2) [] ∧ 0 ≤ c2
theorem sign_np {x : Int} (h : x ≤ 0) : x.sign ≤ 0 := by
  have := sign_cases x
  omega
theorem sign_nn {x : Int} (h : 0 ≤ x) : 0 ≤ x.sign := by
  have := sign_cases x
  omega
theorem legOK {L sn : Int × Int} {t : Int} (h0 : 0 < sn.2 ∧ Int.gcd sn.1 sn.2 = 1) (h1 : 0 ≤ sn.1 ∧ sn.1 < sn.2 ∧ sn.2 ≤ 900000000) (ht : 1 ≤ t ∧ t ≤ 500) (hL : 0 ≤ L.1 ∧ L.1 ≤ 1500000000 ∧ L.1 ≤ L.2 ∧ L.2 ≤ L.1 + 1)
    (k1 : L.1 * L.1 * (sn.2 * (sn.2 - sn.1)) ≤ 100 * t * (100 * t) * (sn.1 * sn.2)) (k2 : 100 * t * (100 * t) * (sn.1 * sn.2) ≤ L.2 * L.2 * (sn.2 * (sn.2 - sn.1))) : LegOK L sn t := by
  have C1 := cmp_ok (a := sn) (b := (1, 1)) (by dsimp only; omega) (by dsimp only; omega)
  rw [show sgn (sn.1 * (1, 1).2) ((1, 1).1 * sn.2) = -1 by unfold sgn; dsimp only; rw [if_pos (by omega)]] at C1
  refine ⟨right_ok h0 (by omega), C1, ?_⟩
  have qa : Eqv (rtM sn.1 sn.2) sn.1 sn.2 := .of (by omega)
  have wa : Fw 1 (rtM sn.1 sn.2).1 ∧ Fw 1 (rtM sn.1 sn.2).2 := rtM_fw (by omega) (Fw.small (by omega)) (Fw.small (by omega))
  have F := ratioFrom_ok (f := sn) (by omega) (by omega) (by omega)
  generalize rtM sn.1 sn.2 = a at *
  have pa := qa.pos
  have w1 : Fw 1 (1, 1).1 ∧ Fw 1 (1, 1).2 := ⟨Fw.small (by decide), Fw.small (by decide)⟩
  have S := ratioSub_ok (a := (1, 1)) (b := a) (by decide) (by omega) (k := 1) (m := 1) (by omega) w1 wa
  have qo := qa.sub1
  have wo : Fw 3 (rtM ((1, 1).1 * a.2 + -a.1 * (1, 1).2) ((1, 1).2 * a.2)).1 ∧ Fw 3 (rtM ((1, 1).1 * a.2 + -a.1 * (1, 1).2) ((1, 1).2 * a.2)).2 := rtM_fw (by dsimp only; omega) ((((w1.1.mul wa.2).add (wa.1.neg.mul w1.2))).mono (by omega)) ((w1.2.mul wa.2).mono (by omega))
  generalize rtM ((1, 1).1 * a.2 + -a.1 * (1, 1).2) ((1, 1).2 * a.2) = one at *
  have po : 0 < one.1 := by
    have e := qo.eq
    have p : 0 < (sn.2 - sn.1) * one.2 := Int.mul_pos (by omega) qo.pos
    rw [← e] at p
    exact Int.pos_of_mul_pos_left p (by omega)
  have wt : Fw 1 (100 * t, (1 : Int)).1 ∧ Fw 1 (100 * t, (1 : Int)).2 := ⟨Fw.small (by dsimp only; omega), Fw.small (by dsimp only; omega)⟩
  have MF := ratioMul_ok (a := (100 * t, 1)) (b := (100 * t, 1)) (by dsimp only; omega) (by dsimp only; omega) (k := 1) (m := 1) (by omega) wt wt
  have qf := (Eqv.whole (100 * t)).mul (Eqv.whole (100 * t))
  have wf : Fw 2 (rtM ((100 * t, (1 : Int)).1 * (100 * t, (1 : Int)).1) ((100 * t, (1 : Int)).2 * (100 * t, (1 : Int)).2)).1 ∧ Fw 2 (rtM ((100 * t, (1 : Int)).1 * (100 * t, (1 : Int)).1) ((100 * t, (1 : Int)).2 * (100 * t, (1 : Int)).2)).2 := rtM_fw (by dsimp only; omega) ((wt.1.mul wt.1).mono (by omega)) ((wt.2.mul wt.2).mono (by omega))
  generalize rtM ((100 * t, (1 : Int)).1 * (100 * t, (1 : Int)).1) ((100 * t, (1 : Int)).2 * (100 * t, (1 : Int)).2) = ff at *
  have D := ratioDiv_ok (a := a) (b := one) (by omega) (by omega) (k := 1) (m := 3) (by omega) wa wo
  have qd := qa.div qo po (by omega)
  have wd : Fw 4 (rtM (a.1 * one.2) (a.2 * one.1)).1 ∧ Fw 4 (rtM (a.1 * one.2) (a.2 * one.1)).2 := rtM_fw (by have := Int.mul_pos pa po; omega) ((wa.1.mul wo.2).mono (by omega)) ((wa.2.mul wo.1).mono (by omega))
  generalize rtM (a.1 * one.2) (a.2 * one.1) = dv at *
  have pf := qf.pos
  have pd := qd.pos
  have MS := ratioMul_ok (a := ff) (b := dv) (by omega) (by omega) (k := 2) (m := 4) (by omega) wf wd
  have qs := qf.mul qd
  have wS : Fw 6 (rtM (ff.1 * dv.1) (ff.2 * dv.2)).1 ∧ Fw 6 (rtM (ff.1 * dv.1) (ff.2 * dv.2)).2 := rtM_fw (by have := Int.mul_pos pf pd; omega) ((wf.1.mul wd.1).mono (by omega)) ((wf.2.mul wd.2).mono (by omega))
  generalize rtM (ff.1 * dv.1) (ff.2 * dv.2) = sq at *
  have D0 : 0 < 1 * 1 * (sn.2 * (sn.2 - sn.1)) := by
    have := Int.mul_pos h0.1 (show 0 < sn.2 - sn.1 by omega)
    omega
  have wl : Fw 3 (L.1 * L.1, (1 : Int)).1 ∧ Fw 3 (L.1 * L.1, (1 : Int)).2 := ⟨by
    have p := Go.Proofs.Ytdfcedndkplabaa.prod_bd (a := L.1) (b := L.1) (A := 1500000001) (B := 1500000001) (by omega) (by omega)
    exact Fw.int (by dsimp only; omega), (Fw.small (by dsimp only; omega)).mono (by omega)⟩
  have wh : Fw 3 (L.2 * L.2, (1 : Int)).1 ∧ Fw 3 (L.2 * L.2, (1 : Int)).2 := ⟨by
    have p := Go.Proofs.Ytdfcedndkplabaa.prod_bd (a := L.2) (b := L.2) (A := 1500000001) (B := 1500000001) (by omega) (by omega)
    exact Fw.int (by dsimp only; omega), (Fw.small (by dsimp only; omega)).mono (by omega)⟩
  have X1 := ratioCmp_ok (a := (L.1 * L.1, 1)) (b := sq) (k := 3) (m := 6) (by omega) wl wS
  have X2 := ratioCmp_ok (a := (L.2 * L.2, 1)) (b := sq) (k := 3) (m := 6) (by omega) wh wS
  rw [(Eqv.whole (L.1 * L.1)).cmp qs (by omega) D0] at X1
  rw [(Eqv.whole (L.2 * L.2)).cmp qs (by omega) D0] at X2
  rw [Int.one_mul, Int.one_mul, Int.mul_one] at X1 X2
  exact ⟨a, one, ff, dv, sq, _, _, F, S, MF, D, MS, X1, sign_np (by omega), X2, sign_nn (by omega)⟩
theorem leg_at {s : Sky} {f : Int} {l : Int × Int} (v : s.Val) (fv : 1 ≤ f ∧ f ≤ 3000) (lv : LaunchV l.1 l.2) {i : Nat} (hi : i ≤ apexL (f * f) l.1 l.2 s.sl) : LegOK (legAt s (f * f) l.1 l.2 i) (sinA s (f * f) l i) (thkA s i) := by
  have sv := shotV fv lv
  have sF := sq_bd fv
  have ln0 := lv.n0
  have lnd := lv.nd
  have ld1 := lv.d1
  have al := apexL_le (F := f * f) (n := l.1) (d := l.2) s.sl
  have lb := legAt_bd v.fine sv hi
  cases i with
  | zero =>
    have sq := leg_sq (t := s.h) (F := f * f) (n := l.1) (d := l.2) (q := 0) (sn := l.1) (sd := l.2) (by omega) ln0 (left_zero sv) (by rw [Int.sub_zero]; ac_rfl) ln0 lnd
    exact legOK (sn := l) ⟨by omega, lv.g⟩ ⟨ln0, lnd, by omega⟩ ⟨v.h1, v.h2⟩ lb sq.1 sq.2
  | succ i =>
    have hq := v.q i (by omega)
    have hl : 0 < leftE (f * f) l.1 l.2 (s.sl.getD i (0, 0)).2 := apexL_below s.sl i (by omega)
    have ll := left_lt sv hl
    have lb2 := left_bd sv hq
    have vt := v.t i (by omega)
    have dl := low_one' (n := l.1 * (f * f)) ll.1
    have ds := low_size (n := l.1 * (f * f)) ll.1
    have dlt := low_lt (n := l.1 * (f * f)) ll.1 (by unfold leftE at hl; omega)
    have re := low_rep (n := l.1 * (f * f)) ll.1
    have sq := leg_sq (t := (s.sl.getD i (0, 0)).1) (F := f * f) (n := l.1) (d := l.2) (q := (s.sl.getD i (0, 0)).2) (sn := (low (l.1 * (f * f)) (l.2 * (f * f - (s.sl.getD i (0, 0)).2))).1) (sd := (low (l.1 * (f * f)) (l.2 * (f * f - (s.sl.getD i (0, 0)).2))).2) (by omega) ln0 hl re (by omega) dlt
    have e : sinA s (f * f) l (i + 1) = low (l.1 * (f * f)) (l.2 * (f * f - (s.sl.getD i (0, 0)).2)) := sinL_at (by omega)
    have d2 := ds.2.1 lb2.2.1
    have d1 := ds.1
    rw [e]
    exact legOK dl ⟨d2.1, dlt, by omega⟩ vt lb sq.1 sq.2
/-! ### Without plasma below -/
def frB (s : Sky) : Nat → Bool
  | 0 => true
  | k + 1 => frB s k && decide ((s.sl.getD k (0, 0)).2 = 0)
theorem frB_lt {s : Sky} : ∀ {k : Nat}, frB s k = true → ∀ j, j < k → (s.sl.getD j (0, 0)).2 = 0
  | k + 1, h, j, hj => by
    have h' : (frB s k && decide ((s.sl.getD k (0, 0)).2 = 0)) = true := h
    rw [Bool.and_eq_true] at h'
    by_cases e : j = k
    · subst e; exact of_decide_eq_true h'.2
    · exact frB_lt h'.1 j (by omega)
theorem leg_free {F n d t : Int} (hF : 0 < F) (hn : 0 ≤ n) (hd : n < d) : (legE t F n d 0).1 * (legE t F n d 0).1 * (d - n) ≤ 100 * t * (100 * t) * n ∧ 100 * t * (100 * t) * n ≤ (legE t F n d 0).2 * (legE t F n d 0).2 * (d - n) := by
  have hl : leftE F n d 0 = (d - n) * F := by unfold leftE; rw [Int.sub_zero, Int.sub_mul]
  have p : 0 < leftE F n d 0 := by rw [hl]; exact Int.mul_pos (by omega) hF
  have nn : 0 ≤ legNum t F n := by
    unfold legNum
    have : 0 ≤ 100 * t * (100 * t) := by
      rcases Int.le_total 0 (100 * t) with k | k
      · exact Int.mul_nonneg k k
      · exact Int.mul_nonneg_of_nonpos_of_nonpos k k
    exact Int.mul_nonneg (Int.mul_nonneg this hn) (by omega)
  have a := rootLo_sq nn p
  have b := rootHi_sq nn p
  unfold legE
  dsimp only
  generalize rootLo (legNum t F n) (leftE F n d 0) = lo at *
  generalize rootHi (legNum t F n) (leftE F n d 0) = hi at *
  rw [hl, ← Int.mul_assoc] at a b
  unfold legNum at a b
  exact ⟨Int.le_of_mul_le_mul_right a hF, Int.le_of_mul_le_mul_right b hF⟩
theorem sum_free {s : Sky} {F n d : Int} (v : s.Fine) (sv : ShotV F n d) (hF : 0 < F) (hn : 0 ≤ n) (hd : n < d) : ∀ k, k ≤ apexL F n d s.sl → frB s k = true →
    (upTo s F n d (k + 1)).1 * (upTo s F n d (k + 1)).1 * (d - n) ≤ 100 * bordK s k * (100 * bordK s k) * n ∧ 100 * bordK s k * (100 * bordK s k) * n ≤ (upTo s F n d (k + 1)).2 * (upTo s F n d (k + 1)).2 * (d - n)
  | 0, _, _ => by
    have := leg_free (t := s.h) hF hn hd
    have e : upTo s F n d (0 + 1) = legE s.h F n d 0 := by
      show (0 + _, 0 + _) = _
      rw [Int.zero_add, Int.zero_add]
      rfl
    rw [e]
    exact this
  | k + 1, hk, hb => by
    have hb' : (frB s k && decide ((s.sl.getD k (0, 0)).2 = 0)) = true := hb
    rw [Bool.and_eq_true] at hb'
    have ih := sum_free v sv hF hn hd k (by omega) hb'.1
    have q0 : (s.sl.getD k (0, 0)).2 = 0 := of_decide_eq_true hb'.2
    have lf := leg_free (t := (s.sl.getD k (0, 0)).1) hF hn hd
    have al := apexL_le (F := F) (n := n) (d := d) s.sl
    have bk := bord_bd v k (by omega)
    have vt := v.t k (by omega)
    have ub := upTo_bd v sv (k + 1) (by omega)
    have lb := legAt_bd v sv (k := k + 1) hk
    have e0 : legAt s F n d (k + 1) = legE (s.sl.getD k (0, 0)).1 F n d 0 := by
      show legE _ _ _ _ _ = _
      rw [q0]
    rw [← e0] at lf
    have e1 : (upTo s F n d (k + 1 + 1)).1 = (upTo s F n d (k + 1)).1 + (legAt s F n d (k + 1)).1 := rfl
    have e2 : (upTo s F n d (k + 1 + 1)).2 = (upTo s F n d (k + 1)).2 + (legAt s F n d (k + 1)).2 := rfl
    have e3 : 100 * bordK s (k + 1) = 100 * bordK s k + 100 * (s.sl.getD k (0, 0)).1 := by rw [bord_step, Int.mul_add]
    rw [e1, e2, e3]
    exact ⟨add_le (by omega) (by omega) (by omega) ih.1 lf.1, add_le (by omega) (by omega) (by omega) ih.2 lf.2⟩
/-- The mirror height encloses that of the apex. -/
theorem mirror_in {s : Sky} {F n d : Int} (v : s.Fine) (sv : ShotV F n d) (hF : 0 < F) (hn : 0 < n) (hd : n < d) (hm : mirE s F n d = 0) : 0 ≤ (mirR s F n d).1 ∧ (mirR s F n d).1 ≤ (mirR s F n d).2 ∧ (frB s (apexL F n d s.sl) = true → (mirR s F n d).1 ≤ 100 * bordK s (apexL F n d s.sl) ∧ 100 * bordK s (apexL F n d s.sl) ≤ (mirR s F n d).2) := by
  have ub := upTo_bd v sv (apexL F n d s.sl + 1) (Nat.le_refl _)
  have sf := sum_free v sv hF (by omega) hd (apexL F n d s.sl) (Nat.le_refl _)
  have bk := bord_bd v (apexL F n d s.sl) (apexL_le s.sl)
  unfold mirR
  rw [if_neg (by omega)]
  dsimp only
  generalize upTo s F n d (apexL F n d s.sl + 1) = S at *
  generalize bordK s (apexL F n d s.sl) = Hh at *
  have n1 : 0 ≤ S.1 * S.1 * (d - n) := Int.mul_nonneg (Int.mul_nonneg ub.1 ub.1) (by omega)
  have n2 : 0 ≤ S.2 * S.2 * (d - n) := Int.mul_nonneg (Int.mul_nonneg (by omega) (by omega)) (by omega)
  have a := rootLo_sq n1 hn
  have b := rootHi_sq n2 hn
  have lo0 : 0 ≤ rootLo (S.1 * S.1 * (d - n)) n := (rt_spec (Int.ediv_nonneg n1 (by omega))).1
  have hi0 : 0 ≤ rootHi (S.2 * S.2 * (d - n)) n := by
    have := (rt_spec (Int.ediv_nonneg n2 (show 0 ≤ n by omega))).1
    have := rootHi_bd (num := S.2 * S.2 * (d - n)) (den := n)
    unfold rootLo at this
    omega
  have m : S.1 * S.1 * (d - n) ≤ S.2 * S.2 * (d - n) := Int.mul_le_mul_of_nonneg_right (Int.mul_le_mul ub.2.2.1 ub.2.2.1 ub.1 (by omega)) (by omega)
  generalize rootLo (S.1 * S.1 * (d - n)) n = lo at *
  generalize rootHi (S.2 * S.2 * (d - n)) n = hi at *
  refine ⟨lo0, sq_root_le lo0 hi0 (Int.le_of_mul_le_mul_right (Int.le_trans a (Int.le_trans m b)) hn), fun fb => ?_⟩
  obtain ⟨f1, f2⟩ := sf fb
  exact ⟨sq_root_le lo0 (by omega) (Int.le_of_mul_le_mul_right (Int.le_trans a f1) hn), sq_root_le (by omega) hi0 (Int.le_of_mul_le_mul_right (Int.le_trans f2 b) hn)⟩
end Go.Proofs.Ytdfcedndkplabaa
