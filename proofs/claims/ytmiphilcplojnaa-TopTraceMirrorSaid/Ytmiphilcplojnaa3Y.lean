/-
  Chapter 3, in plain words: the cheapest trace fits, has its cost, and no trace that fits is cheaper; no accepted bound is greater; harder rules make nothing cheaper.
  Conditions: none.
-/
import Derived.Test.Ytmiphilcplojnaa3X
namespace Go.Proofs.Ytmiphilcplojnaa
open Go.RowKit Fx
/-! ### The cheapest trace fits, and has its cost -/
theorem ch_perm {g : Gram} {r : Rules} (hv : g.Val) (rv : r.Val g) (i : Nat) : dist (ch g r i) (ch g r (i + 1)) ≤ r.limit := (ch_spec hv rv (i + 1)).2.p
theorem best_fit {g : Gram} {r : Rules} (hv : g.Val) (rv : r.Val g) : fitsB r (bestP g r) = true := by
  refine fits_t rfl bestP_len fun i hi => ?_
  rw [bestP_len] at hi
  refine ⟨by rw [bestP_at hi]; omega, fun h0 => ?_⟩
  rw [bestP_at hi, bestP_at (by omega), dist_sym]
  have := ch_perm hv rv (i - 1)
  rwa [show i - 1 + 1 = i by omega] at this
theorem path_val' {g : Gram} {r : Rules} (hv : g.Val) (rv : r.Val g) : (bestP g r).Val g := by
  have h1 := rv.fr
  have h2 := rv.le
  have h3 := rv.to
  have en : (nC r : Int) = r.to - r.fr + 1 := by unfold nC; omega
  have e : (bestP g r).fr = r.fr := rfl
  refine ⟨by omega, by rw [bestP_len]; omega, by rw [bestP_len]; omega, fun i hi => ?_⟩
  rw [bestP_len] at hi
  rw [bestP_at hi]
  have := ch_lt hv rv i
  omega
theorem pathE_val {g : Gram} {p : Path} (h : p.Val g) : pathE g p = 0 := by
  have h1 := h.fr
  have h2 := h.n0
  have h3 := h.n1
  unfold pathE checkPath
  rw [if_neg (by omega), if_neg (by omega), if_neg (by omega)]
  have : ∀ (l : List Int) (s : Nat), (∀ i, i < l.length → rowE (rowsN g) (l.getD i 0) = 0) → (findErr (rowE (rowsN g)) l s).2 = 0 := by
    intro l
    induction l with
    | nil => intro s _; rfl
    | cons x l ih =>
      intro s hl
      have hx : rowE (rowsN g) x = 0 := by simpa using hl 0 (by simp)
      simp only [findErr, hx]
      exact ih (s + 1) fun i hi => by simpa using hl (i + 1) (by simpa using hi)
  exact this _ 0 fun i hi => by
    have := h.rows i hi
    unfold rowE
    rw [if_neg (by omega)]
theorem av_price {g : Gram} {r : Rules} (_hv : g.Val) (rv : r.Val g) {k : Nat} (hk : k < nC r) (w : Nat) : avD g r (nC r - 1 - k) w = price g r (r.fr + k).toNat w + if k + 1 < nC r then bestOf g r (nC r - 1 - (k + 1)) w else 0 := by
  have h1 := rv.fr
  have h2 := rv.le
  have en : (nC r : Int) = r.to - r.fr + 1 := by unfold nC; omega
  by_cases h : k + 1 < nC r
  · rw [if_pos h, show nC r - 1 - k = (nC r - 1 - (k + 1)) + 1 by omega, avD_succ, show r.to.toNat - (nC r - 1 - (k + 1) + 1) = (r.fr + (k : Int)).toNat by omega]
  · rw [if_neg h, show nC r - 1 - k = 0 by omega, show (r.fr + (k : Int)).toNat = r.to.toNat by omega]
    simp [avD]
theorem best_cost {g : Gram} {r : Rules} (hv : g.Val) (rv : r.Val g) : ∀ k, k < nC r → costK g r (bestP g r) (k + 1) + (if k + 1 < nC r then bestOf g r (nC r - 1 - (k + 1)) (ch g r k) else 0) = leastC g r
  | 0, h => by
    have e := av_price hv rv h (ch g r 0)
    have ef : (bestP g r).fr = r.fr := rfl
    simp only [costK, partC, bestP_at h, ef]
    unfold leastC
    rw [show nC r - 1 = nC r - 1 - 0 by omega, e]
    simp
  | k + 1, h => by
    have ih := best_cost hv rv k (by omega)
    rw [if_pos h] at ih
    have e := av_price hv rv h (ch g r (k + 1))
    have b := ch_best hv rv k
    unfold wayF at b
    have ef : (bestP g r).fr = r.fr := rfl
    have es : stepC r (ch g r k) (ch g r (k + 1)) = r.jump * dist (ch g r (k + 1)) (ch g r k) := rfl
    have ec : costK g r (bestP g r) (k + 1 + 1) = costK g r (bestP g r) (k + 1) + partC g r (bestP g r) (k + 1) := rfl
    rw [ec]
    unfold partC
    rw [bestP_at h, Nat.add_sub_cancel, bestP_at (by omega : k < nC r), ef, if_pos (by omega : 0 < k + 1)]
    rw [show ((ch g r (k + 1) : Int)).toNat = ch g r (k + 1) by omega]
    omega
theorem best_costK {g : Gram} {r : Rules} (hv : g.Val) (rv : r.Val g) : costK g r (bestP g r) (bestP g r).rows.length = leastC g r := by
  have h1 := rv.le
  have en : (nC r : Int) = r.to - r.fr + 1 := by unfold nC; omega
  have := best_cost hv rv (nC r - 1) (by omega)
  rw [if_neg (by omega)] at this
  rw [bestP_len, ← this, show nC r - 1 + 1 = nC r by omega]
  omega
/-! ### No trace that fits is cheaper -/
theorem least_le {g : Gram} {r : Rules} (hv : g.Val) (rv : r.Val g) {w : Nat} (hw : w < rowsN g) : leastC g r ≤ avD g r (nC r - 1) w := (ch_spec hv rv 0).2.least w hw trivial
theorem no_cheaper {g : Gram} {r : Rules} {p : Path} (hv : g.Val) (rv : r.Val g) (pf : p.Fit g r) : ∀ k, k < nC r → leastC g r ≤ costK g r p (k + 1) + (if k + 1 < nC r then bestOf g r (nC r - 1 - (k + 1)) (p.rows.getD k 0).toNat else 0)
  | 0, h => by
    have hr := pf.v.rows 0 pf.v.n0
    have hg := (pf.good 0 pf.v.n0).1
    have l := least_le hv rv (w := (p.rows.getD 0 0).toNat) (by omega)
    have e := av_price hv rv h (p.rows.getD 0 0).toNat
    have ef := pf.fr
    simp only [costK, partC, ef]
    rw [show nC r - 1 = nC r - 1 - 0 by omega, e] at l
    simp only [Nat.lt_irrefl, if_false]
    omega
  | k + 1, h => by
    have pn := pf.n
    have ih := no_cheaper hv rv pf k (by omega)
    rw [if_pos h] at ih
    have r0 := pf.v.rows k (by omega)
    have r1 := pf.v.rows (k + 1) (by omega)
    have g0 := (pf.good k (by omega)).1
    have g1 := pf.good (k + 1) (by omega)
    have g2 := g1.2 (by omega)
    have g1 := g1.1
    rw [Nat.add_sub_cancel] at g2
    have e := av_price hv rv h (p.rows.getD (k + 1) 0).toNat
    have c0 : (((p.rows.getD k 0).toNat : Nat) : Int) = p.rows.getD k 0 := by omega
    have c1 : (((p.rows.getD (k + 1) 0).toNat : Nat) : Int) = p.rows.getD (k + 1) 0 := by omega
    have b := best_le (g := g) rv (d := nC r - 1 - (k + 1)) (w := (p.rows.getD k 0).toNat) (s := (p.rows.getD (k + 1) 0).toNat) (by omega) (by omega) (by rw [c0, c1, dist_sym]; exact g2)
    have es : stepC r (p.rows.getD k 0).toNat (p.rows.getD (k + 1) 0).toNat = r.jump * dist (p.rows.getD (k + 1) 0) (p.rows.getD k 0) := by unfold stepC; rw [c0, c1]
    have ec : costK g r p (k + 1 + 1) = costK g r p (k + 1) + partC g r p (k + 1) := rfl
    have ef := pf.fr
    rw [ec]
    unfold partC
    rw [Nat.add_sub_cancel, ef, if_pos (by omega : 0 < k + 1)]
    omega
theorem no_cheaperK {g : Gram} {r : Rules} {p : Path} (hv : g.Val) (rv : r.Val g) (pf : p.Fit g r) : leastC g r ≤ costK g r p p.rows.length := by
  have h1 := rv.le
  have pn := pf.n
  have en : (nC r : Int) = r.to - r.fr + 1 := by unfold nC; omega
  have := no_cheaper hv rv pf (nC r - 1) (by omega)
  rw [if_neg (by omega), show nC r - 1 + 1 = nC r by omega] at this
  rw [pn]; omega
/-! ### No accepted bound is greater -/
theorem po_le {g : Gram} {r : Rules} {L : List (List Int)} (hv : g.Val) (rv : r.Val g) (ok : okAll g r L) : ∀ d i, i + d + 1 = nC r → ∀ w, w < rowsN g → po L i w ≤ avD g r d w
  | 0, i, h, w, hw => by
    have o := (okAt_last (by omega)).1 (ok i (by omega) w hw)
    have e := av_price hv rv (k := i) (by omega) w
    rw [show nC r - 1 - i = 0 by omega, if_neg (by omega)] at e
    omega
  | d + 1, i, h, w, hw => by
    have o := (okAt_in (by omega)).1 (ok i (by omega) w hw)
    obtain ⟨b, _, b2, b3⟩ := bl_best (g := g) rv (d := d) hw
    have o := o b b2.lt b2.p
    have ih := po_le hv rv ok d (i + 1) (by omega) b b2.lt
    have e := av_price hv rv (k := i) (by omega) w
    rw [show nC r - 1 - i = d + 1 by omega, if_pos (by omega), show nC r - 1 - (i + 1) = d by omega] at e
    unfold wayF at b3
    omega
theorem leastP_le {g : Gram} {r : Rules} {L : List (List Int)} (hv : g.Val) (rv : r.Val g) (ok : okAll g r L) : leastP g L ≤ leastC g r := by
  have h1 := rv.le
  have en : (nC r : Int) = r.to - r.fr + 1 := by unfold nC; omega
  have p0 := po_le hv rv ok (nC r - 1) 0 (by omega) (ch g r 0) (ch_lt hv rv 0)
  obtain ⟨_, s4⟩ := minW_spec (fun w => po L 0 w) 0 (rowsN g - 1)
  have hw := ch_lt hv rv 0
  have := s4 (ch g r 0) (by omega) (by omega)
  have e : leastP g L = minW (fun w => po L 0 w) 0 (rowsN g - 1) := by
    unfold leastP
    rw [← minK_minW]
    exact minK_congr _ fun i _ => by rw [Nat.zero_add]
  rw [e]
  unfold leastC
  omega
/-! ### Harder rules -/
def hard (r : Rules) : Rules := ⟨r.tag, min 1000 (r.miss + 5), min 1000 (r.jump + 5), max 0 (r.limit - 1), r.fr, r.to⟩
theorem hard_val {g : Gram} {r : Rules} (rv : r.Val g) : (hard r).Val g := by
  have h1 := rv.miss
  have h2 := rv.jump
  have h3 := rv.limit
  exact ⟨rv.tag, by show 0 ≤ min 1000 (r.miss + 5) ∧ min 1000 (r.miss + 5) ≤ 1000; omega, by show 0 ≤ min 1000 (r.jump + 5) ∧ min 1000 (r.jump + 5) ≤ 1000; omega, by show 0 ≤ max 0 (r.limit - 1) ∧ max 0 (r.limit - 1) ≤ 12; omega, rv.fr, rv.le, rv.to⟩
theorem rulesE_val {g : Gram} {r : Rules} (rv : r.Val g) : rulesE g r = 0 := by
  have h0 := rv.tag
  have h1 := rv.miss
  have h2 := rv.jump
  have h3 := rv.limit
  have h4 := rv.fr
  have h5 := rv.le
  have h6 := rv.to
  unfold rulesE
  rw [if_neg (by omega), if_neg (by omega), if_neg (by omega), if_neg (by omega)]
theorem hard_both {g : Gram} {r : Rules} (h : bothE g r = 0) : bothE g (hard r) = 0 := by
  obtain ⟨hv, rv⟩ := both_val h
  unfold bothE at h ⊢
  split at h
  · contradiction
  · rw [if_neg (by assumption)]; exact rulesE_val (hard_val rv)
theorem hard_price {g : Gram} {r : Rules} (rv : r.Val g) (c w : Nat) : price g r c w ≤ price g (hard r) c w := by
  have h1 := rv.miss
  have e1 : (hard r).tag = r.tag := rfl
  have e2 : (hard r).miss = min 1000 (r.miss + 5) := rfl
  unfold price
  rw [e1, e2]
  split <;> omega
theorem hard_step {g : Gram} {r : Rules} (rv : r.Val g) (a b : Nat) : stepC r a b ≤ stepC (hard r) a b := by
  have h1 := rv.jump
  have h2 : 0 ≤ dist (b : Int) a := by unfold dist; omega
  exact Int.mul_le_mul_of_nonneg_right (by show r.jump ≤ min 1000 (r.jump + 5); omega) h2
theorem hard_best {g : Gram} {r : Rules} (rv : r.Val g) {d w : Nat} (hw : w < rowsN g) (ih : ∀ s, s < rowsN g → avD g r d s ≤ avD g (hard r) d s) : bestOf g r d w ≤ bestOf g (hard r) d w := by
  obtain ⟨b, _, b2, b3⟩ := bl_best (g := g) (hard_val rv) (d := d) hw
  have hp : dist w b ≤ max 0 (r.limit - 1) := b2.p
  have h3 := rv.limit
  have l := best_le (g := g) rv (d := d) hw b2.lt (by omega)
  have := ih b b2.lt
  have := hard_step rv w b
  unfold wayF at b3
  omega
theorem hard_av {g : Gram} {r : Rules} (rv : r.Val g) : ∀ d w, w < rowsN g → avD g r d w ≤ avD g (hard r) d w
  | 0, w, _ => by
    have e : (hard r).to = r.to := rfl
    simpa [avD, e] using hard_price rv r.to.toNat w
  | d + 1, w, hw => by
    rw [avD_succ, avD_succ]
    have h1 := hard_price rv (r.to.toNat - (d + 1)) w
    have h2 := hard_best rv hw (fun s hs => hard_av rv d s hs)
    have e : (hard r).to = r.to := rfl
    rw [e]
    omega
theorem hard_least {g : Gram} {r : Rules} (hv : g.Val) (rv : r.Val g) : leastC g r ≤ leastC g (hard r) := by
  have hw := ch_lt hv (hard_val rv) 0
  have l := least_le hv rv hw
  have a := hard_av rv (nC r - 1) _ hw
  have e : leastC g (hard r) = avD g (hard r) (nC r - 1) (ch g (hard r) 0) := rfl
  omega
end Go.Proofs.Ytmiphilcplojnaa
