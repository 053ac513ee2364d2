/-
  Chapter 7: ranges that are apart (by contract).
  Conditions: none.
-/
import Derived.Test.YtcdcmeiipfafdaaGreat7P
namespace Go.Proofs.YtcdcmeiipfafdaaGreat
open Go.RowKit Fx
def prv (L : List (Int × Int)) (k : Nat) : Int := if 0 < k then (L.getD (k - 1) (0, 0)).2 else 0
def a12 (L : List (Int × Int)) (k : Nat) : Int := if ¬ ((0 ≤ (L.getD k (0, 0)).1 ∧ (L.getD k (0, 0)).1 ≤ 23) ∧ 0 ≤ (L.getD k (0, 0)).2 ∧ (L.getD k (0, 0)).2 ≤ 23) then 2 else if ¬ ((L.getD k (0, 0)).1 < (L.getD k (0, 0)).2 ∧ prv L k ≤ (L.getD k (0, 0)).1) then 9 else 0
def aE (t : Tb) (s : Int) (L : List (Int × Int)) (k : Nat) : Int := if a12 L k ≠ 0 then a12 L k else if stT t s (L.getD k (0, 0)).1.toNat (L.getD k (0, 0)).2.toNat = true then 13 else 0
def apI (t : Tb) (s : Int) (L : List (Int × Int)) : Int := fstIx (fun k => decide (aE t s L k ≠ 0)) L.length
def apV (t : Tb) (s : Int) (L : List (Int × Int)) : Int × Int := if 24 ≤ L.length then (0, 8) else if apI t s L < 0 then ((L.length : Int), 0) else (apI t s L, aE t s L (apI t s L).toNat)
theorem apV_hit {t : Tb} {s : Int} {L : List (Int × Int)} {k : Nat} (hl : L.length < 24) (h0 : ∀ i, i < k → aE t s L i = 0) (h1 : aE t s L k ≠ 0) (hk : k < L.length) : apV t s L = ((k : Int), aE t s L k) := by
  have : apI t s L = (k : Int) := fstIx_hit hk (by rw [decide_eq_true_eq]; exact h1) fun i hi => by rw [h0 i hi]; rfl
  unfold apV
  rw [if_neg (by omega), this, if_neg (by omega), Int.toNat_natCast]
theorem apV_none {t : Tb} {s : Int} {L : List (Int × Int)} (hl : L.length < 24) (h0 : ∀ i, i < L.length → aE t s L i = 0) : apV t s L = ((L.length : Int), 0) := by
  have : apI t s L = -1 := fstIx_none fun i hi => by rw [h0 i hi]; rfl
  unfold apV
  rw [if_neg (by omega), this, if_pos (by omega)]
end Go.Proofs.YtcdcmeiipfafdaaGreat
