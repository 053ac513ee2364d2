/-
  Chapter 7: tables with reports, by the program (by contract).
  Conditions: none.
-/
import Derived.Test.YtcdcmeiipfafdaaGreat7Ra
import Derived.Test.YtcdcmeiipfafdaaGreatFz
namespace Go.Proofs.YtcdcmeiipfafdaaGreat
open Go.RowKit Fx
theorem cloneI_ok {l : List Int} (h0 : 0 < l.length) (hl : l.length ≤ 1000) : FnOK Tryz.prog 40 [eInts l] (eInts l) [] := by
  refine fn_i hmix hT Tryz.f40 (by kernel_rfl) rfl (by kernel_rfl) ?_
  with_reducible conv => whnf
  repeat' ((first | (with_reducible refine branch_t ?_) | (with_reducible refine branch_f ?_) | (with_reducible refine branch_nt ?_) | (with_reducible refine branch_nf ?_) | (with_reducible refine branch_dec (fun _ => ?_) (fun _ => ?_)) | (with_reducible refine branch_ndec (fun _ => ?_) (fun _ => ?_)) | (with_reducible refine branch_bool (fun _ => ?_) (fun _ => ?_)) | (with_reducible refine arith_64 (by omega) ?_) | (with_reducible refine ob_i (by omega) (fun _ => ?_)) | (with_reducible refine ob_i (by unfold room; omega) (fun _ => ?_)) | (with_reducible refine ob_i (by (try simp only [toN_eq, Int.toNat_natCast] at *); (try dsimp only [toN] at *); omega) (fun _ => ?_)) | (with_reducible refine arith_64 (by (try simp only [toN_eq, Int.toNat_natCast] at *); (try dsimp only [toN] at *); omega) ?_) | (with_reducible refine ob_k rfl ?_) | ((with_reducible refine ob_k ?_ ?_); focus kernel_rfl) | (refine yield_i hmix hT rfl hL efr eps eag ebd rfl (by kernel_rfl) ?_)  | (apply call_l (first_ok (l := [_, _]) (Nat.le_of_ble_eq_true rfl)) (.cons (vm_lit _ rfl rfl (.cons (vm_int rfl) (.cons (vm_int rfl) .nil))) .nil)) | (apply call_l (first_ok (l := [_, _, _]) (Nat.le_of_ble_eq_true rfl)) (.cons (vm_lit _ rfl rfl (.cons (vm_int rfl) (.cons (vm_int rfl) (.cons (vm_int rfl) .nil)))) .nil)) | (apply call_l (first_ok (l := [_, _, _, _]) (Nat.le_of_ble_eq_true rfl)) (.cons (vm_lit _ rfl rfl (.cons (vm_int rfl) (.cons (vm_int rfl) (.cons (vm_int rfl) (.cons (vm_int rfl) .nil))))) .nil))) <;> (try (exfalso; omega; done)) <;> (with_reducible conv => whnf))
  refine ret0 (vm_fr rfl rfl (by simp) (Nat.le_refl _) fun i hi => ?_)
  rw [appF_ge (by omega), Nat.sub_zero]
  exact vm_p
theorem cloneC_ok {l : List (Int × Int)} {n : Nat} (hn : l.length = n) (h0 : 0 < n) (hl : n ≤ 1000) : FnOK Tryz.prog 41 [ePs l] (.own 0 2 0 n) [.row 2 n (fun i => eP (l.getD i (0, 0))) 94] := by
  subst hn
  refine fn_i hmix hT Tryz.f41 (by kernel_rfl) rfl (by kernel_rfl) ?_
  with_reducible conv => whnf
  repeat' ((first | (with_reducible refine branch_t ?_) | (with_reducible refine branch_f ?_) | (with_reducible refine branch_nt ?_) | (with_reducible refine branch_nf ?_) | (with_reducible refine branch_dec (fun _ => ?_) (fun _ => ?_)) | (with_reducible refine branch_ndec (fun _ => ?_) (fun _ => ?_)) | (with_reducible refine branch_bool (fun _ => ?_) (fun _ => ?_)) | (with_reducible refine arith_64 (by omega) ?_) | (with_reducible refine ob_i (by omega) (fun _ => ?_)) | (with_reducible refine ob_i (by unfold room; omega) (fun _ => ?_)) | (with_reducible refine ob_i (by (try simp only [toN_eq, Int.toNat_natCast] at *); (try dsimp only [toN] at *); omega) (fun _ => ?_)) | (with_reducible refine arith_64 (by (try simp only [toN_eq, Int.toNat_natCast] at *); (try dsimp only [toN] at *); omega) ?_) | (with_reducible refine ob_k rfl ?_) | ((with_reducible refine ob_k ?_ ?_); focus kernel_rfl) | (refine yield_i hmix hT rfl hL efr eps eag ebd rfl (by kernel_rfl) ?_)  | (apply call_l (first_ok (l := [_, _]) (Nat.le_of_ble_eq_true rfl)) (.cons (vm_lit _ rfl rfl (.cons (vm_int rfl) (.cons (vm_int rfl) .nil))) .nil)) | (apply call_l (first_ok (l := [_, _, _]) (Nat.le_of_ble_eq_true rfl)) (.cons (vm_lit _ rfl rfl (.cons (vm_int rfl) (.cons (vm_int rfl) (.cons (vm_int rfl) .nil)))) .nil)) | (apply call_l (first_ok (l := [_, _, _, _]) (Nat.le_of_ble_eq_true rfl)) (.cons (vm_lit _ rfl rfl (.cons (vm_int rfl) (.cons (vm_int rfl) (.cons (vm_int rfl) (.cons (vm_int rfl) .nil))))) .nil))) <;> (try (exfalso; omega; done)) <;> (with_reducible conv => whnf))
  refine ⟨⟨[(0, some 1)], rfl, vm_own rfl rfl rfl (by omega), ⟨⟨_, rfl, sbm_row (by omega) fun i hi => ?_⟩, trivial⟩⟩⟩
  rw [appF_ge (by omega), Nat.sub_zero]
  exact vm_p
theorem pureQ {n : Nat} {e : Nat → Int × Int} {ty : TypeId} : ∀ s ∈ [SB.row 2 n (fun i => eP (e i)) ty], PureS False s := fun s hs => by
  simp only [List.mem_singleton] at hs
  subst hs
  exact fun i hi => .inr IsPlain.h
/-! ### The cells after some reports -/
def blT (t : Tb) (l : List Rp) (w : Int) : Nat → Nat → Nat → Int × Int
  | 0, h, c => (t.hs.getD h []).getD c (0, 0)
  | i + 1, h, c => if (l.getD i rp0).h = h ∧ (l.getD i rp0).c = c then ((if (l.getD i rp0).heard = true then (blT t l w i h c).1 + (l.getD i rp0).w * w else (blT t l w i h c).1), (blT t l w i h c).2 + (l.getD i rp0).w * w) else blT t l w i h c
theorem blT_ne {t : Tb} {l : List Rp} {w : Int} {i h c : Nat} (k : (l.getD i rp0).h ≠ h) : blT t l w i h c = blT t l w (i + 1) h c := by
  show _ = if _ then _ else _
  rw [if_neg fun q => k q.1]
theorem ag_of {v : V} {cs : List V} {K : List V → Prop} (h : v = .agg cs) (hk : K cs) : agK v K := by subst h; exact hk
theorem blT_hit {t : Tb} {l : List Rp} {w : Int} {i h k : Nat} (h1 : (l.getD i rp0).h = h) (h2 : (l.getD i rp0).c = k) : blT t l w (i + 1) h k = ((if (l.getD i rp0).heard = true then (blT t l w i h k).1 + (l.getD i rp0).w * w else (blT t l w i h k).1), (blT t l w i h k).2 + (l.getD i rp0).w * w) := if_pos ⟨h1, h2⟩
theorem row_bl {S : Vw} {t : Tb} {l : List Rp} {w : Int} {i h n k : Nat} {ty : TypeId} {x y : Int} (h1 : (l.getD i rp0).h = h) (h2 : (l.getD i rp0).c = k) (hx : x = if (l.getD i rp0).heard = true then (blT t l w i h k).1 + (l.getD i rp0).w * w else (blT t l w i h k).1) (hy : y = (blT t l w i h k).2 + (l.getD i rp0).w * w) {e0 : Nat → V} (he : ∀ c, c ≠ k → e0 c = eP (blT t l w i h c)) : sbm S (.row 2 n (setF e0 k (.agg [I x, I y])) ty) (.row 2 n (fun c => eP (blT t l w (i + 1) h c)) ty) := by
  refine sbm_row rfl fun c hc => ?_
  by_cases q : c = k
  · subst q
    rw [setF_at, blT_hit h1 h2, hx, hy]
    exact vm_p
  · rw [setF_ne q, he c q]
    have : blT t l w (i + 1) h c = blT t l w i h c := if_neg fun z => q (by have := z.2; omega)
    rw [this]
    exact vm_p
theorem row_ne {S : Vw} {t : Tb} {l : List Rp} {w : Int} {i h n : Nat} {ty : TypeId} (k : (l.getD i rp0).h ≠ h) : sbm S (.row 2 n (fun c => eP (blT t l w i h c)) ty) (.row 2 n (fun c => eP (blT t l w (i + 1) h c)) ty) := by
  refine sbm_row rfl fun c hc => ?_
  rw [← blT_ne k]
  exact vm_p
/-- The table with all reports. -/
def blTb (t : Tb) (l : List Rp) (w : Int) : Tb := ⟨t.fr, (List.range 24).map fun h => (List.range t.fr.length).map fun c => blT t l w l.length h c⟩
theorem blTb_n (t : Tb) (l : List Rp) (w : Int) : (blTb t l w).hs.length = 24 := by simp [blTb]
theorem blTb_row {t : Tb} {l : List Rp} {w : Int} {h : Nat} (hh : h < 24) : (blTb t l w).hs.getD h [] = (List.range t.fr.length).map fun c => blT t l w l.length h c := by
  unfold blTb
  simp [List.getD_eq_getElem?_getD, hh]
theorem blTb_len {t : Tb} {l : List Rp} {w : Int} {h : Nat} (hh : h < 24) : ((blTb t l w).hs.getD h []).length = t.fr.length := by rw [blTb_row hh]; simp
theorem blTb_at {t : Tb} {l : List Rp} {w : Int} {h c : Nat} (hh : h < 24) (hc : c < ((blTb t l w).hs.getD h []).length) : ((blTb t l w).hs.getD h []).getD c (0, 0) = blT t l w l.length h c := by
  rw [blTb_len hh] at hc
  rw [blTb_row hh]
  simp [List.getD_eq_getElem?_getD, hc]
theorem vm_bP {S : Vw} {p q : Int × Int} (h : p = q) : vm S (eP p) (eP q) := by subst h; exact vm_p
end Go.Proofs.YtcdcmeiipfafdaaGreat
namespace Go.Proofs.YtcdcmeiipfafdaaGreat
open Go.RowKit Fx
@[reducible] def zTb : V := .agg [.sc (.slice none 0 0), .sc (.slice none 0 0)]
theorem blended_err {t : Tb} {l : List Rp} {w e : Int} (few : FewT t) (hl : l.length ≤ 9223372036854775807) (he : firstErr [opE t l, if decide (1 ≤ w ∧ w ≤ 10) = true then 0 else 2] = e) (h0 : e ≠ 0) : FnOK Tryz.prog 8 [eTb t, eRps l, I w] (.tup [zTb, I e]) [] := by
  have O := openReports_ok (l := l) few hl
  have WT := isWeight_ok (n := w)
  have F := first_ok (l := [opE t l, if decide (1 ≤ w ∧ w ≤ 10) = true then 0 else 2]) (by simp)
  rw [he] at F
  generalize opE t l = x at *
  refine fn_i hmix hT Tryz.f8 (by kernel_rfl) rfl (by kernel_rfl) ?_
  with_reducible conv => whnf
  repeat' ((first | (with_reducible refine branch_t ?_) | (with_reducible refine branch_f ?_) | (with_reducible refine branch_nt ?_) | (with_reducible refine branch_nf ?_) | (with_reducible refine branch_dec (fun _ => ?_) (fun _ => ?_)) | (with_reducible refine branch_ndec (fun _ => ?_) (fun _ => ?_)) | (with_reducible refine branch_bool (fun _ => ?_) (fun _ => ?_)) | (with_reducible refine arith_64 (by omega) ?_) | (with_reducible refine ob_i (by omega) (fun _ => ?_)) | (with_reducible refine ob_i (by unfold room; omega) (fun _ => ?_)) | (with_reducible refine ob_i (by (try simp only [toN_eq, Int.toNat_natCast] at *); (try dsimp only [toN] at *); omega) (fun _ => ?_)) | (with_reducible refine arith_64 (by (try simp only [toN_eq, Int.toNat_natCast] at *); (try dsimp only [toN] at *); omega) ?_) | (with_reducible refine ob_k rfl ?_) | ((with_reducible refine ob_k ?_ ?_); focus kernel_rfl) | (refine yield_i hmix hT rfl hL efr eps eag ebd rfl (by kernel_rfl) ?_) | (apply call_u O) | (apply call_u WT) | (apply call_u unless_ok) | (apply call_l F (.cons (vm_lit _ rfl rfl (.cons (vm_int rfl) (.cons (vm_int rfl) .nil))) .nil)) | (apply call_l (first_ok (l := [_, _]) (Nat.le_of_ble_eq_true rfl)) (.cons (vm_lit _ rfl rfl (.cons (vm_int rfl) (.cons (vm_int rfl) .nil))) .nil)) | (apply call_l (first_ok (l := [_, _, _]) (Nat.le_of_ble_eq_true rfl)) (.cons (vm_lit _ rfl rfl (.cons (vm_int rfl) (.cons (vm_int rfl) (.cons (vm_int rfl) .nil)))) .nil)) | (apply call_l (first_ok (l := [_, _, _, _]) (Nat.le_of_ble_eq_true rfl)) (.cons (vm_lit _ rfl rfl (.cons (vm_int rfl) (.cons (vm_int rfl) (.cons (vm_int rfl) (.cons (vm_int rfl) .nil))))) .nil))) <;> (try (exfalso; omega; done)) <;> (with_reducible conv => whnf))
  exact ret0 vm_p
theorem copyReports_ok {l : List Rp} (hl : l.length ≤ 1000) : FnOK Tryz.prog 10 [eRps l] (eRps l) [] := by
  refine fn_i hmix hT Tryz.f10 (by kernel_rfl) rfl (by kernel_rfl) ?_
  with_reducible conv => whnf
  repeat' ((first | (with_reducible refine branch_t ?_) | (with_reducible refine branch_f ?_) | (with_reducible refine branch_nt ?_) | (with_reducible refine branch_nf ?_) | (with_reducible refine branch_dec (fun _ => ?_) (fun _ => ?_)) | (with_reducible refine branch_ndec (fun _ => ?_) (fun _ => ?_)) | (with_reducible refine branch_bool (fun _ => ?_) (fun _ => ?_)) | (with_reducible refine arith_64 (by omega) ?_) | (with_reducible refine ob_i (by omega) (fun _ => ?_)) | (with_reducible refine ob_i (by unfold room; omega) (fun _ => ?_)) | (with_reducible refine ob_i (by (try simp only [toN_eq, Int.toNat_natCast] at *); (try dsimp only [toN] at *); omega) (fun _ => ?_)) | (with_reducible refine arith_64 (by (try simp only [toN_eq, Int.toNat_natCast] at *); (try dsimp only [toN] at *); omega) ?_) | (with_reducible refine ob_k rfl ?_) | ((with_reducible refine ob_k ?_ ?_); focus kernel_rfl) | (refine yield_i hmix hT rfl hL efr eps eag ebd rfl (by kernel_rfl) ?_)  | (apply call_l (first_ok (l := [_, _]) (Nat.le_of_ble_eq_true rfl)) (.cons (vm_lit _ rfl rfl (.cons (vm_int rfl) (.cons (vm_int rfl) .nil))) .nil)) | (apply call_l (first_ok (l := [_, _, _]) (Nat.le_of_ble_eq_true rfl)) (.cons (vm_lit _ rfl rfl (.cons (vm_int rfl) (.cons (vm_int rfl) (.cons (vm_int rfl) .nil)))) .nil)) | (apply call_l (first_ok (l := [_, _, _, _]) (Nat.le_of_ble_eq_true rfl)) (.cons (vm_lit _ rfl rfl (.cons (vm_int rfl) (.cons (vm_int rfl) (.cons (vm_int rfl) (.cons (vm_int rfl) .nil))))) .nil))) <;> (try (exfalso; omega; done)) <;> (with_reducible conv => whnf))
  refine ret0 (vm_fr rfl rfl (by simp) (Nat.le_refl _) fun i hi => ?_)
  rw [appF_ge (by omega), Nat.sub_zero]
  exact vm_p
theorem fewReports_ok {l : List Rp} (hl : l.length ≤ 9223372036854775807) : FnOK Tryz.prog 7 [eRps l] (B (decide (l.length ≤ 102))) [] := by
  refine fn_i hmix hT Tryz.f7 (by kernel_rfl) rfl (by kernel_rfl) ?_
  with_reducible conv => whnf
  repeat' ((first | (with_reducible refine branch_t ?_) | (with_reducible refine branch_f ?_) | (with_reducible refine branch_nt ?_) | (with_reducible refine branch_nf ?_) | (with_reducible refine branch_dec (fun _ => ?_) (fun _ => ?_)) | (with_reducible refine branch_ndec (fun _ => ?_) (fun _ => ?_)) | (with_reducible refine branch_bool (fun _ => ?_) (fun _ => ?_)) | (with_reducible refine arith_64 (by omega) ?_) | (with_reducible refine ob_i (by omega) (fun _ => ?_)) | (with_reducible refine ob_i (by unfold room; omega) (fun _ => ?_)) | (with_reducible refine ob_i (by (try simp only [toN_eq, Int.toNat_natCast] at *); (try dsimp only [toN] at *); omega) (fun _ => ?_)) | (with_reducible refine arith_64 (by (try simp only [toN_eq, Int.toNat_natCast] at *); (try dsimp only [toN] at *); omega) ?_) | (with_reducible refine ob_k rfl ?_) | ((with_reducible refine ob_k ?_ ?_); focus kernel_rfl) | (refine yield_i hmix hT rfl hL efr eps eag ebd rfl (by kernel_rfl) ?_)  | (apply call_l (first_ok (l := [_, _]) (Nat.le_of_ble_eq_true rfl)) (.cons (vm_lit _ rfl rfl (.cons (vm_int rfl) (.cons (vm_int rfl) .nil))) .nil)) | (apply call_l (first_ok (l := [_, _, _]) (Nat.le_of_ble_eq_true rfl)) (.cons (vm_lit _ rfl rfl (.cons (vm_int rfl) (.cons (vm_int rfl) (.cons (vm_int rfl) .nil)))) .nil)) | (apply call_l (first_ok (l := [_, _, _, _]) (Nat.le_of_ble_eq_true rfl)) (.cons (vm_lit _ rfl rfl (.cons (vm_int rfl) (.cons (vm_int rfl) (.cons (vm_int rfl) (.cons (vm_int rfl) .nil))))) .nil))) <;> (try (exfalso; omega; done)) <;> (with_reducible conv => whnf))
  all_goals exact ret0 (vm_bool (by grind))
end Go.Proofs.YtcdcmeiipfafdaaGreat
namespace Go.Proofs.YtcdcmeiipfafdaaGreat
open Go.RowKit Fx
theorem mulw {a w : Int} (ha : 1 ≤ a) (hw : 1 ≤ w) : 0 ≤ a * w := Int.mul_nonneg (by omega) (by omega)
/-- What one report does to a cell. -/
theorem blT_step {t : Tb} {l : List Rp} {w : Int} {i h c : Nat} (hi : rpE t.fr.length (l.getD i rp0) = 0) (hw : 1 ≤ w) : (blT t l w i h c).2 ≤ (blT t l w (i + 1) h c).2 ∧ ((0 ≤ (blT t l w i h c).1 ∧ (blT t l w i h c).1 ≤ (blT t l w i h c).2) → 0 ≤ (blT t l w (i + 1) h c).1 ∧ (blT t l w (i + 1) h c).1 ≤ (blT t l w (i + 1) h c).2) := by
  have rv := rp_val hi
  have m := mulw rv.2.2.1 hw
  by_cases q : (l.getD i rp0).h = h ∧ (l.getD i rp0).c = c
  · rw [blT_hit q.1 q.2]
    dsimp only
    split <;> omega
  · have e : blT t l w (i + 1) h c = blT t l w i h c := if_neg q
    rw [e]
    exact ⟨Int.le_refl _, fun k => k⟩
theorem blT_inv {t : Tb} {l : List Rp} {w : Int} (v : TbV t) (hr : ∀ i, i < l.length → rpE t.fr.length (l.getD i rp0) = 0) (hw : 1 ≤ w) {h c : Nat} (hh : h < 24) (hc : c < t.fr.length) : ∀ i, i ≤ l.length → 0 ≤ (blT t l w i h c).1 ∧ (blT t l w i h c).1 ≤ (blT t l w i h c).2
  | 0, _ => by
    have := v.c h c hh hc
    exact this.1
  | i + 1, hi => (blT_step (hr i (by omega)) hw).2 (blT_inv v hr hw hh hc i (by omega))
theorem blT_up {t : Tb} {l : List Rp} {w : Int} (hr : ∀ i, i < l.length → rpE t.fr.length (l.getD i rp0) = 0) (hw : 1 ≤ w) {h c i : Nat} : ∀ d, i + d ≤ l.length → (blT t l w i h c).2 ≤ (blT t l w (i + d) h c).2
  | 0, _ => Int.le_refl _
  | d + 1, hd => Int.le_trans (blT_up hr hw d (by omega)) (blT_step (hr (i + d) (by omega)) hw).1
/-- All counts are within the limit. -/
def inLim (t : Tb) (l : List Rp) (w : Int) (i : Nat) : Prop := ∀ h, h < 24 → ∀ c, c < t.fr.length → (blT t l w i h c).2 ≤ 1000
theorem lim_all {t : Tb} {l : List Rp} {w : Int} (v : TbV t) (hr : ∀ i, i < l.length → rpE t.fr.length (l.getD i rp0) = 0) (hw : 1 ≤ w) {j : Nat} (hj : j ≤ l.length) (hl : inLim t l w j) : ∀ i, i ≤ j → ∀ h, h < 24 → ∀ c, c < t.fr.length → (0 ≤ (blT t l w i h c).1 ∧ (blT t l w i h c).1 ≤ (blT t l w i h c).2) ∧ (blT t l w i h c).2 ≤ 1000 := fun i hi h hh c hc => by
  refine ⟨blT_inv v hr hw hh hc i (by omega), ?_⟩
  have a := blT_up (i := i) (h := h) (c := c) hr hw (j - i) (by omega)
  rw [show i + (j - i) = j by omega] at a
  have b := hl h hh c hc
  omega
theorem lim_first {t : Tb} {l : List Rp} {w : Int} (v : TbV t) : ∀ n, n ≤ l.length → inLim t l w n ∨ ∃ b, b < n ∧ inLim t l w b ∧ ¬ inLim t l w (b + 1)
  | 0, _ => .inl fun h hh c hc => (v.c h c hh hc).2
  | n + 1, hn => by
    rcases lim_first (l := l) (w := w) v n (by omega) with h | ⟨b, b1, b2, b3⟩
    · by_cases q : inLim t l w (n + 1)
      · exact .inl q
      · exact .inr ⟨n, by omega, h, q⟩
    · exact .inr ⟨b, by omega, b2, b3⟩
/-- The report that leads beyond the limit does so at its own cell. -/
theorem lim_hit {t : Tb} {l : List Rp} {w : Int} {b : Nat} (hi : rpE t.fr.length (l.getD b rp0) = 0) (h1 : inLim t l w b) (h2 : ¬ inLim t l w (b + 1)) : 1000 < (blT t l w b (l.getD b rp0).h.toNat (l.getD b rp0).c.toNat).2 + (l.getD b rp0).w * w := by
  have rv := rp_val hi
  apply Classical.byContradiction
  intro k
  refine h2 fun h hh c hc => ?_
  by_cases q : (l.getD b rp0).h = h ∧ (l.getD b rp0).c = c
  · rw [blT_hit q.1 q.2]
    rw [q.1, q.2, Int.toNat_natCast, Int.toNat_natCast] at k
    dsimp only
    omega
  · have e : blT t l w (b + 1) h c = blT t l w b h c := if_neg q
    rw [e]
    exact h1 h hh c hc
theorem cell_of {c : Int × Int} (h1 : 0 ≤ c.1 ∧ c.1 ≤ c.2) : cellE c = 0 ↔ c.2 ≤ 1000 := by
  unfold cellE
  constructor
  · intro h; grind
  · intro h; grind
theorem bl_tbE {t : Tb} {l : List Rp} {w : Int} (v : TbV t) (hf : freqsE t.fr = 0) (hr : ∀ i, i < l.length → rpE t.fr.length (l.getD i rp0) = 0) (hw : 1 ≤ w) : tbE (blTb t l w) = 0 ↔ inLim t l w l.length := by
  constructor
  · intro h k hk c hc
    obtain ⟨_, _, h3⟩ := tb_zero h
    have := (hour_val (h3 k hk)).2 c hc
    rw [blTb_at hk (by rw [blTb_len hk]; exact hc)] at this
    exact (cell_of (blT_inv v hr hw hk hc _ (Nat.le_refl _))).1 this
  · intro h
    unfold tbE tbC
    have e1 : freqsE (blTb t l w).fr = 0 := hf
    rw [if_neg (fun k => k e1), if_neg (fun k => k (blTb_n t l w)), findErr_none (hourE (blTb t l w).fr.length) [] (blTb t l w).hs 0]
    intro i hi
    rw [blTb_n] at hi
    unfold hourE
    rw [if_neg (fun k => k (blTb_len hi))]
    rw [findErr_none cellE (0, 0) _ 0 fun c hc => ?_]
    rw [blTb_at hi hc]
    rw [blTb_len hi] at hc
    exact (cell_of (blT_inv v hr hw hi hc _ (Nat.le_refl _))).2 (h i hi c hc)
theorem blTb_few {t : Tb} {l : List Rp} {w : Int} (v : TbV t) : FewT (blTb t l w) := ⟨by rw [blTb_n]; omega, by show t.fr.length ≤ 12; have := v.fr.n1; omega, fun i hi => by rw [blTb_n] at hi; rw [blTb_len hi]; have := v.fr.n1; omega⟩
end Go.Proofs.YtcdcmeiipfafdaaGreat
