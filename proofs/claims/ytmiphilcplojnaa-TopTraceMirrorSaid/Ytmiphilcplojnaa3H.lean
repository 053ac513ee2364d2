/-
  Chapter 3: what a trace costs; the least cost from each cell on (the document's functions and the program's, by contract).
  Conditions: none.
-/
import Derived.Test.Ytmiphilcplojnaa3F
namespace Go.Proofs.Ytmiphilcplojnaa
open Go.RowKit Fx
/-! ### Plain -/
def price (g : Gram) (r : Rules) (c w : Nat) : Int := if ((g.cols.getD c []).getD w (0, 0)).2 = r.tag ∨ ((g.cols.getD c []).getD w (0, 0)).2 = 3 then 255 - ((g.cols.getD c []).getD w (0, 0)).1 else r.miss
theorem price_le {g : Gram} {r : Rules} (hv : g.Val) (rv : r.Val g) {c w : Nat} (hc : c < g.cols.length) (hw : w < rowsN g) : 0 ≤ price g r c w ∧ price g r c w ≤ 1000 := by
  have := hv.amp c w hc hw
  have := rv.miss
  unfold price
  split <;> omega
def dist (a b : Int) : Int := max (a - b) (-(a - b))
def stepC (r : Rules) (a b : Nat) : Int := r.jump * dist b a
theorem dist_bd {a b : Nat} (ha : a < 12) (hb : b < 12) : 0 ≤ dist a b ∧ dist a b ≤ 11 := by unfold dist; omega
theorem stepC_le {g : Gram} {r : Rules} (rv : r.Val g) {a b : Nat} (ha : a < 12) (hb : b < 12) : 0 ≤ stepC r a b ∧ stepC r a b ≤ 11000 := by
  have h1 := rv.jump
  have h2 := dist_bd hb ha
  have h3 : 0 ≤ r.jump * dist b a := Int.mul_nonneg h1.1 h2.1
  have h4 : r.jump * dist b a ≤ 1000 * 11 := Int.mul_le_mul h1.2 h2.2 h2.1 (by omega)
  unfold stepC
  omega
/-- The least of f lo .. f (lo + k). -/
def minW (f : Nat → Int) (lo : Nat) : Nat → Int
  | 0 => f lo
  | k + 1 => min (minW f lo k) (f (lo + k + 1))
theorem minW_spec (f : Nat → Int) (lo : Nat) : ∀ k, (∃ s, lo ≤ s ∧ s ≤ lo + k ∧ f s = minW f lo k) ∧ ∀ s, lo ≤ s → s ≤ lo + k → minW f lo k ≤ f s
  | 0 => ⟨⟨lo, by omega, by omega, rfl⟩, fun s h1 h2 => by
      obtain rfl : s = lo := by omega
      exact Int.le_refl _⟩
  | k + 1 => by
    obtain ⟨⟨s, h1, h2, h3⟩, h4⟩ := minW_spec f lo k
    refine ⟨?_, fun t ht1 ht2 => ?_⟩
    · by_cases h : f (lo + k + 1) ≤ minW f lo k
      · exact ⟨lo + k + 1, by omega, by omega, by simp only [minW]; omega⟩
      · exact ⟨s, h1, by omega, by simp only [minW]; omega⟩
    · simp only [minW]
      by_cases h : t = lo + k + 1
      · subst h; omega
      · have := h4 t ht1 (by omega); omega
theorem minW_congr {f f' : Nat → Int} {lo : Nat} : ∀ k, (∀ s, lo ≤ s → s ≤ lo + k → f s = f' s) → minW f lo k = minW f' lo k
  | 0, h => h lo (by omega) (by omega)
  | k + 1, h => by
    simp only [minW]
    rw [minW_congr k fun s h1 h2 => h s h1 (by omega), h (lo + k + 1) (by omega) (by omega)]
/-- The rows to which a trace may go on: from lo to hi. -/
def loW (r : Rules) (w : Nat) : Nat := w - r.limit.toNat
def hiW (g : Gram) (r : Rules) (w : Nat) : Nat := min (rowsN g - 1) (w + r.limit.toNat)
def inW (g : Gram) (r : Rules) (w s : Nat) : Prop := loW r w ≤ s ∧ s ≤ hiW g r w
theorem inW_iff {g : Gram} {r : Rules} (rv : r.Val g) {w s : Nat} (hw : w < rowsN g) (hs : s < rowsN g) : inW g r w s ↔ dist s w ≤ r.limit := by
  have := rv.limit
  unfold inW loW hiW dist
  omega
/-- The least cost from a cell on; d columns follow. -/
def avD (g : Gram) (r : Rules) : Nat → Nat → Int
  | 0, w => price g r r.to.toNat w
  | d + 1, w => price g r (r.to.toNat - (d + 1)) w + minW (fun s => stepC r w s + avD g r d s) (loW r w) (hiW g r w - loW r w)
def bestOf (g : Gram) (r : Rules) (d w : Nat) : Int := minW (fun s => stepC r w s + avD g r d s) (loW r w) (hiW g r w - loW r w)
theorem avD_succ (g : Gram) (r : Rules) (d w : Nat) : avD g r (d + 1) w = price g r (r.to.toNat - (d + 1)) w + bestOf g r d w := rfl
theorem loW_le {g : Gram} {r : Rules} {w : Nat} (hw : w < rowsN g) : loW r w ≤ hiW g r w ∧ hiW g r w < rowsN g := by
  unfold loW hiW; omega
theorem avD_bd {g : Gram} {r : Rules} (hv : g.Val) (rv : r.Val g) : ∀ d w, d ≤ r.to.toNat → w < rowsN g → 0 ≤ avD g r d w ∧ avD g r d w ≤ 12000 * (d + 1 : Nat)
  | 0, w, hd, hw => by
    have h1 := rv.to
    have h2 := rv.fr
    have h3 := rv.le
    have := price_le hv rv (c := r.to.toNat) (w := w) (by omega) hw
    simp only [avD]; omega
  | d + 1, w, hd, hw => by
    have h1 := rv.to
    have h2 := rv.fr
    have h3 := rv.le
    have h4 := hv.r1
    have p := price_le hv rv (c := r.to.toNat - (d + 1)) (w := w) (by omega) hw
    obtain ⟨⟨s, s1, s2, s3⟩, _⟩ := minW_spec (fun s => stepC r w s + avD g r d s) (loW r w) (hiW g r w - loW r w)
    have hl := loW_le (r := r) hw
    have hs : s < rowsN g := by omega
    have ih := avD_bd hv rv d s (by omega) hs
    have st := stepC_le rv (a := w) (b := s) (by omega) (by omega)
    rw [avD_succ]
    unfold bestOf
    rw [← s3]
    show 0 ≤ _ + (stepC r w s + avD g r d s) ∧ _ + (stepC r w s + avD g r d s) ≤ _
    omega
theorem best_bd {g : Gram} {r : Rules} (hv : g.Val) (rv : r.Val g) {d w : Nat} (hd : d + 1 ≤ r.to.toNat) (hw : w < rowsN g) : 0 ≤ bestOf g r d w ∧ bestOf g r d w ≤ 12000 * (d + 2 : Nat) := by
  have h4 := hv.r1
  obtain ⟨⟨s, s1, s2, s3⟩, _⟩ := minW_spec (fun s => stepC r w s + avD g r d s) (loW r w) (hiW g r w - loW r w)
  have hl := loW_le (r := r) hw
  have ih := avD_bd hv rv d s (by omega) (by omega)
  have st := stepC_le rv (a := w) (b := s) (by omega) (by omega)
  unfold bestOf
  rw [← s3]
  show 0 ≤ (stepC r w s + avD g r d s) ∧ (stepC r w s + avD g r d s) ≤ _
  omega
def nC (r : Rules) : Nat := (r.to - r.fr + 1).toNat
/-! ### Small -/
theorem size_ok {n : Int} (h : -9223372036854775807 ≤ n ∧ n ≤ 9223372036854775807) : FnOK Try.prog 115 [I n] (I (max n (-n))) [] := by
  refine fn_i hmix hT Try.f115 (by kernel_rfl) rfl (by kernel_rfl) ?_
  with_reducible conv => whnf
  repeat' ((first | (with_reducible refine branch_t ?_) | (with_reducible refine branch_f ?_) | (with_reducible refine branch_nt ?_) | (with_reducible refine branch_nf ?_) | (with_reducible refine branch_dec (fun _ => ?_) (fun _ => ?_)) | (with_reducible refine branch_ndec (fun _ => ?_) (fun _ => ?_)) | (with_reducible refine branch_bool (fun _ => ?_) (fun _ => ?_)) | (with_reducible refine arith_64 (by omega) ?_) | (with_reducible refine ob_i (by omega) (fun _ => ?_)) | (with_reducible refine ob_i (by unfold room; omega) (fun _ => ?_)) | (with_reducible refine ob_i (by (try simp only [toN_eq, Int.toNat_natCast] at *); (try dsimp only [toN] at *); omega) (fun _ => ?_)) | (with_reducible refine arith_64 (by (try simp only [toN_eq, Int.toNat_natCast] at *); (try dsimp only [toN] at *); omega) ?_) | (with_reducible refine ob_k rfl ?_) | ((with_reducible refine ob_k ?_ ?_); focus kernel_rfl) | (refine yield_i hmix hT rfl hL efr eps eag ebd rfl (by kernel_rfl) ?_)  | (apply call_l (first_ok (l := [_, _]) (Nat.le_of_ble_eq_true rfl)) (.cons (vm_lit _ rfl rfl (.cons (vm_int rfl) (.cons (vm_int rfl) .nil))) .nil)) | (apply call_l (first_ok (l := [_, _, _]) (Nat.le_of_ble_eq_true rfl)) (.cons (vm_lit _ rfl rfl (.cons (vm_int rfl) (.cons (vm_int rfl) (.cons (vm_int rfl) .nil)))) .nil)) | (apply call_l (first_ok (l := [_, _, _, _]) (Nat.le_of_ble_eq_true rfl)) (.cons (vm_lit _ rfl rfl (.cons (vm_int rfl) (.cons (vm_int rfl) (.cons (vm_int rfl) (.cons (vm_int rfl) .nil))))) .nil))) <;> (try (exfalso; omega; done)) <;> (with_reducible conv => whnf))
  exact ret0 (vm_int (by omega))
theorem bSize_ok {n : Int} (h : -9223372036854775807 ≤ n ∧ n ≤ 9223372036854775807) : FnOK Try.prog 95 [I n] (I (max n (-n))) [] := by
  refine fn_i hmix hT Try.f95 (by kernel_rfl) rfl (by kernel_rfl) ?_
  with_reducible conv => whnf
  repeat' ((first | (with_reducible refine branch_t ?_) | (with_reducible refine branch_f ?_) | (with_reducible refine branch_nt ?_) | (with_reducible refine branch_nf ?_) | (with_reducible refine branch_dec (fun _ => ?_) (fun _ => ?_)) | (with_reducible refine branch_ndec (fun _ => ?_) (fun _ => ?_)) | (with_reducible refine branch_bool (fun _ => ?_) (fun _ => ?_)) | (with_reducible refine arith_64 (by omega) ?_) | (with_reducible refine ob_i (by omega) (fun _ => ?_)) | (with_reducible refine ob_i (by unfold room; omega) (fun _ => ?_)) | (with_reducible refine ob_i (by (try simp only [toN_eq, Int.toNat_natCast] at *); (try dsimp only [toN] at *); omega) (fun _ => ?_)) | (with_reducible refine arith_64 (by (try simp only [toN_eq, Int.toNat_natCast] at *); (try dsimp only [toN] at *); omega) ?_) | (with_reducible refine ob_k rfl ?_) | ((with_reducible refine ob_k ?_ ?_); focus kernel_rfl) | (refine yield_i hmix hT rfl hL efr eps eag ebd rfl (by kernel_rfl) ?_)  | (apply call_l (first_ok (l := [_, _]) (Nat.le_of_ble_eq_true rfl)) (.cons (vm_lit _ rfl rfl (.cons (vm_int rfl) (.cons (vm_int rfl) .nil))) .nil)) | (apply call_l (first_ok (l := [_, _, _]) (Nat.le_of_ble_eq_true rfl)) (.cons (vm_lit _ rfl rfl (.cons (vm_int rfl) (.cons (vm_int rfl) (.cons (vm_int rfl) .nil)))) .nil)) | (apply call_l (first_ok (l := [_, _, _, _]) (Nat.le_of_ble_eq_true rfl)) (.cons (vm_lit _ rfl rfl (.cons (vm_int rfl) (.cons (vm_int rfl) (.cons (vm_int rfl) (.cons (vm_int rfl) .nil))))) .nil))) <;> (try (exfalso; omega; done)) <;> (with_reducible conv => whnf))
  exact ret0 (vm_int (by omega))
theorem mPrice_ok {g : Gram} {r : Rules} {c w : Nat} (hv : g.Val) (hc : c < g.cols.length) (hw : w < rowsN g) : FnOK Try.prog 93 [eSearch g r, I c, I w] (I (price g r c w)) [] := by
  have h1 := hv.rows c hc
  have h2 := hv.amp c w hc hw
  refine fn_i hmix hT Try.f93 (by kernel_rfl) rfl (by kernel_rfl) ?_
  with_reducible conv => whnf
  repeat' ((first | (with_reducible refine branch_t ?_) | (with_reducible refine branch_f ?_) | (with_reducible refine branch_nt ?_) | (with_reducible refine branch_nf ?_) | (with_reducible refine branch_dec (fun _ => ?_) (fun _ => ?_)) | (with_reducible refine branch_ndec (fun _ => ?_) (fun _ => ?_)) | (with_reducible refine branch_bool (fun _ => ?_) (fun _ => ?_)) | (with_reducible refine arith_64 (by omega) ?_) | (with_reducible refine ob_i (by omega) (fun _ => ?_)) | (with_reducible refine ob_i (by unfold room; omega) (fun _ => ?_)) | (with_reducible refine ob_i (by (try simp only [toN_eq, Int.toNat_natCast] at *); (try dsimp only [toN] at *); omega) (fun _ => ?_)) | (with_reducible refine arith_64 (by (try simp only [toN_eq, Int.toNat_natCast] at *); (try dsimp only [toN] at *); omega) ?_) | (with_reducible refine ob_k rfl ?_) | ((with_reducible refine ob_k ?_ ?_); focus kernel_rfl) | (refine yield_i hmix hT rfl hL efr eps eag ebd rfl (by kernel_rfl) ?_)  | (apply call_l (first_ok (l := [_, _]) (Nat.le_of_ble_eq_true rfl)) (.cons (vm_lit _ rfl rfl (.cons (vm_int rfl) (.cons (vm_int rfl) .nil))) .nil)) | (apply call_l (first_ok (l := [_, _, _]) (Nat.le_of_ble_eq_true rfl)) (.cons (vm_lit _ rfl rfl (.cons (vm_int rfl) (.cons (vm_int rfl) (.cons (vm_int rfl) .nil)))) .nil)) | (apply call_l (first_ok (l := [_, _, _, _]) (Nat.le_of_ble_eq_true rfl)) (.cons (vm_lit _ rfl rfl (.cons (vm_int rfl) (.cons (vm_int rfl) (.cons (vm_int rfl) (.cons (vm_int rfl) .nil))))) .nil))) <;> (try (exfalso; omega; done)) <;> (with_reducible conv => whnf))
  all_goals ((try simp only [] at *); (try dsimp only [toN] at *))
  all_goals exact ret0 (vm_int (by unfold price; split <;> omega))
theorem rCell_ok {g : Gram} {r : Rules} {c w : Nat} (hv : g.Val) (hc : c < g.cols.length) (hw : w < rowsN g) : FnOK Try.prog 52 [eGram g, eRules r, I c, I w] (I (price g r c w)) [] := by
  have h1 := hv.rows c hc
  have h2 := hv.amp c w hc hw
  refine fn_i hmix hT Try.f52 (by kernel_rfl) rfl (by kernel_rfl) ?_
  with_reducible conv => whnf
  repeat' ((first | (with_reducible refine branch_t ?_) | (with_reducible refine branch_f ?_) | (with_reducible refine branch_nt ?_) | (with_reducible refine branch_nf ?_) | (with_reducible refine branch_dec (fun _ => ?_) (fun _ => ?_)) | (with_reducible refine branch_ndec (fun _ => ?_) (fun _ => ?_)) | (with_reducible refine branch_bool (fun _ => ?_) (fun _ => ?_)) | (with_reducible refine arith_64 (by omega) ?_) | (with_reducible refine ob_i (by omega) (fun _ => ?_)) | (with_reducible refine ob_i (by unfold room; omega) (fun _ => ?_)) | (with_reducible refine ob_i (by (try simp only [toN_eq, Int.toNat_natCast] at *); (try dsimp only [toN] at *); omega) (fun _ => ?_)) | (with_reducible refine arith_64 (by (try simp only [toN_eq, Int.toNat_natCast] at *); (try dsimp only [toN] at *); omega) ?_) | (with_reducible refine ob_k rfl ?_) | ((with_reducible refine ob_k ?_ ?_); focus kernel_rfl) | (refine yield_i hmix hT rfl hL efr eps eag ebd rfl (by kernel_rfl) ?_)  | (apply call_l (first_ok (l := [_, _]) (Nat.le_of_ble_eq_true rfl)) (.cons (vm_lit _ rfl rfl (.cons (vm_int rfl) (.cons (vm_int rfl) .nil))) .nil)) | (apply call_l (first_ok (l := [_, _, _]) (Nat.le_of_ble_eq_true rfl)) (.cons (vm_lit _ rfl rfl (.cons (vm_int rfl) (.cons (vm_int rfl) (.cons (vm_int rfl) .nil)))) .nil)) | (apply call_l (first_ok (l := [_, _, _, _]) (Nat.le_of_ble_eq_true rfl)) (.cons (vm_lit _ rfl rfl (.cons (vm_int rfl) (.cons (vm_int rfl) (.cons (vm_int rfl) (.cons (vm_int rfl) .nil))))) .nil))) <;> (try (exfalso; omega; done)) <;> (with_reducible conv => whnf))
  all_goals ((try simp only [] at *); (try dsimp only [toN] at *))
  all_goals exact ret0 (vm_int (by unfold price; split <;> omega))
theorem columns_ok {g : Gram} {r : Rules} (rv : r.Val g) (hv : g.Val) : FnOK Try.prog 92 [eSearch g r] (I (nC r)) [] := by
  have h1 := rv.fr
  have h2 := rv.le
  have h3 := rv.to
  have h4 := hv.c1
  refine fn_i hmix hT Try.f92 (by kernel_rfl) rfl (by kernel_rfl) ?_
  with_reducible conv => whnf
  repeat' ((first | (with_reducible refine branch_t ?_) | (with_reducible refine branch_f ?_) | (with_reducible refine branch_nt ?_) | (with_reducible refine branch_nf ?_) | (with_reducible refine branch_dec (fun _ => ?_) (fun _ => ?_)) | (with_reducible refine branch_ndec (fun _ => ?_) (fun _ => ?_)) | (with_reducible refine branch_bool (fun _ => ?_) (fun _ => ?_)) | (with_reducible refine arith_64 (by omega) ?_) | (with_reducible refine ob_i (by omega) (fun _ => ?_)) | (with_reducible refine ob_i (by unfold room; omega) (fun _ => ?_)) | (with_reducible refine ob_i (by (try simp only [toN_eq, Int.toNat_natCast] at *); (try dsimp only [toN] at *); omega) (fun _ => ?_)) | (with_reducible refine arith_64 (by (try simp only [toN_eq, Int.toNat_natCast] at *); (try dsimp only [toN] at *); omega) ?_) | (with_reducible refine ob_k rfl ?_) | ((with_reducible refine ob_k ?_ ?_); focus kernel_rfl) | (refine yield_i hmix hT rfl hL efr eps eag ebd rfl (by kernel_rfl) ?_)  | (apply call_l (first_ok (l := [_, _]) (Nat.le_of_ble_eq_true rfl)) (.cons (vm_lit _ rfl rfl (.cons (vm_int rfl) (.cons (vm_int rfl) .nil))) .nil)) | (apply call_l (first_ok (l := [_, _, _]) (Nat.le_of_ble_eq_true rfl)) (.cons (vm_lit _ rfl rfl (.cons (vm_int rfl) (.cons (vm_int rfl) (.cons (vm_int rfl) .nil)))) .nil)) | (apply call_l (first_ok (l := [_, _, _, _]) (Nat.le_of_ble_eq_true rfl)) (.cons (vm_lit _ rfl rfl (.cons (vm_int rfl) (.cons (vm_int rfl) (.cons (vm_int rfl) (.cons (vm_int rfl) .nil))))) .nil))) <;> (try (exfalso; omega; done)) <;> (with_reducible conv => whnf))
  exact ret0 (vm_int (by unfold nC; omega))
theorem near_ok {g : Gram} {r : Rules} {w : Nat} : FnOK Try.prog 94 [eSearch g r, I w] (.fn 114 [.pv [I w] 0, .pv [I g.first, I g.step, eCols g.cols, I r.tag, I r.miss, I r.jump, I r.limit, I r.fr, I r.to] 0]) [] := by
  refine fn_i hmix hT Try.f94 (by kernel_rfl) rfl (by kernel_rfl) ?_
  with_reducible conv => whnf
  repeat' ((first | (with_reducible refine branch_t ?_) | (with_reducible refine branch_f ?_) | (with_reducible refine branch_nt ?_) | (with_reducible refine branch_nf ?_) | (with_reducible refine branch_dec (fun _ => ?_) (fun _ => ?_)) | (with_reducible refine branch_ndec (fun _ => ?_) (fun _ => ?_)) | (with_reducible refine branch_bool (fun _ => ?_) (fun _ => ?_)) | (with_reducible refine arith_64 (by omega) ?_) | (with_reducible refine ob_i (by omega) (fun _ => ?_)) | (with_reducible refine ob_i (by unfold room; omega) (fun _ => ?_)) | ((with_reducible refine ob_k ?_ ?_); focus kernel_rfl) ) <;> (try (exfalso; omega; done)) <;> (with_reducible conv => whnf))
  exact ret0 (vm_fn (.cons (vm_frzp trivial rfl kept_no rfl rfl vmL_p) (.cons (vm_frzp trivial rfl kept_no rfl rfl vmL_p) .nil)))
def minK (f : Nat → Int) : Nat → Int
  | 0 => f 0
  | k + 1 => min (minK f k) (f (k + 1))
theorem minK_congr {f f' : Nat → Int} : ∀ n, (∀ i, i ≤ n → f i = f' i) → minK f n = minK f' n
  | 0, h => h 0 (Nat.le_refl _)
  | n + 1, h => by
    simp only [minK]
    rw [minK_congr n fun i hi => h i (by omega), h (n + 1) (Nat.le_refl _)]
theorem minK_minW (f : Nat → Int) (lo : Nat) : ∀ k, minK (fun i => f (lo + i)) k = minW f lo k
  | 0 => rfl
  | k + 1 => by simp only [minK, minW]; rw [minK_minW f lo k, Nat.add_assoc]
theorem min_ok {l : List Int} (h0 : 0 < l.length) (h1 : l.length ≤ 9223372036854775807) : FnOK Try.prog 90 [eInts l] (I (minK (fun i => l.getD i 0) (l.length - 1))) [] := by
  refine fn_i hmix hT Try.f90 (by kernel_rfl) rfl (by kernel_rfl) ?_
  with_reducible conv => whnf
  repeat' ((first | (with_reducible refine branch_t ?_) | (with_reducible refine branch_f ?_) | (with_reducible refine branch_nt ?_) | (with_reducible refine branch_nf ?_) | (with_reducible refine branch_dec (fun _ => ?_) (fun _ => ?_)) | (with_reducible refine branch_ndec (fun _ => ?_) (fun _ => ?_)) | (with_reducible refine branch_bool (fun _ => ?_) (fun _ => ?_)) | (with_reducible refine arith_64 (by omega) ?_) | (with_reducible refine ob_i (by omega) (fun _ => ?_)) | (with_reducible refine ob_i (by unfold room; omega) (fun _ => ?_)) | (with_reducible refine ob_i (by (try simp only [toN_eq, Int.toNat_natCast] at *); (try dsimp only [toN] at *); omega) (fun _ => ?_)) | (with_reducible refine arith_64 (by (try simp only [toN_eq, Int.toNat_natCast] at *); (try dsimp only [toN] at *); omega) ?_) | (with_reducible refine ob_k rfl ?_) | ((with_reducible refine ob_k ?_ ?_); focus kernel_rfl) | (refine yield_i hmix hT rfl hL efr eps eag ebd rfl (by kernel_rfl) ?_)  | (apply call_l (first_ok (l := [_, _]) (Nat.le_of_ble_eq_true rfl)) (.cons (vm_lit _ rfl rfl (.cons (vm_int rfl) (.cons (vm_int rfl) .nil))) .nil)) | (apply call_l (first_ok (l := [_, _, _]) (Nat.le_of_ble_eq_true rfl)) (.cons (vm_lit _ rfl rfl (.cons (vm_int rfl) (.cons (vm_int rfl) (.cons (vm_int rfl) .nil)))) .nil)) | (apply call_l (first_ok (l := [_, _, _, _]) (Nat.le_of_ble_eq_true rfl)) (.cons (vm_lit _ rfl rfl (.cons (vm_int rfl) (.cons (vm_int rfl) (.cons (vm_int rfl) (.cons (vm_int rfl) .nil))))) .nil))) <;> (try (exfalso; omega; done)) <;> (with_reducible conv => whnf))
  refine loop_i hmix hT (fun k : Nat => ([(0, eInts l), (3, I (minK (fun i => l.getD i 0) k)), (4, I (k + 1 : Nat))], ⟨0, []⟩)) (fun k => k + 1 ≤ l.length) (fun k => l.length - k) 0 (by omega) ?_ ?_
  · refine ⟨[], rfl, ?_, ?_⟩ <;> repeat' (first | exact trivial | exact vm_p | exact vm_ptr rfl rfl rfl | exact vm_yld rfl rfl | exact vm_own rfl rfl rfl rfl | exact vm_own rfl rfl (by omega) (by omega) | exact vm_int (by omega) | exact vm_nil rfl | exact sbm_cells vmL_p | exact sbm_row rfl (fun _ _ => vm_p) | refine ⟨⟨_, rfl, ?_⟩, ?_⟩ | refine ⟨⟨_, _, _, rfl⟩, ?_⟩ | (refine sbm_loop ?_; rw [efr]) | refine sbm_cells ?_ | refine vmL.cons ?_ ?_ | exact vmL.nil | refine vm_own rfl rfl rfl ?_)
  intro k hk
  with_reducible conv => whnf
  repeat' ((first | (with_reducible refine branch_t ?_) | (with_reducible refine branch_f ?_) | (with_reducible refine branch_nt ?_) | (with_reducible refine branch_nf ?_) | (with_reducible refine branch_dec (fun _ => ?_) (fun _ => ?_)) | (with_reducible refine branch_ndec (fun _ => ?_) (fun _ => ?_)) | (with_reducible refine branch_bool (fun _ => ?_) (fun _ => ?_)) | (with_reducible refine arith_64 (by omega) ?_) | (with_reducible refine ob_i (by omega) (fun _ => ?_)) | (with_reducible refine ob_i (by unfold room; omega) (fun _ => ?_)) | (with_reducible refine ob_i (by (try simp only [toN_eq, Int.toNat_natCast] at *); (try dsimp only [toN] at *); omega) (fun _ => ?_)) | (with_reducible refine arith_64 (by (try simp only [toN_eq, Int.toNat_natCast] at *); (try dsimp only [toN] at *); omega) ?_) | (with_reducible refine ob_k rfl ?_) | ((with_reducible refine ob_k ?_ ?_); focus kernel_rfl) | (refine yield_i hmix hT rfl hL efr eps eag ebd rfl (by kernel_rfl) ?_)  | (apply call_l (first_ok (l := [_, _]) (Nat.le_of_ble_eq_true rfl)) (.cons (vm_lit _ rfl rfl (.cons (vm_int rfl) (.cons (vm_int rfl) .nil))) .nil)) | (apply call_l (first_ok (l := [_, _, _]) (Nat.le_of_ble_eq_true rfl)) (.cons (vm_lit _ rfl rfl (.cons (vm_int rfl) (.cons (vm_int rfl) (.cons (vm_int rfl) .nil)))) .nil)) | (apply call_l (first_ok (l := [_, _, _, _]) (Nat.le_of_ble_eq_true rfl)) (.cons (vm_lit _ rfl rfl (.cons (vm_int rfl) (.cons (vm_int rfl) (.cons (vm_int rfl) (.cons (vm_int rfl) .nil))))) .nil))) <;> (try (exfalso; omega; done)) <;> (with_reducible conv => whnf))
  · ((try simp only [] at *); (try dsimp only [toN] at *))
    refine ⟨k + 1, by omega, by omega, ?_⟩
    refine ⟨[], rfl, ?_, ?_⟩ <;> repeat' (first | exact trivial | exact vm_p | exact vm_ptr rfl rfl rfl | exact vm_yld rfl rfl | exact vm_own rfl rfl rfl rfl | exact vm_own rfl rfl (by omega) (by omega) | exact vm_int (by omega) | exact vm_nil rfl | exact sbm_cells vmL_p | exact sbm_row rfl (fun _ _ => vm_p) | refine ⟨⟨_, rfl, ?_⟩, ?_⟩ | refine ⟨⟨_, _, _, rfl⟩, ?_⟩ | (refine sbm_loop ?_; rw [efr]) | refine sbm_cells ?_ | refine vmL.cons ?_ ?_ | exact vmL.nil | refine vm_own rfl rfl rfl ?_)
  · obtain rfl : k = l.length - 1 := by omega
    exact ret0 vm_p
theorem index_ok {l : List Int} {x : Int} (hl : l.length ≤ 9223372036854775807) : FnOK Try.prog 91 [eInts l, I x] (I (findIx (fun y => decide (x = y)) l 0)) [] := by
  refine fn_i hmix hT Try.f91 (by kernel_rfl) rfl (by kernel_rfl) ?_
  with_reducible conv => whnf
  refine loop_i hmix hT (fun k : Nat => ([(0, eInts l), (1, I x), (7, I l.length), (8, I k)], ⟨0, []⟩)) (fun k => k ≤ l.length ∧ ∀ i, i < k → decide (x = l.getD i 0) = false) (fun k => l.length - k) 0 ⟨by omega, by omega⟩ ?_ ?_
  · refine ⟨[], rfl, ?_, ?_⟩ <;> repeat' (first | exact trivial | exact vm_p | exact vm_ptr rfl rfl rfl | exact vm_yld rfl rfl | exact vm_own rfl rfl rfl rfl | exact vm_own rfl rfl (by omega) (by omega) | exact vm_int (by omega) | exact vm_nil rfl | exact sbm_cells vmL_p | exact sbm_row rfl (fun _ _ => vm_p) | refine ⟨⟨_, rfl, ?_⟩, ?_⟩ | refine ⟨⟨_, _, _, rfl⟩, ?_⟩ | (refine sbm_loop ?_; rw [efr]) | refine sbm_cells ?_ | refine vmL.cons ?_ ?_ | exact vmL.nil | refine vm_own rfl rfl rfl ?_)
  rintro k ⟨hk1, hk2⟩
  with_reducible conv => whnf
  repeat' ((first | (with_reducible refine branch_t ?_) | (with_reducible refine branch_f ?_) | (with_reducible refine branch_nt ?_) | (with_reducible refine branch_nf ?_) | (with_reducible refine branch_dec (fun _ => ?_) (fun _ => ?_)) | (with_reducible refine branch_ndec (fun _ => ?_) (fun _ => ?_)) | (with_reducible refine branch_bool (fun _ => ?_) (fun _ => ?_)) | (with_reducible refine arith_64 (by omega) ?_) | (with_reducible refine ob_i (by omega) (fun _ => ?_)) | (with_reducible refine ob_i (by unfold room; omega) (fun _ => ?_)) | (with_reducible refine ob_i (by (try simp only [toN_eq, Int.toNat_natCast] at *); (try dsimp only [toN] at *); omega) (fun _ => ?_)) | (with_reducible refine arith_64 (by (try simp only [toN_eq, Int.toNat_natCast] at *); (try dsimp only [toN] at *); omega) ?_) | (with_reducible refine ob_k rfl ?_) | ((with_reducible refine ob_k ?_ ?_); focus kernel_rfl) | (refine yield_i hmix hT rfl hL efr eps eag ebd rfl (by kernel_rfl) ?_)  | (apply call_l (first_ok (l := [_, _]) (Nat.le_of_ble_eq_true rfl)) (.cons (vm_lit _ rfl rfl (.cons (vm_int rfl) (.cons (vm_int rfl) .nil))) .nil)) | (apply call_l (first_ok (l := [_, _, _]) (Nat.le_of_ble_eq_true rfl)) (.cons (vm_lit _ rfl rfl (.cons (vm_int rfl) (.cons (vm_int rfl) (.cons (vm_int rfl) .nil)))) .nil)) | (apply call_l (first_ok (l := [_, _, _, _]) (Nat.le_of_ble_eq_true rfl)) (.cons (vm_lit _ rfl rfl (.cons (vm_int rfl) (.cons (vm_int rfl) (.cons (vm_int rfl) (.cons (vm_int rfl) .nil))))) .nil))) <;> (try (exfalso; omega; done)) <;> (with_reducible conv => whnf))
  all_goals ((try simp only [] at *); (try dsimp only [toN] at *))
  · exact ret0 (vm_int (by rw [findIx_hit (fun y => decide (x = y)) 0 l k 0 hk2 (by omega) (by simpa using ‹x = _›)]; simp))
  · refine ⟨k + 1, ⟨by omega, fun i hi => ?_⟩, by omega, ?_⟩
    · by_cases h : i = k
      · subst h; simpa using ‹¬ x = _›
      · exact hk2 i (by omega)
    · refine ⟨[], rfl, ?_, ?_⟩ <;> repeat' (first | exact trivial | exact vm_p | exact vm_ptr rfl rfl rfl | exact vm_yld rfl rfl | exact vm_own rfl rfl rfl rfl | exact vm_own rfl rfl (by omega) (by omega) | exact vm_int (by omega) | exact vm_nil rfl | exact sbm_cells vmL_p | exact sbm_row rfl (fun _ _ => vm_p) | refine ⟨⟨_, rfl, ?_⟩, ?_⟩ | refine ⟨⟨_, _, _, rfl⟩, ?_⟩ | (refine sbm_loop ?_; rw [efr]) | refine sbm_cells ?_ | refine vmL.cons ?_ ?_ | exact vmL.nil | refine vm_own rfl rfl rfl ?_)
  · exact ret0 (vm_int (by rw [findIx_none (fun y => decide (x = y)) 0 l 0 fun i hi => hk2 i (by omega)]))
theorem contains_ok {l : List Int} {x : Int} (hl : l.length ≤ 9223372036854775807) : FnOK Try.prog 116 [eInts l, I x] (B (decide (0 ≤ findIx (fun y => decide (x = y)) l 0))) [] := by
  refine fn_i hmix hT Try.f116 (by kernel_rfl) rfl (by kernel_rfl) ?_
  with_reducible conv => whnf
  repeat' ((first | (with_reducible refine branch_t ?_) | (with_reducible refine branch_f ?_) | (with_reducible refine branch_nt ?_) | (with_reducible refine branch_nf ?_) | (with_reducible refine branch_dec (fun _ => ?_) (fun _ => ?_)) | (with_reducible refine branch_ndec (fun _ => ?_) (fun _ => ?_)) | (with_reducible refine branch_bool (fun _ => ?_) (fun _ => ?_)) | (with_reducible refine arith_64 (by omega) ?_) | (with_reducible refine ob_i (by omega) (fun _ => ?_)) | (with_reducible refine ob_i (by unfold room; omega) (fun _ => ?_)) | (with_reducible refine ob_i (by (try simp only [toN_eq, Int.toNat_natCast] at *); (try dsimp only [toN] at *); omega) (fun _ => ?_)) | (with_reducible refine arith_64 (by (try simp only [toN_eq, Int.toNat_natCast] at *); (try dsimp only [toN] at *); omega) ?_) | (with_reducible refine ob_k rfl ?_) | ((with_reducible refine ob_k ?_ ?_); focus kernel_rfl) | (refine yield_i hmix hT rfl hL efr eps eag ebd rfl (by kernel_rfl) ?_) | (apply call_u (index_ok hl)) | (apply call_l (first_ok (l := [_, _]) (Nat.le_of_ble_eq_true rfl)) (.cons (vm_lit _ rfl rfl (.cons (vm_int rfl) (.cons (vm_int rfl) .nil))) .nil)) | (apply call_l (first_ok (l := [_, _, _]) (Nat.le_of_ble_eq_true rfl)) (.cons (vm_lit _ rfl rfl (.cons (vm_int rfl) (.cons (vm_int rfl) (.cons (vm_int rfl) .nil)))) .nil)) | (apply call_l (first_ok (l := [_, _, _, _]) (Nat.le_of_ble_eq_true rfl)) (.cons (vm_lit _ rfl rfl (.cons (vm_int rfl) (.cons (vm_int rfl) (.cons (vm_int rfl) (.cons (vm_int rfl) .nil))))) .nil))) <;> (try (exfalso; omega; done)) <;> (with_reducible conv => whnf))
  exact ret0 (vm_bool rfl)
/-! ### Fits, costs -/
def goodRow (r : Rules) (p : Path) (i : Nat) : Prop := 0 ≤ p.rows.getD i 0 ∧ (0 < i → dist (p.rows.getD i 0) (p.rows.getD (i - 1) 0) ≤ r.limit)
open Classical in
noncomputable def fitsB (r : Rules) (p : Path) : Bool := decide (p.fr = r.fr ∧ p.rows.length = nC r ∧ ∀ i, i < p.rows.length → goodRow r p i)
open Classical in
theorem fits_t {r : Rules} {p : Path} (h1 : p.fr = r.fr) (h2 : p.rows.length = nC r) (h3 : ∀ i, i < p.rows.length → goodRow r p i) : fitsB r p = true := by
  unfold fitsB; exact decide_eq_true ⟨h1, h2, h3⟩
open Classical in
theorem fits_f {r : Rules} {p : Path} (h : p.fr = r.fr → p.rows.length = nC r → (∀ i, i < p.rows.length → goodRow r p i) → False) : fitsB r p = false := by
  unfold fitsB; exact decide_eq_false fun ⟨a, b, c⟩ => h a b c
open Classical in
theorem fits_iff {r : Rules} {p : Path} : fitsB r p = true ↔ p.fr = r.fr ∧ p.rows.length = nC r ∧ ∀ i, i < p.rows.length → goodRow r p i := by
  unfold fitsB; exact ⟨fun h => of_decide_eq_true h, fun h => decide_eq_true h⟩
theorem rFits_ok {g : Gram} {r : Rules} {p : Path} (hv : g.Val) (rv : r.Val g) (pv : p.Val g) : FnOK Try.prog 48 [eRules r, ePath p] (B (fitsB r p)) [] := by
  have h1 := rv.fr
  have h2 := rv.le
  have h3 := rv.to
  have h4 := hv.c1
  have h5 := hv.r1
  have p3 := pv.n1
  have p1 := pv.fr
  have en : (nC r : Int) = r.to - r.fr + 1 := by unfold nC; omega
  refine fn_i hmix hT Try.f48 (by kernel_rfl) rfl (by kernel_rfl) ?_
  with_reducible conv => whnf
  repeat' ((first | (with_reducible refine branch_t ?_) | (with_reducible refine branch_f ?_) | (with_reducible refine branch_nt ?_) | (with_reducible refine branch_nf ?_) | (with_reducible refine branch_dec (fun _ => ?_) (fun _ => ?_)) | (with_reducible refine branch_ndec (fun _ => ?_) (fun _ => ?_)) | (with_reducible refine branch_bool (fun _ => ?_) (fun _ => ?_)) | (with_reducible refine arith_64 (by omega) ?_) | (with_reducible refine ob_i (by omega) (fun _ => ?_)) | (with_reducible refine ob_i (by unfold room; omega) (fun _ => ?_)) | (with_reducible refine ob_i (by (try simp only [toN_eq, Int.toNat_natCast] at *); (try dsimp only [toN] at *); omega) (fun _ => ?_)) | (with_reducible refine arith_64 (by (try simp only [toN_eq, Int.toNat_natCast] at *); (try dsimp only [toN] at *); omega) ?_) | (with_reducible refine ob_k rfl ?_) | ((with_reducible refine ob_k ?_ ?_); focus kernel_rfl) | (refine yield_i hmix hT rfl hL efr eps eag ebd rfl (by kernel_rfl) ?_)  | (apply call_l (first_ok (l := [_, _]) (Nat.le_of_ble_eq_true rfl)) (.cons (vm_lit _ rfl rfl (.cons (vm_int rfl) (.cons (vm_int rfl) .nil))) .nil)) | (apply call_l (first_ok (l := [_, _, _]) (Nat.le_of_ble_eq_true rfl)) (.cons (vm_lit _ rfl rfl (.cons (vm_int rfl) (.cons (vm_int rfl) (.cons (vm_int rfl) .nil)))) .nil)) | (apply call_l (first_ok (l := [_, _, _, _]) (Nat.le_of_ble_eq_true rfl)) (.cons (vm_lit _ rfl rfl (.cons (vm_int rfl) (.cons (vm_int rfl) (.cons (vm_int rfl) (.cons (vm_int rfl) .nil))))) .nil))) <;> (try (exfalso; omega; done)) <;> (with_reducible conv => whnf))
  · refine ret0 (vm_bool (fits_f fun a b _ => ?_).symm)
    omega
  · refine ret0 (vm_bool (fits_f fun a b _ => ?_).symm)
    omega
  refine loop_i hmix hT (fun k : Nat => ([(2, .ptr 0 0), (3, .ptr 1 0), (5, I k)], ⟨2, [(1, .cells [I p.fr, eInts p.rows] 27), (0, .cells [I r.tag, I r.miss, I r.jump, I r.limit, I r.fr, I r.to] 69)]⟩)) (fun k => k ≤ p.rows.length ∧ ∀ i, i < k → goodRow r p i) (fun k => p.rows.length - k) 0 ⟨by omega, by omega⟩ ?_ ?_
  · refine ⟨[], rfl, ?_, ?_⟩ <;> repeat' (first | exact trivial | exact vm_p | exact vm_ptr rfl rfl rfl | exact vm_yld rfl rfl | exact vm_own rfl rfl rfl rfl | exact vm_own rfl rfl (by omega) (by omega) | exact vm_int (by omega) | exact vm_nil rfl | exact sbm_cells vmL_p | exact sbm_row rfl (fun _ _ => vm_p) | refine ⟨⟨_, rfl, ?_⟩, ?_⟩ | refine ⟨⟨_, _, _, rfl⟩, ?_⟩ | (refine sbm_loop ?_; rw [efr]) | refine sbm_cells ?_ | refine vmL.cons ?_ ?_ | exact vmL.nil | refine vm_own rfl rfl rfl ?_)
  rintro k ⟨hk1, hk2⟩
  have r1 := pv.rows k
  have r2 := pv.rows (k - 1)
  have r3 : 0 < k → p.rows.getD (k - 1) 0 = p.rows.getD ((k : Int) - 1).toNat 0 := fun h => by rw [show ((k : Int) - 1).toNat = k - 1 by omega]
  with_reducible conv => whnf
  repeat' ((first | (with_reducible refine branch_t ?_) | (with_reducible refine branch_f ?_) | (with_reducible refine branch_nt ?_) | (with_reducible refine branch_nf ?_) | (with_reducible refine branch_dec (fun _ => ?_) (fun _ => ?_)) | (with_reducible refine branch_ndec (fun _ => ?_) (fun _ => ?_)) | (with_reducible refine branch_bool (fun _ => ?_) (fun _ => ?_)) | (with_reducible refine arith_64 (by omega) ?_) | (with_reducible refine ob_i (by omega) (fun _ => ?_)) | (with_reducible refine ob_i (by unfold room; omega) (fun _ => ?_)) | (with_reducible refine ob_i (by (try simp only [toN_eq] at *); (try dsimp only [toN] at *); omega) (fun _ => ?_)) | (with_reducible refine arith_64 (by (try simp only [toN_eq] at *); (try dsimp only [toN] at *); omega) ?_) | (with_reducible refine ob_k rfl ?_) | ((with_reducible refine ob_k ?_ ?_); focus kernel_rfl) | (refine yield_i hmix hT rfl hL efr eps eag ebd rfl (by kernel_rfl) ?_) | (apply call_u (bSize_ok (by (try simp only [toN_eq] at *); (try dsimp only [toN] at *); omega))) | (apply call_l (first_ok (l := [_, _]) (Nat.le_of_ble_eq_true rfl)) (.cons (vm_lit _ rfl rfl (.cons (vm_int rfl) (.cons (vm_int rfl) .nil))) .nil)) | (apply call_l (first_ok (l := [_, _, _]) (Nat.le_of_ble_eq_true rfl)) (.cons (vm_lit _ rfl rfl (.cons (vm_int rfl) (.cons (vm_int rfl) (.cons (vm_int rfl) .nil)))) .nil)) | (apply call_l (first_ok (l := [_, _, _, _]) (Nat.le_of_ble_eq_true rfl)) (.cons (vm_lit _ rfl rfl (.cons (vm_int rfl) (.cons (vm_int rfl) (.cons (vm_int rfl) (.cons (vm_int rfl) .nil))))) .nil))) <;> (try (exfalso; omega; done)) <;> (with_reducible conv => whnf))
  all_goals ((try simp only [toN_eq] at *); (try dsimp only [toN] at *))
  · refine ret0 (vm_bool (fits_f fun _ _ c => ?_).symm)
    have := c k (by omega)
    unfold goodRow dist at this; omega
  · refine ret0 (vm_bool (fits_f fun _ _ c => ?_).symm)
    have := c k (by omega)
    unfold goodRow dist at this; omega
  · refine ⟨k + 1, ⟨by omega, fun i hi => ?_⟩, by omega, ?_⟩
    · by_cases h : i = k
      · subst h; unfold goodRow dist; omega
      · exact hk2 i (by omega)
    · refine ⟨[], rfl, ?_, ?_⟩ <;> repeat' (first | exact trivial | exact vm_p | exact vm_ptr rfl rfl rfl | exact vm_yld rfl rfl | exact vm_own rfl rfl rfl rfl | exact vm_own rfl rfl (by omega) (by omega) | exact vm_int (by omega) | exact vm_nil rfl | exact sbm_cells vmL_p | exact sbm_row rfl (fun _ _ => vm_p) | refine ⟨⟨_, rfl, ?_⟩, ?_⟩ | refine ⟨⟨_, _, _, rfl⟩, ?_⟩ | (refine sbm_loop ?_; rw [efr]) | refine sbm_cells ?_ | refine vmL.cons ?_ ?_ | exact vmL.nil | refine vm_own rfl rfl rfl ?_)
  · refine ⟨k + 1, ⟨by omega, fun i hi => ?_⟩, by omega, ?_⟩
    · by_cases h : i = k
      · subst h; unfold goodRow dist; omega
      · exact hk2 i (by omega)
    · refine ⟨[], rfl, ?_, ?_⟩ <;> repeat' (first | exact trivial | exact vm_p | exact vm_ptr rfl rfl rfl | exact vm_yld rfl rfl | exact vm_own rfl rfl rfl rfl | exact vm_own rfl rfl (by omega) (by omega) | exact vm_int (by omega) | exact vm_nil rfl | exact sbm_cells vmL_p | exact sbm_row rfl (fun _ _ => vm_p) | refine ⟨⟨_, rfl, ?_⟩, ?_⟩ | refine ⟨⟨_, _, _, rfl⟩, ?_⟩ | (refine sbm_loop ?_; rw [efr]) | refine sbm_cells ?_ | refine vmL.cons ?_ ?_ | exact vmL.nil | refine vm_own rfl rfl rfl ?_)
  · exact ret0 (vm_bool (fits_t (by omega) (by omega) fun i hi => hk2 i (by omega)).symm)
end Go.Proofs.Ytmiphilcplojnaa
