/-
  Chapter 3: the least costs from each cell on (the program's, by contract).
  Conditions: none.
-/
import Derived.Test.Ytmiphilcplojnaa3I
namespace Go.Proofs.Ytmiphilcplojnaa
open Go.RowKit Fx
/-- The row of a column that d columns follow. -/
@[reducible] def avRow (g : Gram) (r : Rules) (d : Nat) : V := .sl 1 (rowsN g) fun w => I (avD g r d w)
@[reducible] def eAv (g : Gram) (r : Rules) : V := .sl 1 (nC r) fun i => avRow g r (nC r - 1 - i)
/-- The rows when d columns are done. -/
def oRow (g : Gram) (r : Rules) (d : Nat) : Nat → V := fun j => if nC r ≤ d + j then avRow g r (nC r - 1 - j) else .sc (.slice none 0 0)
def iRow (g : Gram) (r : Rules) (d : Nat) (cur : V) : Nat → V := fun j => if j + d + 1 = nC r then cur else oRow g r d j
theorem oRow_pure (g : Gram) (r : Rules) (d j : Nat) : IsPure (oRow g r d j) := by
  unfold oRow
  split
  · infer_instance
  · infer_instance
theorem vm_oRow {S : Vw} (g : Gram) (r : Rules) (d j : Nat) : vm S (oRow g r d j) (oRow g r d j) := vm_pure (oRow_pure g r d j).h
theorem oRow_none {g : Gram} {r : Rules} {d j : Nat} (h : d + j < nC r) : oRow g r d j = .sc (.slice none 0 0) := if_neg (by omega)
theorem oRow_some {g : Gram} {r : Rules} {d j : Nat} (h : nC r ≤ d + j) : oRow g r d j = avRow g r (nC r - 1 - j) := if_pos h
theorem iRow_at {g : Gram} {r : Rules} {d j : Nat} {cur : V} (h : j + d + 1 = nC r) : iRow g r d cur j = cur := if_pos h
theorem iRow_ne {g : Gram} {r : Rules} {d j : Nat} {cur : V} (h : j + d + 1 ≠ nC r) : iRow g r d cur j = oRow g r d j := if_neg h
theorem vm_iRow0 {S : Vw} {g : Gram} {r : Rules} {d j b : Nat} : vm S (oRow g r d j) (iRow g r d (.own b 1 0 0) j) := by
  by_cases h : j + d + 1 = nC r
  · rw [iRow_at h, oRow_none (by omega)]; exact vm_nil rfl
  · rw [iRow_ne h]; exact vm_oRow g r d j
theorem oRow_next {g : Gram} {r : Rules} {d j : Nat} (h : j + d + 1 ≠ nC r) : oRow g r (d + 1) j = oRow g r d j := by
  unfold oRow
  by_cases h2 : nC r ≤ d + j
  · rw [if_pos h2, if_pos (by omega)]
  · rw [if_neg h2, if_neg (by omega)]
theorem vm_setI {S : Vw} {g : Gram} {r : Rules} {d j q b b' m : Nat} {old : V} (hq : q + d + 1 = nC r) (hs : sget S.σ b' = some b) (hn : Nat.blt b' S.H'.n = true) : vm S (setF (iRow g r d old) q (.own b 1 0 m) j) (iRow g r d (.own b' 1 0 m) j) := by
  by_cases h : j = q
  · subst h
    rw [setF_at, iRow_at hq]
    exact vm_own hs hn rfl rfl
  · rw [setF_ne h, iRow_ne (by omega), iRow_ne (by omega)]
    exact vm_oRow g r d j
theorem vm_doneI {H : SW} {σ : Sig} {g : Gram} {r : Rules} {d j b : Nat} {H' : SW} {t : TypeId} (hg : hget H.l b = some (.row 1 (rowsN g) (fun w => I (avD g r d w)) t)) (hk : ((H'.l.map (·.1)).all fun c => !(sget σ c == some b)) = true) :
    vm { H := H, H' := H', σ := σ } (iRow g r d (.own b 1 0 (rowsN g)) j) (oRow g r (d + 1) j) := by
  by_cases h : j + d + 1 = nC r
  · rw [iRow_at h, oRow_some (by omega), show nC r - 1 - j = d by omega]
    exact vm_fr hg hk rfl (Nat.le_refl _) fun i hi => vm_p
  · rw [iRow_ne h, oRow_next h]
    exact vm_oRow g r d j
theorem rowsI_ok {g : Gram} (h : 0 < g.cols.length) : FnOK Try.prog 113 [eGram g] (I (rowsN g)) [] := rows_ok h
def wayF (g : Gram) (r : Rules) (d w : Nat) (s : Nat) : Int := stepC r w s + avD g r d s
set_option maxHeartbeats 4000000 in
set_option maxRecDepth 100000 in
theorem ahead_ok {g : Gram} {r : Rules} (hv : g.Val) (rv : r.Val g) : FnOK Try.prog 89 [eSearch g r] (eAv g r) [] := by
  have h1 := rv.fr
  have h2 := rv.le
  have h3 := rv.to
  have h4 := hv.c1
  have h5 := hv.r1
  have h6 := hv.r0
  have h7 := hv.c0
  have h8 := rv.limit
  have en : (nC r : Int) = r.to - r.fr + 1 := by unfold nC; omega
  refine fn_i hmix hT Try.f89 (by kernel_rfl) rfl (by kernel_rfl) ?_
  with_reducible conv => whnf
  repeat' ((first | (with_reducible refine branch_t ?_) | (with_reducible refine branch_f ?_) | (with_reducible refine branch_nt ?_) | (with_reducible refine branch_nf ?_) | (with_reducible refine branch_dec (fun _ => ?_) (fun _ => ?_)) | (with_reducible refine branch_ndec (fun _ => ?_) (fun _ => ?_)) | (with_reducible refine branch_bool (fun _ => ?_) (fun _ => ?_)) | (with_reducible refine arith_64 (by omega) ?_) | (with_reducible refine ob_i (by omega) (fun _ => ?_)) | (with_reducible refine ob_i (by unfold room; omega) (fun _ => ?_)) | (with_reducible refine ob_i (by (try simp only [toN_eq, Int.toNat_natCast] at *); (try dsimp only [toN] at *); omega) (fun _ => ?_)) | (with_reducible refine arith_64 (by (try simp only [toN_eq, Int.toNat_natCast] at *); (try dsimp only [toN] at *); omega) ?_) | (with_reducible refine ob_k rfl ?_) | ((with_reducible refine ob_k ?_ ?_); focus kernel_rfl) | (refine yield_i hmix hT rfl hL efr eps eag ebd rfl (by kernel_rfl) ?_) | (apply call_u (columns_ok rv hv)) | (apply call_l (first_ok (l := [_, _]) (Nat.le_of_ble_eq_true rfl)) (.cons (vm_lit _ rfl rfl (.cons (vm_int rfl) (.cons (vm_int rfl) .nil))) .nil)) | (apply call_l (first_ok (l := [_, _, _]) (Nat.le_of_ble_eq_true rfl)) (.cons (vm_lit _ rfl rfl (.cons (vm_int rfl) (.cons (vm_int rfl) (.cons (vm_int rfl) .nil)))) .nil)) | (apply call_l (first_ok (l := [_, _, _, _]) (Nat.le_of_ble_eq_true rfl)) (.cons (vm_lit _ rfl rfl (.cons (vm_int rfl) (.cons (vm_int rfl) (.cons (vm_int rfl) (.cons (vm_int rfl) .nil))))) .nil))) <;> (try (exfalso; omega; done)) <;> (with_reducible conv => whnf))
  refine loop_i hmix hT (fun d : Nat => ([(1, .ptr 0 0), (2, .sc (.slice none 0 0)), (3, .ptr 2 0), (4, .ptr 3 0)], ⟨4, [(3, .cells [I ((nC r : Int) - 1 - d)] 3), (2, .cells [.own 1 1 0 (nC r)] 115), (1, .row 1 (nC r) (oRow g r d) 25), (0, .cells [I g.first, I g.step, eCols g.cols, I r.tag, I r.miss, I r.jump, I r.limit, I r.fr, I r.to] 148)]⟩)) (fun d => d ≤ nC r) (fun d => nC r - d) 0 (by omega) ?_ ?_
  · refine ⟨[], rfl, ⟨⟨_, rfl, vm_ptr rfl rfl rfl⟩, ⟨_, rfl, vm_p⟩, ⟨_, rfl, vm_ptr rfl rfl rfl⟩, ⟨_, rfl, vm_ptr rfl rfl rfl⟩, trivial⟩, ⟨⟨_, rfl, sbm_cells (.cons (vm_int (by omega)) .nil)⟩, ⟨_, rfl, sbm_cells (.cons (vm_own rfl rfl rfl rfl) .nil)⟩, ⟨_, rfl, sbm_row rfl fun j hj => ?_⟩, ⟨_, rfl, sbm_cells vmL_p⟩, trivial⟩⟩
    rw [oRow_none (by omega)]
    exact vm_p
  intro d hd
  with_reducible conv => whnf
  repeat' ((first | (with_reducible refine branch_t ?_) | (with_reducible refine branch_f ?_) | (with_reducible refine branch_nt ?_) | (with_reducible refine branch_nf ?_) | (with_reducible refine branch_dec (fun _ => ?_) (fun _ => ?_)) | (with_reducible refine branch_ndec (fun _ => ?_) (fun _ => ?_)) | (with_reducible refine branch_bool (fun _ => ?_) (fun _ => ?_)) | (with_reducible refine arith_64 (by omega) ?_) | (with_reducible refine ob_i (by omega) (fun _ => ?_)) | (with_reducible refine ob_i (by unfold room; omega) (fun _ => ?_)) | (with_reducible refine ob_i (by (try simp only [toN_eq, Int.toNat_natCast] at *); (try dsimp only [toN] at *); omega) (fun _ => ?_)) | (with_reducible refine arith_64 (by (try simp only [toN_eq, Int.toNat_natCast] at *); (try dsimp only [toN] at *); omega) ?_) | (with_reducible refine ob_k rfl ?_) | ((with_reducible refine ob_k ?_ ?_); focus kernel_rfl) | (refine yield_i hmix hT rfl hL efr eps eag ebd rfl (by kernel_rfl) ?_) | (apply call_u (rowsI_ok h7)) | (apply call_l (first_ok (l := [_, _]) (Nat.le_of_ble_eq_true rfl)) (.cons (vm_lit _ rfl rfl (.cons (vm_int rfl) (.cons (vm_int rfl) .nil))) .nil)) | (apply call_l (first_ok (l := [_, _, _]) (Nat.le_of_ble_eq_true rfl)) (.cons (vm_lit _ rfl rfl (.cons (vm_int rfl) (.cons (vm_int rfl) (.cons (vm_int rfl) .nil)))) .nil)) | (apply call_l (first_ok (l := [_, _, _, _]) (Nat.le_of_ble_eq_true rfl)) (.cons (vm_lit _ rfl rfl (.cons (vm_int rfl) (.cons (vm_int rfl) (.cons (vm_int rfl) (.cons (vm_int rfl) .nil))))) .nil))) <;> (try (exfalso; omega; done)) <;> (with_reducible conv => whnf))
  · -- a column
    refine loop_i hmix hT (fun k : Nat => ([(1, .ptr 0 0), (2, .sc (.slice none 0 0)), (3, .ptr 2 0), (4, .ptr 3 0), (22, I (rowsN g)), (23, I k)], ⟨5, [(4, .row 1 k (fun w => I (avD g r d w)) 3), (3, .cells [I ((nC r : Int) - 1 - d)] 3), (2, .cells [.own 1 1 0 (nC r)] 115), (1, .row 1 (nC r) (iRow g r d (.own 4 1 0 k)) 25), (0, .cells [I g.first, I g.step, eCols g.cols, I r.tag, I r.miss, I r.jump, I r.limit, I r.fr, I r.to] 148)]⟩)) (fun k => k ≤ rowsN g) (fun k => rowsN g - k) 0 (by omega) ?_ ?_
    · refine ⟨[(4, none)], rfl, ⟨⟨_, rfl, vm_ptr rfl rfl rfl⟩, ⟨_, rfl, vm_p⟩, ⟨_, rfl, vm_ptr rfl rfl rfl⟩, ⟨_, rfl, vm_ptr rfl rfl rfl⟩, ⟨_, rfl, vm_p⟩, ⟨_, rfl, vm_p⟩, trivial⟩, ⟨⟨_, _, _, rfl⟩, ⟨_, rfl, sbm_cells vmL_p⟩, ⟨_, rfl, sbm_cells (.cons (vm_own rfl rfl rfl rfl) .nil)⟩, ⟨_, rfl, sbm_row rfl fun j hj => vm_iRow0⟩, ⟨_, rfl, sbm_cells vmL_p⟩, trivial⟩⟩
    intro k hk
    have cur : iRow g r d (.own 4 1 0 k) (0 + toN ((nC r : Int) - 1 - d)) = .own 4 1 0 k := iRow_at (by rw [toN_eq]; omega)
    have col : (r.fr + ((nC r : Int) - 1 - d)).toNat = r.to.toNat - d := by omega
    with_reducible conv => whnf
    have PR : k < rowsN g → FnOK Try.prog 93 [eSearch g r, I (r.fr + ((nC r : Int) - 1 - d)), I k] (I (price g r (r.to.toNat - d) k)) [] := fun h => by
      have := mPriceI (r := r) (c := r.fr + ((nC r : Int) - 1 - d)) (w := k) hv (by omega) (by omega)
      rw [col] at this; exact this
    have pr := fun h => price_le hv rv (c := r.to.toNat - d) (w := k) (by omega) h
    have hs := fun h => avD_bd hv rv d k (by omega) h
    cases d with
    | zero =>
      repeat' ((first | (with_reducible refine branch_t ?_) | (with_reducible refine branch_f ?_) | (with_reducible refine branch_nt ?_) | (with_reducible refine branch_nf ?_) | (with_reducible refine branch_dec (fun _ => ?_) (fun _ => ?_)) | (with_reducible refine branch_ndec (fun _ => ?_) (fun _ => ?_)) | (with_reducible refine branch_bool (fun _ => ?_) (fun _ => ?_)) | (with_reducible refine arith_64 (by omega) ?_) | (with_reducible refine ob_i (by omega) (fun _ => ?_)) | (with_reducible refine ob_i (by unfold room; omega) (fun _ => ?_)) | (with_reducible refine ob_i (by (try simp only [toN_eq] at *); (try dsimp only [toN] at *); omega) (fun _ => ?_)) | (with_reducible refine arith_64 (by (try simp only [toN_eq] at *); (try dsimp only [toN] at *); omega) ?_) | (with_reducible refine ob_k rfl ?_) | ((with_reducible refine ob_k ?_ ?_); focus kernel_rfl) | (refine yield_i hmix hT rfl hL efr eps eag ebd rfl (by kernel_rfl) ?_) | (apply call_u (columns_ok rv hv)) | (apply call_l (first_ok (l := [_, _]) (Nat.le_of_ble_eq_true rfl)) (.cons (vm_lit _ rfl rfl (.cons (vm_int rfl) (.cons (vm_int rfl) .nil))) .nil)) | (apply call_l (first_ok (l := [_, _, _]) (Nat.le_of_ble_eq_true rfl)) (.cons (vm_lit _ rfl rfl (.cons (vm_int rfl) (.cons (vm_int rfl) (.cons (vm_int rfl) .nil)))) .nil)) | (apply call_l (first_ok (l := [_, _, _, _]) (Nat.le_of_ble_eq_true rfl)) (.cons (vm_lit _ rfl rfl (.cons (vm_int rfl) (.cons (vm_int rfl) (.cons (vm_int rfl) (.cons (vm_int rfl) .nil))))) .nil))) <;> (try (exfalso; omega; done)) <;> (with_reducible conv => whnf))
      · with_reducible refine elemK_of cur ?_
        with_reducible conv => whnf
        repeat' ((first | (with_reducible refine branch_t ?_) | (with_reducible refine branch_f ?_) | (with_reducible refine branch_nt ?_) | (with_reducible refine branch_nf ?_) | (with_reducible refine branch_dec (fun _ => ?_) (fun _ => ?_)) | (with_reducible refine branch_ndec (fun _ => ?_) (fun _ => ?_)) | (with_reducible refine branch_bool (fun _ => ?_) (fun _ => ?_)) | (with_reducible refine arith_64 (by omega) ?_) | (with_reducible refine ob_i (by omega) (fun _ => ?_)) | (with_reducible refine ob_i (by unfold room; omega) (fun _ => ?_)) | (with_reducible refine ob_i (by (try simp only [toN_eq] at *); (try dsimp only [toN] at *); omega) (fun _ => ?_)) | (with_reducible refine arith_64 (by (try simp only [toN_eq] at *); (try dsimp only [toN] at *); omega) ?_) | (with_reducible refine ob_k rfl ?_) | ((with_reducible refine ob_k ?_ ?_); focus kernel_rfl) | (refine yield_i hmix hT rfl hL efr eps eag ebd rfl (by kernel_rfl) ?_) | (apply call_u (PR (by omega))) | (apply call_l (first_ok (l := [_, _]) (Nat.le_of_ble_eq_true rfl)) (.cons (vm_lit _ rfl rfl (.cons (vm_int rfl) (.cons (vm_int rfl) .nil))) .nil)) | (apply call_l (first_ok (l := [_, _, _]) (Nat.le_of_ble_eq_true rfl)) (.cons (vm_lit _ rfl rfl (.cons (vm_int rfl) (.cons (vm_int rfl) (.cons (vm_int rfl) .nil)))) .nil)) | (apply call_l (first_ok (l := [_, _, _, _]) (Nat.le_of_ble_eq_true rfl)) (.cons (vm_lit _ rfl rfl (.cons (vm_int rfl) (.cons (vm_int rfl) (.cons (vm_int rfl) (.cons (vm_int rfl) .nil))))) .nil))) <;> (try (exfalso; omega; done)) <;> (with_reducible conv => whnf))
        refine ⟨k + 1, by omega, by omega, ?_⟩
        refine ⟨[(4, some 6)], rfl, ⟨⟨_, rfl, vm_ptr rfl rfl rfl⟩, ⟨_, rfl, vm_p⟩, ⟨_, rfl, vm_ptr rfl rfl rfl⟩, ⟨_, rfl, vm_ptr rfl rfl rfl⟩, ⟨_, rfl, vm_p⟩, ⟨_, rfl, vm_int (by omega)⟩, trivial⟩, ⟨⟨_, rfl, sbm_row rfl fun j hj => ?_⟩, ⟨_, rfl, sbm_cells vmL_p⟩, ⟨_, rfl, sbm_cells (.cons (vm_own rfl rfl rfl rfl) .nil)⟩, ⟨_, rfl, sbm_row rfl fun j hj => ?_⟩, ⟨_, rfl, sbm_cells vmL_p⟩, trivial⟩⟩
        · exact vm_snoc (e' := fun w => I (avD g r 0 w)) hj (fun _ _ => vm_p) (vm_int (by simp [avD]))
        · exact vm_setI (by rw [toN_eq]; omega) rfl rfl
      · obtain rfl : k = rowsN g := by omega
        refine ⟨0 + 1, by omega, by omega, ?_⟩
        refine ⟨[(3, some 5)], rfl, ⟨⟨_, rfl, vm_ptr rfl rfl rfl⟩, ⟨_, rfl, vm_p⟩, ⟨_, rfl, vm_ptr rfl rfl rfl⟩, ⟨_, rfl, vm_ptr rfl rfl rfl⟩, trivial⟩, ⟨⟨_, rfl, sbm_cells (.cons (vm_int (by omega)) .nil)⟩, ⟨_, rfl, sbm_cells (.cons (vm_own rfl rfl rfl rfl) .nil)⟩, ⟨_, rfl, sbm_row rfl fun j hj => vm_doneI rfl rfl⟩, ⟨_, rfl, sbm_cells vmL_p⟩, trivial⟩⟩
    | succ d =>
      have lw := loW_le (g := g) (r := r) (w := k)
      have elo : loW r k = k - r.limit.toNat := rfl
      have ehi : hiW g r k = min (rowsN g - 1) (k + r.limit.toNat) := rfl
      repeat' ((first | (with_reducible refine branch_t ?_) | (with_reducible refine branch_f ?_) | (with_reducible refine branch_nt ?_) | (with_reducible refine branch_nf ?_) | (with_reducible refine branch_dec (fun _ => ?_) (fun _ => ?_)) | (with_reducible refine branch_ndec (fun _ => ?_) (fun _ => ?_)) | (with_reducible refine branch_bool (fun _ => ?_) (fun _ => ?_)) | (with_reducible refine arith_64 (by omega) ?_) | (with_reducible refine ob_i (by omega) (fun _ => ?_)) | (with_reducible refine ob_i (by unfold room; omega) (fun _ => ?_)) | (with_reducible refine ob_i (by (try simp only [toN_eq] at *); (try dsimp only [toN] at *); omega) (fun _ => ?_)) | (with_reducible refine arith_64 (by (try simp only [toN_eq] at *); (try dsimp only [toN] at *); omega) ?_) | (with_reducible refine ob_k rfl ?_) | ((with_reducible refine ob_k ?_ ?_); focus kernel_rfl) | (refine yield_i hmix hT rfl hL efr eps eag ebd rfl (by kernel_rfl) ?_) | (apply call_u (columns_ok rv hv)) | (apply call_u (near_ok (g := g) (r := r))) | (apply call_l (first_ok (l := [_, _]) (Nat.le_of_ble_eq_true rfl)) (.cons (vm_lit _ rfl rfl (.cons (vm_int rfl) (.cons (vm_int rfl) .nil))) .nil)) | (apply call_l (first_ok (l := [_, _, _]) (Nat.le_of_ble_eq_true rfl)) (.cons (vm_lit _ rfl rfl (.cons (vm_int rfl) (.cons (vm_int rfl) (.cons (vm_int rfl) .nil)))) .nil)) | (apply call_l (first_ok (l := [_, _, _, _]) (Nat.le_of_ble_eq_true rfl)) (.cons (vm_lit _ rfl rfl (.cons (vm_int rfl) (.cons (vm_int rfl) (.cons (vm_int rfl) (.cons (vm_int rfl) .nil))))) .nil))) <;> (try (exfalso; omega; done)) <;> (with_reducible conv => whnf))
      · refine range_i hmix hT rfl Try.f114 (by kernel_rfl) rfl (by kernel_rfl) 0 [1, 2, 3, 4, 5, 7, 22, 23] (by kernel_rfl) ?_
        intro L efr eps eag ebd etok hL
        with_reducible conv => whnf
        repeat' ((first | (with_reducible refine branch_t ?_) | (with_reducible refine branch_f ?_) | (with_reducible refine branch_nt ?_) | (with_reducible refine branch_nf ?_) | (with_reducible refine branch_dec (fun _ => ?_) (fun _ => ?_)) | (with_reducible refine branch_ndec (fun _ => ?_) (fun _ => ?_)) | (with_reducible refine branch_bool (fun _ => ?_) (fun _ => ?_)) | (with_reducible refine arith_64 (by omega) ?_) | (with_reducible refine ob_i (by omega) (fun _ => ?_)) | (with_reducible refine ob_i (by unfold room; omega) (fun _ => ?_)) | (with_reducible refine ob_i (by (try simp only [toN_eq] at *); (try dsimp only [toN] at *); omega) (fun _ => ?_)) | (with_reducible refine arith_64 (by (try simp only [toN_eq] at *); (try dsimp only [toN] at *); omega) ?_) | (with_reducible refine ob_k rfl ?_) | ((with_reducible refine ob_k ?_ ?_); focus kernel_rfl) | (refine yield_i hmix hT rfl hL efr eps eag ebd rfl (by kernel_rfl) ?_)  | (apply call_l (first_ok (l := [_, _]) (Nat.le_of_ble_eq_true rfl)) (.cons (vm_lit _ rfl rfl (.cons (vm_int rfl) (.cons (vm_int rfl) .nil))) .nil)) | (apply call_l (first_ok (l := [_, _, _]) (Nat.le_of_ble_eq_true rfl)) (.cons (vm_lit _ rfl rfl (.cons (vm_int rfl) (.cons (vm_int rfl) (.cons (vm_int rfl) .nil)))) .nil)) | (apply call_l (first_ok (l := [_, _, _, _]) (Nat.le_of_ble_eq_true rfl)) (.cons (vm_lit _ rfl rfl (.cons (vm_int rfl) (.cons (vm_int rfl) (.cons (vm_int rfl) (.cons (vm_int rfl) .nil))))) .nil))) <;> (try (exfalso; omega; done)) <;> (with_reducible conv => whnf))
        refine loop_i hmix hT (fun j : Nat => ([(0, .yld 6), (1, .pv [I k] 0), (2, .pv [I g.first, I g.step, eCols g.cols, I r.tag, I r.miss, I r.jump, I r.limit, I r.fr, I r.to] 0), (4, I (loW r k + j : Nat))], ⟨8, [(6, .loop L .ready), (7, .row 1 j (fun q => I (wayF g r d k (loW r k + q))) 3), (5, .cells [.own 7 1 0 j] 25), (4, .row 1 k (fun w => I (avD g r (d + 1) w)) 3), (3, .cells [I ((nC r : Int) - 1 - (d + 1 : Nat))] 3), (2, .cells [.own 1 1 0 (nC r)] 115), (1, .row 1 (nC r) (iRow g r (d + 1) (.own 4 1 0 k)) 25), (0, .cells [I g.first, I g.step, eCols g.cols, I r.tag, I r.miss, I r.jump, I r.limit, I r.fr, I r.to] 148)]⟩)) (fun j => loW r k + j ≤ hiW g r k + 1) (fun j => hiW g r k + 1 - (loW r k + j)) 0 (by omega) ?_ ?_
        · refine ⟨[(7, none)], rfl, ⟨⟨_, rfl, vm_yld rfl rfl⟩, ⟨_, rfl, vm_p⟩, ⟨_, rfl, vm_p⟩, ⟨_, rfl, vm_int (by omega)⟩, trivial⟩, ⟨⟨_, rfl, sbm_loop ?_⟩, ⟨_, _, _, rfl⟩, ⟨_, rfl, sbm_cells (.cons (vm_nil rfl) .nil)⟩, ⟨_, rfl, sbm_row rfl fun _ _ => vm_p⟩, ⟨_, rfl, sbm_cells vmL_p⟩, ⟨_, rfl, sbm_cells (.cons (vm_own rfl rfl rfl rfl) .nil)⟩, ⟨_, rfl, sbm_row rfl fun j hj => ?_⟩, ⟨_, rfl, sbm_cells vmL_p⟩, trivial⟩⟩
          · rw [efr]
            exact ⟨⟨_, rfl, vm_ptr rfl rfl rfl⟩, ⟨_, rfl, vm_p⟩, ⟨_, rfl, vm_ptr rfl rfl rfl⟩, ⟨_, rfl, vm_ptr rfl rfl rfl⟩, ⟨_, rfl, vm_p⟩, ⟨_, rfl, vm_ptr rfl rfl rfl⟩, ⟨_, rfl, vm_p⟩, ⟨_, rfl, vm_p⟩, trivial⟩
          · by_cases hj2 : j + (d + 1) + 1 = nC r
            · rw [iRow_at hj2]; exact vm_own rfl rfl rfl rfl
            · rw [iRow_ne hj2]; exact vm_oRow g r (d + 1) j
        intro j hj
        have st := fun h h' => stepC_le rv (a := k) (b := loW r k + j) h h'
        have st2 : k < 12 → loW r k + j < 12 → 0 ≤ r.jump * max (((loW r k + j : Nat) : Int) - k) (-(((loW r k + j : Nat) : Int) - k)) ∧ r.jump * max (((loW r k + j : Nat) : Int) - k) (-(((loW r k + j : Nat) : Int) - k)) ≤ 11000 := st
        have nxt : iRow g r (d + 1) (.own 4 1 0 k) (0 + toN ((nC r : Int) - 1 - (d + 1 : Nat) + 1)) = avRow g r d := by
          rw [toN_eq, iRow_ne (by omega), oRow_some (by omega)]
          congr 1
          omega
        have ad := fun h => avD_bd hv rv d (loW r k + j) (by omega) h
        with_reducible conv => whnf
        repeat' ((first | (with_reducible refine branch_t ?_) | (with_reducible refine branch_f ?_) | (with_reducible refine branch_nt ?_) | (with_reducible refine branch_nf ?_) | (with_reducible refine branch_dec (fun _ => ?_) (fun _ => ?_)) | (with_reducible refine branch_ndec (fun _ => ?_) (fun _ => ?_)) | (with_reducible refine branch_bool (fun _ => ?_) (fun _ => ?_)) | (with_reducible refine arith_64 (by omega) ?_) | (with_reducible refine ob_i (by omega) (fun _ => ?_)) | (with_reducible refine ob_i (by unfold room; omega) (fun _ => ?_)) | (with_reducible refine ob_i (by (try simp only [toN_eq] at *); (try dsimp only [toN] at *); omega) (fun _ => ?_)) | (with_reducible refine arith_64 (by (try simp only [toN_eq] at *); (try dsimp only [toN] at *); omega) ?_) | (with_reducible refine ob_k rfl ?_) | ((with_reducible refine ob_k ?_ ?_); focus kernel_rfl) | (refine yield_i hmix hT rfl hL efr eps eag ebd rfl (by kernel_rfl) ?_) | (apply call_u (rowsI_ok h7)) | (apply call_u (size_ok (by omega))) | (with_reducible refine elemK_of nxt ?_) | (apply call_l (first_ok (l := [_, _]) (Nat.le_of_ble_eq_true rfl)) (.cons (vm_lit _ rfl rfl (.cons (vm_int rfl) (.cons (vm_int rfl) .nil))) .nil)) | (apply call_l (first_ok (l := [_, _, _]) (Nat.le_of_ble_eq_true rfl)) (.cons (vm_lit _ rfl rfl (.cons (vm_int rfl) (.cons (vm_int rfl) (.cons (vm_int rfl) .nil)))) .nil)) | (apply call_l (first_ok (l := [_, _, _, _]) (Nat.le_of_ble_eq_true rfl)) (.cons (vm_lit _ rfl rfl (.cons (vm_int rfl) (.cons (vm_int rfl) (.cons (vm_int rfl) (.cons (vm_int rfl) .nil))))) .nil))) <;> (try (exfalso; omega; done)) <;> (with_reducible conv => whnf))
        · refine ⟨j + 1, by omega, by omega, ?_⟩
          refine ⟨[(7, some 9)], rfl, ⟨⟨_, rfl, vm_yld rfl rfl⟩, ⟨_, rfl, vm_p⟩, ⟨_, rfl, vm_p⟩, ⟨_, rfl, vm_int (by omega)⟩, trivial⟩, ⟨⟨_, rfl, sbm_loop ?_⟩, ⟨_, rfl, sbm_row rfl fun q hq => ?_⟩, ⟨_, rfl, sbm_cells (.cons (vm_own rfl rfl rfl rfl) .nil)⟩, ⟨_, rfl, sbm_row rfl fun _ _ => vm_p⟩, ⟨_, rfl, sbm_cells vmL_p⟩, ⟨_, rfl, sbm_cells (.cons (vm_own rfl rfl rfl rfl) .nil)⟩, ⟨_, rfl, sbm_row rfl fun q hq => ?_⟩, ⟨_, rfl, sbm_cells vmL_p⟩, trivial⟩⟩
          · rw [efr]
            exact ⟨⟨_, rfl, vm_ptr rfl rfl rfl⟩, ⟨_, rfl, vm_p⟩, ⟨_, rfl, vm_ptr rfl rfl rfl⟩, ⟨_, rfl, vm_ptr rfl rfl rfl⟩, ⟨_, rfl, vm_p⟩, ⟨_, rfl, vm_ptr rfl rfl rfl⟩, ⟨_, rfl, vm_p⟩, ⟨_, rfl, vm_p⟩, trivial⟩
          · exact vm_snoc (e' := fun q => I (wayF g r d k (loW r k + q))) hq (fun _ _ => vm_p) (vm_int rfl)
          · by_cases hj2 : q + (d + 1) + 1 = nC r
            · rw [iRow_at hj2]; exact vm_own rfl rfl rfl rfl
            · rw [iRow_ne hj2]; exact vm_oRow g r (d + 1) q
        · have hj1 : loW r k + j = hiW g r k + 1 := by omega
          have bd := best_bd hv rv (d := d) (w := k) (by omega) (by omega)
          have eb : minK (fun i => (((List.range j).map fun q => wayF g r d k (loW r k + q))).getD i 0) (((List.range j).map fun q => wayF g r d k (loW r k + q)).length - 1) = bestOf g r d k := by
            unfold bestOf
            rw [show hiW g r k - loW r k = j - 1 by omega, ← minK_minW]
            have hl : ((List.range j).map fun q => wayF g r d k (loW r k + q)).length - 1 = j - 1 := by simp
            rw [hl]
            refine minK_congr _ fun i hi => ?_
            rw [List.getD_eq_getElem?_getD, List.getElem?_map, List.getElem?_range (by omega)]
            rfl
          have MN := min_ok (l := (List.range j).map fun q => wayF g r d k (loW r k + q)) (by simp; omega) (by simp; omega)
          rw [eb] at MN
          apply call_l MN (.cons (vm_lend rfl (by simp) (by omega) fun i hi => ?_) .nil)
          · with_reducible conv => whnf
            repeat' ((first | (with_reducible refine branch_t ?_) | (with_reducible refine branch_f ?_) | (with_reducible refine branch_nt ?_) | (with_reducible refine branch_nf ?_) | (with_reducible refine branch_dec (fun _ => ?_) (fun _ => ?_)) | (with_reducible refine branch_ndec (fun _ => ?_) (fun _ => ?_)) | (with_reducible refine branch_bool (fun _ => ?_) (fun _ => ?_)) | (with_reducible refine arith_64 (by omega) ?_) | (with_reducible refine ob_i (by omega) (fun _ => ?_)) | (with_reducible refine ob_i (by unfold room; omega) (fun _ => ?_)) | (with_reducible refine ob_i (by (try simp only [toN_eq] at *); (try dsimp only [toN] at *); omega) (fun _ => ?_)) | (with_reducible refine arith_64 (by (try simp only [toN_eq] at *); (try dsimp only [toN] at *); omega) ?_) | (with_reducible refine ob_k rfl ?_) | ((with_reducible refine ob_k ?_ ?_); focus kernel_rfl) | (refine yield_i hmix hT rfl hL efr eps eag ebd rfl (by kernel_rfl) ?_) | (with_reducible refine elemK_of cur ?_) | (apply call_u (PR (by omega))) | (apply call_l (first_ok (l := [_, _]) (Nat.le_of_ble_eq_true rfl)) (.cons (vm_lit _ rfl rfl (.cons (vm_int rfl) (.cons (vm_int rfl) .nil))) .nil)) | (apply call_l (first_ok (l := [_, _, _]) (Nat.le_of_ble_eq_true rfl)) (.cons (vm_lit _ rfl rfl (.cons (vm_int rfl) (.cons (vm_int rfl) (.cons (vm_int rfl) .nil)))) .nil)) | (apply call_l (first_ok (l := [_, _, _, _]) (Nat.le_of_ble_eq_true rfl)) (.cons (vm_lit _ rfl rfl (.cons (vm_int rfl) (.cons (vm_int rfl) (.cons (vm_int rfl) (.cons (vm_int rfl) .nil))))) .nil))) <;> (try (exfalso; omega; done)) <;> (with_reducible conv => whnf))
            refine ⟨k + 1, by omega, by omega, ?_⟩
            refine ⟨[(4, some 9)], rfl, ⟨⟨_, rfl, vm_ptr rfl rfl rfl⟩, ⟨_, rfl, vm_p⟩, ⟨_, rfl, vm_ptr rfl rfl rfl⟩, ⟨_, rfl, vm_ptr rfl rfl rfl⟩, ⟨_, rfl, vm_p⟩, ⟨_, rfl, vm_int (by omega)⟩, trivial⟩, ⟨⟨_, rfl, sbm_row rfl fun j hj => ?_⟩, ⟨_, rfl, sbm_cells vmL_p⟩, ⟨_, rfl, sbm_cells (.cons (vm_own rfl rfl rfl rfl) .nil)⟩, ⟨_, rfl, sbm_row rfl fun j hj => ?_⟩, ⟨_, rfl, sbm_cells vmL_p⟩, trivial⟩⟩
            · exact vm_snoc (e' := fun w => I (avD g r (d + 1) w)) hj (fun _ _ => vm_p) (vm_int (avD_succ g r d k).symm)
            · exact vm_setI (by rw [toN_eq]; omega) rfl rfl
          · have e : ((List.range j).map fun q => wayF g r d k (loW r k + q)).getD i 0 = wayF g r d k (loW r k + i) := by
              rw [List.getD_eq_getElem?_getD, List.getElem?_map, List.getElem?_range (by simpa using hi)]
              rfl
            show vm _ (I (wayF g r d k (loW r k + (0 + i)))) (I (((List.range j).map fun q => wayF g r d k (loW r k + q)).getD i 0))
            rw [e, Nat.zero_add]
            exact vm_p
      · obtain rfl : k = rowsN g := by omega
        refine ⟨d + 1 + 1, by omega, by omega, ?_⟩
        refine ⟨[(3, some 5)], rfl, ⟨⟨_, rfl, vm_ptr rfl rfl rfl⟩, ⟨_, rfl, vm_p⟩, ⟨_, rfl, vm_ptr rfl rfl rfl⟩, ⟨_, rfl, vm_ptr rfl rfl rfl⟩, trivial⟩, ⟨⟨_, rfl, sbm_cells (.cons (vm_int (by omega)) .nil)⟩, ⟨_, rfl, sbm_cells (.cons (vm_own rfl rfl rfl rfl) .nil)⟩, ⟨_, rfl, sbm_row rfl fun j hj => vm_doneI rfl rfl⟩, ⟨_, rfl, sbm_cells vmL_p⟩, trivial⟩⟩
  · obtain rfl : d = nC r := by omega
    refine ret0 (vm_fr rfl rfl rfl (Nat.le_refl _) fun j hj => ?_)
    rw [oRow_some (by omega)]
    exact vm_p
end Go.Proofs.Ytmiphilcplojnaa
