/-
  Chapter 3: the cheapest trace (the program's, by contract).
  Conditions: none.
-/
import Derived.Test.Ytmiphilcplojnaa3L
namespace Go.Proofs.Ytmiphilcplojnaa
open Go.RowKit Fx
theorem minF_ok {n : Nat} {f : Nat → Int} (h0 : 0 < n) (h1 : n ≤ 9223372036854775807) : FnOK Try.prog 90 [.sl 1 n fun i => I (f i)] (I (minK f (n - 1))) [] := by
  refine fn_i hmix hT Try.f90 (by kernel_rfl) rfl (by kernel_rfl) ?_
  with_reducible conv => whnf
  repeat' ((first | (with_reducible refine branch_t ?_) | (with_reducible refine branch_f ?_) | (with_reducible refine branch_nt ?_) | (with_reducible refine branch_nf ?_) | (with_reducible refine branch_dec (fun _ => ?_) (fun _ => ?_)) | (with_reducible refine branch_ndec (fun _ => ?_) (fun _ => ?_)) | (with_reducible refine branch_bool (fun _ => ?_) (fun _ => ?_)) | (with_reducible refine arith_64 (by omega) ?_) | (with_reducible refine ob_i (by omega) (fun _ => ?_)) | (with_reducible refine ob_i (by unfold room; omega) (fun _ => ?_)) | (with_reducible refine ob_i (by (try simp only [toN_eq, Int.toNat_natCast] at *); (try dsimp only [toN] at *); omega) (fun _ => ?_)) | (with_reducible refine arith_64 (by (try simp only [toN_eq, Int.toNat_natCast] at *); (try dsimp only [toN] at *); omega) ?_) | (with_reducible refine ob_k rfl ?_) | ((with_reducible refine ob_k ?_ ?_); focus kernel_rfl) | (refine yield_i hmix hT rfl hL efr eps eag ebd rfl (by kernel_rfl) ?_)  | (apply call_l (first_ok (l := [_, _]) (Nat.le_of_ble_eq_true rfl)) (.cons (vm_lit _ rfl rfl (.cons (vm_int rfl) (.cons (vm_int rfl) .nil))) .nil)) | (apply call_l (first_ok (l := [_, _, _]) (Nat.le_of_ble_eq_true rfl)) (.cons (vm_lit _ rfl rfl (.cons (vm_int rfl) (.cons (vm_int rfl) (.cons (vm_int rfl) .nil)))) .nil)) | (apply call_l (first_ok (l := [_, _, _, _]) (Nat.le_of_ble_eq_true rfl)) (.cons (vm_lit _ rfl rfl (.cons (vm_int rfl) (.cons (vm_int rfl) (.cons (vm_int rfl) (.cons (vm_int rfl) .nil))))) .nil))) <;> (try (exfalso; omega; done)) <;> (with_reducible conv => whnf))
  refine loop_i hmix hT (fun k : Nat => ([(0, .sl 1 n fun i => I (f i)), (3, I (minK f k)), (4, I (k + 1 : Nat))], ⟨0, []⟩)) (fun k => k + 1 ≤ n) (fun k => n - k) 0 (by omega) ?_ ?_
  · refine ⟨[], rfl, ?_, ?_⟩ <;> repeat' (first | exact trivial | exact vm_p | exact vm_ptr rfl rfl rfl | exact vm_yld rfl rfl | exact vm_own rfl rfl rfl rfl | exact vm_own rfl rfl (by omega) (by omega) | exact vm_int (by omega) | exact vm_nil rfl | exact sbm_cells vmL_p | exact sbm_row rfl (fun _ _ => vm_p) | refine ⟨⟨_, rfl, ?_⟩, ?_⟩ | refine ⟨⟨_, _, _, rfl⟩, ?_⟩ | (refine sbm_loop ?_; rw [efr]) | refine sbm_cells ?_ | refine vmL.cons ?_ ?_ | exact vmL.nil | refine vm_own rfl rfl rfl ?_)
  intro k hk
  with_reducible conv => whnf
  repeat' ((first | (with_reducible refine branch_t ?_) | (with_reducible refine branch_f ?_) | (with_reducible refine branch_nt ?_) | (with_reducible refine branch_nf ?_) | (with_reducible refine branch_dec (fun _ => ?_) (fun _ => ?_)) | (with_reducible refine branch_ndec (fun _ => ?_) (fun _ => ?_)) | (with_reducible refine branch_bool (fun _ => ?_) (fun _ => ?_)) | (with_reducible refine arith_64 (by omega) ?_) | (with_reducible refine ob_i (by omega) (fun _ => ?_)) | (with_reducible refine ob_i (by unfold room; omega) (fun _ => ?_)) | (with_reducible refine ob_i (by (try simp only [toN_eq, Int.toNat_natCast] at *); (try dsimp only [toN] at *); omega) (fun _ => ?_)) | (with_reducible refine arith_64 (by (try simp only [toN_eq, Int.toNat_natCast] at *); (try dsimp only [toN] at *); omega) ?_) | (with_reducible refine ob_k rfl ?_) | ((with_reducible refine ob_k ?_ ?_); focus kernel_rfl) | (refine yield_i hmix hT rfl hL efr eps eag ebd rfl (by kernel_rfl) ?_)  | (apply call_l (first_ok (l := [_, _]) (Nat.le_of_ble_eq_true rfl)) (.cons (vm_lit _ rfl rfl (.cons (vm_int rfl) (.cons (vm_int rfl) .nil))) .nil)) | (apply call_l (first_ok (l := [_, _, _]) (Nat.le_of_ble_eq_true rfl)) (.cons (vm_lit _ rfl rfl (.cons (vm_int rfl) (.cons (vm_int rfl) (.cons (vm_int rfl) .nil)))) .nil)) | (apply call_l (first_ok (l := [_, _, _, _]) (Nat.le_of_ble_eq_true rfl)) (.cons (vm_lit _ rfl rfl (.cons (vm_int rfl) (.cons (vm_int rfl) (.cons (vm_int rfl) (.cons (vm_int rfl) .nil))))) .nil))) <;> (try (exfalso; omega; done)) <;> (with_reducible conv => whnf))
  · ((try simp only [] at *); (try dsimp only [toN] at *))
    refine ⟨k + 1, by omega, by omega, ?_⟩
    refine ⟨[], rfl, ?_, ?_⟩ <;> repeat' (first | exact trivial | exact vm_p | exact vm_ptr rfl rfl rfl | exact vm_yld rfl rfl | exact vm_own rfl rfl rfl rfl | exact vm_own rfl rfl (by omega) (by omega) | exact vm_int (by omega) | exact vm_nil rfl | exact sbm_cells vmL_p | exact sbm_row rfl (fun _ _ => vm_p) | refine ⟨⟨_, rfl, ?_⟩, ?_⟩ | refine ⟨⟨_, _, _, rfl⟩, ?_⟩ | (refine sbm_loop ?_; rw [efr]) | refine sbm_cells ?_ | refine vmL.cons ?_ ?_ | exact vmL.nil | refine vm_own rfl rfl rfl ?_)
  · obtain rfl : k = n - 1 := by omega
    exact ret0 vm_p
theorem indexF_ok {n b : Nat} {f : Nat → Int} {x : Int} (hl : n ≤ 9223372036854775807) (hb : b < n) (he : f b = x) (hf : ∀ i, i < b → f i ≠ x) : FnOK Try.prog 91 [.sl 1 n fun i => I (f i), I x] (I b) [] := by
  refine fn_i hmix hT Try.f91 (by kernel_rfl) rfl (by kernel_rfl) ?_
  with_reducible conv => whnf
  refine loop_i hmix hT (fun k : Nat => ([(0, .sl 1 n fun i => I (f i)), (1, I x), (7, I n), (8, I k)], ⟨0, []⟩)) (fun k => k ≤ b) (fun k => n - k) 0 (by omega) ?_ ?_
  · refine ⟨[], rfl, ?_, ?_⟩ <;> repeat' (first | exact trivial | exact vm_p | exact vm_ptr rfl rfl rfl | exact vm_yld rfl rfl | exact vm_own rfl rfl rfl rfl | exact vm_own rfl rfl (by omega) (by omega) | exact vm_int (by omega) | exact vm_nil rfl | exact sbm_cells vmL_p | exact sbm_row rfl (fun _ _ => vm_p) | refine ⟨⟨_, rfl, ?_⟩, ?_⟩ | refine ⟨⟨_, _, _, rfl⟩, ?_⟩ | (refine sbm_loop ?_; rw [efr]) | refine sbm_cells ?_ | refine vmL.cons ?_ ?_ | exact vmL.nil | refine vm_own rfl rfl rfl ?_)
  intro k hk
  with_reducible conv => whnf
  repeat' ((first | (with_reducible refine branch_t ?_) | (with_reducible refine branch_f ?_) | (with_reducible refine branch_nt ?_) | (with_reducible refine branch_nf ?_) | (with_reducible refine branch_dec (fun _ => ?_) (fun _ => ?_)) | (with_reducible refine branch_ndec (fun _ => ?_) (fun _ => ?_)) | (with_reducible refine branch_bool (fun _ => ?_) (fun _ => ?_)) | (with_reducible refine arith_64 (by omega) ?_) | (with_reducible refine ob_i (by omega) (fun _ => ?_)) | (with_reducible refine ob_i (by unfold room; omega) (fun _ => ?_)) | (with_reducible refine ob_i (by (try simp only [toN_eq, Int.toNat_natCast] at *); (try dsimp only [toN] at *); omega) (fun _ => ?_)) | (with_reducible refine arith_64 (by (try simp only [toN_eq, Int.toNat_natCast] at *); (try dsimp only [toN] at *); omega) ?_) | (with_reducible refine ob_k rfl ?_) | ((with_reducible refine ob_k ?_ ?_); focus kernel_rfl) | (refine yield_i hmix hT rfl hL efr eps eag ebd rfl (by kernel_rfl) ?_)  | (apply call_l (first_ok (l := [_, _]) (Nat.le_of_ble_eq_true rfl)) (.cons (vm_lit _ rfl rfl (.cons (vm_int rfl) (.cons (vm_int rfl) .nil))) .nil)) | (apply call_l (first_ok (l := [_, _, _]) (Nat.le_of_ble_eq_true rfl)) (.cons (vm_lit _ rfl rfl (.cons (vm_int rfl) (.cons (vm_int rfl) (.cons (vm_int rfl) .nil)))) .nil)) | (apply call_l (first_ok (l := [_, _, _, _]) (Nat.le_of_ble_eq_true rfl)) (.cons (vm_lit _ rfl rfl (.cons (vm_int rfl) (.cons (vm_int rfl) (.cons (vm_int rfl) (.cons (vm_int rfl) .nil))))) .nil))) <;> (try (exfalso; omega; done)) <;> (with_reducible conv => whnf))
  all_goals ((try simp only [] at *); (try dsimp only [toN] at *))
  · have e : k = b := by
      have := hf k
      omega
    exact ret0 (vm_int (by rw [e]))
  · have e : k ≠ b := fun e => by subst e; simp_all
    refine ⟨k + 1, by omega, by omega, ?_⟩
    refine ⟨[], rfl, ?_, ?_⟩ <;> repeat' (first | exact trivial | exact vm_p | exact vm_ptr rfl rfl rfl | exact vm_yld rfl rfl | exact vm_own rfl rfl rfl rfl | exact vm_own rfl rfl (by omega) (by omega) | exact vm_int (by omega) | exact vm_nil rfl | exact sbm_cells vmL_p | exact sbm_row rfl (fun _ _ => vm_p) | refine ⟨⟨_, rfl, ?_⟩, ?_⟩ | refine ⟨⟨_, _, _, rfl⟩, ?_⟩ | (refine sbm_loop ?_; rw [efr]) | refine sbm_cells ?_ | refine vmL.cons ?_ ?_ | exact vmL.nil | refine vm_own rfl rfl rfl ?_)
theorem minK_fst {f : Nat → Int} {n b : Nat} (h : Fst f (fun _ => True) n b) : minK f (n - 1) = f b := by
  have hb := h.lt
  obtain ⟨⟨s, s1, s2, s3⟩, s4⟩ := minW_spec f 0 (n - 1)
  have e : minK f (n - 1) = minW f 0 (n - 1) := by
    rw [← minK_minW]
    exact minK_congr _ fun i _ => by rw [Nat.zero_add]
  rw [e]
  have := h.least s (by omega) trivial
  have := s4 b (by omega) (by omega)
  omega
noncomputable def cheapP (g : Gram) (r : Rules) : Path := if bothE g r = 0 then bestP g r else ⟨0, []⟩
noncomputable def cheapC (g : Gram) (r : Rules) : Int := if bothE g r = 0 then leastC g r else 0
set_option maxHeartbeats 4000000 in
set_option maxRecDepth 100000 in
theorem pCheapest_ok {g : Gram} {r : Rules} (hg : g.Ok) : FnOK Try.prog 46 [eGram g, eRules r] (.tup [ePath (cheapP g r), I (cheapC g r), I (bothE g r)]) [] := by
  have O := openRules_ok (r := r) hg
  by_cases hb : bothE g r = 0
  case neg =>
    have e1 : cheapP g r = ⟨0, []⟩ := if_neg hb
    have e2 : cheapC g r = 0 := if_neg hb
    rw [e1, e2]
    refine fn_i hmix hT Try.f46 (by kernel_rfl) rfl (by kernel_rfl) ?_
    with_reducible conv => whnf
    repeat' ((first | (with_reducible refine branch_t ?_) | (with_reducible refine branch_f ?_) | (with_reducible refine branch_nt ?_) | (with_reducible refine branch_nf ?_) | (with_reducible refine branch_dec (fun _ => ?_) (fun _ => ?_)) | (with_reducible refine branch_ndec (fun _ => ?_) (fun _ => ?_)) | (with_reducible refine branch_bool (fun _ => ?_) (fun _ => ?_)) | (with_reducible refine arith_64 (by omega) ?_) | (with_reducible refine ob_i (by omega) (fun _ => ?_)) | (with_reducible refine ob_i (by unfold room; omega) (fun _ => ?_)) | (with_reducible refine ob_i (by (try simp only [toN_eq, Int.toNat_natCast] at *); (try dsimp only [toN] at *); omega) (fun _ => ?_)) | (with_reducible refine arith_64 (by (try simp only [toN_eq, Int.toNat_natCast] at *); (try dsimp only [toN] at *); omega) ?_) | (with_reducible refine ob_k rfl ?_) | ((with_reducible refine ob_k ?_ ?_); focus kernel_rfl) | (refine yield_i hmix hT rfl hL efr eps eag ebd rfl (by kernel_rfl) ?_) | (apply call_u O) | (apply call_l (first_ok (l := [_, _]) (Nat.le_of_ble_eq_true rfl)) (.cons (vm_lit _ rfl rfl (.cons (vm_int rfl) (.cons (vm_int rfl) .nil))) .nil)) | (apply call_l (first_ok (l := [_, _, _]) (Nat.le_of_ble_eq_true rfl)) (.cons (vm_lit _ rfl rfl (.cons (vm_int rfl) (.cons (vm_int rfl) (.cons (vm_int rfl) .nil)))) .nil)) | (apply call_l (first_ok (l := [_, _, _, _]) (Nat.le_of_ble_eq_true rfl)) (.cons (vm_lit _ rfl rfl (.cons (vm_int rfl) (.cons (vm_int rfl) (.cons (vm_int rfl) (.cons (vm_int rfl) .nil))))) .nil))) <;> (try (exfalso; omega; done)) <;> (with_reducible conv => whnf))
    exact ret0 (vm_tup (.cons (vm_agg (.cons vm_p (.cons (vm_nilsl rfl) .nil))) (.cons vm_p (.cons vm_p .nil))))
  obtain ⟨hv, rv⟩ := both_val hb
  have e1 : cheapP g r = bestP g r := if_pos hb
  have e2 : cheapC g r = leastC g r := if_pos hb
  rw [e1, e2, hb]
  rw [hb] at O
  have h1 := rv.fr
  have h2 := rv.le
  have h3 := rv.to
  have h4 := hv.c1
  have h5 := hv.r1
  have h6 := hv.r0
  have h7 := hv.c0
  have h8 := rv.limit
  have en : (nC r : Int) = r.to - r.fr + 1 := by unfold nC; omega
  have F0 := (ch_spec hv rv 0).2
  have MN : FnOK Try.prog 90 [avRow g r (nC r - 1)] (I (leastC g r)) [] := by
    have := minF_ok (n := rowsN g) (f := fun w => avD g r (nC r - 1) w) h6 (by omega)
    rw [show minK (fun w => avD g r (nC r - 1) w) (rowsN g - 1) = leastC g r from minK_fst F0] at this
    exact this
  have IX : FnOK Try.prog 91 [avRow g r (nC r - 1), I (leastC g r)] (I (ch g r 0)) [] :=
    indexF_ok (f := fun w => avD g r (nC r - 1) w) (by omega) F0.lt rfl fun i hi => by
      have := F0.first i hi trivial
      have e : cf g r 0 = fun w => avD g r (nC r - 1) w := rfl
      rw [e] at this
      show avD g r (nC r - 1) i ≠ avD g r (nC r - 1) (ch g r 0)
      have : avD g r (nC r - 1) (ch g r 0) < avD g r (nC r - 1) i := this
      omega
  refine fn_i hmix hT Try.f46 (by kernel_rfl) rfl (by kernel_rfl) ?_
  with_reducible conv => whnf
  repeat' ((first | (with_reducible refine branch_t ?_) | (with_reducible refine branch_f ?_) | (with_reducible refine branch_nt ?_) | (with_reducible refine branch_nf ?_) | (with_reducible refine branch_dec (fun _ => ?_) (fun _ => ?_)) | (with_reducible refine branch_ndec (fun _ => ?_) (fun _ => ?_)) | (with_reducible refine branch_bool (fun _ => ?_) (fun _ => ?_)) | (with_reducible refine arith_64 (by omega) ?_) | (with_reducible refine ob_i (by omega) (fun _ => ?_)) | (with_reducible refine ob_i (by unfold room; omega) (fun _ => ?_)) | (with_reducible refine ob_i (by (try simp only [] at *); (try dsimp only [toN] at *); omega) (fun _ => ?_)) | (with_reducible refine arith_64 (by (try simp only [toN_eq, Int.toNat_natCast] at *); (try dsimp only [toN] at *); omega) ?_) | (with_reducible refine ob_k rfl ?_) | ((with_reducible refine ob_k ?_ ?_); focus kernel_rfl) | (refine yield_i hmix hT rfl hL efr eps eag ebd rfl (by kernel_rfl) ?_) | (apply call_u O) | (apply call_u (ahead_ok hv rv)) | (apply call_u MN) | (apply call_u IX) | (apply call_u (columns_ok rv hv)) | (apply call_l (first_ok (l := [_, _]) (Nat.le_of_ble_eq_true rfl)) (.cons (vm_lit _ rfl rfl (.cons (vm_int rfl) (.cons (vm_int rfl) .nil))) .nil)) | (apply call_l (first_ok (l := [_, _, _]) (Nat.le_of_ble_eq_true rfl)) (.cons (vm_lit _ rfl rfl (.cons (vm_int rfl) (.cons (vm_int rfl) (.cons (vm_int rfl) .nil)))) .nil)) | (apply call_l (first_ok (l := [_, _, _, _]) (Nat.le_of_ble_eq_true rfl)) (.cons (vm_lit _ rfl rfl (.cons (vm_int rfl) (.cons (vm_int rfl) (.cons (vm_int rfl) (.cons (vm_int rfl) .nil))))) .nil))) <;> (try (exfalso; omega; done)) <;> (with_reducible conv => whnf))
  refine loop_i hmix hT (fun i : Nat => ([(3, .ptr 1 0), (4, .ptr 2 0), (5, I 0), (6, I 0), (7, .ptr 3 0), (9, .ptr 4 0), (10, I (leastC g r)), (11, .ptr 5 0), (44, I ((nC r : Int) - 1)), (45, I i)], ⟨7, [(6, .row 1 (i + 1) (chV g r) 3), (5, .cells [I r.fr, .own 6 1 0 (i + 1)] 27), (4, .cells [eAv g r] 115), (3, .cells [I g.first, I g.step, eCols g.cols, I r.tag, I r.miss, I r.jump, I r.limit, I r.fr, I r.to] 148), (2, .cells [I 0, .sc (.slice none 0 0)] 27), (1, .cells [I r.tag, I r.miss, I r.jump, I r.limit, I r.fr, I r.to] 69)]⟩)) (fun i => i + 1 ≤ nC r) (fun i => nC r - i) 0 (by omega) ?_ ?_
  · refine ⟨[], rfl, ⟨⟨_, rfl, vm_ptr rfl rfl rfl⟩, ⟨_, rfl, vm_ptr rfl rfl rfl⟩, ⟨_, rfl, vm_p⟩, ⟨_, rfl, vm_p⟩, ⟨_, rfl, vm_ptr rfl rfl rfl⟩, ⟨_, rfl, vm_ptr rfl rfl rfl⟩, ⟨_, rfl, vm_p⟩, ⟨_, rfl, vm_ptr rfl rfl rfl⟩, ⟨_, rfl, vm_p⟩, ⟨_, rfl, vm_int (by omega)⟩, trivial⟩, ⟨⟨_, rfl, sbm_row rfl fun q hq => ?_⟩, ⟨_, rfl, sbm_cells (.cons vm_p (.cons (vm_own rfl rfl rfl rfl) .nil))⟩, ⟨_, rfl, sbm_cells vmL_p⟩, ⟨_, rfl, sbm_cells vmL_p⟩, ⟨_, rfl, sbm_cells vmL_p⟩, ⟨_, rfl, sbm_cells vmL_p⟩, trivial⟩⟩
    obtain rfl : q = 0 := by omega
    exact vm_p
  intro i hi
  have wi := ch_lt hv rv i
  have ce : chV g r (0 + toN (i : Int)) = I (ch g r i) := by rw [toN_eq, show 0 + ((i : Int)).toNat = i by omega]; rfl
  by_cases hlast : i + 1 = nC r
  · with_reducible conv => whnf
    repeat' ((first | (with_reducible refine branch_t ?_) | (with_reducible refine branch_f ?_) | (with_reducible refine branch_nt ?_) | (with_reducible refine branch_nf ?_) | (with_reducible refine branch_dec (fun _ => ?_) (fun _ => ?_)) | (with_reducible refine branch_ndec (fun _ => ?_) (fun _ => ?_)) | (with_reducible refine branch_bool (fun _ => ?_) (fun _ => ?_)) | (with_reducible refine arith_64 (by omega) ?_) | (with_reducible refine ob_i (by omega) (fun _ => ?_)) | (with_reducible refine ob_i (by unfold room; omega) (fun _ => ?_)) | (with_reducible refine ob_i (by (try simp only [toN_eq, Int.toNat_natCast] at *); (try dsimp only [toN] at *); omega) (fun _ => ?_)) | (with_reducible refine arith_64 (by (try simp only [toN_eq, Int.toNat_natCast] at *); (try dsimp only [toN] at *); omega) ?_) | (with_reducible refine ob_k rfl ?_) | ((with_reducible refine ob_k ?_ ?_); focus kernel_rfl) | (refine yield_i hmix hT rfl hL efr eps eag ebd rfl (by kernel_rfl) ?_)  | (apply call_l (first_ok (l := [_, _]) (Nat.le_of_ble_eq_true rfl)) (.cons (vm_lit _ rfl rfl (.cons (vm_int rfl) (.cons (vm_int rfl) .nil))) .nil)) | (apply call_l (first_ok (l := [_, _, _]) (Nat.le_of_ble_eq_true rfl)) (.cons (vm_lit _ rfl rfl (.cons (vm_int rfl) (.cons (vm_int rfl) (.cons (vm_int rfl) .nil)))) .nil)) | (apply call_l (first_ok (l := [_, _, _, _]) (Nat.le_of_ble_eq_true rfl)) (.cons (vm_lit _ rfl rfl (.cons (vm_int rfl) (.cons (vm_int rfl) (.cons (vm_int rfl) (.cons (vm_int rfl) .nil))))) .nil))) <;> (try (exfalso; omega; done)) <;> (with_reducible conv => whnf))
    refine ret0 (vm_tup (.cons (vm_agg (.cons vm_p (.cons (vm_fr rfl rfl (by rw [bestP_len]; exact hlast) (Nat.le_refl _) fun q hq => ?_) .nil))) (.cons vm_p (.cons vm_p .nil))))
    rw [bestP_at (by rw [← bestP_len (g := g)]; exact hq)]
    exact vm_p
  have es : nC r - 1 - i = (nC r - 1 - (i + 1)) + 1 := by omega
  have asu := avD_succ g r (nC r - 1 - (i + 1)) (ch g r i)
  rw [← es] at asu
  have ta : avD g r (nC r - 1 - toN (i : Int)) (toN (ch g r i : Int)) = price g r (r.to.toNat - (nC r - 1 - i)) (ch g r i) + bestOf g r (nC r - 1 - (i + 1)) (ch g r i) := by
    rw [toN_eq, toN_eq]; exact asu
  have PR : FnOK Try.prog 93 [eSearch g r, I (r.fr + (i : Int)), I (ch g r i)] (I (price g r (r.to.toNat - (nC r - 1 - i)) (ch g r i))) [] := by
    have := mPriceI (r := r) (c := r.fr + (i : Int)) (w := ch g r i) hv (by omega) (by omega)
    rw [show (r.fr + (i : Int)).toNat = r.to.toNat - (nC r - 1 - i) by omega] at this; exact this
  have pb := price_le hv rv (c := r.to.toNat - (nC r - 1 - i)) (w := ch g r i) (by omega) wi
  have bb := best_bd hv rv (d := nC r - 1 - (i + 1)) (w := ch g r i) (by omega) wi
  with_reducible conv => whnf
  repeat' ((first | (with_reducible refine branch_t ?_) | (with_reducible refine branch_f ?_) | (with_reducible refine branch_nt ?_) | (with_reducible refine branch_nf ?_) | (with_reducible refine branch_dec (fun _ => ?_) (fun _ => ?_)) | (with_reducible refine branch_ndec (fun _ => ?_) (fun _ => ?_)) | (with_reducible refine branch_bool (fun _ => ?_) (fun _ => ?_)) | (with_reducible refine arith_64 (by omega) ?_) | (with_reducible refine ob_i (by omega) (fun _ => ?_)) | (with_reducible refine ob_i (by unfold room; omega) (fun _ => ?_)) | (with_reducible refine ob_i (by (try simp only [] at *); (try dsimp only [toN] at *); omega) (fun _ => ?_)) | (with_reducible refine arith_64 (by (try simp only [toN_eq, Int.toNat_natCast] at *); (try dsimp only [toN] at *); omega) ?_) | (with_reducible refine ob_k rfl ?_) | ((with_reducible refine ob_k ?_ ?_); focus kernel_rfl) | (refine yield_i hmix hT rfl hL efr eps eag ebd rfl (by kernel_rfl) ?_) | (apply call_u PR) | (apply call_u (near_ok (g := g) (r := r))) | (with_reducible refine elemK_of ce ?_) | (apply call_l (first_ok (l := [_, _]) (Nat.le_of_ble_eq_true rfl)) (.cons (vm_lit _ rfl rfl (.cons (vm_int rfl) (.cons (vm_int rfl) .nil))) .nil)) | (apply call_l (first_ok (l := [_, _, _]) (Nat.le_of_ble_eq_true rfl)) (.cons (vm_lit _ rfl rfl (.cons (vm_int rfl) (.cons (vm_int rfl) (.cons (vm_int rfl) .nil)))) .nil)) | (apply call_l (first_ok (l := [_, _, _, _]) (Nat.le_of_ble_eq_true rfl)) (.cons (vm_lit _ rfl rfl (.cons (vm_int rfl) (.cons (vm_int rfl) (.cons (vm_int rfl) (.cons (vm_int rfl) .nil))))) .nil))) <;> (try (exfalso; omega; done)) <;> (with_reducible conv => whnf))
  have lw := loW_le (g := g) (r := r) (w := ch g r i) wi
  have elo : loW r (ch g r i) = ch g r i - r.limit.toNat := rfl
  have ehi : hiW g r (ch g r i) = min (rowsN g - 1) (ch g r i + r.limit.toNat) := rfl
  have nb := (perm_iff rv wi (ch_lt hv rv (i + 1))).1 (ch_spec hv rv (i + 1)).2.p
  have nbest := ch_best hv rv i
  have nfst := (ch_spec hv rv (i + 1)).2
  refine range_i hmix hT rfl Try.f114 (by kernel_rfl) rfl (by kernel_rfl) 0 [3, 4, 5, 6, 7, 9, 10, 11, 12, 14, 44, 45] (by kernel_rfl) ?_
  intro L efr eps eag ebd etok hL
  with_reducible conv => whnf
  repeat' ((first | (with_reducible refine branch_t ?_) | (with_reducible refine branch_f ?_) | (with_reducible refine branch_nt ?_) | (with_reducible refine branch_nf ?_) | (with_reducible refine branch_dec (fun _ => ?_) (fun _ => ?_)) | (with_reducible refine branch_ndec (fun _ => ?_) (fun _ => ?_)) | (with_reducible refine branch_bool (fun _ => ?_) (fun _ => ?_)) | (with_reducible refine arith_64 (by omega) ?_) | (with_reducible refine ob_i (by omega) (fun _ => ?_)) | (with_reducible refine ob_i (by unfold room; omega) (fun _ => ?_)) | (with_reducible refine ob_i (by (try simp only [] at *); (try dsimp only [toN] at *); omega) (fun _ => ?_)) | (with_reducible refine arith_64 (by (try simp only [] at *); (try dsimp only [toN] at *); omega) ?_) | (with_reducible refine ob_k rfl ?_) | ((with_reducible refine ob_k ?_ ?_); focus kernel_rfl) | (refine yield_i hmix hT rfl hL efr eps eag ebd rfl (by kernel_rfl) ?_)  | (apply call_l (first_ok (l := [_, _]) (Nat.le_of_ble_eq_true rfl)) (.cons (vm_lit _ rfl rfl (.cons (vm_int rfl) (.cons (vm_int rfl) .nil))) .nil)) | (apply call_l (first_ok (l := [_, _, _]) (Nat.le_of_ble_eq_true rfl)) (.cons (vm_lit _ rfl rfl (.cons (vm_int rfl) (.cons (vm_int rfl) (.cons (vm_int rfl) .nil)))) .nil)) | (apply call_l (first_ok (l := [_, _, _, _]) (Nat.le_of_ble_eq_true rfl)) (.cons (vm_lit _ rfl rfl (.cons (vm_int rfl) (.cons (vm_int rfl) (.cons (vm_int rfl) (.cons (vm_int rfl) .nil))))) .nil))) <;> (try (exfalso; omega; done)) <;> (with_reducible conv => whnf))
  refine loop_i hmix hT (fun j : Nat => ([(0, .yld 9), (1, .pv [I (ch g r i)] 0), (2, .pv [I g.first, I g.step, eCols g.cols, I r.tag, I r.miss, I r.jump, I r.limit, I r.fr, I r.to] 0), (4, I (loW r (ch g r i) + j : Nat))], ⟨10, [(9, .loop L .ready), (8, .cells [I (bestOf g r (nC r - 1 - (i + 1)) (ch g r i))] 3), (7, .cells [I i] 3), (6, .row 1 (i + 1) (chV g r) 3), (5, .cells [I r.fr, .own 6 1 0 (i + 1)] 27), (4, .cells [eAv g r] 115), (3, .cells [I g.first, I g.step, eCols g.cols, I r.tag, I r.miss, I r.jump, I r.limit, I r.fr, I r.to] 148), (2, .cells [I 0, .sc (.slice none 0 0)] 27), (1, .cells [I r.tag, I r.miss, I r.jump, I r.limit, I r.fr, I r.to] 69)]⟩)) (fun j => loW r (ch g r i) + j ≤ hiW g r (ch g r i) + 1 ∧ loW r (ch g r i) + j ≤ ch g r (i + 1)) (fun j => hiW g r (ch g r i) + 1 - (loW r (ch g r i) + j)) 0 (by omega) ?_ ?_
  · refine ⟨[], rfl, ⟨⟨_, rfl, vm_yld rfl rfl⟩, ⟨_, rfl, vm_p⟩, ⟨_, rfl, vm_p⟩, ⟨_, rfl, vm_int (by omega)⟩, trivial⟩, ⟨⟨_, rfl, sbm_loop ?_⟩, ⟨_, rfl, sbm_cells (.cons (vm_int (by omega)) .nil)⟩, ⟨_, rfl, sbm_cells vmL_p⟩, ⟨_, rfl, sbm_row rfl fun _ _ => vm_p⟩, ⟨_, rfl, sbm_cells (.cons vm_p (.cons (vm_own rfl rfl rfl rfl) .nil))⟩, ⟨_, rfl, sbm_cells vmL_p⟩, ⟨_, rfl, sbm_cells vmL_p⟩, ⟨_, rfl, sbm_cells vmL_p⟩, ⟨_, rfl, sbm_cells vmL_p⟩, trivial⟩⟩
    rw [efr]
    exact ⟨⟨_, rfl, vm_ptr rfl rfl rfl⟩, ⟨_, rfl, vm_ptr rfl rfl rfl⟩, ⟨_, rfl, vm_p⟩, ⟨_, rfl, vm_p⟩, ⟨_, rfl, vm_ptr rfl rfl rfl⟩, ⟨_, rfl, vm_ptr rfl rfl rfl⟩, ⟨_, rfl, vm_p⟩, ⟨_, rfl, vm_ptr rfl rfl rfl⟩, ⟨_, rfl, vm_ptr rfl rfl rfl⟩, ⟨_, rfl, vm_ptr rfl rfl rfl⟩, ⟨_, rfl, vm_p⟩, ⟨_, rfl, vm_p⟩, trivial⟩
  rintro j ⟨hj, hj2⟩
  have st := stepC_le rv (a := ch g r i) (b := loW r (ch g r i) + j) (by omega)
  have st2 : loW r (ch g r i) + j < 12 → 0 ≤ r.jump * max (((loW r (ch g r i) + j : Nat) : Int) - ch g r i) (-(((loW r (ch g r i) + j : Nat) : Int) - ch g r i)) ∧ r.jump * max (((loW r (ch g r i) + j : Nat) : Int) - ch g r i) (-(((loW r (ch g r i) + j : Nat) : Int) - ch g r i)) ≤ 11000 := st
  have ad := avD_bd hv rv (nC r - 1 - (i + 1)) (loW r (ch g r i) + j) (by omega)
  have tb : avD g r (nC r - 1 - toN ((i : Int) + 1)) (toN ((loW r (ch g r i) + j : Nat) : Int)) = avD g r (nC r - 1 - (i + 1)) (loW r (ch g r i) + j) := by
    rw [toN_eq, toN_eq, show ((i : Int) + 1).toNat = i + 1 by omega]; rfl
  have way : wayF g r (nC r - 1 - (i + 1)) (ch g r i) (loW r (ch g r i) + j) = r.jump * max (((loW r (ch g r i) + j : Nat) : Int) - ch g r i) (-(((loW r (ch g r i) + j : Nat) : Int) - ch g r i)) + avD g r (nC r - 1 - (i + 1)) (loW r (ch g r i) + j) := rfl
  have hit : wayF g r (nC r - 1 - (i + 1)) (ch g r i) (loW r (ch g r i) + j) = bestOf g r (nC r - 1 - (i + 1)) (ch g r i) → loW r (ch g r i) + j = ch g r (i + 1) := fun e => by
    by_cases h : loW r (ch g r i) + j < ch g r (i + 1)
    · have a : wayF g r (nC r - 1 - (i + 1)) (ch g r i) (ch g r (i + 1)) < wayF g r (nC r - 1 - (i + 1)) (ch g r i) (loW r (ch g r i) + j) := nfst.first _ h ((perm_iff rv wi (by omega)).2 ⟨by omega, by omega⟩)
      omega
    · omega
  have hit2 : loW r (ch g r i) + j = ch g r (i + 1) → wayF g r (nC r - 1 - (i + 1)) (ch g r i) (loW r (ch g r i) + j) = bestOf g r (nC r - 1 - (i + 1)) (ch g r i) := fun e => by rw [e]; exact nbest
  with_reducible conv => whnf
  by_cases hh : loW r (ch g r i) + j = ch g r (i + 1)
  · have hit2 := hit2 hh
    repeat' ((first | (with_reducible refine branch_t ?_) | (with_reducible refine branch_f ?_) | (with_reducible refine branch_nt ?_) | (with_reducible refine branch_nf ?_) | (with_reducible refine branch_dec (fun _ => ?_) (fun _ => ?_)) | (with_reducible refine branch_ndec (fun _ => ?_) (fun _ => ?_)) | (with_reducible refine branch_bool (fun _ => ?_) (fun _ => ?_)) | (with_reducible refine arith_64 (by omega) ?_) | (with_reducible refine ob_i (by omega) (fun _ => ?_)) | (with_reducible refine ob_i (by unfold room; omega) (fun _ => ?_)) | (with_reducible refine ob_i (by (try simp only [toN_eq] at *); (try dsimp only [toN] at *); omega) (fun _ => ?_)) | (with_reducible refine arith_64 (by (try simp only [toN_eq] at *); (try dsimp only [toN] at *); omega) ?_) | (with_reducible refine ob_k rfl ?_) | ((with_reducible refine ob_k ?_ ?_); focus kernel_rfl) | (refine yield_i hmix hT rfl hL efr eps eag ebd rfl (by kernel_rfl) ?_) | (apply call_u (rowsI_ok h7)) | (apply call_u (size_ok (by omega))) | (apply call_l (first_ok (l := [_, _]) (Nat.le_of_ble_eq_true rfl)) (.cons (vm_lit _ rfl rfl (.cons (vm_int rfl) (.cons (vm_int rfl) .nil))) .nil)) | (apply call_l (first_ok (l := [_, _, _]) (Nat.le_of_ble_eq_true rfl)) (.cons (vm_lit _ rfl rfl (.cons (vm_int rfl) (.cons (vm_int rfl) (.cons (vm_int rfl) .nil)))) .nil)) | (apply call_l (first_ok (l := [_, _, _, _]) (Nat.le_of_ble_eq_true rfl)) (.cons (vm_lit _ rfl rfl (.cons (vm_int rfl) (.cons (vm_int rfl) (.cons (vm_int rfl) (.cons (vm_int rfl) .nil))))) .nil))) <;> (try (exfalso; omega; done)) <;> (with_reducible conv => whnf))
    refine ⟨i + 1, by omega, by omega, ?_⟩
    refine ⟨[(6, some 11)], rfl, ⟨⟨_, rfl, vm_ptr rfl rfl rfl⟩, ⟨_, rfl, vm_ptr rfl rfl rfl⟩, ⟨_, rfl, vm_p⟩, ⟨_, rfl, vm_p⟩, ⟨_, rfl, vm_ptr rfl rfl rfl⟩, ⟨_, rfl, vm_ptr rfl rfl rfl⟩, ⟨_, rfl, vm_p⟩, ⟨_, rfl, vm_ptr rfl rfl rfl⟩, ⟨_, rfl, vm_p⟩, ⟨_, rfl, vm_int (by omega)⟩, trivial⟩, ⟨⟨_, rfl, sbm_row rfl fun q hq => vm_snoc (e' := chV g r) hq (fun _ _ => vm_p) (show vm _ _ (I (ch g r (i + 1))) from vm_int (by omega))⟩, ⟨_, rfl, sbm_cells (.cons vm_p (.cons (vm_own rfl rfl rfl rfl) .nil))⟩, ⟨_, rfl, sbm_cells vmL_p⟩, ⟨_, rfl, sbm_cells vmL_p⟩, ⟨_, rfl, sbm_cells vmL_p⟩, ⟨_, rfl, sbm_cells vmL_p⟩, trivial⟩⟩
  · have hit : wayF g r (nC r - 1 - (i + 1)) (ch g r i) (loW r (ch g r i) + j) ≠ bestOf g r (nC r - 1 - (i + 1)) (ch g r i) := fun e => hh (hit e)
    repeat' ((first | (with_reducible refine branch_t ?_) | (with_reducible refine branch_f ?_) | (with_reducible refine branch_nt ?_) | (with_reducible refine branch_nf ?_) | (with_reducible refine branch_dec (fun _ => ?_) (fun _ => ?_)) | (with_reducible refine branch_ndec (fun _ => ?_) (fun _ => ?_)) | (with_reducible refine branch_bool (fun _ => ?_) (fun _ => ?_)) | (with_reducible refine arith_64 (by omega) ?_) | (with_reducible refine ob_i (by omega) (fun _ => ?_)) | (with_reducible refine ob_i (by unfold room; omega) (fun _ => ?_)) | (with_reducible refine ob_i (by (try simp only [toN_eq] at *); (try dsimp only [toN] at *); omega) (fun _ => ?_)) | (with_reducible refine arith_64 (by (try simp only [toN_eq] at *); (try dsimp only [toN] at *); omega) ?_) | (with_reducible refine ob_k rfl ?_) | ((with_reducible refine ob_k ?_ ?_); focus kernel_rfl) | (refine yield_i hmix hT rfl hL efr eps eag ebd rfl (by kernel_rfl) ?_) | (apply call_u (rowsI_ok h7)) | (apply call_u (size_ok (by omega))) | (apply call_l (first_ok (l := [_, _]) (Nat.le_of_ble_eq_true rfl)) (.cons (vm_lit _ rfl rfl (.cons (vm_int rfl) (.cons (vm_int rfl) .nil))) .nil)) | (apply call_l (first_ok (l := [_, _, _]) (Nat.le_of_ble_eq_true rfl)) (.cons (vm_lit _ rfl rfl (.cons (vm_int rfl) (.cons (vm_int rfl) (.cons (vm_int rfl) .nil)))) .nil)) | (apply call_l (first_ok (l := [_, _, _, _]) (Nat.le_of_ble_eq_true rfl)) (.cons (vm_lit _ rfl rfl (.cons (vm_int rfl) (.cons (vm_int rfl) (.cons (vm_int rfl) (.cons (vm_int rfl) .nil))))) .nil))) <;> (try (exfalso; omega; done)) <;> (with_reducible conv => whnf))
    refine ⟨j + 1, by omega, by omega, ?_⟩
    refine ⟨[], rfl, ⟨⟨_, rfl, vm_yld rfl rfl⟩, ⟨_, rfl, vm_p⟩, ⟨_, rfl, vm_p⟩, ⟨_, rfl, vm_int (by omega)⟩, trivial⟩, ⟨⟨_, rfl, sbm_loop ?_⟩, ⟨_, rfl, sbm_cells vmL_p⟩, ⟨_, rfl, sbm_cells vmL_p⟩, ⟨_, rfl, sbm_row rfl fun _ _ => vm_p⟩, ⟨_, rfl, sbm_cells (.cons vm_p (.cons (vm_own rfl rfl rfl rfl) .nil))⟩, ⟨_, rfl, sbm_cells vmL_p⟩, ⟨_, rfl, sbm_cells vmL_p⟩, ⟨_, rfl, sbm_cells vmL_p⟩, ⟨_, rfl, sbm_cells vmL_p⟩, trivial⟩⟩
    rw [efr]
    exact ⟨⟨_, rfl, vm_ptr rfl rfl rfl⟩, ⟨_, rfl, vm_ptr rfl rfl rfl⟩, ⟨_, rfl, vm_p⟩, ⟨_, rfl, vm_p⟩, ⟨_, rfl, vm_ptr rfl rfl rfl⟩, ⟨_, rfl, vm_ptr rfl rfl rfl⟩, ⟨_, rfl, vm_p⟩, ⟨_, rfl, vm_ptr rfl rfl rfl⟩, ⟨_, rfl, vm_ptr rfl rfl rfl⟩, ⟨_, rfl, vm_ptr rfl rfl rfl⟩, ⟨_, rfl, vm_p⟩, ⟨_, rfl, vm_p⟩, trivial⟩
end Go.Proofs.Ytmiphilcplojnaa
