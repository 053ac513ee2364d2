/-
  Chapter 7: the bins of reports, by the program (by contract).
  Conditions: none.
-/
import Derived.Test.YtcdcmeiipfafdaaGreat7Ri
namespace Go.Proofs.YtcdcmeiipfafdaaGreat
open Go.RowKit Fx
@[reducible] def calZ : List V := [I 0, I 0, I 0, I 0, I 0, I 0, I 0, I 0, I 0, I 0]
theorem calOf_err {t : Tb} {l : List Rp} (few : FewT t) (hl : l.length ≤ 9223372036854775807) (h0 : scE t l ≠ 0) : FnOK Tryz.prog 11 [eTb t, eRps l] (.tup [.agg calZ, I (scE t l)]) [] := by
  have S := scored_ok (l := l) few hl
  generalize scE t l = x at *
  refine fn_i hmix hT Tryz.f11 (by kernel_rfl) rfl (by kernel_rfl) ?_
  with_reducible conv => whnf
  repeat' ((first | (with_reducible refine branch_t ?_) | (with_reducible refine branch_f ?_) | (with_reducible refine branch_nt ?_) | (with_reducible refine branch_nf ?_) | (with_reducible refine branch_dec (fun _ => ?_) (fun _ => ?_)) | (with_reducible refine branch_ndec (fun _ => ?_) (fun _ => ?_)) | (with_reducible refine branch_bool (fun _ => ?_) (fun _ => ?_)) | (with_reducible refine arith_64 (by omega) ?_) | (with_reducible refine ob_i (by omega) (fun _ => ?_)) | (with_reducible refine ob_i (by unfold room; omega) (fun _ => ?_)) | (with_reducible refine ob_i (by (try simp only [toN_eq, Int.toNat_natCast] at *); (try dsimp only [toN] at *); omega) (fun _ => ?_)) | (with_reducible refine arith_64 (by (try simp only [toN_eq, Int.toNat_natCast] at *); (try dsimp only [toN] at *); omega) ?_) | (with_reducible refine ob_k rfl ?_) | ((with_reducible refine ob_k ?_ ?_); focus kernel_rfl) | (refine yield_i hmix hT rfl hL efr eps eag ebd rfl (by kernel_rfl) ?_) | (apply call_u S) | (apply call_l (first_ok (l := [_, _]) (Nat.le_of_ble_eq_true rfl)) (.cons (vm_lit _ rfl rfl (.cons (vm_int rfl) (.cons (vm_int rfl) .nil))) .nil)) | (apply call_l (first_ok (l := [_, _, _]) (Nat.le_of_ble_eq_true rfl)) (.cons (vm_lit _ rfl rfl (.cons (vm_int rfl) (.cons (vm_int rfl) (.cons (vm_int rfl) .nil)))) .nil)) | (apply call_l (first_ok (l := [_, _, _, _]) (Nat.le_of_ble_eq_true rfl)) (.cons (vm_lit _ rfl rfl (.cons (vm_int rfl) (.cons (vm_int rfl) (.cons (vm_int rfl) (.cons (vm_int rfl) .nil))))) .nil))) <;> (try (exfalso; omega; done)) <;> (with_reducible conv => whnf))
  exact ret0 vm_p
set_option maxHeartbeats 8000000 in
set_option maxRecDepth 100000 in
theorem calOf_good {t : Tb} {l : List Rp} (few : FewT t) (e : scE t l = 0) : FnOK Tryz.prog 11 [eTb t, eRps l] (.tup [.agg (calC t l l.length), I 0]) [] := by
  have eo : opE t l = 0 ∧ gapE t l = 0 := by
    unfold scE at e
    split at e
    · rename_i c; exact absurd e c
    · rename_i c; exact ⟨Decidable.not_not.1 c, e⟩
  have hz : tbE t = 0 ∧ rpsE t.fr.length l = 0 := by
    have e := eo.1
    unfold opE at e
    split at e
    · rename_i c; exact absurd e c
    · rename_i c; exact ⟨Decidable.not_not.1 c, e⟩
  have v := tb_val hz.1
  obtain ⟨hl, hr⟩ := rps_val hz.2
  have hg : ∀ i, i < l.length → (cR t (l.getD i rp0)).2 ≠ 0 := by
    rcases gap_cases t l l.length (Nat.le_refl _) with h | ⟨b, b1, b2, b3⟩
    · exact h
    · exact absurd (gapE_hit b1 b2 b3) (by rw [eo.2]; decide)
  have S := scored_ok (l := l) few (by omega)
  rw [e] at S
  have cb := cal_bd (t := t) hr
  refine fn_i hmix hT Tryz.f11 (by kernel_rfl) rfl (by kernel_rfl) ?_
  with_reducible conv => whnf
  repeat' ((first | (with_reducible refine branch_t ?_) | (with_reducible refine branch_f ?_) | (with_reducible refine branch_nt ?_) | (with_reducible refine branch_nf ?_) | (with_reducible refine branch_dec (fun _ => ?_) (fun _ => ?_)) | (with_reducible refine branch_ndec (fun _ => ?_) (fun _ => ?_)) | (with_reducible refine branch_bool (fun _ => ?_) (fun _ => ?_)) | (with_reducible refine arith_64 (by omega) ?_) | (with_reducible refine ob_i (by omega) (fun _ => ?_)) | (with_reducible refine ob_i (by unfold room; omega) (fun _ => ?_)) | (with_reducible refine ob_i (by (try simp only [toN_eq, Int.toNat_natCast] at *); (try dsimp only [toN] at *); omega) (fun _ => ?_)) | (with_reducible refine arith_64 (by (try simp only [toN_eq, Int.toNat_natCast] at *); (try dsimp only [toN] at *); omega) ?_) | (with_reducible refine ob_k rfl ?_) | ((with_reducible refine ob_k ?_ ?_); focus kernel_rfl) | (refine yield_i hmix hT rfl hL efr eps eag ebd rfl (by kernel_rfl) ?_) | (apply call_u S) | (apply call_l (first_ok (l := [_, _]) (Nat.le_of_ble_eq_true rfl)) (.cons (vm_lit _ rfl rfl (.cons (vm_int rfl) (.cons (vm_int rfl) .nil))) .nil)) | (apply call_l (first_ok (l := [_, _, _]) (Nat.le_of_ble_eq_true rfl)) (.cons (vm_lit _ rfl rfl (.cons (vm_int rfl) (.cons (vm_int rfl) (.cons (vm_int rfl) .nil)))) .nil)) | (apply call_l (first_ok (l := [_, _, _, _]) (Nat.le_of_ble_eq_true rfl)) (.cons (vm_lit _ rfl rfl (.cons (vm_int rfl) (.cons (vm_int rfl) (.cons (vm_int rfl) (.cons (vm_int rfl) .nil))))) .nil))) <;> (try (exfalso; omega; done)) <;> (with_reducible conv => whnf))
  refine loop_i hmix hT (fun i : Nat => ([(4, .ptr 1 0), (6, .ptr 2 0), (7, .ptr 3 0), (23, eRps l), (24, I l.length), (25, I i)], ⟨4, [(3, .cells [eInts t.fr, eHs t.hs] 85), (2, .cells (calC t l i) 37), (1, .cells calZ 37)]⟩)) (fun i => i ≤ l.length) (fun i => l.length - i) (0 : Nat) (by omega) ?_ ?_
  · refine ⟨[], rfl, ?_, ?_⟩ <;> repeat' (first | exact trivial | exact vm_p | exact vm_ptr rfl rfl rfl | exact vm_yld rfl rfl | exact vm_own rfl rfl rfl rfl | exact vm_own rfl rfl (by omega) (by omega) | exact vm_int (by omega) | exact vm_nil rfl | exact sbm_cells vmL_p | exact sbm_row rfl (fun _ _ => vm_p) | refine ⟨⟨_, rfl, ?_⟩, ?_⟩ | refine ⟨⟨_, _, _, rfl⟩, ?_⟩ | (refine sbm_loop ?_; rw [efr]) | refine sbm_cells ?_ | refine vmL.cons ?_ ?_ | exact vmL.nil | refine vm_own rfl rfl rfl ?_)
  intro i hi
  by_cases c : i < l.length
  · have ti : toN (i : Int) = i := toN_nat i
    have h1 : rpE t.fr.length (l.getD (toN (i : Int)) rp0) = 0 := by rw [ti]; exact hr i c
    have h2 : (cR t (l.getD (toN (i : Int)) rp0)).2 ≠ 0 := by rw [ti]; exact hg i c
    have rv := rp_val h1
    have cv := cR_val v h1
    have C := count_ok v h1
    have bi := bin_in v h1 h2
    have td : (5 * (cR t (l.getD (toN (i : Int)) rp0)).1).tdiv (cR t (l.getD (toN (i : Int)) rp0)).2 = (5 * (cR t (l.getD (toN (i : Int)) rp0)).1) / (cR t (l.getD (toN (i : Int)) rp0)).2 := Int.tdiv_eq_ediv_of_nonneg (by omega)
    rw [← td] at bi
    obtain ⟨b, eb⟩ : ∃ b, binV t (l.getD (toN (i : Int)) rp0) = b := ⟨_, rfl⟩
    have eb' : binV t (l.getD i rp0) = b := by rw [← eb, ti]
    rw [eb] at bi
    have ne : ∀ q : Nat, q ≠ b → calT t l (i + 1) q = calT t l i q := fun q hq => if_neg (by rw [eb']; omega)
    have hit : calT t l (i + 1) b = ((if (l.getD (toN (i : Int)) rp0).heard = true then (calT t l i b).1 + (l.getD (toN (i : Int)) rp0).w else (calT t l i b).1), (calT t l i b).2 + (l.getD (toN (i : Int)) rp0).w) := by rw [ti]; exact if_pos eb'
    have b0 := cb b i hi
    have ne' : ∀ q : Nat, q ≠ b → (calT t l (i + 1) q).1 = (calT t l i q).1 ∧ (calT t l (i + 1) q).2 = (calT t l i q).2 := fun q hq => by rw [ne q hq]; exact ⟨rfl, rfl⟩
    have hy : (l.getD (toN (i : Int)) rp0).heard = true → (calT t l (i + 1) b).1 = (calT t l i b).1 + (l.getD (toN (i : Int)) rp0).w ∧ (calT t l (i + 1) b).2 = (calT t l i b).2 + (l.getD (toN (i : Int)) rp0).w := fun h => by rw [hit, if_pos h]; exact ⟨rfl, rfl⟩
    have hn : (l.getD (toN (i : Int)) rp0).heard = false → (calT t l (i + 1) b).1 = (calT t l i b).1 ∧ (calT t l (i + 1) b).2 = (calT t l i b).2 + (l.getD (toN (i : Int)) rp0).w := fun h => by rw [hit, if_neg (by rw [h]; decide)]; exact ⟨rfl, rfl⟩
    have b5 : b = 0 ∨ b = 1 ∨ b = 2 ∨ b = 3 ∨ b = 4 := by omega
    clear ne hit cb eb eb' hr hg td
    generalize cR t (l.getD (toN (i : Int)) rp0) = cr at *
    have ix : Nat.add 0 ((toN (min ((5 * cr.1).tdiv cr.2) 4)).mul 2) = 2 * b := by
      show 0 + toN _ * 2 = _
      rw [toN_eq]
      omega
    rcases b5 with rfl | rfl | rfl | rfl | rfl
    all_goals
      with_reducible conv => whnf
      repeat' ((first | (with_reducible refine ob_at ix (by omega) ?_) | (with_reducible refine branch_t ?_) | (with_reducible refine branch_f ?_) | (with_reducible refine branch_nt ?_) | (with_reducible refine branch_nf ?_) | (with_reducible refine branch_dec (fun _ => ?_) (fun _ => ?_)) | (with_reducible refine branch_ndec (fun _ => ?_) (fun _ => ?_)) | (with_reducible refine branch_bool (fun _ => ?_) (fun _ => ?_)) | (with_reducible refine arith_64 (by omega) ?_) | (with_reducible refine ob_i (by omega) (fun _ => ?_)) | (with_reducible refine ob_i (by unfold room; omega) (fun _ => ?_)) | (with_reducible refine ob_i (by (try simp only [toN_eq, Int.toNat_natCast] at *); (try dsimp only [toN] at *); omega) (fun _ => ?_)) | (with_reducible refine arith_64 (by (try simp only [toN_eq, Int.toNat_natCast] at *); (try dsimp only [toN] at *); omega) ?_) | (with_reducible refine ob_k rfl ?_) | ((with_reducible refine ob_k ?_ ?_); focus kernel_rfl) | (refine yield_i hmix hT rfl hL efr eps eag ebd rfl (by kernel_rfl) ?_) | (apply call_u C) | (apply call_l (first_ok (l := [_, _]) (Nat.le_of_ble_eq_true rfl)) (.cons (vm_lit _ rfl rfl (.cons (vm_int rfl) (.cons (vm_int rfl) .nil))) .nil)) | (apply call_l (first_ok (l := [_, _, _]) (Nat.le_of_ble_eq_true rfl)) (.cons (vm_lit _ rfl rfl (.cons (vm_int rfl) (.cons (vm_int rfl) (.cons (vm_int rfl) .nil)))) .nil)) | (apply call_l (first_ok (l := [_, _, _, _]) (Nat.le_of_ble_eq_true rfl)) (.cons (vm_lit _ rfl rfl (.cons (vm_int rfl) (.cons (vm_int rfl) (.cons (vm_int rfl) (.cons (vm_int rfl) .nil))))) .nil))) <;> (try (exfalso; omega; done)) <;> (with_reducible conv => whnf))
      all_goals refine ⟨i + 1, by omega, by omega, ?_⟩
      all_goals (try have n0 := ne' 0 (by decide)); (try have n1 := ne' 1 (by decide)); (try have n2 := ne' 2 (by decide)); (try have n3 := ne' 3 (by decide)); (try have n4 := ne' 4 (by decide)); (first | have n5 := hy (by assumption) | have n5 := hn (by assumption))
      all_goals clear ne' hy hn C ix
      all_goals refine ⟨[], rfl, ?_, ?_⟩ <;> repeat' (first | exact trivial | exact vm_p | exact vm_ptr rfl rfl rfl | exact vm_yld rfl rfl | exact vm_own rfl rfl rfl rfl | exact vm_own rfl rfl (by omega) (by omega) | exact vm_int (by omega) | exact vm_nil rfl | exact sbm_cells vmL_p | exact sbm_row rfl (fun _ _ => vm_p) | refine ⟨⟨_, rfl, ?_⟩, ?_⟩ | refine ⟨⟨_, _, _, rfl⟩, ?_⟩ | (refine sbm_loop ?_; rw [efr]) | refine sbm_cells ?_ | refine vmL.cons ?_ ?_ | exact vmL.nil | refine vm_own rfl rfl rfl ?_)
  · have ei : i = l.length := by omega
    subst ei
    with_reducible conv => whnf
    repeat' ((first | (with_reducible refine branch_t ?_) | (with_reducible refine branch_f ?_) | (with_reducible refine branch_nt ?_) | (with_reducible refine branch_nf ?_) | (with_reducible refine branch_dec (fun _ => ?_) (fun _ => ?_)) | (with_reducible refine branch_ndec (fun _ => ?_) (fun _ => ?_)) | (with_reducible refine branch_bool (fun _ => ?_) (fun _ => ?_)) | (with_reducible refine arith_64 (by omega) ?_) | (with_reducible refine ob_i (by omega) (fun _ => ?_)) | (with_reducible refine ob_i (by unfold room; omega) (fun _ => ?_)) | (with_reducible refine ob_i (by (try simp only [toN_eq, Int.toNat_natCast] at *); (try dsimp only [toN] at *); omega) (fun _ => ?_)) | (with_reducible refine arith_64 (by (try simp only [toN_eq, Int.toNat_natCast] at *); (try dsimp only [toN] at *); omega) ?_) | (with_reducible refine ob_k rfl ?_) | ((with_reducible refine ob_k ?_ ?_); focus kernel_rfl) | (refine yield_i hmix hT rfl hL efr eps eag ebd rfl (by kernel_rfl) ?_)  | (apply call_l (first_ok (l := [_, _]) (Nat.le_of_ble_eq_true rfl)) (.cons (vm_lit _ rfl rfl (.cons (vm_int rfl) (.cons (vm_int rfl) .nil))) .nil)) | (apply call_l (first_ok (l := [_, _, _]) (Nat.le_of_ble_eq_true rfl)) (.cons (vm_lit _ rfl rfl (.cons (vm_int rfl) (.cons (vm_int rfl) (.cons (vm_int rfl) .nil)))) .nil)) | (apply call_l (first_ok (l := [_, _, _, _]) (Nat.le_of_ble_eq_true rfl)) (.cons (vm_lit _ rfl rfl (.cons (vm_int rfl) (.cons (vm_int rfl) (.cons (vm_int rfl) (.cons (vm_int rfl) .nil))))) .nil))) <;> (try (exfalso; omega; done)) <;> (with_reducible conv => whnf))
    exact ret0 vm_p
end Go.Proofs.YtcdcmeiipfafdaaGreat
