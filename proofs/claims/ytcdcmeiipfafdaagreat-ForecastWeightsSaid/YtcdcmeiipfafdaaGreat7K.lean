/-
  Chapter 7: the best column, the law ForecastColumns (by contract).
  Conditions: none.
-/
import Derived.Test.YtcdcmeiipfafdaaGreat7J
import Derived.Test.YtcdcmeiipfafdaaGreat7E
namespace Go.Proofs.YtcdcmeiipfafdaaGreat
open Go.RowKit Fx
/-! ### Comparing fractions -/
def sgn (x y : Int) : Int := if x < y then -1 else if y < x then 1 else 0
theorem sgn_diff {x y x' y' : Int} (h : x - y = x' - y') : sgn x y = sgn x' y' := by
  unfold sgn; grind
theorem cmp_step {n d m k : Int} (hd : 0 < d) (hk : 0 < k) : (n / d < m / k → n * k < m * d) ∧ (m / k < n / d → m * d < n * k) ∧ (n / d = m / k → n * k - m * d = (n - n / d * d) * k - (m - m / k * k) * d) ∧ (0 ≤ n - n / d * d ∧ n - n / d * d < d) ∧ 0 ≤ m - m / k * k ∧ m - m / k * k < k := by
  have a1 := Int.mul_ediv_add_emod n d
  have a2 := Int.emod_lt_of_pos n hd
  have a3 := Int.emod_nonneg n (show d ≠ 0 by omega)
  have b1 := Int.mul_ediv_add_emod m k
  have b2 := Int.emod_lt_of_pos m hk
  have b3 := Int.emod_nonneg m (show k ≠ 0 by omega)
  have c1 := Int.mul_comm d (n / d)
  have c2 := Int.mul_comm k (m / k)
  generalize n / d = p at *
  generalize m / k = q at *
  generalize n % d = r at *
  generalize m % k = s at *
  have hdk : 0 < d * k := Int.mul_pos hd hk
  have e1 : n * k = p * (d * k) + r * k := by rw [← a1]; grind
  have e2 : m * d = q * (d * k) + s * d := by rw [← b1]; grind
  have r1 : r * k < d * k := Int.mul_lt_mul_of_pos_right a2 hk
  have r0 : 0 ≤ r * k := Int.mul_nonneg a3 (by omega)
  have s1 : s * d < k * d := Int.mul_lt_mul_of_pos_right b2 hd
  have s0 : 0 ≤ s * d := Int.mul_nonneg b3 (by omega)
  have ck := Int.mul_comm k d
  refine ⟨fun h => ?_, fun h => ?_, fun h => ?_, ⟨by omega, by omega⟩, by omega, by omega⟩
  · have := Int.mul_le_mul_of_nonneg_right (show p + 1 ≤ q by omega) (show 0 ≤ d * k by omega)
    rw [Int.add_mul] at this
    omega
  · have := Int.mul_le_mul_of_nonneg_right (show q + 1 ≤ p by omega) (show 0 ≤ d * k by omega)
    rw [Int.add_mul] at this
    omega
  · subst h
    rw [show n - p * d = r by omega, show m - p * k = s by omega]
    omega
set_option maxHeartbeats 4000000 in
set_option maxRecDepth 100000 in
theorem compare_ok {n d m k : Int} (hn : 0 ≤ n ∧ n ≤ 1000000000000) (hd : 0 < d ∧ d ≤ 1000000000000) (hm : 0 ≤ m ∧ m ≤ 1000000000000) (hk : 0 < k ∧ k ≤ 1000000000000) : FnOK Tryz.prog 24 [I n, I d, I m, I k] (I (sgn (n * k) (m * d))) [] := by
  refine fn_i hmix hT Tryz.f24 (by kernel_rfl) rfl (by kernel_rfl) ?_
  with_reducible conv => whnf
  refine loop_i hmix hT (fun x : Int × Int × Int × Int => ([(0, I x.1), (1, I x.2.1), (2, I x.2.2.1), (3, I x.2.2.2)], ⟨0, []⟩)) (fun x => (0 ≤ x.1 ∧ x.1 ≤ 1000000000000) ∧ (0 < x.2.1 ∧ x.2.1 ≤ 1000000000000) ∧ (0 ≤ x.2.2.1 ∧ x.2.2.1 ≤ 1000000000000) ∧ (0 < x.2.2.2 ∧ x.2.2.2 ≤ 1000000000000) ∧ sgn (x.1 * x.2.2.2) (x.2.2.1 * x.2.1) = sgn (n * k) (m * d)) (fun x => (x.2.1 + x.2.2.2).toNat) (n, d, m, k) ⟨hn, hd, hm, hk, rfl⟩ ?_ ?_
  · refine ⟨[], rfl, ?_, ?_⟩ <;> repeat' (first | exact trivial | exact vm_p | exact vm_ptr rfl rfl rfl | exact vm_yld rfl rfl | exact vm_own rfl rfl rfl rfl | exact vm_own rfl rfl (by omega) (by omega) | exact vm_int (by omega) | exact vm_nil rfl | exact sbm_cells vmL_p | exact sbm_row rfl (fun _ _ => vm_p) | refine ⟨⟨_, rfl, ?_⟩, ?_⟩ | refine ⟨⟨_, _, _, rfl⟩, ?_⟩ | (refine sbm_loop ?_; rw [efr]) | refine sbm_cells ?_ | refine vmL.cons ?_ ?_ | exact vmL.nil | refine vm_own rfl rfl rfl ?_)
  clear hn hd hm hk
  rintro ⟨n1, d1, m1, k1⟩ ⟨hn, hd, hm, hk, hs⟩
  dsimp only at hn hd hm hk hs
  rw [← hs]
  show codeW _ _ _ [(0, I n1), (1, I d1), (2, I m1), (3, I k1)] ⟨0, []⟩ _
  obtain ⟨s1, s2, s3, s4, s5⟩ := cmp_step (n := n1) (m := m1) hd.1 hk.1
  have F1 := floor_ok (n := n1) (b := d1) (by omega) (by omega)
  have F2 := floor_ok (n := m1) (b := k1) (by omega) (by omega)
  have p0 := Int.ediv_nonneg hn.1 (show 0 ≤ d1 by omega)
  have p1 := Int.ediv_le_self d1 hn.1
  have q0 := Int.ediv_nonneg hm.1 (show 0 ≤ k1 by omega)
  have q1 := Int.ediv_le_self k1 hm.1
  rcases Int.lt_trichotomy (n1 / d1) (m1 / k1) with c | c | c
  · have e : sgn (n1 * k1) (m1 * d1) = -1 := if_pos (s1 c)
    rw [e]
    with_reducible conv => whnf
    repeat' ((first | (with_reducible refine branch_t ?_) | (with_reducible refine branch_f ?_) | (with_reducible refine branch_nt ?_) | (with_reducible refine branch_nf ?_) | (with_reducible refine branch_dec (fun _ => ?_) (fun _ => ?_)) | (with_reducible refine branch_ndec (fun _ => ?_) (fun _ => ?_)) | (with_reducible refine branch_bool (fun _ => ?_) (fun _ => ?_)) | (with_reducible refine arith_64 (by omega) ?_) | (with_reducible refine ob_i (by omega) (fun _ => ?_)) | (with_reducible refine ob_i (by unfold room; omega) (fun _ => ?_)) | (with_reducible refine ob_i (by (try simp only [toN_eq, Int.toNat_natCast] at *); (try dsimp only [toN] at *); omega) (fun _ => ?_)) | (with_reducible refine arith_64 (by (try simp only [toN_eq, Int.toNat_natCast] at *); (try dsimp only [toN] at *); omega) ?_) | (with_reducible refine ob_k rfl ?_) | ((with_reducible refine ob_k ?_ ?_); focus kernel_rfl) | (refine yield_i hmix hT rfl hL efr eps eag ebd rfl (by kernel_rfl) ?_) | (apply call_u F1) | (apply call_u F2) | (apply call_l (first_ok (l := [_, _]) (Nat.le_of_ble_eq_true rfl)) (.cons (vm_lit _ rfl rfl (.cons (vm_int rfl) (.cons (vm_int rfl) .nil))) .nil)) | (apply call_l (first_ok (l := [_, _, _]) (Nat.le_of_ble_eq_true rfl)) (.cons (vm_lit _ rfl rfl (.cons (vm_int rfl) (.cons (vm_int rfl) (.cons (vm_int rfl) .nil)))) .nil)) | (apply call_l (first_ok (l := [_, _, _, _]) (Nat.le_of_ble_eq_true rfl)) (.cons (vm_lit _ rfl rfl (.cons (vm_int rfl) (.cons (vm_int rfl) (.cons (vm_int rfl) (.cons (vm_int rfl) .nil))))) .nil))) <;> (try (exfalso; omega; done)) <;> (with_reducible conv => whnf))
    exact ret0 vm_p
  · have e := sgn_diff (s3 c)
    rw [e]
    by_cases z1 : n1 - n1 / d1 * d1 = 0
    · by_cases z2 : m1 - m1 / k1 * k1 = 0
      · rw [z1, z2, Int.zero_mul, Int.zero_mul, show sgn 0 0 = 0 from rfl]
        with_reducible conv => whnf
        repeat' ((first | (with_reducible refine branch_t ?_) | (with_reducible refine branch_f ?_) | (with_reducible refine branch_nt ?_) | (with_reducible refine branch_nf ?_) | (with_reducible refine branch_dec (fun _ => ?_) (fun _ => ?_)) | (with_reducible refine branch_ndec (fun _ => ?_) (fun _ => ?_)) | (with_reducible refine branch_bool (fun _ => ?_) (fun _ => ?_)) | (with_reducible refine arith_64 (by omega) ?_) | (with_reducible refine ob_i (by omega) (fun _ => ?_)) | (with_reducible refine ob_i (by unfold room; omega) (fun _ => ?_)) | (with_reducible refine ob_i (by (try simp only [toN_eq, Int.toNat_natCast] at *); (try dsimp only [toN] at *); omega) (fun _ => ?_)) | (with_reducible refine arith_64 (by (try simp only [toN_eq, Int.toNat_natCast] at *); (try dsimp only [toN] at *); omega) ?_) | (with_reducible refine ob_k rfl ?_) | ((with_reducible refine ob_k ?_ ?_); focus kernel_rfl) | (refine yield_i hmix hT rfl hL efr eps eag ebd rfl (by kernel_rfl) ?_) | (apply call_u F1) | (apply call_u F2) | (apply call_l (first_ok (l := [_, _]) (Nat.le_of_ble_eq_true rfl)) (.cons (vm_lit _ rfl rfl (.cons (vm_int rfl) (.cons (vm_int rfl) .nil))) .nil)) | (apply call_l (first_ok (l := [_, _, _]) (Nat.le_of_ble_eq_true rfl)) (.cons (vm_lit _ rfl rfl (.cons (vm_int rfl) (.cons (vm_int rfl) (.cons (vm_int rfl) .nil)))) .nil)) | (apply call_l (first_ok (l := [_, _, _, _]) (Nat.le_of_ble_eq_true rfl)) (.cons (vm_lit _ rfl rfl (.cons (vm_int rfl) (.cons (vm_int rfl) (.cons (vm_int rfl) (.cons (vm_int rfl) .nil))))) .nil))) <;> (try (exfalso; omega; done)) <;> (with_reducible conv => whnf))
        all_goals exact ret0 vm_p
      · have := Int.mul_pos (show 0 < m1 - m1 / k1 * k1 by omega) hd.1
        rw [z1, Int.zero_mul, show sgn 0 ((m1 - m1 / k1 * k1) * d1) = -1 from if_pos this]
        with_reducible conv => whnf
        repeat' ((first | (with_reducible refine branch_t ?_) | (with_reducible refine branch_f ?_) | (with_reducible refine branch_nt ?_) | (with_reducible refine branch_nf ?_) | (with_reducible refine branch_dec (fun _ => ?_) (fun _ => ?_)) | (with_reducible refine branch_ndec (fun _ => ?_) (fun _ => ?_)) | (with_reducible refine branch_bool (fun _ => ?_) (fun _ => ?_)) | (with_reducible refine arith_64 (by omega) ?_) | (with_reducible refine ob_i (by omega) (fun _ => ?_)) | (with_reducible refine ob_i (by unfold room; omega) (fun _ => ?_)) | (with_reducible refine ob_i (by (try simp only [toN_eq, Int.toNat_natCast] at *); (try dsimp only [toN] at *); omega) (fun _ => ?_)) | (with_reducible refine arith_64 (by (try simp only [toN_eq, Int.toNat_natCast] at *); (try dsimp only [toN] at *); omega) ?_) | (with_reducible refine ob_k rfl ?_) | ((with_reducible refine ob_k ?_ ?_); focus kernel_rfl) | (refine yield_i hmix hT rfl hL efr eps eag ebd rfl (by kernel_rfl) ?_) | (apply call_u F1) | (apply call_u F2) | (apply call_l (first_ok (l := [_, _]) (Nat.le_of_ble_eq_true rfl)) (.cons (vm_lit _ rfl rfl (.cons (vm_int rfl) (.cons (vm_int rfl) .nil))) .nil)) | (apply call_l (first_ok (l := [_, _, _]) (Nat.le_of_ble_eq_true rfl)) (.cons (vm_lit _ rfl rfl (.cons (vm_int rfl) (.cons (vm_int rfl) (.cons (vm_int rfl) .nil)))) .nil)) | (apply call_l (first_ok (l := [_, _, _, _]) (Nat.le_of_ble_eq_true rfl)) (.cons (vm_lit _ rfl rfl (.cons (vm_int rfl) (.cons (vm_int rfl) (.cons (vm_int rfl) (.cons (vm_int rfl) .nil))))) .nil))) <;> (try (exfalso; omega; done)) <;> (with_reducible conv => whnf))
        all_goals exact ret0 vm_p
    · by_cases z2 : m1 - m1 / k1 * k1 = 0
      · have := Int.mul_pos (show 0 < n1 - n1 / d1 * d1 by omega) hk.1
        rw [z2, Int.zero_mul, show sgn ((n1 - n1 / d1 * d1) * k1) 0 = 1 from by unfold sgn; rw [if_neg (by omega), if_pos this]]
        with_reducible conv => whnf
        repeat' ((first | (with_reducible refine branch_t ?_) | (with_reducible refine branch_f ?_) | (with_reducible refine branch_nt ?_) | (with_reducible refine branch_nf ?_) | (with_reducible refine branch_dec (fun _ => ?_) (fun _ => ?_)) | (with_reducible refine branch_ndec (fun _ => ?_) (fun _ => ?_)) | (with_reducible refine branch_bool (fun _ => ?_) (fun _ => ?_)) | (with_reducible refine arith_64 (by omega) ?_) | (with_reducible refine ob_i (by omega) (fun _ => ?_)) | (with_reducible refine ob_i (by unfold room; omega) (fun _ => ?_)) | (with_reducible refine ob_i (by (try simp only [toN_eq, Int.toNat_natCast] at *); (try dsimp only [toN] at *); omega) (fun _ => ?_)) | (with_reducible refine arith_64 (by (try simp only [toN_eq, Int.toNat_natCast] at *); (try dsimp only [toN] at *); omega) ?_) | (with_reducible refine ob_k rfl ?_) | ((with_reducible refine ob_k ?_ ?_); focus kernel_rfl) | (refine yield_i hmix hT rfl hL efr eps eag ebd rfl (by kernel_rfl) ?_) | (apply call_u F1) | (apply call_u F2) | (apply call_l (first_ok (l := [_, _]) (Nat.le_of_ble_eq_true rfl)) (.cons (vm_lit _ rfl rfl (.cons (vm_int rfl) (.cons (vm_int rfl) .nil))) .nil)) | (apply call_l (first_ok (l := [_, _, _]) (Nat.le_of_ble_eq_true rfl)) (.cons (vm_lit _ rfl rfl (.cons (vm_int rfl) (.cons (vm_int rfl) (.cons (vm_int rfl) .nil)))) .nil)) | (apply call_l (first_ok (l := [_, _, _, _]) (Nat.le_of_ble_eq_true rfl)) (.cons (vm_lit _ rfl rfl (.cons (vm_int rfl) (.cons (vm_int rfl) (.cons (vm_int rfl) (.cons (vm_int rfl) .nil))))) .nil))) <;> (try (exfalso; omega; done)) <;> (with_reducible conv => whnf))
        all_goals exact ret0 vm_p
      · with_reducible conv => whnf
        repeat' ((first | (with_reducible refine branch_t ?_) | (with_reducible refine branch_f ?_) | (with_reducible refine branch_nt ?_) | (with_reducible refine branch_nf ?_) | (with_reducible refine branch_dec (fun _ => ?_) (fun _ => ?_)) | (with_reducible refine branch_ndec (fun _ => ?_) (fun _ => ?_)) | (with_reducible refine branch_bool (fun _ => ?_) (fun _ => ?_)) | (with_reducible refine arith_64 (by omega) ?_) | (with_reducible refine ob_i (by omega) (fun _ => ?_)) | (with_reducible refine ob_i (by unfold room; omega) (fun _ => ?_)) | (with_reducible refine ob_i (by (try simp only [toN_eq, Int.toNat_natCast] at *); (try dsimp only [toN] at *); omega) (fun _ => ?_)) | (with_reducible refine arith_64 (by (try simp only [toN_eq, Int.toNat_natCast] at *); (try dsimp only [toN] at *); omega) ?_) | (with_reducible refine ob_k rfl ?_) | ((with_reducible refine ob_k ?_ ?_); focus kernel_rfl) | (refine yield_i hmix hT rfl hL efr eps eag ebd rfl (by kernel_rfl) ?_) | (apply call_u F1) | (apply call_u F2) | (apply call_l (first_ok (l := [_, _]) (Nat.le_of_ble_eq_true rfl)) (.cons (vm_lit _ rfl rfl (.cons (vm_int rfl) (.cons (vm_int rfl) .nil))) .nil)) | (apply call_l (first_ok (l := [_, _, _]) (Nat.le_of_ble_eq_true rfl)) (.cons (vm_lit _ rfl rfl (.cons (vm_int rfl) (.cons (vm_int rfl) (.cons (vm_int rfl) .nil)))) .nil)) | (apply call_l (first_ok (l := [_, _, _, _]) (Nat.le_of_ble_eq_true rfl)) (.cons (vm_lit _ rfl rfl (.cons (vm_int rfl) (.cons (vm_int rfl) (.cons (vm_int rfl) (.cons (vm_int rfl) .nil))))) .nil))) <;> (try (exfalso; omega; done)) <;> (with_reducible conv => whnf))
        refine ⟨(k1, m1 - m1 / k1 * k1, d1, n1 - n1 / d1 * d1), ⟨by dsimp only; omega, by dsimp only; omega, by dsimp only; omega, by dsimp only; omega, ?_⟩, by dsimp only; omega, ?_⟩
        · dsimp only
          rw [Int.mul_comm k1, Int.mul_comm d1]
        · refine ⟨[], rfl, ?_, ?_⟩ <;> repeat' (first | exact trivial | exact vm_p | exact vm_ptr rfl rfl rfl | exact vm_yld rfl rfl | exact vm_own rfl rfl rfl rfl | exact vm_own rfl rfl (by omega) (by omega) | exact vm_int (by omega) | exact vm_nil rfl | exact sbm_cells vmL_p | exact sbm_row rfl (fun _ _ => vm_p) | refine ⟨⟨_, rfl, ?_⟩, ?_⟩ | refine ⟨⟨_, _, _, rfl⟩, ?_⟩ | (refine sbm_loop ?_; rw [efr]) | refine sbm_cells ?_ | refine vmL.cons ?_ ?_ | exact vmL.nil | refine vm_own rfl rfl rfl ?_)
  · have e : sgn (n1 * k1) (m1 * d1) = 1 := by unfold sgn; rw [if_neg (by have := s2 c; omega), if_pos (s2 c)]
    rw [e]
    with_reducible conv => whnf
    repeat' ((first | (with_reducible refine branch_t ?_) | (with_reducible refine branch_f ?_) | (with_reducible refine branch_nt ?_) | (with_reducible refine branch_nf ?_) | (with_reducible refine branch_dec (fun _ => ?_) (fun _ => ?_)) | (with_reducible refine branch_ndec (fun _ => ?_) (fun _ => ?_)) | (with_reducible refine branch_bool (fun _ => ?_) (fun _ => ?_)) | (with_reducible refine arith_64 (by omega) ?_) | (with_reducible refine ob_i (by omega) (fun _ => ?_)) | (with_reducible refine ob_i (by unfold room; omega) (fun _ => ?_)) | (with_reducible refine ob_i (by (try simp only [toN_eq, Int.toNat_natCast] at *); (try dsimp only [toN] at *); omega) (fun _ => ?_)) | (with_reducible refine arith_64 (by (try simp only [toN_eq, Int.toNat_natCast] at *); (try dsimp only [toN] at *); omega) ?_) | (with_reducible refine ob_k rfl ?_) | ((with_reducible refine ob_k ?_ ?_); focus kernel_rfl) | (refine yield_i hmix hT rfl hL efr eps eag ebd rfl (by kernel_rfl) ?_) | (apply call_u F1) | (apply call_u F2) | (apply call_l (first_ok (l := [_, _]) (Nat.le_of_ble_eq_true rfl)) (.cons (vm_lit _ rfl rfl (.cons (vm_int rfl) (.cons (vm_int rfl) .nil))) .nil)) | (apply call_l (first_ok (l := [_, _, _]) (Nat.le_of_ble_eq_true rfl)) (.cons (vm_lit _ rfl rfl (.cons (vm_int rfl) (.cons (vm_int rfl) (.cons (vm_int rfl) .nil)))) .nil)) | (apply call_l (first_ok (l := [_, _, _, _]) (Nat.le_of_ble_eq_true rfl)) (.cons (vm_lit _ rfl rfl (.cons (vm_int rfl) (.cons (vm_int rfl) (.cons (vm_int rfl) (.cons (vm_int rfl) .nil))))) .nil))) <;> (try (exfalso; omega; done)) <;> (with_reducible conv => whnf))
    exact ret0 vm_p
/-! ### The best column -/
def bestK (t : Tb) (h : Nat) : Nat → Int
  | 0 => -1
  | k + 1 => if 0 < (ct t h k).2 ∧ (bestK t h k < 0 ∨ (ct t h (bestK t h k).toNat).1 * (ct t h k).2 < (ct t h k).1 * (ct t h (bestK t h k).toNat).2) then (k : Int) else bestK t h k
theorem bestK_bd (t : Tb) (h : Nat) : ∀ k : Nat, -1 ≤ bestK t h k ∧ bestK t h k < k ∧ (0 ≤ bestK t h k → 0 < (ct t h (bestK t h k).toNat).2)
  | 0 => by simp [bestK]
  | k + 1 => by
    have ih := bestK_bd t h k
    rw [bestK]
    split
    · rename_i c
      refine ⟨by omega, by omega, fun _ => ?_⟩
      rw [Int.toNat_natCast]; exact c.1
    · exact ⟨by omega, by omega, ih.2.2⟩
def bestE (t : Tb) (h : Nat) : Int := if bestK t h t.fr.length < 0 then 12 else 0
end Go.Proofs.YtcdcmeiipfafdaaGreat
