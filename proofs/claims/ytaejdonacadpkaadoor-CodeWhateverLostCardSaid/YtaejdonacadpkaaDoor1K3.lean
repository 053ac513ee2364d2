/-
  Chapter 1: whatever the lost samples were: the law (by contract).
  Conditions: none.
-/
import Derived.Test.YtaejdonacadpkaaDoor1K2
import Derived.Test.YtaejdonacadpkaaDoor1P
namespace Go.Proofs.YtaejdonacadpkaaDoor
open Go.RowKit Fx
theorem pureP {n : Nat} {e : Nat → Int × Int} {ty : TypeId} : ∀ s ∈ [SB.row 2 n (fun i => eP (e i)) ty], PureS False s := fun s hs => by
  simp only [List.mem_singleton] at hs
  subst hs
  exact fun i hi => .inr IsPlain.h
theorem cS_bd {f : Frm} (v : f.Val) {w : List (Int × Int)} (hw : ∀ i, i < w.length → isU (w.getD i (0, 0)) = true) (hl : w.length ≤ 32) (k : Nat) : (-64000000 ≤ (cS f w k w.length).1 ∧ (cS f w k w.length).1 ≤ 64000000) ∧ (-64000000 ≤ (cS f w k w.length).2 ∧ (cS f w k w.length).2 ≤ 64000000) := by
  obtain ⟨c, e⟩ := zS_cb v hw hl k w.length (Nat.le_refl _)
  have h1 := c.r1
  have h2 := c.i1
  rw [← e]
  unfold cv
  dsimp only
  omega
theorem cmpL_at {f : Frm} {w : List (Int × Int)} {k : Nat} (h : k < f.sm.length - w.length + 1) : (cmpL f w).vs.getD k (0, 0) = cS f w k w.length ∧ (cmpL f w).ms.getD k 0 = cM f k w.length :=
  ⟨range_map_at h, range_map_at h⟩
theorem cmpL_val {f : Frm} (v : f.Val) {w : List (Int × Int)} (hw : ∀ i, i < w.length → isU (w.getD i (0, 0)) = true) (h1 : 0 < w.length) (hl : w.length ≤ 32) (hm : w.length ≤ f.sm.length) : (cmpL f w).Val ∧ lnE (cmpL f w) = 0 := by
  have n1 := v.n1
  obtain ⟨a, b⟩ := cmpL_len f w
  have g : ∀ i, i < (cmpL f w).vs.length → valI (cmpL f w) i = true := fun i hi => by
    have c := cS_bd v hw hl i
    have m := cM_bd f i w.length
    obtain ⟨e1, e2⟩ := cmpL_at (f := f) (w := w) (k := i) (by omega)
    unfold valI
    rw [e1, e2]
    exact valB_iff.2 ⟨by omega, by omega, by omega⟩
  have p : lnP (cmpL f w) = 0 := by unfold lnP; rw [if_neg (by omega), if_neg (by omega)]
  exact ⟨⟨by omega, by omega, by omega, g⟩, lnE_good p g⟩
theorem tS_bd {F : Nat → Int × Int} {w : List (Int × Int)} {k : Nat} (hw : ∀ i, i < w.length → isU (w.getD i (0, 0)) = true) (hF : ∀ i, i < k + w.length → (-2000000 ≤ (F i).1 ∧ (F i).1 ≤ 2000000) ∧ (-2000000 ≤ (F i).2 ∧ (F i).2 ≤ 2000000)) : ∀ i : Nat, i ≤ w.length → (-((i : Int) * 2000000) ≤ (tS F w k i).1 ∧ (tS F w k i).1 ≤ (i : Int) * 2000000) ∧ (-((i : Int) * 2000000) ≤ (tS F w k i).2 ∧ (tS F w k i).2 ≤ (i : Int) * 2000000)
  | 0, _ => by simp [tS]
  | i + 1, h => by
    have ih := tS_bd (F := F) hw hF i (by omega)
    have g := hF (k + i) (by omega)
    have u := unit_in (hw i (by omega)) g.1 g.2
    unfold tS
    dsimp only
    omega
def fillK (f : Frm) (fl : List (Int × Int)) (k i : Nat) : Int × Int := if i < k then flF f fl i else f.sm.getD i (0, 0)
@[reducible] def eLo (w fl : List (Int × Int)) : V := .agg [ePs w, ePs fl]
theorem unit_bd {p : Int × Int} (h : isU p = true) : (-1 ≤ p.1 ∧ p.1 ≤ 1) ∧ (-1 ≤ p.2 ∧ p.2 ≤ 1) := by
  rcases isU_cases h with e | e | e | e <;> subst e <;> decide
theorem prod_lim {a b : Int} (h1 : -1 ≤ a ∧ a ≤ 1) (h2 : -2000000 ≤ b ∧ b ≤ 2000000) : lim62 (a * b) := by
  have := mul_lim (M := 2000000) (c := 1) h2 h1
  rw [Int.mul_comm b a] at this
  unfold lim62; omega
set_option maxHeartbeats 8000000 in
set_option maxRecDepth 100000 in
theorem lost_main {f : Frm} {w fl : List (Int × Int)} {r : Int × Int} (AW : FnOK Tryd.prog 15 [] (B true) []) (c1 : f.sm.length ≤ 70 ∧ f.gp.length ≤ 70) (c2 : frE f = 0) (c4 : waveE w = 0) (c5 : w.length ≤ f.sm.length) (c6 : fl.length = f.sm.length) (c7 : ruE r = 0) (c8 : r.1 ≤ 1999990) : FnOK Tryd.prog 14 [eF f, eLo w fl, eP r] (B true) [] := by
  have FF := fewFrame_ok (f := f) (by omega) (by omega)
  rw [decide_eq_true c1] at FF
  have FE := refFrameErr_ok (f := f) (by omega) (by omega)
  rw [c2] at FE
  have v := frm_val c2
  have n0 := v.n0
  have n1 := v.n1
  obtain ⟨w0, w1, wu⟩ := wave_val c4
  have WE := rWaveErr_ok (w := w) (by omega)
  rw [c4] at WE
  have RU := rRuleErr_ok (r := r)
  rw [c7] at RU
  have rb : (0 ≤ r.1 ∧ r.1 ≤ 2000000) ∧ (0 ≤ r.2 ∧ r.2 ≤ 1000000000) := by
    unfold ruE at c7
    split at c7
    · cases c7
    · rename_i a
      split at c7
      · cases c7
      · rename_i b; exact ⟨Decidable.not_not.1 a, Decidable.not_not.1 b⟩
  have CF := copyFrame_ok c1.1 c1.2
  have CG := copyGausses_ok (l := w) (by omega)
  have ce : cmpE f w = 0 := by unfold cmpE; rw [if_neg (fun k => k c2), if_neg (fun k => k c4), if_pos c5]
  have C := compressed_good (by omega) ce
  obtain ⟨LV, LE⟩ := cmpL_val v wu w0 w1 c5
  obtain ⟨ln1, ln2⟩ := cmpL_len f w
  have RL := rLineErr_ok (l := cmpL f w) (by omega) (by omega)
  rw [LE] at RL
  have lat : ∀ k, k < f.sm.length - w.length + 1 → (cmpL f w).vs.getD k (0, 0) = cS f w k w.length ∧ (cmpL f w).ms.getD k 0 = cM f k w.length := fun k h => cmpL_at h
  have CO := copyGaussesO_ok (l := f.sm) (by omega)
  have CL := copyLine_ok (l := cmpL f w) (by omega) (by omega)
  generalize cmpL f w = L at *
  have tq := sq_bd (x := r.2) (M := 1000000000) (by omega)
  refine fn_i hmix hT Tryd.f14 (by kernel_rfl) rfl (by kernel_rfl) ?_
  with_reducible conv => whnf
  repeat' ((first | (with_reducible refine branch_t ?_) | (with_reducible refine branch_f ?_) | (with_reducible refine branch_nt ?_) | (with_reducible refine branch_nf ?_) | (with_reducible refine branch_dec (fun _ => ?_) (fun _ => ?_)) | (with_reducible refine branch_ndec (fun _ => ?_) (fun _ => ?_)) | (with_reducible refine branch_bool (fun _ => ?_) (fun _ => ?_)) | (with_reducible refine arith_64 (by omega) ?_) | (with_reducible refine ob_i (by omega) (fun _ => ?_)) | (with_reducible refine ob_i (by unfold room; omega) (fun _ => ?_)) | (with_reducible refine ob_i (by (try simp only [] at *); (try dsimp only [toN] at *); omega) (fun _ => ?_)) | (with_reducible refine arith_64 (by (try simp only [toN_eq, Int.toNat_natCast] at *); (try dsimp only [toN] at *); omega) ?_) | (with_reducible refine ob_k rfl ?_) | ((with_reducible refine ob_k ?_ ?_); focus kernel_rfl) | (refine yield_i hmix hT rfl hL efr eps eag ebd rfl (by kernel_rfl) ?_) | (apply call_u AW) | (apply call_u FF) | (apply call_u FE) | (apply call_u WE) | (apply call_u RU) | (apply call_u CF) | (apply call_u CG) | (apply call_u C) | (apply call_u RL) | (refine call_p CO (.cons vm_p .nil) pureP rv_own ?_) | (apply call_l (first_ok (l := [_, _]) (Nat.le_of_ble_eq_true rfl)) (.cons (vm_lit _ rfl rfl (.cons (vm_int rfl) (.cons (vm_int rfl) .nil))) .nil)) | (apply call_l (first_ok (l := [_, _, _]) (Nat.le_of_ble_eq_true rfl)) (.cons (vm_lit _ rfl rfl (.cons (vm_int rfl) (.cons (vm_int rfl) (.cons (vm_int rfl) .nil)))) .nil)) | (apply call_l (first_ok (l := [_, _, _, _]) (Nat.le_of_ble_eq_true rfl)) (.cons (vm_lit _ rfl rfl (.cons (vm_int rfl) (.cons (vm_int rfl) (.cons (vm_int rfl) (.cons (vm_int rfl) .nil))))) .nil))) <;> (try (exfalso; omega; done)) <;> (with_reducible conv => whnf))
  refine loop_i hmix hT (fun k : Nat => ([(3, .ptr 0 0), (4, .ptr 1 0), (5, .ptr 2 0), (7, .ptr 3 0), (9, .own 4 2 0 f.sm.length), (10, I k)], ⟨5, [(4, .row 2 f.sm.length (fun i => eP (fillK f fl k i)) 63), (3, .cells [ePs L.vs, eInts L.ms] 29), (2, .cells [I r.1, I r.2] 124), (1, .cells [ePs w, ePs fl] 122), (0, .cells [I f.g, I f.lim, ePs f.sm, eInts f.gp] 25)]⟩)) (fun k => k ≤ f.sm.length ∧ ∀ i, i < k → usB f i = false → (-r.1 ≤ (fl.getD i (0, 0)).1 ∧ (fl.getD i (0, 0)).1 ≤ r.1) ∧ (-r.1 ≤ (fl.getD i (0, 0)).2 ∧ (fl.getD i (0, 0)).2 ≤ r.1)) (fun k => f.sm.length - k) (0 : Nat) ⟨by omega, by omega⟩ ?_ ?_
  · refine ⟨[], rfl, ?_, ?_⟩ <;> repeat' (first | exact trivial | exact vm_p | exact vm_ptr rfl rfl rfl | exact vm_yld rfl rfl | exact vm_own rfl rfl rfl rfl | exact vm_own rfl rfl (by omega) (by omega) | exact vm_int (by omega) | exact vm_nil rfl | exact sbm_cells vmL_p | exact sbm_row rfl (fun _ _ => vm_p) | refine ⟨⟨_, rfl, ?_⟩, ?_⟩ | refine ⟨⟨_, _, _, rfl⟩, ?_⟩ | (refine sbm_loop ?_; rw [efr]) | refine sbm_cells ?_ | refine vmL.cons ?_ ?_ | exact vmL.nil | refine vm_own rfl rfl rfl ?_)
  rintro k ⟨hk, hf⟩
  by_cases h : k < f.sm.length
  · have t1 : toN (k : Int) = k := toN_nat k
    have U := usable_ok v h (by omega)
    have W1 := bWithin_ok (n := (fl.getD (toN (k : Int)) (0, 0)).1) (lo := 0 - r.1) (hi := r.1)
    have W2 := bWithin_ok (n := (fl.getD (toN (k : Int)) (0, 0)).2) (lo := 0 - r.1) (hi := r.1)
    cases u : usB f k with
    | true =>
      rw [u] at U
      with_reducible conv => whnf
      repeat' ((first | (with_reducible refine branch_t ?_) | (with_reducible refine branch_f ?_) | (with_reducible refine branch_nt ?_) | (with_reducible refine branch_nf ?_) | (with_reducible refine branch_dec (fun _ => ?_) (fun _ => ?_)) | (with_reducible refine branch_ndec (fun _ => ?_) (fun _ => ?_)) | (with_reducible refine branch_bool (fun _ => ?_) (fun _ => ?_)) | (with_reducible refine arith_64 (by omega) ?_) | (with_reducible refine ob_i (by omega) (fun _ => ?_)) | (with_reducible refine ob_i (by unfold room; omega) (fun _ => ?_)) | (with_reducible refine ob_i (by (try simp only [] at *); (try dsimp only [toN] at *); omega) (fun _ => ?_)) | (with_reducible refine arith_64 (by (try simp only [] at *); (try dsimp only [toN] at *); omega) ?_) | (with_reducible refine ob_k rfl ?_) | ((with_reducible refine ob_k ?_ ?_); focus kernel_rfl) | (refine yield_i hmix hT rfl hL efr eps eag ebd rfl (by kernel_rfl) ?_) | (apply call_u U) | (apply call_l (first_ok (l := [_, _]) (Nat.le_of_ble_eq_true rfl)) (.cons (vm_lit _ rfl rfl (.cons (vm_int rfl) (.cons (vm_int rfl) .nil))) .nil)) | (apply call_l (first_ok (l := [_, _, _]) (Nat.le_of_ble_eq_true rfl)) (.cons (vm_lit _ rfl rfl (.cons (vm_int rfl) (.cons (vm_int rfl) (.cons (vm_int rfl) .nil)))) .nil)) | (apply call_l (first_ok (l := [_, _, _, _]) (Nat.le_of_ble_eq_true rfl)) (.cons (vm_lit _ rfl rfl (.cons (vm_int rfl) (.cons (vm_int rfl) (.cons (vm_int rfl) (.cons (vm_int rfl) .nil))))) .nil))) <;> (try (exfalso; omega; done)) <;> (with_reducible conv => whnf))
      refine ⟨k + 1, ⟨by omega, fun i hi hu => ?_⟩, by omega, ?_⟩
      · by_cases e : i = k
        · subst e; rw [u] at hu; cases hu
        · exact hf i (by omega) hu
      refine ⟨[], rfl, ?_, ?_⟩ <;> repeat' (first | exact trivial | exact vm_p | exact vm_ptr rfl rfl rfl | exact vm_yld rfl rfl | exact vm_own rfl rfl rfl rfl | exact vm_own rfl rfl (by omega) (by omega) | exact vm_int (by omega) | exact vm_nil rfl | exact sbm_cells vmL_p | exact sbm_row rfl (fun _ _ => vm_p) | refine ⟨⟨_, rfl, ?_⟩, ?_⟩ | refine ⟨⟨_, _, _, rfl⟩, ?_⟩ | (refine sbm_loop ?_; rw [efr]) | refine sbm_cells ?_ | refine vmL.cons ?_ ?_ | exact vmL.nil | refine vm_own rfl rfl rfl ?_)
      refine sbm_row rfl fun i hi => ?_
      have e : fillK f fl (k + 1) i = fillK f fl k i := by
        unfold fillK
        by_cases q : i = k
        · subst q; rw [if_pos (by omega), if_neg (by omega)]; unfold flF; rw [if_pos u]
        · by_cases q2 : i < k
          · rw [if_pos (by omega), if_pos q2]
          · rw [if_neg (by omega), if_neg q2]
      dsimp only
      rw [e]
      exact vm_p
    | false =>
      rw [u] at U
      by_cases g1 : 0 - r.1 ≤ (fl.getD (toN (k : Int)) (0, 0)).1 ∧ (fl.getD (toN (k : Int)) (0, 0)).1 ≤ r.1
      case neg =>
        rw [decide_eq_false g1] at W1
        with_reducible conv => whnf
        repeat' ((first | (with_reducible refine branch_t ?_) | (with_reducible refine branch_f ?_) | (with_reducible refine branch_nt ?_) | (with_reducible refine branch_nf ?_) | (with_reducible refine branch_dec (fun _ => ?_) (fun _ => ?_)) | (with_reducible refine branch_ndec (fun _ => ?_) (fun _ => ?_)) | (with_reducible refine branch_bool (fun _ => ?_) (fun _ => ?_)) | (with_reducible refine arith_64 (by omega) ?_) | (with_reducible refine ob_i (by omega) (fun _ => ?_)) | (with_reducible refine ob_i (by unfold room; omega) (fun _ => ?_)) | (with_reducible refine ob_i (by (try simp only [] at *); (try dsimp only [toN] at *); omega) (fun _ => ?_)) | (with_reducible refine arith_64 (by (try simp only [] at *); (try dsimp only [toN] at *); omega) ?_) | (with_reducible refine ob_k rfl ?_) | ((with_reducible refine ob_k ?_ ?_); focus kernel_rfl) | (refine yield_i hmix hT rfl hL efr eps eag ebd rfl (by kernel_rfl) ?_) | (apply call_u U) | (apply call_u W1) | (apply call_u W2) | (apply call_l (first_ok (l := [_, _]) (Nat.le_of_ble_eq_true rfl)) (.cons (vm_lit _ rfl rfl (.cons (vm_int rfl) (.cons (vm_int rfl) .nil))) .nil)) | (apply call_l (first_ok (l := [_, _, _]) (Nat.le_of_ble_eq_true rfl)) (.cons (vm_lit _ rfl rfl (.cons (vm_int rfl) (.cons (vm_int rfl) (.cons (vm_int rfl) .nil)))) .nil)) | (apply call_l (first_ok (l := [_, _, _, _]) (Nat.le_of_ble_eq_true rfl)) (.cons (vm_lit _ rfl rfl (.cons (vm_int rfl) (.cons (vm_int rfl) (.cons (vm_int rfl) (.cons (vm_int rfl) .nil))))) .nil))) <;> (try (exfalso; omega; done)) <;> (with_reducible conv => whnf))
        exact ret0 vm_p
      by_cases g2 : 0 - r.1 ≤ (fl.getD (toN (k : Int)) (0, 0)).2 ∧ (fl.getD (toN (k : Int)) (0, 0)).2 ≤ r.1
      case neg =>
        rw [decide_eq_true g1] at W1
        rw [decide_eq_false g2] at W2
        with_reducible conv => whnf
        repeat' ((first | (with_reducible refine branch_t ?_) | (with_reducible refine branch_f ?_) | (with_reducible refine branch_nt ?_) | (with_reducible refine branch_nf ?_) | (with_reducible refine branch_dec (fun _ => ?_) (fun _ => ?_)) | (with_reducible refine branch_ndec (fun _ => ?_) (fun _ => ?_)) | (with_reducible refine branch_bool (fun _ => ?_) (fun _ => ?_)) | (with_reducible refine arith_64 (by omega) ?_) | (with_reducible refine ob_i (by omega) (fun _ => ?_)) | (with_reducible refine ob_i (by unfold room; omega) (fun _ => ?_)) | (with_reducible refine ob_i (by (try simp only [] at *); (try dsimp only [toN] at *); omega) (fun _ => ?_)) | (with_reducible refine arith_64 (by (try simp only [] at *); (try dsimp only [toN] at *); omega) ?_) | (with_reducible refine ob_k rfl ?_) | ((with_reducible refine ob_k ?_ ?_); focus kernel_rfl) | (refine yield_i hmix hT rfl hL efr eps eag ebd rfl (by kernel_rfl) ?_) | (apply call_u U) | (apply call_u W1) | (apply call_u W2) | (apply call_l (first_ok (l := [_, _]) (Nat.le_of_ble_eq_true rfl)) (.cons (vm_lit _ rfl rfl (.cons (vm_int rfl) (.cons (vm_int rfl) .nil))) .nil)) | (apply call_l (first_ok (l := [_, _, _]) (Nat.le_of_ble_eq_true rfl)) (.cons (vm_lit _ rfl rfl (.cons (vm_int rfl) (.cons (vm_int rfl) (.cons (vm_int rfl) .nil)))) .nil)) | (apply call_l (first_ok (l := [_, _, _, _]) (Nat.le_of_ble_eq_true rfl)) (.cons (vm_lit _ rfl rfl (.cons (vm_int rfl) (.cons (vm_int rfl) (.cons (vm_int rfl) (.cons (vm_int rfl) .nil))))) .nil))) <;> (try (exfalso; omega; done)) <;> (with_reducible conv => whnf))
        exact ret0 vm_p
      rw [decide_eq_true g1] at W1
      rw [decide_eq_true g2] at W2
      with_reducible conv => whnf
      repeat' ((first | (with_reducible refine branch_t ?_) | (with_reducible refine branch_f ?_) | (with_reducible refine branch_nt ?_) | (with_reducible refine branch_nf ?_) | (with_reducible refine branch_dec (fun _ => ?_) (fun _ => ?_)) | (with_reducible refine branch_ndec (fun _ => ?_) (fun _ => ?_)) | (with_reducible refine branch_bool (fun _ => ?_) (fun _ => ?_)) | (with_reducible refine arith_64 (by omega) ?_) | (with_reducible refine ob_i (by omega) (fun _ => ?_)) | (with_reducible refine ob_i (by unfold room; omega) (fun _ => ?_)) | (with_reducible refine ob_i (by (try simp only [] at *); (try dsimp only [toN] at *); omega) (fun _ => ?_)) | (with_reducible refine arith_64 (by (try simp only [] at *); (try dsimp only [toN] at *); omega) ?_) | (with_reducible refine ob_k rfl ?_) | ((with_reducible refine ob_k ?_ ?_); focus kernel_rfl) | (refine yield_i hmix hT rfl hL efr eps eag ebd rfl (by kernel_rfl) ?_) | (apply call_u U) | (apply call_u W1) | (apply call_u W2) | (apply call_l (first_ok (l := [_, _]) (Nat.le_of_ble_eq_true rfl)) (.cons (vm_lit _ rfl rfl (.cons (vm_int rfl) (.cons (vm_int rfl) .nil))) .nil)) | (apply call_l (first_ok (l := [_, _, _]) (Nat.le_of_ble_eq_true rfl)) (.cons (vm_lit _ rfl rfl (.cons (vm_int rfl) (.cons (vm_int rfl) (.cons (vm_int rfl) .nil)))) .nil)) | (apply call_l (first_ok (l := [_, _, _, _]) (Nat.le_of_ble_eq_true rfl)) (.cons (vm_lit _ rfl rfl (.cons (vm_int rfl) (.cons (vm_int rfl) (.cons (vm_int rfl) (.cons (vm_int rfl) .nil))))) .nil))) <;> (try (exfalso; omega; done)) <;> (with_reducible conv => whnf))
      refine ⟨k + 1, ⟨by omega, fun i hi hu => ?_⟩, by omega, ?_⟩
      · by_cases e : i = k
        · subst e; rw [t1] at g1 g2; omega
        · exact hf i (by omega) hu
      refine ⟨[], rfl, ?_, ?_⟩ <;> repeat' (first | exact trivial | exact vm_p | exact vm_ptr rfl rfl rfl | exact vm_yld rfl rfl | exact vm_own rfl rfl rfl rfl | exact vm_own rfl rfl (by omega) (by omega) | exact vm_int (by omega) | exact vm_nil rfl | exact sbm_cells vmL_p | exact sbm_row rfl (fun _ _ => vm_p) | refine ⟨⟨_, rfl, ?_⟩, ?_⟩ | refine ⟨⟨_, _, _, rfl⟩, ?_⟩ | (refine sbm_loop ?_; rw [efr]) | refine sbm_cells ?_ | refine vmL.cons ?_ ?_ | exact vmL.nil | refine vm_own rfl rfl rfl ?_)
      all_goals first | (refine sbm_row rfl fun i hi => ?_) | skip
      show vm _ (setF _ _ _ i) _
      rw [Nat.zero_add, t1]
      by_cases q : i = k
      · subst q
        have e : fillK f fl (i + 1) i = fl.getD i (0, 0) := by unfold fillK; rw [if_pos (by omega)]; unfold flF; rw [if_neg (by rw [u]; simp)]
        rw [setF_at, e]
        exact vm_p
      · have e : fillK f fl (k + 1) i = fillK f fl k i := by
          unfold fillK
          by_cases q2 : i < k
          · rw [if_pos (by omega), if_pos q2]
          · rw [if_neg (by omega), if_neg q2]
        rw [setF_ne q, e]
        exact vm_p
  · obtain rfl : k = f.sm.length := by omega
    have fF : ∀ i, i < f.sm.length → fillK f fl f.sm.length i = flF f fl i := fun i hi => if_pos hi
    have Fb : ∀ i, i < f.sm.length → (-2000000 ≤ (flF f fl i).1 ∧ (flF f fl i).1 ≤ 2000000) ∧ (-2000000 ≤ (flF f fl i).2 ∧ (flF f fl i).2 ≤ 2000000) := fun i hi => by
      unfold flF
      split
      · exact sm_bd v i
      · rename_i u
        have := hf i hi (by simpa using u)
        omega
    with_reducible conv => whnf
    repeat' ((first | (with_reducible refine branch_t ?_) | (with_reducible refine branch_f ?_) | (with_reducible refine branch_nt ?_) | (with_reducible refine branch_nf ?_) | (with_reducible refine branch_dec (fun _ => ?_) (fun _ => ?_)) | (with_reducible refine branch_ndec (fun _ => ?_) (fun _ => ?_)) | (with_reducible refine branch_bool (fun _ => ?_) (fun _ => ?_)) | (with_reducible refine arith_64 (by omega) ?_) | (with_reducible refine ob_i (by omega) (fun _ => ?_)) | (with_reducible refine ob_i (by unfold room; omega) (fun _ => ?_)) | (with_reducible refine ob_i (by (try simp only [toN_eq, Int.toNat_natCast] at *); (try dsimp only [toN] at *); omega) (fun _ => ?_)) | (with_reducible refine arith_64 (by (try simp only [toN_eq, Int.toNat_natCast] at *); (try dsimp only [toN] at *); omega) ?_) | (with_reducible refine ob_k rfl ?_) | ((with_reducible refine ob_k ?_ ?_); focus kernel_rfl) | (refine yield_i hmix hT rfl hL efr eps eag ebd rfl (by kernel_rfl) ?_)  | (apply call_l (first_ok (l := [_, _]) (Nat.le_of_ble_eq_true rfl)) (.cons (vm_lit _ rfl rfl (.cons (vm_int rfl) (.cons (vm_int rfl) .nil))) .nil)) | (apply call_l (first_ok (l := [_, _, _]) (Nat.le_of_ble_eq_true rfl)) (.cons (vm_lit _ rfl rfl (.cons (vm_int rfl) (.cons (vm_int rfl) (.cons (vm_int rfl) .nil)))) .nil)) | (apply call_l (first_ok (l := [_, _, _, _]) (Nat.le_of_ble_eq_true rfl)) (.cons (vm_lit _ rfl rfl (.cons (vm_int rfl) (.cons (vm_int rfl) (.cons (vm_int rfl) (.cons (vm_int rfl) .nil))))) .nil))) <;> (try (exfalso; omega; done)) <;> (with_reducible conv => whnf))
    refine loop_i hmix hT (fun j : Nat => ([(4, .ptr 1 0), (5, .ptr 2 0), (7, .ptr 3 0), (9, .own 4 2 0 f.sm.length), (11, I j)], ⟨5, [(4, .row 2 f.sm.length (fun i => eP (flF f fl i)) 63), (3, .cells [ePs L.vs, eInts L.ms] 29), (2, .cells [I r.1, I r.2] 124), (1, .cells [ePs w, ePs fl] 122), (0, .cells [I f.g, I f.lim, ePs f.sm, eInts f.gp] 25)]⟩)) (fun j => j ≤ L.vs.length) (fun j => L.vs.length - j) (0 : Nat) (by omega) ?_ ?_
    · refine ⟨[], rfl, ?_, ?_⟩ <;> repeat' (first | exact trivial | exact vm_p | exact vm_ptr rfl rfl rfl | exact vm_yld rfl rfl | exact vm_own rfl rfl rfl rfl | exact vm_own rfl rfl (by omega) (by omega) | exact vm_int (by omega) | exact vm_nil rfl | exact sbm_cells vmL_p | exact sbm_row rfl (fun _ _ => vm_p) | refine ⟨⟨_, rfl, ?_⟩, ?_⟩ | refine ⟨⟨_, _, _, rfl⟩, ?_⟩ | (refine sbm_loop ?_; rw [efr]) | refine sbm_cells ?_ | refine vmL.cons ?_ ?_ | exact vmL.nil | refine vm_own rfl rfl rfl ?_)
      all_goals first | (refine sbm_row rfl fun i hi => ?_; dsimp only; rw [fF i hi]; exact vm_p) | skip
    intro j hj
    by_cases hj2 : j < L.vs.length
    · with_reducible conv => whnf
      repeat' ((first | (with_reducible refine branch_t ?_) | (with_reducible refine branch_f ?_) | (with_reducible refine branch_nt ?_) | (with_reducible refine branch_nf ?_) | (with_reducible refine branch_dec (fun _ => ?_) (fun _ => ?_)) | (with_reducible refine branch_ndec (fun _ => ?_) (fun _ => ?_)) | (with_reducible refine branch_bool (fun _ => ?_) (fun _ => ?_)) | (with_reducible refine arith_64 (by omega) ?_) | (with_reducible refine ob_i (by omega) (fun _ => ?_)) | (with_reducible refine ob_i (by unfold room; omega) (fun _ => ?_)) | (with_reducible refine ob_i (by (try simp only [toN_eq, Int.toNat_natCast] at *); (try dsimp only [toN] at *); omega) (fun _ => ?_)) | (with_reducible refine arith_64 (by (try simp only [toN_eq, Int.toNat_natCast] at *); (try dsimp only [toN] at *); omega) ?_) | (with_reducible refine ob_k rfl ?_) | ((with_reducible refine ob_k ?_ ?_); focus kernel_rfl) | (refine yield_i hmix hT rfl hL efr eps eag ebd rfl (by kernel_rfl) ?_)  | (apply call_l (first_ok (l := [_, _]) (Nat.le_of_ble_eq_true rfl)) (.cons (vm_lit _ rfl rfl (.cons (vm_int rfl) (.cons (vm_int rfl) .nil))) .nil)) | (apply call_l (first_ok (l := [_, _, _]) (Nat.le_of_ble_eq_true rfl)) (.cons (vm_lit _ rfl rfl (.cons (vm_int rfl) (.cons (vm_int rfl) (.cons (vm_int rfl) .nil)))) .nil)) | (apply call_l (first_ok (l := [_, _, _, _]) (Nat.le_of_ble_eq_true rfl)) (.cons (vm_lit _ rfl rfl (.cons (vm_int rfl) (.cons (vm_int rfl) (.cons (vm_int rfl) (.cons (vm_int rfl) .nil))))) .nil))) <;> (try (exfalso; omega; done)) <;> (with_reducible conv => whnf))
      refine loop_i hmix hT (fun i : Nat => ([(4, .ptr 1 0), (5, .ptr 2 0), (7, .ptr 3 0), (9, .own 4 2 0 f.sm.length), (11, I j), (12, .ptr 5 0), (13, I i)], ⟨6, [(5, .cells [I (tS (flF f fl) w j i).1, I (tS (flF f fl) w j i).2] 63), (4, .row 2 f.sm.length (fun i => eP (flF f fl i)) 63), (3, .cells [ePs L.vs, eInts L.ms] 29), (2, .cells [I r.1, I r.2] 124), (1, .cells [ePs w, ePs fl] 122), (0, .cells [I f.g, I f.lim, ePs f.sm, eInts f.gp] 25)]⟩)) (fun i => i ≤ w.length) (fun i => w.length - i) (0 : Nat) (by omega) ?_ ?_
      · refine ⟨[], rfl, ?_, ?_⟩ <;> repeat' (first | exact trivial | exact vm_p | exact vm_ptr rfl rfl rfl | exact vm_yld rfl rfl | exact vm_own rfl rfl rfl rfl | exact vm_own rfl rfl (by omega) (by omega) | exact vm_int (by omega) | exact vm_nil rfl | exact sbm_cells vmL_p | exact sbm_row rfl (fun _ _ => vm_p) | refine ⟨⟨_, rfl, ?_⟩, ?_⟩ | refine ⟨⟨_, _, _, rfl⟩, ?_⟩ | (refine sbm_loop ?_; rw [efr]) | refine sbm_cells ?_ | refine vmL.cons ?_ ?_ | exact vmL.nil | refine vm_own rfl rfl rfl ?_)
      intro i hi
      have tb := tS_bd (F := flF f fl) (w := w) (k := j) wu (fun i h => Fb i (by omega)) i hi
      by_cases hi2 : i < w.length
      · have t1 : toN (i : Int) = i := toN_nat i
        have t2 : 0 + toN ((i : Int) + (j : Int)) = j + i := by rw [toN_eq]; omega
        have ub := unit_bd (wu i hi2)
        have fb := Fb (j + i) (by omega)
        have nx : tS (flF f fl) w j (i + 1) = ((tS (flF f fl) w j i).1 + (gmul ((w.getD (toN (i : Int)) (0, 0)).1, -(w.getD (toN (i : Int)) (0, 0)).2) (flF f fl (0 + toN ((i : Int) + (j : Int))))).1, (tS (flF f fl) w j i).2 + (gmul ((w.getD (toN (i : Int)) (0, 0)).1, -(w.getD (toN (i : Int)) (0, 0)).2) (flF f fl (0 + toN ((i : Int) + (j : Int))))).2) := by
          rw [t1, t2]; rfl
        rw [← t1] at ub
        rw [← t2] at fb
        have GC := gConj_ok (p := w.getD (toN (i : Int)) (0, 0)) (by omega)
        have nb : -1 ≤ -(w.getD (toN (i : Int)) (0, 0)).2 ∧ -(w.getD (toN (i : Int)) (0, 0)).2 ≤ 1 := by omega
        have GM := gMul_ok (p := ((w.getD (toN (i : Int)) (0, 0)).1, -(w.getD (toN (i : Int)) (0, 0)).2)) (q := flF f fl (0 + toN ((i : Int) + (j : Int)))) ⟨prod_lim ub.1 fb.1, prod_lim nb fb.2, prod_lim ub.1 fb.2, prod_lim nb fb.1⟩
        have gb : lim62 (gmul ((w.getD (toN (i : Int)) (0, 0)).1, -(w.getD (toN (i : Int)) (0, 0)).2) (flF f fl (0 + toN ((i : Int) + (j : Int))))).1 ∧ lim62 (gmul ((w.getD (toN (i : Int)) (0, 0)).1, -(w.getD (toN (i : Int)) (0, 0)).2) (flF f fl (0 + toN ((i : Int) + (j : Int))))).2 := by
          have a1 := mul_lim (M := 2000000) (c := 1) fb.1 ub.1
          have a2 := mul_lim (M := 2000000) (c := 1) fb.2 nb
          have a3 := mul_lim (M := 2000000) (c := 1) fb.2 ub.1
          have a4 := mul_lim (M := 2000000) (c := 1) fb.1 nb
          rw [Int.mul_comm (flF f fl (0 + toN ((i : Int) + (j : Int)))).1] at a1 a4
          rw [Int.mul_comm (flF f fl (0 + toN ((i : Int) + (j : Int)))).2] at a2 a3
          unfold gmul lim62
          dsimp only
          omega
        have GA := gAdd_ok (p := tS (flF f fl) w j i) (q := gmul ((w.getD (toN (i : Int)) (0, 0)).1, -(w.getD (toN (i : Int)) (0, 0)).2) (flF f fl (0 + toN ((i : Int) + (j : Int))))) ⟨by unfold lim62; omega, gb⟩
        with_reducible conv => whnf
        repeat' ((first | (with_reducible refine branch_t ?_) | (with_reducible refine branch_f ?_) | (with_reducible refine branch_nt ?_) | (with_reducible refine branch_nf ?_) | (with_reducible refine branch_dec (fun _ => ?_) (fun _ => ?_)) | (with_reducible refine branch_ndec (fun _ => ?_) (fun _ => ?_)) | (with_reducible refine branch_bool (fun _ => ?_) (fun _ => ?_)) | (with_reducible refine arith_64 (by omega) ?_) | (with_reducible refine ob_i (by omega) (fun _ => ?_)) | (with_reducible refine ob_i (by unfold room; omega) (fun _ => ?_)) | (with_reducible refine ob_i (by (try simp only [toN_eq] at *); (try dsimp only [toN] at *); omega) (fun _ => ?_)) | (with_reducible refine arith_64 (by (try simp only [toN_eq] at *); (try dsimp only [toN] at *); omega) ?_) | (with_reducible refine ob_k rfl ?_) | ((with_reducible refine ob_k ?_ ?_); focus kernel_rfl) | (refine yield_i hmix hT rfl hL efr eps eag ebd rfl (by kernel_rfl) ?_) | (apply call_u GC) | (apply call_u GM) | (apply call_u GA) | (apply call_l (first_ok (l := [_, _]) (Nat.le_of_ble_eq_true rfl)) (.cons (vm_lit _ rfl rfl (.cons (vm_int rfl) (.cons (vm_int rfl) .nil))) .nil)) | (apply call_l (first_ok (l := [_, _, _]) (Nat.le_of_ble_eq_true rfl)) (.cons (vm_lit _ rfl rfl (.cons (vm_int rfl) (.cons (vm_int rfl) (.cons (vm_int rfl) .nil)))) .nil)) | (apply call_l (first_ok (l := [_, _, _, _]) (Nat.le_of_ble_eq_true rfl)) (.cons (vm_lit _ rfl rfl (.cons (vm_int rfl) (.cons (vm_int rfl) (.cons (vm_int rfl) (.cons (vm_int rfl) .nil))))) .nil))) <;> (try (exfalso; omega; done)) <;> (with_reducible conv => whnf))
        refine ⟨i + 1, by omega, by omega, ?_⟩
        rw [nx]
        refine ⟨[], rfl, ?_, ?_⟩ <;> repeat' (first | exact trivial | exact vm_p | exact vm_ptr rfl rfl rfl | exact vm_yld rfl rfl | exact vm_own rfl rfl rfl rfl | exact vm_own rfl rfl (by omega) (by omega) | exact vm_int (by omega) | exact vm_nil rfl | exact sbm_cells vmL_p | exact sbm_row rfl (fun _ _ => vm_p) | refine ⟨⟨_, rfl, ?_⟩, ?_⟩ | refine ⟨⟨_, _, _, rfl⟩, ?_⟩ | (refine sbm_loop ?_; rw [efr]) | refine sbm_cells ?_ | refine vmL.cons ?_ ?_ | exact vmL.nil | refine vm_own rfl rfl rfl ?_)
      · obtain rfl : i = w.length := by omega
        clear hi hi2
        obtain ⟨la1, la2⟩ := lat j (by omega)
        have ti := tS_in (f := f) (fl := fl) (b := r.1) (k := j) wu (fun i h hu => hf i (by omega) hu) w.length (Nat.le_refl _)
        have es : lvS L j r.1 = cM f j w.length * r.1 := by unfold lvS; rw [la2]
        have s1 := sq_in (x := (cS f w j w.length).1) (y := (tS (flF f fl) w j w.length).1) (s := cM f j w.length * r.1) ti.1.1 ti.1.2
        have s2 := sq_in (x := (cS f w j w.length).2) (y := (tS (flF f fl) w j w.length).2) (s := cM f j w.length * r.1) ti.2.1 ti.2.2
        have mb := cM_bd f j w.length
        have sm1 : cM f j w.length * r.1 ≤ cM f j w.length * (r.1 + 10) := Int.mul_le_mul_of_nonneg_left (by omega) mb.1
        have sm0 : 0 ≤ cM f j w.length * r.1 := Int.mul_nonneg mb.1 (by omega)
        have m1 := sq_more (x := (cS f w j w.length).1) sm1 sm0
        have m2 := sq_more (x := (cS f w j w.length).2) sm1 sm0
        have eL1 : lvL L j r.1 = sqL (cS f w j w.length).1 (cM f j w.length * r.1) + sqL (cS f w j w.length).2 (cM f j w.length * r.1) := by unfold lvL; rw [es, la1]
        have eH1 : lvH L j r.1 = sqH (cS f w j w.length).1 (cM f j w.length * r.1) + sqH (cS f w j w.length).2 (cM f j w.length * r.1) := by unfold lvH; rw [es, la1]
        have es2 : lvS L j (r.1 + 10) = cM f j w.length * (r.1 + 10) := by unfold lvS; rw [la2]
        have eL2 : lvL L j (r.1 + 10) = sqL (cS f w j w.length).1 (cM f j w.length * (r.1 + 10)) + sqL (cS f w j w.length).2 (cM f j w.length * (r.1 + 10)) := by unfold lvL; rw [es2, la1]
        have eH2 : lvH L j (r.1 + 10) = sqH (cS f w j w.length).1 (cM f j w.length * (r.1 + 10)) + sqH (cS f w j w.length).2 (cM f j w.length * (r.1 + 10)) := by unfold lvH; rw [es2, la1]
        have n1 : nrm (tS (flF f fl) w j w.length) = (tS (flF f fl) w j w.length).1 * (tS (flF f fl) w j w.length).1 + (tS (flF f fl) w j w.length).2 * (tS (flF f fl) w j w.length).2 := rfl
        have q1 := sq_bd (x := (tS (flF f fl) w j w.length).1) (M := 64000000) (by omega)
        have q2 := sq_bd (x := (tS (flF f fl) w j w.length).2) (M := 64000000) (by omega)
        have GN := gNorm_ok (p := tS (flF f fl) w j w.length) (by omega)
        have h1 : lvL L j r.1 ≤ nrm (tS (flF f fl) w j w.length) ∧ nrm (tS (flF f fl) w j w.length) ≤ lvH L j r.1 := by omega
        have h2 : lvL L j (r.1 + 10) ≤ lvL L j r.1 ∧ lvH L j r.1 ≤ lvH L j (r.1 + 10) := by omega
        have LA := levelAt_ok LV LE (k := j) hj2 (b := r.1) (by omega)
        have LB := levelAt_ok LV LE (k := j) hj2 (b := r.1 + 10) (by omega)
        have AN := answerAt_ok LV LE (k := j) hj2 (r := r) rb.1 rb.2
        have a2 : ansV (lvL L j r.1) (lvH L j r.1) r.2 = 2 → r.2 * r.2 ≤ nrm (tS (flF f fl) w j w.length) := fun e => by
          unfold ansV at e
          split at e
          · omega
          · split at e <;> cases e
        have a0 : ansV (lvL L j r.1) (lvH L j r.1) r.2 = 0 → nrm (tS (flF f fl) w j w.length) < r.2 * r.2 := fun e => by
          unfold ansV at e
          split at e
          · cases e
          · split at e
            · omega
            · cases e
        have W5 := bWithin_ok (n := nrm (tS (flF f fl) w j w.length)) (lo := lvL L j r.1) (hi := lvH L j r.1)
        rw [decide_eq_true h1] at W5
        clear ti s1 s2 m1 m2 eL1 eH1 eL2 eH2 es es2 q1 q2 n1 sm1 sm0 tb Fb hf fF lat la1 la2
        generalize ansV (lvL L j r.1) (lvH L j r.1) r.2 = an at *
        generalize lvL L j (r.1 + 10) = lo2 at *
        generalize lvH L j (r.1 + 10) = hi2 at *
        generalize lvL L j r.1 = lo at *
        generalize lvH L j r.1 = hi at *
        generalize nrm (tS (flF f fl) w j w.length) = N at *
        with_reducible conv => whnf
        repeat' ((first | (with_reducible refine branch_t ?_) | (with_reducible refine branch_f ?_) | (with_reducible refine branch_nt ?_) | (with_reducible refine branch_nf ?_) | (with_reducible refine branch_dec (fun _ => ?_) (fun _ => ?_)) | (with_reducible refine branch_ndec (fun _ => ?_) (fun _ => ?_)) | (with_reducible refine branch_bool (fun _ => ?_) (fun _ => ?_)) | (with_reducible refine arith_64 (by omega) ?_) | (with_reducible refine ob_i (by omega) (fun _ => ?_)) | (with_reducible refine ob_i (by unfold room; omega) (fun _ => ?_)) | (with_reducible refine ob_i (by (try simp only [] at *); (try dsimp only [toN] at *); omega) (fun _ => ?_)) | (with_reducible refine arith_64 (by (try simp only [toN_eq, Int.toNat_natCast] at *); (try dsimp only [toN] at *); omega) ?_) | (with_reducible refine ob_k rfl ?_) | ((with_reducible refine ob_k ?_ ?_); focus kernel_rfl) | (refine yield_i hmix hT rfl hL efr eps eag ebd rfl (by kernel_rfl) ?_) | (apply call_u GN) | (apply call_u CL) | (apply call_u LA) | (apply call_u LB) | (apply call_u AN) | (apply call_u W5) | (apply call_l (first_ok (l := [_, _]) (Nat.le_of_ble_eq_true rfl)) (.cons (vm_lit _ rfl rfl (.cons (vm_int rfl) (.cons (vm_int rfl) .nil))) .nil)) | (apply call_l (first_ok (l := [_, _, _]) (Nat.le_of_ble_eq_true rfl)) (.cons (vm_lit _ rfl rfl (.cons (vm_int rfl) (.cons (vm_int rfl) (.cons (vm_int rfl) .nil)))) .nil)) | (apply call_l (first_ok (l := [_, _, _, _]) (Nat.le_of_ble_eq_true rfl)) (.cons (vm_lit _ rfl rfl (.cons (vm_int rfl) (.cons (vm_int rfl) (.cons (vm_int rfl) (.cons (vm_int rfl) .nil))))) .nil))) <;> (try (exfalso; omega; done)) <;> (with_reducible conv => whnf))
        all_goals first | (exfalso; omega; done) | skip
        all_goals refine ⟨j + 1, by omega, by omega, ?_⟩
        all_goals refine ⟨[], rfl, ?_, ?_⟩ <;> repeat' (first | exact trivial | exact vm_p | exact vm_ptr rfl rfl rfl | exact vm_yld rfl rfl | exact vm_own rfl rfl rfl rfl | exact vm_own rfl rfl (by omega) (by omega) | exact vm_int (by omega) | exact vm_nil rfl | exact sbm_cells vmL_p | exact sbm_row rfl (fun _ _ => vm_p) | refine ⟨⟨_, rfl, ?_⟩, ?_⟩ | refine ⟨⟨_, _, _, rfl⟩, ?_⟩ | (refine sbm_loop ?_; rw [efr]) | refine sbm_cells ?_ | refine vmL.cons ?_ ?_ | exact vmL.nil | refine vm_own rfl rfl rfl ?_)
    · with_reducible conv => whnf
      repeat' ((first | (with_reducible refine branch_t ?_) | (with_reducible refine branch_f ?_) | (with_reducible refine branch_nt ?_) | (with_reducible refine branch_nf ?_) | (with_reducible refine branch_dec (fun _ => ?_) (fun _ => ?_)) | (with_reducible refine branch_ndec (fun _ => ?_) (fun _ => ?_)) | (with_reducible refine branch_bool (fun _ => ?_) (fun _ => ?_)) | (with_reducible refine arith_64 (by omega) ?_) | (with_reducible refine ob_i (by omega) (fun _ => ?_)) | (with_reducible refine ob_i (by unfold room; omega) (fun _ => ?_)) | (with_reducible refine ob_i (by (try simp only [toN_eq, Int.toNat_natCast] at *); (try dsimp only [toN] at *); omega) (fun _ => ?_)) | (with_reducible refine arith_64 (by (try simp only [toN_eq, Int.toNat_natCast] at *); (try dsimp only [toN] at *); omega) ?_) | (with_reducible refine ob_k rfl ?_) | ((with_reducible refine ob_k ?_ ?_); focus kernel_rfl) | (refine yield_i hmix hT rfl hL efr eps eag ebd rfl (by kernel_rfl) ?_)  | (apply call_l (first_ok (l := [_, _]) (Nat.le_of_ble_eq_true rfl)) (.cons (vm_lit _ rfl rfl (.cons (vm_int rfl) (.cons (vm_int rfl) .nil))) .nil)) | (apply call_l (first_ok (l := [_, _, _]) (Nat.le_of_ble_eq_true rfl)) (.cons (vm_lit _ rfl rfl (.cons (vm_int rfl) (.cons (vm_int rfl) (.cons (vm_int rfl) .nil)))) .nil)) | (apply call_l (first_ok (l := [_, _, _, _]) (Nat.le_of_ble_eq_true rfl)) (.cons (vm_lit _ rfl rfl (.cons (vm_int rfl) (.cons (vm_int rfl) (.cons (vm_int rfl) (.cons (vm_int rfl) .nil))))) .nil))) <;> (try (exfalso; omega; done)) <;> (with_reducible conv => whnf))
      exact ret0 vm_p
end Go.Proofs.YtaejdonacadpkaaDoor
