/-
  Chapter 1 (plain): a frame that is cleaned is valid, has the same usable samples, and no power at the removed harmonics; the powers add up to the energy.
  Conditions: none.
-/
import Derived.Test.YtaejdonacadpkaaDoor1M1
namespace Go.Proofs.YtaejdonacadpkaaDoor
open Go.RowKit Fx
/-! ### Indexes -/
theorem idxK_mem {p : Nat → Bool} : ∀ (k : Nat) (x : Int), x ∈ idxK p k ↔ ∃ j : Nat, j < k ∧ p j = true ∧ (j : Int) = x
  | 0, x => by simp [idxK]
  | k + 1, x => by
    have ih := idxK_mem (p := p) k x
    cases e : p k with
    | true =>
      rw [idxK_yes e, List.mem_append, ih]
      constructor
      · rintro (⟨j, h1, h2, h3⟩ | h)
        · exact ⟨j, by omega, h2, h3⟩
        · exact ⟨k, by omega, e, (List.mem_singleton.1 h).symm⟩
      · rintro ⟨j, h1, h2, h3⟩
        by_cases q : j = k
        · subst q; exact .inr (by simp [h3])
        · exact .inl ⟨j, by omega, h2, h3⟩
    | false =>
      rw [idxK_no e, ih]
      constructor
      · rintro ⟨j, h1, h2, h3⟩; exact ⟨j, by omega, h2, h3⟩
      · rintro ⟨j, h1, h2, h3⟩
        by_cases q : j = k
        · subst q; rw [e] at h2; cases h2
        · exact ⟨j, by omega, h2, h3⟩
theorem app_l {l r : List Int} {m : Nat} (h : m < l.length) : (l ++ r).getD m 0 = l.getD m 0 := by
  rw [List.getD_eq_getElem?_getD, List.getElem?_append_left h, ← List.getD_eq_getElem?_getD]
theorem app_e {l : List Int} {x : Int} : (l ++ [x]).getD l.length 0 = x := by
  rw [List.getD_eq_getElem?_getD, List.getElem?_append_right (Nat.le_refl _)]; simp
theorem idxK_in (p : Nat → Bool) : ∀ k m, m < (idxK p k).length → 0 ≤ (idxK p k).getD m 0 ∧ (idxK p k).getD m 0 < k
  | 0, m, h => by simp [idxK] at h
  | k + 1, m, h => by
    cases e : p k with
    | true =>
      rw [idxK_yes e] at h ⊢
      rw [List.length_append] at h
      by_cases hm : m < (idxK p k).length
      · have := idxK_in p k m hm
        rw [app_l hm]
        omega
      · obtain rfl : m = (idxK p k).length := by simp at h; omega
        rw [app_e]
        omega
    | false =>
      rw [idxK_no e] at h ⊢
      have := idxK_in p k m h
      omega
theorem idxK_up (p : Nat → Bool) : ∀ k m, 0 < m → m < (idxK p k).length → (idxK p k).getD (m - 1) 0 < (idxK p k).getD m 0
  | 0, m, _, h => by simp [idxK] at h
  | k + 1, m, h0, h => by
    cases e : p k with
    | true =>
      rw [idxK_yes e] at h ⊢
      rw [List.length_append] at h
      by_cases hm : m < (idxK p k).length
      · have := idxK_up p k m h0 hm
        rw [app_l (by omega), app_l hm]
        exact this
      · obtain rfl : m = (idxK p k).length := by simp at h; omega
        have := idxK_in p k ((idxK p k).length - 1) (by omega)
        rw [app_l (by omega), app_e]
        omega
    | false =>
      rw [idxK_no e] at h ⊢
      exact idxK_up p k m h0 h
/-! ### How great the samples are -/
def sml (M : Int) (p : Int × Int) : Prop := (-M ≤ p.1 ∧ p.1 ≤ M) ∧ (-M ≤ p.2 ∧ p.2 ≤ M)
theorem unit_bd {p : Int × Int} {M : Int} (h : sml M p) (r : Nat) : sml M (gmul p (t4 r)) := by
  unfold sml at *
  match r with
  | 0 => simp [gmul, t4]; omega
  | 1 => simp [gmul, t4]; omega
  | 2 => simp [gmul, t4]; omega
  | r + 3 => simp [gmul, t4]; omega
theorem hzK_le {f : Frm} {a n : Nat} {M : Int} (h : ∀ q, q < 4 → sml M (f.sm.getD (a + q) (0, 0))) : ∀ k : Nat, k ≤ 4 → sml (k * M) (hzK f a n k)
  | 0, _ => by unfold sml hzK; simp
  | k + 1, hk => by
    have i1 := hzK_le (n := n) h k (by omega)
    have i2 := unit_bd (h k (by omega)) (ex n k)
    unfold sml at *
    rw [show (((k + 1 : Nat)) : Int) * M = k * M + M by rw [Int.natCast_add, Int.add_mul]; simp]
    have e1 : (hzK f a n (k + 1)).1 = (hzK f a n k).1 + (gmul (f.sm.getD (a + k) (0, 0)) (t4 (ex n k))).1 := rfl
    have e2 : (hzK f a n (k + 1)).2 = (hzK f a n k).2 + (gmul (f.sm.getD (a + k) (0, 0)) (t4 (ex n k))).2 := rfl
    rw [e1, e2]
    omega
theorem cnV_le {f : Frm} {us : List Int} {i : Nat} {M : Int} (h : ∀ q, q < 4 → sml M (f.sm.getD (cla i + q) (0, 0))) : ∀ m : Nat, sml (4 * M + m * (4 * M)) (cnV f us i m)
  | 0 => by
    have hi := h (i - cla i) (by unfold cla; omega)
    rw [show cla i + (i - cla i) = i by unfold cla; omega] at hi
    unfold sml cnV gmul at *
    dsimp only
    omega
  | m + 1 => by
    have i1 := cnV_le (us := us) h m
    have i2 := unit_bd (hzK_le (n := (us.getD m 0).toNat) h 4 (by omega)) ((us.getD m 0 * ((i : Int) - cla i)) % 4).toNat
    unfold sml at *
    rw [show (((m + 1 : Nat)) : Int) * (4 * M) = m * (4 * M) + 4 * M by rw [Int.natCast_add, Int.add_mul]; simp]
    have e1 : (cnV f us i (m + 1)).1 = (cnV f us i m).1 - (gmul (hzK f (cla i) (us.getD m 0).toNat 4) (t4 ((us.getD m 0 * ((i : Int) - cla i)) % 4).toNat)).1 := rfl
    have e2 : (cnV f us i (m + 1)).2 = (cnV f us i m).2 - (gmul (hzK f (cla i) (us.getD m 0).toNat 4) (t4 ((us.getD m 0 * ((i : Int) - cla i)) % 4).toNat)).2 := rfl
    rw [e1, e2]
    generalize (m : Int) * (4 * M) = mm at *
    omega
theorem sml_lim {f : Frm} (v : f.Val) (i : Nat) : sml f.lim (f.sm.getD i (0, 0)) := by
  have lm := v.lim
  by_cases h : i < f.sm.length
  · have := v.sm i h
    unfold sml; omega
  · rw [show f.sm.getD i (0, 0) = (0, 0) by simp [List.getD_eq_getElem?_getD, List.getElem?_eq_none (by omega : f.sm.length ≤ i)]]
    unfold sml; dsimp only; omega
theorem sml_us {f : Frm} {i : Nat} (h : usB f i = true) : sml (f.lim - 1) (f.sm.getD i (0, 0)) := by
  unfold usB smallB at h
  simp only [Bool.and_eq_true, decide_eq_true_eq] at h
  unfold sml; omega
theorem whole_at {f : Frm} {a : Nat} (h : wholeB f a = true) : a + 4 ≤ f.sm.length ∧ ∀ q, q < 4 → usB f (a + q) = true := by
  unfold wholeB allB4 at h
  simp only [Bool.and_eq_true, decide_eq_true_eq] at h
  obtain ⟨h0, ⟨⟨h1, h2⟩, h3⟩, h4⟩ := h
  refine ⟨h0, fun q hq => ?_⟩
  have : q = 0 ∨ q = 1 ∨ q = 2 ∨ q = 3 := by omega
  rcases this with rfl | rfl | rfl | rfl <;> assumption
theorem sml_le {M N : Int} {p : Int × Int} (h : sml M p) (hl : M ≤ N) : sml N p := by unfold sml at *; omega
theorem mul4_le {M : Int} {m : Nat} (hM : 0 ≤ M) (hm : m ≤ 4) : 4 * M + m * (4 * M) ≤ 20 * M := by
  have : (m : Int) * (4 * M) ≤ 4 * (4 * M) := Int.mul_le_mul_of_nonneg_right (by omega) (by omega)
  omega
theorem clS_le {f : Frm} (v : f.Val) {us : List Int} (hl : us.length ≤ 4) (i : Nat) : sml (20 * f.lim) (clS f us i) := by
  have lm := v.lim
  unfold clS
  split
  · exact sml_le (cnV_le (fun q _ => sml_lim v _) _) (mul4_le (by omega) hl)
  · exact sml_le (cnV_le (fun q _ => sml_lim v _) _) (mul4_le (by omega) (by omega))
theorem cn0_le {f : Frm} {us : List Int} {i : Nat} {M : Int} (h : sml M (f.sm.getD i (0, 0))) : sml (4 * M) (cnV f us i 0) := by
  unfold sml cnV gmul at *
  dsimp only
  omega
theorem clS_us {f : Frm} (v : f.Val) {us : List Int} (hl : us.length ≤ 4) {i : Nat} (h : usB f i = true) : sml (20 * f.lim - 1) (clS f us i) := by
  have lm := v.lim
  unfold clS
  split
  · rename_i w
    refine sml_le (cnV_le (fun q hq => sml_us ((whole_at w).2 q hq)) _) ?_
    have := mul4_le (M := f.lim - 1) (m := us.length) (by omega) hl
    omega
  · exact sml_le (cn0_le (sml_us h)) (by omega)
theorem clF_at {f : Frm} {us : List Int} {i : Nat} (h : i < f.sm.length) : (clF f us).sm.getD i (0, 0) = clS f us i := by
  show ((List.range f.sm.length).map (clS f us)).getD i (0, 0) = _
  exact range_map_at h
theorem clF_n (f : Frm) (us : List Int) : (clF f us).sm.length = f.sm.length := by unfold clF; simp
theorem clF_val {f : Frm} (v : f.Val) {us : List Int} (hl : us.length ≤ 4) (h1 : 20 * f.lim ≤ 2000000) (h2 : -8 ≤ f.g - 2) : (clF f us).Val := by
  have lm := v.lim
  have vg := v.g
  refine ⟨⟨h2, by show f.g - 2 ≤ 8; omega⟩, ⟨by show 1 ≤ 20 * f.lim; omega, h1⟩, by rw [clF_n]; exact v.n0, by rw [clF_n]; exact v.n1, fun i hi => ?_, fun i hi => ?_, fun i h0 hi => ?_⟩
  · rw [clF_n] at hi
    rw [clF_at hi]
    have := clS_le v hl i
    show -(20 * f.lim) ≤ _ ∧ _ ≤ 20 * f.lim ∧ -(20 * f.lim) ≤ _ ∧ _ ≤ 20 * f.lim
    unfold sml at this
    omega
  · rw [clF_n]
    have := idxK_in (fun i => decide (usB f i = false)) f.sm.length i hi
    show 0 ≤ (idxK (fun i => decide (usB f i = false)) f.sm.length).getD i 0 ∧ (idxK (fun i => decide (usB f i = false)) f.sm.length).getD i 0 ≤ _
    omega
  · exact idxK_up (fun i => decide (usB f i = false)) f.sm.length i h0 hi
theorem val_frm {f : Frm} (v : f.Val) : frE f = 0 := by
  have lm := v.lim
  have h0 : frPre f = 0 := by
    have := v.g; have := v.n0; have := v.n1
    unfold frPre
    rw [if_neg (by omega), if_neg (by omega), if_neg (by omega)]
  have h1 : (findErr (smE f.lim) f.sm 0).2 = 0 := by
    rw [findErr_none (smE f.lim) (0, 0) f.sm 0 (fun i hi => by have := v.sm i hi; unfold smE; rw [if_pos this])]
  have h2 : (findErr id (gpL f.sm.length f.gp) 0).2 = 0 := by
    rw [findErr_none id 0 (gpL f.sm.length f.gp) 0 (fun i hi => by
      rw [gpL_len] at hi
      rw [gpL_at hi]
      have a := v.gp i hi
      unfold gpE
      rw [if_neg (by omega)]
      by_cases q : 0 < i
      · have := v.up i q hi
        rw [if_neg (by omega)]
      · rw [if_neg (by omega)])]
  unfold frE
  rw [frC_gp h0 h1]
  exact h2
theorem clF_us {f : Frm} (v : f.Val) {us : List Int} (hl : us.length ≤ 4) {i : Nat} (h : i < f.sm.length) : usB (clF f us) i = usB f i := by
  have hm : ((i : Int) ∈ (clF f us).gp) ↔ usB f i = false := by
    show (i : Int) ∈ idxK (fun i => decide (usB f i = false)) f.sm.length ↔ _
    rw [idxK_mem]
    constructor
    · rintro ⟨j, h1, h2, h3⟩
      obtain rfl : j = i := by omega
      exact of_decide_eq_true h2
    · intro hu
      exact ⟨i, h, decide_eq_true hu, rfl⟩
  cases e : usB f i with
  | false =>
    unfold usB
    rw [decide_eq_true (hm.2 e)]
    simp
  | true =>
    unfold usB
    rw [decide_eq_false (fun k => by have := hm.1 k; rw [e] at this; cases this), clF_at h]
    have := clS_us v hl e
    unfold sml at this
    show (decide (-(20 * f.lim) < _ ∧ _ < 20 * f.lim) && decide (-(20 * f.lim) < _ ∧ _ < 20 * f.lim) && !false) = true
    rw [decide_eq_true (by omega), decide_eq_true (by omega)]
    rfl
theorem clF_whole {f : Frm} (v : f.Val) {us : List Int} (hl : us.length ≤ 4) (a : Nat) : wholeB (clF f us) a = wholeB f a := by
  unfold wholeB
  rw [clF_n]
  by_cases h : a + 4 ≤ f.sm.length
  · unfold allB4
    dsimp only
    rw [clF_us v hl (by omega), clF_us v hl (by omega), clF_us v hl (by omega), clF_us v hl (by omega)]
  · rw [decide_eq_false h]; rfl
/-! ### The harmonics of what is left -/
def dsum (y : Nat → Int × Int) (n : Nat) : Nat → Int × Int
  | 0 => (0, 0)
  | k + 1 => ((dsum y n k).1 + (gmul (y k) (t4 (ex n k))).1, (dsum y n k).2 + (gmul (y k) (t4 (ex n k))).2)
theorem hzK_dsum (f : Frm) (a n : Nat) : ∀ k, hzK f a n k = dsum (fun q => f.sm.getD (a + q) (0, 0)) n k
  | 0 => rfl
  | k + 1 => by
    have ih := hzK_dsum f a n k
    unfold hzK dsum gmul
    rw [ih]
theorem dsum_congr {y z : Nat → Int × Int} {n : Nat} : ∀ k, (∀ q, q < k → y q = z q) → dsum y n k = dsum z n k
  | 0, _ => rfl
  | k + 1, h => by
    unfold dsum
    rw [dsum_congr k (fun q hq => h q (by omega)), h k (by omega)]
theorem dsum_sub {y z : Nat → Int × Int} {n : Nat} : ∀ k, dsum (fun q => ((y q).1 - (z q).1, (y q).2 - (z q).2)) n k = ((dsum y n k).1 - (dsum z n k).1, (dsum y n k).2 - (dsum z n k).2)
  | 0 => rfl
  | k + 1 => by
    have ih := dsum_sub (y := y) (z := z) (n := n) k
    unfold dsum
    rw [ih]
    unfold gmul
    dsimp only
    rw [Int.sub_mul, Int.sub_mul, Int.sub_mul, Int.sub_mul]
    refine Prod.ext ?_ ?_ <;> dsimp only <;> omega
theorem orth (h : Int × Int) {u n : Nat} (hu : u < 4) (hn : n < 4) : dsum (fun q => gmul h (t4 ((u * q) % 4))) n 4 = if u = n then (4 * h.1, 4 * h.2) else (0, 0) := by
  have a : u = 0 ∨ u = 1 ∨ u = 2 ∨ u = 3 := by omega
  have b : n = 0 ∨ n = 1 ∨ n = 2 ∨ n = 3 := by omega
  rcases a with rfl | rfl | rfl | rfl <;> rcases b with rfl | rfl | rfl | rfl <;> simp [dsum, gmul, t4, ex] <;> omega
theorem four_sum (y : Nat → Int × Int) (n : Nat) : ∀ k, dsum (fun q => gmul (y q) (4, 0)) n k = (4 * (dsum y n k).1, 4 * (dsum y n k).2)
  | 0 => rfl
  | k + 1 => by
    have ih := four_sum y n k
    unfold dsum
    rw [ih]
    unfold gmul
    dsimp only
    refine Prod.ext ?_ ?_ <;> dsimp only <;> grind
def hasK (us : List Int) (n : Int) : Nat → Bool
  | 0 => false
  | m + 1 => hasK us n m || decide (us.getD m 0 = n)
theorem hasK_take {us : List Int} {n : Int} : ∀ m, m ≤ us.length → hasK us n m = decide (n ∈ us.take m)
  | 0, _ => by simp [hasK]
  | m + 1, h => by
    have e : us.getD m 0 = us[m]'(by omega) := by simp [List.getD_eq_getElem?_getD, show m < us.length by omega]
    unfold hasK
    rw [hasK_take m (by omega), List.take_succ_eq_append_getElem (by omega), e]
    simp only [List.mem_append, List.mem_singleton, Bool.decide_or, eq_comm]
theorem hasK_mem (us : List Int) (n : Int) : hasK us n us.length = decide (n ∈ us) := by
  rw [hasK_take us.length (Nat.le_refl _), List.take_length]
theorem hasK_bd {us : List Int} {n : Int} (hu : ∀ i, i < us.length → leP us i = 0) : ∀ m, m ≤ us.length → hasK us n m = true → 0 < m ∧ n ≤ us.getD (m - 1) 0
  | 0, _, h => by cases h
  | m + 1, hm, h => by
    refine ⟨by omega, ?_⟩
    show n ≤ us.getD m 0
    unfold hasK at h
    simp only [Bool.or_eq_true, decide_eq_true_eq] at h
    rcases h with h | h
    · obtain ⟨p, q⟩ := hasK_bd hu m (by omega) h
      have := (leP_0 (hu m (by omega))).2 p
      omega
    · omega
theorem cn_sum {f : Frm} {us : List Int} (hu : ∀ i, i < us.length → leP us i = 0) (j : Nat) {n : Nat} (hn : n < 4) : ∀ m, m ≤ us.length → dsum (fun q => cnV f us (4 * j + q) m) n 4 = if hasK us n m = true then (0, 0) else (4 * (hz f (4 * j) n).1, 4 * (hz f (4 * j) n).2)
  | 0, _ => by
    rw [if_neg (by simp [hasK])]
    unfold hz
    rw [hzK_dsum]
    exact four_sum _ n 4
  | m + 1, hm => by
    have ih := cn_sum (f := f) hu j hn m (by omega)
    have um := (leP_0 (hu m (by omega))).1
    have e : dsum (fun q => cnV f us (4 * j + q) (m + 1)) n 4 = dsum (fun q => ((cnV f us (4 * j + q) m).1 - (gmul (hz f (4 * j) (us.getD m 0).toNat) (t4 (((us.getD m 0).toNat * q) % 4))).1, (cnV f us (4 * j + q) m).2 - (gmul (hz f (4 * j) (us.getD m 0).toNat) (t4 (((us.getD m 0).toNat * q) % 4))).2)) n 4 := by
      refine dsum_congr 4 fun q hq => ?_
      have ec : cla (4 * j + q) = 4 * j := by unfold cla; omega
      have eq : ((us.getD m 0 * (((4 * j + q : Nat) : Int) - cla (4 * j + q))) % 4).toNat = ((us.getD m 0).toNat * q) % 4 := by
        rw [ec, show ((4 * j + q : Nat) : Int) - ((4 * j : Nat) : Int) = (q : Int) by omega]
        obtain ⟨w, hw⟩ : ∃ w : Nat, us.getD m 0 = (w : Int) := ⟨(us.getD m 0).toNat, by omega⟩
        rw [hw, ← Int.natCast_mul]
        simp only [Int.toNat_natCast]
        omega
      show ((cnV f us (4 * j + q) m).1 - (clH f us (4 * j + q) m).1, (cnV f us (4 * j + q) m).2 - (clH f us (4 * j + q) m).2) = _
      unfold clH
      rw [eq, ec]
    rw [e, dsum_sub, ih, orth _ (by omega) hn]
    by_cases c : us.getD m 0 = (n : Int)
    · have hf : hasK us n m = false := by
        cases h : hasK us n m with
        | false => rfl
        | true =>
          obtain ⟨p, q⟩ := hasK_bd hu m (by omega) h
          have := (leP_0 (hu m (by omega))).2 p
          omega
      have ht : hasK us n (m + 1) = true := by show (hasK us n m || decide (us.getD m 0 = (n : Int))) = true; rw [decide_eq_true c, Bool.or_true]
      have eu : (us.getD m 0).toNat = n := by omega
      rw [hf, ht, if_neg (by simp), if_pos rfl, if_pos eu, eu]
      refine Prod.ext ?_ ?_ <;> dsimp only <;> omega
    · have ht : hasK us n (m + 1) = hasK us n m := by show (hasK us n m || decide (us.getD m 0 = (n : Int))) = _; rw [decide_eq_false c, Bool.or_false]
      rw [ht, if_neg (c := (us.getD m 0).toNat = n) (by omega)]
      refine Prod.ext ?_ ?_ <;> dsimp only <;> omega
theorem cl_hz {f : Frm} {us : List Int} (hu : ∀ i, i < us.length → leP us i = 0) {j : Nat} (w : wholeB f (4 * j) = true) {n : Nat} (hn : n < 4) : hz (clF f us) (4 * j) n = if hasK us n us.length = true then (0, 0) else (4 * (hz f (4 * j) n).1, 4 * (hz f (4 * j) n).2) := by
  rw [← cn_sum hu j hn us.length (Nat.le_refl _)]
  unfold hz
  rw [hzK_dsum]
  refine dsum_congr 4 fun q hq => ?_
  have := (whole_at w).1
  rw [clF_at (by omega)]
  unfold clS
  rw [if_pos (by rw [show cla (4 * j + q) = 4 * j by unfold cla; omega]; exact w)]
theorem cl_pw {f : Frm} (v : f.Val) {us : List Int} (hl : us.length ≤ 4) (hu : ∀ i, i < us.length → leP us i = 0) {n : Nat} (hn : n < 4) : ∀ j : Nat, pwK (clF f us) n j = if hasK us n us.length = true then 0 else 16 * pwK f n j
  | 0 => by unfold pwK; split <;> rfl
  | j + 1 => by
    have ih := cl_pw v hl hu hn j
    unfold pwK
    rw [clF_whole v hl, ih]
    by_cases w : wholeB f (4 * j) = true
    · rw [if_pos w, if_pos w, cl_hz hu w hn]
      split
      · rfl
      · unfold nrm; dsimp only; grind
    · rw [if_neg w, if_neg w]
theorem cl_pwF {f : Frm} (v : f.Val) {us : List Int} (hl : us.length ≤ 4) (hu : ∀ i, i < us.length → leP us i = 0) {n : Nat} (hn : n < 4) : pwF (clF f us) n = if hasK us n us.length = true then 0 else 16 * pwF f n := by
  unfold pwF
  rw [clF_n]
  exact cl_pw v hl hu hn _
/-! ### The energy -/
def nrm4 (f : Frm) (a : Nat) : Nat → Int
  | 0 => 0
  | q + 1 => nrm4 f a q + nrm (f.sm.getD (a + q) (0, 0))
def enK (f : Frm) : Nat → Int
  | 0 => 0
  | j + 1 => if wholeB f (4 * j) = true then enK f j + nrm4 f (4 * j) 4 else enK f j
theorem parsD (y : Nat → Int × Int) : nrm (dsum y 0 4) + nrm (dsum y 1 4) + nrm (dsum y 2 4) + nrm (dsum y 3 4) = 4 * (0 + nrm (y 0) + nrm (y 1) + nrm (y 2) + nrm (y 3)) := by
  simp only [dsum, gmul, t4, ex, nrm]
  generalize y 0 = p0
  generalize y 1 = p1
  generalize y 2 = p2
  generalize y 3 = p3
  simp
  grind
theorem pars (f : Frm) (a : Nat) : nrm (hz f a 0) + nrm (hz f a 1) + nrm (hz f a 2) + nrm (hz f a 3) = 4 * nrm4 f a 4 := by
  unfold hz
  rw [hzK_dsum, hzK_dsum, hzK_dsum, hzK_dsum]
  exact parsD fun q => f.sm.getD (a + q) (0, 0)
theorem energy (f : Frm) : ∀ j : Nat, pwK f 0 j + pwK f 1 j + pwK f 2 j + pwK f 3 j = 4 * enK f j
  | 0 => rfl
  | j + 1 => by
    have ih := energy f j
    unfold pwK enK
    by_cases w : wholeB f (4 * j) = true
    · rw [if_pos w, if_pos w, if_pos w, if_pos w, if_pos w]
      have := pars f (4 * j)
      omega
    · rw [if_neg w, if_neg w, if_neg w, if_neg w, if_neg w]
      exact ih
end Go.Proofs.YtaejdonacadpkaaDoor
