/-
  Chapter 5 (plain): numbers of any size by their digits to the base of a thousand million: sums, differences, products.
  Conditions: none.
-/
import Derived.Test.YtdfcedndkplabaaBase
namespace Go.Proofs.Ytdfcedndkplabaa.Wd
/-! ### Digits -/
def dg (n : Nat) : List Int := if h : n = 0 then [] else ((n % 1000000000 : Nat) : Int) :: dg (n / 1000000000)
termination_by n
decreasing_by exact Nat.div_lt_self (by omega) (by decide)
def wv : List Int → Int
  | [] => 0
  | d :: l => d + 1000000000 * wv l
def Dg (l : List Int) : Prop := ∀ d ∈ l, 0 ≤ d ∧ d < 1000000000
theorem Dg.nil : Dg [] := fun d h => by cases h
theorem Dg.cons {d : Int} {l : List Int} (h : 0 ≤ d ∧ d < 1000000000) (k : Dg l) : Dg (d :: l) := fun x hx => by
  rcases List.mem_cons.1 hx with rfl | hx
  · exact h
  · exact k x hx
theorem Dg.head {d : Int} {l : List Int} (h : Dg (d :: l)) : 0 ≤ d ∧ d < 1000000000 := h d (by simp)
theorem Dg.tail {d : Int} {l : List Int} (h : Dg (d :: l)) : Dg l := fun x hx => h x (by simp [hx])
theorem Dg.app {l k : List Int} (h : Dg l) (h2 : Dg k) : Dg (l ++ k) := fun x hx => by
  rcases List.mem_append.1 hx with hx | hx
  · exact h x hx
  · exact h2 x hx
theorem Dg.at {l : List Int} (h : Dg l) (i : Nat) : 0 ≤ l.getD i 0 ∧ l.getD i 0 < 1000000000 := by
  rw [List.getD_eq_getElem?_getD]
  cases e : l[i]? with
  | none => simp
  | some x => exact h x (List.mem_of_getElem? e)
theorem Dg.take {l : List Int} (h : Dg l) (i : Nat) : Dg (l.take i) := fun x hx => h x (List.mem_of_mem_take hx)
theorem Dg.drop {l : List Int} (h : Dg l) (i : Nat) : Dg (l.drop i) := fun x hx => h x (List.mem_of_mem_drop hx)
theorem dg_zero : dg 0 = [] := by unfold dg; rfl
theorem dg_pos {n : Nat} (h : n ≠ 0) : dg n = ((n % 1000000000 : Nat) : Int) :: dg (n / 1000000000) := by rw [dg, dif_neg h]
theorem dg_in : ∀ n : Nat, Dg (dg n) := fun n => by
  induction n using Nat.strongRecOn with
  | _ n ih =>
    by_cases h : n = 0
    · subst h; rw [dg_zero]; exact Dg.nil
    · rw [dg_pos h]
      exact Dg.cons (by omega) (ih _ (Nat.div_lt_self (by omega) (by decide)))
theorem dg_val : ∀ n : Nat, wv (dg n) = n := fun n => by
  induction n using Nat.strongRecOn with
  | _ n ih =>
    by_cases h : n = 0
    · subst h; rw [dg_zero]; rfl
    · rw [dg_pos h]
      show _ + 1000000000 * wv _ = _
      rw [ih _ (Nat.div_lt_self (by omega) (by decide))]
      omega
theorem wv_nn : ∀ {l : List Int}, Dg l → 0 ≤ wv l
  | [], _ => Int.le_refl _
  | d :: l, h => by
    have := wv_nn h.tail
    have := h.head
    show 0 ≤ d + 1000000000 * wv l
    omega
theorem wv_app : ∀ (l k : List Int), wv (l ++ k) = wv l + 1000000000 ^ l.length * wv k
  | [], k => by simp [wv]
  | d :: l, k => by
    show d + 1000000000 * wv (l ++ k) = d + 1000000000 * wv l + 1000000000 ^ (l.length + 1) * wv k
    rw [wv_app l k, Int.mul_add, Int.pow_succ, ← Int.mul_assoc, Int.add_assoc, Int.mul_comm (1000000000 ^ l.length) 1000000000]
theorem wv_lt : ∀ {l : List Int}, Dg l → wv l < 1000000000 ^ l.length
  | [], _ => by simp [wv]
  | d :: l, h => by
    have := wv_lt h.tail
    have := h.head
    show d + 1000000000 * wv l < 1000000000 ^ (l.length + 1)
    rw [Int.pow_succ]
    omega
/-- The digits of a number without zeros at the end are unique. -/
theorem dg_uniq : ∀ {l : List Int}, Dg l → (l = [] ∨ l.getD (l.length - 1) 0 ≠ 0) → l = dg (wv l).toNat
  | [], _, _ => by simp [wv, dg_zero]
  | d :: l, h, hz => by
    have hd := h.head
    have hn := wv_nn h.tail
    have e : wv (d :: l) = d + 1000000000 * wv l := rfl
    have hl : l = [] ∨ l.getD (l.length - 1) 0 ≠ 0 := by
      cases l with
      | nil => exact .inl rfl
      | cons x l => exact .inr (by rcases hz with hz | hz; cases hz; simpa using hz)
    have ih := dg_uniq h.tail hl
    have pos : wv (d :: l) ≠ 0 := by
      rw [e]
      intro k
      have k1 : d = 0 := by omega
      have k2 : wv l = 0 := by omega
      rw [k2] at ih
      rw [show (0 : Int).toNat = 0 from rfl, dg_zero] at ih
      subst ih
      rcases hz with hz | hz
      · cases hz
      · exact hz (by simpa using k1)
    rw [dg_pos (by omega)]
    congr 1
    · omega
    · rw [e]
      have : (d + 1000000000 * wv l).toNat / 1000000000 = (wv l).toNat := by omega
      rw [this]; exact ih
theorem dg_len_zero {n : Nat} : (dg n).length = 0 ↔ n = 0 := by
  constructor
  · intro h
    have := List.eq_nil_of_length_eq_zero h
    have e := dg_val n
    rw [this] at e
    have : (0 : Int) = n := e
    omega
  · rintro rfl; rw [dg_zero]; rfl
theorem wv_snoc (l : List Int) (d : Int) : wv (l ++ [d]) = wv l + 1000000000 ^ l.length * d := by
  rw [wv_app]
  show _ + _ * (d + 1000000000 * 0) = _
  rw [Int.mul_zero, Int.add_zero]
theorem take_snoc {l : List Int} {i : Nat} (h : i < l.length) : l.take (i + 1) = l.take i ++ [l.getD i 0] := by
  rw [List.take_add_one, List.getD_eq_getElem?_getD]
  simp [List.getElem?_eq_getElem h]
theorem take_all {l : List Int} {i : Nat} (h : l.length ≤ i) : l.take i = l := List.take_of_length_le h
theorem wv_take {l : List Int} (i : Nat) : wv (l.take (i + 1)) = wv (l.take i) + 1000000000 ^ i * l.getD i 0 := by
  by_cases h : i < l.length
  · rw [take_snoc h, wv_snoc, List.length_take, Nat.min_eq_left (by omega)]
  · rw [take_all (by omega), take_all (by omega), List.getD_eq_getElem?_getD, List.getElem?_eq_none (by omega)]
    simp
theorem wv_cut (l : List Int) (i : Nat) (h : i ≤ l.length) : wv l = wv (l.take i) + 1000000000 ^ i * wv (l.drop i) := by
  conv => lhs; rw [← List.take_append_drop i l]
  rw [wv_app, List.length_take, Nat.min_eq_left h]
theorem drop_at {l : List Int} {i : Nat} (h : i < l.length) : l.drop i = l.getD i 0 :: l.drop (i + 1) := by
  rw [List.drop_eq_getElem_cons h, List.getD_eq_getElem?_getD, List.getElem?_eq_getElem h]; rfl
theorem wv_drop {l : List Int} {i : Nat} (h : i < l.length) : wv (l.drop i) = l.getD i 0 + 1000000000 * wv (l.drop (i + 1)) := by rw [drop_at h]; rfl
theorem pow_pos' (i : Nat) : (0 : Int) < 1000000000 ^ i := Int.pow_pos (by decide)
/-- Zeros at the end. -/
theorem wv_zeros : ∀ {l : List Int}, (∀ i, i < l.length → l.getD i 0 = 0) → wv l = 0
  | [], _ => rfl
  | d :: l, h => by
    have h0 := h 0 (by simp)
    have : d = 0 := by simpa using h0
    have t := wv_zeros (l := l) fun i hi => by simpa using h (i + 1) (by simpa using hi)
    show d + 1000000000 * wv l = 0
    omega
theorem trim_val {l : List Int} {n : Nat} (hn : n ≤ l.length) (h : ∀ i, n ≤ i → i < l.length → l.getD i 0 = 0) : wv (l.take n) = wv l := by
  rw [wv_cut l n hn, wv_zeros (l := l.drop n) (fun i hi => ?_)]
  · simp
  · have := h (n + i) (by omega) (by rw [List.length_drop] at hi; omega)
    rw [List.getD_eq_getElem?_getD, List.getElem?_drop, ← List.getD_eq_getElem?_getD]; exact this
theorem trim_is {l : List Int} {n : Nat} (hd : Dg l) (hn : n ≤ l.length) (h : ∀ i, n ≤ i → i < l.length → l.getD i 0 = 0) (h1 : n = 0 ∨ l.getD (n - 1) 0 ≠ 0) : l.take n = dg (wv l).toNat := by
  rw [← trim_val hn h]
  refine dg_uniq (hd.take n) ?_
  rcases h1 with rfl | h1
  · exact .inl rfl
  · by_cases h0 : n = 0
    · subst h0; exact .inl rfl
    · refine .inr ?_
      rw [List.length_take, Nat.min_eq_left hn, List.getD_eq_getElem?_getD, List.getElem?_take, if_pos (by omega), ← List.getD_eq_getElem?_getD]
      exact h1
/-! ### Comparing -/
theorem dg_top {n : Nat} (h : n ≠ 0) : (dg n).getD ((dg n).length - 1) 0 ≠ 0 := by
  induction n using Nat.strongRecOn with
  | _ n ih =>
    rw [dg_pos h]
    by_cases k : n / 1000000000 = 0
    · rw [k, dg_zero]
      have : n < 1000000000 := by omega
      simp; omega
    · have := ih _ (Nat.div_lt_self (by omega) (by decide)) k
      have hl : (dg (n / 1000000000)).length ≠ 0 := fun e => k (dg_len_zero.1 e)
      rw [List.length_cons, Nat.add_sub_cancel]
      obtain ⟨m, hm⟩ : ∃ m, (dg (n / 1000000000)).length = m + 1 := ⟨_, (Nat.succ_pred hl).symm⟩
      rw [hm] at this ⊢
      simpa using this
theorem dg_ge {n : Nat} (h : n ≠ 0) : (1000000000 : Int) ^ ((dg n).length - 1) ≤ n := by
  have hl : (dg n).length ≠ 0 := fun e => h (dg_len_zero.1 e)
  have t := dg_top h
  have b := (dg_in n).at ((dg n).length - 1)
  have c := wv_cut (dg n) ((dg n).length - 1) (by omega)
  rw [wv_drop (by omega), show (dg n).length - 1 + 1 = (dg n).length by omega, List.drop_length] at c
  rw [dg_val] at c
  have nn := wv_nn ((dg_in n).take ((dg n).length - 1))
  have p := pow_pos' ((dg n).length - 1)
  have : (1000000000 : Int) ^ ((dg n).length - 1) * 1 ≤ 1000000000 ^ ((dg n).length - 1) * ((dg n).getD ((dg n).length - 1) 0 + 1000000000 * wv []) := Int.mul_le_mul_of_nonneg_left (by show 1 ≤ _ + 1000000000 * 0; omega) (by omega)
  omega
theorem dg_lt (n : Nat) : (n : Int) < 1000000000 ^ (dg n).length := by
  have := wv_lt (dg_in n)
  rw [dg_val] at this; exact this
theorem pow_le {i j : Nat} (h : i ≤ j) : (1000000000 : Int) ^ i ≤ 1000000000 ^ j := by
  obtain ⟨d, rfl⟩ := Nat.exists_eq_add_of_le h
  rw [Int.pow_add]
  have := pow_pos' i
  have k := pow_pos' d
  have : (1000000000 : Int) ^ i * 1 ≤ 1000000000 ^ i * 1000000000 ^ d := Int.mul_le_mul_of_nonneg_left (by omega) (by omega)
  omega
theorem dg_len_lt {a b : Nat} (h : (dg a).length < (dg b).length) : a < b := by
  have hb : b ≠ 0 := by rintro rfl; rw [dg_zero] at h; simp at h
  have h1 := dg_lt a
  have h2 := dg_ge hb
  have := pow_le (i := (dg a).length) (j := (dg b).length - 1) (by omega)
  omega
theorem cmp_at {a b : List Int} {i : Nat} (ha : Dg a) (hb : Dg b) (hi : i < a.length) (hl : a.length = b.length) (hd : a.drop (i + 1) = b.drop (i + 1)) (h : a.getD i 0 < b.getD i 0) : wv a < wv b := by
  rw [wv_cut a i (by omega), wv_cut b i (by omega), wv_drop hi, wv_drop (l := b) (i := i) (by omega), hd]
  have k1 := wv_lt (ha.take i)
  rw [List.length_take, Nat.min_eq_left (by omega)] at k1
  have k2 := wv_nn (hb.take i)
  have p := pow_pos' i
  have : (1000000000 : Int) ^ i * (a.getD i 0 + 1000000000 * wv (b.drop (i + 1)) + 1) ≤ 1000000000 ^ i * (b.getD i 0 + 1000000000 * wv (b.drop (i + 1))) := Int.mul_le_mul_of_nonneg_left (by omega) (by omega)
  rw [Int.mul_add (1000000000 ^ i) _ 1] at this
  omega
/-! ### Sums -/
def addS (a b : List Int) : Nat → List Int × Int
  | 0 => ([], 0)
  | i + 1 => ((addS a b i).1 ++ [(a.getD i 0 + b.getD i 0 + (addS a b i).2) % 1000000000], (a.getD i 0 + b.getD i 0 + (addS a b i).2) / 1000000000)
theorem addS_inv {a b : List Int} (ha : Dg a) (hb : Dg b) : ∀ i, ((addS a b i).1.length = i ∧ Dg (addS a b i).1) ∧ (0 ≤ (addS a b i).2 ∧ (addS a b i).2 ≤ 1) ∧ wv (addS a b i).1 + 1000000000 ^ i * (addS a b i).2 = wv (a.take i) + wv (b.take i)
  | 0 => ⟨⟨rfl, Dg.nil⟩, by simp [addS], by simp [addS, wv]⟩
  | i + 1 => by
    obtain ⟨⟨h1, h2⟩, h3, h4⟩ := addS_inv ha hb i
    have x := ha.at i
    have y := hb.at i
    have q : a.getD i 0 + b.getD i 0 + (addS a b i).2 = (a.getD i 0 + b.getD i 0 + (addS a b i).2) % 1000000000 + 1000000000 * ((a.getD i 0 + b.getD i 0 + (addS a b i).2) / 1000000000) := (Int.emod_add_mul_ediv ..).symm
    refine ⟨⟨by simp [addS, h1], h2.app (Dg.cons (by omega) Dg.nil)⟩, ?_, ?_⟩
    · show 0 ≤ _ / 1000000000 ∧ _ / 1000000000 ≤ 1
      omega
    · rw [wv_take, wv_take]
      show wv (_ ++ [_]) + 1000000000 ^ (i + 1) * (_ / 1000000000) = _
      rw [wv_snoc, h1, Int.pow_succ, Int.mul_assoc, Int.add_assoc, ← Int.mul_add, ← q, Int.mul_add, Int.mul_add]
      omega
/-- How many digits the sum has. -/
def addN (a b : List Int) : Nat := if (addS a b (max a.length b.length)).2 = 0 then max a.length b.length else max a.length b.length + 1
def addL (a b : List Int) : List Int := (addS a b (addN a b)).1
theorem addS_out {a b : List Int} {i : Nat} (ha : a.length ≤ i) (hb : b.length ≤ i) : a.getD i 0 = 0 ∧ b.getD i 0 = 0 := by
  rw [List.getD_eq_getElem?_getD, List.getD_eq_getElem?_getD, List.getElem?_eq_none ha, List.getElem?_eq_none hb]; exact ⟨rfl, rfl⟩
theorem addN_c {a b : List Int} (ha : Dg a) (hb : Dg b) : (addS a b (addN a b)).2 = 0 := by
  unfold addN
  split
  · assumption
  · rename_i h
    have := (addS_inv ha hb (max a.length b.length)).2.1
    obtain ⟨e1, e2⟩ := addS_out (a := a) (b := b) (i := max a.length b.length) (by omega) (by omega)
    show (a.getD (max a.length b.length) 0 + b.getD (max a.length b.length) 0 + _) / 1000000000 = 0
    rw [e1, e2]
    omega
theorem addL_val {a b : List Int} (ha : Dg a) (hb : Dg b) : wv (addL a b) = wv a + wv b ∧ Dg (addL a b) ∧ (addL a b).length = addN a b := by
  obtain ⟨⟨h1, h2⟩, _, h4⟩ := addS_inv ha hb (addN a b)
  rw [addN_c ha hb, Int.mul_zero, Int.add_zero] at h4
  have : max a.length b.length ≤ addN a b := by unfold addN; split <;> omega
  rw [take_all (by omega), take_all (by omega)] at h4
  exact ⟨h4, h2, h1⟩
/-- The loop goes on as long as this. -/
theorem addN_go {a b : List Int} {i : Nat} (ha : Dg a) (hb : Dg b) (hi : i ≤ addN a b) : (i < a.length ∨ i < b.length ∨ 0 < (addS a b i).2) ↔ i < addN a b := by
  unfold addN at *
  split at hi
  · rename_i h
    rw [if_pos h]
    constructor
    · rintro (k | k | k)
      · omega
      · omega
      · by_cases e : i = max a.length b.length
        · subst e; omega
        · omega
    · intro k; omega
  · rename_i h
    rw [if_neg h]
    have c := (addS_inv ha hb (max a.length b.length)).2.1
    constructor
    · rintro (k | k | k)
      · omega
      · omega
      · by_cases e : i = max a.length b.length + 1
        · subst e
          have z := addN_c ha hb
          unfold addN at z
          rw [if_neg h] at z
          omega
        · omega
    · intro k
      by_cases e : i = max a.length b.length
      · subst e; exact .inr (.inr (by omega))
      · omega
/-! ### Differences -/
def subS (a b : List Int) : Nat → List Int × Int
  | 0 => ([], 0)
  | i + 1 => ((subS a b i).1 ++ [if a.getD i 0 - b.getD i 0 - (subS a b i).2 < 0 then a.getD i 0 - b.getD i 0 - (subS a b i).2 + 1000000000 else a.getD i 0 - b.getD i 0 - (subS a b i).2], if a.getD i 0 - b.getD i 0 - (subS a b i).2 < 0 then 1 else 0)
theorem subS_inv {a b : List Int} (ha : Dg a) (hb : Dg b) : ∀ i, ((subS a b i).1.length = i ∧ Dg (subS a b i).1) ∧ (0 ≤ (subS a b i).2 ∧ (subS a b i).2 ≤ 1) ∧ wv (subS a b i).1 - 1000000000 ^ i * (subS a b i).2 = wv (a.take i) - wv (b.take i)
  | 0 => ⟨⟨rfl, Dg.nil⟩, by simp [subS], by simp [subS, wv]⟩
  | i + 1 => by
    obtain ⟨⟨h1, h2⟩, h3, h4⟩ := subS_inv ha hb i
    have x := ha.at i
    have y := hb.at i
    by_cases q : a.getD i 0 - b.getD i 0 - (subS a b i).2 < 0
    · have e : subS a b (i + 1) = ((subS a b i).1 ++ [a.getD i 0 - b.getD i 0 - (subS a b i).2 + 1000000000], 1) := by
        show (_, _) = _
        rw [if_pos q, if_pos q]
      rw [e]
      refine ⟨⟨by simp [h1], h2.app (Dg.cons (by omega) Dg.nil)⟩, by dsimp only; omega, ?_⟩
      show wv (_ ++ [_]) - _ = _
      rw [wv_take, wv_take, wv_snoc, h1, Int.pow_succ, Int.mul_add, Int.mul_sub, Int.mul_sub]
      dsimp only
      omega
    · have e : subS a b (i + 1) = ((subS a b i).1 ++ [a.getD i 0 - b.getD i 0 - (subS a b i).2], 0) := by
        show (_, _) = _
        rw [if_neg q, if_neg q]
      rw [e]
      refine ⟨⟨by simp [h1], h2.app (Dg.cons (by omega) Dg.nil)⟩, by dsimp only; omega, ?_⟩
      show wv (_ ++ [_]) - _ = _
      rw [wv_take, wv_take, wv_snoc, h1, Int.pow_succ, Int.mul_sub, Int.mul_sub]
      dsimp only
      omega
theorem subS_val {a b : List Int} (ha : Dg a) (hb : Dg b) (hl : b.length ≤ a.length) (hv : wv b ≤ wv a) : wv (subS a b a.length).1 = wv a - wv b := by
  obtain ⟨⟨h1, h2⟩, h3, h4⟩ := subS_inv ha hb a.length
  rw [take_all (Nat.le_refl _), take_all hl] at h4
  have n := wv_lt h2
  rw [h1] at n
  by_cases q : (subS a b a.length).2 = 0
  · rw [q] at h4; omega
  · rw [show (subS a b a.length).2 = 1 by omega] at h4
    omega
/-! ### Products -/
theorem wv_set : ∀ {l : List Int} {i : Nat} (x : Int), i < l.length → wv (l.set i x) = wv l + 1000000000 ^ i * (x - l.getD i 0)
  | [], i, x, h => by simp at h
  | d :: l, 0, x, h => by
    show x + _ = d + _ + 1 * (x - d)
    omega
  | d :: l, i + 1, x, h => by
    have := wv_set (l := l) (i := i) x (by simpa using h)
    show d + 1000000000 * wv (l.set i x) = d + 1000000000 * wv l + 1000000000 ^ (i + 1) * (x - l.getD i 0)
    rw [this, Int.pow_succ, Int.mul_add, ← Int.mul_assoc, Int.mul_comm 1000000000 (1000000000 ^ i)]
    omega
theorem Dg.set {l : List Int} (h : Dg l) (i : Nat) {x : Int} (hx : 0 ≤ x ∧ x < 1000000000) : Dg (l.set i x) := fun d hd => by
  rcases List.mem_or_eq_of_mem_set hd with hd | rfl
  · exact h d hd
  · exact hx
theorem getD_set_at {l : List Int} {i : Nat} {x : Int} (h : i < l.length) : (l.set i x).getD i 0 = x := by
  rw [List.getD_eq_getElem?_getD, List.getElem?_set, if_pos rfl, if_pos h]; rfl
theorem getD_set_no {l : List Int} {i j : Nat} {x : Int} (h : j ≠ i) : (l.set i x).getD j 0 = l.getD j 0 := by
  rw [List.getD_eq_getElem?_getD, List.getElem?_set, if_neg (Ne.symm h), ← List.getD_eq_getElem?_getD]
theorem prod_bd {x y : Int} (hx : 0 ≤ x ∧ x < 1000000000) (hy : 0 ≤ y ∧ y < 1000000000) : 0 ≤ x * y ∧ x * y ≤ 999999999 * 999999999 :=
  ⟨Int.mul_nonneg hx.1 hy.1, Int.mul_le_mul (by omega) (by omega) hy.1 (by omega)⟩
/-- The digits so far: i whole rows, of the next one k digits, and what is carried. -/
structure MulI (a b O : List Int) (i k : Nat) (c : Int) : Prop where
  n : O.length = a.length + b.length + 1
  d : Dg O
  z : ∀ j, i + b.length ≤ j → O.getD j 0 = 0
  q : 0 ≤ c ∧ c < 1000000000
  v : wv O + 1000000000 ^ (i + k) * c = wv (a.take i) * wv b + 1000000000 ^ i * (a.getD i 0 * wv (b.take k))
theorem MulI.step {a b O : List Int} {i k : Nat} {c s : Int} (h : MulI a b O i k c) (ha : Dg a) (hb : Dg b) (hi : i < a.length) (hk : k < b.length) (hs : s = O.getD (i + k) 0 + a.getD i 0 * b.getD k 0 + c) : MulI a b (O.set (i + k) (s % 1000000000)) i (k + 1) (s / 1000000000) := by
  have x := ha.at i
  have y := hb.at k
  have z := h.d.at (i + k)
  have p := prod_bd x y
  have hc := h.q
  have hn := h.n
  have q : s = s % 1000000000 + 1000000000 * (s / 1000000000) := (Int.emod_add_mul_ediv ..).symm
  refine ⟨by simpa using h.n, h.d.set _ (by omega), fun j hj => ?_, by omega, ?_⟩
  · rw [getD_set_no (by omega)]; exact h.z j hj
  · have v := h.v
    rw [wv_set _ (by omega), wv_take, ← Nat.add_assoc, Int.pow_succ, Int.mul_assoc, Int.mul_add (a.getD i 0), Int.mul_add, ← Int.add_assoc, ← v]
    have e1 : (1000000000 : Int) ^ i * (a.getD i 0 * (1000000000 ^ k * b.getD k 0)) = 1000000000 ^ (i + k) * (a.getD i 0 * b.getD k 0) := by
      rw [Int.pow_add, Int.mul_left_comm (a.getD i 0), ← Int.mul_assoc]
    rw [e1, Int.add_assoc, Int.add_assoc, ← Int.mul_add, ← Int.mul_add]
    congr 2
    omega
theorem MulI.row {a b O : List Int} {i : Nat} {c : Int} (h : MulI a b O i b.length c) (hi : i < a.length) : MulI a b (O.set (i + b.length) (O.getD (i + b.length) 0 + c)) (i + 1) 0 0 := by
  have hc := h.q
  have hn := h.n
  have hz := h.z (i + b.length) (Nat.le_refl _)
  refine ⟨by simpa using h.n, h.d.set _ (by omega), fun j hj => ?_, by decide, ?_⟩
  · rw [getD_set_no (by omega)]; exact h.z j (by omega)
  · have v := h.v
    rw [take_all (Nat.le_refl _)] at v
    rw [wv_set _ (by omega), wv_take, Int.add_mul, Int.mul_assoc, ← v]
    simp [wv]
    rw [show ∀ x : Int, x + c - x = c from fun x => by omega]
theorem MulI.start {a b O : List Int} (hn : O.length = a.length + b.length + 1) (h : ∀ j, O.getD j 0 = 0) : MulI a b O 0 0 0 := by
  refine ⟨hn, fun d hd => ?_, fun j _ => h j, by decide, ?_⟩
  · obtain ⟨i, hi, rfl⟩ := List.mem_iff_getElem.1 hd
    have := h i
    rw [List.getD_eq_getElem?_getD, List.getElem?_eq_getElem hi] at this
    simp at this
    omega
  · rw [wv_zeros fun i _ => h i]
    simp [wv]
theorem MulI.val {a b O : List Int} (h : MulI a b O a.length 0 0) : wv O = wv a * wv b := by
  have v := h.v
  rw [take_all (Nat.le_refl _)] at v
  simpa [wv] using v
end Go.Proofs.Ytdfcedndkplabaa.Wd
