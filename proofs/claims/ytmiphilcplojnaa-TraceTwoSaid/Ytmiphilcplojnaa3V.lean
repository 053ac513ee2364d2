/-
  Chapter 3: two readings are enough: the law TraceTwo (by contract).
  Conditions: none.
-/
import Derived.Test.Ytmiphilcplojnaa3U
namespace Go.Proofs.Ytmiphilcplojnaa
open Go.RowKit Fx
/-! ### Plain -/
theorem reads_zero {l : List Rdg} {s : Rg} (h0 : 0 < l.length) (h1 : l.length ≤ 12) (ht : ∀ i, i < l.length → (l.getD i (0, 0, 0)).1 = 0 ∨ (l.getD i (0, 0, 0)).1 = 1)
    (hv : ∀ i, i < l.length → 0 ≤ (l.getD i (0, 0, 0)).2.1 ∧ (l.getD i (0, 0, 0)).2.1 ≤ (l.getD i (0, 0, 0)).2.2 ∧ (l.getD i (0, 0, 0)).2.2 ≤ 3000) (hs : 0 ≤ s.1 ∧ s.1 ≤ s.2 ∧ s.2 ≤ 3000) : readsE l s = 0 := by
  have rz : ∀ r : Rg, 0 ≤ r.1 ∧ r.1 ≤ r.2 ∧ r.2 ≤ 3000 → rangeE r = 0 := fun r h => by unfold rangeE; rw [if_neg (by omega), if_neg (by omega)]
  have hf : (findErr readE l 0).2 = 0 := by
    rw [findErr_none readE (0, 0, 0) l 0 fun i hi => ?_]
    unfold readE
    rw [if_neg (by have := ht i hi; omega)]
    exact rz _ (hv i hi)
  unfold readsE
  rw [if_neg (by omega), if_neg (by omega), hf, if_neg (by simp)]
  exact rz s hs
theorem Good.two {l : List Rdg} {s : Rg} (g : Good l s) {i k : Nat} (hi : i < l.length) (hk : k < l.length) : readsE [l.getD i (0, 0, 0), l.getD k (0, 0, 0)] s = 0 := by
  refine reads_zero (by simp) (by simp) ?_ ?_ g.shift
  · intro j hj
    have : j = 0 ∨ j = 1 := by simp at hj; omega
    rcases this with rfl | rfl
    · exact g.tag i hi
    · exact g.tag k hk
  · intro j hj
    have : j = 0 ∨ j = 1 := by simp at hj; omega
    rcases this with rfl | rfl
    · exact g.val i hi
    · exact g.val k hk
theorem Good.clash {l : List Rdg} {s : Rg} (g : Good l s) {i k : Nat} (hi : i < l.length) (hk : k < l.length) (hc : Go.Proofs.Ytmiphilcplojnaa.clash (permK l s) i k) : agreed [l.getD i (0, 0, 0), l.getD k (0, 0, 0)] s = ((0, 0), 13) := by
  have h := g.two hi hk
  refine (((good_of h).all h).2 ?_).1
  exact hc
theorem tail_getD {α : Type} (l : List α) (d : α) (i : Nat) : l.tail.getD i d = l.getD (1 + i) d := by
  cases l with
  | nil => simp
  | cons x l => simp [Nat.add_comm]
theorem tail_eq (l : List Rdg) : (V.sl 3 (l.length - 1) fun j => eRd (l.getD (1 + j) (0, 0, 0))) = eRds l.tail := by
  unfold eRds
  rw [List.length_tail]
  congr 1
  funext j
  rw [tail_getD]
theorem copyTail_ok {l : List Rdg} (hl : l.length ≤ 100) : FnOK Try.prog 31 [.sl 3 (l.length - 1) fun j => eRd (l.getD (1 + j) (0, 0, 0))] (eRds l.tail) [] := by
  rw [tail_eq]
  exact copyReadings_ok (by rw [List.length_tail]; omega)
theorem Good.tail {l : List Rdg} {s : Rg} (g : Good l s) (h2 : 2 ≤ l.length) (hg : goodB (meetK (permK l s) (l.length - 1)) = true) :
    (agreed l.tail s).2 = 0 ∧ (agreed l.tail s).1.1 ≤ (meetK (permK l s) (l.length - 1)).1 ∧ (meetK (permK l s) (l.length - 1)).2 ≤ (agreed l.tail s).1.2 := by
  have hlen : l.tail.length = l.length - 1 := List.length_tail
  have hz : readsE l.tail s = 0 := by
    refine reads_zero (by omega) (by have := g.le; omega) ?_ ?_ g.shift
    · intro i hi
      rw [tail_getD]
      exact g.tag _ (by omega)
    · intro i hi
      rw [tail_getD]
      exact g.val _ (by omega)
  have gt := good_of hz
  have hp : ∀ i, permK l.tail s i = permK l s (1 + i) := fun i => by unfold permK; rw [tail_getD]
  obtain ⟨i, i1, i2⟩ := meetK_lo (f := permK l.tail s) (l.tail.length - 1)
  obtain ⟨k, k1, k2⟩ := meetK_hi (f := permK l.tail s) (l.tail.length - 1)
  have a1 := (meetK_le (f := permK l s) (l.length - 1) (1 + i) (by omega)).1
  have a2 := (meetK_le (f := permK l s) (l.length - 1) (1 + k) (by omega)).2
  rw [← hp, i2] at a1
  rw [← hp, k2] at a2
  have hg' := hg
  unfold goodB at hg'
  rw [decide_eq_true_eq] at hg'
  obtain ⟨e, _⟩ := (gt.all hz).1 (by unfold goodB; rw [decide_eq_true_eq]; omega)
  rw [e]
  exact ⟨rfl, a1, a2⟩
def allK (f : Nat → Rg) (n : Int) : Nat → Bool
  | 0 => true
  | k + 1 => allK f n k && decide ((f k).1 ≤ n ∧ n ≤ (f k).2)
theorem allK_iff {f : Nat → Rg} {n : Int} : ∀ (k : Nat), allK f n k = true ↔ ∀ i, i < k → (f i).1 ≤ n ∧ n ≤ (f i).2
  | 0 => by simp [allK]
  | k + 1 => by
    simp only [allK, Bool.and_eq_true, decide_eq_true_eq, allK_iff k]
    constructor
    · rintro ⟨h1, h2⟩ i hi
      by_cases e : i = k
      · subst e; exact h2
      · exact h1 i (by omega)
    · intro h
      exact ⟨fun i hi => h i (by omega), h k (by omega)⟩
theorem allK_meet {f : Nat → Rg} {n : Int} {k : Nat} : allK f n (k + 1) = decide ((meetK f k).1 ≤ n ∧ n ≤ (meetK f k).2) := by
  rw [Bool.eq_iff_iff, allK_iff, decide_eq_true_eq]
  constructor
  · intro h
    obtain ⟨i, h1, h2⟩ := meetK_lo (f := f) k
    obtain ⟨j, h3, h4⟩ := meetK_hi (f := f) k
    have := h i (by omega)
    have := h j (by omega)
    omega
  · intro h i hi
    have := meetK_le (f := f) k i (by omega)
    omega
set_option maxRecDepth 100000 in
theorem traceTwo_ok {l : List Rdg} {s : Rg} {n : Int} (hl : l.length ≤ 9223372036854775807) : FnOK Try.prog 6 [eRds l, eRg s, I n] (B true) [] := by
  have A := agreedOf_ok (l := l) (s := s) hl
  have C := contradicting_ok (l := l) (s := s) hl
  have D := readingsErr_ok (l := l) (s := s) hl
  by_cases hd : readsE l s = 0
  case neg =>
    refine fn_i hmix hT Try.f6 (by kernel_rfl) rfl (by kernel_rfl) ?_
    with_reducible conv => whnf
    repeat' ((first | (with_reducible refine branch_t ?_) | (with_reducible refine branch_f ?_) | (with_reducible refine branch_nt ?_) | (with_reducible refine branch_nf ?_) | (with_reducible refine branch_dec (fun _ => ?_) (fun _ => ?_)) | (with_reducible refine branch_ndec (fun _ => ?_) (fun _ => ?_)) | (with_reducible refine branch_bool (fun _ => ?_) (fun _ => ?_)) | (with_reducible refine arith_64 (by omega) ?_) | (with_reducible refine ob_i (by omega) (fun _ => ?_)) | (with_reducible refine ob_i (by unfold room; omega) (fun _ => ?_)) | (with_reducible refine ob_i (by (try simp only [toN_eq, Int.toNat_natCast] at *); (try dsimp only [toN] at *); omega) (fun _ => ?_)) | (with_reducible refine arith_64 (by (try simp only [toN_eq, Int.toNat_natCast] at *); (try dsimp only [toN] at *); omega) ?_) | (with_reducible refine ob_k rfl ?_) | ((with_reducible refine ob_k ?_ ?_); focus kernel_rfl) | (refine yield_i hmix hT rfl hL efr eps eag ebd rfl (by kernel_rfl) ?_) | (apply call_u awake_fn) | (apply call_u D) | (apply call_l (first_ok (l := [_, _]) (Nat.le_of_ble_eq_true rfl)) (.cons (vm_lit _ rfl rfl (.cons (vm_int rfl) (.cons (vm_int rfl) .nil))) .nil)) | (apply call_l (first_ok (l := [_, _, _]) (Nat.le_of_ble_eq_true rfl)) (.cons (vm_lit _ rfl rfl (.cons (vm_int rfl) (.cons (vm_int rfl) (.cons (vm_int rfl) .nil)))) .nil)) | (apply call_l (first_ok (l := [_, _, _, _]) (Nat.le_of_ble_eq_true rfl)) (.cons (vm_lit _ rfl rfl (.cons (vm_int rfl) (.cons (vm_int rfl) (.cons (vm_int rfl) (.cons (vm_int rfl) .nil))))) .nil))) <;> (try (exfalso; omega; done)) <;> (with_reducible conv => whnf))
    all_goals exact ret0 vm_p
  by_cases hn : -3000 ≤ n ∧ n ≤ 3000
  case neg =>
    rw [hd] at D
    refine fn_i hmix hT Try.f6 (by kernel_rfl) rfl (by kernel_rfl) ?_
    with_reducible conv => whnf
    repeat' ((first | (with_reducible refine branch_t ?_) | (with_reducible refine branch_f ?_) | (with_reducible refine branch_nt ?_) | (with_reducible refine branch_nf ?_) | (with_reducible refine branch_dec (fun _ => ?_) (fun _ => ?_)) | (with_reducible refine branch_ndec (fun _ => ?_) (fun _ => ?_)) | (with_reducible refine branch_bool (fun _ => ?_) (fun _ => ?_)) | (with_reducible refine arith_64 (by omega) ?_) | (with_reducible refine ob_i (by omega) (fun _ => ?_)) | (with_reducible refine ob_i (by unfold room; omega) (fun _ => ?_)) | (with_reducible refine ob_i (by (try simp only [toN_eq, Int.toNat_natCast] at *); (try dsimp only [toN] at *); omega) (fun _ => ?_)) | (with_reducible refine arith_64 (by (try simp only [toN_eq, Int.toNat_natCast] at *); (try dsimp only [toN] at *); omega) ?_) | (with_reducible refine ob_k rfl ?_) | ((with_reducible refine ob_k ?_ ?_); focus kernel_rfl) | (refine yield_i hmix hT rfl hL efr eps eag ebd rfl (by kernel_rfl) ?_) | (apply call_u awake_fn) | (apply call_u D) | (apply call_u bWithin_ok) | (apply call_l (first_ok (l := [_, _]) (Nat.le_of_ble_eq_true rfl)) (.cons (vm_lit _ rfl rfl (.cons (vm_int rfl) (.cons (vm_int rfl) .nil))) .nil)) | (apply call_l (first_ok (l := [_, _, _]) (Nat.le_of_ble_eq_true rfl)) (.cons (vm_lit _ rfl rfl (.cons (vm_int rfl) (.cons (vm_int rfl) (.cons (vm_int rfl) .nil)))) .nil)) | (apply call_l (first_ok (l := [_, _, _, _]) (Nat.le_of_ble_eq_true rfl)) (.cons (vm_lit _ rfl rfl (.cons (vm_int rfl) (.cons (vm_int rfl) (.cons (vm_int rfl) (.cons (vm_int rfl) .nil))))) .nil))) <;> (try (exfalso; omega; done)) <;> (with_reducible conv => whnf))
    all_goals exact ret0 vm_p
  have g := good_of hd
  obtain ⟨g1, g2⟩ := g.all hd
  have gp := g.pos
  have gl := g.le
  rw [hd] at D
  cases hg : goodB (meetK (permK l s) (l.length - 1)) with
  | false =>
    obtain ⟨e1, e2, i, k, hf⟩ := g2 hg
    rw [e1] at A
    rw [e2] at C
    have hlt := hf.lt
    have hle := hf.le
    have A2 := agreedOf_ok (l := [l.getD i (0, 0, 0), l.getD k (0, 0, 0)]) (s := s) (by simp)
    rw [g.clash (by omega) (by omega) hf.c] at A2
    have hX := pairOf_hit hf
    generalize pairOf (permK l s) l.length = X at *
    have x0 : X.getD (toN 0) 0 = (i : Int) := by first | (rw [hX]; done) | (rw [hX]; rfl)
    have x1 : X.getD (toN 1) 0 = (k : Int) := by first | (rw [hX]; done) | (rw [hX]; rfl)
    have xl : X.length = 2 := by first | (rw [hX]; done) | (rw [hX]; rfl)
    have l0 : l.getD (toN (X.getD (toN 0) 0)) (0, 0, 0) = l.getD i (0, 0, 0) := by first | (rw [x0]; done) | (rw [x0]; rfl)
    have l1 : l.getD (toN (X.getD (toN 1) 0)) (0, 0, 0) = l.getD k (0, 0, 0) := by first | (rw [x1]; done) | (rw [x1]; rfl)
    clear hX g1 g2
    refine fn_i hmix hT Try.f6 (by kernel_rfl) rfl (by kernel_rfl) ?_
    with_reducible conv => whnf
    repeat' ((first | (with_reducible refine branch_t ?_) | (with_reducible refine branch_f ?_) | (with_reducible refine branch_nt ?_) | (with_reducible refine branch_nf ?_) | (with_reducible refine branch_dec (fun _ => ?_) (fun _ => ?_)) | (with_reducible refine branch_ndec (fun _ => ?_) (fun _ => ?_)) | (with_reducible refine branch_bool (fun _ => ?_) (fun _ => ?_)) | (with_reducible refine arith_64 (by omega) ?_) | (with_reducible refine ob_i (by omega) (fun _ => ?_)) | (with_reducible refine ob_i (by unfold room; omega) (fun _ => ?_)) | (with_reducible refine ob_i (by (try simp only [toN_eq, Int.toNat_natCast] at *); (try dsimp only [toN] at *); omega) (fun _ => ?_)) | (with_reducible refine arith_64 (by (try simp only [toN_eq, Int.toNat_natCast] at *); (try dsimp only [toN] at *); omega) ?_) | (with_reducible refine ob_k rfl ?_) | ((with_reducible refine ob_k ?_ ?_); focus kernel_rfl) | (refine yield_i hmix hT rfl hL efr eps eag ebd rfl (by kernel_rfl) ?_) | (apply call_u awake_fn) | (apply call_u D) | (apply call_u bWithin_ok) | (apply call_u (copyReadings_ok (by omega))) | (apply call_u A) | (apply call_u C) | (apply call_l A2 (.cons (vm_lit _ rfl rfl (.cons (by simp only [l0]; exact vm_p) (.cons (by simp only [l1]; exact vm_p) .nil))) (.cons vm_p .nil))) | (apply call_l (first_ok (l := [_, _]) (Nat.le_of_ble_eq_true rfl)) (.cons (vm_lit _ rfl rfl (.cons (vm_int rfl) (.cons (vm_int rfl) .nil))) .nil)) | (apply call_l (first_ok (l := [_, _, _]) (Nat.le_of_ble_eq_true rfl)) (.cons (vm_lit _ rfl rfl (.cons (vm_int rfl) (.cons (vm_int rfl) (.cons (vm_int rfl) .nil)))) .nil)) | (apply call_l (first_ok (l := [_, _, _, _]) (Nat.le_of_ble_eq_true rfl)) (.cons (vm_lit _ rfl rfl (.cons (vm_int rfl) (.cons (vm_int rfl) (.cons (vm_int rfl) (.cons (vm_int rfl) .nil))))) .nil))) <;> (try (exfalso; omega; done)) <;> (with_reducible conv => whnf))
    all_goals try simp only at *
    all_goals first | exact ret0 vm_p | (exfalso; omega) | (exfalso; simp_all; done) | (exact ret0 (vm_bool (by simp)))
  | true =>
    obtain ⟨e1, e2⟩ := g1 hg
    rw [e1] at A
    rw [e2] at C
    have gm : (meetK (permK l s) (l.length - 1)).1 ≤ (meetK (permK l s) (l.length - 1)).2 := by simpa [goodB] using hg
    have am := allK_meet (f := permK l s) (n := n) (k := l.length - 1)
    rw [show l.length - 1 + 1 = l.length by omega] at am
    have tl := fun h => g.tail h hg
    have T2 := agreedOf_ok (l := l.tail) (s := s) (by simp; omega)
    clear g1 g2
    generalize hM : meetK (permK l s) (l.length - 1) = M at *
    refine fn_i hmix hT Try.f6 (by kernel_rfl) rfl (by kernel_rfl) ?_
    with_reducible conv => whnf
    repeat' ((first | (with_reducible refine branch_t ?_) | (with_reducible refine branch_f ?_) | (with_reducible refine branch_nt ?_) | (with_reducible refine branch_nf ?_) | (with_reducible refine branch_dec (fun _ => ?_) (fun _ => ?_)) | (with_reducible refine branch_ndec (fun _ => ?_) (fun _ => ?_)) | (with_reducible refine branch_bool (fun _ => ?_) (fun _ => ?_)) | (with_reducible refine arith_64 (by omega) ?_) | (with_reducible refine ob_i (by omega) (fun _ => ?_)) | (with_reducible refine ob_i (by unfold room; omega) (fun _ => ?_)) | (with_reducible refine ob_i (by (try simp only [toN_eq, Int.toNat_natCast] at *); (try dsimp only [toN] at *); omega) (fun _ => ?_)) | (with_reducible refine arith_64 (by (try simp only [toN_eq, Int.toNat_natCast] at *); (try dsimp only [toN] at *); omega) ?_) | (with_reducible refine ob_k rfl ?_) | ((with_reducible refine ob_k ?_ ?_); focus kernel_rfl) | (refine yield_i hmix hT rfl hL efr eps eag ebd rfl (by kernel_rfl) ?_) | (apply call_u awake_fn) | (apply call_u D) | (apply call_u bWithin_ok) | (apply call_u (copyReadings_ok (by omega))) | (apply call_u A) | (apply call_u C) | (apply call_l (first_ok (l := [_, _]) (Nat.le_of_ble_eq_true rfl)) (.cons (vm_lit _ rfl rfl (.cons (vm_int rfl) (.cons (vm_int rfl) .nil))) .nil)) | (apply call_l (first_ok (l := [_, _, _]) (Nat.le_of_ble_eq_true rfl)) (.cons (vm_lit _ rfl rfl (.cons (vm_int rfl) (.cons (vm_int rfl) (.cons (vm_int rfl) .nil)))) .nil)) | (apply call_l (first_ok (l := [_, _, _, _]) (Nat.le_of_ble_eq_true rfl)) (.cons (vm_lit _ rfl rfl (.cons (vm_int rfl) (.cons (vm_int rfl) (.cons (vm_int rfl) (.cons (vm_int rfl) .nil))))) .nil))) <;> (try (exfalso; omega; done)) <;> (with_reducible conv => whnf))
    · exfalso
      simp only at *
      omega
    refine loop_i hmix hT (fun k : Nat => ([(0, eRds l), (2, I n), (4, .ptr 0 0), (7, .ptr 1 0), (13, B (allK (permK l s) n k)), (14, I k)], ⟨2, [(1, .cells [I M.1, I M.2] 37), (0, .cells [I s.1, I s.2] 37)]⟩)) (fun k => k ≤ l.length) (fun k => l.length - k) 0 (by omega) ?_ ?_
    · refine ⟨[], rfl, ?_, ?_⟩ <;> repeat' (first | exact trivial | exact vm_p | exact vm_ptr rfl rfl rfl | exact vm_yld rfl rfl | exact vm_own rfl rfl rfl rfl | exact vm_own rfl rfl (by omega) (by omega) | exact vm_int (by omega) | exact vm_nil rfl | exact sbm_cells vmL_p | exact sbm_row rfl (fun _ _ => vm_p) | refine ⟨⟨_, rfl, ?_⟩, ?_⟩ | refine ⟨⟨_, _, _, rfl⟩, ?_⟩ | (refine sbm_loop ?_; rw [efr]) | refine sbm_cells ?_ | refine vmL.cons ?_ ?_ | exact vmL.nil | refine vm_own rfl rfl rfl ?_)
    intro k hk
    have pk := fun h => g.permK_eq (i := k) h
    have vk := fun h => g.val k h
    have hs := g.shift
    with_reducible conv => whnf
    repeat' ((first | (with_reducible refine branch_t ?_) | (with_reducible refine branch_f ?_) | (with_reducible refine branch_nt ?_) | (with_reducible refine branch_nf ?_) | (with_reducible refine branch_dec (fun _ => ?_) (fun _ => ?_)) | (with_reducible refine branch_ndec (fun _ => ?_) (fun _ => ?_)) | (with_reducible refine branch_bool (fun _ => ?_) (fun _ => ?_)) | (with_reducible refine arith_64 (by omega) ?_) | (with_reducible refine ob_i (by omega) (fun _ => ?_)) | (with_reducible refine ob_i (by unfold room; omega) (fun _ => ?_)) | (with_reducible refine ob_i (by (try simp only [toN_eq, Int.toNat_natCast] at *); (try dsimp only [toN] at *); omega) (fun _ => ?_)) | (with_reducible refine arith_64 (by (try simp only [toN_eq, Int.toNat_natCast] at *); (try dsimp only [toN] at *); omega) ?_) | (with_reducible refine ob_k rfl ?_) | ((with_reducible refine ob_k ?_ ?_); focus kernel_rfl) | (refine yield_i hmix hT rfl hL efr eps eag ebd rfl (by kernel_rfl) ?_) | (apply call_u bWithin_ok) | (refine gen_neB rfl rfl rfl (by kernel_rfl) (by kernel_rfl) (by kernel_rfl) (fun _ => ?_) (fun _ => ?_)) | (apply call_u (copyTail_ok (by omega))) | (apply call_u T2) | (apply call_l (first_ok (l := [_, _]) (Nat.le_of_ble_eq_true rfl)) (.cons (vm_lit _ rfl rfl (.cons (vm_int rfl) (.cons (vm_int rfl) .nil))) .nil)) | (apply call_l (first_ok (l := [_, _, _]) (Nat.le_of_ble_eq_true rfl)) (.cons (vm_lit _ rfl rfl (.cons (vm_int rfl) (.cons (vm_int rfl) (.cons (vm_int rfl) .nil)))) .nil)) | (apply call_l (first_ok (l := [_, _, _, _]) (Nat.le_of_ble_eq_true rfl)) (.cons (vm_lit _ rfl rfl (.cons (vm_int rfl) (.cons (vm_int rfl) (.cons (vm_int rfl) (.cons (vm_int rfl) .nil))))) .nil))) <;> (try (exfalso; omega; done)) <;> (with_reducible conv => whnf))
    · have e := pk (by omega)
      rw [if_pos (by assumption)] at e
      refine ⟨k + 1, by omega, by omega, ?_⟩
      refine ⟨[], rfl, ?_, ?_⟩ <;> repeat' (first | exact trivial | exact vm_p | exact vm_ptr rfl rfl rfl | exact vm_yld rfl rfl | exact vm_own rfl rfl rfl rfl | exact vm_own rfl rfl (by omega) (by omega) | exact vm_int (by omega) | exact vm_nil rfl | exact sbm_cells vmL_p | exact sbm_row rfl (fun _ _ => vm_p) | refine ⟨⟨_, rfl, ?_⟩, ?_⟩ | refine ⟨⟨_, _, _, rfl⟩, ?_⟩ | (refine sbm_loop ?_; rw [efr]) | refine sbm_cells ?_ | refine vmL.cons ?_ ?_ | exact vmL.nil | refine vm_own rfl rfl rfl ?_)
      refine vm_bool ?_
      simp only [allK, e]
      simp [*]
    · refine ⟨k + 1, by omega, by omega, ?_⟩
      refine ⟨[], rfl, ?_, ?_⟩ <;> repeat' (first | exact trivial | exact vm_p | exact vm_ptr rfl rfl rfl | exact vm_yld rfl rfl | exact vm_own rfl rfl rfl rfl | exact vm_own rfl rfl (by omega) (by omega) | exact vm_int (by omega) | exact vm_nil rfl | exact sbm_cells vmL_p | exact sbm_row rfl (fun _ _ => vm_p) | refine ⟨⟨_, rfl, ?_⟩, ?_⟩ | refine ⟨⟨_, _, _, rfl⟩, ?_⟩ | (refine sbm_loop ?_; rw [efr]) | refine sbm_cells ?_ | refine vmL.cons ?_ ?_ | exact vmL.nil | refine vm_own rfl rfl rfl ?_)
      refine vm_bool ?_
      simp only [allK]
      simp [*]
    · have e := pk (by omega)
      rw [if_neg (by assumption)] at e
      refine ⟨k + 1, by omega, by omega, ?_⟩
      refine ⟨[], rfl, ?_, ?_⟩ <;> repeat' (first | exact trivial | exact vm_p | exact vm_ptr rfl rfl rfl | exact vm_yld rfl rfl | exact vm_own rfl rfl rfl rfl | exact vm_own rfl rfl (by omega) (by omega) | exact vm_int (by omega) | exact vm_nil rfl | exact sbm_cells vmL_p | exact sbm_row rfl (fun _ _ => vm_p) | refine ⟨⟨_, rfl, ?_⟩, ?_⟩ | refine ⟨⟨_, _, _, rfl⟩, ?_⟩ | (refine sbm_loop ?_; rw [efr]) | refine sbm_cells ?_ | refine vmL.cons ?_ ?_ | exact vmL.nil | refine vm_own rfl rfl rfl ?_)
      refine vm_bool ?_
      simp only [allK, e]
      simp [*]
    · refine ⟨k + 1, by omega, by omega, ?_⟩
      refine ⟨[], rfl, ?_, ?_⟩ <;> repeat' (first | exact trivial | exact vm_p | exact vm_ptr rfl rfl rfl | exact vm_yld rfl rfl | exact vm_own rfl rfl rfl rfl | exact vm_own rfl rfl (by omega) (by omega) | exact vm_int (by omega) | exact vm_nil rfl | exact sbm_cells vmL_p | exact sbm_row rfl (fun _ _ => vm_p) | refine ⟨⟨_, rfl, ?_⟩, ?_⟩ | refine ⟨⟨_, _, _, rfl⟩, ?_⟩ | (refine sbm_loop ?_; rw [efr]) | refine sbm_cells ?_ | refine vmL.cons ?_ ?_ | exact vmL.nil | refine vm_own rfl rfl rfl ?_)
      refine vm_bool ?_
      simp only [allK]
      simp [*]
    · exact ret0 vm_p
    · obtain ⟨t1, t2, t3⟩ := tl (by omega)
      exact ret0 (vm_bool (decide_eq_true t3))
    all_goals
      exfalso
      obtain rfl : k = l.length := by omega
      first
        | exact absurd am (by assumption)
        | (obtain ⟨t1, t2, t3⟩ := tl (by omega)
           omega)
end Go.Proofs.Ytmiphilcplojnaa
