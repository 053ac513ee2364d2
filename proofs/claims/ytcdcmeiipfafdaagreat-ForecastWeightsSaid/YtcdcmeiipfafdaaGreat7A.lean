/-
  In plain words: errors in turn, fractions in lowest terms, records, queries and counts of chapter 7.
  Conditions: none.
-/
import Derived.Test.YtcdcmeiipfafdaaGreatFu
namespace Go.Proofs.YtcdcmeiipfafdaaGreat
open Go.RowKit Fx
/-! ### Errors in turn -/
def findErr {α : Type} (f : α → Int) : List α → Int → Int × Int
  | [], _ => (0, 0)
  | x :: l, k => if f x ≠ 0 then (k, f x) else findErr f l (k + 1)
theorem findErr_hit {α : Type} (f : α → Int) (d : α) : ∀ (l : List α) (k : Nat) (s : Int), (∀ i, i < k → f (l.getD i d) = 0) → k < l.length → f (l.getD k d) ≠ 0 → findErr f l s = (s + k, f (l.getD k d))
  | [], k, s, _, h, _ => by simp at h
  | x :: l, 0, s, _, _, h => by
    have h' : f x ≠ 0 := by simpa using h
    simp [findErr, h']
  | x :: l, k + 1, s, h0, h1, h2 => by
    have hx : f x = 0 := by simpa using h0 0 (by omega)
    have := findErr_hit f d l k (s + 1) (fun i hi => by simpa using h0 (i + 1) (by omega)) (by simpa using h1) (by simpa using h2)
    simp only [findErr, hx, ne_eq, not_true_eq_false, if_false, this]
    simp; omega
theorem findErr_none {α : Type} (f : α → Int) (d : α) : ∀ (l : List α) (s : Int), (∀ i, i < l.length → f (l.getD i d) = 0) → findErr f l s = (0, 0)
  | [], s, _ => rfl
  | x :: l, s, h => by
    have hx : f x = 0 := by simpa using h 0 (by simp)
    simp only [findErr, hx, ne_eq, not_true_eq_false, if_false]
    exact findErr_none f d l (s + 1) fun i hi => by simpa using h (i + 1) (by simpa using hi)
theorem findErr_z {α : Type} (f : α → Int) (d : α) : ∀ (l : List α) (s : Int), (findErr f l s).2 = 0 → ∀ i, i < l.length → f (l.getD i d) = 0
  | [], _, _, i, hi => by simp at hi
  | x :: l, s, h, i, hi => by
    unfold findErr at h
    split at h
    · rename_i h0; exact absurd h h0
    · rename_i h0
      cases i with
      | zero => simpa using h0
      | succ i => simpa using findErr_z f d l (s + 1) h i (by simpa using hi)
def firstErr : List Int → Int
  | [] => 0
  | e :: l => if e ≠ 0 then e else firstErr l
theorem firstErr_hit : ∀ (l : List Int) (k : Nat), (∀ i, i < k → l.getD i 0 = 0) → k < l.length → l.getD k 0 ≠ 0 → firstErr l = l.getD k 0
  | [], k, _, h, _ => by simp at h
  | x :: l, 0, _, _, h => by
    have h' : x ≠ 0 := by simpa using h
    simp [firstErr, h']
  | x :: l, k + 1, h0, h1, h2 => by
    have hx : x = 0 := by simpa using h0 0 (by omega)
    have := firstErr_hit l k (fun i hi => by simpa using h0 (i + 1) (by omega)) (by simpa using h1) (by simpa using h2)
    simp only [firstErr, hx, ne_eq, not_true_eq_false, if_false, this]
    simp
theorem firstErr_none : ∀ (l : List Int), (∀ i, i < l.length → l.getD i 0 = 0) → firstErr l = 0
  | [], _ => rfl
  | x :: l, h => by
    have hx : x = 0 := by simpa using h 0 (by simp)
    simp only [firstErr, hx, ne_eq, not_true_eq_false, if_false]
    exact firstErr_none l fun i hi => by simpa using h (i + 1) (by simpa using hi)
theorem first_two {a b : Int} : firstErr [a, b] = if a ≠ 0 then a else b := by
  simp only [firstErr]; grind
theorem first_three {a b c : Int} : firstErr [a, b, c] = if a ≠ 0 then a else if b ≠ 0 then b else c := by
  simp only [firstErr]; grind
theorem vm_pair {S : Vw} {a b : Int} {p : Int × Int} (h : (a, b) = p) : vm S (.tup [I a, I b]) (.tup [I p.1, I p.2]) := by subst h; exact vm_p
theorem sbm_snoc {S : Vw} {α : Type} {f : α → V} {d : α} {l : List α} {v : α} {x : V} {sz : Nat} {t : TypeId} [h : ∀ a, IsPure (f a)] (hx : vm S x (f v)) :
    sbm S (.row sz (l.length + 1) (appF l.length (fun i => f (l.getD i d)) (litF [x])) t) (.row sz (l ++ [v]).length (fun i => f ((l ++ [v]).getD i d)) t) := by
  refine sbm_row (by simp) fun i hi => ?_
  rw [List.length_append] at hi
  refine vm_snoc (e' := fun i => f ((l ++ [v]).getD i d)) hi (fun j hj => ?_) ?_
  · have : (l ++ [v]).getD j d = l.getD j d := by
      rw [List.getD_eq_getElem?_getD, List.getD_eq_getElem?_getD, List.getElem?_append_left hj]
    show vm S _ (f ((l ++ [v]).getD j d))
    rw [this]; exact vm_p
  · have : (l ++ [v]).getD l.length d = v := by
      rw [List.getD_eq_getElem?_getD, List.getElem?_append_right (Nat.le_refl _)]; simp
    show vm S _ (f ((l ++ [v]).getD l.length d))
    rw [this]; exact hx
/-! ### Fractions in lowest terms -/
def low (n d : Int) : Int × Int := (n / (Int.gcd n d : Int), d / (Int.gcd n d : Int))
theorem low_split {n d : Int} (h : 0 < d) : ∃ g : Int, 0 < g ∧ g = Int.gcd n d ∧ n = g * (low n d).1 ∧ d = g * (low n d).2 ∧ 0 < (low n d).2 ∧ Int.gcd (low n d).1 (low n d).2 = 1 := by
  have hg : 0 < Int.gcd n d := Int.gcd_pos_of_ne_zero_right n (by omega)
  have e1 : n = (Int.gcd n d : Int) * (low n d).1 := (Int.mul_ediv_cancel' (Int.gcd_dvd_left n d)).symm
  have e2 : d = (Int.gcd n d : Int) * (low n d).2 := (Int.mul_ediv_cancel' (Int.gcd_dvd_right n d)).symm
  refine ⟨Int.gcd n d, by omega, rfl, e1, e2, ?_, Int.gcd_ediv_gcd_ediv_gcd hg⟩
  have h2 : 0 < (Int.gcd n d : Int) * (low n d).2 := by rw [← e2]; exact h
  exact Int.pos_of_mul_pos_right h2 (by omega)
theorem low_td1 (n d : Int) : n.tdiv (Int.gcd n d : Int) = (low n d).1 := Int.tdiv_eq_ediv_of_dvd (Int.gcd_dvd_left n d)
theorem low_td2 (n d : Int) : d.tdiv (Int.gcd n d : Int) = (low n d).2 := Int.tdiv_eq_ediv_of_dvd (Int.gcd_dvd_right n d)
theorem gcd_step (a b : Int) : Int.gcd b (a.tmod b) = Int.gcd a b := by
  rw [Int.gcd_eq_natAbs_gcd_natAbs, Int.gcd_eq_natAbs_gcd_natAbs, Int.natAbs_tmod, Nat.gcd_comm a.natAbs]
  exact (Nat.gcd_comm _ _).trans (Nat.gcd_rec _ _).symm
theorem low_uniq {a b c e : Int} (hb : 0 < b) (he : 0 < e) (h1 : Int.gcd a b = 1) (h2 : Int.gcd c e = 1) (h : a * e = c * b) : a = c ∧ b = e := by
  have d1 : b ∣ e := by
    have : b ∣ a * e := ⟨c, by rw [h, Int.mul_comm]⟩
    have t : Int.gcd b (a * e) = Int.gcd b e := Int.gcd_mul_right_right_of_gcd_eq_one (by rw [Int.gcd_comm]; exact h1)
    have q := Int.gcd_eq_natAbs_left this
    rw [t] at q
    exact Int.gcd_eq_natAbs_left_iff_dvd.1 q
  have d2 : e ∣ b := by
    have : e ∣ c * b := ⟨a, by rw [← h, Int.mul_comm]⟩
    have t : Int.gcd e (c * b) = Int.gcd e b := Int.gcd_mul_right_right_of_gcd_eq_one (by rw [Int.gcd_comm]; exact h2)
    have q := Int.gcd_eq_natAbs_left this
    rw [t] at q
    exact Int.gcd_eq_natAbs_left_iff_dvd.1 q
  have eb : b = e := Int.dvd_antisymm (by omega) (by omega) d1 d2
  subst eb
  exact ⟨Int.eq_of_mul_eq_mul_right (by omega) h, rfl⟩
theorem low_eq {n d m k : Int} (hd : 0 < d) (hk : 0 < k) (h : n * k = m * d) : low n d = low m k := by
  obtain ⟨g, g0, _, e1, e2, p2, c⟩ := low_split (n := n) hd
  obtain ⟨g', g0', _, e1', e2', p2', c'⟩ := low_split (n := m) hk
  have : (low n d).1 * (low m k).2 = (low m k).1 * (low n d).2 := by
    have h3 : (g * g') * ((low n d).1 * (low m k).2) = (g * g') * ((low m k).1 * (low n d).2) := by
      have : n * k = (g * (low n d).1) * (g' * (low m k).2) := by rw [← e1, ← e2']
      have : m * d = (g' * (low m k).1) * (g * (low n d).2) := by rw [← e1', ← e2]
      grind
    exact Int.eq_of_mul_eq_mul_left (by have := Int.mul_pos g0 g0'; omega) h3
  have := low_uniq p2 p2' c c' this
  exact Prod.ext this.1 this.2
theorem low_le {n d m k : Int} (hd : 0 < d) (hk : 0 < k) : (low n d).1 * (low m k).2 ≤ (low m k).1 * (low n d).2 ↔ n * k ≤ m * d := by
  obtain ⟨g, g0, _, e1, e2, p2, c⟩ := low_split (n := n) hd
  obtain ⟨g', g0', _, e1', e2', p2', c'⟩ := low_split (n := m) hk
  have gg := Int.mul_pos g0 g0'
  have q1 : n * k = (g * g') * ((low n d).1 * (low m k).2) := by
    have : n * k = (g * (low n d).1) * (g' * (low m k).2) := by rw [← e1, ← e2']
    grind
  have q2 : m * d = (g * g') * ((low m k).1 * (low n d).2) := by
    have : m * d = (g' * (low m k).1) * (g * (low n d).2) := by rw [← e1', ← e2]
    grind
  rw [q1, q2]
  exact ⟨fun h => Int.mul_le_mul_of_nonneg_left h (by omega), fun h => Int.le_of_mul_le_mul_left h gg⟩
/-- A fraction that is in lowest terms already. -/
theorem low_self {n d : Int} (_hd : 0 < d) (h : Int.gcd n d = 1) : low n d = (n, d) := by
  unfold low; rw [h]; simp
theorem low_size {n d : Int} (hd : 0 < d) : (low n d).2 ≤ d ∧ (0 ≤ n → 0 ≤ (low n d).1 ∧ (low n d).1 ≤ n) ∧ (n ≤ 0 → n ≤ (low n d).1 ∧ (low n d).1 ≤ 0) := by
  obtain ⟨g, g0, _, e1, e2, p2, c⟩ := low_split (n := n) hd
  generalize low n d = x at *
  have one : ∀ y : Int, 0 ≤ y → y ≤ g * y := fun y hy => by
    have := Int.mul_le_mul_of_nonneg_right (show (1 : Int) ≤ g by omega) hy
    omega
  refine ⟨by have := one x.2 (by omega); omega, fun h => ?_, fun h => ?_⟩
  · have h0 : 0 ≤ x.1 := by
      rcases Int.lt_or_le x.1 0 with h3 | h3
      · have := Int.mul_neg_of_pos_of_neg g0 h3; omega
      · exact h3
    have := one x.1 h0
    omega
  · have h0 : x.1 ≤ 0 := by
      rcases Int.lt_or_le 0 x.1 with h3 | h3
      · have := Int.mul_pos g0 h3; omega
      · exact h3
    have := one (-x.1) (by omega)
    have : g * -x.1 = -(g * x.1) := by grind
    omega
theorem low_lt {n d : Int} (hd : 0 < d) (h : n < d) : (low n d).1 < (low n d).2 := by
  obtain ⟨g, g0, _, e1, e2, p2, c⟩ := low_split (n := n) hd
  generalize low n d = x at *
  rcases Int.lt_or_le x.1 x.2 with h3 | h3
  · exact h3
  · have := Int.mul_le_mul_of_nonneg_left h3 (show 0 ≤ g by omega)
    omega
theorem low_idem {n d : Int} (hd : 0 < d) : low (low n d).1 (low n d).2 = low n d := by
  obtain ⟨g, g0, _, e1, e2, p2, c⟩ := low_split (n := n) hd
  exact low_self p2 c
/-! ### Records -/
structure Rc where
  y : Int
  m : Int
  h : Int
  a : Int
  lo : Int
  hi : Int
@[reducible] def eRc (r : Rc) : V := .agg [I r.y, I r.m, I r.h, I r.a, I r.lo, I r.hi]
def rc0 : Rc := ⟨0, 0, 0, 0, 0, 0⟩
@[reducible] def eRcs (l : List Rc) : V := .sl 6 l.length fun i => eRc (l.getD i rc0)
structure Qr where
  m : Int
  h : Int
  lo : Int
  hi : Int
  f : Int
@[reducible] def eQr (q : Qr) : V := .agg [I q.m, I q.h, I q.lo, I q.hi, I q.f]
@[reducible] def eP (p : Int × Int) : V := .agg [I p.1, I p.2]
@[reducible] def ePs (l : List (Int × Int)) : V := .sl 2 l.length fun i => eP (l.getD i (0, 0))
def rangeE (lo hi : Int) : Int := if ¬ ((0 ≤ lo ∧ lo ≤ 3000) ∧ 0 ≤ hi ∧ hi ≤ 3000) then 2 else if hi < lo then 9 else 0
def recE (r : Rc) : Int := if ¬ ((1 ≤ r.y ∧ r.y ≤ 3000) ∧ (1 ≤ r.m ∧ r.m ≤ 12) ∧ (0 ≤ r.h ∧ r.h ≤ 23) ∧ 0 ≤ r.a ∧ r.a ≤ 9) then 2 else rangeE r.lo r.hi
def recsC (l : List Rc) : Int × Int := if 400 < l.length then (0, 8) else findErr recE l 0
def recsE (l : List Rc) : Int := (recsC l).2
def queryE (q : Qr) : Int := if ¬ ((1 ≤ q.m ∧ q.m ≤ 12) ∧ (0 ≤ q.h ∧ q.h ≤ 23) ∧ (0 ≤ q.lo ∧ q.lo ≤ 9) ∧ (0 ≤ q.hi ∧ q.hi ≤ 9) ∧ 0 ≤ q.f ∧ q.f ≤ 3000) then 2 else if q.hi < q.lo then 9 else 0
def cntB (q : Qr) (r : Rc) : Bool := decide (r.m = q.m ∧ r.h = q.h ∧ q.lo ≤ r.a ∧ r.a ≤ q.hi)
def inB (f : Int) (p : Int × Int) : Bool := decide (p.1 ≤ f ∧ f ≤ p.2)
/-- The usable ranges of the records that count, of the first k. -/
def selK (q : Qr) (l : List Rc) : Nat → List (Int × Int)
  | 0 => []
  | k + 1 => if cntB q (l.getD k rc0) = true then selK q l k ++ [((l.getD k rc0).lo, (l.getD k rc0).hi)] else selK q l k
def sel (q : Qr) (l : List Rc) : List (Int × Int) := selK q l l.length
theorem selK_len (q : Qr) (l : List Rc) : ∀ k, (selK q l k).length ≤ k
  | 0 => Nat.le_refl _
  | k + 1 => by
    have := selK_len q l k
    simp only [selK]
    split
    · simp; omega
    · omega
theorem selK_yes {q : Qr} {l : List Rc} {k : Nat} (h : cntB q (l.getD k rc0) = true) : selK q l (k + 1) = selK q l k ++ [((l.getD k rc0).lo, (l.getD k rc0).hi)] := if_pos h
theorem selK_no {q : Qr} {l : List Rc} {k : Nat} (h : ¬ cntB q (l.getD k rc0) = true) : selK q l (k + 1) = selK q l k := if_neg h
def numK (L : List (Int × Int)) (f : Int) : Nat → Nat
  | 0 => 0
  | k + 1 => if inB f (L.getD k (0, 0)) = true then numK L f k + 1 else numK L f k
def num (L : List (Int × Int)) (f : Int) : Nat := numK L f L.length
theorem numK_le (L : List (Int × Int)) (f : Int) : ∀ k, numK L f k ≤ k
  | 0 => Nat.le_refl _
  | k + 1 => by
    have := numK_le L f k
    simp only [numK]
    split <;> omega
theorem recs_val {l : List Rc} (h : recsE l = 0) : l.length ≤ 400 ∧ ∀ i, i < l.length → recE (l.getD i rc0) = 0 := by
  unfold recsE recsC at h
  split at h
  · simp at h
  · exact ⟨by omega, fun i hi => findErr_z recE rc0 l 0 h i hi⟩
theorem selK_in {q : Qr} {l : List Rc} {p : Int × Int} : ∀ k, k ≤ l.length → p ∈ selK q l k → ∃ i, i < k ∧ cntB q (l.getD i rc0) = true ∧ p = ((l.getD i rc0).lo, (l.getD i rc0).hi)
  | 0, _, h => by simp [selK] at h
  | k + 1, hk, h => by
    by_cases hc : cntB q (l.getD k rc0) = true
    · rw [selK_yes hc, List.mem_append] at h
      rcases h with h | h
      · obtain ⟨i, h1, h2, h3⟩ := selK_in k (by omega) h
        exact ⟨i, by omega, h2, h3⟩
      · exact ⟨k, by omega, hc, by simpa using h⟩
    · rw [selK_no hc] at h
      obtain ⟨i, h1, h2, h3⟩ := selK_in k (by omega) h
      exact ⟨i, by omega, h2, h3⟩
/-- The ranges of valid records. -/
theorem sel_val {q : Qr} {l : List Rc} (h : recsE l = 0) : (sel q l).length ≤ 400 ∧ ∀ i, i < (sel q l).length → 0 ≤ ((sel q l).getD i (0, 0)).1 ∧ ((sel q l).getD i (0, 0)).1 ≤ ((sel q l).getD i (0, 0)).2 ∧ ((sel q l).getD i (0, 0)).2 ≤ 3000 := by
  obtain ⟨h1, h2⟩ := recs_val h
  have h3 := selK_len q l l.length
  refine ⟨by unfold sel; omega, fun i hi => ?_⟩
  obtain ⟨j, j1, _, j2⟩ := selK_in l.length (Nat.le_refl _) (show (sel q l).getD i (0, 0) ∈ selK q l l.length by
    rw [List.getD_eq_getElem?_getD, List.getElem?_eq_getElem hi]
    exact List.getElem_mem hi)
  have h4 := h2 j j1
  rw [j2]
  unfold recE rangeE at h4
  grind
end Go.Proofs.YtcdcmeiipfafdaaGreat
