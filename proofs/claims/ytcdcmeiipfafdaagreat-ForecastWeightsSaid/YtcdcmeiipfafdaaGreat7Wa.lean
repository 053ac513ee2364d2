/-
  Chapter 7 (plain): tables with reports, bins and scores are sums over the reports: their order and parts do not matter.
  Conditions: none.
-/
import Derived.Test.YtcdcmeiipfafdaaGreat7Ri
namespace Go.Proofs.YtcdcmeiipfafdaaGreat
open Go.RowKit Fx
/-! ### Sums over reports -/
def smR (f : Rp → Int) : List Rp → Int
  | [] => 0
  | r :: l => f r + smR f l
theorem smR_app (f : Rp → Int) : ∀ l k : List Rp, smR f (l ++ k) = smR f l + smR f k
  | [], k => by simp [smR]
  | r :: l, k => by show f r + smR f (l ++ k) = f r + smR f l + smR f k; rw [smR_app f l k]; omega
theorem smR_rev (f : Rp → Int) : ∀ l : List Rp, smR f l.reverse = smR f l
  | [] => rfl
  | r :: l => by
    rw [List.reverse_cons, smR_app, smR_rev f l]
    show _ + (f r + 0) = f r + _
    omega
theorem takeR {l : List Rp} {i : Nat} (h : i < l.length) : l.take (i + 1) = l.take i ++ [l.getD i rp0] := by
  rw [List.take_add_one, List.getD_eq_getElem?_getD]
  simp [List.getElem?_eq_getElem h]
theorem smR_take {f : Rp → Int} {l : List Rp} {i : Nat} (h : i < l.length) : smR f (l.take (i + 1)) = smR f (l.take i) + f (l.getD i rp0) := by
  rw [takeR h, smR_app]
  show _ + (f _ + 0) = _
  omega
theorem smR_nn {f : Rp → Int} : ∀ {l : List Rp}, (∀ r ∈ l, 0 ≤ f r) → 0 ≤ smR f l
  | [], _ => Int.le_refl _
  | r :: l, h => by
    have := h r (by simp)
    have := smR_nn (f := f) (l := l) fun x hx => h x (by simp [hx])
    show 0 ≤ f r + _
    omega
theorem smR_le {f g : Rp → Int} : ∀ {l : List Rp}, (∀ r ∈ l, f r ≤ g r) → smR f l ≤ smR g l
  | [], _ => Int.le_refl _
  | r :: l, h => by
    have := h r (by simp)
    have := smR_le (f := f) (g := g) (l := l) fun x hx => h x (by simp [hx])
    show f r + _ ≤ g r + _
    omega
theorem smR_eq {f g : Rp → Int} : ∀ {l : List Rp}, (∀ r ∈ l, f r = g r) → smR f l = smR g l
  | [], _ => rfl
  | r :: l, h => by
    show f r + _ = g r + _
    rw [h r (by simp), smR_eq (l := l) fun x hx => h x (by simp [hx])]
theorem smR_add (f g : Rp → Int) : ∀ l : List Rp, smR (fun r => f r + g r) l = smR f l + smR g l
  | [] => rfl
  | r :: l => by show f r + g r + _ = f r + _ + (g r + _); rw [smR_add f g l]; omega
theorem mem_getR {l : List Rp} {i : Nat} (h : i < l.length) : l.getD i rp0 ∈ l := by
  rw [List.getD_eq_getElem?_getD, List.getElem?_eq_getElem h]
  exact List.getElem_mem h
theorem get_memR {l : List Rp} {r : Rp} (h : r ∈ l) : ∃ i, i < l.length ∧ l.getD i rp0 = r := by
  obtain ⟨i, hi, rfl⟩ := List.mem_iff_getElem.1 h
  exact ⟨i, hi, by rw [List.getD_eq_getElem?_getD, List.getElem?_eq_getElem hi]; rfl⟩
/-! ### Tables -/
def clT (w : Int) (h c : Nat) (r : Rp) : Int := if r.h = h ∧ r.c = c then r.w * w else 0
def clU (w : Int) (h c : Nat) (r : Rp) : Int := if r.h = h ∧ r.c = c then (if r.heard = true then r.w * w else 0) else 0
theorem blT_sum {t : Tb} {l : List Rp} {w : Int} {h c : Nat} : ∀ i : Nat, i ≤ l.length → blT t l w i h c = (((t.hs.getD h []).getD c (0, 0)).1 + smR (clU w h c) (l.take i), ((t.hs.getD h []).getD c (0, 0)).2 + smR (clT w h c) (l.take i))
  | 0, _ => by
    show (t.hs.getD h []).getD c (0, 0) = _
    simp [smR]
  | i + 1, hi => by
    have ih := blT_sum (t := t) (l := l) (w := w) (h := h) (c := c) i (by omega)
    rw [smR_take (by omega), smR_take (by omega)]
    by_cases q : (l.getD i rp0).h = h ∧ (l.getD i rp0).c = c
    · rw [blT_hit q.1 q.2, ih]
      unfold clU clT
      rw [if_pos q, if_pos q]
      dsimp only
      split <;> (apply Prod.ext <;> dsimp only <;> omega)
    · have e : blT t l w (i + 1) h c = blT t l w i h c := if_neg q
      rw [e, ih]
      unfold clU clT
      rw [if_neg q, if_neg q]
      simp
theorem blT_all {t : Tb} {l : List Rp} {w : Int} {h c : Nat} : blT t l w l.length h c = (((t.hs.getD h []).getD c (0, 0)).1 + smR (clU w h c) l, ((t.hs.getD h []).getD c (0, 0)).2 + smR (clT w h c) l) := by
  rw [blT_sum l.length (Nat.le_refl _), List.take_length]
theorem blTb_congr {t s : Tb} {l k : List Rp} {w : Int} (hf : t.fr = s.fr) (h : ∀ h, h < 24 → ∀ c, c < t.fr.length → blT t l w l.length h c = blT s k w k.length h c) : blTb t l w = blTb s k w := by
  unfold blTb
  rw [← hf]
  congr 1
  refine List.map_congr_left fun a ha => List.map_congr_left fun b hb => h a (by simpa using ha) b (by simpa using hb)
theorem blTb_rev (t : Tb) (l : List Rp) (w : Int) : blTb t l.reverse w = blTb t l w := blTb_congr rfl fun h _ c _ => by rw [blT_all, blT_all, smR_rev, smR_rev]
theorem blTb_part (t : Tb) (a b : List Rp) (w : Int) : blTb (blTb t a w) b w = blTb t (a ++ b) w := blTb_congr rfl fun h hh c hc => by
  rw [blT_all, blT_all, smR_app, smR_app, blTb_at hh (by rw [blTb_len hh]; exact hc), blT_all]
  dsimp only
  apply Prod.ext <;> dsimp only <;> omega
theorem rpE_all {n : Nat} {l : List Rp} (hr : ∀ i, i < l.length → rpE n (l.getD i rp0) = 0) : ∀ r ∈ l, rpE n r = 0 := fun r h => by
  obtain ⟨i, hi, rfl⟩ := get_memR h
  exact hr i hi
theorem rpE_idx {n : Nat} {l : List Rp} (h : ∀ r ∈ l, rpE n r = 0) : ∀ i, i < l.length → rpE n (l.getD i rp0) = 0 := fun i hi => h _ (mem_getR hi)
theorem rpsE_ok {n : Nat} {l : List Rp} (h : ∀ r ∈ l, rpE n r = 0) (hl : l.length ≤ 100) : rpsE n l = 0 := by
  unfold rpsE
  rw [if_neg (by omega), findErr_none (rpE n) rp0 l 0 (rpE_idx h)]
theorem inLim_rev {t : Tb} {l : List Rp} {w : Int} : inLim t l.reverse w l.reverse.length ↔ inLim t l w l.length := by
  unfold inLim
  constructor
  · intro k h hh c hc
    have := k h hh c hc
    rw [blT_all, smR_rev, smR_rev] at this
    rw [blT_all]; exact this
  · intro k h hh c hc
    have := k h hh c hc
    rw [blT_all] at this
    rw [blT_all, smR_rev, smR_rev]; exact this
/-! ### Bins and scores -/
def bnT (t : Tb) (b : Nat) (r : Rp) : Int := if binV t r = b then r.w else 0
def bnU (t : Tb) (b : Nat) (r : Rp) : Int := if binV t r = b then (if r.heard = true then r.w else 0) else 0
theorem cal_sum {t : Tb} {l : List Rp} {b : Nat} : ∀ i : Nat, i ≤ l.length → calT t l i b = (smR (bnU t b) (l.take i), smR (bnT t b) (l.take i))
  | 0, _ => rfl
  | i + 1, hi => by
    have ih := cal_sum (t := t) (l := l) (b := b) i (by omega)
    rw [smR_take (by omega), smR_take (by omega)]
    show (if _ then _ else _) = _
    by_cases q : binV t (l.getD i rp0) = b
    · rw [if_pos q, ih]
      unfold bnU bnT
      rw [if_pos q, if_pos q]
      dsimp only
      split <;> simp
    · rw [if_neg q, ih]
      unfold bnU bnT
      rw [if_neg q, if_neg q]
      simp
theorem cal_all {t : Tb} {l : List Rp} {b : Nat} : calT t l l.length b = (smR (bnU t b) l, smR (bnT t b) l) := by rw [cal_sum l.length (Nat.le_refl _), List.take_length]
theorem cal_rev {t : Tb} {l : List Rp} {b : Nat} : calT t l.reverse l.reverse.length b = calT t l l.length b := by rw [cal_all, cal_all, smR_rev, smR_rev]
theorem calC_rev {t : Tb} {l : List Rp} : calC t l.reverse l.reverse.length = calC t l l.length := by
  unfold calC
  rw [cal_rev, cal_rev, cal_rev, cal_rev, cal_rev]
def hW (r : Rp) : Int := if r.heard = true then r.w else 0
theorem five_bins {t : Tb} : ∀ {l : List Rp}, (∀ r ∈ l, binV t r < 5) → smR (bnT t 0) l + smR (bnT t 1) l + smR (bnT t 2) l + smR (bnT t 3) l + smR (bnT t 4) l = smR (fun r => r.w) l ∧ smR (bnU t 0) l + smR (bnU t 1) l + smR (bnU t 2) l + smR (bnU t 3) l + smR (bnU t 4) l = smR hW l
  | [], _ => ⟨rfl, rfl⟩
  | r :: l, h => by
    obtain ⟨h1, h2⟩ := five_bins (t := t) (l := l) fun x hx => h x (by simp [hx])
    have hb := h r (by simp)
    obtain ⟨b, eb⟩ : ∃ b, binV t r = b := ⟨_, rfl⟩
    rw [eb] at hb
    have b5 : b = 0 ∨ b = 1 ∨ b = 2 ∨ b = 3 ∨ b = 4 := by omega
    constructor
    · show (bnT t 0 r + _) + (bnT t 1 r + _) + (bnT t 2 r + _) + (bnT t 3 r + _) + (bnT t 4 r + _) = r.w + _
      unfold bnT
      rw [eb]
      rcases b5 with rfl | rfl | rfl | rfl | rfl <;> simp <;> unfold bnT at h1 <;> omega
    · show (bnU t 0 r + _) + (bnU t 1 r + _) + (bnU t 2 r + _) + (bnU t 3 r + _) + (bnU t 4 r + _) = hW r + _
      unfold bnU hW
      rw [eb]
      unfold bnU hW at h2
      rcases b5 with rfl | rfl | rfl | rfl | rfl <;> simp <;> omega
theorem scS_sum {t : Tb} {l : List Rp} : ∀ i : Nat, i ≤ l.length → scS t l i = smR (fun r => r.w * farV t r * farV t r) (l.take i)
  | 0, _ => rfl
  | i + 1, hi => by
    rw [smR_take (by omega), ← scS_sum i (by omega)]
    rfl
theorem scW_sum {l : List Rp} : ∀ i : Nat, i ≤ l.length → scW l i = smR (fun r => r.w) (l.take i)
  | 0, _ => rfl
  | i + 1, hi => by
    rw [smR_take (by omega), ← scW_sum i (by omega)]
    rfl
theorem scS_all {t : Tb} {l : List Rp} : scS t l l.length = smR (fun r => r.w * farV t r * farV t r) l := by rw [scS_sum l.length (Nat.le_refl _), List.take_length]
theorem scW_all {l : List Rp} : scW l l.length = smR (fun r => r.w) l := by rw [scW_sum l.length (Nat.le_refl _), List.take_length]
theorem gap_all {t : Tb} {l : List Rp} : gapE t l = if (∀ r ∈ l, (cR t r).2 ≠ 0) then 0 else 14 := by
  rcases gap_cases t l l.length (Nat.le_refl _) with h | ⟨b, b1, b2, b3⟩
  · rw [gapE_no h, if_pos]
    intro r hr
    obtain ⟨i, hi, rfl⟩ := get_memR hr
    exact h i hi
  · rw [gapE_hit b1 b2 b3, if_neg]
    intro k
    exact k _ (mem_getR b1) b2
theorem gap_rev {t : Tb} {l : List Rp} : gapE t l.reverse = gapE t l := by
  rw [gap_all, gap_all]
  simp only [List.mem_reverse]
end Go.Proofs.YtcdcmeiipfafdaaGreat
