/-
  Chapter 7: rows of rows of one's own: helpers.
  Conditions: none.
-/
import Derived.Test.YtcdcmeiipfafdaaGreat7Rs
import Derived.Test.YtcdcmeiipfafdaaGreatFu
namespace Go.Proofs.YtcdcmeiipfafdaaGreat
open Go.RowKit Fx
/-- The outer row: the row of hour j is the block o + j. -/
def oG (o n : Nat) (j : Nat) : V := .own (o + j) 2 0 n
/-- The first place and another one are exchanged. -/
def sw (h p : Nat) : Nat := if p = 0 then h else if p = h then 0 else p
def oS (o n h : Nat) (j : Nat) : V := .own (o + sw h j) 2 0 n
theorem sw_self (h : Nat) : sw h h = 0 := by
  unfold sw
  by_cases c : h = 0
  · rw [if_pos c, c]
  · rw [if_neg c, if_pos rfl]
theorem oS_at {o n h j : Nat} (e : j = h) : oS o n h j = .own o 2 0 n := by
  subst e
  unfold oS
  rw [sw_self]
  rfl
/-- The rows that are filled after i hours. -/
def kN (i n h : Nat) : Nat := if h < i then n else 0
theorem row_k {S : Vw} {i n h : Nat} {e : Nat → V} {ty : TypeId} (k : h ≠ i) (he : ∀ c, vm S (e c) (e c)) : sbm S (.row 2 (kN i n h) e ty) (.row 2 (kN (i + 1) n h) e ty) := by
  refine sbm_row ?_ fun c _ => he c
  unfold kN
  by_cases c : h < i
  · rw [if_pos c, if_pos (by omega)]
  · rw [if_neg c, if_neg (by omega)]
theorem row_kc {S : Vw} {i n h : Nat} {f : Nat → Int × Int} {ty : TypeId} (k : h ≠ i) : sbm S (.row 2 (kN i n h) (fun c => eP (f c)) ty) (.row 2 (kN (i + 1) n h) (fun c => eP (f c)) ty) := row_k k fun _ => vm_p
theorem row_k24 {S : Vw} {n h : Nat} {f g : Nat → Int × Int} {ty : TypeId} (k : h < 24) (e : f = g) : sbm S (.row 2 (kN 24 n h) (fun c => eP (f c)) ty) (.row 2 n (fun c => eP (g c)) ty) := by
  subst e
  exact sbm_row (if_pos k) fun _ _ => vm_p
theorem row_new {S : Vw} {i n m : Nat} {e0 : Nat → V} {f g : Nat → Int × Int} {ty : TypeId} (hm : 0 + m = n) (he : ∀ c, f c = g c) : sbm S (.row 2 (0 + m) (appF 0 e0 (fun j => eP (f j))) ty) (.row 2 (kN (i + 1) n i) (fun c => eP (g c)) ty) := by
  refine sbm_row ?_ fun c hc => ?_
  · unfold kN
    rw [if_pos (by omega), hm]
  · show vm S (if c < 0 then _ else _) _
    rw [if_neg (by omega), Nat.sub_zero]
    show vm S (eP (f c)) _
    rw [he c]
    exact vm_p
theorem row_out {S : Vw} {o n i b m : Nat} {ty : TypeId} (h : ∀ j, j < i → vm S (oG o n j) (oG o n j)) (hb : vm S (.own b 2 0 m) (oG o n i)) : sbm S (.row 1 (i + 1) (appF i (oG o n) (litF [.own b 2 0 m])) ty) (.row 1 (i + 1) (oG o n) ty) := by
  refine sbm_row rfl fun j hj => ?_
  unfold appF
  by_cases c : j < i
  · rw [if_pos c]
    exact h j c
  · have : j = i := by omega
    subst this
    rw [if_neg c, Nat.sub_self]
    exact hb
theorem sget_ne {b k : Nat} {s : Option Nat} {l : Sig} (h : b ≠ k) : sget ((b, s) :: l) k = sget l k := by
  show (match nbeq b k with | true => s | false => sget l k) = _
  rcases nbeq_cases b k with ⟨_, e⟩ | ⟨e, _⟩
  · exact absurd e h
  · rw [e]
theorem vm_oG {H H' : SW} {o n j a b x y : Nat} (hj : o + j ≠ a) (hk : o + j ≠ b) (hn : Nat.blt (o + j) H'.n = true) : vm { H := H, H' := H', σ := [(a, some x), (b, some y)] } (oG o n j) (oG o n j) := vm_own (by rw [sget_ne (Ne.symm hj), sget_ne (Ne.symm hk)]) hn rfl rfl
theorem row_q {S : Vw} {t : Tb} {l : List Rp} {w : Int} {i n p q : Nat} {ty : TypeId} (e : p = q) : sbm S (.row 2 n (fun c => eP (blT t l w i p c)) ty) (.row 2 n (fun c => eP (blT t l w i q c)) ty) := by
  subst e
  exact sbm_row rfl fun _ _ => vm_p
theorem row_s {S : Vw} {t : Tb} {l : List Rp} {w : Int} {i n p q : Nat} {ty : TypeId} (e : p = q) (k : (l.getD i rp0).h ≠ q) : sbm S (.row 2 n (fun c => eP (blT t l w i p c)) ty) (.row 2 n (fun c => eP (blT t l w (i + 1) q c)) ty) := by
  subst e
  exact row_ne k

/-! ### Two blocks are seen as two others -/
theorem sget_two {a x b y p : Nat} : sget [(a, some x), (b, some y)] p = if a = p then some x else if b = p then some y else some p := by
  by_cases h1 : a = p
  · subst h1
    rw [if_pos rfl]
    show (match nbeq a a with | true => _ | false => _) = _
    rw [show nbeq a a = true by rw [nbeq_eq]; exact Nat.beq_refl a]
  · rw [if_neg h1, sget_ne h1]
    by_cases h2 : b = p
    · subst h2
      rw [if_pos rfl]
      show (match nbeq b b with | true => _ | false => _) = _
      rw [show nbeq b b = true by rw [nbeq_eq]; exact Nat.beq_refl b]
    · rw [if_neg h2, sget_ne h2]
theorem subB_two {H H' : SW} {a x b y : Nat} (h1 : ∀ p ∈ H'.l.map (·.1), p < H'.n) (h2 : x = b ∨ ∀ p ∈ H'.l.map (·.1), p ≠ x) (h3 : y = a ∨ ∀ p ∈ H'.l.map (·.1), p ≠ y) (h4 : a ≠ b → x ≠ y) (h5 : a = b → x = a ∧ y = a) : subB { H := H, H' := H', σ := [(a, some x), (b, some y)] } = true := by
  unfold subB
  rw [Bool.and_eq_true]
  refine ⟨List.all_eq_true.2 fun p hp => decide_eq_true (h1 p hp), List.all_eq_true.2 fun p hp => List.all_eq_true.2 fun q hq => ?_⟩
  have key : p = q ∨ sget [(a, some x), (b, some y)] p ≠ sget [(a, some x), (b, some y)] q := by
    by_cases e : p = q
    · exact .inl e
    · refine .inr ?_
      rw [sget_two, sget_two]
      have nx : ∀ r ∈ H'.l.map (·.1), x = b ∨ r ≠ x := fun r hr => h2.imp id fun k => k r hr
      have ny : ∀ r ∈ H'.l.map (·.1), y = a ∨ r ≠ y := fun r hr => h3.imp id fun k => k r hr
      have a1 := nx p hp; have a2 := nx q hq; have a3 := ny p hp; have a4 := ny q hq
      by_cases ab : a = b
      · obtain ⟨e1, e2⟩ := h5 ab
        split <;> split <;> (try split) <;> (try split) <;> simp only [ne_eq, Option.some.injEq] <;> omega
      · have := h4 ab
        split <;> split <;> (try split) <;> (try split) <;> simp only [ne_eq, Option.some.injEq] <;> omega
  rcases key with rfl | key
  · simp
  · simp only [Bool.or_eq_true, beq_iff_eq, Bool.not_eq_true', beq_eq_false_iff_ne]
    exact .inl (.inr key)
theorem hp_cons {S : Vw} {b' b : Nat} {s s' : SB} {l : List (Nat × SB)} (h : sget S.σ b' = some b) (hg : hget S.H.l b = some s) (hs : sbm S s s') (t : hpS S l) : hpS S ((b', s') :: l) := by
  refine ⟨?_, t⟩
  rw [h]
  exact ⟨s, hg, hs⟩
/-- A block beside the two. -/
theorem hp_no {H H' : SW} {a x b y p : Nat} {s s' : SB} {l : List (Nat × SB)} (h1 : a ≠ p) (h2 : b ≠ p) (hg : hget H.l p = some s) (hs : sbm { H := H, H' := H', σ := [(a, some x), (b, some y)] } s s') (t : hpS { H := H, H' := H', σ := [(a, some x), (b, some y)] } l) : hpS { H := H, H' := H', σ := [(a, some x), (b, some y)] } ((p, s') :: l) :=
  hp_cons (by rw [sget_two, if_neg h1, if_neg h2]) hg hs t
/-- Either one of the two, or beside them. -/
theorem hp_if {H H' : SW} {a x b y p : Nat} {s1 s2 s' : SB} {l : List (Nat × SB)} (h2 : b ≠ p) (hg : hget H.l p = some s1) (hg2 : hget H.l x = some s2) (hs : a ≠ p → sbm { H := H, H' := H', σ := [(a, some x), (b, some y)] } s1 s') (hs2 : a = p → sbm { H := H, H' := H', σ := [(a, some x), (b, some y)] } s2 s') (t : hpS { H := H, H' := H', σ := [(a, some x), (b, some y)] } l) : hpS { H := H, H' := H', σ := [(a, some x), (b, some y)] } ((p, s') :: l) := by
  by_cases e : a = p
  · exact hp_cons (by rw [sget_two, if_pos e]) hg2 (hs2 e) t
  · exact hp_cons (by rw [sget_two, if_neg e, if_neg h2]) hg (hs e) t
theorem vm_ptr2 {H H' : SW} {a x b y p o : Nat} (h1 : a ≠ p) (h2 : b ≠ p) (hn : Nat.blt p H'.n = true) : vm { H := H, H' := H', σ := [(a, some x), (b, some y)] } (.ptr p o) (.ptr p o) := vm_ptr (by rw [sget_two, if_neg h1, if_neg h2]) hn rfl
theorem vm_own2 {H H' : SW} {a x b y p q sz o n : Nat} (h : (if a = q then some x else if b = q then some y else some q) = some p) (hn : Nat.blt q H'.n = true) : vm { H := H, H' := H', σ := [(a, some x), (b, some y)] } (.own p sz o n) (.own q sz o n) := vm_own (by rw [sget_two]; exact h) hn rfl rfl
theorem vm_sw {H H' : SW} {o n h j : Nat} (hn : Nat.blt (o + sw h j) H'.n = true) : vm { H := H, H' := H', σ := [(o, some (o + h)), (o + h, some o)] } (oG o n j) (oS o n h j) := vm_own2 (by unfold sw; grind) hn
theorem vm_ws {H H' : SW} {o n h j : Nat} (hn : Nat.blt (o + j) H'.n = true) : vm { H := H, H' := H', σ := [(o, some (o + h)), (o + h, some o)] } (oS o n h j) (oG o n j) := vm_own2 (by unfold sw; grind) hn
theorem hp_sw {H H' : SW} {t : Tb} {l : List Rp} {w : Int} {i h n o p q : Nat} {ty : TypeId} {r : List (Nat × SB)} (hp : 0 < p) (hq : q = o + p) (hg : hget H.l q = some (.row 2 n (fun c => eP (blT t l w i p c)) ty)) (hg2 : hget H.l o = some (.row 2 n (fun c => eP (blT t l w i 0 c)) ty)) (k : hpS { H := H, H' := H', σ := [(o, some (o + h)), (o + h, some o)] } r) :
    hpS { H := H, H' := H', σ := [(o, some (o + h)), (o + h, some o)] } ((q, .row 2 n (fun c => eP (blT t l w i (sw h p) c)) ty) :: r) := by
  subst hq
  by_cases e : h = p
  · subst e
    exact hp_cons (by rw [sget_two, if_neg (by omega), if_pos rfl]) hg2 (row_q (sw_self h).symm) k
  · exact hp_cons (by rw [sget_two, if_neg (by omega), if_neg (by omega)]) hg (row_q (by unfold sw; rw [if_neg (by omega), if_neg (fun c => e c.symm)])) k
theorem hp_ws {H H' : SW} {t : Tb} {l : List Rp} {w : Int} {i h n o p q : Nat} {ty : TypeId} {s : SB} {r : List (Nat × SB)} (hp : 0 < p) (hq : q = o + p) (hR : (l.getD i rp0).h = h) (hg : hget H.l q = some (.row 2 n (fun c => eP (blT t l w i (sw h p) c)) ty)) (hg2 : hget H.l o = some s) (up : sbm { H := H, H' := H', σ := [(o, some (o + h)), (o + h, some o)] } s (.row 2 n (fun c => eP (blT t l w (i + 1) h c)) ty)) (k : hpS { H := H, H' := H', σ := [(o, some (o + h)), (o + h, some o)] } r) :
    hpS { H := H, H' := H', σ := [(o, some (o + h)), (o + h, some o)] } ((q, .row 2 n (fun c => eP (blT t l w (i + 1) p c)) ty) :: r) := by
  subst hq
  by_cases e : h = p
  · subst e
    exact hp_cons (by rw [sget_two, if_neg (by omega), if_pos rfl]) hg2 up k
  · exact hp_cons (by rw [sget_two, if_neg (by omega), if_neg (by omega)]) hg (row_s (by unfold sw; rw [if_neg (by omega), if_neg (fun c => e c.symm)]) (by rw [hR]; omega)) k
theorem hp_ws0 {H H' : SW} {t : Tb} {l : List Rp} {w : Int} {i h n o : Nat} {ty : TypeId} {s : SB} {r : List (Nat × SB)} (hR : (l.getD i rp0).h = h) (hg : 0 < h → hget H.l (o + h) = some (.row 2 n (fun c => eP (blT t l w i (sw h h) c)) ty)) (hg2 : hget H.l o = some s) (up : sbm { H := H, H' := H', σ := [(o, some (o + h)), (o + h, some o)] } s (.row 2 n (fun c => eP (blT t l w (i + 1) h c)) ty)) (k : hpS { H := H, H' := H', σ := [(o, some (o + h)), (o + h, some o)] } r) :
    hpS { H := H, H' := H', σ := [(o, some (o + h)), (o + h, some o)] } ((o, .row 2 n (fun c => eP (blT t l w (i + 1) 0 c)) ty) :: r) := by
  by_cases e : h = 0
  · subst e
    exact hp_cons (by rw [sget_two, if_pos rfl]; rfl) hg2 up k
  · exact hp_cons (by rw [sget_two, if_pos rfl]) (hg (by omega)) (row_s (sw_self h) (by rw [hR]; omega)) k
theorem row_kn2 {S : Vw} {t : Tb} {i p n : Nat} {ty : TypeId} (e : i = p) : sbm S (.row 2 n (fun c => eP (ct t (toN (i : Int)) c)) ty) (.row 2 (kN (i + 1) n p) (fun c => eP (ct t p c)) ty) := by
  subst e
  refine sbm_row ?_ fun c _ => ?_
  · unfold kN; rw [if_pos (by omega)]
  · rw [toN_nat]; exact vm_p
theorem vm_ownz {H H' : SW} {a x b y p sz o n : Nat} (h1 : a ≠ p) (h2 : b ≠ p) (hn : Nat.blt p H'.n = true) : vm { H := H, H' := H', σ := [(a, some x), (b, some y)] } (.own p sz o n) (.own p sz o n) := vm_own2 (by rw [if_neg h1, if_neg h2]) hn
end Go.Proofs.YtcdcmeiipfafdaaGreat
