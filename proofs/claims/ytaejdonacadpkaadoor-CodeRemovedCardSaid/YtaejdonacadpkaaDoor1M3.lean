/-
  Chapter 1: frames that are cleaned (by contract).
  Conditions: none.
-/
import Derived.Test.YtaejdonacadpkaaDoor1M1
namespace Go.Proofs.YtaejdonacadpkaaDoor
open Go.RowKit Fx
theorem four_fl : cfl (4, 0) = (4616189618054758400, 0) := by decide +kernel
theorem four_cu : CU (4616189618054758400, 0) 4 ∧ cv (4616189618054758400, 0) = (4, 0) := by
  have := cfl_cu (p := (4, 0)) (c := 4) (by decide) (.inl ⟨by decide, rfl⟩)
  rw [four_fl] at this
  exact this
def zC (g : Nat → CP) (z0 : CP) (us : List Int) (k : Int) : Nat → CP
  | 0 => cmul z0 (4616189618054758400, 0)
  | m + 1 => csub (zC g z0 us k m) (cmul (g (us.getD m 0).toNat) (cfl (t4 ((us.getD m 0 * k) % 4).toNat)))
theorem zC_cb {f : Frm} (v : f.Val) {g : Nat → CP} {j k : Nat} (hk : k < 4) (hg : ∀ n, CB (g n) 8000000 ∧ cv (g n) = hz f (4 * j) n) (us : List Int) : ∀ m : Nat, m ≤ 100 → CB (zC g (blk f (4 * j) k) us k m) (8000000 + m * 8000000) ∧ cv (zC g (blk f (4 * j) k) us k m) = cnV f us (4 * j + k) m
  | 0, _ => by
    have z := blk_cb v (4 * j) k
    have c := cmul_cb z.1 four_cu.1 (by decide)
    refine ⟨c.1.le (by omega), ?_⟩
    show cv (cmul _ _) = _
    rw [c.2, z.2, four_cu.2]
    rfl
  | m + 1, h => by
    obtain ⟨i1, i2⟩ := zC_cb v hk hg us m (by omega)
    have c := cmul_cb (hg (us.getD m 0).toNat).1 (t4_cu ((us.getD m 0 * k) % 4).toNat).1 (by decide)
    have s := csub_cb i1 c.1 (by unfold top; omega)
    refine ⟨s.1.le (by omega), ?_⟩
    show cv (csub _ _) = _
    have ec : cla (4 * j + k) = 4 * j := by unfold cla; omega
    have ek : ((4 * j + k : Nat) : Int) - (cla (4 * j + k) : Nat) = k := by rw [ec]; omega
    have ecn : cnV f us (4 * j + k) (m + 1) = ((cnV f us (4 * j + k) m).1 - (clH f us (4 * j + k) m).1, (cnV f us (4 * j + k) m).2 - (clH f us (4 * j + k) m).2) := rfl
    rw [s.2, i2, c.2, (hg _).2, (t4_cu _).2, ecn]
    unfold clH
    rw [ek, ec]
    rfl
theorem turnI_ok {n : Int} : FnOK Tryd.prog 117 [I n] (cxV (cfl (t4 (n % 4).toNat))) [] := turn_ok _ (by omega) (by omega)
section
variable {P : Program} {T : Tbl}
theorem loopX_s (hm : P.follows .mixedOrders = true) (hT : ∀ t i, tget T t = some i → tiOf P t = some i) {c : Code} {fr : Fr} {H : SW} {K : Exit → Fr → SW → Prop} {α : Type} (st : α → Fr) (I : α → Prop) (μ : α → Nat) (x0 : α) (h0 : I x0) (h1 : SubX fr H (st x0, H))
    (round : ∀ x, I x → codeX P T c (st x) H fun e fr' H' => match e with
      | .normal => ∃ y, I y ∧ μ y < μ x ∧ SubX fr' H' (st y, H)
      | .ret => K .ret fr' H'
      | .exit id => K (.exit id) fr' H'
      | _ => False) : loopX P T c fr H K := loopX_i hm hT (fun x => (st x, H)) I μ x0 h0 h1 round
end
/-! ### Cleaning -/
def clJ (f : Frm) (us : List Int) (j i : Nat) : Int × Int := if i < 4 * j then clS f us i else cnV f us i 0
def prvK (us : List Int) : Nat → Int
  | 0 => -1
  | k + 1 => us.getD k 0
theorem leP_first {us : List Int} {k : Nat} : firstErr [if decide (0 ≤ us.getD k 0 ∧ us.getD k 0 ≤ 3) = true then 0 else 2, if decide (prvK us k < us.getD k 0) = true then 0 else 9] = leP us k := by
  rw [first_two]
  unfold leP
  cases k with
  | zero => simp only [prvK, decide_eq_true_eq]; grind
  | succ k => simp only [prvK, decide_eq_true_eq, Nat.add_sub_cancel]; grind
@[reducible] def zCells : List V := [I 0, I 0, .sc (.slice none 0 0), .sc (.slice none 0 0)]
@[reducible] def xCells (f : Frm) : List V := [I f.g, I f.lim, ePs f.sm, eInts f.gp, eBn f.sm.length (usB f)]
theorem vm_eP_of {S : Vw} {p q : Int × Int} (h : p = q) : vm S (eP p) (eP q) := by subst h; exact vm_p
theorem four_row {S : Vw} {e0 e' : Nat → V} {a0 a1 a2 a3 sz n : Nat} {v0 v1 v2 v3 : V} {ty : TypeId} (b : Nat) (h0 : a0 = b) (h1 : a1 = b + 1) (h2 : a2 = b + 2) (h3 : a3 = b + 3) (k0 : vm S v0 (e' b)) (k1 : vm S v1 (e' (b + 1))) (k2 : vm S v2 (e' (b + 2))) (k3 : vm S v3 (e' (b + 3))) (ke : ∀ i, i < b ∨ b + 4 ≤ i → vm S (e0 i) (e' i)) : sbm S (.row sz n (setF (setF (setF (setF e0 a0 v0) a1 v1) a2 v2) a3 v3) ty) (.row sz n e' ty) := by
  subst h0 h1 h2 h3
  refine sbm_row rfl fun i _ => ?_
  by_cases c3 : i = a0 + 3
  · rw [c3, setF_at]; exact k3
  rw [setF_ne c3]
  by_cases c2 : i = a0 + 2
  · rw [c2, setF_at]; exact k2
  rw [setF_ne c2]
  by_cases c1 : i = a0 + 1
  · rw [c1, setF_at]; exact k1
  rw [setF_ne c1]
  by_cases c0 : i = a0
  · rw [c0, setF_at]; exact k0
  rw [setF_ne c0]
  exact ke i (by omega)
theorem clJ_in {f : Frm} {us : List Int} {j i : Nat} (h : i < 4 * (j + 1)) : clS f us i = clJ f us (j + 1) i := (if_pos h).symm
theorem clJ_out {f : Frm} {us : List Int} {j i : Nat} (h : i < 4 * j ∨ 4 * j + 4 ≤ i) : clJ f us j i = clJ f us (j + 1) i := by
  unfold clJ
  rcases h with h | h
  · rw [if_pos h, if_pos (by omega)]
  · rw [if_neg (by omega), if_neg (by omega)]
theorem clJ_end {f : Frm} {us : List Int} {i : Nat} (h : i < f.sm.length) : clJ f us (f.sm.length / 4) i = clS f us i := by
  unfold clJ
  split
  · rfl
  · rename_i c
    unfold clS
    rw [if_neg]
    have e : cla i = 4 * (f.sm.length / 4) := by unfold cla; omega
    unfold wholeB
    rw [e, decide_eq_false (by omega)]
    simp
end Go.Proofs.YtaejdonacadpkaaDoor
