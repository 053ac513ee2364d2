/-
  Chapter 1: what comes in; what the listed variable holds.
  Conditions: none.
-/
import Derived.Test.YtaejdonacadpkabDoorRows
import Derived.Test.YtaejdonacadpkabDoor1Tbl
import Derived.Test.YtaejdonacadpkabDoor1J
import Derived.Test.YtaejdonacadpkabDoor1N
import Derived.Test.YtaejdonacadpkabDoorFin
import Derived.LaidMore
import Derived.OpenShut
namespace Go.Proofs.YtaejdonacadpkabDoor
open Go.RowKit Fx Go.ChangeShapes Go.WideShapes
theorem in_i : In Tryd.prog 3 I (fun n => -9223372036854775808 ≤ n ∧ n ≤ 9223372036854775807) := in_int Tryd.underlying3 (by kernel_rfl)
theorem in_g : In Tryd.prog 78 eP (fun p => (-9223372036854775808 ≤ p.1 ∧ p.1 ≤ 9223372036854775807) ∧ (-9223372036854775808 ≤ p.2 ∧ p.2 ≤ 9223372036854775807)) :=
  in_struct Tryd.underlying78 (by kernel_rfl) (inL_cons in_i (inL_cons in_i inL_nil)) (fun a h => ⟨(a.1, a.2.1), ⟨h.1, h.2.1⟩, rfl⟩)
theorem in_gs : In Tryd.prog 41 ePs (fun l => l.length ≤ 9223372036854775807) :=
  (in_slice (f := eP) (0, 0) Tryd.underlying41 (by kernel_rfl) (by kernel_rfl) (by decide) (fun _ _ h => by cases h) in_g).mono fun _ h => h.1
theorem in_is : In Tryd.prog 22 eInts (fun l => l.length ≤ 9223372036854775807 ∧ ∀ i, -9223372036854775808 ≤ l.getD i 0 ∧ l.getD i 0 ≤ 9223372036854775807) :=
  (in_slice (f := I) 0 Tryd.underlying22 (by kernel_rfl) (by kernel_rfl) (by decide) (fun _ _ h => by cases h) in_i).mono fun l h => ⟨h.1, fun i => by
    by_cases hi : i < l.length
    · rw [List.getD_eq_getElem?_getD, List.getElem?_eq_getElem hi]
      exact h.2 _ (List.getElem_mem hi)
    · rw [List.getD_eq_getElem?_getD, List.getElem?_eq_none (by omega)]; decide⟩
structure Frm.Ok (f : Frm) : Prop where
  g : -9223372036854775808 ≤ f.g ∧ f.g ≤ 9223372036854775807
  lim : -9223372036854775808 ≤ f.lim ∧ f.lim ≤ 9223372036854775807
  sm : f.sm.length ≤ 9223372036854775807
  gp : f.gp.length ≤ 9223372036854775807
theorem in_frame : In Tryd.prog 75 eF Frm.Ok :=
  in_struct Tryd.underlying75 (by kernel_rfl) (inL_cons in_i (inL_cons in_i (inL_cons in_gs (inL_cons in_is inL_nil)))) fun a h => ⟨⟨a.1, a.2.1, a.2.2.1, a.2.2.2.1⟩, ⟨h.1, h.2.1, h.2.2.1, h.2.2.2.1.1⟩, rfl⟩
/-! ### The listed variable -/
abbrev laidQ : List (String × DataW Unit) := [("skywave/code.quarters", Rows.laid_skywave_code_quarters)]
theorem gQuarters : Tryd.prog.globalNamed "skywave/code.quarters" = some 0 := by kernel_rfl
theorem tQuarters : (Tryd.prog.globals[(0 : Nat)]?).map (·.type) = some 109 := by kernel_rfl
theorem door_met (os : Os) (args : Array Value) : laidMetH Tryd.prog laidQ ((World.doorLaid Tryd.prog 400 os).forCall (fun _ _ => 0) ⟨#[], args, []⟩).memory :=
  laidMetH_of_parts3 (fuel := 8) (laidMet_of_run' 8 (by kernel_rfl) (by kernel_rfl)) (by kernel_rfl) (by kernel_rfl)
set_option maxRecDepth 100000 in
theorem two_ints {W : World} {fuel : Nat} {cs : List Value} {a b : Int} {p : List MemPlace} (h : DataW.trod (fun _ => ()) Tryd.prog W 0 (fun _ => true) false fuel 78 cs = some (.agg [.lit (.int .i64 a), .lit (.int .i64 b)], p)) : cs = [.int .i64 a, .int .i64 b] := by
  obtain ⟨xs, n, rfl, hx, hl, hlen, hf⟩ := DataW.trod_struct Tryd.underlying78 h
  have c3 : Tryd.prog.cellsOf 3 = 1 := by kernel_rfl
  have c63 : Tryd.prog.cellsOf 78 = 2 := by kernel_rfl
  rw [c63] at hl
  simp only [Prod.mk.injEq, DataW.agg.injEq] at hx
  match xs, hlen, hx, hf with
  | [x0, x1], _, hx, hf =>
    simp only [List.map_cons, List.map_nil, List.cons.injEq] at hx
    have h0 : DataW.trod (fun _ => ()) Tryd.prog W 0 (fun _ => true) false n 3 ((cs.drop 0).take (Tryd.prog.cellsOf 3)) = some x0 := hf 0 _ rfl
    have h1 : DataW.trod (fun _ => ()) Tryd.prog W 0 (fun _ => true) false n 3 ((cs.drop 1).take (Tryd.prog.cellsOf 3)) = some x1 := hf 1 _ rfl
    rw [c3] at h0 h1
    obtain ⟨k0, e1, e2, _⟩ := DataW.trod_int Tryd.underlying3 h0
    obtain ⟨k1, f1, f2, _⟩ := DataW.trod_int Tryd.underlying3 h1
    have q0 : k0 = a := by rw [e2] at hx; simpa using hx.1.1.symm
    have q1 : k1 = b := by rw [f2] at hx; simpa using hx.1.2.1.symm
    subst q0 q1
    match cs, hl with
    | [u, v], _ =>
      simp at e1 f1
      rw [e1, f1]
theorem gl_of_laid {W : World} (h : laidMetH Tryd.prog laidQ W) : GlOK (m0 W) := by
  rw [MakeChecks.laidMetH_plain _ _ _ (by kernel_rfl)] at h
  obtain ⟨ps, ⟨g0, t0, cs0, fuel0, p0, q0, hg0, ht0, hv0, hd0, _⟩, _, _⟩ := h
  obtain rfl := Option.some.inj (gQuarters.symm.trans hg0)
  obtain rfl := Option.some.inj (tQuarters.symm.trans ht0)
  obtain ⟨xs, m1, rfl, hx1, hlen, hn3, hel⟩ := DataW.trod_array Tryd.underlying109 hd0
  have c63 : Tryd.prog.cellsOf 78 = 2 := by kernel_rfl
  have c152 : Tryd.prog.cellsOf 109 = 8 := by kernel_rfl
  rw [c152] at hlen
  simp only [c63] at hel
  have hcs : cs0.toList = [.int .i64 1, .int .i64 0, .int .i64 0, .int .i64 1, .int .i64 (-1), .int .i64 0, .int .i64 0, .int .i64 (-1)] := by
    unfold Rows.laid_skywave_code_quarters at hx1
    simp only [Prod.mk.injEq, DataW.agg.injEq] at hx1
    match xs, hn3, hx1, hel with
    | [x0, x1, x2, x3], _, hx1, hel =>
      simp only [List.map_cons, List.map_nil, List.cons.injEq, and_true] at hx1
      obtain ⟨⟨y0, y1, y2, y3⟩, _⟩ := hx1
      have e0 := hel 0 (by decide)
      have e1 := hel 1 (by decide)
      have e2 := hel 2 (by decide)
      have e3 := hel 3 (by decide)
      obtain ⟨d0, p0⟩ := x0
      obtain ⟨d1, p1⟩ := x1
      obtain ⟨d2, p2⟩ := x2
      obtain ⟨d3, p3⟩ := x3
      dsimp only at y0 y1 y2 y3
      subst y0 y1 y2 y3
      have z0 := two_ints (show DataW.trod _ Tryd.prog W 0 _ false m1 78 _ = some _ from e0)
      have z1 := two_ints (show DataW.trod _ Tryd.prog W 0 _ false m1 78 _ = some _ from e1)
      have z2 := two_ints (show DataW.trod _ Tryd.prog W 0 _ false m1 78 _ = some _ from e2)
      have z3 := two_ints (show DataW.trod _ Tryd.prog W 0 _ false m1 78 _ = some _ from e3)
      clear e0 e1 e2 e3 hel hd0 hv0
      generalize cs0.toList = L at hlen z0 z1 z2 z3
      match L, hlen, z0, z1, z2, z3 with
      | [u0, u1, u2, u3, u4, u5, u6, u7], _, z0, z1, z2, z3 =>
        simp at z0 z1 z2 z3
        simp [z0, z1, z2, z3]
  have hcell := World.var?_cell hg0 hv0
  have hlt : 0 < W.heap.size := by
    have h0 := hcell 0
    have : cs0[0]? = some (.int .i64 1) := by rw [← Array.getElem?_toList, hcs]; rfl
    rw [this] at h0
    exact World.block_lt_of_cell? W _ h0
  intro g cs hg
  unfold gtab at hg
  simp only [ggetL] at hg
  split at hg
  · rename_i hb
    rw [nbeq_eq] at hb
    obtain rfl := Nat.eq_of_beq_eq_true hb
    injection hg with hg
    subst hg
    refine ⟨hlt, fun j u hu => ?_⟩
    rw [← hcs, Array.getElem?_toList] at hu
    refine ⟨(hcell j).trans hu, ?_⟩
    rw [← Array.getElem?_toList, hcs] at hu
    have := List.mem_of_getElem? hu
    simp only [List.mem_cons, List.not_mem_nil, or_false] at this
    rcases this with rfl | rfl | rfl | rfl | rfl | rfl | rfl | rfl <;> rfl
  · cases hg
end Go.Proofs.YtaejdonacadpkabDoor
