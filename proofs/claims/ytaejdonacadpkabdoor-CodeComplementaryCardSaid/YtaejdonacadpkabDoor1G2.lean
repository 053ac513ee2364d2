/-
  Package slices: Grow of nothing at all, and Concat of two slices of numbers (by contract).
  Conditions: at most 1000 numbers.
-/
import Derived.Test.YtaejdonacadpkabDoor1G
import Derived.Test.YtaejdonacadpkabDoorFz
namespace Go.Proofs.YtaejdonacadpkabDoor
open Go.RowKit Fx
set_option maxHeartbeats 1000000 in
set_option maxRecDepth 20000 in
theorem grow_calls {n : Nat} (hn : 0 < n) (hm : n ≤ 1000) (w : World) : Calls Tryd.prog 78 #[.slice none 0 0, .int .i64 n] w fun e w' => e = .returned (.slice (some ⟨w.heap.size, 0, none⟩) 0 (grownCap w n 0 3)) ∧ w' = w.drew.alloc (.cells (Builtin.zeroCells #[.int .i64 0] n ++ Builtin.zeroCells #[.int .i64 0] (grownCap w n 0 3 - n)) 3) := by
  have hcap : Builtin.nextslicecap n 0 = n := by unfold Builtin.nextslicecap; rw [if_pos (by omega)]
  have hb : Tryd.t3.bytes = 8 := rfl
  go_enter Tryd.func78, Tryd.ntmps78
  go_wp2
  all_goals try (exfalso; simp only [hb, hcap] at *; omega)
  go_ret
  exact ⟨by simp [grownCap], by simp [grownCap]⟩
theorem grow_ok {n : Int} (hn : 0 < n ∧ n ≤ 1000) : FnOK Tryd.prog 78 [.sc (.slice none 0 0), I n] (.own 0 1 0 0) [.row 1 0 (fun _ => I 0) 3] := by
  obtain ⟨k, rfl⟩ : ∃ k : Nat, n = k := ⟨n.toNat, by omega⟩
  refine ⟨enters_of Tryd.func78 (by kernel_rfl) rfl, fun m args' hφ hF hD hgl hl => ?_⟩
  obtain ⟨u0, u1, rfl⟩ : ∃ u0 u1, args' = #[u0, u1] := by
    obtain ⟨l⟩ := args'
    match l, hl.1 with
    | [a, b], _ => exact ⟨a, b, rfl⟩
  obtain rfl := (hl.2 0 _ u0 rfl rfl).of_sc
  obtain rfl := (hl.2 1 _ u1 rfl rfl).of_sc
  refine (callsIn_wide.2 (grow_calls (by omega) (by omega) m.W)).mono ?_
  rintro e W' ⟨rfl, rfl⟩
  have no : ∀ b p, m.φ b = some p → False := fun b p h => by rw [hφ] at h; cases h
  have w0 : WR ⟨m.W, m.F⟩ m ⟨0, []⟩ := ⟨Ov.refl _, fun b p h => (no b p h).elim, fun b s h => (by cases h), fun b g C s h _ => (no b _ h).elim, fun b g C s h _ => (no b _ h).elim, fun b b' g C C' s s' h _ _ _ => (no b _ h).elim, fun g h => hF g h,
    fun g hg => (by have hg' : g ∈ m.D.d := hg; rw [hD] at hg'; cases hg'), (by show m.D.d.Nodup; rw [hD]; exact List.nodup_nil), fun g hg => .inl hg, hgl⟩
  have hge := grownCap_ge m.W k 0 3
  obtain ⟨p1, p2⟩ := push_row w0 (C := grownCap m.W k 0 3) (sz := 1) (n := 0) (e := fun _ => I 0) (t := 3) (ds := Builtin.zeroCells #[.int .i64 0] k ++ Builtin.zeroCells #[.int .i64 0] (grownCap m.W k 0 3 - k))
      (W' := m.W.drew.alloc (.cells (Builtin.zeroCells #[.int .i64 0] k ++ Builtin.zeroCells #[.int .i64 0] (grownCap m.W k 0 3 - k)) 3)) ((Ov.refl _).drew.alloc _)
      (fun j hj => heap_alloc_old m.W.drew _ hj) (size_alloc_le m.W.drew _) (heap_alloc_new m.W.drew _) (by
        rw [Array.size_append, size_zeroCells, size_zeroCells]
        show k * 1 + _ * 1 = _ * 1
        omega) (by omega) RowR.nil
  refine ⟨_, memNew m ⟨0, []⟩ (grownCap m.W k 0 3) (m.W.drew.alloc (.cells (Builtin.zeroCells #[.int .i64 0] k ++ Builtin.zeroCells #[.int .i64 0] (grownCap m.W k 0 3 - k)) 3)), rfl, rfl, fun _ h => h, rfl, p1, ?_⟩
  have hp : (memNew m ⟨0, []⟩ (grownCap m.W k 0 3) (m.W.drew.alloc (.cells (Builtin.zeroCells #[.int .i64 0] k ++ Builtin.zeroCells #[.int .i64 0] (grownCap m.W k 0 3 - k)) 3))).φ 0 = some (m.W.heap.size, grownCap m.W k 0 3) := by
    show upd m.φ 0 (m.W.heap.size, grownCap m.W k 0 3) 0 = _
    exact upd_self _ _ _
  have := VR.own (sz := 1) (off := 0) (n := 0) hp (by omega)
  simpa using this
@[reducible] def eIl2 (a b : List Int) : V := .sl 1 2 (litF [eInts a, eInts b])
theorem app_at {a b : List Int} {i : Nat} : (a ++ b).getD i 0 = if i < a.length then a.getD i 0 else b.getD (i - a.length) 0 := by
  split
  · rename_i h; rw [List.getD_eq_getElem?_getD, List.getD_eq_getElem?_getD, List.getElem?_append_left h]
  · rename_i h; rw [List.getD_eq_getElem?_getD, List.getD_eq_getElem?_getD, List.getElem?_append_right (by omega)]
theorem pureG {t : TypeId} : ∀ s ∈ [SB.row 1 0 (fun _ => I 0) t], PureS False s := fun s hs => by
  obtain rfl := List.mem_singleton.1 hs
  exact fun i hi => by omega
theorem concat_ok {a b : List Int} (ha : 0 < a.length ∧ a.length ≤ 100) (hb : b.length ≤ 100) : FnOK Tryd.prog 47 [eIl2 a b] (.own 0 1 0 (a ++ b).length) [.row 1 (a ++ b).length (fun i => I ((a ++ b).getD i 0)) 3] := by
  have G := grow_ok (n := 0 + (a.length : Int) + (b.length : Int)) (by omega)
  refine fn_i hmix hT Tryd.f47 (by kernel_rfl) rfl (by kernel_rfl) ?_
  with_reducible conv => whnf
  repeat' ((first | (with_reducible refine arith_l 0 (by decide) (by decide) ?_) | (with_reducible refine arith_l 1 (by decide) (by decide) ?_) | (with_reducible refine arith_l 2 (by decide) (by decide) ?_) | (with_reducible refine arith_l 3 (by decide) (by decide) ?_) | (with_reducible refine arith_l 4 (by decide) (by decide) ?_) | (with_reducible refine branch_t ?_) | (with_reducible refine branch_f ?_) | (with_reducible refine branch_nt ?_) | (with_reducible refine branch_nf ?_) | (with_reducible refine branch_dec (fun _ => ?_) (fun _ => ?_)) | (with_reducible refine branch_ndec (fun _ => ?_) (fun _ => ?_)) | (with_reducible refine branch_bool (fun _ => ?_) (fun _ => ?_)) | (with_reducible refine arith_64 (by omega) ?_) | (with_reducible refine ob_i (by omega) (fun _ => ?_)) | (with_reducible refine ob_i (by unfold room; omega) (fun _ => ?_)) | (with_reducible refine ob_i (by (try simp only [toN_eq, Int.toNat_natCast] at *); (try dsimp only [toN] at *); omega) (fun _ => ?_)) | (with_reducible refine arith_64 (by (try simp only [toN_eq, Int.toNat_natCast] at *); (try dsimp only [toN] at *); omega) ?_) | (with_reducible refine ob_k rfl ?_) | ((with_reducible refine ob_k ?_ ?_); focus kernel_rfl) | (refine yield_i hmix hT rfl hL efr eps eag ebd rfl (by kernel_rfl) ?_) | (refine loop_u hmix hT [(), (), ()] ?_) | (apply call_l (first_ok (l := [_, _]) (Nat.le_of_ble_eq_true rfl)) (.cons (vm_lit _ rfl rfl (.cons (vm_int rfl) (.cons (vm_int rfl) .nil))) .nil)) | (apply call_l (first_ok (l := [_, _, _]) (Nat.le_of_ble_eq_true rfl)) (.cons (vm_lit _ rfl rfl (.cons (vm_int rfl) (.cons (vm_int rfl) (.cons (vm_int rfl) .nil)))) .nil)) | (apply call_l (first_ok (l := [_, _, _, _]) (Nat.le_of_ble_eq_true rfl)) (.cons (vm_lit _ rfl rfl (.cons (vm_int rfl) (.cons (vm_int rfl) (.cons (vm_int rfl) (.cons (vm_int rfl) .nil))))) .nil))) <;> (try (exfalso; omega; done)) <;> (with_reducible conv => whnf))
  refine call_p G (.cons vm_p (.cons vm_p .nil)) pureG rv_own ?_
  with_reducible conv => whnf
  repeat' ((first | (with_reducible refine arith_l 0 (by decide) (by decide) ?_) | (with_reducible refine arith_l 1 (by decide) (by decide) ?_) | (with_reducible refine arith_l 2 (by decide) (by decide) ?_) | (with_reducible refine arith_l 3 (by decide) (by decide) ?_) | (with_reducible refine arith_l 4 (by decide) (by decide) ?_) | (with_reducible refine branch_t ?_) | (with_reducible refine branch_f ?_) | (with_reducible refine branch_nt ?_) | (with_reducible refine branch_nf ?_) | (with_reducible refine branch_dec (fun _ => ?_) (fun _ => ?_)) | (with_reducible refine branch_ndec (fun _ => ?_) (fun _ => ?_)) | (with_reducible refine branch_bool (fun _ => ?_) (fun _ => ?_)) | (with_reducible refine arith_64 (by omega) ?_) | (with_reducible refine ob_i (by omega) (fun _ => ?_)) | (with_reducible refine ob_i (by unfold room; omega) (fun _ => ?_)) | (with_reducible refine ob_i (by (try simp only [] at *); (try dsimp only [toN] at *); omega) (fun _ => ?_)) | (with_reducible refine arith_64 (by (try simp only [] at *); (try dsimp only [toN] at *); omega) ?_) | (with_reducible refine ob_k rfl ?_) | ((with_reducible refine ob_k ?_ ?_); focus kernel_rfl) | (refine yield_i hmix hT rfl hL efr eps eag ebd rfl (by kernel_rfl) ?_) | (refine loop_u hmix hT [(), (), ()] ?_) | (apply call_l (first_ok (l := [_, _]) (Nat.le_of_ble_eq_true rfl)) (.cons (vm_lit _ rfl rfl (.cons (vm_int rfl) (.cons (vm_int rfl) .nil))) .nil)) | (apply call_l (first_ok (l := [_, _, _]) (Nat.le_of_ble_eq_true rfl)) (.cons (vm_lit _ rfl rfl (.cons (vm_int rfl) (.cons (vm_int rfl) (.cons (vm_int rfl) .nil)))) .nil)) | (apply call_l (first_ok (l := [_, _, _, _]) (Nat.le_of_ble_eq_true rfl)) (.cons (vm_lit _ rfl rfl (.cons (vm_int rfl) (.cons (vm_int rfl) (.cons (vm_int rfl) (.cons (vm_int rfl) .nil))))) .nil))) <;> (try (exfalso; omega; done)) <;> (with_reducible conv => whnf))
  have hl : (a ++ b).length = a.length + b.length := List.length_append
  refine ⟨⟨[(0, some 2)], rfl, vm_own rfl rfl rfl (by omega), ⟨⟨_, rfl, sbm_row (by omega) fun i hi => ?_⟩, trivial⟩⟩⟩
  have e : appF (0 + a.length) (appF 0 (fun _ => I 0) fun i => I (a.getD i 0)) (fun i => I (b.getD i 0)) i = I ((a ++ b).getD i 0) := by
    rw [app_at]
    unfold appF
    by_cases h : i < a.length
    · rw [if_pos (by omega), if_neg (by omega), if_pos h, show i - 0 = i by omega]
    · rw [if_neg (by omega), if_neg h, show i - (0 + a.length) = i - a.length by omega]
  rw [e]
  exact vm_p
end Go.Proofs.YtaejdonacadpkabDoor
