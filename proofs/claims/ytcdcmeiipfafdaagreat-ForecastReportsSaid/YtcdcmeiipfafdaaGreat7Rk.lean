/-
  Chapter 7: the law ForecastReports (by contract).
  Conditions: none.
-/
import Derived.Test.YtcdcmeiipfafdaaGreat7Gf
import Derived.Test.YtcdcmeiipfafdaaGreat7Gb
import Derived.Test.YtcdcmeiipfafdaaGreat7Rj
import Derived.Test.YtcdcmeiipfafdaaGreat7H
import Derived.Test.YtcdcmeiipfafdaaGreatFs
namespace Go.Proofs.YtcdcmeiipfafdaaGreat
open Go.RowKit Fx
def tb0 : Tb := ⟨[], []⟩
theorem tb0_few : FewT tb0 := ⟨by decide, by decide, fun i hi => by simp [tb0] at hi⟩
theorem vm_tb0 {S : Vw} : vm S zTb (eTb tb0) := vm_agg (.cons (vm_nilsl rfl) (.cons (vm_nilsl rfl) .nil))
theorem sameT_ok {t : Tb} (few : FewT t) : FnOK Tryz.prog 15 [eTb t, eTb t] (B true) [] := by
  have I1 := ints_ok (l := t.fr) (by have := few.f; omega)
  have H1 := sameHours_ok (L := t.hs) (by have := few.h; omega) fun i => by have := few.rows i; omega
  refine fn_i hmix hT Tryz.f15 (by kernel_rfl) rfl (by kernel_rfl) ?_
  with_reducible conv => whnf
  repeat' ((first | (with_reducible refine branch_t ?_) | (with_reducible refine branch_f ?_) | (with_reducible refine branch_nt ?_) | (with_reducible refine branch_nf ?_) | (with_reducible refine branch_dec (fun _ => ?_) (fun _ => ?_)) | (with_reducible refine branch_ndec (fun _ => ?_) (fun _ => ?_)) | (with_reducible refine branch_bool (fun _ => ?_) (fun _ => ?_)) | (with_reducible refine arith_64 (by omega) ?_) | (with_reducible refine ob_i (by omega) (fun _ => ?_)) | (with_reducible refine ob_i (by unfold room; omega) (fun _ => ?_)) | (with_reducible refine ob_i (by (try simp only [toN_eq, Int.toNat_natCast] at *); (try dsimp only [toN] at *); omega) (fun _ => ?_)) | (with_reducible refine arith_64 (by (try simp only [toN_eq, Int.toNat_natCast] at *); (try dsimp only [toN] at *); omega) ?_) | (with_reducible refine ob_k rfl ?_) | ((with_reducible refine ob_k ?_ ?_); focus kernel_rfl) | (refine yield_i hmix hT rfl hL efr eps eag ebd rfl (by kernel_rfl) ?_) | (apply call_u I1) | (apply call_u H1) | (apply call_l (first_ok (l := [_, _]) (Nat.le_of_ble_eq_true rfl)) (.cons (vm_lit _ rfl rfl (.cons (vm_int rfl) (.cons (vm_int rfl) .nil))) .nil)) | (apply call_l (first_ok (l := [_, _, _]) (Nat.le_of_ble_eq_true rfl)) (.cons (vm_lit _ rfl rfl (.cons (vm_int rfl) (.cons (vm_int rfl) (.cons (vm_int rfl) .nil)))) .nil)) | (apply call_l (first_ok (l := [_, _, _, _]) (Nat.le_of_ble_eq_true rfl)) (.cons (vm_lit _ rfl rfl (.cons (vm_int rfl) (.cons (vm_int rfl) (.cons (vm_int rfl) (.cons (vm_int rfl) .nil))))) .nil))) <;> (try (exfalso; omega; done)) <;> (with_reducible conv => whnf))
  exact ret0 vm_p
theorem opE_val {t : Tb} {l : List Rp} (e : opE t l = 0) : tbE t = 0 ∧ rpsE t.fr.length l = 0 := by
  unfold opE at e
  split at e
  · rename_i c; exact absurd e c
  · rename_i c; exact ⟨Decidable.not_not.1 c, e⟩
theorem tup_tb0 {S : Vw} {e : Int} : vm S (.tup [zTb, I e]) (.tup [eTb tb0, I e]) := vm_tup (.cons vm_tb0 (.cons vm_p .nil))
theorem blend_bad {t : Tb} {l : List Rp} {w e : Int} (few : FewT t) (hl : l.length ≤ 9223372036854775807) (he : firstErr [opE t l, if decide (1 ≤ w ∧ w ≤ 10) = true then 0 else 2] = e) (h0 : e ≠ 0) : FnOK Tryz.prog 8 [eTb t, eRps l, I w] (.tup [eTb tb0, I e]) [] := (blended_err few hl he h0).freeze tup_tb0
theorem own_fr {t : Tb} {l : List Rp} {w : Int} : vm { H := pushL [.row 2 t.fr.length (fun c => eP (blT t l w l.length 0 c)) 94, .row 2 t.fr.length (fun c => eP (blT t l w l.length 1 c)) 94, .row 2 t.fr.length (fun c => eP (blT t l w l.length 2 c)) 94, .row 2 t.fr.length (fun c => eP (blT t l w l.length 3 c)) 94, .row 2 t.fr.length (fun c => eP (blT t l w l.length 4 c)) 94, .row 2 t.fr.length (fun c => eP (blT t l w l.length 5 c)) 94, .row 2 t.fr.length (fun c => eP (blT t l w l.length 6 c)) 94, .row 2 t.fr.length (fun c => eP (blT t l w l.length 7 c)) 94, .row 2 t.fr.length (fun c => eP (blT t l w l.length 8 c)) 94, .row 2 t.fr.length (fun c => eP (blT t l w l.length 9 c)) 94, .row 2 t.fr.length (fun c => eP (blT t l w l.length 10 c)) 94, .row 2 t.fr.length (fun c => eP (blT t l w l.length 11 c)) 94, .row 2 t.fr.length (fun c => eP (blT t l w l.length 12 c)) 94, .row 2 t.fr.length (fun c => eP (blT t l w l.length 13 c)) 94, .row 2 t.fr.length (fun c => eP (blT t l w l.length 14 c)) 94, .row 2 t.fr.length (fun c => eP (blT t l w l.length 15 c)) 94, .row 2 t.fr.length (fun c => eP (blT t l w l.length 16 c)) 94, .row 2 t.fr.length (fun c => eP (blT t l w l.length 17 c)) 94, .row 2 t.fr.length (fun c => eP (blT t l w l.length 18 c)) 94, .row 2 t.fr.length (fun c => eP (blT t l w l.length 19 c)) 94, .row 2 t.fr.length (fun c => eP (blT t l w l.length 20 c)) 94, .row 2 t.fr.length (fun c => eP (blT t l w l.length 21 c)) 94, .row 2 t.fr.length (fun c => eP (blT t l w l.length 22 c)) 94, .row 2 t.fr.length (fun c => eP (blT t l w l.length 23 c)) 94, .row 1 24 (oG 0 t.fr.length) 82] ⟨0, []⟩, H' := ⟨0, []⟩, σ := [] } (.tup [.agg [eInts t.fr, .own 24 1 0 24], I 0]) (.tup [eTb (blTb t l w), I 0]) :=
  vm_tup (.cons (vm_agg (.cons vm_p (.cons (vm_fr rfl rfl (blTb_n t l w).symm (Nat.le_refl _) fun j hj => match j, hj with | 0, _ => vm_fr rfl rfl (blTb_len (h := 0) (by decide)).symm (Nat.le_refl _) fun c hc => vm_bP (blTb_at (h := 0) (by decide) hc).symm | 1, _ => vm_fr rfl rfl (blTb_len (h := 1) (by decide)).symm (Nat.le_refl _) fun c hc => vm_bP (blTb_at (h := 1) (by decide) hc).symm | 2, _ => vm_fr rfl rfl (blTb_len (h := 2) (by decide)).symm (Nat.le_refl _) fun c hc => vm_bP (blTb_at (h := 2) (by decide) hc).symm | 3, _ => vm_fr rfl rfl (blTb_len (h := 3) (by decide)).symm (Nat.le_refl _) fun c hc => vm_bP (blTb_at (h := 3) (by decide) hc).symm | 4, _ => vm_fr rfl rfl (blTb_len (h := 4) (by decide)).symm (Nat.le_refl _) fun c hc => vm_bP (blTb_at (h := 4) (by decide) hc).symm | 5, _ => vm_fr rfl rfl (blTb_len (h := 5) (by decide)).symm (Nat.le_refl _) fun c hc => vm_bP (blTb_at (h := 5) (by decide) hc).symm | 6, _ => vm_fr rfl rfl (blTb_len (h := 6) (by decide)).symm (Nat.le_refl _) fun c hc => vm_bP (blTb_at (h := 6) (by decide) hc).symm | 7, _ => vm_fr rfl rfl (blTb_len (h := 7) (by decide)).symm (Nat.le_refl _) fun c hc => vm_bP (blTb_at (h := 7) (by decide) hc).symm | 8, _ => vm_fr rfl rfl (blTb_len (h := 8) (by decide)).symm (Nat.le_refl _) fun c hc => vm_bP (blTb_at (h := 8) (by decide) hc).symm | 9, _ => vm_fr rfl rfl (blTb_len (h := 9) (by decide)).symm (Nat.le_refl _) fun c hc => vm_bP (blTb_at (h := 9) (by decide) hc).symm | 10, _ => vm_fr rfl rfl (blTb_len (h := 10) (by decide)).symm (Nat.le_refl _) fun c hc => vm_bP (blTb_at (h := 10) (by decide) hc).symm | 11, _ => vm_fr rfl rfl (blTb_len (h := 11) (by decide)).symm (Nat.le_refl _) fun c hc => vm_bP (blTb_at (h := 11) (by decide) hc).symm | 12, _ => vm_fr rfl rfl (blTb_len (h := 12) (by decide)).symm (Nat.le_refl _) fun c hc => vm_bP (blTb_at (h := 12) (by decide) hc).symm | 13, _ => vm_fr rfl rfl (blTb_len (h := 13) (by decide)).symm (Nat.le_refl _) fun c hc => vm_bP (blTb_at (h := 13) (by decide) hc).symm | 14, _ => vm_fr rfl rfl (blTb_len (h := 14) (by decide)).symm (Nat.le_refl _) fun c hc => vm_bP (blTb_at (h := 14) (by decide) hc).symm | 15, _ => vm_fr rfl rfl (blTb_len (h := 15) (by decide)).symm (Nat.le_refl _) fun c hc => vm_bP (blTb_at (h := 15) (by decide) hc).symm | 16, _ => vm_fr rfl rfl (blTb_len (h := 16) (by decide)).symm (Nat.le_refl _) fun c hc => vm_bP (blTb_at (h := 16) (by decide) hc).symm | 17, _ => vm_fr rfl rfl (blTb_len (h := 17) (by decide)).symm (Nat.le_refl _) fun c hc => vm_bP (blTb_at (h := 17) (by decide) hc).symm | 18, _ => vm_fr rfl rfl (blTb_len (h := 18) (by decide)).symm (Nat.le_refl _) fun c hc => vm_bP (blTb_at (h := 18) (by decide) hc).symm | 19, _ => vm_fr rfl rfl (blTb_len (h := 19) (by decide)).symm (Nat.le_refl _) fun c hc => vm_bP (blTb_at (h := 19) (by decide) hc).symm | 20, _ => vm_fr rfl rfl (blTb_len (h := 20) (by decide)).symm (Nat.le_refl _) fun c hc => vm_bP (blTb_at (h := 20) (by decide) hc).symm | 21, _ => vm_fr rfl rfl (blTb_len (h := 21) (by decide)).symm (Nat.le_refl _) fun c hc => vm_bP (blTb_at (h := 21) (by decide) hc).symm | 22, _ => vm_fr rfl rfl (blTb_len (h := 22) (by decide)).symm (Nat.le_refl _) fun c hc => vm_bP (blTb_at (h := 22) (by decide) hc).symm | 23, _ => vm_fr rfl rfl (blTb_len (h := 23) (by decide)).symm (Nat.le_refl _) fun c hc => vm_bP (blTb_at (h := 23) (by decide) hc).symm | n + 24, hh => absurd hh (by rw [blTb_n]; omega)) .nil))) (.cons vm_p .nil))
/-- The program and the document blend alike. -/
theorem blend_same {t : Tb} {l : List Rp} {w : Int} (e : opE t l = 0) (hw : 1 ≤ w ∧ w ≤ 10) : ∃ (X : Tb) (c : Int), FewT X ∧ FnOK Tryz.prog 8 [eTb t, eRps l, I w] (.tup [eTb X, I c]) [] ∧ FnOK Tryz.prog 17 [eTb t, eRps l, I w] (.tup [eTb X, I c]) [] := by
  obtain ⟨ht, hz⟩ := opE_val e
  have v := tb_val ht
  obtain ⟨hl, hr⟩ := rps_val hz
  have hf : freqsE t.fr = 0 := (tb_zero ht).1
  rcases lim_first (l := l) (w := w) v l.length (Nat.le_refl _) with h | ⟨b, b1, b2, b3⟩
  · refine ⟨blTb t l w, 0, blTb_few v, ?_, ?_⟩
    · exact (blendedO_ok (k := l.length) v e hw (Nat.le_refl _) (lim_all v hr hw.1 (Nat.le_refl _) h) (fun k => absurd k (Nat.lt_irrefl _)) (fun _ => ⟨rfl, rfl⟩) (fun k => absurd k (Nat.lt_irrefl _))).freeze own_fr
    · exact rBlended_ok v hz hw (fun _ => rfl) fun k => absurd ((bl_tbE v hf hr hw.1).2 h) k
  · refine ⟨tb0, 8, tb0_few, ?_, ?_⟩
    · exact (blendedO_ok (k := b) v e hw (by omega) (lim_all v hr hw.1 (by omega) b2) (fun _ => lim_hit (hr b b1) b2 b3) (fun k => by omega) (fun _ => ⟨rfl, rfl⟩)).freeze tup_tb0
    · refine (rBlended_ok (x := .tup [zTb, I 8]) v hz hw (fun k => ?_) (fun _ => rfl)).freeze tup_tb0
      have k2 := (bl_tbE v hf hr hw.1).1 k
      refine absurd (fun h hh c hc => ?_) b3
      have up := blT_up (i := b + 1) (h := h) (c := c) hr hw.1 (l.length - (b + 1)) (by omega)
      rw [show b + 1 + (l.length - (b + 1)) = l.length by omega] at up
      have := k2 h hh c hc
      omega
end Go.Proofs.YtcdcmeiipfafdaaGreat
