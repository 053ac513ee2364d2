/-
  What comes in: arrays of two.
  Conditions: none.
-/
import Derived.Test.YtpfknijmipklaaaFin
namespace Go.Proofs.Ytpfknijmipklaaa.Fx
open Go.RowKit Go.ChangeShapes Go.WideShapes
variable {P : Program}
theorem in_arr2 {t e : TypeId} {α : Type} {f : α → V} {Ok : α → Prop} (ht : P.underlying t = some (.array 2 e)) (hc : P.cellsOf t = P.cellsOf e + P.cellsOf e) (h : In P e f Ok) : In P t (fun p : α × α => .agg ((f p.1).cells ++ (f p.2).cells)) (fun p => Ok p.1 ∧ Ok p.2) := by
  intro H enc W fuel cs x hx
  obtain ⟨xs, m, rfl, rfl, hl, hlen, hf⟩ := DataW.trod_array ht hx
  match xs, hlen with
  | [y0, y1], _ =>
    have h0 := hf 0 (by omega)
    have h1 := hf 1 (by omega)
    rw [Nat.zero_mul, List.drop_zero] at h0
    rw [Nat.one_mul] at h1
    obtain ⟨a, a1, a2, a3, a4⟩ := h H enc W m _ _ (h0.trans rfl)
    obtain ⟨b, b1, b2, b3, b4⟩ := h H enc W m _ _ (h1.trans rfl)
    have e1 : cs = cs.take (P.cellsOf e) ++ (cs.drop (P.cellsOf e)).take (P.cellsOf e) := by
      conv => lhs; rw [← List.take_append_drop (P.cellsOf e) cs]
      congr 1
      rw [List.take_of_length_le (by rw [List.length_drop]; omega)]
    refine ⟨(a, b), ⟨a1, b1⟩, ?_, fun u hu => ?_, hl⟩
    · rw [e1]
      exact a2.append b2
    · rw [e1] at hu
      rcases List.mem_append.1 hu with hu | hu
      · exact a3 u hu
      · exact b3 u hu
section
variable {H : Type} {enc : TypeId × Value → H} {W : World} {t : TypeId} {α : Type} {f : α → V} {Ok : α → Prop} {v : Value} {d : DataW H} {ps : List MemPlace} {r : Reach} {base : Nat}
theorem come_arr {n : Nat} {e : TypeId} (h : In P t f Ok) (ht : P.underlying t = some (.array n e)) (hf : ∀ a, ∃ vs, f a = .agg vs) (hv : Value.okWide P W r base t v) (hd : DataW.Trod enc P W 0 (fun _ => true) true t v d ps) : ∃ a, Ok a ∧ VR (m0 W) (f a) v := by
  have hv' : ∃ cs, v = .agg cs := by
    simp only [Value.okWide, ht] at hv
    obtain ⟨cs, h1, _⟩ := hv
    exact ⟨cs, h1⟩
  obtain ⟨cs, rfl⟩ := hv'
  obtain ⟨fuel, hd⟩ := hd
  obtain ⟨a, h1, h2, _⟩ := h H enc W fuel _ _ hd
  obtain ⟨vs, e⟩ := hf a
  refine ⟨a, h1, ?_⟩
  rw [e] at h2 ⊢
  exact VR.aggL (by simpa [V.cells, Value.cells] using h2)
end
end Go.Proofs.Ytpfknijmipklaaa.Fx
