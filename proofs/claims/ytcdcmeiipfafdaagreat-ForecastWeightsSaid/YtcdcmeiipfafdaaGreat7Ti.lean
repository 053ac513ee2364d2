/-
  Chapter 7: records, queries, rules, tables and plans that come in.
  Conditions: none.
-/
import Derived.Test.YtcdcmeiipfafdaaGreat7I
import Derived.Test.YtcdcmeiipfafdaaGreat7E
import Derived.Test.YtcdcmeiipfafdaaGreatFin
namespace Go.Proofs.YtcdcmeiipfafdaaGreat
open Go.RowKit Fx
theorem in_i : In Tryz.prog 3 I (fun n => -9223372036854775808 ≤ n ∧ n ≤ 9223372036854775807) := in_int Tryz.underlying3 (by kernel_rfl)
theorem in_range : In Tryz.prog 64 eP (fun _ => True) :=
  in_struct Tryz.underlying64 (by kernel_rfl) (inL_cons in_i (inL_cons in_i inL_nil)) fun a _ => ⟨(a.1, a.2.1), trivial, rfl⟩
theorem in_cnt : In Tryz.prog 94 eP (fun _ => True) :=
  in_struct Tryz.underlying94 (by kernel_rfl) (inL_cons in_i (inL_cons in_i inL_nil)) fun a _ => ⟨(a.1, a.2.1), trivial, rfl⟩
theorem in_ints : In Tryz.prog 22 eInts (fun l => l.length ≤ 9223372036854775807) :=
  (in_slice (f := I) 0 Tryz.underlying22 (by kernel_rfl) (by kernel_rfl) (by decide) (fun _ _ h => by cases h) in_i).mono fun _ h => h.1
theorem in_ranges : In Tryz.prog 70 ePs (fun l => l.length ≤ 9223372036854775807) :=
  (in_slice (f := eP) (0, 0) Tryz.underlying70 (by kernel_rfl) (by kernel_rfl) (by decide) (fun _ _ h => by cases h) in_range).mono fun _ h => h.1
theorem in_cnts : In Tryz.prog 82 ePs (fun l => l.length ≤ 9223372036854775807) :=
  (in_slice (f := eP) (0, 0) Tryz.underlying82 (by kernel_rfl) (by kernel_rfl) (by decide) (fun _ _ h => by cases h) in_cnt).mono fun _ h => h.1
theorem in_hs : In Tryz.prog 23 eHs (fun l => l.length ≤ 9223372036854775807) :=
  (in_slice (f := ePs) [] Tryz.underlying23 (by kernel_rfl) (by kernel_rfl) (by decide) (fun _ _ h => by cases h) in_cnts).mono fun _ h => h.1
theorem in_tb : In Tryz.prog 25 eTb (fun t => t.fr.length ≤ 9223372036854775807 ∧ t.hs.length ≤ 9223372036854775807) :=
  in_struct Tryz.underlying25 (by kernel_rfl) (inL_cons in_ints (inL_cons in_hs inL_nil)) fun a h => ⟨⟨a.1, a.2.1⟩, ⟨h.1, h.2.1⟩, rfl⟩
theorem in_rc : In Tryz.prog 107 eRc (fun _ => True) :=
  in_struct Tryz.underlying107 (by kernel_rfl) (inL_cons in_i (inL_cons in_i (inL_cons in_i (inL_cons in_i (inL_cons in_range inL_nil))))) fun a _ => ⟨⟨a.1, a.2.1, a.2.2.1, a.2.2.2.1, a.2.2.2.2.1.1, a.2.2.2.2.1.2⟩, trivial, rfl⟩
theorem in_rcs : In Tryz.prog 61 eRcs (fun l => l.length ≤ 9223372036854775807) :=
  (in_slice (f := eRc) rc0 Tryz.underlying61 (by kernel_rfl) (by kernel_rfl) (by decide) (fun _ _ h => by cases h) in_rc).mono fun _ h => h.1
theorem in_qr : In Tryz.prog 66 eQr (fun _ => True) :=
  in_struct Tryz.underlying66 (by kernel_rfl) (inL_cons in_i (inL_cons in_i (inL_cons in_range (inL_cons in_i inL_nil)))) fun a _ => ⟨⟨a.1, a.2.1, a.2.2.1.1, a.2.2.1.2, a.2.2.2.1⟩, trivial, rfl⟩
theorem in_rl : In Tryz.prog 80 eRl (fun _ => True) :=
  in_struct Tryz.underlying80 (by kernel_rfl) (inL_cons in_i (inL_cons in_i (inL_cons in_i inL_nil))) fun a _ => ⟨⟨a.1, a.2.1, a.2.2.1⟩, trivial, rfl⟩
end Go.Proofs.YtcdcmeiipfafdaaGreat
