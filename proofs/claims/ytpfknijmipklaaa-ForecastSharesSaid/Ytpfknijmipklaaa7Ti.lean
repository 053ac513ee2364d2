/-
  Chapter 7: records, queries, rules, tables and plans that come in.
  Conditions: none.
-/
import Derived.Test.Ytpfknijmipklaaa7I
import Derived.Test.Ytpfknijmipklaaa7E
import Derived.Test.YtpfknijmipklaaaFin
namespace Go.Proofs.Ytpfknijmipklaaa
open Go.RowKit Fx
theorem in_i : In Try.prog 3 I (fun n => -9223372036854775808 ≤ n ∧ n ≤ 9223372036854775807) := in_int Try.underlying3 (by kernel_rfl)
theorem in_range : In Try.prog 24 eP (fun _ => True) :=
  in_struct Try.underlying24 (by kernel_rfl) (inL_cons in_i (inL_cons in_i inL_nil)) fun a _ => ⟨(a.1, a.2.1), trivial, rfl⟩
theorem in_cnt : In Try.prog 40 eP (fun _ => True) :=
  in_struct Try.underlying40 (by kernel_rfl) (inL_cons in_i (inL_cons in_i inL_nil)) fun a _ => ⟨(a.1, a.2.1), trivial, rfl⟩
theorem in_ints : In Try.prog 59 eInts (fun l => l.length ≤ 9223372036854775807) :=
  (in_slice (f := I) 0 Try.underlying59 (by kernel_rfl) (by kernel_rfl) (by decide) (fun _ _ h => by cases h) in_i).mono fun _ h => h.1
theorem in_ranges : In Try.prog 33 ePs (fun l => l.length ≤ 9223372036854775807) :=
  (in_slice (f := eP) (0, 0) Try.underlying33 (by kernel_rfl) (by kernel_rfl) (by decide) (fun _ _ h => by cases h) in_range).mono fun _ h => h.1
theorem in_cnts : In Try.prog 94 ePs (fun l => l.length ≤ 9223372036854775807) :=
  (in_slice (f := eP) (0, 0) Try.underlying94 (by kernel_rfl) (by kernel_rfl) (by decide) (fun _ _ h => by cases h) in_cnt).mono fun _ h => h.1
theorem in_hs : In Try.prog 62 eHs (fun l => l.length ≤ 9223372036854775807) :=
  (in_slice (f := ePs) [] Try.underlying62 (by kernel_rfl) (by kernel_rfl) (by decide) (fun _ _ h => by cases h) in_cnts).mono fun _ h => h.1
theorem in_tb : In Try.prog 64 eTb (fun t => t.fr.length ≤ 9223372036854775807 ∧ t.hs.length ≤ 9223372036854775807) :=
  in_struct Try.underlying64 (by kernel_rfl) (inL_cons in_ints (inL_cons in_hs inL_nil)) fun a h => ⟨⟨a.1, a.2.1⟩, ⟨h.1, h.2.1⟩, rfl⟩
theorem in_rc : In Try.prog 79 eRc (fun _ => True) :=
  in_struct Try.underlying79 (by kernel_rfl) (inL_cons in_i (inL_cons in_i (inL_cons in_i (inL_cons in_i (inL_cons in_range inL_nil))))) fun a _ => ⟨⟨a.1, a.2.1, a.2.2.1, a.2.2.2.1, a.2.2.2.2.1.1, a.2.2.2.2.1.2⟩, trivial, rfl⟩
theorem in_rcs : In Try.prog 22 eRcs (fun l => l.length ≤ 9223372036854775807) :=
  (in_slice (f := eRc) rc0 Try.underlying22 (by kernel_rfl) (by kernel_rfl) (by decide) (fun _ _ h => by cases h) in_rc).mono fun _ h => h.1
theorem in_qr : In Try.prog 26 eQr (fun _ => True) :=
  in_struct Try.underlying26 (by kernel_rfl) (inL_cons in_i (inL_cons in_i (inL_cons in_range (inL_cons in_i inL_nil)))) fun a _ => ⟨⟨a.1, a.2.1, a.2.2.1.1, a.2.2.1.2, a.2.2.2.1⟩, trivial, rfl⟩
theorem in_rl : In Try.prog 70 eRl (fun _ => True) :=
  in_struct Try.underlying70 (by kernel_rfl) (inL_cons in_i (inL_cons in_i (inL_cons in_i inL_nil))) fun a _ => ⟨⟨a.1, a.2.1, a.2.2.1⟩, trivial, rfl⟩
end Go.Proofs.Ytpfknijmipklaaa
