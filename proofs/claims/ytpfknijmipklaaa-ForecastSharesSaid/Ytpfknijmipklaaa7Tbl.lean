/-
  The types that the code of this seat uses, as a table; it is the program's.
  Conditions: none.
-/
import Derived.Test.YtpfknijmipklaaaFk
import Derived.KernelRfl
import Derived.Test.YtpfknijmipklaaaProg
namespace Go.Proofs.Ytpfknijmipklaaa
open Go.RowKit Fx
@[reducible] def T : Tbl := [(3, ⟨.one, 1, 8, [.int .i64 0]⟩),
  (59, ⟨.slice 3 1 8, 1, 24, [.slice none 0 0]⟩),
  (24, ⟨.struct [(0, 3, 1), (1, 3, 1)], 2, 16, [.int .i64 0, .int .i64 0]⟩),
  (26, ⟨.struct [(0, 3, 1), (1, 3, 1), (2, 24, 2), (4, 3, 1)], 5, 40, [.int .i64 0, .int .i64 0, .int .i64 0, .int .i64 0, .int .i64 0]⟩),
  (22, ⟨.slice 79 6 48, 1, 24, [.slice none 0 0]⟩),
  (4, ⟨.one, 1, 1, [.bool false]⟩),
  (33, ⟨.slice 24 2 16, 1, 24, [.slice none 0 0]⟩),
  (29, ⟨.one, 1, 8, [.int .i64 0]⟩),
  (79, ⟨.struct [(0, 3, 1), (1, 3, 1), (2, 3, 1), (3, 3, 1), (4, 24, 2)], 6, 48, [.int .i64 0, .int .i64 0, .int .i64 0, .int .i64 0, .int .i64 0, .int .i64 0]⟩),
  (40, ⟨.struct [(0, 3, 1), (1, 3, 1)], 2, 16, [.int .i64 0, .int .i64 0]⟩),
  (64, ⟨.struct [(0, 59, 1), (1, 62, 1)], 2, 48, [.slice none 0 0, .slice none 0 0]⟩),
  (49, ⟨.struct [(0, 3, 1), (1, 3, 1)], 2, 16, [.int .i64 0, .int .i64 0]⟩),
  (107, ⟨.slice 29 1 8, 1, 24, [.slice none 0 0]⟩),
  (128, ⟨.one, 1, 8, [.int .u64 0]⟩),
  (89, ⟨.struct [(0, 87, 2), (2, 3, 1)], 3, 56, [.slice none 0 0, .slice none 0 0, .int .i64 0]⟩),
  (134, ⟨.one, 1, 8, [.int .u64 0]⟩),
  (110, ⟨.slice 59 1 24, 1, 24, [.slice none 0 0]⟩),
  (87, ⟨.struct [(0, 64, 2)], 2, 48, [.slice none 0 0, .slice none 0 0]⟩),
  (62, ⟨.slice 94 1 24, 1, 24, [.slice none 0 0]⟩),
  (70, ⟨.struct [(0, 3, 1), (1, 3, 1), (2, 3, 1)], 3, 24, [.int .i64 0, .int .i64 0, .int .i64 0]⟩),
  (46, ⟨.array 2 3 1, 2, 16, [.int .i64 0, .int .i64 0]⟩),
  (104, ⟨.one, 1, 8, [.int .u64 0]⟩),
  (138, ⟨.one, 1, 8, [.pointer none]⟩),
  (94, ⟨.slice 40 2 16, 1, 24, [.slice none 0 0]⟩),
  (126, ⟨.one, 1, 4, [.int .u32 0]⟩),
  (9, ⟨.one, 1, 16, [.string ⟨#[]⟩]⟩),
  (118, ⟨.one, 1, 8, [.int .i64 0]⟩),
  (76, ⟨.one, 1, 8, [.nilFunc]⟩)]
theorem T_mk : mkTbl Try.prog [3, 59, 24, 26, 22, 4, 33, 29, 79, 40, 64, 49, 107, 128, 89, 134, 110, 87, 62, 70, 46, 104, 138, 94, 126, 9, 118, 76] = some T := by kernel_rfl
theorem hT : ∀ t i, tget T t = some i → tiOf Try.prog t = some i := tbl_ok T_mk
theorem hmix : Try.prog.follows .mixedOrders = true := by kernel_rfl
end Go.Proofs.Ytpfknijmipklaaa
