/-
  The types that the code of this seat uses, as a table; it is the program's.
  Conditions: none.
-/
import Derived.Test.YtdfcedndkplabaaFk
import Derived.KernelRfl
import Derived.Test.YtdfcedndkplabaaProg
namespace Go.Proofs.Ytdfcedndkplabaa
open Go.RowKit Fx
@[reducible] def T : Tbl := [(3, ⟨.one, 1, 8, [.int .i64 0]⟩),
  (46, ⟨.struct [(0, 3, 1), (1, 44, 1)], 2, 32, [.int .i64 0, .slice none 0 0]⟩),
  (26, ⟨.struct [(0, 3, 1), (1, 3, 1)], 2, 16, [.int .i64 0, .int .i64 0]⟩),
  (24, ⟨.struct [(0, 3, 1), (1, 22, 1)], 2, 32, [.int .i64 0, .slice none 0 0]⟩),
  (58, ⟨.struct [(0, 3, 1), (1, 3, 1)], 2, 16, [.int .i64 0, .int .i64 0]⟩),
  (44, ⟨.slice 3 1 8, 1, 24, [.slice none 0 0]⟩),
  (48, ⟨.struct [(0, 46, 2), (2, 46, 2)], 4, 64, [.int .i64 0, .slice none 0 0, .int .i64 0, .slice none 0 0]⟩),
  (88, ⟨.struct [(0, 24, 2), (2, 3, 1), (3, 26, 2)], 5, 56, [.int .i64 0, .slice none 0 0, .int .i64 0, .int .i64 0, .int .i64 0]⟩),
  (22, ⟨.slice 52 2 16, 1, 24, [.slice none 0 0]⟩),
  (4, ⟨.one, 1, 1, [.bool false]⟩),
  (31, ⟨.one, 1, 8, [.int .i64 0]⟩),
  (52, ⟨.struct [(0, 3, 1), (1, 3, 1)], 2, 16, [.int .i64 0, .int .i64 0]⟩),
  (118, ⟨.slice 31 1 8, 1, 24, [.slice none 0 0]⟩),
  (72, ⟨.struct [(0, 3, 1), (1, 58, 2), (3, 44, 1)], 4, 48, [.int .i64 0, .int .i64 0, .int .i64 0, .slice none 0 0]⟩),
  (37, ⟨.struct [(0, 4, 1), (1, 3, 1), (2, 3, 1)], 3, 24, [.bool false, .int .i64 0, .int .i64 0]⟩),
  (30, ⟨.slice 26 2 16, 1, 24, [.slice none 0 0]⟩),
  (68, ⟨.struct [(0, 3, 1), (1, 3, 1), (2, 3, 1)], 3, 24, [.int .i64 0, .int .i64 0, .int .i64 0]⟩),
  (54, ⟨.slice 58 2 16, 1, 24, [.slice none 0 0]⟩),
  (142, ⟨.one, 1, 8, [.int .u64 0]⟩),
  (74, ⟨.struct [(0, 58, 2), (2, 3, 1)], 3, 24, [.int .i64 0, .int .i64 0, .int .i64 0]⟩),
  (79, ⟨.struct [(0, 3, 1), (1, 58, 2)], 3, 24, [.int .i64 0, .int .i64 0, .int .i64 0]⟩),
  (81, ⟨.struct [(0, 3, 1), (1, 26, 2)], 3, 24, [.int .i64 0, .int .i64 0, .int .i64 0]⟩),
  (136, ⟨.one, 1, 8, [.int .u64 0]⟩),
  (123, ⟨.one, 1, 8, [.nilFunc]⟩),
  (139, ⟨.one, 1, 4, [.int .u32 0]⟩)]
theorem T_mk : mkTbl Try.prog [3, 46, 26, 24, 58, 44, 48, 88, 22, 4, 31, 52, 118, 72, 37, 30, 68, 54, 142, 74, 79, 81, 136, 123, 139] = some T := by kernel_rfl
theorem hT : ∀ t i, tget T t = some i → tiOf Try.prog t = some i := tbl_ok T_mk
theorem hmix : Try.prog.follows .mixedOrders = true := by kernel_rfl
end Go.Proofs.Ytdfcedndkplabaa
