/-
  The types that the code of this seat uses, as a table; it is the program's.
  Conditions: none.
-/
import Derived.Test.YtkliejppigfjiaaFk
import Derived.KernelRfl
import Derived.Test.YtkliejppigfjiaaProg
namespace Go.Proofs.Ytkliejppigfjiaa
open Go.RowKit Fx
@[reducible] def T : Tbl := [(3, ⟨.one, 1, 8, [.int .i64 0]⟩),
  (27, ⟨.struct [(0, 3, 1), (1, 25, 1)], 2, 32, [.int .i64 0, .slice none 0 0]⟩),
  (57, ⟨.slice 70 5 48, 1, 24, [.slice none 0 0]⟩),
  (70, ⟨.struct [(0, 3, 1), (1, 3, 1), (2, 3, 1), (3, 3, 1), (4, 9, 1)], 5, 48, [.int .i64 0, .int .i64 0, .int .i64 0, .int .i64 0, .string ⟨#[]⟩]⟩),
  (24, ⟨.struct [(0, 3, 1), (1, 3, 1), (2, 22, 1)], 3, 40, [.int .i64 0, .int .i64 0, .slice none 0 0]⟩),
  (25, ⟨.slice 3 1 8, 1, 24, [.slice none 0 0]⟩),
  (4, ⟨.one, 1, 1, [.bool false]⟩),
  (37, ⟨.struct [(0, 3, 1), (1, 3, 1)], 2, 16, [.int .i64 0, .int .i64 0]⟩),
  (40, ⟨.one, 1, 8, [.int .i64 0]⟩),
  (96, ⟨.struct [(0, 24, 3)], 3, 40, [.int .i64 0, .int .i64 0, .slice none 0 0]⟩),
  (29, ⟨.struct [(0, 27, 2), (2, 27, 2)], 4, 64, [.int .i64 0, .slice none 0 0, .int .i64 0, .slice none 0 0]⟩),
  (22, ⟨.slice 94 1 24, 1, 24, [.slice none 0 0]⟩),
  (146, ⟨.slice 40 1 8, 1, 24, [.slice none 0 0]⟩),
  (30, ⟨.slice 39 3 32, 1, 24, [.slice none 0 0]⟩),
  (9, ⟨.one, 1, 16, [.string ⟨#[]⟩]⟩),
  (126, ⟨.struct [(0, 96, 3), (3, 85, 6)], 9, 88, [.int .i64 0, .int .i64 0, .slice none 0 0, .int .i64 0, .int .i64 0, .int .i64 0, .int .i64 0, .int .i64 0, .int .i64 0]⟩),
  (94, ⟨.slice 136 2 16, 1, 24, [.slice none 0 0]⟩),
  (85, ⟨.struct [(0, 3, 1), (1, 3, 1), (2, 3, 1), (3, 3, 1), (4, 3, 1), (5, 3, 1)], 6, 48, [.int .i64 0, .int .i64 0, .int .i64 0, .int .i64 0, .int .i64 0, .int .i64 0]⟩),
  (39, ⟨.struct [(0, 9, 1), (1, 37, 2)], 3, 32, [.string ⟨#[]⟩, .int .i64 0, .int .i64 0]⟩),
  (136, ⟨.struct [(0, 3, 1), (1, 3, 1)], 2, 16, [.int .i64 0, .int .i64 0]⟩),
  (129, ⟨.slice 25 1 24, 1, 24, [.slice none 0 0]⟩),
  (5, ⟨.one, 1, 1, [.int .u8 0]⟩),
  (111, ⟨.one, 1, 8, [.map none]⟩),
  (123, ⟨.one, 1, 8, [.nilFunc]⟩),
  (32, ⟨.struct [(0, 30, 1), (1, 3, 1)], 2, 32, [.slice none 0 0, .int .i64 0]⟩),
  (92, ⟨.struct [(0, 3, 1), (1, 37, 2)], 3, 24, [.int .i64 0, .int .i64 0, .int .i64 0]⟩),
  (139, ⟨.slice 37 2 16, 1, 24, [.slice none 0 0]⟩),
  (93, ⟨.slice 92 3 24, 1, 24, [.slice none 0 0]⟩),
  (157, ⟨.slice 57 1 24, 1, 24, [.slice none 0 0]⟩),
  (170, ⟨.one, 1, 8, [.int .u64 0]⟩),
  (113, ⟨.one, 1, 8, [.nilFunc]⟩),
  (151, ⟨.one, 1, 8, [.nilFunc]⟩),
  (156, ⟨.slice 5 1 1, 1, 24, [.slice none 0 0]⟩),
  (148, ⟨.one, 1, 8, [.nilFunc]⟩)]
theorem T_mk : mkTbl Try.prog [3, 27, 57, 70, 24, 25, 4, 37, 40, 96, 29, 22, 146, 30, 9, 126, 94, 85, 39, 136, 129, 5, 111, 123, 32, 92, 139, 93, 157, 170, 113, 151, 156, 148] = some T := by kernel_rfl
theorem hT : ∀ t i, tget T t = some i → tiOf Try.prog t = some i := tbl_ok T_mk
theorem hmix : Try.prog.follows .mixedOrders = true := by kernel_rfl
end Go.Proofs.Ytkliejppigfjiaa
