/-
  The types that the code of this seat uses, as a table; it is the program's.
  Conditions: none.
-/
import Derived.Test.YtfmbgkbnmjbefaaFk
import Derived.KernelRfl
import Derived.Test.YtfmbgkbnmjbefaaProg
namespace Go.Proofs.Ytfmbgkbnmjbefaa
open Go.RowKit Fx
@[reducible] def T : Tbl := [(3, ⟨.one, 1, 8, [.int .i64 0]⟩),
  (22, ⟨.slice 3 1 8, 1, 24, [.slice none 0 0]⟩),
  (25, ⟨.struct [(0, 22, 1), (1, 23, 1)], 2, 48, [.slice none 0 0, .slice none 0 0]⟩),
  (51, ⟨.struct [(0, 3, 1), (1, 3, 1)], 2, 16, [.int .i64 0, .int .i64 0]⟩),
  (35, ⟨.struct [(0, 3, 1), (1, 3, 1)], 2, 16, [.int .i64 0, .int .i64 0]⟩),
  (4, ⟨.one, 1, 1, [.bool false]⟩),
  (23, ⟨.slice 36 1 24, 1, 24, [.slice none 0 0]⟩),
  (53, ⟨.struct [(0, 3, 1), (1, 3, 1), (2, 51, 2), (4, 3, 1)], 5, 40, [.int .i64 0, .int .i64 0, .int .i64 0, .int .i64 0, .int .i64 0]⟩),
  (37, ⟨.one, 1, 8, [.int .i64 0]⟩),
  (49, ⟨.slice 70 6 48, 1, 24, [.slice none 0 0]⟩),
  (36, ⟨.slice 35 2 16, 1, 24, [.slice none 0 0]⟩),
  (92, ⟨.slice 51 2 16, 1, 24, [.slice none 0 0]⟩),
  (27, ⟨.struct [(0, 3, 1), (1, 3, 1), (2, 4, 1), (3, 3, 1)], 4, 32, [.int .i64 0, .int .i64 0, .bool false, .int .i64 0]⟩),
  (121, ⟨.struct [(0, 25, 2)], 2, 48, [.slice none 0 0, .slice none 0 0]⟩),
  (45, ⟨.struct [(0, 3, 1), (1, 3, 1)], 2, 16, [.int .i64 0, .int .i64 0]⟩),
  (156, ⟨.slice 37 1 8, 1, 24, [.slice none 0 0]⟩),
  (142, ⟨.struct [(0, 121, 2), (2, 3, 1)], 3, 56, [.slice none 0 0, .slice none 0 0, .int .i64 0]⟩),
  (70, ⟨.struct [(0, 3, 1), (1, 3, 1), (2, 3, 1), (3, 3, 1), (4, 51, 2)], 6, 48, [.int .i64 0, .int .i64 0, .int .i64 0, .int .i64 0, .int .i64 0, .int .i64 0]⟩),
  (73, ⟨.struct [(0, 3, 1), (1, 3, 1), (2, 3, 1)], 3, 24, [.int .i64 0, .int .i64 0, .int .i64 0]⟩),
  (32, ⟨.slice 27 4 32, 1, 24, [.slice none 0 0]⟩),
  (182, ⟨.one, 1, 8, [.int .u64 0]⟩),
  (187, ⟨.one, 1, 8, [.int .u64 0]⟩),
  (161, ⟨.slice 22 1 24, 1, 24, [.slice none 0 0]⟩),
  (94, ⟨.struct [(0, 22, 1), (1, 92, 1)], 2, 48, [.slice none 0 0, .slice none 0 0]⟩),
  (169, ⟨.one, 1, 8, [.int .u64 0]⟩),
  (180, ⟨.one, 1, 4, [.int .u32 0]⟩),
  (191, ⟨.one, 1, 8, [.pointer none]⟩),
  (9, ⟨.one, 1, 16, [.string ⟨#[]⟩]⟩),
  (164, ⟨.one, 1, 8, [.nilFunc]⟩),
  (158, ⟨.one, 1, 8, [.nilFunc]⟩),
  (173, ⟨.one, 1, 8, [.int .i64 0]⟩),
  (79, ⟨.one, 1, 8, [.nilFunc]⟩)]
theorem T_mk : mkTbl Try.prog [3, 22, 25, 51, 35, 4, 23, 53, 37, 49, 36, 92, 27, 121, 45, 156, 142, 70, 73, 32, 182, 187, 161, 94, 169, 180, 191, 9, 164, 158, 173, 79] = some T := by kernel_rfl
theorem hT : ∀ t i, tget T t = some i → tiOf Try.prog t = some i := tbl_ok T_mk
theorem hmix : Try.prog.follows .mixedOrders = true := by kernel_rfl
end Go.Proofs.Ytfmbgkbnmjbefaa
