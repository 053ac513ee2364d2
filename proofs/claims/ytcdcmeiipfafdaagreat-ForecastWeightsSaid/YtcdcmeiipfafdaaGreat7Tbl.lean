/-
  The types that the code of this seat uses, as a table; it is the program's.
  Conditions: none.
-/
import Derived.Test.YtcdcmeiipfafdaaGreatFk
import Derived.KernelRfl
import Derived.Test.YtcdcmeiipfafdaaGreatProg
namespace Go.Proofs.YtcdcmeiipfafdaaGreat
open Go.RowKit Fx
@[reducible] def T : Tbl := [(3, ⟨.one, 1, 8, [.int .i64 0]⟩),
  (22, ⟨.slice 3 1 8, 1, 24, [.slice none 0 0]⟩),
  (25, ⟨.struct [(0, 22, 1), (1, 23, 1)], 2, 48, [.slice none 0 0, .slice none 0 0]⟩),
  (26, ⟨.slice 55 4 32, 1, 24, [.slice none 0 0]⟩),
  (94, ⟨.struct [(0, 3, 1), (1, 3, 1)], 2, 16, [.int .i64 0, .int .i64 0]⟩),
  (23, ⟨.slice 82 1 24, 1, 24, [.slice none 0 0]⟩),
  (55, ⟨.struct [(0, 3, 1), (1, 3, 1), (2, 4, 1), (3, 3, 1)], 4, 32, [.int .i64 0, .int .i64 0, .bool false, .int .i64 0]⟩),
  (64, ⟨.struct [(0, 3, 1), (1, 3, 1)], 2, 16, [.int .i64 0, .int .i64 0]⟩),
  (4, ⟨.one, 1, 1, [.bool false]⟩),
  (30, ⟨.one, 1, 8, [.int .i64 0]⟩),
  (41, ⟨.struct [(0, 3, 1), (1, 3, 1)], 2, 16, [.int .i64 0, .int .i64 0]⟩),
  (82, ⟨.slice 94 2 16, 1, 24, [.slice none 0 0]⟩),
  (85, ⟨.struct [(0, 25, 2)], 2, 48, [.slice none 0 0, .slice none 0 0]⟩),
  (66, ⟨.struct [(0, 3, 1), (1, 3, 1), (2, 64, 2), (4, 3, 1)], 5, 40, [.int .i64 0, .int .i64 0, .int .i64 0, .int .i64 0, .int .i64 0]⟩),
  (37, ⟨.array 5 36 2, 10, 80, [.int .i64 0, .int .i64 0, .int .i64 0, .int .i64 0, .int .i64 0, .int .i64 0, .int .i64 0, .int .i64 0, .int .i64 0, .int .i64 0]⟩),
  (121, ⟨.slice 30 1 8, 1, 24, [.slice none 0 0]⟩),
  (70, ⟨.slice 64 2 16, 1, 24, [.slice none 0 0]⟩),
  (153, ⟨.one, 1, 8, [.int .u64 0]⟩),
  (111, ⟨.struct [(0, 85, 2), (2, 3, 1)], 3, 56, [.slice none 0 0, .slice none 0 0, .int .i64 0]⟩),
  (107, ⟨.struct [(0, 3, 1), (1, 3, 1), (2, 3, 1), (3, 3, 1), (4, 64, 2)], 6, 48, [.int .i64 0, .int .i64 0, .int .i64 0, .int .i64 0, .int .i64 0, .int .i64 0]⟩),
  (158, ⟨.one, 1, 8, [.int .u64 0]⟩),
  (36, ⟨.struct [(0, 3, 1), (1, 3, 1)], 2, 16, [.int .i64 0, .int .i64 0]⟩),
  (61, ⟨.slice 107 6 48, 1, 24, [.slice none 0 0]⟩),
  (134, ⟨.slice 22 1 24, 1, 24, [.slice none 0 0]⟩),
  (80, ⟨.struct [(0, 3, 1), (1, 3, 1), (2, 3, 1)], 3, 24, [.int .i64 0, .int .i64 0, .int .i64 0]⟩),
  (132, ⟨.one, 1, 8, [.int .u64 0]⟩),
  (162, ⟨.one, 1, 8, [.pointer none]⟩),
  (53, ⟨.array 2 3 1, 2, 16, [.int .i64 0, .int .i64 0]⟩),
  (151, ⟨.one, 1, 4, [.int .u32 0]⟩),
  (9, ⟨.one, 1, 16, [.string ⟨#[]⟩]⟩),
  (143, ⟨.one, 1, 8, [.int .i64 0]⟩),
  (123, ⟨.one, 1, 8, [.nilFunc]⟩),
  (90, ⟨.one, 1, 8, [.nilFunc]⟩)]
theorem T_mk : mkTbl Tryz.prog [3, 22, 25, 26, 94, 23, 55, 64, 4, 30, 41, 82, 85, 66, 37, 121, 70, 153, 111, 107, 158, 36, 61, 134, 80, 132, 162, 53, 151, 9, 143, 123, 90] = some T := by kernel_rfl
theorem hT : ∀ t i, tget T t = some i → tiOf Tryz.prog t = some i := tbl_ok T_mk
theorem hmix : Tryz.prog.follows .mixedOrders = true := by kernel_rfl
end Go.Proofs.YtcdcmeiipfafdaaGreat
