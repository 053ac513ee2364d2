/-
  The types that the code of this seat uses, as a table; it is the program's.
  Conditions: none.
-/
import Derived.Test.YtplaocfagjeikaaFk
import Derived.KernelRfl
import Derived.Test.YtplaocfagjeikaaProg
namespace Go.Proofs.Ytplaocfagjeikaa
open Go.RowKit Fx
@[reducible] def T : Tbl := [(3, ⟨.one, 1, 8, [.int .i64 0]⟩),
  (24, ⟨.struct [(0, 3, 1), (1, 22, 1)], 2, 32, [.int .i64 0, .slice none 0 0]⟩),
  (34, ⟨.struct [(0, 3, 1), (1, 3, 1)], 2, 16, [.int .i64 0, .int .i64 0]⟩),
  (29, ⟨.struct [(0, 3, 1), (1, 3, 1)], 2, 16, [.int .i64 0, .int .i64 0]⟩),
  (66, ⟨.struct [(0, 3, 1), (1, 34, 2), (3, 64, 1)], 4, 48, [.int .i64 0, .int .i64 0, .int .i64 0, .slice none 0 0]⟩),
  (4, ⟨.one, 1, 1, [.bool false]⟩),
  (22, ⟨.slice 149 2 16, 1, 24, [.slice none 0 0]⟩),
  (129, ⟨.struct [(0, 24, 2), (2, 24, 2)], 4, 64, [.int .i64 0, .slice none 0 0, .int .i64 0, .slice none 0 0]⟩),
  (30, ⟨.one, 1, 8, [.int .i64 0]⟩),
  (64, ⟨.slice 3 1 8, 1, 24, [.slice none 0 0]⟩),
  (48, ⟨.struct [(0, 3, 1), (1, 34, 2)], 3, 24, [.int .i64 0, .int .i64 0, .int .i64 0]⟩),
  (68, ⟨.struct [(0, 3, 1), (1, 3, 1), (2, 3, 1)], 3, 24, [.int .i64 0, .int .i64 0, .int .i64 0]⟩),
  (158, ⟨.struct [(0, 24, 2), (2, 3, 1), (3, 29, 2)], 5, 56, [.int .i64 0, .slice none 0 0, .int .i64 0, .int .i64 0, .int .i64 0]⟩),
  (50, ⟨.struct [(0, 3, 1), (1, 29, 2)], 3, 24, [.int .i64 0, .int .i64 0, .int .i64 0]⟩),
  (149, ⟨.struct [(0, 3, 1), (1, 3, 1)], 2, 16, [.int .i64 0, .int .i64 0]⟩),
  (36, ⟨.struct [(0, 34, 2), (2, 3, 1)], 3, 24, [.int .i64 0, .int .i64 0, .int .i64 0]⟩),
  (99, ⟨.struct [(0, 4, 1), (1, 3, 1), (2, 3, 1)], 3, 24, [.bool false, .int .i64 0, .int .i64 0]⟩),
  (176, ⟨.slice 30 1 8, 1, 24, [.slice none 0 0]⟩),
  (51, ⟨.slice 115 4 32, 1, 24, [.slice none 0 0]⟩),
  (84, ⟨.slice 29 2 16, 1, 24, [.slice none 0 0]⟩),
  (106, ⟨.struct [(0, 3, 1), (1, 3, 1)], 2, 16, [.int .i64 0, .int .i64 0]⟩),
  (117, ⟨.slice 34 2 16, 1, 24, [.slice none 0 0]⟩),
  (115, ⟨.struct [(0, 29, 2), (2, 29, 2)], 4, 32, [.int .i64 0, .int .i64 0, .int .i64 0, .int .i64 0]⟩),
  (190, ⟨.one, 1, 8, [.int .u64 0]⟩),
  (25, ⟨.array 2 3 1, 2, 16, [.int .i64 0, .int .i64 0]⟩),
  (95, ⟨.array 2 29 2, 4, 32, [.int .i64 0, .int .i64 0, .int .i64 0, .int .i64 0]⟩),
  (184, ⟨.one, 1, 8, [.int .u64 0]⟩),
  (181, ⟨.one, 1, 8, [.nilFunc]⟩),
  (187, ⟨.one, 1, 4, [.int .u32 0]⟩),
  (172, ⟨.array 2 24 2, 4, 64, [.int .i64 0, .slice none 0 0, .int .i64 0, .slice none 0 0]⟩)]
theorem T_mk : mkTbl Try.prog [3, 24, 34, 29, 66, 4, 22, 129, 30, 64, 48, 68, 158, 50, 149, 36, 99, 176, 51, 84, 106, 117, 115, 190, 25, 95, 184, 181, 187, 172] = some T := by kernel_rfl
theorem hT : ∀ t i, tget T t = some i → tiOf Try.prog t = some i := tbl_ok T_mk
theorem hmix : Try.prog.follows .mixedOrders = true := by kernel_rfl
end Go.Proofs.Ytplaocfagjeikaa
