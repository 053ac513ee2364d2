/-
  The types that the code of this seat uses, as a table; it is the program's.
  Conditions: none.
-/
import Derived.Test.YtmiphilcplojnaaFk
import Derived.KernelRfl
import Derived.Test.YtmiphilcplojnaaProg
namespace Go.Proofs.Ytmiphilcplojnaa
open Go.RowKit Fx
@[reducible] def T : Tbl := [(3, ⟨.one, 1, 8, [.int .i64 0]⟩),
  (24, ⟨.struct [(0, 3, 1), (1, 3, 1), (2, 22, 1)], 3, 40, [.int .i64 0, .int .i64 0, .slice none 0 0]⟩),
  (27, ⟨.struct [(0, 3, 1), (1, 25, 1)], 2, 32, [.int .i64 0, .slice none 0 0]⟩),
  (25, ⟨.slice 3 1 8, 1, 24, [.slice none 0 0]⟩),
  (37, ⟨.struct [(0, 3, 1), (1, 3, 1)], 2, 16, [.int .i64 0, .int .i64 0]⟩),
  (69, ⟨.struct [(0, 3, 1), (1, 3, 1), (2, 3, 1), (3, 3, 1), (4, 3, 1), (5, 3, 1)], 6, 48, [.int .i64 0, .int .i64 0, .int .i64 0, .int .i64 0, .int .i64 0, .int .i64 0]⟩),
  (4, ⟨.one, 1, 1, [.bool false]⟩),
  (31, ⟨.one, 1, 8, [.int .i64 0]⟩),
  (129, ⟨.struct [(0, 24, 3)], 3, 40, [.int .i64 0, .int .i64 0, .slice none 0 0]⟩),
  (115, ⟨.slice 25 1 24, 1, 24, [.slice none 0 0]⟩),
  (22, ⟨.slice 82 1 24, 1, 24, [.slice none 0 0]⟩),
  (148, ⟨.struct [(0, 129, 3), (3, 69, 6)], 9, 88, [.int .i64 0, .int .i64 0, .slice none 0 0, .int .i64 0, .int .i64 0, .int .i64 0, .int .i64 0, .int .i64 0, .int .i64 0]⟩),
  (55, ⟨.slice 66 3 24, 1, 24, [.slice none 0 0]⟩),
  (82, ⟨.slice 84 2 16, 1, 24, [.slice none 0 0]⟩),
  (99, ⟨.slice 103 3 32, 1, 24, [.slice none 0 0]⟩),
  (98, ⟨.struct [(0, 27, 2), (2, 27, 2)], 4, 64, [.int .i64 0, .slice none 0 0, .int .i64 0, .slice none 0 0]⟩),
  (164, ⟨.slice 31 1 8, 1, 24, [.slice none 0 0]⟩),
  (84, ⟨.struct [(0, 3, 1), (1, 3, 1)], 2, 16, [.int .i64 0, .int .i64 0]⟩),
  (103, ⟨.struct [(0, 9, 1), (1, 37, 2)], 3, 32, [.string ⟨#[]⟩, .int .i64 0, .int .i64 0]⟩),
  (66, ⟨.struct [(0, 3, 1), (1, 37, 2)], 3, 24, [.int .i64 0, .int .i64 0, .int .i64 0]⟩),
  (9, ⟨.one, 1, 16, [.string ⟨#[]⟩]⟩),
  (71, ⟨.slice 80 3 24, 1, 24, [.slice none 0 0]⟩),
  (140, ⟨.slice 37 2 16, 1, 24, [.slice none 0 0]⟩),
  (5, ⟨.one, 1, 1, [.int .u8 0]⟩),
  (101, ⟨.struct [(0, 99, 1), (1, 3, 1)], 2, 32, [.slice none 0 0, .int .i64 0]⟩),
  (123, ⟨.struct [(0, 27, 2), (2, 115, 1)], 3, 56, [.int .i64 0, .slice none 0 0, .slice none 0 0]⟩),
  (80, ⟨.struct [(0, 3, 1), (1, 37, 2)], 3, 24, [.int .i64 0, .int .i64 0, .int .i64 0]⟩),
  (134, ⟨.one, 1, 8, [.nilFunc]⟩),
  (173, ⟨.one, 1, 8, [.nilFunc]⟩),
  (176, ⟨.slice 5 1 1, 1, 24, [.slice none 0 0]⟩),
  (171, ⟨.one, 1, 8, [.nilFunc]⟩)]
theorem T_mk : mkTbl Try.prog [3, 24, 27, 25, 37, 69, 4, 31, 129, 115, 22, 148, 55, 82, 99, 98, 164, 84, 103, 66, 9, 71, 140, 5, 101, 123, 80, 134, 173, 176, 171] = some T := by kernel_rfl
theorem hT : ∀ t i, tget T t = some i → tiOf Try.prog t = some i := tbl_ok T_mk
theorem hmix : Try.prog.follows .mixedOrders = true := by kernel_rfl
end Go.Proofs.Ytmiphilcplojnaa
