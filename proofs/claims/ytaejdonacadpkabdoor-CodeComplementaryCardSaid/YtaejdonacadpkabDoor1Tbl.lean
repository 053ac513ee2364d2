/-
  The types that the code of this seat uses, as a table; it is the program's.
  Conditions: none.
-/
import Derived.Test.YtaejdonacadpkabDoorFk
import Derived.KernelRfl
import Derived.Test.YtaejdonacadpkabDoorProg
namespace Go.Proofs.YtaejdonacadpkabDoor
open Go.RowKit Fx
@[reducible] def T : Tbl := [(3, ⟨.one, 1, 8, [.int .i64 0]⟩),
  (22, ⟨.slice 3 1 8, 1, 24, [.slice none 0 0]⟩),
  (24, ⟨.struct [(0, 22, 1), (1, 22, 1)], 2, 48, [.slice none 0 0, .slice none 0 0]⟩),
  (41, ⟨.slice 78 2 16, 1, 24, [.slice none 0 0]⟩),
  (78, ⟨.struct [(0, 3, 1), (1, 3, 1)], 2, 16, [.int .i64 0, .int .i64 0]⟩),
  (43, ⟨.struct [(0, 41, 1), (1, 22, 1)], 2, 48, [.slice none 0 0, .slice none 0 0]⟩),
  (48, ⟨.struct [(0, 3, 1), (1, 3, 1)], 2, 16, [.int .i64 0, .int .i64 0]⟩),
  (27, ⟨.one, 1, 8, [.int .i64 0]⟩),
  (4, ⟨.one, 1, 1, [.bool false]⟩),
  (45, ⟨.struct [(0, 3, 1), (1, 3, 1)], 2, 16, [.int .i64 0, .int .i64 0]⟩),
  (75, ⟨.struct [(0, 3, 1), (1, 3, 1), (2, 41, 1), (3, 22, 1)], 4, 64, [.int .i64 0, .int .i64 0, .slice none 0 0, .slice none 0 0]⟩),
  (123, ⟨.slice 27 1 8, 1, 24, [.slice none 0 0]⟩),
  (113, ⟨.struct [(0, 75, 4), (4, 111, 1)], 5, 88, [.int .i64 0, .int .i64 0, .slice none 0 0, .slice none 0 0, .slice none 0 0]⟩),
  (64, ⟨.slice 22 1 24, 1, 24, [.slice none 0 0]⟩),
  (152, ⟨.one, 1, 8, [.int .u64 0]⟩),
  (79, ⟨.array 4 3 1, 4, 32, [.int .i64 0, .int .i64 0, .int .i64 0, .int .i64 0]⟩),
  (137, ⟨.array 4 119 1, 4, 64, [.complex .f64 0 0, .complex .f64 0 0, .complex .f64 0 0, .complex .f64 0 0]⟩),
  (70, ⟨.struct [(0, 3, 1), (1, 3, 1), (2, 3, 1)], 3, 24, [.int .i64 0, .int .i64 0, .int .i64 0]⟩),
  (111, ⟨.slice 4 1 1, 1, 24, [.slice none 0 0]⟩),
  (119, ⟨.one, 1, 16, [.complex .f64 0 0]⟩),
  (101, ⟨.slice 48 2 16, 1, 24, [.slice none 0 0]⟩),
  (82, ⟨.slice 75 4 64, 1, 24, [.slice none 0 0]⟩),
  (39, ⟨.slice 24 2 48, 1, 24, [.slice none 0 0]⟩),
  (117, ⟨.slice 120 1 8, 1, 24, [.slice none 0 0]⟩),
  (132, ⟨.one, 1, 8, [.nilFunc]⟩),
  (109, ⟨.array 4 78 2, 8, 64, [.int .i64 0, .int .i64 0, .int .i64 0, .int .i64 0, .int .i64 0, .int .i64 0, .int .i64 0, .int .i64 0]⟩),
  (125, ⟨.one, 1, 8, [.nilFunc]⟩),
  (140, ⟨.one, 1, 8, [.int .u64 0]⟩),
  (133, ⟨.one, 1, 4, [.float .f32 0]⟩),
  (149, ⟨.one, 1, 4, [.int .u32 0]⟩),
  (103, ⟨.one, 1, 8, [.nilFunc]⟩),
  (134, ⟨.one, 1, 8, [.float .f64 0]⟩),
  (91, ⟨.one, 1, 8, [.nilFunc]⟩),
  (120, ⟨.one, 1, 8, [.complex .f32 0 0]⟩)]
theorem T_mk : mkTbl Tryd.prog [3, 22, 24, 41, 78, 43, 48, 27, 4, 45, 75, 123, 113, 64, 152, 79, 137, 70, 111, 119, 101, 82, 39, 117, 132, 109, 125, 140, 133, 149, 103, 134, 91, 120] = some T := by kernel_rfl
theorem hT : ∀ t i, tget T t = some i → tiOf Tryd.prog t = some i := tbl_ok T_mk
theorem hmix : Tryd.prog.follows .mixedOrders = true := by kernel_rfl
end Go.Proofs.YtaejdonacadpkabDoor
