/-
  The types that the code of this seat uses, as a table; it is the program's.
  Conditions: none.
-/
import Derived.Test.YtaejdonacadpkaaDoorFk
import Derived.KernelRfl
import Derived.Test.YtaejdonacadpkaaDoorProg
namespace Go.Proofs.YtaejdonacadpkaaDoor
open Go.RowKit Fx
@[reducible] def T : Tbl := [(3, ⟨.one, 1, 8, [.int .i64 0]⟩),
  (23, ⟨.slice 3 1 8, 1, 24, [.slice none 0 0]⟩),
  (63, ⟨.struct [(0, 3, 1), (1, 3, 1)], 2, 16, [.int .i64 0, .int .i64 0]⟩),
  (22, ⟨.slice 63 2 16, 1, 24, [.slice none 0 0]⟩),
  (25, ⟨.struct [(0, 3, 1), (1, 3, 1), (2, 22, 1), (3, 23, 1)], 4, 64, [.int .i64 0, .int .i64 0, .slice none 0 0, .slice none 0 0]⟩),
  (29, ⟨.struct [(0, 22, 1), (1, 23, 1)], 2, 48, [.slice none 0 0, .slice none 0 0]⟩),
  (4, ⟨.one, 1, 1, [.bool false]⟩),
  (30, ⟨.one, 1, 8, [.int .i64 0]⟩),
  (49, ⟨.struct [(0, 3, 1), (1, 3, 1), (2, 3, 1)], 3, 24, [.int .i64 0, .int .i64 0, .int .i64 0]⟩),
  (83, ⟨.array 4 3 1, 4, 32, [.int .i64 0, .int .i64 0, .int .i64 0, .int .i64 0]⟩),
  (80, ⟨.slice 25 4 64, 1, 24, [.slice none 0 0]⟩),
  (178, ⟨.slice 30 1 8, 1, 24, [.slice none 0 0]⟩),
  (128, ⟨.struct [(0, 3, 1), (1, 3, 1)], 2, 16, [.int .i64 0, .int .i64 0]⟩),
  (82, ⟨.struct [(0, 3, 1), (1, 3, 1)], 2, 16, [.int .i64 0, .int .i64 0]⟩),
  (137, ⟨.struct [(0, 25, 4), (4, 135, 1)], 5, 88, [.int .i64 0, .int .i64 0, .slice none 0 0, .slice none 0 0, .slice none 0 0]⟩),
  (124, ⟨.struct [(0, 3, 1), (1, 3, 1)], 2, 16, [.int .i64 0, .int .i64 0]⟩),
  (170, ⟨.array 4 145 1, 4, 64, [.complex .f64 0 0, .complex .f64 0 0, .complex .f64 0 0, .complex .f64 0 0]⟩),
  (70, ⟨.slice 23 1 24, 1, 24, [.slice none 0 0]⟩),
  (201, ⟨.one, 1, 8, [.int .u64 0]⟩),
  (135, ⟨.slice 4 1 1, 1, 24, [.slice none 0 0]⟩),
  (145, ⟨.one, 1, 16, [.complex .f64 0 0]⟩),
  (159, ⟨.struct [(0, 23, 1), (1, 23, 1)], 2, 48, [.slice none 0 0, .slice none 0 0]⟩),
  (118, ⟨.struct [(0, 3, 1), (1, 3, 1), (2, 116, 4), (6, 3, 1)], 7, 56, [.int .i64 0, .int .i64 0, .int .i64 0, .int .i64 0, .int .i64 0, .int .i64 0, .int .i64 0]⟩),
  (122, ⟨.struct [(0, 22, 1), (1, 22, 1)], 2, 48, [.slice none 0 0, .slice none 0 0]⟩),
  (181, ⟨.one, 1, 8, [.nilFunc]⟩),
  (143, ⟨.slice 146 1 8, 1, 24, [.slice none 0 0]⟩),
  (152, ⟨.array 4 63 2, 8, 64, [.int .i64 0, .int .i64 0, .int .i64 0, .int .i64 0, .int .i64 0, .int .i64 0, .int .i64 0, .int .i64 0]⟩),
  (166, ⟨.one, 1, 8, [.nilFunc]⟩),
  (192, ⟨.one, 1, 8, [.int .u64 0]⟩),
  (182, ⟨.one, 1, 4, [.float .f32 0]⟩),
  (116, ⟨.array 2 63 2, 4, 32, [.int .i64 0, .int .i64 0, .int .i64 0, .int .i64 0]⟩),
  (183, ⟨.one, 1, 8, [.float .f64 0]⟩),
  (198, ⟨.one, 1, 4, [.int .u32 0]⟩),
  (146, ⟨.one, 1, 8, [.complex .f32 0 0]⟩)]
theorem T_mk : mkTbl Tryd.prog [3, 23, 63, 22, 25, 29, 4, 30, 49, 83, 80, 178, 128, 82, 137, 124, 170, 70, 201, 135, 145, 159, 118, 122, 181, 143, 152, 166, 192, 182, 116, 183, 198, 146] = some T := by kernel_rfl
theorem hT : ∀ t i, tget T t = some i → tiOf Tryd.prog t = some i := tbl_ok T_mk
theorem hmix : Tryd.prog.follows .mixedOrders = true := by kernel_rfl
end Go.Proofs.YtaejdonacadpkaaDoor
