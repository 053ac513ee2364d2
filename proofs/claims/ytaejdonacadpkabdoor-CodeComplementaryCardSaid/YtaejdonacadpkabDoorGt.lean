/-
  The package-level variables that a statement lists, and what they hold.
  Conditions: none.
-/
import Derived.Test.YtaejdonacadpkabDoorReg
namespace Go.Proofs.YtaejdonacadpkabDoor.Fx
@[reducible] def gtab : List (Nat × List Value) := [(0, [.int .i64 1, .int .i64 0, .int .i64 0, .int .i64 1, .int .i64 (-1), .int .i64 0, .int .i64 0, .int .i64 (-1)])]
@[reducible] def mem3 : List (Nat × Nat × Nat) → Nat → Nat → Nat → Bool
  | [], _, _, _ => false
  | (a, b, c) :: l, d, t, n => match Nat.beq a d with
    | true => match Nat.beq b t with
      | true => match Nat.beq c n with
        | true => true
        | false => mem3 l d t n
      | false => mem3 l d t n
    | false => mem3 l d t n
/-- Slices whose making may come at any time, or that nobody writes: they are taken for slices that stay. -/
@[reducible] def looseB (d : Option Nat) (t n : Nat) : Bool := match d with
  | some k => mem3 [(57, 22, 1), (63, 22, 1), (84, 22, 1), (88, 22, 1), (10, 22, 2), (23, 41, 2), (32, 41, 4), (34, 82, 1)] k t n
  | none => false
end Go.Proofs.YtaejdonacadpkabDoor.Fx
