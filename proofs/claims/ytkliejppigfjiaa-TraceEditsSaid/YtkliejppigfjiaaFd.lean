/-
  Code run on values by content: what must be shown is laid down step by step. (Definitions.)
  Conditions: none.
-/
import Derived.Test.YtkliejppigfjiaaFv
import Derived.RangeFuncSeq
namespace Go.Proofs.Ytkliejppigfjiaa.Fx
open Go.RowKit

/-! ### Types -/
inductive TK where
  | one
  | slice (e : TypeId) (sz bytes : Nat)
  | struct (fs : List (Nat × TypeId × Nat))
  | array (len : Nat) (e : TypeId) (sz : Nat)
structure TI where
  k : TK
  size : Nat
  bytes : Nat
  zero : List Value
abbrev Tbl := List (Nat × TI)
@[reducible] def tget : Tbl → Nat → Option TI
  | [], _ => none
  | (t, i) :: l, k => match Nat.beq t k with
    | true => some i
    | false => tget l k
def tkOf (P : Program) (t : TypeId) : Option TK :=
  match P.underlying t with
  | some (.slice e) => (P.info? e).map fun i => .slice e i.size i.bytes
  | some (.struct fs) => (fs.toList.mapM fun f => (P.info? f.type).map fun i => (f.offset, f.type, i.size)).map .struct
  | some (.array n e) => (P.info? e).map fun i => .array n e i.size
  | some _ => some .one
  | none => none
def tiOf (P : Program) (t : TypeId) : Option TI :=
  match P.info? t, tkOf P t with
  | some i, some k => match i.zero with
    | some z => if z.cells.toList.all Value.oneCell' then some ⟨k, i.size, i.bytes, z.cells.toList⟩ else none
    | none => none
  | _, _ => none
def mkTbl (P : Program) : List TypeId → Option Tbl
  | [] => some []
  | t :: l => match tiOf P t, mkTbl P l with
    | some i, some r => some ((t, i) :: r)
    | _, _ => none
theorem tbl_ok {P : Program} : ∀ {ids : List TypeId} {T : Tbl}, mkTbl P ids = some T → ∀ t i, tget T t = some i → tiOf P t = some i
  | [], T, h, t, i, ht => by simp only [mkTbl, Option.some.injEq] at h; subst h; cases ht
  | a :: ids, T, h, t, i, ht => by
    simp only [mkTbl] at h
    split at h
    · rename_i i0 r h1 h2
      injection h with h; subst h
      simp only [tget] at ht
      rcases beq_cases a t with ⟨e, rfl⟩ | ⟨e, hn⟩
      · simp only [e] at ht; injection ht with ht; subst ht; exact h1
      · simp only [e] at ht; exact tbl_ok h2 t i ht
    · cases h

/-! ### What stops the run -/
structure ob (p : Prop) (K : Prop) : Prop where
  l : p
  r : K
theorem ob_i {p K : Prop} (h : p) (k : p → K) : ob p K := ⟨h, k h⟩
structure arith (k : IntKind) (n : Int) (K : V → Prop) : Prop where
  h : K (.sc (.int k (k.wrap n)))
@[reducible] def inK (k : IntKind) (n : Int) : Prop := k.min ≤ n ∧ n ≤ k.max
structure branch (b : Bool) (K : Bool → Prop) : Prop where
  h : K b
theorem branch_dec {p : Prop} [Decidable p] {K : Bool → Prop} (h : p → K true) (h' : ¬p → K false) : branch (decide p) K := by
  by_cases hp : p
  · rw [decide_eq_true hp]; exact ⟨h hp⟩
  · rw [decide_eq_false hp]; exact ⟨h' hp⟩
theorem branch_bool {b : Bool} {K : Bool → Prop} (h : b = true → K true) (h' : b = false → K false) : branch b K := by
  cases b
  · exact ⟨h' rfl⟩
  · exact ⟨h rfl⟩
theorem branch_t {K : Bool → Prop} (h : K true) : branch true K := ⟨h⟩
theorem branch_f {K : Bool → Prop} (h : K false) : branch false K := ⟨h⟩
inductive Tag where
  | no
  | rd (b : Nat)
  | wr (b : Nat)
  | all

/-! ### Lists, told at once -/
@[reducible] def lget {α : Type} : List α → Nat → Option α
  | [], _ => none
  | x :: _, 0 => some x
  | _ :: l, n + 1 => lget l n
@[reducible] def ldrop {α : Type} : Nat → List α → List α
  | 0, l => l
  | _ + 1, [] => []
  | n + 1, _ :: l => ldrop n l
@[reducible] def llen {α : Type} : List α → Nat
  | [] => 0
  | _ :: l => Nat.succ (llen l)
@[reducible] def lenIs {α : Type} : List α → Nat → Bool
  | [], 0 => true
  | _ :: l, n + 1 => lenIs l n
  | [], _ + 1 => false
  | _ :: _, 0 => false
@[reducible] def lenGe {α : Type} : List α → Nat → Bool
  | _, 0 => true
  | [], _ + 1 => false
  | _ :: l, n + 1 => lenGe l n
@[reducible] def lapp {α : Type} : List α → List α → List α
  | [], l => l
  | x :: k, l => x :: lapp k l
@[reducible] def lset {α : Type} : List α → Nat → α → List α
  | [], _, _ => []
  | _ :: l, 0, v => v :: l
  | x :: l, n + 1, v => x :: lset l n v
@[reducible] def lwrite {α : Type} : List α → Nat → List α → List α
  | cs, _, [] => cs
  | cs, off, v :: vs => lwrite (lset cs off v) (Nat.succ off) vs
@[reducible] def lsc : List Value → List V
  | [] => []
  | v :: l => .sc v :: lsc l
@[reducible] def takeK : Nat → List V → (List V → Prop) → Prop
  | 0, _, K => K []
  | _ + 1, [], _ => False
  | n + 1, x :: l, K => takeK n l fun r => K (x :: r)
@[reducible] def spineK : List V → (List V → Prop) → Prop
  | [], K => K []
  | x :: l, K => spineK l fun r => K (x :: r)
@[reducible] def litF (l : List V) (i : Nat) : V := match lget l i with
  | some v => v
  | none => .tup []
/-- The elements of an array of structures, of its cells. -/
def chF (sz : Nat) (cs : List V) (i : Nat) : V := .agg ((cs.drop (i * sz)).take sz)
def setF (e : Nat → V) (i : Nat) (v : V) : Nat → V := fun k => if k = i then v else e k
def appF (n : Nat) (e e' : Nat → V) : Nat → V := fun j => if j < n then e j else e' (j - n)
@[reducible] def toN : Int → Nat
  | .ofNat n => n
  | .negSucc _ => 0
theorem toN_eq (i : Int) : toN i = i.toNat := by cases i <;> rfl
@[reducible] def ofV : Value → V
  | .agg cs => .agg (lsc cs.toList)
  | .tuple vs => .tup (lsc vs.toList)
  | .bool b => .sc (.bool b)
  | .int k n => .sc (.int k n)
  | .string s => .sc (.string s)
  | v => .sc v
abbrev Env := Operand → Option V
@[reducible] def evs (ρ : Env) : List Operand → (List V → Prop) → Prop
  | [], K => K []
  | x :: l, K => match ρ x with
    | some v => evs ρ l fun r => K (v :: r)
    | none => False
@[reducible] def ev (fr : Fr) : Env
  | .tmp t => fget fr t
  | .const v => some (ofV v)
  | .func f => some (.fn f [])
  | .global g => match ggetL gtab g with
    | some cs => some (.pv (lsc cs) 0)
    | none => none
@[reducible] def fput (fr : Fr) (d : Option Tmp) (v : V) : Fr := match d with
  | some t => (t, v) :: fr
  | none => fr

/-! ### Operations that change nothing -/
@[reducible] def loadK (T : Tbl) (t : TypeId) (cs : List V) (off : Nat) (K : V → Prop) : Prop := match tget T t with
  | some i => match i.k with
    | .struct _ => takeK i.size (ldrop off cs) fun r => K (.agg r)
    | .array .. => takeK i.size (ldrop off cs) fun r => K (.agg r)
    | .one => match lget cs off with
      | some v => K v
      | none => False
    | .slice .. => match lget cs off with
      | some v => K v
      | none => False
  | none => False
@[reducible] def ikn : IntKind → Nat
  | .i8 => 0 | .i16 => 1 | .i32 => 2 | .i64 => 3 | .u8 => 4 | .u16 => 5 | .u32 => 6 | .u64 => 7
theorem ikn_inj {a b : IntKind} (h : Nat.beq (ikn a) (ikn b) = true) : a = b := by
  cases a <;> cases b <;> first | rfl | cases h
/-- The value of an operation on scalars that reads no memory, as the machine has it. -/
def srun0 (P : Program) {α : Type} : Sem α → Option α
  | .pure a => some a
  | .program k => srun0 P (k P)
  | .mark _ k => srun0 P k
  | _ => none
def scs : List V → Option (List Value)
  | [] => some []
  | .sc v :: l => (scs l).map (v :: ·)
  | _ => none
def toVal : V → Option Value
  | .sc v => some v
  | .agg cs => (scs cs).map fun l => .agg l.toArray
  | _ => none
structure gen (P : Program) (ρ : Env) (o : Oper) (K : V → Prop) : Prop where
  sel : ∀ cs b, o.op ≠ .select cs b
  ex : ∃ v, v.oneCell' = true ∧ (∀ x ∈ o.op.operands, ∃ u, ((ρ x).bind toVal) = some u) ∧ srun0 P (execOp (fun x => (((ρ x).bind toVal).getD undef)) o) = some (.value v) ∧ K (.sc v)
@[reducible] def intW (P : Program) (ρ : Env) (o : Oper) (op : BinOp) (k : IntKind) (a b : Int) (K : V → Prop) : Prop := match op with
  | .add => arith k (a + b) K
  | .sub => arith k (a - b) K
  | .mul => arith k (a * b) K
  | .quo => ob (b ≠ 0) (arith k (a.tdiv b) K)
  | .rem => ob (b ≠ 0) (K (.sc (.int k (a.tmod b))))
  | .eql => K (B (decide (a = b)))
  | .neq => K (B (decide (a ≠ b)))
  | .lss => K (B (decide (a < b)))
  | .leq => K (B (decide (a ≤ b)))
  | .gtr => K (B (decide (b < a)))
  | .geq => K (B (decide (b ≤ a)))
  | _ => gen P ρ o K
@[reducible] def nilW (n : Nat) (op : BinOp) (K : V → Prop) : Prop := match op with
  | .eql => ob (0 < n) (K (B false))
  | .neq => ob (0 < n) (K (B true))
  | _ => False
/-- A map's type whose keys are ints and whose elements are truth values. -/
def mapIB (P : Program) (t : TypeId) : Bool := match P.underlying t with
  | some (.map k e) => (match P.underlying k with
    | some (.int .i64) => true
    | _ => false) && (match P.info? e with
    | some i => match i.zero with
      | some (.bool false) => true
      | _ => false
    | none => false)
  | _ => false
def isIfB (P : Program) (t : TypeId) : Bool := match P.underlying t with
  | some (.interface _) => true
  | _ => false
@[reducible] def nilI (op : BinOp) (K : V → Prop) : Prop := match op with
  | .eql => K (B false)
  | .neq => K (B true)
  | _ => False
/-- From a string to its bytes. -/
def bysB (P : Program) (t t2 : TypeId) : Bool := match P.underlying t with
  | some .string => match P.underlying t2 with
    | some (.slice e) => match P.underlying e with
      | some (.int .u8) => true
      | _ => false
    | _ => false
  | _ => false
/-- A byte of a string, as a number. -/
def sb (s : ByteArray) (i : Nat) : Int := ((s.data.toList.getD i 0).toNat : Int)
def upM (g : Int → Bool) (i : Int) (c : Bool) : Int → Bool := fun j => if j = i then c else g j
@[reducible] def isSl (T : Tbl) (t : TypeId) : Bool := match tget T t with
  | some i => match i.k with
    | .slice .. => true
    | _ => false
  | none => false
@[reducible] def binW (P : Program) (T : Tbl) (ρ : Env) (o : Oper) (op : BinOp) (t : TypeId) (x y : Operand) (K : V → Prop) : Prop := match ρ x with
  | some (.sc (.int k a)) => match ρ y with
    | some (.sc (.int k' b)) => match Nat.beq (ikn k) (ikn k') with
      | true => intW P ρ o op k a b K
      | false => False
    | _ => False
  | some (.own _ _ _ n) => match isSl T t with
    | true => match ρ y with
      | some (.sc (.slice none _ _)) => nilW n op K
      | _ => False
    | false => False
  | some (.sl _ n _) => match isSl T t with
    | true => match ρ y with
      | some (.sc (.slice none _ _)) => nilW n op K
      | _ => False
    | false => False
  | some .ifc => match ρ y with
    | some (.sc .nilIface) => ob (isIfB P t = true) (nilI op K)
    | _ => False
  | _ => gen P ρ o K
@[reducible] def lenW (P : Program) (T : Tbl) (ρ : Env) (o : Oper) (args : List Operand) (ts : List TypeId) (K : V → Prop) : Prop := match args with
  | [x] => match ρ x with
    | some (.own _ _ _ n) => match lget ts 0 with
      | some t => match isSl T t with
        | true => K (I n)
        | false => False
      | none => False
    | some (.sl _ n _) => match lget ts 0 with
      | some t => match isSl T t with
        | true => K (I n)
        | false => False
      | none => False
    | some (.sc (.slice none n _)) => match lget ts 0 with
      | some t => match isSl T t with
        | true => K (I n)
        | false => False
      | none => False
    | _ => gen P ρ o K
  | _ => False
@[reducible] def mm2 (mx : Bool) (ρ : Env) (x y : Operand) (K : V → Prop) : Prop := match ρ x with
  | some (.sc (.int k a)) => match ρ y with
    | some (.sc (.int k' b)) => match Nat.beq (ikn k) (ikn k') with
      | true => match mx with
        | true => K (.sc (.int k (max a b)))
        | false => K (.sc (.int k (min a b)))
      | false => False
    | _ => False
  | _ => False
@[reducible] def mmW (P : Program) (mx : Bool) (ρ : Env) (o : Oper) (args : List Operand) (K : V → Prop) : Prop := match args with
  | [x, y] => mm2 mx ρ x y K
  | _ => gen P ρ o K
/-- Where a slice is cut. -/
@[reducible] def loK (ρ : Env) (lo : Option Operand) (K : Int → Prop) : Prop := match lo with
  | none => K 0
  | some x => match ρ x with
    | some (.sc (.int _ i)) => K i
    | _ => False
@[reducible] def hiK (ρ : Env) (hi : Option Operand) (n : Nat) (K : Int → Prop) : Prop := match hi with
  | none => K n
  | some x => match ρ x with
    | some (.sc (.int _ i)) => K i
    | _ => False
@[reducible] def sliceW (P : Program) (T : Tbl) (ρ : Env) (o : Oper) (t : TypeId) (x : Operand) (lo hi : Option Operand) (K : V → Prop) : Prop := match ρ x with
  | some (.sl sz n e) => match tget T t with
    | some i => match i.k with
      | .slice _ sz' _ => match Nat.beq sz sz' with
        | true => loK ρ lo fun l => hiK ρ hi n fun h => ob (0 ≤ l ∧ l ≤ h ∧ h ≤ (n : Int)) (K (.sl sz (toN h - toN l) fun j => e (toN l + j)))
        | false => False
      | _ => False
    | none => False
  | some (.own b sz off n) => match tget T t with
    | some i => match i.k with
      | .slice _ sz' _ => match Nat.beq sz sz' with
        | true => loK ρ lo fun l => hiK ρ hi n fun h => ob (0 ≤ l ∧ l ≤ h ∧ h ≤ (n : Int) ∧ (l = 0 ∨ l < (n : Int))) (K (.own b sz (off + toN l) (toN h - toN l)))
        | false => False
      | _ => False
    | none => False
  | some (.pv cs off) => match tget T t with
    | some i => match i.k with
      | .array n e sz => match tget T e with
        | some ei => match ei.k with
          | .struct _ => match lo with
            | none => match hi with
              | none => match off with
                | 0 => match lenIs cs (Nat.mul n sz) with
                  | true => match ones cs with
                    | true => K (.sl sz n (chF sz cs))
                    | false => False
                  | false => False
                | Nat.succ _ => False
              | some _ => False
            | some _ => False
          | _ => False
        | none => False
      | _ => False
    | none => False
  | _ => gen P ρ o K
/-- The places of an array's elements. -/
@[reducible] def arrF (e : TypeId) (sz : Nat) : Nat → Nat → List (Nat × TypeId × Nat)
  | 0, _ => []
  | Nat.succ n, d => (d, e, sz) :: arrF e sz n (Nat.add d sz)
@[reducible] def partsK (fs : List (Nat × TypeId × Nat)) (ρ : Env) : List (Nat × Operand) → List V → (List V → Prop) → Prop
  | [], cs, K => K cs
  | (i, x) :: l, cs, K => match lget fs i with
    | some (d, _, sz) => match ρ x with
      | some v => match lenIs v.cells sz with
        | true => match lenGe cs (Nat.add d sz) with
          | true => spineK (lwrite cs d v.cells) fun cs => partsK fs ρ l cs K
          | false => False
        | false => False
      | none => False
    | none => False
@[reducible] def elemK (v : V) (K : List V → Prop) : Prop := match v with
  | .agg cs => K cs
  | .sc u => K [.sc u]
  | .sl s n g => K [.sl s n g]
  | .fn f c => K [.fn f c]
  | .mv f c => K [.mv f c]
  | .pv c o => K [.pv c o]
  | .ptr b o => K [.ptr b o]
  | .pe b s i o => K [.pe b s i o]
  | .own b s o n => K [.own b s o n]
  | .yld l => K [.yld l]
  | .ifc => K [.ifc]
  | .mp b => K [.mp b]
  | .mpv g => K [.mpv g]
  | .tup vs => K [.tup vs]
@[reducible] def forceN (n : Nat) (K : Nat → Prop) : Prop := match n with
  | 0 => K 0
  | Nat.succ m => K (Nat.succ m)
@[reducible] def indexed : Nat → List (Nat × Operand) → Bool
  | _, [] => true
  | i, (j, _) :: l => match Nat.beq i j with
    | true => indexed (Nat.succ i) l
    | false => false
@[reducible] def opnds : List (Nat × Operand) → List Operand
  | [] => []
  | (_, x) :: l => x :: opnds l
@[reducible] def sized (sz : Nat) : List V → Bool
  | [] => true
  | v :: l => match lenIs v.cells sz with
    | true => match ones v.cells with
      | true => sized sz l
      | false => false
    | false => false
@[reducible] def qopW (P : Program) (T : Tbl) (ρ : Env) (o : Oper) (H : SW) (K : V → Tag → Prop) : Prop :=
  match o.op with
  | .move x => match ρ x with
    | some v => K v .no
    | none => False
  | .assign x => match ρ x with
    | some v => K v .no
    | none => False
  | .pick c a b => match ρ c with
    | some (.sc (.bool t)) => match t with
      | true => match ρ a with
        | some v => K v .no
        | none => False
      | false => match ρ b with
        | some v => K v .no
        | none => False
    | _ => False
  | .load t x => match ρ x with
    | some (.ptr b off) => match hget H.l b with
      | some (.cells cs _) => loadK T t cs off fun v => K v (.rd b)
      | _ => False
    | some (.pe b sz i off) => match hget H.l b with
      | some (.row sz' n e _) => match Nat.beq sz sz' with
        | true => ob (i < n) (elemK (e i) fun cs => loadK T t cs off fun v => K v (.rd b))
        | false => False
      | _ => False
    | some (.pv cs off) => loadK T t cs off fun v => K v .no
    | _ => False
  | .fieldAddr s x f => match tget T s with
    | some i => match i.k with
      | .struct fs => match lget fs f with
        | some (d, _, sz) => match sz with
          | 0 => False
          | Nat.succ _ => match ρ x with
            | some (.ptr b off) => forceN (off + d) fun n => K (.ptr b n) .no
            | some (.pe b s i off) => forceN (off + d) fun n => K (.pe b s i n) .no
            | some (.pv cs off) => forceN (off + d) fun n => K (.pv cs n) .no
            | _ => False
        | none => False
      | _ => False
    | none => False
  | .indexAddr t x ix => match tget T t with
    | some ti => match ti.k with
      | .slice _ sz' _ => match ρ ix with
        | some (.sc (.int _ i)) => match ρ x with
          | some (.sl sz n e) => match Nat.beq sz sz' with
            | true => ob (0 ≤ i ∧ i < (n : Int)) (elemK (e (toN i)) fun cs => K (.pv cs 0) .no)
            | false => False
          | some (.own b sz off n) => match Nat.beq sz sz' with
            | true => ob (0 ≤ i ∧ i < (n : Int)) (K (.pe b sz (off + toN i) 0) .no)
            | false => False
          | _ => False
        | _ => False
      | .array n _ sz => match ρ ix with
        | some (.sc (.int _ i)) => match ρ x with
          | some (.ptr b off) => ob (0 ≤ i ∧ i < (n : Int)) (forceN (Nat.add off (Nat.mul (toN i) sz)) fun d => K (.ptr b d) .no)
          | some (.pv cs off) => ob (0 ≤ i ∧ i < (n : Int)) (forceN (Nat.add off (Nat.mul (toN i) sz)) fun d => K (.pv cs d) .no)
          | _ => False
        | _ => False
      | _ => False
    | none => False
  | .slice t x lo hi none => sliceW P T ρ o t x lo hi fun v => K v .no
  | .makeFunc (.func f) first captured => match first.toList with
    | [] => evs ρ captured.toList fun vs => K (.fn f vs) .no
    | _ :: _ => match captured.toList with
      | [] => evs ρ first.toList fun vs => K (.mv f vs) .no
      | _ => False
  | .extract x ix => match ρ x with
    | some (.tup vs) => match lget vs ix with
      | some v => K v .no
      | none => False
    | _ => False
  | .build t parts => match tget T t with
    | some i => match i.k with
      | .struct fs => spineK (lsc i.zero) fun z => partsK fs ρ parts.toList z fun cs => K (.agg cs) .no
      | .array n e sz => spineK (lsc i.zero) fun z => partsK (arrF e sz n 0) ρ parts.toList z fun cs => K (.agg cs) .no
      | _ => False
    | none => False
  | .index t x ix => match tget T t with
    | some ti => match ti.k with
      | .array n e sz => match ρ ix with
        | some (.sc (.int _ i)) => match ρ x with
          | some (.agg cs) => ob (0 ≤ i ∧ i < (n : Int)) (forceN (Nat.mul (toN i) sz) fun d => loadK T e cs d fun v => K v .no)
          | _ => False
        | _ => False
      | _ => gen P ρ o fun v => K v .no
    | none => gen P ρ o fun v => K v .no
  | .field t x f => match tget T t with
    | some i => match i.k with
      | .struct fs => match lget fs f with
        | some (d, ft, _) => match ρ x with
          | some (.agg cs) => loadK T ft cs d fun v => K v .no
          | _ => False
        | none => False
      | _ => False
    | none => False
  | .binOp op t x y _ => binW P T ρ o op t x y fun v => K v .no
  | .unOp .neg _ x => match ρ x with
    | some (.sc (.int k a)) => arith k (0 - a) fun v => K v .no
    | _ => gen P ρ o fun v => K v .no
  | .unOp .not _ x => match ρ x with
    | some (.sc (.bool b)) => K (B (!b)) .no
    | _ => False
  | .call c => match c.callee with
    | .builtin .len => lenW P T ρ o c.args.toList c.argTypes.toList fun v => K v .no
    | .builtin .max => mmW P true ρ o c.args.toList fun v => K v .no
    | .builtin .min => mmW P false ρ o c.args.toList fun v => K v .no
    | _ => gen P ρ o fun v => K v .no
  | .buildSlice t len parts => match tget T t with
    | some i => match i.k with
      | .slice e sz _ => match indexed 0 parts.toList with
        | true => match tget T e with
          | some ei => match lenIs ei.zero sz with
            | true => evs ρ (opnds parts.toList) fun vs => match lenIs vs len with
              | true => match sized sz vs with
                | true => match Nat.ble len 64 with
                  | true => match Nat.ble sz 64 with
                    | true => K (.sl sz len (litF vs)) .no
                    | false => False
                  | false => False
                | false => False
              | false => False
            | false => False
          | none => False
        | false => False
      | _ => False
    | none => False
  | .nilCheck x => match ρ x with
    | some (.ptr b off) => K (.ptr b off) .no
    | some (.pe b sz i off) => K (.pe b sz i off) .no
    | some (.pv cs off) => K (.pv cs off) .no
    | _ => False
  | .lookup t x ix false => match ρ ix with
    | some (.sc (.int .i64 i)) => match ρ x with
      | some (.mp b) => match hget H.l b with
        | some (.mpb g) => ob (mapIB P t = true) (K (B (g i)) (.rd b))
        | _ => False
      | some (.mpv g) => ob (mapIB P t = true) (K (B (g i)) .no)
      | _ => False
    | _ => False
  | .convert t t2 x => match ρ x with
    | some (.sc (.string s)) => ob (bysB P t t2 = true) (K (.sl 1 s.size fun i => .sc (.int .u8 (sb s i))) .no)
    | _ => gen P ρ o fun v => K v .no
  | _ => gen P ρ o fun v => K v .no

/-! ### Operations that do more -/
@[reducible] def effect (o : Oper) : Bool :=
  match o.op with
  | .alloc _ | .box .. | .makeSlice .. | .store .. => true
  | .makeMap .. | .mapUpdate .. => true
  | .buildSlice t n _ => match looseB o.dst t n with
    | true => false
    | false => true
  | .call c => match c.callee with
    | .builtin .append => true
    | .builtin .copy => true
    | .builtin _ => false
    | _ => true
  | _ => false
/-- A call: what it returns, and the blocks behind it. -/
def CallOK (P : Program) (fid : Nat) (args : List V) (H : SW) (v : V) (H' : SW) : Prop :=
  Enters P fid ∧ ∀ (w0 : Base) (m : Mem) (args' : Array Value), WR w0 m H → LR m args args'.toList →
    CallsIn { Fence.wide with round := none } 0 P fid args' m.W fun e W' => ∃ v' m', e = .returned v' ∧ m'.W = W' ∧ Ext m H m' H' ∧ m'.D = m.D ∧ WR w0 m' H' ∧ VR m' v v'
structure callW (P : Program) (fid : Nat) (args : List V) (H : SW) (K : V → SW → Tag → Prop) : Prop where
  ex : ∃ v H' g, CallOK P fid args H v H' ∧ (∀ b, b < H.n → (g ≠ .wr b ∧ g ≠ .all) → H'.get b = H.get b) ∧ K v H' g
/-- A call of yield: one round, what it hands back, and the blocks behind it. -/
def YieldOK (P : Program) (l : Nat) (vs : List V) (H : SW) (v : V) (H' : SW) : Prop :=
  ∀ (w0 : Base) (m : Mem) (args' : Array Value) (g C : Nat), WR w0 m H → m.φ l = some (g, C) → LR m vs args'.toList →
    YieldAt { Fence.wide with round := none } 0 P g args' m.W fun e W' => ∃ v' m', e = .returned v' ∧ m'.W = W' ∧ Ext m H m' H' ∧ m'.D = m.D ∧ WR w0 m' H' ∧ VR m' v v'
structure yieldW (P : Program) (l : Nat) (vs : List V) (H : SW) (K : V → SW → Prop) : Prop where
  ex : ∃ v H', YieldOK P l vs H v H' ∧ K v H'
def room (n bytes : Nat) : Prop := (4 * n + 4000) * bytes ≤ 2 ^ 48 ∧ n < 2 ^ 62
@[reducible] def srcK (H : SW) (x : V) (K : Nat → Nat → (Nat → V) → Prop) : Prop := match x with
  | .sl sz n e => K sz n e
  | .own b sz off n => match hget H.l b with
    | some (.row sz' n' e _) => match Nat.beq sz sz' with
      | true => ob (off + n ≤ n') (match off with
        | 0 => K sz n e
        | Nat.succ k => K sz n fun j => e (Nat.succ k + j))
      | false => False
    | _ => False
  | _ => False
@[reducible] def appendW (T : Tbl) (s : V) (t : TypeId) (x : V) (tx : TypeId) (H : SW) (K : V → SW → Tag → Prop) : Prop :=
  match tget T t with
  | some ti => match ti.k with
    | .slice e sz bytes => match isSl T tx with
      | true => match tget T e with
        | some ei => match lenIs ei.zero sz with
          | true => match Nat.beq bytes 0 with
            | false => match s with
              | .sc (.slice none n c) => match n with
                | 0 => match c with
                  | 0 => srcK H x fun sz2 n2 e2 => match Nat.beq sz sz2 with
                    | true => ob (room n2 bytes) (pushK H (.row sz n2 e2 e) fun b H' => K (.own b sz 0 n2) H' .no)
                    | false => False
                  | Nat.succ _ => False
                | Nat.succ _ => False
              | .own b sz1 off n1 => match off with
                | 0 => match hget H.l b with
                  | some (.row sz' n' e1 t1) => match Nat.beq sz sz' with
                    | true => match Nat.beq sz sz1 with
                      | true => match Nat.beq t1 e with
                        | true => ob (n1 = n') (srcK H x fun sz2 n2 e2 => match Nat.beq sz sz2 with
                          | true => ob (room (n1 + n2) bytes) (spineH (hdel H.l b) fun l => pushK ⟨H.n, l⟩ (.row sz (n1 + n2) (appF n1 e1 e2) e) fun b' H' => K (.own b' sz 0 (n1 + n2)) H' (.wr b))
                          | false => False)
                        | false => False
                      | false => False
                    | false => False
                  | _ => False
                | Nat.succ _ => False
              | _ => False
            | true => False
          | false => False
        | none => False
      | false => False
    | _ => False
  | none => False
@[reducible] def zeroElem (i : TI) : V := match i.k with
  | .one => match i.zero with
    | [z] => .sc z
    | _ => .tup []
  | .slice .. => match i.zero with
    | [z] => .sc z
    | _ => .tup []
  | _ => .agg (lsc i.zero)
def cpF (off k : Nat) (e e' : Nat → V) : Nat → V := fun j => if off ≤ j ∧ j < off + k then e' (j - off) else e j
/-- Elements of one cell are copied; all are read before any is written. -/
@[reducible] def copyW (T : Tbl) (d : V) (td : TypeId) (x : V) (H : SW) (K : V → SW → Tag → Prop) : Prop :=
  match tget T td with
  | some ti => match ti.k with
    | .slice _ sz _ => match Nat.beq sz 1 with
      | true => match d with
        | .own b sz1 off n => match Nat.beq sz1 1 with
          | true => match hget H.l b with
            | some (.row sz2 n1 e1 t1) => match Nat.beq sz2 1 with
              | true => ob (0 < n ∧ off + n ≤ n1) (srcK H x fun sz3 n3 e3 => match Nat.beq sz3 1 with
                | true => spineH (hput H.l b (.row 1 n1 (cpF off (Nat.min n3 n) e1 e3) t1)) fun l => K (.sc (.int .i64 (Nat.min n3 n : Nat))) ⟨H.n, l⟩ .all
                | false => False)
              | false => False
            | _ => False
          | false => False
        | _ => False
      | false => False
    | _ => False
  | none => False
@[reducible] def effW (P : Program) (T : Tbl) (ρ : Env) (o : Oper) (H : SW) (K : V → SW → Tag → Prop) : Prop :=
  match o.op with
  | .alloc t => match tget T t with
    | some i => spineK (lsc i.zero) fun z => pushK H (.cells z t) fun b H' => K (.ptr b 0) H' .no
    | none => False
  | .box t x => match ρ x with
    | some v => elemK v fun cs => pushK H (.cells cs t) fun b H' => K (.ptr b 0) H' .no
    | none => False
  | .buildSlice t len parts => match tget T t with
    | some i => match i.k with
      | .slice e sz _ => match indexed 0 parts.toList with
        | true => match tget T e with
          | some ei => match lenIs ei.zero sz with
            | true => evs ρ (opnds parts.toList) fun vs => match lenIs vs len with
              | true => match sized sz vs with
                | true => match Nat.ble len 64 with
                  | true => match Nat.ble sz 64 with
                    | true => pushK H (.row sz len (litF vs) e) fun b H' => K (.own b sz 0 len) H' .no
                    | false => False
                  | false => False
                | false => False
              | false => False
            | false => False
          | none => False
        | false => False
      | _ => False
    | none => False
  | .makeSlice t l c => match tget T t with
    | some i => match i.k with
      | .slice e sz bytes => match tget T e with
        | some ei => match lenIs (zeroElem ei).cells sz with
          | true => match lenIs ei.zero sz with
            | true => match ones (zeroElem ei).cells with
              | true => match ρ l with
                | some (.sc (.int .i64 n)) => match ρ c with
                  | some (.sc (.int .i64 cp)) => ob (0 ≤ n ∧ n ≤ cp ∧ bytes * cp ≤ 2 ^ 40 ∧ cp < 2 ^ 40) (pushK H (.row sz (toN n) (fun _ => zeroElem ei) e) fun b H' => K (.own b sz 0 (toN n)) H' .no)
                  | _ => False
                | _ => False
              | false => False
            | false => False
          | false => False
        | none => False
      | _ => False
    | none => False
  | .store t a x => match tget T t with
    | some i => match ρ x with
      | some v => match lenIs v.cells i.size with
        | true => match ones v.cells with
          | true => match ρ a with
            | some (.ptr b off) => match hget H.l b with
              | some (.cells cs t') => match lenGe cs (Nat.add off i.size) with
                | true => spineK (lwrite cs off v.cells) fun cs => spineH (hput H.l b (.cells cs t')) fun l => K (.tup []) ⟨H.n, l⟩ (.wr b)
                | false => False
              | _ => False
            | some (.pe b sz k off) => match hget H.l b with
              | some (.row sz' n e t') => match Nat.beq sz sz' with
                | true => match Nat.beq i.size sz with
                  | true => match off with
                    | 0 => ob (k < n) (spineH (hput H.l b (.row sz n (setF e k v) t')) fun l => K (.tup []) ⟨H.n, l⟩ (.wr b))
                    | Nat.succ _ => False
                  | false => ob (k < n) (match e k with
                    | .agg cs => match lenGe cs (Nat.add off i.size) with
                      | true => spineK (lwrite cs off v.cells) fun cs => spineH (hput H.l b (.row sz n (setF e k (.agg cs)) t')) fun l => K (.tup []) ⟨H.n, l⟩ (.wr b)
                      | false => False
                    | _ => False)
                | false => False
              | _ => False
            | _ => False
          | false => False
        | false => False
      | none => False
    | none => False
  | .call c => match c.callee with
    | .value f => match ρ f with
      | some (.fn fid caps) => evs ρ c.args.toList fun vs => callW P fid (lapp vs caps) H K
      | some (.yld l) => evs ρ c.args.toList fun vs => yieldW P l vs H fun v H' => K v H' .all
      | _ => False
    | .builtin .append => match c.args.toList with
      | [s, x] => match c.argTypes.toList with
        | [t, tx] => match ρ s with
          | some s => match ρ x with
            | some x => appendW T s t x tx H K
            | none => False
          | none => False
        | _ => False
      | _ => False
    | .builtin .copy => match c.args.toList with
      | [d, x] => match c.argTypes.toList with
        | [t, _] => match ρ d with
          | some d => match ρ x with
            | some x => copyW T d t x H K
            | none => False
          | none => False
        | _ => False
      | _ => False
    | _ => False
  | .makeMap t none => ob (mapIB P t = true) (pushK H (.mpb fun _ => false) fun b H' => K (.mp b) H' .no)
  | .mapUpdate t x k v => match ρ k with
    | some (.sc (.int .i64 i)) => match ρ v with
      | some (.sc (.bool c)) => match ρ x with
        | some (.mp b) => match hget H.l b with
          | some (.mpb g) => ob (mapIB P t = true) (spineH (hput H.l b (.mpb (upM g i c))) fun l => K (.tup []) ⟨H.n, l⟩ (.wr b))
          | _ => False
        | _ => False
      | _ => False
    | _ => False
  | _ => False
/-- One operation: what may be done next, with its value, the heap, and what was read or written of one's own. -/
@[reducible] def stepW (P : Program) (T : Tbl) (ρ : Env) (o : Oper) (H : SW) (K : V → SW → Tag → Prop) : Prop := match effect o with
  | true => effW P T ρ o H K
  | false => qopW P T ρ o H fun v g => K v H g
end Go.Proofs.Ytkliejppigfjiaa.Fx
