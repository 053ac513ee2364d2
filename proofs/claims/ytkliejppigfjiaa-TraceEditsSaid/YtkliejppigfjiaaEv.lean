/-
  A closed call, computed: an evaluator for a part of the language over a heap of its own, so that a call without arguments from outside can be run by the kernel. (Definitions alone; XEvRel, XEvOps, XEvCode prove that what it returns is what the machine returns, in every world and whatever is drawn.)
  Conditions: none.
-/
import Derived.RangeFuncLeaves
import Derived.OrdersIn
import Derived.Test.YtkliejppigfjiaaReg
namespace Go.Proofs.Ytkliejppigfjiaa.Ev
open Go.RowKit

inductive Tr (α : Type) where
  | lf
  | nd (l : Tr α) (v : Option α) (r : Tr α)
section
variable {α : Type}
def Tr.get : Tr α → Nat → Option α
  | .lf, _ => none
  | .nd l v r, i => if i = 0 then v else if i % 2 = 1 then l.get (i / 2) else r.get (i / 2 - 1)
def Tr.set : Nat → Tr α → Nat → Option α → Tr α
  | 0, t, _, _ => t
  | f + 1, .lf, i, x => if i = 0 then .nd .lf x .lf else if i % 2 = 1 then .nd (Tr.set f .lf (i / 2) x) none .lf else .nd .lf none (Tr.set f .lf (i / 2 - 1) x)
  | f + 1, .nd l v r, i, x => if i = 0 then .nd l x r else if i % 2 = 1 then .nd (Tr.set f l (i / 2) x) v r else .nd l v (Tr.set f r (i / 2 - 1) x)
end
/-- An activation: how many temporaries, and those that are set. -/
structure SA where
  n : Nat
  tr : Tr Value
  defers : List Nat
def SA.get (a : SA) (t : Nat) : Value := match a.tr.get t with
  | some v => v
  | none => undef
def SA.put (a : SA) (d : Option Tmp) (v : Value) : SA := match d with
  | some d => if d < a.n then { a with tr := a.tr.set (d + 1) d (some v) } else a
  | none => a
def SA.eval (a : SA) : Operand → Value
  | .tmp t => a.get t
  | .const v => v
  | .global g => .pointer (some ⟨g, 0, none⟩)
  | .func f => .func (.func f) #[] #[]
def SA.args (a : SA) : Nat → List Value → SA
  | _, [] => a
  | i, v :: vs => SA.args (a.put (some i) v) (i + 1) vs
structure SLoop where
  state : LoopState
  pending : Option Code
  act : SA
  params : Array Tmp
  assign : Code
  body : Code
/-- A block: cells ('exact': no cell beyond them) · the block for deferred calls of a range over a function · such a loop's record. -/
inductive SB where
  | cells (cs : List Value) (t : TypeId) (exact : Bool)
  | dfr
  | loop (l : SLoop)
/-- The heap. -/
structure SW where
  n : Nat
  tr : Tr SB
def SW.get (H : SW) (b : Nat) : Option SB := H.tr.get b
def SW.put (H : SW) (b : Nat) (x : Option SB) : SW := ⟨H.n, H.tr.set (b + 1) b x⟩
def SW.push (H : SW) (s : SB) : SW := ⟨H.n + 1, H.tr.set (H.n + 1) H.n (some s)⟩

/-- Values without an address. -/
def sc : Value → Bool
  | .bool _ | .int _ _ | .float _ _ | .complex _ _ _ | .string _ | .pointer none | .slice none _ _ | .map none | .chan none | .nilFunc | .nilIface => true
  | _ => false
def grd : Nat → Value → Bool
  | n + 1, .agg cs => cs.toList.all (grd n)
  | n + 1, .tuple cs => cs.toList.all (grd n)
  | _, v => sc v
def veq : Value → Value → Bool
  | .bool a, .bool b => a == b
  | .int k a, .int k' b => k == k' && a == b
  | .string a, .string b => a.data.toList == b.data.toList
  | .pointer a, .pointer b => a == b
  | .slice a n c, .slice a' n' c' => a == a' && n == n' && c == c'
  | .nilFunc, .nilFunc => true
  | .nilIface, .nilIface => true
  | _, _ => false
def veqs : List Value → List Value → Bool
  | [], [] => true
  | x :: xs, y :: ys => veq x y && veqs xs ys
  | _, _ => false
def veq2 : Value → Value → Bool
  | .agg xs, .agg ys => veqs xs.toList ys.toList
  | x, y => veq x y

section
variable (P : Program)

/-- A computation that reads no memory. -/
def srun0 {α : Type} : Sem α → Option α
  | .pure a => some a
  | .program k => srun0 (k P)
  | .mark _ k => srun0 k
  | _ => none

def aggSize (t : TypeId) : Option (Option Nat) :=
  match P.underlying t with
  | some (.struct _) => (P.info? t).map fun i => some i.size
  | some (.array _ _) => (P.info? t).map fun i => some i.size
  | some _ => some none
  | none => none
def loadS (t : TypeId) (b off : Nat) (H : SW) : Option Value :=
  match H.get b with
  | some (.cells cs _ _) =>
    match aggSize P t with
    | some (some n) => if off + n ≤ cs.length then some (.agg ((cs.drop off).take n).toArray) else none
    | some none => cs[off]?
    | none => none
  | _ => none
def writeL : List Value → Nat → List Value → List Value
  | cs, _, [] => cs
  | cs, off, v :: vs => writeL (cs.set off v) (off + 1) vs
def zeroS (t : TypeId) : Option (List Value) :=
  match (P.info? t).bind (·.zero) with
  | some z => if z.cells.toList.all sc then some z.cells.toList else none
  | none => none
def genS (ρ : Operand → Value) (o : Oper) : Option Value :=
  if o.op.operands.toList.all fun x => grd 3 (ρ x) then
    match srun0 P (execOp ρ o) with
    | some (.value v) => if grd 3 v then some v else none
    | _ => none
  else none
def fieldOff (s : TypeId) (f : Nat) : Option Nat :=
  match P.underlying s with
  | some (.struct fs) => match fs[f]? with
    | some f => match P.info? f.type with
      | some i => if i.size = 0 then none else some f.offset
      | none => none
    | none => none
  | _ => none
def elemSize (t : TypeId) : Option (TypeId × Nat) :=
  match P.underlying t with
  | some (.slice e) => (P.info? e).map fun i => (e, i.size)
  | _ => none
/-- The struct's parts: place and size of each field. -/
def places (t : TypeId) : Option (List (Nat × Nat)) :=
  match P.underlying t with
  | some (.struct fs) => fs.toList.mapM fun f => (P.info? f.type).map fun i => (f.offset, i.size)
  | _ => none
def boundS (ρ : Operand → Value) (d : Nat) (top : Nat) : Option Operand → Option Nat
  | none => some d
  | some x => match ρ x with
    | .int _ i => if 0 ≤ i ∧ i ≤ top then some i.toNat else none
    | _ => none
def sliceS (ρ : Operand → Value) (t : TypeId) (x : Operand) (lo hi : Option Operand) (H : SW) : Option Value :=
  match elemSize P t, ρ x with
  | some (_, size), .slice (some ⟨b, off, none⟩) len c =>
    match boundS ρ len c hi with
    | some h => match boundS ρ 0 h lo with
      | some l =>
        if c = l then
          match H.get b with
          | some (.cells _ _ true) => some (.slice (some ⟨b, off, none⟩) (h - l) 0)
          | _ => none
        else if l < c then some (.slice (some ⟨b, off + l * size, none⟩) (h - l) (c - l)) else none
      | none => none
    | none => none
  | _, _ => none

/-- Two ints of one kind. -/
def intBin (op : BinOp) (k : IntKind) (a b : Int) : Option Value :=
  match op with
  | .add => some (.int k (k.wrap (a + b)))
  | .sub => some (.int k (k.wrap (a - b)))
  | .mul => some (.int k (k.wrap (a * b)))
  | .eql => some (.bool (a == b))
  | .neq => some (.bool (a != b))
  | .lss => some (.bool (decide (a < b)))
  | .leq => some (.bool (decide (a ≤ b)))
  | .gtr => some (.bool (decide (b < a)))
  | .geq => some (.bool (decide (b ≤ a)))
  | _ => none
def intT (t : TypeId) : Bool := match P.underlying t with
  | some (.int _) => true
  | _ => false
def pickQ (c a b : Value) : Option Value := match c with
  | .bool t => some (if t then a else b)
  | _ => none
def loadQ (t : TypeId) (x : Value) (H : SW) : Option Value := match x with
  | .pointer (some ⟨b, off, none⟩) => loadS P t b off H
  | _ => none
def fieldAddrQ (s : TypeId) (x : Value) (f : Nat) : Option Value := match x with
  | .pointer (some ⟨b, off, none⟩) => match fieldOff P s f with
    | some d => some (.pointer (some ⟨b, off + d, none⟩))
    | none => none
  | _ => none
def indexAddrQ (t : TypeId) (x ix : Value) : Option Value := match elemSize P t, x, ix with
  | some (_, size), .slice (some ⟨b, off, none⟩) len _, .int _ i => if 0 ≤ i ∧ i < (len : Int) then some (.pointer (some ⟨b, off + i.toNat * size, none⟩)) else none
  | _, _, _ => none
def extractQ (x : Value) (ix : Nat) : Option Value := match x with
  | .tuple vs => vs.toList[ix]?
  | _ => none
def buildQ (t : TypeId) (parts : List (Nat × Value)) : Option Value := match places P t, zeroS P t with
  | some ps, some z => (Instr.fill (ps[·]?) z.toArray parts).map .agg
  | _, _ => none
def fieldQ (t : TypeId) (x : Value) (f : Nat) : Option Value := match P.underlying t, x with
  | some (.struct fs), .agg cs => match fs[f]? with
    | some f => match aggSize P f.type with
      | some (some n) => if f.offset + n ≤ cs.size then some (.agg ((cs.toList.drop f.offset).take n).toArray) else none
      | some none => cs.toList[f.offset]?
      | none => none
    | none => none
  | _, _ => none
def lenQ (ρ : Operand → Value) (o : Oper) (args : List Value) (t : Option TypeId) : Option Value := match args, t.bind P.underlying with
  | [.slice _ n _], some (.slice _) => some (.int .i64 n)
  | _, _ => genS P ρ o
def nilQ (ρ : Operand → Value) (o : Oper) (op : BinOp) (t : TypeId) (x y : Value) : Option Value := match op, P.underlying t, x, y with
  | .eql, some (.slice _), .slice (some ⟨_, _, none⟩) _ _, .slice none _ _ => some (.bool false)
  | .neq, some (.slice _), .slice (some ⟨_, _, none⟩) _ _, .slice none _ _ => some (.bool true)
  | .eql, some (.pointer _), .pointer (some ⟨_, _, none⟩), .pointer none => some (.bool false)
  | .neq, some (.pointer _), .pointer (some ⟨_, _, none⟩), .pointer none => some (.bool true)
  | _, _, _, _ => genS P ρ o
def binQ (ρ : Operand → Value) (o : Oper) (op : BinOp) (t : TypeId) (x y : Value) : Option Value := match x, y with
  | .int k a, .int k' b => if k = k' ∧ intT P t = true then match intBin op k a b with
      | some v => some v
      | none => genS P ρ o
    else none
  | x, y => nilQ P ρ o op t x y
def callQ (ρ : Operand → Value) (o : Oper) (c : Call) : Option Value := match c.callee with
  | .builtin .len => lenQ P ρ o (c.args.toList.map ρ) c.argTypes[0]?
  | .builtin .max | .builtin .min => genS P ρ o
  | _ => none

/-- Operands that the evaluator knows. -/
def okX : Operand → Bool
  | .global _ => false
  | .const v => grd 3 v
  | _ => true
def okOp (o : Oper) : Bool := o.op.operands.toList.all okX
/-- Operations that yield a value and change nothing. -/
def qop (ρ : Operand → Value) (o : Oper) (H : SW) : Option Value :=
  match o.op with
  | .move x => some (ρ x)
  | .assign x => some (ρ x)
  | .pick c a b => pickQ (ρ c) (ρ a) (ρ b)
  | .load t x => loadQ P t (ρ x) H
  | .fieldAddr s x f => fieldAddrQ P s (ρ x) f
  | .indexAddr t x ix => indexAddrQ P t (ρ x) (ρ ix)
  | .slice t x lo hi none => sliceS P ρ t x lo hi H
  | .makeFunc (.func f) first captured => some (.func (.func f) (first.toList.map ρ).toArray (captured.toList.map ρ).toArray)
  | .extract t ix => extractQ (ρ t) ix
  | .build t parts => buildQ P t (parts.toList.map fun p => (p.1, ρ p.2))
  | .field t x f => fieldQ P t (ρ x) f
  | .call c => callQ P ρ o c
  | .binOp op t x y _ => binQ P ρ o op t (ρ x) (ρ y)
  | .unOp .. => genS P ρ o
  | .convert .. => genS P ρ o
  | .index .. => genS P ρ o
  | _ => none

/-- Operations that do more. -/
def effect (o : Oper) : Bool :=
  match o.op with
  | .alloc _ | .box .. | .buildSlice .. | .makeSlice .. | .store .. => true
  | .call c => match c.callee with
    | .builtin .append => true
    | .builtin .copy => true
    | .builtin _ => false
    | _ => true
  | _ => false
def allocS (t : TypeId) (cs : List Value) (H : SW) : Option (Value × SW) := some (.pointer (some ⟨H.n, 0, none⟩), H.push (.cells cs t true))
def storeS (t : TypeId) (b off : Nat) (v : Value) (H : SW) : Option (Value × SW) :=
  match H.get b, P.info? t with
  | some (.cells cs t' ex), some i =>
    if v.cells.size = i.size ∧ off + v.cells.size ≤ cs.length ∧ (v.cells.toList.all Value.oneCell') = true then some (undef, H.put b (some (.cells (writeL cs off v.cells.toList) t' ex)))
    else none
  | _, _ => none
/-- What is appended. -/
def newS (size : Nat) (x : Value) (H : SW) : Option (Nat × List Value) :=
  match x with
  | .slice none 0 _ => some (0, [])
  | .slice (some ⟨b, off, none⟩) n _ => match H.get b with
    | some (.cells cs _ _) => if off + n * size ≤ cs.length ∧ (((cs.drop off).take (n * size)).all Value.oneCell') = true then some (n, (cs.drop off).take (n * size)) else none
    | _ => none
  | _ => none
def appendS (s : Value) (t : TypeId) (x : Value) (tx : TypeId) (H : SW) : Option (Value × SW) :=
  match P.underlying t, P.underlying tx, s with
  | some (.slice e), some (.slice _), .slice base len c =>
    match P.info? e, zeroS P e with
    | some i, some z => match newS i.size x H with
      | some (n, new) =>
        let need := len + n
        if i.bytes = 0 ∨ i.size ≠ z.length ∨ (4 * need + 4000) * i.bytes > 2 ^ 48 ∨ need ≥ 2 ^ 62 then none else
        match base with
        | none =>
          if len = 0 ∧ c = 0 then
            if n = 0 then some (.slice none 0 0, H) else some (.slice (some ⟨H.n, 0, none⟩) need need, H.push (.cells new e false))
          else none
        | some ⟨b, off, none⟩ => match H.get b with
          | some (.cells cs t' ex) =>
            if need ≤ c then
              if off + need * i.size ≤ cs.length then some (.slice (some ⟨b, off, none⟩) need c, H.put b (some (.cells (writeL cs (off + len * i.size) new) t' ex))) else none
            else if off + len * i.size ≤ cs.length ∧ t' = e then
              if ex then some (.slice (some ⟨H.n, 0, none⟩) need need, H.push (.cells ((cs.drop off).take (len * i.size) ++ new) e false))
              else if off = 0 ∧ c * i.size = cs.length ∧ c = len then some (.slice (some ⟨H.n, 0, none⟩) need need, (H.put b none).push (.cells (cs ++ new) e false))
              else none
            else none
          | _ => none
        | _ => none
      | none => none
    | _, _ => none
  | _, _, _ => none

section
variable (C R : Nat → List Value → SW → Option (Value × SW))
def buildSliceE (t : TypeId) (len : Nat) (parts : List (Nat × Value)) (H : SW) : Option (Value × SW) := match elemSize P t with
  | some (e, size) =>
    if len * size > 2 ^ 24 then none else
    match (if len * size = 0 then some [] else zeroS P e) with
    | some z => match Instr.fill (fun i => some (i * size, size)) ((Array.range (len * size)).map (z.toArray[· % z.toArray.size]!)) parts with
      | some cs => some (.slice (some ⟨H.n, 0, none⟩) len len, H.push (.cells cs.toList e true))
      | none => none
    | none => none
  | none => none
def makeSliceE (t : TypeId) (l c : Value) (H : SW) : Option (Value × SW) := match elemSize P t, l, c with
  | some (e, size), .int .i64 l, .int .i64 c => match P.info? e, (if c.toNat * size = 0 then some [] else zeroS P e) with
    | some i, some z =>
      if 0 ≤ l ∧ l ≤ c ∧ i.bytes * c ≤ 2 ^ 40 ∧ c < 2 ^ 40 then
        some (.slice (some ⟨H.n, 0, none⟩) l.toNat c.toNat, H.push (.cells ((Array.range (c.toNat * size)).map (z.toArray[· % z.toArray.size]!)).toList e true))
      else none
    | _, _ => none
  | _, _, _ => none
def allocE (t : TypeId) (H : SW) : Option (Value × SW) := match zeroS P t with
  | some z => allocS t z H
  | none => none
def storeE (t : TypeId) (a x : Value) (H : SW) : Option (Value × SW) := match a with
  | .pointer (some ⟨b, off, none⟩) => storeS P t b off x H
  | _ => none
def callF (f : Value) (args : List Value) (H : SW) : Option (Value × SW) := match f with
  | .func (.func fid) first captured => if first.size = 0 then C fid (args ++ captured.toList) H else none
  | .func (.yield l) first captured => if first.size = 0 ∧ captured.size = 0 then R l args H else none
  | _ => none
def appendE (args : List Value) (ts : List TypeId) (H : SW) : Option (Value × SW) := match args, ts with
  | [s, x], [t, tx] => appendS P s t x tx H
  | _, _ => none
/-- Elements are copied; all are read before any is written. -/
def copyE (args : List Value) (ts : List TypeId) (H : SW) : Option (Value × SW) := match args, ts with
  | [.slice (some ⟨b, off, none⟩) n _, .slice (some ⟨b', off', none⟩) n' _], [td, _] => match P.underlying td, H.get b, H.get b' with
    | some (.slice e), some (.cells cs t ex), some (.cells cs' _ _) =>
      if (P.info? e).map (·.size) = some 1 ∧ off' + Nat.min n' n ≤ cs'.length ∧ off + Nat.min n' n ≤ cs.length ∧ (((cs'.drop off').take (Nat.min n' n)).all Value.oneCell') = true then
        some (goInt (Nat.min n' n), H.put b (some (.cells (writeL cs off ((cs'.drop off').take (Nat.min n' n))) t ex)))
      else none
    | _, _, _ => none
  | _, _ => none
def callE (ρ : Operand → Value) (c : Call) (H : SW) : Option (Value × SW) := match c.callee with
  | .value f => callF C R (ρ f) (c.args.toList.map ρ) H
  | .builtin .append => appendE P (c.args.toList.map ρ) c.argTypes.toList H
  | .builtin .copy => copyE P (c.args.toList.map ρ) c.argTypes.toList H
  | _ => none
def eop (ρ : Operand → Value) (o : Oper) (H : SW) : Option (Value × SW) :=
  match o.op with
  | .alloc t => allocE P t H
  | .box t x => allocS t (ρ x).cells.toList H
  | .buildSlice t len parts => buildSliceE P t len (parts.toList.map fun p => (p.1, ρ p.2)) H
  | .makeSlice t l c => makeSliceE P t (ρ l) (ρ c) H
  | .store t a x => storeE P t (ρ a) (ρ x) H
  | .call c => callE P C R ρ c H
  | _ => none
def step (ρ : Operand → Value) (o : Oper) (H : SW) : Option (Value × SW) :=
  if okOp o then if effect o then eop P C R ρ o H else (qop P ρ o H).map fun v => (v, H) else none

def wantS (ops : Array Oper) (ρ : Operand → Value) (o : Oper) : Bool :=
  match o.guard with
  | none => true
  | some (j, b) => match (ops[j]?).bind (·.dst) with
    | some t => match ρ (.tmp t) with
      | .bool c => c == b
      | _ => false
    | none => false
def seqS (ops : Array Oper) : List Oper → SA → SW → Option (SA × SW)
  | [], a, H => some (a, H)
  | o :: l, a, H =>
    if wantS ops a.eval o then
      match step P C R a.eval o H with
      | some (v, H') => seqS ops l (a.put o.dst v) H'
      | none => none
    else seqS ops l (a.put o.dst undef) H

/-! ### A region whose order is drawn -/
/-- The operations for which one waits, as bits. -/
def predOf (PD : List Nat) (o : Oper) : Nat := o.after.toList.foldl (fun m e => if Region.binds .any e then m ||| (1 <<< e.on) ||| PD.getD e.on 0 else m) 0
def preds : List Oper → List Nat → List Nat
  | [], acc => acc
  | o :: l, acc => preds l (acc ++ [predOf acc o])
def waits (PD : List Nat) (i j : Nat) : Bool := (PD.getD i 0).testBit j
/-- The place that writes a temporary. -/
def wr : List Oper → Nat → Nat → Option Nat
  | [], _, _ => none
  | o :: l, i, t => if o.dst = some t then some i else wr l (i + 1) t
/-- A new variable that waits for nothing. -/
def fresh (o : Oper) : Bool :=
  match o.op with
  | .alloc _ => o.after.toList.isEmpty && o.guard.isNone
  | _ => false
def eff (o : Oper) : Bool := effect o && !fresh o
/-- How many steps stand ahead of place i. -/
def rank (l : List Oper) (i : Nat) : Nat := ((l.take i).filter eff).length
def allB (p : Nat → Oper → Bool) : Nat → List Oper → Bool
  | _, [] => true
  | i, o :: l => p i o && allB p (i + 1) l
def staticB (ops : Array Oper) (PD : List Nat) (n : Nat) : Bool :=
  allB (fun i o =>
    okOp o && (o.after.toList.all fun e => !Region.binds .any e || decide (e.on < i)) && (PD.getD i 0 == predOf PD o) &&
    ((o.looksAt ops).all fun t => match wr ops.toList 0 t with
      | none => true
      | some j => j == i || waits PD i j || waits PD j i) &&
    (match o.dst with
      | none => true
      | some t => wr ops.toList 0 t == some i && decide (t < n)) &&
    (if eff o then allB (fun j o' => !eff o' || j ≥ i || waits PD i j) 0 ops.toList else true)) 0 ops.toList

def rho (ops : Array Oper) (PD : List Nat) (a : SA) (vals : List Value) (i : Nat) : Operand → Value
  | .tmp t => match wr ops.toList 0 t with
    | some j => if waits PD i j then vals.getD j undef else a.get t
    | none => a.get t
  | x => a.eval x
/-- New variables ahead of all. -/
def births : List Oper → SW → Option SW
  | [], H => some H
  | o :: l, H => if fresh o then match o.op with
      | .alloc t => match zeroS P t with
        | some z => births l (H.push (.cells z t true))
        | none => none
      | _ => none
    else births l H
/-- The operations in turn: the values, and the heaps behind each step. ('m': the next new variable; 'hs': newest first.) -/
def drawGo (ops : Array Oper) (PD : List Nat) (a : SA) : List Oper → Nat → List Value → SW → List SW → Option (List Value × List SW)
  | [], _, vals, H, hs => some (vals, H :: hs)
  | o :: l, m, vals, H, hs =>
    if fresh o then drawGo ops PD a l (m + 1) (vals ++ [.pointer (some ⟨m, 0, none⟩)]) H hs
    else
      let ρ := rho ops PD a vals vals.length
      if wantS ops ρ o then
        if effect o then match eop P C R ρ o H with
          | some (v, H') => drawGo ops PD a l m (vals ++ [v]) H' (H :: hs)
          | none => none
        else match qop P ρ o H with
          | some v => drawGo ops PD a l m (vals ++ [v]) H hs
          | none => none
      else if effect o then drawGo ops PD a l m (vals ++ [undef]) H (H :: hs) else drawGo ops PD a l m (vals ++ [undef]) H hs
def isLoad (o : Oper) : Bool :=
  match o.op with
  | .load .. | .slice .. => true
  | _ => false
/-- The stages at which place i may be read. -/
def inWin (ops : Array Oper) (PD : List Nat) (i s : Nat) : Bool :=
  allB (fun j o' => !eff o' || ((!waits PD i j || decide (rank ops.toList j < s)) && (!waits PD j i || decide (s ≤ rank ops.toList j)))) 0 ops.toList
def wins (ops : Array Oper) (PD : List Nat) (m i : Nat) : List Nat := (List.range m).filter (inWin ops PD i)
def stageOk (ops : Array Oper) (PD : List Nat) (a : SA) (vals : List Value) (o : Oper) (i : Nat) (H : Option SW) : Bool :=
  match H with
  | some H => match qop P (rho ops PD a vals i) o H with
    | some v => veq2 v (vals.getD i undef)
    | none => false
  | none => false
/-- What is read is the same at whatever stage it may be read. -/
def stagesB (ops : Array Oper) (PD : List Nat) (a : SA) (vals : List Value) (hs : List SW) (m : Nat) : Bool :=
  allB (fun i o => !isLoad o || !(wantS ops (rho ops PD a vals i) o) || (wins ops PD m i).all fun s => stageOk P ops PD a vals o i hs[s]?) 0 ops.toList
def putAll : List Oper → List Value → SA → SA
  | o :: l, v :: vs, a => putAll l vs (a.put o.dst v)
  | _, _, a => a
def drawS (ops : Array Oper) (a : SA) (H : SW) : Option (SA × SW) :=
  let PD := preds ops.toList []
  if staticB ops PD a.n then
    match births P ops.toList H with
    | some H1 => match drawGo P C R ops PD a ops.toList H.n [] H1 [] with
      | some (vals, H2 :: hs) => if rank ops.toList ops.toList.length = 0 || stagesB P ops PD a vals (H2 :: hs).reverse (rank ops.toList ops.toList.length + 1) then some (putAll ops.toList vals a, H2) else none
      | _ => none
    | none => none
  else none
end

/-! ### Code -/
def resOne (a : SA) (H : SW) : ResultVar → Option Value
  | .tmp t => some (a.get t)
  | .cell x t => loadQ P t (a.get x) H
def resL (a : SA) (H : SW) : List ResultVar → Option (List Value)
  | [] => some []
  | r :: rs => match resOne P a H r with
    | some v => match resL a H rs with
      | some vs => some (v :: vs)
      | none => none
    | none => none
def oneOf : List Value → Value
  | [v] => v
  | vs => .tuple vs.toArray
def resS (fn : Func) (a : SA) (H : SW) : Option Value :=
  match resL P a H fn.results.toList with
  | some vs => some (oneOf vs)
  | none => none
def marksS : List Nat → SW → Option SW
  | [], H => some H
  | b :: ds, H => match H.get b with
    | some .dfr => marksS ds (H.put b none)
    | _ => none
def entersB (fn : Func) : Bool := !(fn.name == "runtime.NumGoroutine")
abbrev Go_ := Option Nat → Code → SA → SW → Option (Exit × SA × SW)
def leaveB (fn : Func) : Option (Exit × SA × SW) → Option (Value × SW)
  | some (.normal, a', H') | some (.ret, a', H') => match marksS a'.defers H' with
    | some H'' => match resS P fn a' H'' with
      | some v => some (v, H'')
      | none => none
    | none => none
  | _ => none
/-- A call, of code that is run by 'go'. -/
def callB (go : Go_) (fid : Nat) (args : List Value) (H : SW) : Option (Value × SW) :=
  match P.funcs[fid]? with
  | none => none
  | some fn => if entersB fn then
      match fn.body with
      | none => none
      | some c => leaveB P fn (go none c (SA.args { n := args.length + (fn.ntmps - args.length), tr := .lf, defers := [] } 0 args) H)
    else none
def endRoundB (l : Nat) (x : Exit) (H₂ : SW) : Option (Value × SW) :=
  match H₂.get l with
  | some (.loop r₂) => match x with
    | .normal => some (.bool true, H₂.put l (some (.loop { r₂ with state := .ready, pending := none })))
    | .ret => some (.bool false, H₂.put l (some (.loop { r₂ with state := .done, pending := some .ret })))
    | .exit id => some (.bool false, H₂.put l (some (.loop { r₂ with state := .done, pending := some (.exit id) })))
    | _ => none
  | _ => none
def putParams : List Tmp → List Value → SA → SA
  | t :: ts, v :: vs, a => putParams ts vs (a.put (some t) v)
  | _, _, a => a
def roundBody (go : Go_) (l : Nat) (body : Code) : Option (Exit × SA × SW) → Option (Value × SW)
  | some (.normal, a₁, H₁) => match H₁.get l with
    | some (.loop r₁) => if r₁.state = .ready then
        match go (some l) body a₁ (H₁.put l (some (.loop { r₁ with state := .busy }))) with
        | some (x, _, H₂) => endRoundB l x H₂
        | none => none
      else none
    | _ => none
  | _ => none
/-- A round of a range over a function. -/
def roundB (go : Go_) (l : Nat) (args : List Value) (H : SW) : Option (Value × SW) :=
  match H.get l with
  | some (.loop r) =>
    if args.length = r.params.size then roundBody go l r.body (go (some l) r.assign (putParams r.params.toList args { r.act with defers := [] }) H) else none
  | _ => none
def contS (go : Go_) (rd : Option Nat) (y : Code) : Option (Exit × SA × SW) → Option (Exit × SA × SW)
  | some (.normal, a', H') => go rd y a' H'
  | r => r
def condS (go : Go_) (rd : Option Nat) (t e : Code) (a : SA) (H : SW) : Value → Option (Exit × SA × SW)
  | .bool b => go rd (if b then t else e) a H
  | _ => none
def blockS (id : Nat) : Option (Exit × SA × SW) → Option (Exit × SA × SW)
  | some (.exit id', a', H') => if id' = id then some (.normal, a', H') else some (.exit id', a', H')
  | r => r
def regionS (go : Go_) (ops : Array Oper) (a : SA) (H : SW) (d : Bool) : Option (Exit × SA × SW) :=
  match (if d then drawS P (callB P go) (roundB go) ops a H else seqS P (callB P go) (roundB go) ops ops.toList a H) with
  | some (a', H') => some (.normal, a', H')
  | none => none
def jumpS (a : SA) (H : SW) : Option Code → Option (Exit × SA × SW)
  | none => some (.normal, a, H)
  | some .ret => some (.ret, a, H)
  | some (.exit id) => some (.exit id, a, H)
  | _ => none
def endRangeS (a : SA) (l : Nat) : Option (Value × SW) → Option (Exit × SA × SW)
  | some (_, H') => match H'.get l with
    | some (.loop r) => if r.state = .busy then none else jumpS a (H'.put l (some (.loop { r with state := .exhausted }))) r.pending
    | _ => none
  | none => none
def rangeS (go : Go_) (rd : Option Nat) (params : Array Tmp) (assign body : Code) (a : SA) (H : SW) : Value → Option (Exit × SA × SW)
  | .func (.func fid) first captured =>
      match rd with
      | none => endRangeS { a with defers := H.n :: a.defers } (H.n + 1) (callB P go fid (first.toList ++ (.func (.yield (H.n + 1)) #[] #[] :: captured.toList)) ((H.push .dfr).push (.loop { state := .ready, pending := none, act := a, params, assign, body })))
      | some l => match H.get l with
        | some (.loop _) => endRangeS a H.n (callB P go fid (first.toList ++ (.func (.yield H.n) #[] #[] :: captured.toList)) (H.push (.loop { state := .ready, pending := none, act := a, params, assign, body })))
        | _ => none
  | _ => none
/-- Code, run: how it ends, the temporaries, the heap. ('rd': the record of the range over a function whose round it is.) -/
def codeS : Nat → Go_
  | 0, _, _, _, _ => none
  | f + 1, rd, c, a, H =>
    match c with
    | .skip => some (.normal, a, H)
    | .ret => some (.ret, a, H)
    | .exit id => some (.exit id, a, H)
    | .seq x y => contS (codeS f) rd y (codeS f rd x a H)
    | .cond x t e => if okX x then condS (codeS f) rd t e a H (a.eval x) else none
    | .block id b => blockS id (codeS f rd b a H)
    | .loop b => contS (codeS f) rd (.loop b) (codeS f rd b a H)
    | .region _ ops d => regionS P (codeS f) ops a H d
    | .rangeFunc g params assign body => if okX g then rangeS P (codeS f) rd params assign body a H (a.eval g) else none
    | _ => none
/-- A call without arguments, from an empty heap. -/
def closedS (fuel f : Nat) : Option Value := (callB P (codeS P fuel) f [] ⟨0, .lf⟩).map (·.1)
end
end Go.Proofs.Ytkliejppigfjiaa.Ev
