/- An interpreter of the model's code over values without addresses, and its soundness: part 1. -/
import Derived.Calls
import Derived.Orders
import Derived.KernelRfl
import Derived.Laws.Cells
import Derived.Laws.CopyRow
import Derived.Laws.World
import Derived.Laws.StructEq
import Derived.MapKept
import Derived.Laws.ByValue
import Derived.Lib.Builder
import Derived.Laws.BytesArg
import Derived.Laws.IdiomStrings
set_option linter.unusedVariables false
set_option linter.unusedSimpArgs false
set_option linter.unusedSectionVars false
/- A plain interpreter of the model's code over values without addresses: the notions. -/
namespace Go.Sx

/-! ### Values -/
/-- Data by value. 'c': just this value. 'e': an empty slice without room. 'sl', 'fs': a slice that is only read; sz cells an element. -/
inductive D where
  | c (v : Value)
  | e
  | sl (sz : Nat) (rows : List (List D))
  | fs (sz n : Nat) (row : Nat → List D)

/-- A simple cell. -/
inductive S where
  | any
  | d (x : D)
  | ptr (id off : Nat)
  | eptr (id row off : Nat)
  | rptr (cs : List D)
  | gs (id : Nat)
  | as (id : Nat)
  | ms (id off len : Nat)
  | map (id : Nat)
  | it (id : Nat)

inductive C where
  | s (x : S)
  | f (fn : Fn) (first captured : List S)
  | ifc (t : TypeId) (x : S)

inductive TV where
  | c (x : C)
  | agg (cs : List C)

inductive AV where
  | c (x : C)
  | agg (cs : List C)
  | tup (vs : List TV)

inductive Blk where
  | dead
  | cells (cs : List C) (ty : Option TypeId := none)
  | grow (sz : Nat) (rows : List (List D))
  | froz (sz : Nat) (rows : List (List D))
  | arrD (sz : Nat) (rows : List (List D)) (ty : Option TypeId := none)
  | arr (sz : Nat) (rows : List (List C))
  | map (es : List (Value × AV))
  | sit (s : ByteArray) (pos : Nat)

abbrev Env := List AV
abbrev Mem := List Blk

def AV.v (x : Value) : AV := .c (.s (.d (.c x)))
def AV.s (x : S) : AV := .c (.s x)
def AV.any : AV := .c (.s .any)
def AV.undef : AV := .tup []
def TV.av : TV → AV
  | .c x => .c x
  | .agg cs => .agg cs
def AV.tv : AV → Option TV
  | .c x => some (.c x)
  | .agg cs => some (.agg cs)
  | .tup _ => none
def AV.cells : AV → Option (List C)
  | .c x => some [x]
  | .agg cs => some cs
  | .tup _ => none

/-! ### Decision trees -/
inductive T (α : Type) where
  | ret (a : α)
  | fail
  | ite (b : Bool) (t e : T α)
namespace T
def bind {α β : Type} : T α → (α → T β) → T β
  | ret a, f => f a
  | fail, _ => fail
  | ite b t e, f => ite b (t.bind f) (e.bind f)
def run {α : Type} : T α → Option α
  | ret a => some a
  | fail => none
  | ite b t e => bif b then t.run else e.run
def need {α : Type} : Option α → T α
  | some a => ret a
  | none => fail
def guard {α : Type} (b : Bool) (t : T α) : T α := ite b t fail
end T

structure St where
  env : Env
  mem : Mem
inductive Ex where
  | nm
  | ex (id : Nat)
  | gt (l : Nat)
  | rt

/-! ### Ids -/
def S.ids : S → List Nat
  | .ptr id _ | .eptr id _ _ | .gs id | .as id | .ms id _ _ | .map id | .it id => [id]
  | _ => []
def C.ids : C → List Nat
  | .s x => x.ids
  | .f _ fi ca => fi.flatMap S.ids ++ ca.flatMap S.ids
  | .ifc _ x => x.ids
def TV.ids : TV → List Nat
  | .c x => x.ids
  | .agg cs => cs.flatMap C.ids
def AV.ids : AV → List Nat
  | .c x => x.ids
  | .agg cs => cs.flatMap C.ids
  | .tup vs => vs.flatMap TV.ids
def Blk.ids : Blk → List Nat
  | .cells cs _ => cs.flatMap C.ids
  | .arr _ rows => rows.flatMap fun r => r.flatMap C.ids
  | .map es => es.flatMap fun e => e.2.ids
  | _ => []
def S.ren (f : Nat → Nat) : S → S
  | .ptr id off => .ptr (f id) off
  | .eptr id row off => .eptr (f id) row off
  | .gs id => .gs (f id)
  | .as id => .as (f id)
  | .ms id off len => .ms (f id) off len
  | .map id => .map (f id)
  | .it id => .it (f id)
  | x => x
def C.ren (f : Nat → Nat) : C → C
  | .s x => .s (x.ren f)
  | .f fn fi ca => .f fn (fi.map (S.ren f)) (ca.map (S.ren f))
  | .ifc t x => .ifc t (x.ren f)
def TV.ren (f : Nat → Nat) : TV → TV
  | .c x => .c (x.ren f)
  | .agg cs => .agg (cs.map (C.ren f))
def AV.ren (f : Nat → Nat) : AV → AV
  | .c x => .c (x.ren f)
  | .agg cs => .agg (cs.map (C.ren f))
  | .tup vs => .tup (vs.map (TV.ren f))
def Blk.ren (f : Nat → Nat) : Blk → Blk
  | .cells cs ty => .cells (cs.map (C.ren f)) ty
  | .arr sz rows => .arr sz (rows.map fun r => r.map (C.ren f))
  | .map es => .map (es.map fun e => (e.1, e.2.ren f))
  | b => b

/-! ### Canonical memory: what the roots reach, renumbered -/
def posOf (i : Nat) : List Nat → Nat
  | [] => 0
  | j :: l => if j == i then 0 else posOf i l + 1
def reach (mem : Mem) : (fuel : Nat) → (work seen : List Nat) → Option (List Nat)
  | _, [], seen => some seen
  | 0, _ :: _, _ => none
  | n + 1, i :: work, seen =>
    if seen.contains i then reach mem n work seen
    else match mem[i]? with
      | none => none
      | some b => reach mem n (work ++ b.ids) (seen ++ [i])
def reachFuel : Nat := 100000
def subMem (mem : Mem) (seen : List Nat) : Mem := seen.map fun i => (mem.getD i .dead).ren fun j => posOf j seen

/-! ### Are two states the same? (no table of functions is compared) -/
def vEq : Value → Value → Bool
  | .bool a, .bool b => a == b
  | .int j a, .int k b => decide (j = k) && a == b
  | .string a, .string b => a.data.toList == b.data.toList
  | .pointer none, .pointer none => true
  | .slice none a b, .slice none c d => a == c && b == d
  | .map none, .map none => true
  | .nilFunc, .nilFunc => true
  | .nilIface, .nilIface => true
  | _, _ => false
mutual
def dEq : D → D → Bool
  | .c a, .c b => vEq a b
  | .e, .e => true
  | .sl a r, .sl b s => a == b && dEqLL r s
  | _, _ => false
def dEqL : List D → List D → Bool
  | [], [] => true
  | a :: r, b :: s => dEq a b && dEqL r s
  | _, _ => false
def dEqLL : List (List D) → List (List D) → Bool
  | [], [] => true
  | a :: r, b :: s => dEqL a b && dEqLL r s
  | _, _ => false
end
def listEq {α : Type} (f : α → α → Bool) : List α → List α → Bool
  | [], [] => true
  | a :: r, b :: s => f a b && listEq f r s
  | _, _ => false
def sEq : S → S → Bool
  | .any, .any => true
  | .d a, .d b => dEq a b
  | .ptr a b, .ptr c d => a == c && b == d
  | .eptr a b e, .eptr c d f => a == c && b == d && e == f
  | .rptr a, .rptr b => dEqL a b
  | .gs a, .gs b | .as a, .as b | .map a, .map b | .it a, .it b => a == b
  | .ms a b e, .ms c d f => a == c && b == d && e == f
  | _, _ => false
def cEq : C → C → Bool
  | .s a, .s b => sEq a b
  | .f fn a b, .f gn c d => decide (fn = gn) && listEq sEq a c && listEq sEq b d
  | .ifc t a, .ifc u b => t == u && sEq a b
  | _, _ => false
def tvEq : TV → TV → Bool
  | .c a, .c b => cEq a b
  | .agg a, .agg b => listEq cEq a b
  | _, _ => false
def avEq : AV → AV → Bool
  | .c a, .c b => cEq a b
  | .agg a, .agg b => listEq cEq a b
  | .tup a, .tup b => listEq tvEq a b
  | _, _ => false
def blkEq : Blk → Blk → Bool
  | .dead, .dead => true
  | .cells a s, .cells b t => listEq cEq a b && decide (s = t)
  | .grow a r, .grow b s | .froz a r, .froz b s => a == b && dEqLL r s
  | .arrD a r t, .arrD b s u => a == b && dEqLL r s && decide (t = u)
  | .arr a r, .arr b s => a == b && listEq (listEq cEq) r s
  | .map a, .map b => listEq (fun x y => vEq x.1 y.1 && avEq x.2 y.2) a b
  | .sit a b, .sit c d => a.data.toList == c.data.toList && b == d
  | _, _ => false

/-! ### The tables -/
structure TI where
  size : Nat
  bytes : Nat
  agg : Bool
  zero : List Value
  desc : TypeDesc
  plain : Bool
structure Ctx where
  ti : TypeId → Option TI
  fn : FuncId → Option Func
  glob : Nat → Option (List D)
  prim : FuncId → List AV → Option AV
  keep : FuncId → Nat → Option (List Nat)
  mprim : FuncId → List AV → Mem → Option (T (AV × Mem))
  arrs : FuncId → Nat → Nat
  lp : FuncId → Option Nat → Nat → Option (St → T (Ex × St))
  gsv : FuncId → Bool := fun _ => false

def evalO (X : Ctx) (env : Env) : Operand → AV
  | .tmp t => env.getD t .undef
  | .const v => match v with
    | .agg cs => .agg (cs.toList.map fun x => .s (.d (.c x)))
    | .tuple _ => .any
    | x => .v x
  | .global g => match X.glob g with
    | some cs => .s (.rptr cs)
    | none => .any
  | .func f => .c (.f (.func f) [] [])

/-! ### Reads of data -/
def D.rows : D → Option (Nat × Nat × (Nat → List D))
  | .sl sz rows => some (sz, rows.length, fun i => rows.getD i [])
  | .fs sz n row => some (sz, n, row)
  | .e => some (0, 0, fun _ => [])
  | .c (.slice none 0 0) => some (0, 0, fun _ => [])
  | _ => none
def D.list : D → Option (Nat × List (List D))
  | .sl sz rows => some (sz, rows)
  | .fs sz n row => some (sz, (List.range n).map row)
  | .e => some (0, [])
  | .c (.slice none 0 0) => some (0, [])
  | _ => none
def Blk.rows : Blk → Option (Nat × List (List D))
  | .grow sz rows | .froz sz rows | .arrD sz rows _ => some (sz, rows)
  | _ => none
/-- What a cell reads as, for ever; the block that it must be sealed for. -/
def C.toD (look : Nat → Option Blk) : C → Option (D × List (Nat × Blk))
  | .s (.d x) => some (x, [])
  | .s (.gs id) => match look id with
    | some (.grow sz rows) | some (.froz sz rows) => some (.sl sz rows, [])
    | _ => none
  | .s (.as id) => match look id with
    | some (.arrD sz rows _) => some (.sl sz rows, [(id, .froz sz rows)])
    | some (.froz sz rows) => some (.sl sz rows, [])
    | _ => none
  | _ => none
def C.any : C := .s .any
def C.d (x : D) : C := .s (.d x)

/-! ### What an operation does -/
structure OR where
  r : AV
  upd : List (Nat × Blk) := []
  new : List Blk := []

def lim : Nat := 70368744177664      -- 2^46

def intOf : AV → Option (IntKind × Int)
  | .c (.s (.d (.c (.int k n)))) => some (k, n)
  | _ => none
def boolOf : AV → Option Bool
  | .c (.s (.d (.c (.bool b)))) => some b
  | _ => none
def strOf : AV → Option ByteArray
  | .c (.s (.d (.c (.string s)))) => some s
  | _ => none

def strEq (a b : ByteArray) : Bool := a.data.toList == b.data.toList

/-- Arithmetic and comparisons on two plain values. -/
def aInt (op : BinOp) (k : IntKind) (a b : Int) : T Value :=
  match op with
  | .add => .ret (.int k (k.wrap (a + b)))
  | .sub => .ret (.int k (k.wrap (a - b)))
  | .mul => .ret (.int k (k.wrap (a * b)))
  | .quo => .ite (b == 0) .fail (.ret (.int k (k.wrap (a.tdiv b))))
  | .rem => .ite (b == 0) .fail (.ret (.int k (a.tmod b)))
  | .and => .ret (.int k (k.wrap (BitVec.ofInt k.bits a &&& BitVec.ofInt k.bits b).toNat))
  | .or => .ret (.int k (k.wrap (BitVec.ofInt k.bits a ||| BitVec.ofInt k.bits b).toNat))
  | .xor => .ret (.int k (k.wrap (BitVec.ofInt k.bits a ^^^ BitVec.ofInt k.bits b).toNat))
  | .andNot => .ret (.int k (k.wrap (BitVec.ofInt k.bits a &&& ~~~(BitVec.ofInt k.bits b)).toNat))
  | .eql => .ret (.bool (a == b))
  | .neq => .ret (.bool (a != b))
  | .lss => .ret (.bool (decide (a < b)))
  | .leq => .ret (.bool (decide (a ≤ b)))
  | .gtr => .ret (.bool (decide (a > b)))
  | .geq => .ret (.bool (decide (a ≥ b)))
  | _ => .fail
def aStr (op : BinOp) (a b : ByteArray) : T Value :=
  match op with
  | .add => .guard (decide (a.size + b.size ≤ 9223372036854775807)) (.ret (.string (a ++ b)))
  | .eql => .ret (.bool (strEq a b))
  | .neq => .ret (.bool (!strEq a b))
  | _ => .fail
/-- Equality of plain cells, as Go compares them. -/
def eqAtom : Value → Value → Option Bool
  | .int k a, .int k' b => if k = k' then some (a == b) else none
  | .bool a, .bool b => some (a == b)
  | .string a, .string b => some (strEq a b)
  | _, _ => none
def atomOf : C → Option Value
  | .s (.d (.c v)) => some v
  | _ => none
/-- '==' on values of a type whose parts are ints, bools and strings. -/
def eqFs (X : Ctx) (go : TypeId → List C → List C → Option Bool) (cs ds : List C) : List Field → Option Bool
  | [] => some true
  | f :: fs => if f.name == "_" then none else match X.ti f.type with
    | some j => if f.offset + j.size ≤ cs.length && f.offset + j.size ≤ ds.length then
        match go f.type ((cs.drop f.offset).take j.size) ((ds.drop f.offset).take j.size), eqFs X go cs ds fs with
        | some p, some q => some (p && q)
        | _, _ => none
      else none
    | none => none
def eqArr (go : List C → List C → Option Bool) (sz : Nat) : (n : Nat) → List C → List C → Option Bool
  | 0, _, _ => some true
  | n + 1, cs, ds => if sz ≤ cs.length && sz ≤ ds.length then
      match go (cs.take sz) (ds.take sz), eqArr go sz n (cs.drop sz) (ds.drop sz) with
      | some p, some q => some (p && q)
      | _, _ => none
    else none
def under (X : Ctx) (t : TypeId) : Option TypeDesc :=
  match X.ti t with
  | some i => match i.desc with
    | .named _ u => (X.ti u).map (·.desc)
    | d => some d
  | none => none
def eqLeaf : TypeDesc → Value → Value → Option Bool
  | .int _, .int k a, .int k' b => if k = k' then some (a == b) else none
  | .bool, .bool a, .bool b => some (a == b)
  | .string, .string a, .string b => some (strEq a b)
  | _, _, _ => none
def eqT (X : Ctx) : Nat → TypeId → List C → List C → Option Bool
  | 0, _, _, _ => none
  | n + 1, t, cs, ds => match under X t with
    | some (.struct fs) => match X.ti t with
      | some i => if i.plain then eqFs X (eqT X n) cs ds fs.toList else none
      | none => none
    | some (.array m e) => match X.ti e with
      | some j => eqArr (eqT X n e) j.size m cs ds
      | none => none
    | some d => match cs, ds with
      | [x], [y] => match atomOf x, atomOf y with
        | some a, some b => eqLeaf d a b
        | _, _ => none
      | _, _ => none
    | none => none
/-- Is this cell, of a type of this kind, nil? -/
def isNilOf (d : TypeDesc) : C → Option Bool
  | .s (.d (.c v)) => match d, v with
    | .pointer _, .pointer none | .slice _, .slice none 0 0 | .map _ _, .map none | .func .., .nilFunc | .interface _, .nilIface => some true
    | _, _ => none
  | .s (.ptr ..) | .s (.eptr ..) | .s (.rptr _) => match d with
    | .pointer _ => some false
    | _ => none
  | .s (.map _) => match d with
    | .map _ _ => some false
    | _ => none
  | .f .. => match d with
    | .func .. => some false
    | _ => none
  | .ifc .. => match d with
    | .interface _ => some false
    | _ => none
  | _ => none
def eqNil (d : TypeDesc) (kc : Bool) (a b : C) : Option Bool :=
  match isNilOf d a, isNilOf d b with
  | some true, some true => match d with
    | .interface _ => if kc then some true else none
    | _ => some true
  | some true, some false | some false, some true => some false
  | _, _ => none

end Go.Sx

/- A plain interpreter of the model's code over values without addresses: the operations and the control. -/
namespace Go.Sx

def zeroAV (i : TI) : AV := if i.agg then .agg (i.zero.map fun v => .d (.c v)) else
  match i.zero with
  | [v] => .v v
  | _ => .any

/-- A cell that can be laid into memory: its value is known to be one cell. -/
def isCellV : Value → Bool
  | .agg _ | .tuple _ => false
  | _ => true
def _root_.Go.Sx.C.solid : C → Bool
  | .s .any => false
  | .s (.d (.c v)) => isCellV v
  | _ => true
def solid (cs : List C) : Bool := cs.all C.solid

def sizedCells (v : AV) (n : Nat) : Option (List C) :=
  match v.cells with
  | some cs => if cs.length = n && solid cs then some cs else none
  | none => none

def readPart (i : TI) (cs : List C) (off : Nat) : Option AV :=
  if i.agg then (if off + i.size ≤ cs.length then some (.agg ((cs.drop off).take i.size)) else none)
  else (cs[off]?).map AV.c
def readPartD (i : TI) (cs : List D) (off : Nat) : Option AV :=
  if i.agg then (if off + i.size ≤ cs.length then some (.agg (((cs.drop off).take i.size).map C.d)) else none)
  else (cs[off]?).map fun x => .c (.d x)
def writePart (cs new : List C) (off : Nat) : Option (List C) :=
  if off + new.length ≤ cs.length then some (cs.take off ++ new ++ cs.drop (off + new.length)) else none

def loadA (i : TI) (a : AV) (mem : Mem) : Option AV :=
  match a with
  | .c (.s (.ptr id off)) => match mem[id]? with
    | some (.cells cs _) => readPart i cs off
    | _ => none
  | .c (.s (.eptr id row off)) => match mem[id]? with
    | some (.arr _ rows) => match rows[row]? with
      | some cs => readPart i cs off
      | none => none
    | some (.arrD _ rows _) => match rows[row]? with
      | some cs => readPartD i cs off
      | none => none
    | _ => none
  | .c (.s (.rptr cs)) => readPartD i cs 0
  | _ => none
def writeD (cs new : List D) (off : Nat) : Option (List D) :=
  if off + new.length ≤ cs.length then some (cs.take off ++ new ++ cs.drop (off + new.length)) else none
def allD (mem : Mem) : List C → Option (List D × List (Nat × Blk))
  | [] => some ([], [])
  | c :: cs => match c.toD (fun i => mem[i]?), allD mem cs with
    | some (x, u), some (xs, us) => some (x :: xs, u ++ us)
    | _, _ => none

def storeA (i : TI) (a v : AV) (mem : Mem) : Option (List (Nat × Blk)) :=
  match sizedCells v i.size with
  | none => none
  | some new =>
    match a with
    | .c (.s (.ptr id off)) => match mem[id]? with
      | some (.cells cs ty) => (writePart cs new off).map fun cs' => [(id, .cells cs' ty)]
      | _ => none
    | .c (.s (.eptr id row off)) => match mem[id]? with
      | some (.arr sz rows) => match rows[row]? with
        | some cs => (writePart cs new off).map fun cs' => [(id, .arr sz (rows.set row cs'))]
        | none => none
      | some (.arrD sz rows _) => match rows[row]?, allD mem new with
        | some cs, some (ds, us) => if us.all fun u => u.1 != id then (writeD cs ds off).map fun cs' => us ++ [(id, .arrD sz (rows.set row cs'))] else none
        | _, _ => none
      | _ => none
    | _ => none

/-- A store: of a whole row, the row's place is asked for in the tree. -/
def storeT (i : TI) (a v : AV) (mem : Mem) : T (List (Nat × Blk)) :=
  match a with
  | .c (.s (.eptr id row 0)) => match mem[id]?, sizedCells v i.size with
    | some (.arrD sz rows _), some new => match allD mem new with
      | some (ds, us) => if i.size = sz ∧ (us.all fun u => u.1 != id) = true then .guard (decide (row < rows.length)) (.ret (us ++ [(id, .arrD sz (rows.set row ds))])) else .fail
      | none => .fail
    | _, _ => T.need (storeA i a v mem)
  | _ => T.need (storeA i a v mem)

def fillA (place : Nat → Option (Nat × Nat)) (cells : List C) : List (Nat × AV) → Option (List C)
  | [] => some cells
  | (i, v) :: rest => match place i, v.cells with
    | some (off, size), some cs => if cs.length = size && solid cs then
        match writePart cells cs off with
        | some cells' => fillA place cells' rest
        | none => none
      else none
    | _, _ => none
def structPlace (X : Ctx) (fs : Array Field) (i : Nat) : Option (Nat × Nat) :=
  match fs.toList[i]? with
  | some f => (X.ti f.type).map fun j => (f.offset, j.size)
  | none => none
def chunk {α : Type} (sz : Nat) : (n : Nat) → List α → List (List α)
  | 0, _ => []
  | n + 1, l => l.take sz :: chunk sz n (l.drop sz)
def sliceLen (a : S) (mem : Mem) : Option Nat :=
  match a with
  | .d x => x.rows.map (·.2.1)
  | .gs id => match mem[id]? with
    | some (.grow _ rows) | some (.froz _ rows) => some rows.length
    | _ => none
  | .as id => match mem[id]? with
    | some (.arr _ rows) => some rows.length
    | some (.arrD _ rows _) | some (.froz _ rows) => some rows.length
    | _ => none
  | .ms _ _ n => some n
  | _ => none
/-- The rows of a slice that can be read for ever. -/
def sliceRow (a : S) (mem : Mem) : Option (Nat × Nat × (Nat → List D)) :=
  match a with
  | .d x => x.rows
  | .gs id => match mem[id]? with
    | some (.grow sz rows) | some (.froz sz rows) => some (sz, rows.length, fun i => rows.getD i [])
    | _ => none
  | .as id => match mem[id]? with
    | some (.froz sz rows) => some (sz, rows.length, fun i => rows.getD i [])
    | _ => none
  | _ => none
/-- The rows that an append appends: as data. -/
def srcRows (x : AV) (mem : Mem) : Option (Nat × List (List D)) :=
  match x with
  | .c (.s (.d (.c (.string s)))) => some (1, s.data.toList.map fun b => [.c (.int .u8 b.toNat)])
  | .c (.s (.d y)) => y.list
  | .c (.s (.gs id)) | .c (.s (.as id)) => match mem[id]? with
    | some b => b.rows
    | none => none
  | _ => none
def srcRowsC (x : AV) (mem : Mem) : Option (Nat × List (List C)) :=
  match x with
  | .c (.s (.as id)) => match mem[id]? with
    | some (.arr sz rows) => some (sz, rows)
    | some b => b.rows.map fun p => (p.1, p.2.map fun r => r.map C.d)
    | none => none
  | _ => (srcRows x mem).map fun p => (p.1, p.2.map fun r => r.map C.d)
def inRange (i : Int) (n : Nat) : Bool := decide (0 ≤ i) && decide (i < n)

/-- A slice that owns a block that may be written. -/
def isArr (a : S) (mem : Mem) : Option (Nat × Nat × Nat) :=
  match a with
  | .as id => match mem[id]? with
    | some (.arr sz rows) => some (id, sz, rows.length)
    | some (.arrD sz rows _) => some (id, sz, rows.length)
    | _ => none
  | _ => none

def opIndexAddr (X : Ctx) (t : TypeId) (x ix : AV) (mem : Mem) : T OR :=
  match intOf ix with
  | none => .fail
  | some (_, i) =>
    match under X t, x with
    | some (.array n e), .c (.s (.ptr id off)) => match X.ti e with
      | some j => .guard (inRange i n) (.ret { r := .s (.ptr id (off + i.toNat * j.size)) })
      | none => .fail
    | some (.array n e), .c (.s (.rptr cs)) => match X.ti e with
      | some j => .guard (inRange i n) (.ret { r := .s (.rptr (cs.drop (i.toNat * j.size))) })
      | none => .fail
    | some (.slice e), .c (.s a) => match X.ti e with
      | none => .fail
      | some j => match a with
        | .ms id off n => .guard (inRange i n) (.ret { r := .s (.ptr id (off + i.toNat * j.size)) })
        | a => match isArr a mem with
          | some (id, sz, n) => if sz = j.size then .guard (inRange i n) (.ret { r := .s (.eptr id i.toNat 0) }) else .fail
          | none => match sliceRow a mem with
            | some (sz, n, row) => if n = 0 ∨ sz = j.size then .guard (inRange i n) (.ret { r := .s (.rptr (row i.toNat)) }) else .fail
            | none => .fail
    | _, _ => .fail

def opFieldAddr (X : Ctx) (t : TypeId) (x : AV) (f : Nat) : T OR :=
  match under X t with
  | some (.struct fs) => match fs.toList[f]? with
    | some fd => match X.ti fd.type with
      | some j => if j.size = 0 then .fail else match x with
        | .c (.s (.ptr id off)) => .ret { r := .s (.ptr id (off + fd.offset)) }
        | .c (.s (.eptr id row off)) => .ret { r := .s (.eptr id row (off + fd.offset)) }
        | .c (.s (.rptr cs)) => .ret { r := .s (.rptr (cs.drop fd.offset)) }
        | _ => .fail
      | none => .fail
    | none => .fail
  | _ => .fail

/-- The bounds of a slice expression with at most two indexes, of something of this length. -/
def boundsA (len : Nat) (lo hi : Option AV) : T (Nat × Nat) :=
  let h : T Nat := match hi with
    | none => .ret len
    | some v => match intOf v with
      | some (_, n) => .guard (decide (0 ≤ n) && decide (n ≤ len)) (.ret n.toNat)
      | none => .fail
  h.bind fun h =>
    match lo with
    | none => .ret (0, h)
    | some v => match intOf v with
      | some (_, n) => .guard (decide (0 ≤ n) && decide (n ≤ (h : Int))) (.ret (n.toNat, h))
      | none => .fail
def subD (l h : Nat) (n : Nat) (row : Nat → List D) (sz : Nat) : D := .fs sz (h - l) fun i => row (l + i)
def opSlice (X : Ctx) (arr : Nat) (t : TypeId) (x : AV) (lo hi mx : Option AV) (mem : Mem) (fresh : Nat) : T OR :=
  if mx.isSome then .fail else
  match under X t, x with
  | some .string, .c (.s (.d (.c (.string s)))) => (boundsA s.size lo hi).bind fun (l, h) => .ret { r := .v (.string (s.extract l h)) }
  | some (.slice e), .c (.s a) => match X.ti e with
    | none => .fail
    | some j => match a with
      | .ms id off n => (boundsA n lo hi).bind fun (l, h) => .ret { r := .s (.ms id (off + l * j.size) (h - l)) }
      | a => match isArr a mem with
        | some (id, sz, n) => if arr == 0 ∨ sz ≠ j.size then .fail else (boundsA n lo hi).bind fun (l, h) => .guard (l == 0) (match mem[id]? with
          | some (.arr sz rows) => .ret { r := .s (.as fresh), upd := [(id, .dead)], new := [.arr sz (rows.take h)] }
          | some (.arrD sz rows _) => .ret { r := .s (.as fresh), upd := [(id, .dead)], new := [.arrD sz (rows.take h)] }
          | _ => .fail)
        | none => match sliceRow a mem with
          | some (sz, n, row) => if n = 0 ∨ sz = j.size then (boundsA n lo hi).bind fun (l, h) => .ret { r := .s (.d (subD l h n row j.size)) } else .fail
          | none => .fail
  | some (.array n e), x => match X.ti e with
    | none => .fail
    | some j => match x with
      | .c (.s (.ptr id off)) => (boundsA n lo hi).bind fun (l, h) => .ret { r := .s (.ms id (off + l * j.size) (h - l)) }
      | .c (.s (.rptr cs)) => if n * j.size ≤ cs.length then (boundsA n lo hi).bind fun (l, h) => .ret { r := .s (.d (.fs j.size (h - l) fun i => (cs.drop ((l + i) * j.size)).take j.size)) } else .fail
      | _ => .fail
  | _, _ => .fail

def room (n : Nat) (j : TI) : Bool := decide (n * (j.bytes + 1) ≤ lim)
def sizeOk {α : Type} (j : TI) (p : Nat × List (List α)) : Bool := p.1 == j.size || p.2.isEmpty
def newOkC (j : TI) (p : Nat × List (List C)) : Bool := sizeOk j p && p.2.all solid
def newOk (j : TI) (p : Nat × List (List D)) : Bool := sizeOk j p && p.2.all fun r => solid (r.map C.d)
def srcKind : TypeDesc → Bool
  | .slice _ | .string => true
  | _ => false
def opAppend (X : Ctx) (arr : Nat) (argTypes : Array TypeId) (s x : AV) (mem : Mem) (fresh : Nat) : T OR :=
  match argTypes.toList with
  | [st, xt] => match under X st, under X xt with
    | some (.slice e), some xd => match X.ti e with
      | none => .fail
      | some j =>
        if !srcKind xd || j.size == 0 then .fail else
        match s with
        | .c (.s (.d (.c (.slice none 0 0)))) =>
          if arr == 2 then match srcRowsC x mem with
            | some new => .guard (newOkC j new) (.guard (room new.2.length j) (.ret { r := .s (.as fresh), new := [.arr j.size new.2] }))
            | none => .fail
          else match srcRows x mem with
            | some new => .guard (newOk j new) (.guard (room new.2.length j) (.ret (if arr == 1 then { r := .s (.as fresh), new := [.arrD j.size new.2 (some e)] } else { r := .s (.gs fresh), new := [.grow j.size new.2] })))
            | none => .fail
        | .c (.s (.gs id)) => match mem[id]?, srcRows x mem with
          | some (.grow sz rows), some new => .guard (sz == j.size && newOk j new) (.guard (room (rows.length + new.2.length) j)
              (.ret { r := .s (.gs fresh), upd := [(id, .froz sz rows)], new := [.grow sz (rows ++ new.2)] }))
          | _, _ => .fail
        | .c (.s (.as id)) => match mem[id]? with
          | some (.arr sz rows) => match srcRowsC x mem with
            | some new => .guard (sz == j.size && newOkC j new) (.guard (room (rows.length + new.2.length) j)
              (.ret { r := .s (.as fresh), upd := [(id, .dead)], new := [.arr sz (rows ++ new.2)] }))
            | none => .fail
          | some (.arrD sz rows ty) => match srcRows x mem with
            | some new => .guard (sz == j.size && newOk j new) (.guard (room (rows.length + new.2.length) j)
              (.ret { r := .s (.as fresh), upd := [(id, .dead)], new := [.arrD sz (rows ++ new.2) (if ty = some e then ty else none)] }))
            | none => .fail
          | _ => .fail
        | _ => .fail
    | _, _ => .fail
  | _ => .fail

def opLen (X : Ctx) (t : TypeId) (x : AV) (mem : Mem) : T OR :=
  match under X t, x with
  | some .string, .c (.s (.d (.c (.string s)))) => .ret { r := .v (.int .i64 s.size) }
  | some (.array n _), _ => .ret { r := .v (.int .i64 n) }
  | some (.slice _), .c (.s a) => match sliceLen a mem with
    | some n => .ret { r := .v (.int .i64 n) }
    | none => .fail
  | some (.map _ _), .c (.s (.d (.c (.map none)))) => .ret { r := .v (.int .i64 0) }
  | some (.map _ _), .c (.s (.map id)) => match mem[id]? with
    | some (.map es) => .ret { r := .v (.int .i64 es.length) }
    | _ => .fail
  | _, _ => .fail

def minmaxA (mx : Bool) : AV → List AV → Option AV
  | a, [] => some a
  | a, b :: rest => match intOf a, intOf b with
    | some (k, x), some (_, y) => minmaxA mx (.v (.int k (if mx then (if y > x then y else x) else (if y < x then y else x)))) rest
    | _, _ => none

def sList : List AV → Option (List S)
  | [] => some []
  | .c (.s x) :: l => (sList l).map (x :: ·)
  | _ :: _ => none

def findA (k : Value) : List (Value × AV) → T (Option AV)
  | [] => .ret none
  | (k', v) :: es => match eqAtom k k' with
    | some b => .ite b (.ret (some v)) (findA k es)
    | none => .fail
def setA (k : Value) (x : AV) : List (Value × AV) → T (List (Value × AV))
  | [] => .ret [(k, x)]
  | (k', v) :: es => match eqAtom k k' with
    | some b => .ite b (.ret ((k, x) :: es)) ((setA k x es).bind fun es' => .ret ((k', v) :: es'))
    | none => .fail
/-- A map literal's entry: laid in the keys' order, so that the order of laying is not seen. -/
def keyLt : Value → Value → Bool
  | .int _ a, .int _ b => decide (a < b)
  | .string a, .string b => Op.bytesLess a.toList b.toList
  | .bool a, .bool b => !a && b
  | _, _ => false
def insS (k : Value) (x : AV) : List (Value × AV) → List (Value × AV)
  | [] => [(k, x)]
  | (k', v) :: es => if keyLt k k' then (k, x) :: (k', v) :: es else (k', v) :: insS k x es
def freshKey (k : Value) (es : List (Value × AV)) : Bool := es.all fun e => match eqAtom k e.1 with
  | some b => !b
  | none => false
def atomAV : AV → Option Value
  | .c (.s (.d (.c v))) => some v
  | _ => none
def solidAV : AV → Bool
  | .c x => x.solid
  | .agg cs => solid cs
  | .tup _ => false
def mapOf (x : AV) (mem : Mem) : Option (List (Value × AV)) :=
  match x with
  | .c (.s (.map id)) => match mem[id]? with
    | some (.map es) => some es
    | _ => none
  | .c (.s (.d (.c (.map none)))) => some []
  | _ => none
def keyKind : TypeDesc → Bool
  | .int _ | .string | .bool => true
  | _ => false
/-- A key fits its type. -/
def keyFits : TypeDesc → Value → Bool
  | .bool, .bool _ | .string, .string _ | .int _, .int _ _ => true
  | _, _ => false

def isConstO : Operand → Bool
  | .const _ => true
  | _ => false
def opEq (X : Ctx) (t : TypeId) (kc : Bool) (x y : AV) (mem : Mem) : Option Bool :=
  match x, y with
  | .agg cs, .agg ds => match X.ti t with
    | some i => if i.plain && i.agg then eqT X 100 t cs ds else none
    | none => none
  | .c a, .c b => match under X t with
    | none => none
    | some d => match d, atomOf a, atomOf b with
      | .bool, some (.bool p), some (.bool q) => some (p == q)
      | d, _, _ => match eqNil d kc a b with
        | some q => some q
        | none => match d, a, b with
          | .pointer e, .s (.ptr i o), .s (.ptr j p) => if i = j && o = p && (X.ti e).isSome then some true else none
          | .slice _, .s (.gs id), .s (.d (.c (.slice none 0 0))) => match mem[id]? with
            | some (.grow _ (_ :: _)) | some (.froz _ (_ :: _)) => some false
            | _ => none
          | _, _, _ => none
  | _, _ => none
def opBin (X : Ctx) (op : BinOp) (t : TypeId) (kc : Bool) (x y : AV) (mem : Mem) : T OR :=
  match intOf x, intOf y with
  | some (k, a), some (k', b) => match op with
    | .shl => .guard (decide (0 ≤ b)) (.ret { r := .v (.int k (k.wrap (a * 2 ^ (min b.toNat k.bits)))) })
    | .shr => .guard (decide (0 ≤ b)) (.ret { r := .v (.int k (a.fdiv (2 ^ (min b.toNat k.bits)))) })
    | _ => if k = k' then (aInt op k a b).bind fun v => .ret { r := .v v } else .fail
  | _, _ => match strOf x, strOf y with
    | some a, some b => (aStr op a b).bind fun v => .ret { r := .v v }
    | _, _ => match op, opEq X t kc x y mem with
      | .eql, some b => .ret { r := .v (.bool b) }
      | .neq, some b => .ret { r := .v (.bool !b) }
      | _, _ => .fail
def opUn (op : UnOp) (x : AV) : T OR :=
  match op, intOf x, boolOf x with
  | .not, _, some b => .ret { r := .v (.bool !b) }
  | .neg, some (k, n), _ => .ret { r := .v (.int k (k.wrap (0 - n))) }
  | .xor, some (k, n), _ => .ret { r := .v (.int k (k.wrap (BitVec.ofInt k.bits (if k.signed then -1 else k.max) ^^^ BitVec.ofInt k.bits n).toNat)) }
  | _, _, _ => .fail
def numsOf : List (List D) → Option (List Int)
  | [] => some []
  | [.c (.int .u8 n)] :: l => (numsOf l).map (n :: ·)
  | _ => none
def numsOfCells : List C → Option (List Int)
  | [] => some []
  | .s (.d (.c (.int .u8 n))) :: l => (numsOfCells l).map (n :: ·)
  | _ => none
def strNums (xs : List Int) : ByteArray := ⟨(xs.map fun n => UInt8.ofNat n.toNat).toArray⟩
def opConvert (X : Ctx) (src dst : TypeId) (x : AV) (mem : Mem) (fresh : Nat) : T OR :=
  match under X src, under X dst, x with
  | some _, some (.int k), .c (.s (.d (.c (.int _ n)))) => .ret { r := .v (.int k (k.wrap n)) }
  | some (.int _), some .string, .c (.s (.d (.c (.int _ n)))) => .ret { r := .v (.string (Utf8.encode n)) }
  | some .string, some .string, .c (.s (.d (.c (.string s)))) => .ret { r := .v (.string s) }
  | some .string, some (.slice e), .c (.s (.d (.c (.string s)))) => match under X e with
    | some (.int .u8) => .ret { r := .s (.d (.fs 1 s.size fun i => [.c (.int .u8 (s.data.getD i 0).toNat)])) }
    | _ => .fail
  | some (.slice e), some .string, .c (.s a) => match under X e, X.ti e with
    | some (.int .u8), some j => if j.size = 1 then match a with
      | .ms id off n => match mem[id]? with
        | some (.cells cs _) => if off + n ≤ cs.length then match numsOfCells ((cs.drop off).take n) with
            | some xs => .ret { r := .v (.string (strNums xs)) }
            | none => .fail
          else .fail
        | _ => .fail
      | a => match sliceRow a mem with
        | some (sz, n, row) => if n = 0 ∨ sz = 1 then match numsOf ((List.range n).map row) with
          | some xs => .ret { r := .v (.string (strNums xs)) }
          | none => .fail
          else .fail
        | none => .fail
      else .fail
    | _, _ => .fail
  | some (.pointer e), some .unsafePointer, .c (.s (.ptr id off)) => match X.ti e, mem[id]? with
    | some j, some (.cells cs _) => if j.size ≠ 0 ∧ off < cs.length then .ret { r := .s (.ptr id off) } else .fail
    | _, _ => .fail
  | some .unsafePointer, some (.pointer u), .c (.s (.ptr id off)) => match X.ti u, mem[id]? with
    | some j, some (.cells cs (some t)) => if t = u ∧ off = 0 ∧ j.size ≠ 0 ∧ cs.length = j.size then .ret { r := .s (.ptr id off) } else .fail
    | _, _ => .fail
  | _, _, _ => .fail

/-- Rows that are bytes, and the bytes. -/
def isByte : List D → Bool
  | [.c (.int .u8 n)] => decide (0 ≤ n) && decide (n < 256)
  | _ => false
def byteOf : List D → UInt8
  | [.c (.int .u8 n)] => UInt8.ofNat n.toNat
  | _ => 0
def bytesOf (rows : List (List D)) : ByteArray := ⟨(rows.map byteOf).toArray⟩
def opUData (x : AV) (mem : Mem) : T OR :=
  match x with
  | .c (.s (.d (.c (.slice none 0 0)))) => .ret { r := .v (.pointer none) }
  | .c (.s (.as id)) => match mem[id]? with
    | some (.arrD _ rows _) => .guard (!rows.isEmpty) (.ret { r := .s (.eptr id 0 0) })
    | _ => .fail
  | _ => .fail
def opUString (X : Ctx) (ts : Array TypeId) (p n : AV) (mem : Mem) : T OR :=
  match ts.toList, intOf n with
  | [pt, _], some (.i64, k) => match p with
    | .c (.s (.d (.c (.pointer none)))) => .guard (k == 0) (.ret { r := .v (.string .empty) })
    | .c (.s (.eptr id 0 0)) => match mem[id]? with
      | some (.arrD _ rows (some e)) => match under X pt, X.ti e with
        | some (.pointer e'), some j => if e' = e ∧ j.size = 1 then
            .guard (rows.all isByte && !rows.isEmpty) (.guard (k == (rows.length : Int) && decide (k ≤ 9223372036854775807)) (.ret { r := .v (.string (bytesOf rows)), upd := [(id, .dead)] })) else .fail
        | _, _ => .fail
      | _ => .fail
    | _ => .fail
  | _, _ => .fail

abbrev CallSem := FuncId → List AV → Mem → T (AV × Mem)
/-- A slice of the caller's own, only read, handed on as data. -/
def viewS (mem : Mem) : AV → AV
  | .c (.s (.gs id)) => match mem[id]? with
    | some (.grow sz rows) => .c (.s (.d (.sl sz rows)))
    | some (.froz sz rows) => .c (.s (.d (.sl sz rows)))
    | _ => .c (.s (.gs id))
  | x => x
def callB (X : Ctx) (K : CallSem) (g : FuncId) (args : List AV) (mem : Mem) (fresh : Nat) : T OR :=
  match X.prim g args with
  | some r => .ret { r }
  | none =>
    match reach mem reachFuel (args.flatMap AV.ids) [] with
    | none => .fail
    | some seen =>
      let args' := args.map (AV.ren fun j => posOf j seen)
      let mem0 := subMem mem seen
      let res : T (AV × Mem) := match X.mprim g args' mem0 with
        | some t => t
        | none => K g args' mem0
      res.bind fun (r, mem') =>
        let m := seen.length
        let back := fun j => if j < m then seen.getD j 0 else fresh + (j - m)
        .ret { r := r.ren back, upd := seen.zip ((mem'.take m).map (Blk.ren back)), new := (mem'.drop m).map (Blk.ren back) }

def callA (X : Ctx) (K : CallSem) (g : FuncId) (args : List AV) (mem : Mem) (fresh : Nat) : T OR :=
  match X.gsv g with
  | true => callB X K g (args.map (viewS mem)) mem fresh
  | false => callB X K g args mem fresh

def opSem (X : Ctx) (K : CallSem) (fid : FuncId) (o : Oper) (env : Env) (mem : Mem) (fresh : Nat) : T OR :=
  let ρ := evalO X env
  let arr := match o.dst with
    | some t => X.arrs fid t
    | none => 0
  match o.op with
  | .move x | .assign x => .ret { r := ρ x }
  | .pick c a b => match boolOf (ρ c) with
    | some v => .ite v (.ret { r := ρ a }) (.ret { r := ρ b })
    | none => .fail
  | .alloc e => match X.ti e with
    | some i => .ret { r := .s (.ptr fresh 0), new := [.cells (i.zero.map fun v => .d (.c v)) (some e)] }
    | none => .fail
  | .box _ x => match (ρ x).cells with
    | some cs => if solid cs then .ret { r := .s (.ptr fresh 0), new := [.cells cs] } else .fail
    | none => .fail
  | .build t parts => match X.ti t, under X t with
    | some i, some (.struct fs) => if !(fs.toList.all fun f => (X.ti f.type).isSome) then .fail else match fillA (structPlace X fs) (i.zero.map fun v => .d (.c v)) (parts.toList.map fun p => (p.1, ρ p.2)) with
      | some cs => .ret { r := .agg cs }
      | none => .fail
    | some i, some (.array _ e) => match X.ti e with
      | some j => match fillA (fun i => some (i * j.size, j.size)) (i.zero.map fun v => .d (.c v)) (parts.toList.map fun p => (p.1, ρ p.2)) with
        | some cs => .ret { r := .agg cs }
        | none => .fail
      | none => .fail
    | _, _ => .fail
  | .buildSlice t len parts => match under X t with
    | some (.slice e) => match X.ti e with
      | some j => if j.size == 0 || len * j.size > 16777216 then .fail else
        match fillA (fun i => some (i * j.size, j.size)) ((List.replicate len j.zero).flatten.map fun v => .d (.c v)) (parts.toList.map fun p => (p.1, ρ p.2)) with
        | some cs => if arr == 2 then .ret { r := .s (.as fresh), new := [.arr j.size (chunk j.size len cs)] } else
          match allD mem cs with
          | some (ds, us) => .ret (if arr == 1 then { r := .s (.as fresh), upd := us, new := [.arrD j.size (chunk j.size len ds)] }
              else { r := .s (.gs fresh), upd := us, new := [.grow j.size (chunk j.size len ds)] })
          | none => .fail
        | none => .fail
      | none => .fail
    | _ => .fail
  | .load t a => match X.ti t with
    | some i => match loadA i (ρ a) mem with
      | some v => .ret { r := v }
      | none => .fail
    | none => .fail
  | .store t a x => match X.ti t with
    | some i => (storeT i (ρ a) (ρ x) mem).bind fun upd => .ret { r := .undef, upd }
    | none => .fail
  | .nilCheck x => match ρ x with
    | .c (.s (.ptr id off)) => .ret { r := .s (.ptr id off) }
    | .c (.s (.eptr id row off)) => .ret { r := .s (.eptr id row off) }
    | .c (.s (.rptr cs)) => .ret { r := .s (.rptr cs) }
    | .c (.f (.func g) a b) => .ret { r := .c (.f (.func g) a b) }
    | _ => .fail
  | .binOp op t x y _ => opBin X op t (isConstO x || isConstO y) (ρ x) (ρ y) mem
  | .unOp op _ x => opUn op (ρ x)
  | .convert s d x => opConvert X s d (ρ x) mem fresh
  | .makeInterface t x => match ρ x with
    | .c (.s y) => match under X t with
      | some (.interface _) | none => .fail
      | some _ => .ret { r := .c (.ifc t y) }
    | _ => .fail
  | .makeFunc fn first captured => match sList (first.toList.map ρ), sList (captured.toList.map ρ) with
    | some a, some b => .ret { r := .c (.f fn a b) }
    | _, _ => .fail
  | .makeMap _ r => if r.isSome then .fail else .ret { r := .s (.map fresh), new := [.map []] }
  | .makeSlice t l c => match under X t, intOf (ρ l), intOf (ρ c) with
    | some (.slice e), some (_, n), some (_, m) => match X.ti e with
      | some j => if j.size == 0 then .fail else
        .guard (decide (0 ≤ n) && decide (n ≤ m) && decide (m.toNat * (j.bytes + 1) ≤ lim)) (
          if n = 0 then .ret { r := .s (.gs fresh), new := [.grow j.size []] }
          else if n = m then .ret { r := .s (.ms fresh 0 n.toNat), new := [.cells ((List.replicate n.toNat j.zero).flatten.map fun v => .d (.c v))] }
          else .fail)
      | none => .fail
    | _, _, _ => .fail
  | .slice t x lo hi mx => opSlice X arr t (ρ x) (lo.map ρ) (hi.map ρ) (mx.map ρ) mem fresh
  | .fieldAddr t x f => opFieldAddr X t (ρ x) f
  | .field t x f => match under X t with
    | some (.struct fs) => match fs.toList[f]? with
      | some fd => match X.ti fd.type, ρ x with
        | some j, .agg cs => match readPart j cs fd.offset with
          | some v => .ret { r := v }
          | none => .fail
        | _, _ => .fail
      | none => .fail
    | _ => .fail
  | .indexAddr t x ix => opIndexAddr X t (ρ x) (ρ ix) mem
  | .index t x ix => match intOf (ρ ix), under X t, ρ x with
    | some (_, i), some (.array n e), .agg cs => match X.ti e with
      | some j => .guard (inRange i n) (match readPart j cs (i.toNat * j.size) with
        | some v => .ret { r := v }
        | none => .fail)
      | none => .fail
    | some (_, i), some .string, .c (.s (.d (.c (.string s)))) => .guard (inRange i s.size) (.ret { r := .v (.int .u8 (s.data.getD i.toNat 0).toNat) })
    | _, _, _ => .fail
  | .lookup t x ix ok => match under X t with
    | some (.map kt e) => match under X kt, X.ti e, mapOf (ρ x) mem, atomAV (ρ ix) with
      | some kd, some j, some es, some k => if keyFits kd k then (findA k es).bind fun r =>
          let (v, b) := match r with
            | some v => (v, true)
            | none => (zeroAV j, false)
          if ok then match v.tv with
            | some tv => .ret { r := .tup [tv, .c (.d (.c (.bool b)))] }
            | none => .fail
          else .ret { r := v }
        else .fail
      | _, _, _, _ => .fail
    | _ => .fail
  | .insert t m k x => match under X t with
    | some (.map kt _) => match under X kt, ρ m, k with
      | some kd, .c (.s (.map id)), .const k => if keyFits kd k && solidAV (ρ x) then match mem[id]? with
          | some (.map es) => if freshKey k es then .ret { r := .undef, upd := [(id, .map (insS k (ρ x) es))] } else .fail
          | _ => .fail
        else .fail
      | _, _, _ => .fail
    | _ => .fail
  | .mapUpdate t m k x => match under X t with
    | some (.map kt _) => match under X kt, ρ m, atomAV (ρ k) with
      | some kd, .c (.s (.map id)), some k => if keyFits kd k && solidAV (ρ x) then match mem[id]? with
          | some (.map es) => (setA k (ρ x) es).bind fun es' => .ret { r := .undef, upd := [(id, .map es')] }
          | _ => .fail
        else .fail
      | _, _, _ => .fail
    | _ => .fail
  | .range t x => match under X t, ρ x with
    | some .string, .c (.s (.d (.c (.string s)))) => .ret { r := .s (.it fresh), new := [.sit s 0] }
    | _, _ => .fail
  | .next it true => match ρ it with
    | .c (.s (.it id)) => match mem[id]? with
      | some (.sit s pos) => .ite (decide (pos < s.size))
          (.ret { r := .tup [.c (.d (.c (.bool true))), .c (.d (.c (.int .i64 pos))), .c (.d (.c (.int .i32 (Utf8.decode s pos).1)))], upd := [(id, .sit s (pos + (Utf8.decode s pos).2))] })
          (.ret { r := .tup [.c (.d (.c (.bool false)))] })
      | _ => .fail
    | _ => .fail
  | .extract t i => match ρ t with
    | .tup vs => match vs[i]? with
      | some v => .ret { r := v.av }
      | none => .fail
    | _ => .fail
  | .call c => match c.callee with
    | .builtin b => match b, c.args.toList.map ρ with
      | .len, [x] => match c.argTypes.toList[0]? with
        | some t => opLen X t x mem
        | none => .fail
      | .append, [s, x] => opAppend X arr c.argTypes s x mem fresh
      | .unsafeSliceData, [x] => opUData x mem
      | .unsafeString, [p, n] => opUString X c.argTypes p n mem
      | .min, a :: rest => match minmaxA false a rest with
        | some v => .ret { r := v }
        | none => .fail
      | .max, a :: rest => match minmaxA true a rest with
        | some v => .ret { r := v }
        | none => .fail
      | _, _ => .fail
    | .value f => match ρ f with
      | .c (.f (.func g) first captured) => callA X K g (first.map AV.s ++ c.args.toList.map ρ ++ captured.map AV.s) mem fresh
      | _ => .fail
    | .invoke .. => .fail
  | _ => .fail

/-! ### Regions -/
def setE (env : Env) (t : Option Tmp) (v : AV) : Env := match t with
  | some t => env.set t v
  | none => env
def upds (mem : Mem) : List (Nat × Blk) → Mem
  | [] => mem
  | (i, b) :: l => upds (mem.set i b) l
/-- Lay new blocks: behind all others, or (in a region that draws) into the places kept for them. -/
def lay (mem : Mem) (fresh : Nat) : List Blk → Mem
  | [] => mem
  | b :: l => lay (mem.set fresh b) (fresh + 1) l
def opDst (ops : List Oper) (j : Nat) : Option Tmp := (ops[j]?).bind (·.dst)
/-- What the guard of an operation says; with the guard's place known on each way. -/
def guarded (ops : List Oper) (o : Oper) (env : Env) {α : Type} (yes no : Env → T α) : T α :=
  match o.guard with
  | none => yes env
  | some (j, want) => match opDst ops j with
    | none => .fail
    | some t => match env[t]? with
      | some (.tup _) => no env
      | some v => match boolOf v with
        | some b => .ite b (if want then yes (env.set t (.v (.bool true))) else no (env.set t (.v (.bool true))))
            (if want then no (env.set t (.v (.bool false))) else yes (env.set t (.v (.bool false))))
        | none => .fail
      | none => .fail
def evOps (X : Ctx) (K : CallSem) (fid : FuncId) (ops : List Oper) : List Oper → St → T St
  | [], s => .ret s
  | o :: rest, s => guarded ops o s.env
      (fun env => (opSem X K fid o env s.mem s.mem.length).bind fun r =>
        evOps X K fid ops rest { env := setE env o.dst r.r, mem := upds s.mem r.upd ++ r.new })
      (fun env => evOps X K fid ops rest { env := setE env o.dst .undef, mem := s.mem })
end Go.Sx

/- A plain interpreter of the model's code over values without addresses: regions that draw, and the control. -/
namespace Go.Sx

/-! ### A region that draws its order: run in the text's order; what may be exchanged is checked -/
def allocW : Op → Nat
  | .alloc _ | .box .. | .buildSlice .. | .makeMap .. | .makeSlice .. | .range .. | .convert .. | .slice .. => 1
  | .call c => match c.callee with
    | .builtin .append => 1
    | .builtin _ => 0
    | _ => 4
  | _ => 0
/-- The blocks that an operation looks at. -/
def opReads (X : Ctx) (o : Oper) (env : Env) (mem : Mem) : Option (List Nat) :=
  let ids := o.op.operands.toList.flatMap fun x => (evalO X env x).ids
  match o.op with
  | .move _ | .assign _ | .pick .. | .alloc _ | .box .. | .build .. | .nilCheck _ | .unOp .. | .makeInterface .. | .makeFunc .. | .makeMap .. | .makeSlice ..
  | .fieldAddr .. | .field .. | .index .. | .range .. | .extract .. => some []
  | .call c => match c.callee with
    | .builtin _ => some ids
    | _ => reach mem reachFuel ids []
  | .store _ a _ => match evalO X env a with
    | .c (.s (.ptr id _)) => some [id]
    | _ => some ids
  | .insert _ m _ _ => some (evalO X env m).ids
  | _ => some ids
structure Tr where
  i : Nat
  reads : List Nat
  writes : List Nat
def opTmps (ops : List Oper) (o : Oper) : List Tmp :=
  (o.op.operands.toList.filterMap fun | .tmp t => some t | _ => none) ++ (match o.guard with
    | some (j, _) => (opDst ops j).toList
    | none => [])
/-- Where an operation lays what it makes. -/
def slotOf (o : Oper) (mem : Mem) (fresh : Nat) : Nat := if allocW o.op = 0 then mem.length else fresh
def evDraw (X : Ctx) (K : CallSem) (fid : FuncId) (ops : List Oper) : List Oper → (i fresh : Nat) → St → List Tr → T (St × List Tr)
  | [], _, _, s, tr => .ret (s, tr)
  | o :: rest, i, fresh, s, tr => guarded ops o s.env
      (fun env => (opSem X K fid o env s.mem (slotOf o s.mem fresh)).bind fun r =>
        match opReads X o env s.mem with
        | some rd => if r.new.length ≤ allocW o.op then
          evDraw X K fid ops rest (i + 1) (fresh + allocW o.op) { env := setE env o.dst r.r, mem := lay (upds s.mem r.upd) (slotOf o s.mem fresh) r.new }
            (⟨i, rd, r.upd.map (·.1) ++ (List.range r.new.length).map (slotOf o s.mem fresh + ·)⟩ :: tr)
          else .fail
        | none => .fail)
      (fun env => evDraw X K fid ops rest (i + 1) (fresh + allocW o.op) { env := setE env o.dst .undef, mem := s.mem } (⟨i, [], []⟩ :: tr))
def apart (a b : List Nat) : Bool := a.all fun x => !b.contains x
def optMem (t : Option Tmp) (l : List Tmp) : Bool := match t with
  | some t => l.contains t
  | none => false
def memFree (a b : Tr) : Bool := apart a.writes b.reads && apart a.writes b.writes && apart b.writes a.reads
def tmpFree (ops : List Oper) (a b : Oper) : Bool :=
  !optMem a.dst (opTmps ops b) && !optMem b.dst (opTmps ops a) && !optMem a.dst b.dst.toList
/-- A path of edges that bind always: a comes before b. -/
def isBefore (ops : List Oper) (a : Nat) : Nat → Nat → Bool
  | 0, _ => false
  | n + 1, b => match ops[b]? with
    | none => false
    | some o => o.after.toList.any fun e => Region.binds .any e && (e.on == a || (decide (a < e.on) && isBefore ops a n e.on))
def edgesOk : Nat → List Oper → Bool
  | _, [] => true
  | i, o :: ops => (o.after.toList.all fun e => !Region.binds .any e || decide (e.on < i)) && edgesOk (i + 1) ops
def opsFree (ops : List Oper) (i j : Nat) : Bool := match ops[i]?, ops[j]? with
  | some x, some y => tmpFree ops x y
  | _, _ => false
def drawOk (ops : List Oper) (tr : List Tr) : Bool :=
  edgesOk 0 ops && tr.all fun b => tr.all fun a => decide (b.i ≤ a.i) || (memFree a b && opsFree ops a.i b.i) || isBefore ops a.i ops.length b.i
def trim (mem : Mem) : Mem := (mem.reverse.dropWhile fun | .dead => true | _ => false).reverse
def evRegion (X : Ctx) (K : CallSem) (fid : FuncId) (ops : List Oper) (draw : Bool) (s : St) : T St :=
  if draw then
    let n := (ops.map fun o => allocW o.op).sum
    (evDraw X K fid ops ops 0 s.mem.length { s with mem := s.mem ++ List.replicate n .dead } []).bind fun r =>
      if drawOk ops r.2 then .ret r.1 else .fail
  else evOps X K fid ops ops s

/-! ### Control -/
inductive Task where
  | code (c : Code)
  | loop (b : Code)
  | scope (b rest : Code)
abbrev Rec := Task → St → T (Ex × St)
def firstRegion : Code → Option Nat
  | .region id _ _ => some id
  | .seq a b => match firstRegion a with
    | some i => some i
    | none => firstRegion b
  | .cond _ a b => match firstRegion a with
    | some i => some i
    | none => firstRegion b
  | .block _ b | .loop b | .scope b => firstRegion b
  | _ => none
def keepEnv (ks : List Nat) : Nat → Env → Env
  | _, [] => []
  | i, v :: env => (if ks.contains i then v else .any) :: keepEnv ks (i + 1) env
/-- The state at a loop's head: what is not kept is forgotten, what is not reached is dropped, the rest is renumbered. -/
def canon (X : Ctx) (fid : FuncId) (m : Nat) (key : Option Nat) (s : St) : T St :=
  let env := match key.bind (X.keep fid) with
    | some ks => keepEnv ks 0 s.env
    | none => s.env
  match reach s.mem reachFuel (List.range m ++ env.flatMap AV.ids) [] with
  | none => .fail
  | some seen => .ret { env := env.map (AV.ren fun j => posOf j seen), mem := subMem s.mem seen }
/-- The region that draws one bool and nothing else: its number. -/
def drawMode : Code → Option Nat
  | .region id ops true => match ops.toList with
    | [⟨some _, .alloc _, _, _, _, none⟩, ⟨none, .store _ _ (.const (.bool true)), _, _, _, none⟩, ⟨none, .store _ _ (.const (.bool false)), _, _, _, none⟩, ⟨some _, .load _ _, _, _, _, none⟩] => some id
    | _ => none
  | _ => none
/-- A small region in every order that may be drawn. -/
def evEach (f : Nat → T (List St)) : List Nat → T (List St)
  | [] => .ret []
  | i :: is => (f i).bind fun l => (evEach f is).bind fun l' => .ret (l ++ l')
def evAny (X : Ctx) (K : CallSem) (fid : FuncId) (ops : List Oper) : Nat → Array Bool → St → T (List St)
  | 0, listed, s => match Region.ready .any ops.toArray listed with
    | [] => .ret [s]
    | _ => .fail
  | n + 1, listed, s => match Region.ready .any ops.toArray listed with
    | [] => .ret [s]
    | is => evEach (fun i => match ops[i]? with
      | none => .fail
      | some o => guarded ops o s.env
        (fun env => (opSem X K fid o env s.mem s.mem.length).bind fun r =>
          evAny X K fid ops n (listed.setIfInBounds i true) { env := setE env o.dst r.r, mem := upds s.mem r.upd ++ r.new })
        (fun env => evAny X K fid ops n (listed.setIfInBounds i true) { env := setE env o.dst .undef, mem := s.mem })) is
def regionOps : Code → List Oper
  | .region _ ops _ => ops.toList
  | _ => []
def exEq : Ex → Ex → Bool
  | .nm, .nm | .rt, .rt => true
  | .ex a, .ex b | .gt a, .gt b => a == b
  | _, _ => false
def avs (p q : Ex × St) : Bool := exEq p.1 q.1 && listEq avEq p.2.env q.2.env && listEq blkEq p.2.mem q.2.mem
def forget (X : Ctx) (fid m key : Nat) (r : Ex × St) : T (Ex × St) := (canon X fid m (some (2000000 + key)) r.2).bind fun s => .ret (r.1, s)
def evC (X : Ctx) (K : CallSem) (L : Rec) (fid : FuncId) (m : Nat) : Code → St → T (Ex × St)
  | .skip, s => .ret (.nm, s)
  | .label _, s => .ret (.nm, s)
  | .region _ ops draw, s => (evRegion X K fid ops.toList draw s).bind fun s => .ret (.nm, s)
  | .seq a b, s => match drawMode a with
    | some key => (evAny X K fid (regionOps a) (regionOps a).length (Array.replicate (regionOps a).length false) s).bind fun ss =>
      match ss.map fun st => ((evC X K L fid m b st).bind (forget X fid m key)).run with
      | some p :: rest => if rest.all fun q => match q with
          | some q => avs p q
          | none => false then .ret p else .fail
      | _ => .fail
    | none => (evC X K L fid m a s).bind fun r => match r.1 with
      | .nm => evC X K L fid m b r.2
      | _ => .ret r
  | .cond c a b, s => match boolOf (evalO X s.env c) with
    | some v =>
      let set (x : Bool) : St := match c with
        | .tmp t => { env := s.env.set t (.v (.bool x)), mem := s.mem }
        | _ => s
      .ite v (evC X K L fid m a (set true)) (evC X K L fid m b (set false))
    | none => .fail
  | .block id b, s => (evC X K L fid m b s).bind fun r => match r.1 with
    | .ex i => if i = id then .ret (.nm, r.2) else .ret r
    | _ => .ret r
  | .loop b, s => (canon X fid m (firstRegion b) s).bind fun s => match X.lp fid (firstRegion b) m with
    | some f => f s
    | none => L (.loop b) s
  | .scope b, s => L (.scope b b) s
  | .exit id, s => .ret (.ex id, s)
  | .goto l, s => .ret (.gt l, s)
  | .ret, s => .ret (.rt, s)
  | _, _ => .fail

def resA (X : Ctx) (env : Env) (mem : Mem) : ResultVar → Option AV
  | .tmp t => some (env.getD t .undef)
  | .cell t ty => match X.ti ty with
    | some i => loadA i (env.getD t .undef) mem
    | none => none
def allSome {α : Type} : List (Option α) → Option (List α)
  | [] => some []
  | some a :: l => (allSome l).map (a :: ·)
  | none :: _ => none
def finish (X : Ctx) (fn : Func) (m : Nat) (s : St) : T (AV × Mem) :=
  match allSome (fn.results.toList.map (resA X s.env s.mem)) with
  | none => .fail
  | some vs =>
    let r : Option AV := match vs with
      | [v] => some v
      | vs => (allSome (vs.map AV.tv)).map AV.tup
    match r with
    | none => .fail
    | some v => match reach s.mem reachFuel (List.range m ++ v.ids) [] with
      | none => .fail
      | some seen => .ret (v.ren fun j => posOf j seen, subMem s.mem seen)
def enterA (X : Ctx) (go : FuncId → Nat → Rec) (g : FuncId) (args : List AV) (mem : Mem) : T (AV × Mem) :=
  match X.fn g with
  | none => .fail
  | some fn => match fn.body with
    | none => .fail
    | some c => (go g mem.length (.code c) { env := args ++ List.replicate (fn.ntmps - args.length) .undef, mem }).bind fun r => match r.1 with
      | .rt | .nm => finish X fn mem.length r.2
      | _ => .fail
def ev (X : Ctx) : Nat → FuncId → Nat → Rec
  | 0, _, _, _, _ => .fail
  | k + 1, fid, m, t, s => match t with
    | .code c => evC X (enterA X (ev X k)) (ev X k fid m) fid m c s
    | .loop b => (evC X (enterA X (ev X k)) (ev X k fid m) fid m b s).bind fun r => match r.1 with
      | .nm => (canon X fid m (firstRegion b) r.2).bind fun s => ev X k fid m (.loop b) s
      | _ => .ret r
    | .scope b c => (evC X (enterA X (ev X k)) (ev X k fid m) fid m c s).bind fun r => match r.1 with
      | .gt l => match findLabel b l with
        | some c' => (canon X fid m (some (1000000 + l)) r.2).bind fun s => ev X k fid m (.scope b c') s
        | none => .ret r
      | _ => .ret r
/-- A call: with this much fuel. -/
def callE (X : Ctx) (k : Nat) : CallSem := enterA X (ev X k)

end Go.Sx

/- A plain interpreter of the model's code over values without addresses: what its values stand for in the model's world. -/
namespace Go.Sx

theorem run_bind {α β : Type} (x : T α) (f : α → T β) : (x.bind f).run = x.run.bind fun a => (f a).run := by
  induction x with
  | ret a => rfl
  | fail => rfl
  | ite b t e iht ihe => cases b <;> simp [T.bind, T.run, iht, ihe]
theorem run_ite {α : Type} (b : Bool) (t e : T α) : (T.ite b t e).run = bif b then t.run else e.run := rfl
theorem bind_some {α β : Type} {x : T α} {f : α → T β} {r : β} (h : (x.bind f).run = some r) : ∃ a, x.run = some a ∧ (f a).run = some r := by
  rw [run_bind] at h
  cases hx : x.run with
  | none => simp [hx] at h
  | some a => exact ⟨a, rfl, by simpa [hx] using h⟩
theorem guard_some {α : Type} {b : Bool} {t : T α} {r : α} (h : (T.guard b t).run = some r) : b = true ∧ t.run = some r := by
  cases b <;> simp_all [T.guard, T.run]

theorem guard_if {α : Type} (b : Bool) (t : T α) : (T.guard b t).run = (if b = true then t else T.fail).run := by cases b <;> rfl

/-! ### Lists side by side -/
inductive All2 {α β : Type} (R : α → β → Prop) : List α → List β → Prop
  | nil : All2 R [] []
  | cons {a b l m} : R a b → All2 R l m → All2 R (a :: l) (b :: m)
namespace All2
variable {α β : Type} {R R' : α → β → Prop}
theorem mono {l : List α} {m : List β} (h : All2 R l m) (f : ∀ a b, a ∈ l → R a b → R' a b) : All2 R' l m := by
  induction h with
  | nil => exact .nil
  | cons h _ ih => exact .cons (f _ _ (by simp) h) (ih fun a b ha => f a b (by simp [ha]))
theorem length {l : List α} {m : List β} (h : All2 R l m) : l.length = m.length := by
  induction h with
  | nil => rfl
  | cons _ _ ih => simp [ih]
theorem get {l : List α} {m : List β} (h : All2 R l m) (i : Nat) {a : α} (ha : l[i]? = some a) : ∃ b, m[i]? = some b ∧ R a b := by
  induction h generalizing i with
  | nil => simp at ha
  | cons h _ ih =>
    cases i with
    | zero => simp at ha; subst ha; exact ⟨_, by simp, h⟩
    | succ i => simpa using ih i (by simpa using ha)
theorem of_get {l : List α} {m : List β} (hl : l.length = m.length) (h : ∀ (i : Nat) (a : α) (b : β), l[i]? = some a → m[i]? = some b → R a b) : All2 R l m := by
  induction l generalizing m with
  | nil => cases m with
    | nil => exact .nil
    | cons => simp at hl
  | cons a l ih => cases m with
    | nil => simp at hl
    | cons b m => exact .cons (h 0 a b rfl rfl) (ih (by simpa using hl) fun i a b ha hb => h (i + 1) a b (by simpa using ha) (by simpa using hb))
theorem append {l l' : List α} {m m' : List β} (h : All2 R l m) (h' : All2 R l' m') : All2 R (l ++ l') (m ++ m') := by
  induction h with
  | nil => exact h'
  | cons h _ ih => exact .cons h ih
theorem take {l : List α} {m : List β} (h : All2 R l m) (n : Nat) : All2 R (l.take n) (m.take n) := by
  induction h generalizing n with
  | nil => simp; exact .nil
  | cons h _ ih => cases n with
    | zero => exact .nil
    | succ n => exact .cons h (ih n)
theorem drop {l : List α} {m : List β} (h : All2 R l m) (n : Nat) : All2 R (l.drop n) (m.drop n) := by
  induction h generalizing n with
  | nil => simp; exact .nil
  | cons h h2 ih => cases n with
    | zero => exact .cons h h2
    | succ n => exact ih n
theorem map {γ : Type} {f : γ → α} {l : List γ} {m : List β} (h : All2 (fun c b => R (f c) b) l m) : All2 R (l.map f) m := by
  induction h with
  | nil => exact .nil
  | cons h _ ih => exact .cons h ih
end All2

/-! ### Where things lie -/
structure Loc where
  a : Option Addr
  n : Nat
  cap : Nat
  sz : Nat
  le : n ≤ cap
abbrev Locs := Nat → Option Loc
def Locs.le (ρ ρ' : Locs) : Prop := ∀ i l, ρ i = some l → ρ' i = some l
theorem Locs.le_refl (ρ : Locs) : ρ.le ρ := fun _ _ h => h
theorem Locs.le_trans {a b c : Locs} (h : a.le b) (k : b.le c) : a.le c := fun i l x => k i l (h i l x)
abbrev Mut := Nat → Nat → Prop
/-- The cells of the callers: they may change behind a function's back, so it reads none of them. -/
class Fr where
  F : Mut
variable [Fr]
/-- A cell that is never written. -/
def NM (Mu : Mut) (b o : Nat) : Prop := ¬ Mu b o ∧ ¬ Fr.F b o

def at_ (b o : Nat) : Addr := ⟨b, o, none⟩
theorem at_add (b o j : Nat) : (at_ b o).add j = at_ b (o + j) := by
  unfold at_ Addr.add; split <;> simp_all

/-- What a datum stands for: read it in cells that are never written. -/
inductive DR (w : World) (Mu : Mut) : D → Value → Prop
  | c (v : Value) : DR w Mu (.c v) v
  | e (a : Option Addr) : DR w Mu .e (.slice a 0 0)
  | sl0 (sz : Nat) (a : Option Addr) (cap : Nat) : DR w Mu (.sl sz []) (.slice a 0 cap)
  | fs0 (sz : Nat) (row : Nat → List D) (a : Option Addr) (cap : Nat) : DR w Mu (.fs sz 0 row) (.slice a 0 cap)
  | sl (sz : Nat) (rows : List (List D)) (n cap b o : Nat) (vs : Nat → Value) (hn : rows.length = n) (hcap : n ≤ cap) (hz : ∀ r, r ∈ rows → r.length = sz)
      (hc : ∀ j, j < n * sz → w.cell? (at_ b (o + j)) = some (vs j)) (hm : ∀ j, j < n * sz → NM Mu b (o + j))
      (hd : ∀ i k r x, rows[i]? = some r → r[k]? = some x → DR w Mu x (vs (i * sz + k))) : DR w Mu (.sl sz rows) (.slice (some (at_ b o)) n cap)
  | fs (sz n : Nat) (row : Nat → List D) (cap b o : Nat) (vs : Nat → Value) (hcap : n ≤ cap) (hz : ∀ i, i < n → (row i).length = sz)
      (hc : ∀ j, j < n * sz → w.cell? (at_ b (o + j)) = some (vs j)) (hm : ∀ j, j < n * sz → NM Mu b (o + j))
      (hd : ∀ i k x, i < n → (row i)[k]? = some x → DR w Mu x (vs (i * sz + k))) : DR w Mu (.fs sz n row) (.slice (some (at_ b o)) n cap)

/-- What may happen to a world: only what may be written is written; what may not be written stays so. -/
structure Evo (w : World) (Mu : Mut) (w' : World) (Mu' : Mut) : Prop where
  tape : w'.tape = w.tape
  os : w'.os = w.os
  output : w'.output = w.output
  size : w.heap.size ≤ w'.heap.size
  cell : ∀ b o s, b < w.heap.size → ¬ Mu b o → w'.cell? ⟨b, o, s⟩ = w.cell? ⟨b, o, s⟩
  obj : ∀ b, b < w.heap.size → (∀ o, ¬ Mu b o) → w'.heap[b]? = w.heap[b]?
  mu : ∀ b o, b < w.heap.size → ¬ Mu b o → ¬ Mu' b o
theorem Evo.refl (w : World) (Mu : Mut) : Evo w Mu w Mu := ⟨rfl, rfl, rfl, Nat.le_refl _, fun _ _ _ _ _ => rfl, fun _ _ _ => rfl, fun _ _ _ h => h⟩
theorem Evo.trans {w w1 w2 : World} {M M1 M2 : Mut} (h : Evo w M w1 M1) (k : Evo w1 M1 w2 M2) : Evo w M w2 M2 where
  tape := k.tape.trans h.tape
  os := k.os.trans h.os
  output := k.output.trans h.output
  size := Nat.le_trans h.size k.size
  cell b o s hb hm := (k.cell b o s (Nat.lt_of_lt_of_le hb h.size) (h.mu b o hb hm)).trans (h.cell b o s hb hm)
  obj b hb hm := (k.obj b (Nat.lt_of_lt_of_le hb h.size) fun o => h.mu b o hb (hm o)).trans (h.obj b hb hm)
  mu b o hb hm := k.mu b o (Nat.lt_of_lt_of_le hb h.size) (h.mu b o hb hm)
theorem cell_lt {w : World} {a : Addr} {v : Value} (h : w.cell? a = some v) : a.block < w.heap.size := by
  unfold World.cell? at h
  split at h
  · rename_i c e f hh
    exact (Array.getElem?_eq_some_iff.1 hh).1
  · simp at h
theorem Evo.keeps {w w' : World} {M M' : Mut} (h : Evo w M w' M') {b o : Nat} {v : Value} (hc : w.cell? (at_ b o) = some v) (hm : NM M b o) : w'.cell? (at_ b o) = some v :=
  (h.cell b o none (cell_lt hc) hm.1).trans hc
theorem Evo.nm {w w' : World} {M M' : Mut} (h : Evo w M w' M') {b o : Nat} (hb : b < w.heap.size) (hm : NM M b o) : NM M' b o := ⟨h.mu b o hb hm.1, hm.2⟩
theorem DR.mono {w w' : World} {M M' : Mut} (h : Evo w M w' M') {x : D} {v : Value} (hd : DR w M x v) : DR w' M' x v := by
  induction hd with
  | c v => exact .c v
  | e a => exact .e a
  | sl0 => exact .sl0 ..
  | fs0 => exact .fs0 ..
  | sl sz rows n cap b o vs hn hcap hz hc hm _ ih =>
    exact .sl sz rows n cap b o vs hn hcap hz (fun j hj => h.keeps (hc j hj) (hm j hj)) (fun j hj => h.nm (cell_lt (hc j hj)) (hm j hj)) ih
  | fs sz n row cap b o vs hcap hz hc hm _ ih =>
    exact .fs sz n row cap b o vs hcap hz (fun j hj => h.keeps (hc j hj) (hm j hj)) (fun j hj => h.nm (cell_lt (hc j hj)) (hm j hj)) ih

/-- The rows of something that is never written: n rows of sz cells, from a place on. -/
def RowsR (w : World) (Mu : Mut) (sz n : Nat) (row : Nat → List D) (b o : Nat) : Prop :=
  ∃ vs : Nat → Value, (∀ i, i < n → (row i).length = sz) ∧ (∀ j, j < n * sz → w.cell? (at_ b (o + j)) = some (vs j)) ∧ (∀ j, j < n * sz → NM Mu b (o + j)) ∧
    ∀ i k x, i < n → (row i)[k]? = some x → DR w Mu x (vs (i * sz + k))
theorem RowsR.mono {w w' : World} {M M' : Mut} (h : Evo w M w' M') {sz n : Nat} {row : Nat → List D} {b o : Nat} (hr : RowsR w M sz n row b o) : RowsR w' M' sz n row b o := by
  obtain ⟨vs, h1, h2, h3, h4⟩ := hr
  exact ⟨vs, h1, fun j hj => h.keeps (h2 j hj) (h3 j hj), fun j hj => h.nm (cell_lt (h2 j hj)) (h3 j hj), fun i k x hi hk => (h4 i k x hi hk).mono h⟩

def SR (w : World) (ρ : Locs) (Mu : Mut) : S → Value → Prop
  | .any, _ => True
  | .d x, v => DR w Mu x v
  | .ptr id off, v => ∃ l b o, ρ id = some l ∧ l.a = some (at_ b o) ∧ v = .pointer (some (at_ b (o + off)))
  | .eptr id row off, v => ∃ l b o, ρ id = some l ∧ l.a = some (at_ b o) ∧ v = .pointer (some (at_ b (o + (row * l.sz + off))))
  | .rptr cs, v => ∃ b o, v = .pointer (some (at_ b o)) ∧ ∃ vs : Nat → Value, ∀ j x, cs[j]? = some x → w.cell? (at_ b (o + j)) = some (vs j) ∧ NM Mu b (o + j) ∧ DR w Mu x (vs j)
  | .gs id, v | .as id, v => ∃ l, ρ id = some l ∧ v = .slice l.a l.n l.cap
  | .ms id off len, v => ∃ l b o ad cap, ρ id = some l ∧ l.a = some (at_ b o) ∧ v = .slice ad len cap ∧ len ≤ cap ∧ (len ≠ 0 → ad = some (at_ b (o + off)))
  | .map id, v => ∃ l b, ρ id = some l ∧ l.a = some (at_ b 0) ∧ v = .map (some b)
  | .it id, v => ∃ l b, ρ id = some l ∧ l.a = some (at_ b 0) ∧ v = .pointer (some (at_ b 0))
def CR (w : World) (ρ : Locs) (Mu : Mut) : C → Value → Prop
  | .s x, v => SR w ρ Mu x v
  | .f fn fi ca, v => ∃ a b : Array Value, v = .func fn a b ∧ All2 (SR w ρ Mu) fi a.toList ∧ All2 (SR w ρ Mu) ca b.toList
  | .ifc t x, v => ∃ y, v = .iface t y ∧ SR w ρ Mu x y
def TR (w : World) (ρ : Locs) (Mu : Mut) : TV → Value → Prop
  | .c x, v => CR w ρ Mu x v
  | .agg cs, v => ∃ a : Array Value, v = .agg a ∧ All2 (CR w ρ Mu) cs a.toList
def AR (w : World) (ρ : Locs) (Mu : Mut) : AV → Value → Prop
  | .c x, v => CR w ρ Mu x v
  | .agg cs, v => ∃ a : Array Value, v = .agg a ∧ All2 (CR w ρ Mu) cs a.toList
  | .tup vs, v => ∃ a : Array Value, v = .tuple a ∧ All2 (TR w ρ Mu) vs a.toList

section mono
variable {w w' : World} {ρ ρ' : Locs} {M M' : Mut} (h : Evo w M w' M') (hρ : ρ.le ρ')
include h hρ
theorem SR.mono {x : S} {v : Value} (hx : SR w ρ M x v) : SR w' ρ' M' x v := by
  cases x with
  | any => trivial
  | d x => exact DR.mono h hx
  | ptr id off => obtain ⟨l, b, o, h1, h2⟩ := hx; exact ⟨l, b, o, hρ _ _ h1, h2⟩
  | eptr id row off => obtain ⟨l, b, o, h1, h2⟩ := hx; exact ⟨l, b, o, hρ _ _ h1, h2⟩
  | rptr cs =>
    obtain ⟨b, o, h1, vs, h2⟩ := hx
    exact ⟨b, o, h1, vs, fun j x hj => let ⟨p, q, r⟩ := h2 j x hj; ⟨h.keeps p q, h.nm (cell_lt p) q, r.mono h⟩⟩
  | gs id => obtain ⟨l, h1, h2⟩ := hx; exact ⟨l, hρ _ _ h1, h2⟩
  | as id => obtain ⟨l, h1, h2⟩ := hx; exact ⟨l, hρ _ _ h1, h2⟩
  | ms id off len => obtain ⟨l, b, o, ad, cap, h1, h2⟩ := hx; exact ⟨l, b, o, ad, cap, hρ _ _ h1, h2⟩
  | map id => obtain ⟨l, b, h1, h2⟩ := hx; exact ⟨l, b, hρ _ _ h1, h2⟩
  | it id => obtain ⟨l, b, h1, h2⟩ := hx; exact ⟨l, b, hρ _ _ h1, h2⟩
theorem CR.mono {x : C} {v : Value} (hx : CR w ρ M x v) : CR w' ρ' M' x v := by
  cases x with
  | s x => exact SR.mono h hρ hx
  | f fn fi ca => obtain ⟨a, b, h1, h2, h3⟩ := hx; exact ⟨a, b, h1, h2.mono fun _ _ _ => SR.mono h hρ, h3.mono fun _ _ _ => SR.mono h hρ⟩
  | ifc t x => obtain ⟨y, h1, h2⟩ := hx; exact ⟨y, h1, SR.mono h hρ h2⟩
theorem TR.mono {x : TV} {v : Value} (hx : TR w ρ M x v) : TR w' ρ' M' x v := by
  cases x with
  | c x => exact CR.mono h hρ hx
  | agg cs => obtain ⟨a, h1, h2⟩ := hx; exact ⟨a, h1, h2.mono fun _ _ _ => CR.mono h hρ⟩
theorem AR.mono {x : AV} {v : Value} (hx : AR w ρ M x v) : AR w' ρ' M' x v := by
  cases x with
  | c x => exact CR.mono h hρ hx
  | agg cs => obtain ⟨a, h1, h2⟩ := hx; exact ⟨a, h1, h2.mono fun _ _ _ => CR.mono h hρ⟩
  | tup vs => obtain ⟨a, h1, h2⟩ := hx; exact ⟨a, h1, h2.mono fun _ _ _ => TR.mono h hρ⟩
end mono

/-! ### Blocks -/
def ownB (l : Loc) : Option Nat := l.a.map (·.block)
/-- Which cells of the model's memory may be written on behalf of a block. -/
def blkMu (l : Loc) : Blk → Mut
  | .dead, _, _ => False
  | .froz .., _, _ => False
  | .grow sz rows, b, o => ∃ b' o', l.a = some (at_ b' o') ∧ b = b' ∧ o' + rows.length * sz ≤ o
  | _, b, _ => ∃ b' o', l.a = some (at_ b' o') ∧ b = b'
def owns : Blk → Bool
  | .dead | .froz .. => false
  | _ => true
def MuOf (ρ : Locs) (mem : Mem) : Mut := fun b o => ∃ i blk l, mem[i]? = some blk ∧ ρ i = some l ∧ blkMu l blk b o
/-- A key of a map: what kind of plain value. -/
def keyTag : Value → Option (Option IntKind × Bool)
  | .int k _ => some (some k, false)
  | .string _ => some (none, true)
  | .bool _ => some (none, false)
  | _ => none
/-- A row of cells with room behind its end. -/
def Room (w : World) (l : Loc) (b o used : Nat) : Prop :=
  ∃ arr el, w.heap[b]? = some (.cells arr el (0, 0)) ∧ used ≤ l.cap * l.sz ∧ o + l.cap * l.sz ≤ arr.size
/-- Cells of a block that may be written. -/
def CellsAt (w : World) (R : C → Value → Prop) (cs : List C) (b o : Nat) : Prop :=
  ∀ j x, cs[j]? = some x → ∃ v, w.cell? (at_ b (o + j)) = some v ∧ R x v
/-- The block where it lies is a row of this type. -/
def ElT (w : World) (l : Loc) (t : TypeId) : Prop := ∀ b o, l.a = some (at_ b o) → o = 0 ∧ ∃ arr, w.heap[b]? = some (.cells arr t (0, 0))
def BR (w : World) (ρ : Locs) (Mu : Mut) (l : Loc) : Blk → Prop
  | .dead => True
  | .cells cs ty => ∃ b arr el, l.a = some (at_ b 0) ∧ w.heap[b]? = some (.cells arr el (0, 0)) ∧ (∀ t, ty = some t → el = t) ∧ All2 (CR w ρ Mu) cs arr.toList
  | .grow sz rows => l.sz = sz ∧ l.n = rows.length ∧ ((rows = [] ∧ l.a = none ∧ l.cap = 0) ∨
      ∃ b o, l.a = some (at_ b o) ∧ RowsR w Mu sz rows.length (fun i => rows.getD i []) b o ∧ Room w l b o (rows.length * sz))
  | .froz sz rows => l.sz = sz ∧ l.n = rows.length ∧ (rows = [] ∨ ∃ b o, l.a = some (at_ b o) ∧ RowsR w Mu sz rows.length (fun i => rows.getD i []) b o)
  | .arrD sz rows ty => (l.sz = sz ∧ ∀ t, ty = some t → ElT w l t) ∧ l.n = rows.length ∧ (∀ r, r ∈ rows → r.length = sz) ∧ ((rows = [] ∧ l.a = none ∧ l.cap = 0) ∨
      ∃ b o, l.a = some (at_ b o) ∧ CellsAt w (CR w ρ Mu) (rows.flatten.map C.d) b o ∧ Room w l b o (rows.length * sz))
  | .arr sz rows => l.sz = sz ∧ l.n = rows.length ∧ (∀ r, r ∈ rows → r.length = sz) ∧ ((rows = [] ∧ l.a = none ∧ l.cap = 0) ∨
      ∃ b o, l.a = some (at_ b o) ∧ CellsAt w (CR w ρ Mu) rows.flatten b o ∧ Room w l b o (rows.length * sz))
  | .map es => ∃ b ents clock, l.a = some (at_ b 0) ∧ w.heap[b]? = some (.map ents clock) ∧
      (∃ es', es'.Perm es ∧ All2 (fun (p : Value × AV) (e : MapEntry) => e.key = p.1 ∧ AR w ρ Mu p.2 e.val) es' ents.toList) ∧
      (∃ tag, ∀ p, p ∈ es → keyTag p.1 = some tag) ∧ es.Pairwise fun p q => p.1 ≠ q.1
  | .sit s pos => ∃ b, l.a = some (at_ b 0) ∧ w.heap[b]? = some (.stringIter s pos)
structure MemR (w : World) (ρ : Locs) (mem : Mem) : Prop where
  blk : ∀ i b, mem[i]? = some b → b = .dead ∨ ∃ l, ρ i = some l ∧ BR w ρ (MuOf ρ mem) l b
  apart : ∀ i j bi bj li lj n, mem[i]? = some bi → mem[j]? = some bj → owns bi = true → owns bj = true → ρ i = some li → ρ j = some lj → ownB li = some n → ownB lj = some n → i = j
  fresh : ∀ i, mem.length ≤ i → ρ i = none
  flt : ∀ b o, Fr.F b o → b < w.heap.size
  fap : ∀ i b l n, mem[i]? = some b → owns b = true → ρ i = some l → ownB l = some n → ∀ o, ¬ Fr.F n o
end Go.Sx

/- A plain interpreter of the model's code over values without addresses: how its memory follows the model's. -/
namespace Go.Sx
variable [Fr]

theorem cell_of_heap {w w' : World} {b : Nat} (h : w'.heap[b]? = w.heap[b]?) (o : Nat) (s : Option Nat) : w'.cell? ⟨b, o, s⟩ = w.cell? ⟨b, o, s⟩ := by
  simp only [World.cell?, h]
theorem CellsAt.keep {w w' : World} {R R' : C → Value → Prop} {cs : List C} {b o : Nat} (h : CellsAt w R cs b o) (hh : w'.heap[b]? = w.heap[b]?) (hR : ∀ x v, R x v → R' x v) : CellsAt w' R' cs b o := by
  intro j x hj
  obtain ⟨v, h1, h2⟩ := h j x hj
  exact ⟨v, (cell_of_heap hh _ _).trans h1, hR _ _ h2⟩
theorem Room.keep {w w' : World} {l : Loc} {b o u : Nat} (h : Room w l b o u) (hh : w'.heap[b]? = w.heap[b]?) : Room w' l b o u := by
  obtain ⟨arr, el, h1, h2⟩ := h
  exact ⟨arr, el, hh.trans h1, h2⟩
theorem ownB_at {l : Loc} {b o : Nat} (h : l.a = some (at_ b o)) : ownB l = some b := by simp [ownB, h, at_]
/-- A block that nobody wrote reads as it read. -/
theorem BR.keep {w w' : World} {ρ ρ' : Locs} {M M' : Mut} {l : Loc} {blk : Blk} (h : BR w ρ M l blk) (he : Evo w M w' M') (hρ : ρ.le ρ')
    (hh : owns blk = true → ∀ n, ownB l = some n → w'.heap[n]? = w.heap[n]?) : BR w' ρ' M' l blk := by
  cases blk with
  | dead => trivial
  | cells cs ty =>
    obtain ⟨b, arr, el, h1, h2, h0, h3⟩ := h
    exact ⟨b, arr, el, h1, (hh rfl b (ownB_at h1)).trans h2, h0, h3.mono fun _ _ _ => CR.mono he hρ⟩
  | grow sz rows =>
    obtain ⟨h1, h2, h3⟩ := h
    refine ⟨h1, h2, h3.imp id ?_⟩
    rintro ⟨b, o, h4, h5, h6⟩
    exact ⟨b, o, h4, h5.mono he, h6.keep (hh rfl b (ownB_at h4))⟩
  | froz sz rows =>
    obtain ⟨h1, h2, h3⟩ := h
    refine ⟨h1, h2, h3.imp id ?_⟩
    rintro ⟨b, o, h4, h5⟩
    exact ⟨b, o, h4, h5.mono he⟩
  | arrD sz rows ty =>
    obtain ⟨h1, h2, hz, h3⟩ := h
    refine ⟨⟨h1.1, fun t ht b o hb => let ⟨h5, arr, ha⟩ := h1.2 t ht b o hb; ⟨h5, arr, (hh rfl b (ownB_at hb)).trans ha⟩⟩, h2, hz, h3.imp id ?_⟩
    rintro ⟨b, o, h4, h5, h6⟩
    exact ⟨b, o, h4, h5.keep (hh rfl b (ownB_at h4)) fun _ _ => CR.mono he hρ, h6.keep (hh rfl b (ownB_at h4))⟩
  | arr sz rows =>
    obtain ⟨h1, h2, hz, h3⟩ := h
    refine ⟨h1, h2, hz, h3.imp id ?_⟩
    rintro ⟨b, o, h4, h5, h6⟩
    exact ⟨b, o, h4, h5.keep (hh rfl b (ownB_at h4)) fun _ _ => CR.mono he hρ, h6.keep (hh rfl b (ownB_at h4))⟩
  | map es =>
    obtain ⟨b, ents, clock, h1, h2, ⟨es', h3, h4⟩, h5⟩ := h
    exact ⟨b, ents, clock, h1, (hh rfl b (ownB_at h1)).trans h2, ⟨es', h3, h4.mono fun _ _ _ ⟨p, q⟩ => ⟨p, AR.mono he hρ q⟩⟩, h5⟩
  | sit s pos =>
    obtain ⟨b, h1, h2⟩ := h
    exact ⟨b, h1, (hh rfl b (ownB_at h1)).trans h2⟩
/-- Whoever owns a block owns one that is there. -/
theorem BR.own_lt {w : World} {ρ : Locs} {M : Mut} {l : Loc} {blk : Blk} (h : BR w ρ M l blk) (ho : owns blk = true) {n : Nat} (hn : ownB l = some n) : n < w.heap.size := by
  have key : ∀ {b : Nat} {x : Obj}, ownB l = some b → w.heap[b]? = some x → n < w.heap.size := fun h1 h2 => by
    rw [hn] at h1; injection h1 with h1; subst h1; exact (Array.getElem?_eq_some_iff.1 h2).1
  cases blk with
  | dead => simp [owns] at ho
  | froz sz rows => simp [owns] at ho
  | cells cs ty => obtain ⟨b, arr, el, h1, h2, _⟩ := h; exact key (ownB_at h1) h2
  | grow sz rows =>
    obtain ⟨_, _, ⟨_, h1, _⟩ | ⟨b, o, h1, _, arr, el, h2, _⟩⟩ := h
    · simp [ownB, h1] at hn
    · exact key (ownB_at h1) h2
  | arrD sz rows =>
    obtain ⟨_, _, _, ⟨_, h1, _⟩ | ⟨b, o, h1, _, arr, el, h2, _⟩⟩ := h
    · simp [ownB, h1] at hn
    · exact key (ownB_at h1) h2
  | arr sz rows =>
    obtain ⟨_, _, _, ⟨_, h1, _⟩ | ⟨b, o, h1, _, arr, el, h2, _⟩⟩ := h
    · simp [ownB, h1] at hn
    · exact key (ownB_at h1) h2
  | map es => obtain ⟨b, ents, clock, h1, h2, _⟩ := h; exact key (ownB_at h1) h2
  | sit s pos => obtain ⟨b, h1, h2⟩ := h; exact key (ownB_at h1) h2
theorem blkMu_own {l : Loc} {blk : Blk} {b o : Nat} (h : blkMu l blk b o) : owns blk = true ∧ ownB l = some b := by
  cases blk <;> simp only [blkMu] at h <;> first
    | exact h.elim
    | (obtain ⟨b', o', h1, rfl, _⟩ := h; exact ⟨rfl, ownB_at h1⟩)
    | (obtain ⟨b', o', h1, rfl⟩ := h; exact ⟨rfl, ownB_at h1⟩)
theorem MemR.get {w : World} {ρ : Locs} {mem : Mem} (h : MemR w ρ mem) {i : Nat} {b : Blk} (hb : mem[i]? = some b) (hd : b ≠ .dead) :
    ∃ l, ρ i = some l ∧ BR w ρ (MuOf ρ mem) l b := (h.blk i b hb).resolve_left hd
theorem MemR.mu_lt {w : World} {ρ : Locs} {mem : Mem} (h : MemR w ρ mem) {b o : Nat} (hm : MuOf ρ mem b o) : b < w.heap.size := by
  obtain ⟨i, blk, l, h1, h2, h3⟩ := hm
  obtain ⟨h4, h5⟩ := blkMu_own h3
  have hd : blk ≠ .dead := by rintro rfl; simp [owns] at h4
  obtain ⟨l', h6, h7⟩ := h.get h1 hd
  rw [h2] at h6; injection h6 with h6; subst h6
  exact h7.own_lt h4 h5

/-! ### The memory behind an operation -/
/-- New blocks lie in places that were free. -/
def Laid (mem : Mem) (fresh : Nat) (new : List Blk) (mem' : Mem) : Prop :=
  ∀ i, mem'[i]? = if fresh ≤ i ∧ i < fresh + new.length then new[i - fresh]? else mem[i]?
theorem upds_length (mem : Mem) (l : List (Nat × Blk)) : (upds mem l).length = mem.length := by
  induction l generalizing mem with
  | nil => rfl
  | cons p l ih => simp [upds, ih]
theorem Laid.append (mem : Mem) (new : List Blk) : Laid mem mem.length new (mem ++ new) := by
  intro i
  by_cases h : mem.length ≤ i
  · rw [List.getElem?_append_right h]
    split
    · rfl
    · rename_i h'
      rw [List.getElem?_eq_none (by omega), List.getElem?_eq_none (by omega)]
  · rw [List.getElem?_append_left (by omega), if_neg (by omega)]
theorem lay_length (mem : Mem) (fresh : Nat) (new : List Blk) : (lay mem fresh new).length = mem.length := by
  induction new generalizing mem fresh with
  | nil => rfl
  | cons b l ih => simp [lay, ih]
theorem Laid.lay (mem : Mem) (fresh : Nat) (new : List Blk) (h : fresh + new.length ≤ mem.length) : Laid mem fresh new (lay mem fresh new) := by
  induction new generalizing mem fresh with
  | nil => intro i; simp [Sx.lay]; intro h1 h2; omega
  | cons b l ih =>
    intro i
    have := ih (mem.set fresh b) (fresh + 1) (by simp at h ⊢; omega) i
    simp only [Sx.lay, this, List.length_cons]
    by_cases h1 : fresh + 1 ≤ i ∧ i < fresh + 1 + l.length
    · rw [if_pos h1, if_pos (by omega), show i - fresh = (i - (fresh + 1)) + 1 by omega]
      simp
    · rw [if_neg h1]
      by_cases h2 : i = fresh
      · subst h2
        simp at h
        rw [if_pos (by omega)]
        simp [List.getElem?_set, show i < mem.length by omega]
      · rw [if_neg (by omega), List.getElem?_set_ne (by omega)]

/-- What is owed behind an operation. -/
structure Post (w : World) (ρ : Locs) (mem : Mem) (fresh : Nat) (r : OR) (v : Value) (w' : World) (ρ' : Locs) : Prop where
  le : ρ.le ρ'
  only : ∀ i, ¬ (fresh ≤ i ∧ i < fresh + r.new.length) → ρ' i = ρ i
  rest : ∀ mem', Laid (upds mem r.upd) fresh r.new mem' → Evo w (MuOf ρ mem) w' (MuOf ρ' mem') ∧ MemR w' ρ' mem' ∧ AR w' ρ' (MuOf ρ' mem') r.r v
/-- The places kept for new blocks are free. -/
def Free (ρ : Locs) (mem : Mem) (fresh n : Nat) : Prop := ∀ j, j < n → (mem[fresh + j]? = none ∨ mem[fresh + j]? = some .dead) ∧ ρ (fresh + j) = none

theorem Laid.none {mem mem' : Mem} {fresh : Nat} (h : Laid mem fresh [] mem') : mem' = mem := by
  apply List.ext_getElem?
  intro i
  rw [h i]; split
  · simp at *; omega
  · rfl
/-- An operation that leaves all as it was. -/
theorem Post.pure {w : World} {ρ : Locs} {mem : Mem} {fresh : Nat} {a : AV} {v : Value} (hm : MemR w ρ mem) (ha : AR w ρ (MuOf ρ mem) a v) :
    Post w ρ mem fresh { r := a } v w ρ :=
  ⟨Locs.le_refl _, fun _ _ => rfl, fun mem' hl => by
    obtain rfl : mem' = mem := hl.none
    exact ⟨Evo.refl _ _, hm, ha⟩⟩
/-- An operation that makes one block. -/
theorem Post.alloc {w : World} {ρ : Locs} {mem : Mem} {fresh : Nat} {a : AV} {v : Value} {blk : Blk} {o : Obj} {d : Nat} (l : Loc) (hm : MemR w ρ mem)
    (hf : Free ρ mem fresh 1) (hl : ownB l = some w.heap.size ∨ ownB l = none)
    (hb : ∀ M' : Mut, Evo w (MuOf ρ mem) { w with heap := w.heap.push o, drawn := d } M' → (∀ o, M' w.heap.size o → blkMu l blk w.heap.size o) →
      BR { w with heap := w.heap.push o, drawn := d } (fun i => if i = fresh then some l else ρ i) M' l blk)
    (ha : ∀ M', AR { w with heap := w.heap.push o, drawn := d } (fun i => if i = fresh then some l else ρ i) M' a v) :
    Post w ρ mem fresh { r := a, new := [blk] } v { w with heap := w.heap.push o, drawn := d } (fun i => if i = fresh then some l else ρ i) := by
  obtain ⟨hf1, hf2⟩ := hf 0 (by omega)
  simp only [Nat.add_zero] at hf1 hf2
  have hle : ρ.le (fun i => if i = fresh then some l else ρ i) := fun i x hx => by
    by_cases h : i = fresh
    · subst h; rw [hf2] at hx; cases hx
    · simp [h, hx]
  refine ⟨hle, fun i hi => if_neg (fun h => hi ⟨by omega, by simp; omega⟩), fun mem' hL => ?_⟩
  have hget : ∀ i, mem'[i]? = if i = fresh then some blk else mem[i]? := fun i => by
    rw [hL i]
    by_cases h : i = fresh
    · subst h; simp
    · rw [if_neg (by simp; omega), if_neg h]; rfl
  have hmu : ∀ b o, b < w.heap.size → ¬ MuOf ρ mem b o → ¬ MuOf (fun i => if i = fresh then some l else ρ i) mem' b o := by
    rintro b o hb' hn ⟨i, bi, li, h1, h2, h3⟩
    rw [hget] at h1
    by_cases h : i = fresh
    · simp only [h, if_true] at h1 h2
      injection h1 with h1; injection h2 with h2; subst h1 h2
      obtain ⟨_, h5⟩ := blkMu_own h3
      rcases hl with hl | hl <;> rw [hl] at h5
      · injection h5 with h5; omega
      · cases h5
    · simp only [h, if_false] at h1 h2
      exact hn ⟨i, bi, li, h1, h2, h3⟩
  have he : Evo w (MuOf ρ mem) { w with heap := w.heap.push o, drawn := d } (MuOf (fun i => if i = fresh then some l else ρ i) mem') :=
    ⟨rfl, rfl, rfl, by simp, fun b o s hb' _ => cell_of_heap (by simp [Array.getElem?_push, show b ≠ w.heap.size by omega]) _ _,
      fun b hb' _ => by simp [Array.getElem?_push, show b ≠ w.heap.size by omega], hmu⟩
  refine ⟨he, ⟨fun i b hi => ?_, ?_, fun i hi => ?_, fun b o h => Nat.lt_of_lt_of_le (hm.flt b o h) he.size, fun i b li n h1 h2 h3 h4 o h5 => ?_⟩, ha _⟩
  · rw [hget] at hi
    by_cases h : i = fresh
    · simp only [h, if_true] at hi
      injection hi with hi; subst hi
      refine .inr ⟨l, by simp [h], hb _ he ?_⟩
      rintro o ⟨j, bj, lj, h1, h2, h3⟩
      rw [hget] at h1
      by_cases hj : j = fresh
      · simp only [hj, if_true] at h1 h2
        injection h1 with h1; injection h2 with h2; subst h1 h2; exact h3
      · simp only [hj, if_false] at h1 h2
        have := hm.mu_lt ⟨j, bj, lj, h1, h2, h3⟩
        omega
    · simp only [h, if_false] at hi
      refine (hm.blk i b hi).imp id fun ⟨li, h1, h2⟩ => ⟨li, by simp [h, h1], h2.keep he hle fun ho n hn => ?_⟩
      have := h2.own_lt ho hn
      simp [Array.getElem?_push, show n ≠ w.heap.size by omega]
  · intro i j bi bj li lj n h1 h2 h3 h4 h5 h6 h7 h8
    rw [hget] at h1 h2
    have key : ∀ k bk lk, k ≠ fresh → mem[k]? = some bk → owns bk = true → ρ k = some lk → ownB lk = some n → n < w.heap.size := fun k bk lk hk hb1 hb2 hb3 hb4 => by
      have hd : bk ≠ .dead := by rintro rfl; simp [owns] at hb2
      obtain ⟨l', p, q⟩ := hm.get hb1 hd
      rw [hb3] at p; injection p with p; subst p
      exact q.own_lt hb2 hb4
    by_cases hi : i = fresh <;> by_cases hj : j = fresh
    · omega
    · simp only [hi, hj, if_true, if_false] at h1 h2 h5 h6
      injection h5 with h5; subst h5
      have := key j bj lj hj h2 h4 h6 h8
      rcases hl with hl | hl <;> rw [hl] at h7
      · injection h7 with h7; omega
      · cases h7
    · simp only [hi, hj, if_true, if_false] at h1 h2 h5 h6
      injection h6 with h6; subst h6
      have := key i bi li hi h1 h3 h5 h7
      rcases hl with hl | hl <;> rw [hl] at h8
      · injection h8 with h8; omega
      · cases h8
    · simp only [hi, hj, if_false] at h1 h2 h5 h6
      exact hm.apart i j bi bj li lj n h1 h2 h3 h4 h5 h6 h7 h8
  · have h1 : mem'[i]? = none := List.getElem?_eq_none hi
    rw [hget] at h1
    by_cases h : i = fresh
    · simp [h] at h1
    · simp only [h, if_false] at h1 ⊢
      exact hm.fresh i (by simpa using h1)
  · rw [hget] at h1
    by_cases h : i = fresh
    · simp only [h, if_true] at h1 h3
      injection h3 with h3; subst h3
      have := hm.flt _ _ h5
      rcases hl with hl | hl <;> rw [hl] at h4
      · injection h4 with h4; omega
      · cases h4
    · simp only [h, if_false] at h1 h3
      exact hm.fap i b li n h1 h2 h3 h4 o h5
end Go.Sx

/- A plain interpreter of the model's code over values without addresses: one step of its memory, at large. -/
namespace Go.Sx
variable [Fr]

/-- The world has changed in touched blocks alone, and there only where one may write. -/
structure Touch (w w' : World) (Mu : Mut) (Tb : Nat → Prop) : Prop where
  tape : w'.tape = w.tape
  os : w'.os = w.os
  output : w'.output = w.output
  size : w.heap.size ≤ w'.heap.size
  rest : ∀ b, b < w.heap.size → ¬ Tb b → w'.heap[b]? = w.heap[b]?
  cell : ∀ b o s, b < w.heap.size → Tb b → ¬ Mu b o → w'.cell? ⟨b, o, s⟩ = w.cell? ⟨b, o, s⟩
  some : ∀ b, Tb b → ∃ o, Mu b o
theorem Touch.evo {w w' : World} {Mu Mu' : Mut} {Tb : Nat → Prop} (h : Touch w w' Mu Tb) (hm : ∀ b o, b < w.heap.size → ¬ Mu b o → ¬ Mu' b o) : Evo w Mu w' Mu' where
  tape := h.tape
  os := h.os
  output := h.output
  size := h.size
  cell b o s hb hn := by
    by_cases ht : Tb b
    · exact h.cell b o s hb ht hn
    · exact cell_of_heap (h.rest b hb ht) o s
  obj b hb hn := h.rest b hb fun ht => let ⟨o, ho⟩ := h.some b ht; hn o ho
  mu := hm
theorem Touch.none (w : World) (Mu : Mut) : Touch w w Mu (fun _ => False) := ⟨rfl, rfl, rfl, Nat.le_refl _, fun _ _ _ => rfl, fun _ _ _ _ h => h.elim, fun _ h => h.elim⟩

theorem MemR.next {w w' : World} {ρ ρ' : Locs} {mem mem' : Mem} (hm : MemR w ρ mem) (hle : ρ.le ρ') (Tb U : Nat → Prop)
    (ht : Touch w w' (MuOf ρ mem) Tb)
    (hsame : ∀ i, ¬ U i → mem'[i]? = mem[i]? ∧ ρ' i = ρ i)
    (hfree : ∀ i b l n, ¬ U i → mem[i]? = some b → owns b = true → ρ i = some l → ownB l = some n → ¬ Tb n)
    (hmu : ∀ i b l c o, U i → mem'[i]? = some b → ρ' i = some l → blkMu l b c o → c < w.heap.size → MuOf ρ mem c o)
    (hown : ∀ i b l n, U i → mem'[i]? = some b → owns b = true → ρ' i = some l → ownB l = some n →
      w.heap.size ≤ n ∨ ∃ j bj lj, U j ∧ mem[j]? = some bj ∧ owns bj = true ∧ ρ j = some lj ∧ ownB lj = some n)
    (hap : ∀ i j bi bj li lj n, U i → U j → mem'[i]? = some bi → mem'[j]? = some bj → owns bi = true → owns bj = true → ρ' i = some li → ρ' j = some lj → ownB li = some n → ownB lj = some n → i = j)
    (hfr : ∀ i, U i → mem'.length ≤ i → ρ' i = none)
    (hB : Evo w (MuOf ρ mem) w' (MuOf ρ' mem') → ∀ i b, U i → mem'[i]? = some b → b = .dead ∨ ∃ l, ρ' i = some l ∧ BR w' ρ' (MuOf ρ' mem') l b) :
    Evo w (MuOf ρ mem) w' (MuOf ρ' mem') ∧ MemR w' ρ' mem' := by
  have he : Evo w (MuOf ρ mem) w' (MuOf ρ' mem') := ht.evo <| by
    rintro b o hb hn ⟨i, bi, li, h1, h2, h3⟩
    by_cases hU : U i
    · exact hn (hmu i bi li b o hU h1 h2 h3 hb)
    · obtain ⟨h4, h5⟩ := hsame i hU
      rw [h4] at h1; rw [h5] at h2
      exact hn ⟨i, bi, li, h1, h2, h3⟩
  have old : ∀ i b l n, mem[i]? = some b → owns b = true → ρ i = some l → ownB l = some n → n < w.heap.size := fun i b l n h1 h2 h3 h4 => by
    have hd : b ≠ .dead := by rintro rfl; simp [owns] at h2
    obtain ⟨l', p, q⟩ := hm.get h1 hd
    rw [h3] at p; injection p with p; subst p
    exact q.own_lt h2 h4
  refine ⟨he, ⟨fun i b hi => ?_, ?_, fun i hi => ?_, fun b o h => Nat.lt_of_lt_of_le (hm.flt b o h) he.size, fun i b li n h1 h2 h3 h4 o h5 => ?_⟩⟩
  · by_cases hU : U i
    · exact hB he i b hU hi
    · obtain ⟨h4, h5⟩ := hsame i hU
      rw [h4] at hi
      exact (hm.blk i b hi).imp id fun ⟨l, h1, h2⟩ => ⟨l, h5.trans h1, h2.keep he hle fun ho n hn => ht.rest n (h2.own_lt ho hn) (hfree i b l n hU hi ho h1 hn)⟩
  · intro i j bi bj li lj n h1 h2 h3 h4 h5 h6 h7 h8
    by_cases hi : U i <;> by_cases hj : U j
    · exact hap i j bi bj li lj n hi hj h1 h2 h3 h4 h5 h6 h7 h8
    · obtain ⟨h9, h10⟩ := hsame j hj
      rw [h9] at h2; rw [h10] at h6
      rcases hown i bi li n hi h1 h3 h5 h7 with h | ⟨k, bk, lk, a, b, c, d, e⟩
      · have := old j bj lj n h2 h4 h6 h8; omega
      · have := hm.apart k j bk bj lk lj n b h2 c h4 d h6 e h8
        subst this; exact absurd a hj
    · obtain ⟨h9, h10⟩ := hsame i hi
      rw [h9] at h1; rw [h10] at h5
      rcases hown j bj lj n hj h2 h4 h6 h8 with h | ⟨k, bk, lk, a, b, c, d, e⟩
      · have := old i bi li n h1 h3 h5 h7; omega
      · have := hm.apart i k bi bk li lk n h1 b h3 c h5 d h7 e
        subst this; exact absurd a hi
    · obtain ⟨h9, h10⟩ := hsame i hi
      obtain ⟨h11, h12⟩ := hsame j hj
      rw [h9] at h1; rw [h10] at h5; rw [h11] at h2; rw [h12] at h6
      exact hm.apart i j bi bj li lj n h1 h2 h3 h4 h5 h6 h7 h8
  · by_cases hU : U i
    · exact hfr i hU hi
    · obtain ⟨h9, h10⟩ := hsame i hU
      rw [h10]
      have : mem'[i]? = none := List.getElem?_eq_none hi
      rw [h9] at this
      exact hm.fresh i (by simpa using this)
  · by_cases hU : U i
    · rcases hown i b li n hU h1 h2 h3 h4 with h | ⟨j, bj, lj, _, k1, k2, k3, k4⟩
      · have := hm.flt _ _ h5; omega
      · exact hm.fap j bj lj n k1 k2 k3 k4 o h5
    · obtain ⟨h9, h10⟩ := hsame i hU
      rw [h9] at h1; rw [h10] at h3
      exact hm.fap i b li n h1 h2 h3 h4 o h5
end Go.Sx

/- A plain interpreter of the model's code over values without addresses: the tables, the operands, reads. -/
namespace Go.Sx
variable [Fr]

def isAggD : TypeDesc → Bool
  | .struct _ | .array _ _ => true
  | _ => false
structure TIok (P : Program) (t : TypeId) (i : TI) : Prop where
  info : ∃ f, P.info? t = some f ∧ f.size = i.size ∧ f.bytes = i.bytes ∧ f.desc = i.desc ∧ ∃ z, f.zero = some z ∧ z.cells.toList = i.zero ∧ (if i.agg then ∃ c, z = .agg c else z.cells = #[z])
  agg : ∃ d, P.underlying t = some d ∧ i.agg = isAggD d
  len : i.zero.length = i.size
  plain : i.plain = true → P.stoodInHeld t = false ∧ P.eqGuardType P.depth t = false
/-- The tables are the program's. -/
structure Ok (P : Program) (X : Ctx) : Prop where
  ti : ∀ t i, X.ti t = some i → TIok P t i
  mixed : P.follows .mixedOrders = true
variable {P : Program} {X : Ctx}
theorem Ok.under (h : Ok P X) {t : TypeId} {d : TypeDesc} (hd : under X t = some d) : P.underlying t = some d := by
  unfold Sx.under at hd
  split at hd
  · rename_i i hi
    obtain ⟨f, h1, _, _, h4, _⟩ := (h.ti t i hi).info
    split at hd
    · rename_i n u hu
      cases hu' : X.ti u with
      | none => simp [hu'] at hd
      | some j =>
        obtain ⟨g, k1, _, _, k4, _⟩ := (h.ti u j hu').info
        simp [hu'] at hd
        rw [hu] at h4
        cases f
        simp only at h4
        simp [Program.underlying, h1, h4, k1, k4, hd]
    · rename_i hn
      injection hd with hd
      unfold Program.underlying
      rw [h1]
      cases f
      simp only at h4 ⊢
      subst h4
      subst hd
      cases hdd : i.desc <;> first | rfl | exact absurd hdd (hn _ _)
  · cases hd
section runs
variable {w : World} {t : TypeId} {i : TI}
theorem run_underlying' {d : TypeDesc} (h : P.underlying t = some d) : (underlying t).run P w = .ok d w := by simp [underlying, program, Sem.run, h]
theorem TIok.run_sizeOf (h : TIok P t i) : (sizeOf t).run P w = .ok i.size w := by
  obtain ⟨f, h1, h2, _⟩ := h.info
  simp [sizeOf, typeInfo, program, Sem.run, h1, h2]
theorem TIok.run_isAgg (h : TIok P t i) : (isAgg t).run P w = .ok i.agg w := by
  obtain ⟨d, h1, h2⟩ := h.agg
  simp only [isAgg, Sem.run_bind, run_underlying' h1, Result.andThen_ok, h2]
  cases d <;> rfl
theorem TIok.run_zero (h : TIok P t i) : ∃ z, (zeroValue t).run P w = .ok z w ∧ z.cells.toList = i.zero ∧ (if i.agg then ∃ c, z = .agg c else z.cells = #[z]) := by
  obtain ⟨f, h1, _, _, _, z, h2, h3, h4⟩ := h.info
  exact ⟨z, by simp [zeroValue, typeInfo, program, Sem.run, h1, h2], h3, h4⟩
end runs

/-! ### Operands -/
def EnvR (w : World) (ρ : Locs) (Mu : Mut) (env : Env) (tmps : Array Value) : Prop := All2 (AR w ρ Mu) env tmps.toList
def GlobR (X : Ctx) (w : World) (Mu : Mut) : Prop := ∀ g cs, X.glob g = some cs → SR w (fun _ => none) Mu (.rptr cs) (.pointer (some (at_ g 0)))
theorem GlobR.mono {w w' : World} {M M' : Mut} (h : Evo w M w' M') (hg : GlobR X w M) : GlobR X w' M' := fun g cs hc => SR.mono h (Locs.le_refl _) (hg g cs hc)
theorem EnvR.mono {w w' : World} {ρ ρ' : Locs} {M M' : Mut} (h : Evo w M w' M') (hρ : ρ.le ρ') {env : Env} {tmps : Array Value} (he : EnvR w ρ M env tmps) : EnvR w' ρ' M' env tmps :=
  All2.mono he fun _ _ _ => AR.mono h hρ
theorem EnvR.getD {w : World} {ρ : Locs} {M : Mut} {env : Env} {tmps : Array Value} (he : EnvR w ρ M env tmps) (t : Nat) : AR w ρ M (env.getD t .undef) (tmps.getD t undef) := by
  rw [List.getD_eq_getElem?_getD]
  cases h : env[t]? with
  | some v =>
    obtain ⟨x, h1, h2⟩ := All2.get he t h
    rw [Array.getElem?_toList] at h1
    simp [Array.getD_eq_getD_getElem?, h1, h2]
  | none =>
    have : tmps.size ≤ t := by
      have := All2.length he
      simp at this h
      omega
    simp only [Option.getD_none, Array.getD_eq_getD_getElem?, Array.getElem?_eq_none this]
    exact ⟨#[], rfl, .nil⟩
theorem AR.const (w : World) (ρ : Locs) (M : Mut) (v : Value) : AR w ρ M (AV.v v) v := DR.c v
theorem All2.consts (w : World) (ρ : Locs) (M : Mut) (l : List Value) : All2 (CR w ρ M) (l.map fun v => .s (.d (.c v))) l := by
  induction l with
  | nil => exact .nil
  | cons v l ih => exact .cons (DR.c v) ih
theorem evalO_sound {w : World} {ρ : Locs} {M : Mut} {env : Env} {a : Act} (he : EnvR w ρ M env a.tmps) (hg : GlobR X w M) (x : Operand) : AR w ρ M (evalO X env x) (a.eval x) := by
  cases x with
  | tmp t => exact he.getD t
  | const v =>
    cases v with
    | agg cs => exact ⟨cs, rfl, All2.consts w ρ M cs.toList⟩
    | tuple cs => trivial
    | _ => exact DR.c _
  | global g =>
    simp only [evalO, Act.eval]
    cases h : X.glob g with
    | none => trivial
    | some cs => exact hg g cs h
  | func f => exact ⟨#[], #[], rfl, .nil, .nil⟩

/-! ### Cells -/
theorem cells_at {w : World} {R : C → Value → Prop} {cs : List C} {arr : Array Value} {b : Nat} {el : TypeId} {fz : Nat × Nat} (h : w.heap[b]? = some (.cells arr el fz)) (hR : All2 R cs arr.toList) : CellsAt w R cs b 0 := by
  intro j x hj
  obtain ⟨v, h1, h2⟩ := hR.get j hj
  exact ⟨v, by simp [World.cell?, at_, h]; simpa using h1, h2⟩
theorem CellsAt.loads {w : World} {R : C → Value → Prop} {cs : List C} {b o : Nat} (h : CellsAt w R cs b o) (off n : Nat) (hn : off + n ≤ cs.length) :
    ∃ l : List Value, (loadCells (at_ b (o + off)) n).run P w = .ok l.toArray w ∧ All2 R ((cs.drop off).take n) l := by
  induction n generalizing off with
  | zero => exact ⟨[], by simp [loadCells, loadCellsFrom], by simpa using All2.nil⟩
  | succ n ih =>
    have key : ∀ j, j < n + 1 → ∃ v, w.cell? (at_ b (o + off + j)) = some v ∧ ∃ x, cs[off + j]? = some x ∧ R x v := fun j hj => by
      obtain ⟨x, hx⟩ : ∃ x, cs[off + j]? = some x := ⟨_, List.getElem?_eq_getElem (by omega)⟩
      obtain ⟨v, h1, h2⟩ := h _ x hx
      exact ⟨v, by rwa [Nat.add_assoc], x, hx, h2⟩
    let f : Nat → Value := fun j => if h : j < n + 1 then Classical.choose (key j h) else undef
    have hf : ∀ j (hj : j < n + 1), w.cell? (at_ b (o + off + j)) = some (f j) ∧ ∃ x, cs[off + j]? = some x ∧ R x (f j) := fun j hj => by
      have := Classical.choose_spec (key j hj)
      simpa [f, hj] using this
    refine ⟨(List.range (n + 1)).map f, run_loadCells w _ _ f fun j hj => ?_, All2.of_get (by simp; omega) fun j x v hx hv => ?_⟩
    · rw [at_add]; exact (hf j hj).1
    · have hj : j < n + 1 := by
        have := (List.getElem?_eq_some_iff.1 hv).1
        simpa using this
      simp [hj] at hv
      obtain ⟨_, y, h1, h2⟩ := hf j hj
      rw [List.getElem?_take_of_lt hj, List.getElem?_drop, h1] at hx
      injection hx with hx; subst hx; subst hv; exact h2
theorem readPart_sound {w : World} {ρ : Locs} {M : Mut} {t : TypeId} {i : TI} (hi : TIok P t i) {cs : List C} {b o : Nat} (h : CellsAt w (CR w ρ M) cs b o) {off : Nat} {r : AV} (hr : readPart i cs off = some r) :
    ∃ x, (loadVar t (at_ b (o + off))).run P w = .ok x w ∧ AR w ρ M r x := by
  unfold readPart at hr
  unfold loadVar
  simp only [Sem.run_bind, hi.run_isAgg, Result.andThen_ok]
  cases ha : i.agg with
  | true =>
    simp only [ha, if_true] at hr ⊢
    split at hr
    · injection hr with hr; subst hr
      rename_i hle
      obtain ⟨l, h1, h2⟩ := h.loads (P := P) off i.size hle
      exact ⟨.agg l.toArray, by simp [hi.run_sizeOf, h1], ⟨_, rfl, by simpa using h2⟩⟩
    · cases hr
  | false =>
    simp only [ha, Bool.false_eq_true, if_false] at hr ⊢
    cases hc : cs[off]? with
    | none => simp [hc] at hr
    | some c =>
      simp [hc] at hr; subst hr
      obtain ⟨v, h1, h2⟩ := h off c hc
      exact ⟨v, by simp [h1], h2⟩
theorem readPartD_eq (i : TI) (cs : List D) (off : Nat) : readPartD i cs off = readPart i (cs.map C.d) off := by
  unfold readPartD readPart
  simp only [List.length_map, List.map_drop, List.map_take]
  split
  · rfl
  · cases h : cs[off]? <;> simp [h]
theorem flatten_get {α : Type} {rows : List (List α)} {sz : Nat} (hz : ∀ r, r ∈ rows → r.length = sz) {row k : Nat} {cs : List α} {x : α} (h : rows[row]? = some cs) (hx : cs[k]? = some x) : rows.flatten[row * sz + k]? = some x := by
  induction rows generalizing row with
  | nil => simp at h
  | cons r rows ih =>
    have hr := hz r (by simp)
    have hk : k < sz := by
      have := (List.getElem?_eq_some_iff.1 hx).1
      rw [← hz cs (List.mem_of_getElem? h)]; exact this
    cases row with
    | zero =>
      simp at h; subst h
      simp [List.getElem?_append_left (show k < r.length by omega), hx]
    | succ row =>
      simp only [List.flatten_cons]
      rw [List.getElem?_append_right (by rw [hr]; have := Nat.le_mul_of_pos_left sz (show 0 < row + 1 by omega); omega)]
      have := ih (fun r hr => hz r (by simp [hr])) (row := row) (by simpa using h)
      rw [← this]
      congr 1
      rw [hr, Nat.add_mul, Nat.one_mul]; omega
theorem CellsAt.row {w : World} {R : C → Value → Prop} {rows : List (List C)} {sz b o : Nat} (hz : ∀ r, r ∈ rows → r.length = sz) (h : CellsAt w R rows.flatten b o) {row : Nat} {cs : List C} (hr : rows[row]? = some cs) : CellsAt w R cs b (o + row * sz) := by
  intro j x hj
  obtain ⟨v, h1, h2⟩ := h _ x (flatten_get hz hr hj)
  exact ⟨v, by rwa [Nat.add_assoc], h2⟩
theorem map_flatten_d (rows : List (List D)) : rows.flatten.map C.d = (rows.map fun r => r.map C.d).flatten := by
  induction rows with
  | nil => rfl
  | cons r rows ih => simp [ih]

theorem loadA_sound {w : World} {ρ : Locs} {mem : Mem} (hm : MemR w ρ mem) {t : TypeId} {i : TI} (hi : TIok P t i) {a : AV} {v : Value} (hv : AR w ρ (MuOf ρ mem) a v) {r : AV} (hr : loadA i a mem = some r) :
    ∃ x, (Instr.loadAt t v).run P w = .ok x w ∧ AR w ρ (MuOf ρ mem) r x := by
  have fin : ∀ {b o : Nat} {x : Value}, (loadVar t (at_ b o)).run P w = .ok x w → (Instr.loadAt t (.pointer (some (at_ b o)))).run P w = .ok x w := fun h => by
    simpa [Instr.loadAt, Instr.sureAddr] using h
  unfold loadA at hr
  split at hr
  · rename_i id off
    obtain ⟨l, b, o, h1, h2, rfl⟩ := hv
    split at hr
    · rename_i cs ty hc
      obtain ⟨l', k1, b', arr, el, k2, k3, k0, k4⟩ := hm.get hc (by simp)
      rw [h1] at k1; injection k1 with k1; subst k1
      rw [h2] at k2; injection k2 with k2
      obtain ⟨rfl, rfl⟩ : b = b' ∧ o = 0 := by simpa [at_] using k2
      obtain ⟨x, p, q⟩ := readPart_sound hi (cells_at k3 k4) hr
      exact ⟨x, fin p, q⟩
    · cases hr
  · rename_i id row off
    obtain ⟨l, b, o, h1, h2, rfl⟩ := hv
    split at hr
    · rename_i sz rows hc
      split at hr
      · rename_i cs hcs
        obtain ⟨l', k1, k2, k3, kz, k4⟩ := hm.get hc (by simp)
        rw [h1] at k1; injection k1 with k1; subst k1
        rcases k4 with ⟨rfl, _⟩ | ⟨b', o', k5, k6, _⟩
        · simp at hcs
        · rw [h2] at k5; injection k5 with k5
          obtain ⟨rfl, rfl⟩ : b = b' ∧ o = o' := by simpa [at_] using k5
          obtain ⟨x, p, q⟩ := readPart_sound hi (k6.row kz hcs) hr
          exact ⟨x, fin (by rwa [k2, ← Nat.add_assoc]), q⟩
      · cases hr
    · rename_i sz rows ty hc
      split at hr
      · rename_i cs hcs
        obtain ⟨l', k1, ⟨k2, _⟩, k3, kz, k4⟩ := hm.get hc (by simp)
        rw [h1] at k1; injection k1 with k1; subst k1
        rcases k4 with ⟨rfl, _⟩ | ⟨b', o', k5, k6, _⟩
        · simp at hcs
        · rw [h2] at k5; injection k5 with k5
          obtain ⟨rfl, rfl⟩ : b = b' ∧ o = o' := by simpa [at_] using k5
          rw [map_flatten_d] at k6
          rw [readPartD_eq] at hr
          obtain ⟨x, p, q⟩ := readPart_sound hi (k6.row (sz := sz) (by simpa using kz) (cs := cs.map C.d) (row := row) (by simp [hcs])) hr
          exact ⟨x, fin (by rwa [k2, ← Nat.add_assoc]), q⟩
      · cases hr
    · cases hr
  · rename_i cs
    obtain ⟨b, o, rfl, vs, h⟩ := hv
    rw [readPartD_eq] at hr
    have hc : CellsAt w (CR w ρ (MuOf ρ mem)) (cs.map C.d) b o := fun j x hj => by
      simp at hj
      obtain ⟨y, hy, rfl⟩ := hj
      obtain ⟨p, _, q⟩ := h j y hy
      exact ⟨_, p, q⟩
    obtain ⟨x, p, q⟩ := readPart_sound hi hc hr
    exact ⟨x, fin p, q⟩
  · cases hr
end Go.Sx

/- A plain interpreter of the model's code over values without addresses: blocks that change. -/
namespace Go.Sx
variable [Fr]

theorem upds_out (mem : Mem) (us : List (Nat × Blk)) (i : Nat) (h : ∀ b, (i, b) ∉ us) : (upds mem us)[i]? = mem[i]? := by
  induction us generalizing mem with
  | nil => rfl
  | cons u us ih =>
    obtain ⟨j, b⟩ := u
    simp only [upds]
    rw [ih _ fun b' hb' => h b' (by simp [hb'])]
    rw [List.getElem?_set_ne]
    rintro rfl
    exact h b (by simp)
theorem upds_get (mem : Mem) (us : List (Nat × Blk)) (i : Nat) (b : Blk) (h : (upds mem us)[i]? = some b) : (mem[i]? = some b ∧ ∀ b', (i, b') ∉ us) ∨ (i, b) ∈ us := by
  induction us generalizing mem with
  | nil => exact .inl ⟨h, by simp⟩
  | cons u us ih =>
    obtain ⟨j, c⟩ := u
    simp only [upds] at h
    rcases ih _ h with ⟨h1, h2⟩ | h1
    · by_cases hj : j = i
      · subst hj
        have hlt : j < mem.length := by
          have := (List.getElem?_eq_some_iff.1 h1).1
          simpa using this
        rw [List.getElem?_set_self hlt] at h1
        injection h1 with h1; subst h1
        exact .inr (by simp)
      · rw [List.getElem?_set_ne hj] at h1
        exact .inl ⟨h1, fun b' hb' => by
          rcases List.mem_cons.1 hb' with e | hb'
          · injection e with e _; exact hj e.symm
          · exact h2 b' hb'⟩
    · exact .inr (by simp [h1])

section
variable {w w' : World} {ρ : Locs} {mem : Mem}
/-- What is owed of blocks that change in their places. -/
structure UpdOk (ρ : Locs) (mem : Mem) (us : List (Nat × Blk)) : Prop where
  old : ∀ i b, (i, b) ∈ us → ∃ bi l, mem[i]? = some bi ∧ ρ i = some l ∧ (owns b = true → owns bi = true) ∧ ∀ c o, blkMu l b c o → blkMu l bi c o
theorem UpdOk.mu {us : List (Nat × Blk)} (h : UpdOk ρ mem us) {b o : Nat} (hm : MuOf ρ (upds mem us) b o) : MuOf ρ mem b o := by
  obtain ⟨i, bi, l, h1, h2, h3⟩ := hm
  rcases upds_get _ _ _ _ h1 with ⟨h4, _⟩ | h4
  · exact ⟨i, bi, l, h4, h2, h3⟩
  · obtain ⟨bj, lj, h5, h6, _, h8⟩ := h.old i bi h4
    rw [h2] at h6; injection h6 with h6; subst h6
    exact ⟨i, bj, l, h5, h2, h8 _ _ h3⟩
theorem MemR.owner (hm : MemR w ρ mem) {i j : Nat} {bi bj : Blk} {li lj : Loc} {n : Nat} (h1 : mem[i]? = some bi) (h2 : mem[j]? = some bj) (h3 : owns bi = true) (h4 : owns bj = true)
    (h5 : ρ i = some li) (h6 : ρ j = some lj) (h7 : ownB li = some n) (h8 : ownB lj = some n) : i = j := hm.apart i j bi bj li lj n h1 h2 h3 h4 h5 h6 h7 h8
/-- A block that nobody owns any longer is not written any longer. -/
theorem UpdOk.sealed {us : List (Nat × Blk)} (h : UpdOk ρ mem us) (hm : MemR w ρ mem) {i : Nat} {bi : Blk} {l : Loc} {n : Nat} (h1 : mem[i]? = some bi) (h2 : owns bi = true) (h3 : ρ i = some l) (h4 : ownB l = some n)
    (h5 : ∃ b, (i, b) ∈ us) (h6 : ∀ b, (i, b) ∈ us → owns b = false) : ∀ o, ¬ MuOf ρ (upds mem us) n o := by
  rintro o ⟨j, bj, lj, k1, k2, k3⟩
  obtain ⟨k4, k5⟩ := blkMu_own k3
  have hji : j = i := by
    rcases upds_get _ _ _ _ k1 with ⟨k6, _⟩ | k6
    · exact hm.owner k6 h1 k4 h2 k2 h3 k5 h4
    · obtain ⟨bj', lj', k7, k8, k9, _⟩ := h.old j bj k6
      rw [k2] at k8; injection k8 with k8; subst k8
      exact hm.owner k7 h1 (k9 k4) h2 k2 h3 k5 h4
  subst hji
  rcases upds_get _ _ _ _ k1 with ⟨_, k6⟩ | k6
  · obtain ⟨b, hb⟩ := h5; exact k6 b hb
  · rw [h6 bj k6] at k4; cases k4
theorem Post.upd {r : AV} {v : Value} {us : List (Nat × Blk)} {fresh : Nat} (hm : MemR w ρ mem) (Tb : Nat → Prop) (ht : Touch w w' (MuOf ρ mem) Tb) (hu : UpdOk ρ mem us)
    (hT : ∀ n, Tb n → ∃ i b bi l, (i, b) ∈ us ∧ mem[i]? = some bi ∧ owns bi = true ∧ ρ i = some l ∧ ownB l = some n)
    (hB : Evo w (MuOf ρ mem) w' (MuOf ρ (upds mem us)) → ∀ i b l, (i, b) ∈ us → ρ i = some l → b = .dead ∨ BR w' ρ (MuOf ρ (upds mem us)) l b)
    (hA : Evo w (MuOf ρ mem) w' (MuOf ρ (upds mem us)) → AR w' ρ (MuOf ρ (upds mem us)) r v) : Post w ρ mem fresh { r, upd := us } v w' ρ := by
  refine ⟨Locs.le_refl _, fun _ _ => rfl, fun mem' hl => ?_⟩
  obtain rfl : mem' = upds mem us := hl.none
  have := hm.next (w' := w') (mem' := upds mem us) (Locs.le_refl ρ) Tb (fun i => ∃ b, (i, b) ∈ us) ht
    (fun i hi => ⟨upds_out _ _ _ fun b hb => hi ⟨b, hb⟩, rfl⟩)
    (fun i b l n hi h1 h2 h3 h4 hn => by
      obtain ⟨j, bj, bj', lj, k1, k2, k3, k4, k5⟩ := hT n hn
      have := hm.owner h1 k2 h2 k3 h3 k4 h4 k5
      subst this; exact hi ⟨_, k1⟩)
    (fun i b l c o _ h1 h2 h3 _ => hu.mu ⟨i, b, l, h1, h2, h3⟩)
    (fun i b l n hU h1 h2 h3 h4 => by
      rcases upds_get _ _ _ _ h1 with ⟨_, h5⟩ | h5
      · obtain ⟨b', hb'⟩ := hU; exact absurd hb' (h5 b')
      · obtain ⟨bi, li, k1, k2, k3, _⟩ := hu.old i b h5
        rw [h3] at k2; injection k2 with k2; subst k2
        exact .inr ⟨i, bi, l, ⟨b, h5⟩, k1, k3 h2, h3, h4⟩)
    (fun i j bi bj li lj n _ _ h1 h2 h3 h4 h5 h6 h7 h8 => by
      have key : ∀ k bk lk, (upds mem us)[k]? = some bk → owns bk = true → ρ k = some lk → ∃ b', mem[k]? = some b' ∧ owns b' = true := fun k bk lk e1 e2 e3 => by
        rcases upds_get _ _ _ _ e1 with ⟨e4, _⟩ | e4
        · exact ⟨bk, e4, e2⟩
        · obtain ⟨b', l', e5, _, e7, _⟩ := hu.old k bk e4
          exact ⟨b', e5, e7 e2⟩
      obtain ⟨b1, p1, p2⟩ := key i bi li h1 h3 h5
      obtain ⟨b2, q1, q2⟩ := key j bj lj h2 h4 h6
      exact hm.owner p1 q1 p2 q2 h5 h6 h7 h8)
    (fun i _ hi => hm.fresh i (by rwa [upds_length] at hi))
    (fun he i b hU hi => by
      rcases upds_get _ _ _ _ hi with ⟨_, h5⟩ | h5
      · obtain ⟨b', hb'⟩ := hU; exact absurd hb' (h5 b')
      · obtain ⟨bi, li, k1, k2, k3, _⟩ := hu.old i b h5
        exact (hB he i b li h5 k2).imp id fun h => ⟨li, k2, h⟩)
  exact ⟨this.1, this.2, hA this.1⟩
end

/-! ### Reading for ever -/
theorem RowsR.dr {w : World} {M : Mut} {sz : Nat} {rows : List (List D)} {a : Option Addr} {n cap : Nat} (hn : n = rows.length) (hcap : n ≤ cap)
    (h : rows = [] ∨ ∃ b o, a = some (at_ b o) ∧ RowsR w M sz rows.length (fun i => rows.getD i []) b o) : DR w M (.sl sz rows) (.slice a n cap) := by
  subst hn
  rcases h with rfl | ⟨b, o, rfl, vs, h1, h2, h3, h4⟩
  · exact .sl0 ..
  · refine .sl sz rows _ cap b o vs rfl hcap (fun r hr => ?_) h2 h3 fun i k r x hr hx => ?_
    · obtain ⟨i, hi, rfl⟩ := List.getElem_of_mem hr
      have : (rows.getD i []).length = sz := h1 i hi
      rwa [List.getD_eq_getElem?_getD, List.getElem?_eq_getElem hi] at this
    · refine h4 i k x (List.getElem?_eq_some_iff.1 hr).1 ?_
      show (rows.getD i [])[k]? = some x
      rw [List.getD_eq_getElem?_getD, hr]; exact hx
theorem DR.of_cr {w : World} {ρ : Locs} {M : Mut} {x : D} {v : Value} (h : CR w ρ M (C.d x) v) : DR w M x v := h
/-- Cells that may still be written become cells that are only read. -/
theorem CellsAt.rows {w w' : World} {ρ : Locs} {M M' : Mut} {sz : Nat} {rows : List (List D)} {b o : Nat} (hz : ∀ r, r ∈ rows → r.length = sz) (h : CellsAt w (CR w ρ M) (rows.flatten.map C.d) b o)
    (he : Evo w M w' M') (hh : w'.heap[b]? = w.heap[b]?) (hm : ∀ o, NM M' b o) : RowsR w' M' sz rows.length (fun i => rows.getD i []) b o := by
  have len : rows.flatten.length = rows.length * sz := by
    clear h
    induction rows with
    | nil => simp
    | cons r rows ih =>
      have h1 := ih fun r hr => hz r (by simp [hr])
      have h2 := hz r (by simp)
      simp only [List.flatten_cons, List.length_append, h1, h2, List.length_cons, Nat.add_mul, Nat.one_mul]; omega
  have key : ∀ j, j < rows.length * sz → ∃ v, w.cell? (at_ b (o + j)) = some v ∧ ∀ x, rows.flatten[j]? = some x → DR w M x v := fun j hj => by
    obtain ⟨x, hx⟩ : ∃ x, rows.flatten[j]? = some x := ⟨_, List.getElem?_eq_getElem (by omega)⟩
    obtain ⟨v, h1, h2⟩ := h j (C.d x) (by rw [List.getElem?_map, hx]; rfl)
    exact ⟨v, h1, fun y hy => by rw [hx] at hy; injection hy with hy; subst hy; exact h2⟩
  let f : Nat → Value := fun j => if h : j < rows.length * sz then Classical.choose (key j h) else undef
  have hf : ∀ j (hj : j < rows.length * sz), w.cell? (at_ b (o + j)) = some (f j) ∧ ∀ x, rows.flatten[j]? = some x → DR w M x (f j) := fun j hj => by
    have := Classical.choose_spec (key j hj)
    simpa [f, hj] using this
  refine ⟨f, fun i hi => ?_, fun j hj => (cell_of_heap hh _ _).trans (hf j hj).1, fun j _ => hm _, fun i k x hi hx => ?_⟩
  · show (rows.getD i []).length = sz
    rw [List.getD_eq_getElem?_getD, List.getElem?_eq_getElem hi]
    exact hz _ (List.getElem_mem hi)
  · have hx : (rows.getD i [])[k]? = some x := hx
    rw [List.getD_eq_getElem?_getD, List.getElem?_eq_getElem hi] at hx
    have hg := flatten_get hz (List.getElem?_eq_getElem hi) hx
    have hlt := (List.getElem?_eq_some_iff.1 hg).1
    exact ((hf _ (by omega)).2 x hg).mono he
theorem toD_sound {w w' : World} {ρ : Locs} {mem : Mem} {M' : Mut} (hm : MemR w ρ mem) {c : C} {v : Value} (hc : CR w ρ (MuOf ρ mem) c v) {x : D} {us : List (Nat × Blk)} (h : c.toD (fun i => mem[i]?) = some (x, us))
    (he : Evo w (MuOf ρ mem) w' M') (hs : ∀ i b l n, (i, b) ∈ us → ρ i = some l → ownB l = some n → w'.heap[n]? = w.heap[n]? ∧ ∀ o, ¬ M' n o) : DR w' M' x v := by
  unfold C.toD at h
  split at h
  · injection h with h; injection h with h1 h2; subst h1
    exact DR.mono he hc
  · rename_i id
    obtain ⟨l, h1, rfl⟩ := hc
    split at h
    · rename_i sz rows hb
      injection h with h; injection h with h3 h4; subst h3
      obtain ⟨l', k1, k2, k3, k4⟩ := hm.get hb (by simp)
      rw [h1] at k1; injection k1 with k1; subst k1
      exact RowsR.dr k3 l.le (k4.imp And.left fun ⟨b, o, p, q, _⟩ => ⟨b, o, p, q.mono he⟩)
    · rename_i sz rows hb
      injection h with h; injection h with h3 h4; subst h3
      obtain ⟨l', k1, k2, k3, k4⟩ := hm.get hb (by simp)
      rw [h1] at k1; injection k1 with k1; subst k1
      exact RowsR.dr k3 l.le (k4.imp (fun e => e) fun ⟨b, o, p, q⟩ => ⟨b, o, p, q.mono he⟩)
    · cases h
  · rename_i id
    obtain ⟨l, h1, rfl⟩ := hc
    split at h
    · rename_i sz rows hb
      injection h with h; injection h with h3 h4; subst h3; subst h4
      obtain ⟨l', k1, k2, k3, kz, k4⟩ := hm.get hb (by simp)
      rw [h1] at k1; injection k1 with k1; subst k1
      refine RowsR.dr k3 l.le (k4.imp And.left fun ⟨b, o, p, q, _⟩ => ?_)
      obtain ⟨e1, e2⟩ := hs id _ l b (List.mem_singleton.2 rfl) h1 (ownB_at p)
      exact ⟨b, o, p, q.rows kz he e1 fun o' => ⟨e2 o', hm.fap _ _ _ _ hb rfl h1 (ownB_at p) o'⟩⟩
    · rename_i sz rows hb
      injection h with h; injection h with h3 h4; subst h3
      obtain ⟨l', k1, k2, k3, k4⟩ := hm.get hb (by simp)
      rw [h1] at k1; injection k1 with k1; subst k1
      exact RowsR.dr k3 l.le (k4.imp (fun e => e) fun ⟨b, o, p, q⟩ => ⟨b, o, p, q.mono he⟩)
    · cases h
  · cases h
theorem allD_sound {w w' : World} {ρ : Locs} {mem : Mem} {M' : Mut} (hm : MemR w ρ mem) {cs : List C} {vs : List Value} (hc : All2 (CR w ρ (MuOf ρ mem)) cs vs) {ds : List D} {us : List (Nat × Blk)} (h : allD mem cs = some (ds, us))
    (he : Evo w (MuOf ρ mem) w' M') (hs : ∀ i b l n, (i, b) ∈ us → ρ i = some l → ownB l = some n → w'.heap[n]? = w.heap[n]? ∧ ∀ o, ¬ M' n o) : All2 (DR w' M') ds vs := by
  induction hc generalizing ds us with
  | nil => simp [allD] at h; obtain ⟨rfl, rfl⟩ := h; exact .nil
  | cons h1 _ ih =>
    simp only [allD] at h
    split at h
    · rename_i x u xs us' e1 e2
      injection h with h; injection h with h3 h4; subst h3; subst h4
      exact .cons (toD_sound hm h1 e1 he fun i b l n hi => hs i b l n (by simp [hi])) (ih e2 fun i b l n hi => hs i b l n (by simp [hi]))
    · cases h
/-- The seals: each of a block that may be written and bears data alone. -/
theorem allD_seals {mem : Mem} {cs : List C} {ds : List D} {us : List (Nat × Blk)} (h : allD mem cs = some (ds, us)) : ∀ i b, (i, b) ∈ us → ∃ sz rows ty, mem[i]? = some (.arrD sz rows ty) ∧ b = .froz sz rows := by
  induction cs generalizing ds us with
  | nil => simp [allD] at h; obtain ⟨rfl, rfl⟩ := h; simp
  | cons c cs ih =>
    simp only [allD] at h
    split at h
    · rename_i x u xs us' e1 e2
      injection h with h; injection h with h3 h4; subst h4
      intro i b hi
      rcases List.mem_append.1 hi with hi | hi
      · unfold C.toD at e1
        split at e1
        · injection e1 with e1; injection e1 with _ e1; subst e1; cases hi
        · split at e1 <;> first | (injection e1 with e1; injection e1 with _ e1; subst e1; cases hi) | cases e1
        · split at e1
          · rename_i sz rows ty hb
            injection e1 with e1; injection e1 with _ e1; subst e1
            obtain ⟨rfl, rfl⟩ := by simpa using hi
            exact ⟨sz, rows, ty, hb, rfl⟩
          · injection e1 with e1; injection e1 with _ e1; subst e1; cases hi
          · cases e1
        · cases e1
      · exact ih e2 i b hi
    · cases h
end Go.Sx

/- A plain interpreter of the model's code over values without addresses: stores. -/
namespace Go.Sx
variable [Fr]

theorem solid_one {w : World} {ρ : Locs} {M : Mut} {c : C} {v : Value} (hs : c.solid = true) (h : CR w ρ M c v) : v.oneCell' = true := by
  cases c with
  | s x =>
    cases x with
    | any => simp [C.solid] at hs
    | d x =>
      change DR w M x v at h
      cases h with
      | c v => cases v <;> simp_all [C.solid, isCellV, Value.oneCell']
      | _ => rfl
    | ptr => obtain ⟨_, _, _, _, _, rfl⟩ := h; rfl
    | eptr => obtain ⟨_, _, _, _, _, rfl⟩ := h; rfl
    | rptr => obtain ⟨_, _, rfl, _⟩ := h; rfl
    | gs => obtain ⟨_, _, rfl⟩ := h; rfl
    | as => obtain ⟨_, _, rfl⟩ := h; rfl
    | ms => obtain ⟨_, _, _, _, _, _, _, rfl, _⟩ := h; rfl
    | map => obtain ⟨_, _, _, _, rfl⟩ := h; rfl
    | it => obtain ⟨_, _, _, _, rfl⟩ := h; rfl
  | f fn a b => obtain ⟨_, _, rfl, _⟩ := h; rfl
  | ifc t x => obtain ⟨_, rfl, _⟩ := h; rfl
theorem one_cells {v : Value} (h : v.oneCell' = true) : v.cells = #[v] := by cases v <;> simp_all [Value.oneCell', Value.cells]
/-- The cells of a value that can be laid into memory. -/
theorem cells_sound {w : World} {ρ : Locs} {M : Mut} {a : AV} {v : Value} (h : AR w ρ M a v) {cs : List C} (hc : a.cells = some cs) (hs : solid cs = true) :
    All2 (CR w ρ M) cs v.cells.toList ∧ ∀ x, x ∈ v.cells.toList → x.oneCell' = true := by
  have key : All2 (CR w ρ M) cs v.cells.toList := by
    cases a with
    | c x =>
      simp only [AV.cells, Option.some.injEq] at hc; subst hc
      have h1 : v.oneCell' = true := solid_one (by simpa [solid] using hs) h
      rw [one_cells h1]
      exact .cons h .nil
    | agg l =>
      simp only [AV.cells, Option.some.injEq] at hc; subst hc
      obtain ⟨a, rfl, h2⟩ := h
      exact h2
    | tup => cases hc
  refine ⟨key, fun x hx => ?_⟩
  obtain ⟨i, hi⟩ := List.getElem?_of_mem hx
  have hl := All2.length key
  have hlt := (List.getElem?_eq_some_iff.1 hi).1
  obtain ⟨c, hcc⟩ : ∃ c, cs[i]? = some c := ⟨_, List.getElem?_eq_getElem (by omega)⟩
  obtain ⟨y, h1, h2⟩ := All2.get key i hcc
  rw [hi] at h1; injection h1 with h1; subst h1
  exact solid_one (List.all_eq_true.1 hs c (List.mem_of_getElem? hcc)) h2
theorem sized_sound {w : World} {ρ : Locs} {M : Mut} {a : AV} {v : Value} (h : AR w ρ M a v) {n : Nat} {cs : List C} (hc : sizedCells a n = some cs) :
    cs.length = n ∧ All2 (CR w ρ M) cs v.cells.toList ∧ ∀ x, x ∈ v.cells.toList → x.oneCell' = true := by
  unfold sizedCells at hc
  split at hc
  · rename_i l hl
    split at hc
    · rename_i hh
      injection hc with hc; subst hc
      simp only [Bool.and_eq_true, decide_eq_true_eq] at hh
      exact ⟨hh.1, cells_sound h hl hh.2⟩
    · cases hc
  · cases hc

/-- Cells written into a row. -/
def patch (arr : Array Value) (p : Nat) (vs : List Value) : Array Value := (arr.toList.take p ++ vs ++ arr.toList.drop (p + vs.length)).toArray
theorem patch_toList (arr : Array Value) (p : Nat) (vs : List Value) : (patch arr p vs).toList = arr.toList.take p ++ vs ++ arr.toList.drop (p + vs.length) := by simp [patch]
theorem patch_size {arr : Array Value} {p : Nat} {vs : List Value} (h : p + vs.length ≤ arr.size) : (patch arr p vs).size = arr.size := by
  simp [patch]; omega
theorem patch_get {arr : Array Value} {p : Nat} {vs : List Value} (h : p + vs.length ≤ arr.size) (j : Nat) :
    (patch arr p vs)[j]? = if p ≤ j ∧ j < p + vs.length then vs[j - p]? else arr[j]? := by
  have h0 : (patch arr p vs)[j]? = (arr.toList.take p ++ vs ++ arr.toList.drop (p + vs.length))[j]? := by simp [patch]
  rw [h0]
  have hl : (arr.toList.take p).length = p := by simp; omega
  by_cases h1 : j < p
  · rw [if_neg (by omega), List.append_assoc, List.getElem?_append_left (by omega), List.getElem?_take_of_lt h1]; simp
  · by_cases h2 : j < p + vs.length
    · rw [if_pos (by omega), List.append_assoc, List.getElem?_append_right (by omega), List.getElem?_append_left (by omega), hl]
    · rw [if_neg (by omega), List.getElem?_append_right (by simp; omega), List.getElem?_drop]
      simp only [List.length_append, hl, Array.getElem?_toList]
      congr 1; omega
theorem storeVar_run {P : Program} {w : World} {t : TypeId} {i : TI} (hi : TIok P t i) {v : Value} (hn : v.cells.size = i.size) (h1 : ∀ x, x ∈ v.cells.toList → x.oneCell' = true)
    {b o : Nat} {arr : Array Value} {el : TypeId} (hb : w.heap[b]? = some (.cells arr el (0, 0))) (hle : o + i.size ≤ arr.size) :
    (Instr.storeAt t (.pointer (some (at_ b o))) v).run P w = .ok () (w.setRow b (patch arr o v.cells.toList)) := by
  have := run_storeCells_at P b o el v.cells.toList 0 arr w hb (by simp; omega) h1
  simp only [Instr.storeAt, Instr.sureAddr, storeVar, pure_bind, Sem.run_bind, hi.run_sizeOf, Result.andThen_ok, hn]
  simp only [ne_eq, not_true, if_false, at_]
  rw [this]; simp [patch]
theorem setRow_cell {w : World} {b : Nat} {arr new : Array Value} {el : TypeId} {fz : Nat × Nat} (h : w.heap[b]? = some (.cells arr el fz)) (j : Nat) : (w.setRow b new).cell? (at_ b j) = new[j]? := by
  simp [World.cell?, at_, setRow_heap w b arr new el fz h]
theorem touch_setRow {w : World} {b : Nat} (new : Array Value) {Mu : Mut} (h : ∀ o, Mu b o) : Touch w (w.setRow b new) Mu (fun n => n = b) where
  tape := rfl
  os := rfl
  output := rfl
  size := by simp
  rest n _ hn := setRow_other w b n new hn
  cell n o s _ hn hm := absurd (h o) (hn ▸ hm)
  some n hn := ⟨0, hn ▸ h 0⟩
theorem writePart_some {cs new cs' : List C} {off : Nat} (h : writePart cs new off = some cs') : off + new.length ≤ cs.length ∧ cs' = cs.take off ++ new ++ cs.drop (off + new.length) := by
  unfold writePart at h
  split at h
  · injection h with h; exact ⟨‹_›, h.symm⟩
  · cases h
theorem writeD_some {cs new cs' : List D} {off : Nat} (h : writeD cs new off = some cs') : off + new.length ≤ cs.length ∧ cs' = cs.take off ++ new ++ cs.drop (off + new.length) := by
  unfold writeD at h
  split at h
  · injection h with h; exact ⟨‹_›, h.symm⟩
  · cases h
theorem flatten_set {α : Type} {rows : List (List α)} {sz : Nat} (hz : ∀ r, r ∈ rows → r.length = sz) {row off : Nat} {cs new : List α} (h : rows[row]? = some cs) (hle : off + new.length ≤ cs.length) :
    (rows.set row (cs.take off ++ new ++ cs.drop (off + new.length))).flatten = rows.flatten.take (row * sz + off) ++ new ++ rows.flatten.drop (row * sz + off + new.length) := by
  induction rows generalizing row with
  | nil => simp at h
  | cons r rows ih =>
    have hr := hz r (by simp)
    cases row with
    | zero =>
      simp at h; subst h
      simp only [List.set_cons_zero, List.flatten_cons, Nat.zero_mul, Nat.zero_add]
      rw [List.take_append_of_le_length (by omega), List.drop_append_of_le_length (by omega)]
      simp
    | succ row =>
      have := ih (fun r hr => hz r (by simp [hr])) (row := row) (by simpa using h)
      simp only [List.set_cons_succ, List.flatten_cons, this]
      have e : (row + 1) * sz + off = r.length + (row * sz + off) := by rw [hr, Nat.add_mul, Nat.one_mul]; omega
      rw [e, Nat.add_assoc r.length, List.take_length_add_append, List.drop_length_add_append]
      simp
theorem CellsAt.patch {w : World} {R R' : C → Value → Prop} {cs new : List C} {vs : List Value} {b o p : Nat} {arr : Array Value} {el : TypeId} {fz : Nat × Nat} (h : CellsAt w R cs b o)
    (hb : w.heap[b]? = some (.cells arr el fz)) (hp : p + new.length ≤ cs.length) (ho : o + p + vs.length ≤ arr.size) (hR : ∀ x v, R x v → R' x v) (hn : All2 R' new vs) :
    CellsAt (w.setRow b (patch arr (o + p) vs)) R' (cs.take p ++ new ++ cs.drop (p + new.length)) b o := by
  have hl := hn.length
  intro j x hj
  rw [setRow_cell hb, patch_get ho]
  by_cases h1 : j < p
  · rw [if_neg (by omega)]
    rw [List.append_assoc, List.getElem?_append_left (by simp; omega), List.getElem?_take_of_lt h1] at hj
    obtain ⟨v, h2, h3⟩ := h j x hj
    exact ⟨v, by simpa [World.cell?, at_, hb] using h2, hR _ _ h3⟩
  · by_cases h2 : j < p + new.length
    · rw [if_pos (by omega)]
      rw [List.append_assoc, List.getElem?_append_right (by simp; omega), List.getElem?_append_left (by simp; omega)] at hj
      obtain ⟨v, h3, h4⟩ := hn.get _ hj
      refine ⟨v, ?_, h4⟩
      rw [← h3]; congr 1; simp; omega
    · rw [if_neg (by omega)]
      rw [List.getElem?_append_right (by simp; omega), List.getElem?_drop] at hj
      obtain ⟨v, h3, h4⟩ := h j x (by rw [← hj]; congr 1; simp; omega)
      exact ⟨v, by simpa [World.cell?, at_, hb] using h3, hR _ _ h4⟩
theorem MuOf.of {ρ : Locs} {mem : Mem} {i : Nat} {blk : Blk} {l : Loc} {b : Nat} (h1 : mem[i]? = some blk) (h2 : ρ i = some l) (h3 : ∀ o, blkMu l blk b o) (o : Nat) : MuOf ρ mem b o := ⟨i, blk, l, h1, h2, h3 o⟩

theorem flatten_length {α : Type} {rows : List (List α)} {sz : Nat} (hz : ∀ r, r ∈ rows → r.length = sz) : rows.flatten.length = rows.length * sz := by
  induction rows with
  | nil => simp
  | cons r rows ih =>
    have h1 := ih fun r hr => hz r (by simp [hr])
    simp only [List.flatten_cons, List.length_append, h1, hz r (by simp), List.length_cons, Nat.add_mul, Nat.one_mul]; omega
theorem row_le {α : Type} {rows : List (List α)} {sz : Nat} (hz : ∀ r, r ∈ rows → r.length = sz) {row off n : Nat} {cs : List α} (h : rows[row]? = some cs) (hle : off + n ≤ cs.length) : row * sz + off + n ≤ rows.length * sz := by
  have hrow : row < rows.length := (List.getElem?_eq_some_iff.1 h).1
  have hcl := hz cs (List.mem_of_getElem? h)
  have := Nat.mul_le_mul_right sz (show row + 1 ≤ rows.length by omega)
  rw [Nat.add_mul, Nat.one_mul] at this; omega
theorem set_len {α : Type} {rows : List (List α)} {sz : Nat} (hz : ∀ r, r ∈ rows → r.length = sz) {row off : Nat} {cs new : List α} (h : rows[row]? = some cs) (hle : off + new.length ≤ cs.length) :
    ∀ r, r ∈ rows.set row (cs.take off ++ new ++ cs.drop (off + new.length)) → r.length = sz := by
  intro r hr
  rcases List.mem_or_eq_of_mem_set hr with hr | rfl
  · exact hz r hr
  · have := hz cs (List.mem_of_getElem? h)
    simp; omega
theorem storeA_sound {P : Program} {w : World} {ρ : Locs} {mem : Mem} {fresh : Nat} (hm : MemR w ρ mem) {t : TypeId} {i : TI} (hi : TIok P t i) {a x : AV} {va vx : Value} (ha : AR w ρ (MuOf ρ mem) a va) (hx : AR w ρ (MuOf ρ mem) x vx)
    {us : List (Nat × Blk)} (h : storeA i a x mem = some us) : ∃ w', (Instr.storeAt t va vx).run P w = .ok () w' ∧ Post w ρ mem fresh { r := .undef, upd := us } undef w' ρ := by
  unfold storeA at h
  split at h
  · cases h
  rename_i new hnew
  obtain ⟨hn1, hn2, hn3⟩ := sized_sound hx hnew
  have hn4 : vx.cells.size = i.size := by have := hn2.length; simp at this; omega
  have hund : ∀ {w' : World} {M' : Mut}, AR w' ρ M' .undef undef := ⟨#[], rfl, .nil⟩
  split at h
  · rename_i id off
    obtain ⟨l, b, o, h1, h2, rfl⟩ := ha
    split at h
    · rename_i cs ty hc
      rw [Option.map_eq_some_iff] at h
      obtain ⟨cs', hw, rfl⟩ := h
      obtain ⟨hle, rfl⟩ := writePart_some hw
      obtain ⟨l', k1, b', arr, el, k2, k3, k0, k4⟩ := hm.get hc (by simp)
      rw [h1] at k1; injection k1 with k1; subst k1
      rw [h2] at k2; injection k2 with k2
      obtain ⟨rfl, rfl⟩ : b = b' ∧ o = 0 := by simpa [at_] using k2
      have hlen := k4.length
      simp at hlen
      simp only [Nat.zero_add]
      have hmu : ∀ o, MuOf ρ mem b o := MuOf.of hc h1 fun o => ⟨b, 0, h2, rfl⟩
      refine ⟨_, storeVar_run hi hn4 hn3 k3 (by omega), Post.upd hm (fun n => n = b) (touch_setRow _ hmu) ⟨?_⟩ ?_ ?_ fun _ => hund⟩
      · rintro j bj hj
        obtain ⟨rfl, rfl⟩ := Prod.mk.inj (List.mem_singleton.1 hj)
        exact ⟨_, l, hc, h1, fun _ => rfl, fun c o h => h⟩
      · rintro n rfl
        exact ⟨id, _, _, l, List.mem_singleton.2 rfl, hc, rfl, h1, ownB_at h2⟩
      · rintro he j bj lj hj hlj
        obtain ⟨rfl, rfl⟩ := Prod.mk.inj (List.mem_singleton.1 hj)
        rw [h1] at hlj; injection hlj with hlj; subst hlj
        refine .inr ⟨b, _, el, h2, setRow_heap w b arr _ el _ k3, k0, ?_⟩
        have e1 := (k4.take off).mono fun _ _ _ => CR.mono he (Locs.le_refl ρ)
        have e2 := hn2.mono fun _ _ _ => CR.mono he (Locs.le_refl ρ)
        have e3 := (k4.drop (off + new.length)).mono fun _ _ _ => CR.mono he (Locs.le_refl ρ)
        have e4 : new.length = vx.cells.toList.length := hn2.length
        rw [patch_toList, ← e4]
        exact (e1.append e2).append e3
    · cases h
  · rename_i id row off
    obtain ⟨l, b, o, h1, h2, rfl⟩ := ha
    split at h
    · rename_i sz rows hc
      split at h
      · rename_i cs hcs
        rw [Option.map_eq_some_iff] at h
        obtain ⟨cs', hw, rfl⟩ := h
        obtain ⟨hle, rfl⟩ := writePart_some hw
        obtain ⟨l', k1, k2, k3, kz, k4⟩ := hm.get hc (by simp)
        rw [h1] at k1; injection k1 with k1; subst k1
        rcases k4 with ⟨rfl, _⟩ | ⟨b', o', k5, k6, arr, el, k7, k8, k9⟩
        · simp at hcs
        rw [h2] at k5; injection k5 with k5
        obtain ⟨rfl, rfl⟩ : b = b' ∧ o = o' := by simpa [at_] using k5
        have hpos := row_le kz hcs hle
        have hfl := flatten_length kz
        have hmu : ∀ o, MuOf ρ mem b o := MuOf.of hc h1 fun o' => ⟨b, o, h2, rfl⟩
        have hl := hn2.length
        rw [k2]
        refine ⟨_, storeVar_run hi hn4 hn3 k7 (by omega), Post.upd hm (fun n => n = b) (touch_setRow _ hmu) ⟨?_⟩ ?_ ?_ fun _ => hund⟩
        · rintro j bj hj
          obtain ⟨rfl, rfl⟩ := Prod.mk.inj (List.mem_singleton.1 hj)
          exact ⟨_, l, hc, h1, fun _ => rfl, fun c o h => h⟩
        · rintro n rfl
          exact ⟨id, _, _, l, List.mem_singleton.2 rfl, hc, rfl, h1, ownB_at h2⟩
        · rintro he j bj lj hj hlj
          obtain ⟨rfl, rfl⟩ := Prod.mk.inj (List.mem_singleton.1 hj)
          rw [h1] at hlj; injection hlj with hlj; subst hlj
          refine .inr ⟨k2, by simpa using k3, set_len kz hcs hle, .inr ⟨b, o, h2, ?_, ?_⟩⟩
          · rw [flatten_set kz hcs hle]
            have := k6.patch (R' := CR (w.setRow b (patch arr (o + (row * sz + off)) vx.cells.toList)) ρ (MuOf ρ (upds mem [(j, .arr sz (rows.set row (cs.take off ++ new ++ cs.drop (off + new.length))))]))) (p := row * sz + off) (new := new) (vs := vx.cells.toList) k7 (by omega) (by omega) (fun _ _ => CR.mono he (Locs.le_refl ρ)) (hn2.mono fun _ _ _ => CR.mono he (Locs.le_refl ρ))
            exact this
          · exact ⟨_, el, setRow_heap w b arr _ el _ k7, by simpa using k8, by rw [patch_size (by omega)]; exact k9⟩
      · cases h
    · rename_i sz rows ty hc
      split at h
      · rename_i cs ds us' hcs hds
        split at h
        · rename_i hne
          rw [Option.map_eq_some_iff] at h
          obtain ⟨cs', hw, rfl⟩ := h
          obtain ⟨hle, rfl⟩ := writeD_some hw
          obtain ⟨l', k1, ⟨k2, k0⟩, k3, kz, k4⟩ := hm.get hc (by simp)
          rw [h1] at k1; injection k1 with k1; subst k1
          rcases k4 with ⟨rfl, _⟩ | ⟨b', o', k5, k6, arr, el, k7, k8, k9⟩
          · simp at hcs
          rw [h2] at k5; injection k5 with k5
          obtain ⟨rfl, rfl⟩ : b = b' ∧ o = o' := by simpa [at_] using k5
          have hpos := row_le kz hcs hle
          have hfl := flatten_length kz
          have hmu : ∀ o, MuOf ρ mem b o := MuOf.of hc h1 fun o' => ⟨b, o, h2, rfl⟩
          have hl := hn2.length
          have hsl := allD_seals hds
          have hdl : ds.length = new.length := by
            clear hn2 hl hw hle hpos hn1 hnew hsl hne
            induction new generalizing ds us' with
            | nil => simp [allD] at hds; simp [hds.1.symm]
            | cons c cs ih =>
              simp only [allD] at hds
              split at hds
              · rename_i x u xs us'' e1 e2
                injection hds with hds; injection hds with h3 h4; subst h3
                simp [ih _ _ e2]
              · cases hds
          have hid : ∀ j bj, (j, bj) ∈ us' → j ≠ id := fun j bj hj => by
            have := List.all_eq_true.1 hne (j, bj) hj
            simpa using this
          have hU : UpdOk ρ mem (us' ++ [(id, .arrD sz (rows.set row (cs.take off ++ ds ++ cs.drop (off + ds.length))))]) := ⟨by
            rintro j bj hj
            rcases List.mem_append.1 hj with hj | hj
            · obtain ⟨sz', rows', _, e1, rfl⟩ := hsl j bj hj
              obtain ⟨l', e2, _⟩ := hm.get e1 (by simp)
              exact ⟨_, l', e1, e2, fun h => (Bool.noConfusion h), fun c o h => False.elim h⟩
            · obtain ⟨rfl, rfl⟩ := Prod.mk.inj (List.mem_singleton.1 hj)
              exact ⟨_, l, hc, h1, fun _ => rfl, fun c o h => h⟩⟩
          rw [k2]
          have hseal : ∀ j bj lj n, (j, bj) ∈ us' → ρ j = some lj → ownB lj = some n → (w.setRow b (patch arr (o + (row * sz + off)) vx.cells.toList)).heap[n]? = w.heap[n]? ∧ ∀ o', ¬ MuOf ρ (upds mem (us' ++ [(id, .arrD sz (rows.set row (cs.take off ++ ds ++ cs.drop (off + ds.length))))])) n o' := fun j bj lj n hj e1 e2 => by
            obtain ⟨sz', rows', _, e3, rfl⟩ := hsl j bj hj
            have hne : n ≠ b := by
              rintro rfl
              exact hid j _ hj (hm.owner e3 hc rfl rfl e1 h1 e2 (ownB_at h2))
            refine ⟨setRow_other w b n _ hne, hU.sealed hm e3 rfl e1 e2 ⟨_, List.mem_append.2 (.inl hj)⟩ fun b' hb' => ?_⟩
            rcases List.mem_append.1 hb' with hb' | hb'
            · obtain ⟨_, _, _, _, rfl⟩ := hsl j b' hb'; rfl
            · obtain ⟨e4, _⟩ := Prod.mk.inj (List.mem_singleton.1 hb')
              exact absurd e4 (hid j _ hj)
          refine ⟨_, storeVar_run hi hn4 hn3 k7 (by omega), Post.upd hm (fun n => n = b) (touch_setRow _ hmu) hU ?_ ?_ fun _ => hund⟩
          · rintro n rfl
            exact ⟨id, _, _, l, List.mem_append.2 (.inr (List.mem_singleton.2 rfl)), hc, rfl, h1, ownB_at h2⟩
          · rintro he j bj lj hj hlj
            rcases List.mem_append.1 hj with hj | hj
            · obtain ⟨sz', rows', _, e3, rfl⟩ := hsl j bj hj
              obtain ⟨l', e4, e5, e6, e7, e8⟩ := hm.get e3 (by simp)
              rw [hlj] at e4; injection e4 with e4; subst e4
              refine .inr ⟨e5.1, e6, e8.imp And.left fun ⟨b'', o'', p, q, _⟩ => ?_⟩
              obtain ⟨f1, f2⟩ := hseal j _ lj b'' hj hlj (ownB_at p)
              exact ⟨b'', o'', p, q.rows e7 he f1 fun o' => ⟨f2 o', hm.fap _ _ _ _ e3 rfl hlj (ownB_at p) o'⟩⟩
            · obtain ⟨rfl, rfl⟩ := Prod.mk.inj (List.mem_singleton.1 hj)
              rw [h1] at hlj; injection hlj with hlj; subst hlj
              refine .inr ⟨⟨k2, fun t ht => by cases ht⟩, by simpa using k3, set_len kz hcs hle, .inr ⟨b, o, h2, ?_, ?_⟩⟩
              · rw [flatten_set kz hcs hle]
                have hds' := allD_sound hm hn2 hds he hseal
                generalize MuOf ρ (upds mem (us' ++ [(j, Blk.arrD sz (rows.set row (cs.take off ++ ds ++ cs.drop (off + ds.length))))])) = M' at hds' he ⊢
                have hd2 : All2 (CR (w.setRow b (patch arr (o + (row * sz + off)) vx.cells.toList)) ρ M') (ds.map C.d) vx.cells.toList := All2.map hds'
                have := k6.patch (p := row * sz + off) (vs := vx.cells.toList) k7 (by rw [List.length_map, List.length_map]; omega) (by omega) (fun _ _ => CR.mono he (Locs.le_refl ρ)) hd2
                simpa using this
              · exact ⟨_, el, setRow_heap w b arr _ el _ k7, by simpa using k8, by rw [patch_size (by omega)]; exact k9⟩
        · cases h
      · cases h
    · cases h
  · cases h
theorem need_some {α : Type} {o : Option α} {a : α} (h : (T.need o).run = some a) : o = some a := by
  cases o with
  | none => cases h
  | some b => exact h
theorem storeT_some {w : World} {ρ : Locs} {mem : Mem} (hm : MemR w ρ mem) {i : TI} {a x : AV} {us : List (Nat × Blk)} (h : (storeT i a x mem).run = some us) : storeA i a x mem = some us := by
  unfold storeT at h
  split at h
  · rename_i id row
    split at h
    · rename_i sz rows ty new hb hnew
      split at h
      · rename_i ds us' hds
        split at h
        · rename_i hc
          obtain ⟨hsz, hne⟩ := hc
          obtain ⟨h1, h2⟩ := guard_some h
          injection h2 with h2; subst h2
          rw [decide_eq_true_eq] at h1
          obtain ⟨l', k1, k2, k3, kz, k4⟩ := hm.get hb (by simp)
          have hcs : rows[row]? = some rows[row] := List.getElem?_eq_getElem h1
          have hlen : rows[row].length = sz := kz _ (List.getElem_mem h1)
          have hnl : new.length = i.size := by
            unfold sizedCells at hnew
            split at hnew
            · split at hnew
              · rename_i hc2
                injection hnew with hnew; subst hnew
                simp only [Bool.and_eq_true, decide_eq_true_eq] at hc2
                exact hc2.1
              · cases hnew
            · cases hnew
          have hdl : ds.length = new.length := by
            clear hnew hne hnl h
            induction new generalizing ds us' with
            | nil => simp [allD] at hds; simp [hds.1.symm]
            | cons c cs ih =>
              simp only [allD] at hds
              split at hds
              · rename_i x u xs us'' e1 e2
                injection hds with hds; injection hds with h3 h4; subst h3
                simp [ih _ _ e2]
              · cases hds
          unfold storeA
          simp only [hnew, hb, hcs, hds, hne, if_true, writeD]
          rw [if_pos (by omega)]
          simp only [Option.map_some, List.take_zero, List.nil_append, Nat.zero_add]
          rw [List.drop_of_length_le (by omega), List.append_nil]
        · cases h
      · cases h
    · exact need_some h
  · exact need_some h
end Go.Sx

/- A plain interpreter of the model's code over values without addresses: operations that leave memory alone. -/
namespace Go.Sx
variable [Fr]
variable {P : Program} {X : Ctx} {w : World} {ρ : Locs} {M : Mut}

theorem intOf_some {a : AV} {k : IntKind} {n : Int} (h : intOf a = some (k, n)) {v : Value} (hv : AR w ρ M a v) : v = .int k n := by
  unfold intOf at h
  split at h
  · injection h with h; injection h with h1 h2; subst h1; subst h2; cases hv; rfl
  · cases h
theorem boolOf_some {a : AV} {b : Bool} (h : boolOf a = some b) {v : Value} (hv : AR w ρ M a v) : v = .bool b := by
  unfold boolOf at h
  split at h
  · injection h with h; subst h; cases hv; rfl
  · cases h
theorem strOf_some {a : AV} {s : ByteArray} (h : strOf a = some s) {v : Value} (hv : AR w ρ M a v) : v = .string s := by
  unfold strOf at h
  split at h
  · injection h with h; subst h; cases hv; rfl
  · cases h
theorem atomAV_some {a : AV} {x : Value} (h : atomAV a = some x) {v : Value} (hv : AR w ρ M a v) : v = x := by
  unfold atomAV at h
  split at h
  · injection h with h; subst h; cases hv; rfl
  · cases h
theorem atomOf_some {a : C} {x : Value} (h : atomOf a = some x) {v : Value} (hv : CR w ρ M a v) : v = x := by
  unfold atomOf at h
  split at h
  · injection h with h; subst h; cases hv; rfl
  · cases h

theorem strEq_iff (a b : ByteArray) : strEq a b = true ↔ a = b := by
  unfold strEq
  rw [beq_iff_eq]
  constructor
  · intro h
    cases a; cases b
    congr 1
    exact Array.toList_inj.1 h
  · rintro rfl; rfl
theorem strEq_list (a b : ByteArray) : strEq a b = (a.toList == b.toList) := by
  rw [Bool.eq_iff_iff, strEq_iff, ← beq_toListBytes, MapKept.bytes_beq]
theorem strEq_beq (a b : ByteArray) : strEq a b = (a == b) := by rw [strEq_list, beq_toListBytes]
theorem aInt_sound {op : BinOp} {k : IntKind} {a b : Int} {v : Value} (h : (aInt op k a b).run = some v) (t : TypeId) : (binOp op t (.int k a) (.int k b)).run P w = .ok v w := by
  cases op <;> simp only [aInt, T.run, Option.some.injEq, reduceCtorEq] at h <;> (try subst h) <;>
    first
    | (cases hb : (b == 0) <;> simp only [hb, cond_true, cond_false, reduceCtorEq, Option.some.injEq] at h
       have hb' : ¬ b = 0 := by simpa using hb
       subst h
       simp [binOp, Op.intDiv, hb'])
    | simp [binOp, Op.intArith, Op.intBits, Op.intCmp]
theorem aStr_sound {op : BinOp} {a b : ByteArray} {v : Value} (h : (aStr op a b).run = some v) (t : TypeId) : (binOp op t (.string a) (.string b)).run P w = .ok v w := by
  cases op <;> simp only [aStr, T.run, Option.some.injEq, reduceCtorEq] at h <;> (try subst h)
  case add =>
    obtain ⟨h1, h2⟩ := guard_some h
    simp only [T.run, Option.some.injEq] at h2; subst h2
    have h1 : a.size + b.size ≤ 9223372036854775807 := by simpa using h1
    have : ¬ (((a.size + b.size : Nat) : Int) > IntKind.i64.max) := by simp [IntKind.max, IntKind.signed, IntKind.bits]; omega
    simp only [binOp, Op.stringOp, if_neg this]; rfl
  all_goals simp [binOp, Op.stringOp, strEq_list]

/-! ### Equality -/
theorem eqAtom_bool {a b : Value} {p : Bool} (h : eqAtom a b = some p) : (p = true ↔ a = b) := by
  unfold eqAtom at h
  split at h
  · split at h
    · rename_i hk; subst hk; injection h with h; subst h; simp
    · cases h
  · injection h with h; subst h; simp
  · rename_i a b
    injection h with h; subst h
    rw [strEq_iff]; simp
  · cases h


/-! ### Flat types -/
/-- What 'part' gives of cells that are the cells of values. -/
theorem part_run {t : TypeId} {i : TI} (hi : TIok P t i) {cs : List C} {a : Array Value} (h : All2 (CR w ρ M) cs a.toList) {off : Nat} {r : AV} (hr : readPart i cs off = some r) :
    ∃ x, (part t a off).run P w = .ok x w ∧ AR w ρ M r x := by
  unfold readPart at hr
  unfold part
  simp only [Sem.run_bind, hi.run_isAgg, Result.andThen_ok]
  cases ha : i.agg with
  | true =>
    simp only [ha, if_true] at hr ⊢
    split at hr
    · injection hr with hr; subst hr
      rename_i hle
      refine ⟨.agg (a.extract off (off + i.size)), by simp [hi.run_sizeOf], ⟨_, rfl, ?_⟩⟩
      have := (h.drop off).take i.size
      simpa [Array.toList_extract] using this
    · cases hr
  | false =>
    simp only [ha, Bool.false_eq_true, if_false] at hr ⊢
    cases hc : cs[off]? with
    | none => simp [hc] at hr
    | some c =>
      simp [hc] at hr; subst hr
      obtain ⟨v, h1, h2⟩ := h.get off hc
      rw [Array.getElem?_toList] at h1
      exact ⟨v, by simp [h1], h2⟩

/-- A value of a type, by its cells. -/
def ValR (w : World) (ρ : Locs) (M : Mut) (agg : Bool) (cs : List C) (v : Value) : Prop :=
  if agg then AR w ρ M (.agg cs) v else ∃ c, cs = [c] ∧ CR w ρ M c v
theorem TIok.one {t : TypeId} {i : TI} (hi : TIok P t i) (ha : i.agg = false) : i.size = 1 := by
  obtain ⟨f, _, _, _, _, z, _, h3, h4⟩ := hi.info
  rw [ha] at h4
  simp only [Bool.false_eq_true, if_false] at h4
  rw [← hi.len, ← h3, h4]; rfl
theorem part_val {t : TypeId} {i : TI} (hi : TIok P t i) {cs : List C} {a : Array Value} (h : All2 (CR w ρ M) cs a.toList) {off : Nat} (hle : off + i.size ≤ cs.length) :
    ∃ x, (part t a off).run P w = .ok x w ∧ ValR w ρ M i.agg ((cs.drop off).take i.size) x := by
  cases ha : i.agg with
  | true =>
    obtain ⟨x, h1, h2⟩ := part_run (P := P) hi h (off := off) (r := .agg ((cs.drop off).take i.size)) (by simp [readPart, ha, hle])
    exact ⟨x, h1, by simpa [ValR] using h2⟩
  | false =>
    have h1 := hi.one ha
    obtain ⟨c, hc⟩ : ∃ c, cs[off]? = some c := ⟨_, List.getElem?_eq_getElem (by omega)⟩
    obtain ⟨x, h2, h3⟩ := part_run (P := P) hi h (off := off) (r := .c c) (by simp [readPart, ha, hc])
    refine ⟨x, h2, ?_⟩
    simp only [ValR, Bool.false_eq_true, if_false]
    refine ⟨c, ?_, h3⟩
    rw [h1]
    apply List.ext_getElem?
    intro j
    cases j with
    | zero => simp [List.getElem?_take, hc]
    | succ j => simp [List.getElem?_take]
theorem eqFs_sound (hok : Ok P X) {d : Nat} {go : TypeId → List C → List C → Option Bool}
    (hgo : ∀ t i cs ds p x y, X.ti t = some i → go t cs ds = some p → ValR w ρ M i.agg cs x → ValR w ρ M i.agg ds y → (Op.equalIn d t x y).run P w = .ok p w)
    {cs ds : List C} {a b : Array Value} (ha : All2 (CR w ρ M) cs a.toList) (hb : All2 (CR w ρ M) ds b.toList) (fs : List Field) {q : Bool} (h : eqFs X go cs ds fs = some q) : (Op.eqFields d a b fs).run P w = .ok q w := by
  induction fs generalizing q with
  | nil => simp only [eqFs, Option.some.injEq] at h; subst h; simp [Op.eqFields]
  | cons f fs ih =>
    simp only [eqFs] at h
    split at h
    · cases h
    rename_i hn
    split at h
    · rename_i j hj
      split at h
      · rename_i hle
        simp only [Bool.and_eq_true, decide_eq_true_eq] at hle
        split at h
        · rename_i p q' h1 h2
          injection h with h; subst h
          obtain ⟨x, e1, e2⟩ := part_val (hok.ti _ _ hj) ha hle.1
          obtain ⟨y, e3, e4⟩ := part_val (hok.ti _ _ hj) hb hle.2
          have e5 := hgo _ _ _ _ _ _ _ hj h1 e2 e4
          have hn' : f.name ≠ "_" := by simpa using hn
          rw [Op.eqFields]
          simp only [if_pos hn', Sem.run_bind, e1, e3, e5, Result.andThen_ok]
          cases p
          · simp
          · simpa using ih h2
        · cases h
      · cases h
    · cases h
theorem run_equalIn_array {d : Nat} {t e : TypeId} {n sz : Nat} {xs ys : Array Value} (ht : P.underlying t = some (.array n e)) (hs : ∀ w, (sizeOf e).run P w = .ok sz w) (r : Nat → Bool) (w : World)
    (h : ∀ k, k < n → ∃ x y, (part e xs (k * sz)).run P w = .ok x w ∧ (part e ys (k * sz)).run P w = .ok y w ∧ (Op.equalIn d e x y).run P w = .ok (r k) w) :
    (Op.equalIn (d + 1) t (.agg xs) (.agg ys)).run P w = .ok ((List.range' 0 n).all r) w := by
  simp only [Op.equalIn, Sem.run_bind, run_underlying' ht, Result.andThen_ok, hs]
  rw [Std.Legacy.Range.forIn_eq_forIn_range']
  have hl : ∀ k, k ∈ List.range' 0 n → k < n := by simp
  have hr : (List.range' 0 n) = List.range' ({ stop := n, step_pos := Nat.zero_lt_one } : Std.Legacy.Range).start ({ stop := n, step_pos := Nat.zero_lt_one } : Std.Legacy.Range).size ({ stop := n, step_pos := Nat.zero_lt_one } : Std.Legacy.Range).step := by simp [Std.Legacy.Range.size]
  rw [← hr]
  clear hr
  generalize List.range' 0 n = l at hl
  induction l with
  | nil => simp
  | cons k l ih =>
    obtain ⟨x, y, h1, h2, h3⟩ := h k (hl k (by simp))
    simp only [List.forIn_cons, Sem.run_bind, h1, h2, h3, Result.andThen_ok, List.all_cons]
    cases hr : r k
    · simp
    · simp only [Bool.not_true, Bool.false_eq_true, if_false, Sem.run_pure, Result.andThen_ok, Bool.true_and]
      exact ih fun k hk => hl k (by simp [hk])
theorem eqArr_sound {d : Nat} {e : TypeId} {j : TI} (hj : TIok P e j) {go : List C → List C → Option Bool}
    (hgo : ∀ cs ds p x y, go cs ds = some p → ValR w ρ M j.agg cs x → ValR w ρ M j.agg ds y → (Op.equalIn d e x y).run P w = .ok p w)
    {cs ds : List C} {a b : Array Value} (ha : All2 (CR w ρ M) cs a.toList) (hb : All2 (CR w ρ M) ds b.toList) (n s : Nat) {q : Bool} (h : eqArr go j.size n (cs.drop (s * j.size)) (ds.drop (s * j.size)) = some q) :
    ∃ r : Nat → Bool, q = (List.range' s n).all r ∧ ∀ k, k < n → ∃ x y, (part e a ((s + k) * j.size)).run P w = .ok x w ∧ (part e b ((s + k) * j.size)).run P w = .ok y w ∧ (Op.equalIn d e x y).run P w = .ok (r (s + k)) w := by
  induction n generalizing s q with
  | zero => simp only [eqArr, Option.some.injEq] at h; subst h; exact ⟨fun _ => true, by simp, fun k hk => by omega⟩
  | succ n ih =>
    simp only [eqArr] at h
    split at h
    · rename_i hle
      simp only [Bool.and_eq_true, decide_eq_true_eq, List.length_drop] at hle
      split at h
      · rename_i p q' h1 h2
        injection h with h; subst h
        rw [List.drop_drop, List.drop_drop, ← Nat.succ_mul] at h2
        obtain ⟨r, h3, h4⟩ := ih (s + 1) h2
        have hs1 : s * j.size + j.size ≤ cs.length := by
          rcases Nat.eq_zero_or_pos j.size with h0 | h0
          · simp [h0]
          · omega
        have hs2 : s * j.size + j.size ≤ ds.length := by
          rcases Nat.eq_zero_or_pos j.size with h0 | h0
          · simp [h0]
          · omega
        obtain ⟨x, e1, e2⟩ := part_val (P := P) hj ha hs1
        obtain ⟨y, e3, e4⟩ := part_val (P := P) hj hb hs2
        have e5 := hgo _ _ _ _ _ h1 e2 e4
        refine ⟨fun i => if i = s then p else r i, ?_, fun k hk => ?_⟩
        · rw [List.range'_succ, List.all_cons, h3, if_pos rfl]
          congr 1
          rw [Bool.eq_iff_iff, List.all_eq_true, List.all_eq_true]
          constructor <;> intro hh i hi <;> have := hh i hi <;> simp only [List.mem_range'_1] at hi <;> (first | rwa [if_neg (by omega)] | rwa [if_neg (by omega)] at this)
        · by_cases hk0 : k = 0
          · subst hk0
            exact ⟨x, y, e1, e3, by simpa using e5⟩
          · obtain ⟨x', y', f1, f2, f3⟩ := h4 (k - 1) (by omega)
            rw [show s + 1 + (k - 1) = s + k by omega] at f1 f2 f3
            exact ⟨x', y', f1, f2, by show _ = Result.ok (if s + k = s then p else r (s + k)) w; rw [if_neg (by omega)]; exact f3⟩
      · cases h
    · cases h
theorem eqT_sound (hok : Ok P X) : ∀ (n d : Nat) (t : TypeId) (i : TI) (cs ds : List C) (q : Bool) (x y : Value), n ≤ d → X.ti t = some i → eqT X n t cs ds = some q → ValR w ρ M i.agg cs x → ValR w ρ M i.agg ds y → (Op.equalIn d t x y).run P w = .ok q w := by
  intro n
  induction n with
  | zero => intro d t i cs ds q x y _ _ h; simp [eqT] at h
  | succ n ih =>
    intro d t i cs ds q x y hd hti h hx hy
    obtain ⟨d, rfl⟩ : ∃ m, d = m + 1 := ⟨d - 1, by omega⟩
    obtain ⟨dd, hu, ha⟩ := (hok.ti t i hti).agg
    simp only [eqT] at h
    split at h
    · rename_i fs hfs
      have hu' := hok.under hfs
      rw [hu] at hu'; injection hu' with hu'; subst hu'
      rw [hti] at h
      simp only at h
      split at h
      · rename_i hp
        obtain ⟨hp1, _⟩ := (hok.ti t i hti).plain hp
        simp only [ha, isAggD, ValR, if_true] at hx hy
        obtain ⟨a, rfl, hx⟩ := hx
        obtain ⟨b, rfl, hy⟩ := hy
        have hf : P.fieldsOf t = fs := by simp [Program.fieldsOf, hu]
        rw [run_equalIn_struct (P := P) w d t a b (by rw [hf]; exact hu) hp1, hf]
        exact eqFs_sound hok (fun t i cs ds p x y h1 h2 h3 h4 => ih d t i cs ds p x y (by omega) h1 h2 h3 h4) hx hy fs.toList h
      · cases h
    · rename_i m e hm
      have hu' := hok.under hm
      rw [hu] at hu'; injection hu' with hu'; subst hu'
      split at h
      · rename_i j hj
        simp only [ha, isAggD, ValR, if_true] at hx hy
        obtain ⟨a, rfl, hx⟩ := hx
        obtain ⟨b, rfl, hy⟩ := hy
        obtain ⟨r, h1, h2⟩ := eqArr_sound (w := w) (P := P) (hok.ti e j hj) (fun cs ds p x y h2 h3 h4 => ih d e j cs ds p x y (by omega) hj h2 h3 h4) hx hy m 0 (by simpa using h)
        rw [h1]
        exact run_equalIn_array hu (fun w => (hok.ti e j hj).run_sizeOf) r w (by simpa using h2)
      · cases h
    · rename_i dd' hnot1 hnot2 hk
      have hu' := hok.under hk
      rw [hu] at hu'; injection hu' with hu'; subst hu'
      split at h
      · rename_i c e
        split at h
        · rename_i p r hp hr
          have hagg : i.agg = false := by
            rw [ha]
            unfold eqLeaf at h
            split at h <;> first | rfl | cases h
          simp only [hagg, ValR, Bool.false_eq_true, if_false] at hx hy
          obtain ⟨c', h1, hx⟩ := hx
          obtain ⟨e', h2, hy⟩ := hy
          obtain rfl : c = c' := by simpa using h1
          obtain rfl : e = e' := by simpa using h2
          have := atomOf_some hp hx; subst this
          have := atomOf_some hr hy; subst this
          unfold eqLeaf at h
          split at h
          · split at h
            · rename_i hk; subst hk; injection h with h; subst h
              simp [Op.equalIn, run_underlying' hu]
            · cases h
          · injection h with h; subst h
            simp [Op.equalIn, run_underlying' hu]
          · injection h with h; subst h
            simp [Op.equalIn, run_underlying' hu, strEq_beq]
          · cases h
        · cases h
      · cases h
    · cases h
end Go.Sx

/- A plain interpreter of the model's code over values without addresses: operators. -/
namespace Go.Sx
variable [Fr]
variable {P : Program} {X : Ctx} {w : World} {ρ : Locs} {M : Mut}

/-- An operation that leaves the world alone. -/
def PureS (P : Program) (w : World) (ρ : Locs) (M : Mut) (r : OR) (s : Sem Value) : Prop := ∃ v, s.run P w = .ok v w ∧ r.upd = [] ∧ r.new = [] ∧ AR w ρ M r.r v
theorem PureS.mk' {r : OR} {s : Sem Value} {a : AV} {v : Value} (h : some { r := a } = some r) (h1 : s.run P w = .ok v w) (h2 : AR w ρ M a v) : PureS P w ρ M r s := by
  injection h with h; subst h
  exact ⟨v, h1, rfl, rfl, h2⟩
theorem ret_some {α : Type} {a r : α} (h : (T.ret a).run = some r) : some a = some r := h

theorem isNil_true {d : TypeDesc} {c : C} (h : isNilOf d c = some true) {v : Value} (hv : CR w ρ M c v) :
    (∃ e, d = .pointer e ∧ v = .pointer none) ∨ (∃ e, d = .slice e ∧ v = .slice none 0 0) ∨ (∃ k e, d = .map k e ∧ v = .map none) ∨ (∃ a b e, d = .func a b e ∧ v = .nilFunc) ∨ (∃ e, d = .interface e ∧ v = .nilIface) := by
  unfold isNilOf at h
  split at h
  · cases hv
    split at h <;> first | exact .inl ⟨_, rfl, rfl⟩ | exact .inr (.inl ⟨_, rfl, rfl⟩) | exact .inr (.inr (.inl ⟨_, _, rfl, rfl⟩)) | exact .inr (.inr (.inr (.inl ⟨_, _, _, rfl, rfl⟩))) | exact .inr (.inr (.inr (.inr ⟨_, rfl, rfl⟩))) | cases h
  all_goals first | cases h | (split at h <;> cases h)
theorem isNil_false {d : TypeDesc} {c : C} (h : isNilOf d c = some false) {v : Value} (hv : CR w ρ M c v) :
    (∃ e a, d = .pointer e ∧ v = .pointer (some a)) ∨ (∃ k e b, d = .map k e ∧ v = .map (some b)) ∨ (∃ a b e f x y, d = .func a b e ∧ v = .func f x y) ∨ (∃ e t x, d = .interface e ∧ v = .iface t x) := by
  unfold isNilOf at h
  split at h
  · split at h <;> cases h
  · obtain ⟨_, _, _, _, _, rfl⟩ := hv
    split at h <;> first | exact .inl ⟨_, _, rfl, rfl⟩ | cases h
  · obtain ⟨_, _, _, _, _, rfl⟩ := hv
    split at h <;> first | exact .inl ⟨_, _, rfl, rfl⟩ | cases h
  · obtain ⟨_, _, rfl, _⟩ := hv
    split at h <;> first | exact .inl ⟨_, _, rfl, rfl⟩ | cases h
  · obtain ⟨_, _, _, _, rfl⟩ := hv
    split at h <;> first | exact .inr (.inl ⟨_, _, _, rfl, rfl⟩) | cases h
  · obtain ⟨_, _, rfl, _⟩ := hv
    split at h <;> first | exact .inr (.inr (.inl ⟨_, _, _, _, _, _, rfl, rfl⟩)) | cases h
  · obtain ⟨_, rfl, _⟩ := hv
    split at h <;> first | exact .inr (.inr (.inr ⟨_, _, _, rfl, rfl⟩)) | cases h
  · cases h
/-- '==' and '!=' give this answer. -/
def EqOk (P : Program) (w : World) (t : TypeId) (ox oy : Operand) (x y : Value) (q : Bool) : Prop :=
  Sem.run P (do eqGuard .eql t ox oy x y; binOp .eql t x y) w = .ok (.bool q) w ∧ Sem.run P (do eqGuard .neq t ox oy x y; binOp .neq t x y) w = .ok (.bool !q) w
theorem EqOk.of {t : TypeId} {ox oy : Operand} {x y : Value} {q : Bool} (he : ∀ d, (Op.equalIn (d + 1) t x y).run P w = .ok q w) (hb1 : binOp .eql t x y = (do pure (.bool (← Op.equal t x y)))) (hb2 : binOp .neq t x y = (do pure (.bool (!(← Op.equal t x y)))))
    (hg1 : (eqGuard .eql t ox oy x y).run P w = .ok () w) (hg2 : (eqGuard .neq t ox oy x y).run P w = .ok () w) : EqOk P w t ox oy x y q := by
  have h : (Op.equal t x y).run P w = .ok q w := he 9999
  constructor
  · rw [Sem.run_bind, hg1, Result.andThen_ok, hb1, Sem.run_bind, h]; rfl
  · rw [Sem.run_bind, hg2, Result.andThen_ok, hb2, Sem.run_bind, h]; rfl
theorem eqNil_sound {d : TypeDesc} {ox oy : Operand} {a b : C} {q : Bool} (h : eqNil d (isConstO ox || isConstO oy) a b = some q) {x y : Value} (hx : CR w ρ M a x) (hy : CR w ρ M b y) {t : TypeId} (ht : P.underlying t = some d) :
    EqOk P w t ox oy x y q := by
  unfold eqNil at h
  split at h
  · rename_i h1 h2
    rcases isNil_true h1 hx with ⟨e, rfl, rfl⟩ | ⟨e, rfl, rfl⟩ | ⟨_, e, rfl, rfl⟩ | ⟨_, _, e, rfl, rfl⟩ | ⟨e, rfl, rfl⟩ <;>
    rcases isNil_true h2 hy with ⟨e', he, rfl⟩ | ⟨e', he, rfl⟩ | ⟨_, e', he, rfl⟩ | ⟨_, _, e', he, rfl⟩ | ⟨e', he, rfl⟩ <;> (try cases he)
    all_goals first
      | (simp only [Option.some.injEq] at h
         subst h
         (refine EqOk.of (fun d => ?_) rfl rfl rfl rfl; simp only [Op.equalIn, Sem.run_bind, run_underlying' ht, Result.andThen_ok]; rfl); done)
      | (simp only at h
         split at h
         · rename_i hk
           injection h with h; subst h
           refine EqOk.of (fun d => ?_) rfl rfl ?_ ?_
           · simp [Op.equalIn, run_underlying' ht]
           · cases ox <;> cases oy <;> first | exact (Bool.false_ne_true hk).elim | rfl
           · cases ox <;> cases oy <;> first | exact (Bool.false_ne_true hk).elim | rfl
         · cases h)
  · rename_i h1 h2
    injection h with h; subst h
    rcases isNil_true h1 hx with ⟨e, rfl, rfl⟩ | ⟨e, rfl, rfl⟩ | ⟨_, e, rfl, rfl⟩ | ⟨_, _, e, rfl, rfl⟩ | ⟨e, rfl, rfl⟩ <;>
    rcases isNil_false h2 hy with ⟨e', _, he, rfl⟩ | ⟨_, e', _, he, rfl⟩ | ⟨_, _, e', _, _, _, he, rfl⟩ | ⟨e', _, _, he, rfl⟩ <;> (try cases he)
    all_goals (refine EqOk.of (fun d => ?_) rfl rfl rfl rfl; simp only [Op.equalIn, Sem.run_bind, run_underlying' ht, Result.andThen_ok]; rfl)
  · rename_i h1 h2
    injection h with h; subst h
    rcases isNil_false h1 hx with ⟨e', _, rfl, rfl⟩ | ⟨_, e', _, rfl, rfl⟩ | ⟨_, _, e', _, _, _, rfl, rfl⟩ | ⟨e', _, _, rfl, rfl⟩ <;>
    rcases isNil_true h2 hy with ⟨e, he, rfl⟩ | ⟨e, he, rfl⟩ | ⟨_, e, he, rfl⟩ | ⟨_, _, e, he, rfl⟩ | ⟨e, he, rfl⟩ <;> (try cases he)
    all_goals (refine EqOk.of (fun d => ?_) rfl rfl rfl rfl; simp only [Op.equalIn, Sem.run_bind, run_underlying' ht, Result.andThen_ok]; rfl)
  · cases h
theorem opEq_sound (hok : Ok P X) {mem : Mem} (hm : MemR w ρ mem) {t : TypeId} {ox oy : Operand} {x y : AV} {q : Bool} (h : opEq X t (isConstO ox || isConstO oy) x y mem = some q) {vx vy : Value} (hx : AR w ρ (MuOf ρ mem) x vx) (hy : AR w ρ (MuOf ρ mem) y vy) :
    EqOk P w t ox oy vx vy q := by
  unfold opEq at h
  split at h
  · rename_i cs ds
    obtain ⟨a, rfl, hx⟩ := hx
    obtain ⟨b, rfl, hy⟩ := hy
    split at h
    · rename_i i hi
      split at h
      · rename_i hp
        simp only [Bool.and_eq_true] at hp
        obtain ⟨hp1, hp2⟩ := (hok.ti t i hi).plain hp.1
        have := eqT_sound hok 100 10000 t i cs ds q (.agg a) (.agg b) (by omega) hi h (by simp only [ValR, hp.2, if_true]; exact ⟨a, rfl, hx⟩) (by simp only [ValR, hp.2, if_true]; exact ⟨b, rfl, hy⟩)
        constructor
        · rw [Sem.run_bind, run_eqGuard_agg w .eql t ox oy a b hp2, Result.andThen_ok, run_eql_struct, this]; rfl
        · rw [Sem.run_bind, run_eqGuard_agg w .neq t ox oy a b hp2, Result.andThen_ok, run_neq_struct, this]; rfl
      · cases h
    · cases h
  · rename_i a b
    split at h
    · cases h
    · rename_i d hd
      have ht := hok.under hd
      split at h
      · rename_i p r h1 h2
        injection h with h; subst h
        have := atomOf_some h1 hx; subst this
        have := atomOf_some h2 hy; subst this
        refine EqOk.of (fun d => ?_) rfl rfl rfl rfl
        simp [Op.equalIn, run_underlying' ht]
      · rename_i d' _ _
        split at h
        · rename_i q' hq
          injection h with h; subst h
          exact eqNil_sound hq hx hy ht
        · split at h
          · rename_i e i o j p hh1 hh2
            split at h
            · rename_i hc
              simp only [Bool.and_eq_true, decide_eq_true_eq] at hc
              injection h with h; subst h
              obtain ⟨⟨rfl, rfl⟩, he⟩ := hc
              obtain ⟨je, hje⟩ := Option.isSome_iff_exists.1 he
              obtain ⟨l, b1, o1, e1, e2, rfl⟩ := hx
              obtain ⟨l', b2, o2, f1, f2, rfl⟩ := hy
              rw [e1] at f1; injection f1 with f1; subst f1
              rw [e2] at f2; injection f2 with f2
              obtain ⟨rfl, rfl⟩ : b1 = b2 ∧ o1 = o2 := by simpa [at_] using f2
              have hz := (hok.ti e je hje).run_sizeOf (w := w)
              refine EqOk.of (fun d => ?_) rfl rfl rfl rfl
              simp [Op.equalIn, run_underlying' ht, hz, sameAddr]
            · cases h
          · rename_i e id hh1 hh2
            obtain ⟨l, e1, rfl⟩ := hx
            cases hy
            have key : ∀ {A : Option Addr} {n c : Nat}, A.isSome = true → EqOk P w t ox oy (.slice A n c) (.slice none 0 0) false := fun {A n c} hA => by
              obtain ⟨a, rfl⟩ := Option.isSome_iff_exists.1 hA
              refine EqOk.of (fun d => ?_) rfl rfl rfl rfl
              simp [Op.equalIn, run_underlying' ht]
            split at h
            · rename_i hb
              injection h with h; subst h
              obtain ⟨l', k1, _, _, ⟨k2, _⟩ | ⟨b, o, k2, _⟩⟩ := hm.get hb (by simp)
              · cases k2
              · rw [e1] at k1; injection k1 with k1; subst k1
                exact key (by simp [k2])
            · rename_i hb
              injection h with h; subst h
              obtain ⟨l', k1, _, _, k2 | ⟨b, o, k2, _⟩⟩ := hm.get hb (by simp)
              · cases k2
              · rw [e1] at k1; injection k1 with k1; subst k1
                exact key (by simp [k2])
            · cases h
          · cases h
  · cases h
theorem opBin_sound (hok : Ok P X) {mem : Mem} (hm : MemR w ρ mem) {op : BinOp} {t : TypeId} {ox oy : Operand} {x y : AV} {r : OR} (h : (opBin X op t (isConstO ox || isConstO oy) x y mem).run = some r) {vx vy : Value} (hx : AR w ρ (MuOf ρ mem) x vx) (hy : AR w ρ (MuOf ρ mem) y vy) :
    PureS P w ρ (MuOf ρ mem) r (do eqGuard op t ox oy vx vy; binOp op t vx vy) := by
  unfold opBin at h
  split at h
  · rename_i k a k' b h1 h2
    have := intOf_some h1 hx; subst this
    have := intOf_some h2 hy; subst this
    have hg : (eqGuard op t ox oy (.int k a) (.int k' b)).run P w = .ok () w := by cases op <;> simp [eqGuard]
    split at h
    · obtain ⟨h3, h4⟩ := guard_some h
      have h3 : 0 ≤ b := by simpa using h3
      refine .mk' h4 ?_ (AR.const ..)
      rw [Sem.run_bind, hg, Result.andThen_ok]
      simp [binOp, Op.shift, show ¬ b < 0 by omega]
    · obtain ⟨h3, h4⟩ := guard_some h
      have h3 : 0 ≤ b := by simpa using h3
      refine .mk' h4 ?_ (AR.const ..)
      rw [Sem.run_bind, hg, Result.andThen_ok]
      simp [binOp, Op.shift, show ¬ b < 0 by omega]
    · split at h
      · rename_i hk; subst hk
        obtain ⟨v, h3, h4⟩ := bind_some h
        refine .mk' h4 ?_ (AR.const ..)
        rw [Sem.run_bind, hg, Result.andThen_ok]
        exact aInt_sound h3 t
      · cases h
  · split at h
    · rename_i a b h1 h2
      have := strOf_some h1 hx; subst this
      have := strOf_some h2 hy; subst this
      obtain ⟨v, h3, h4⟩ := bind_some h
      have hg : (eqGuard op t ox oy (.string a) (.string b)).run P w = .ok () w := by cases op <;> simp [eqGuard]
      refine .mk' h4 ?_ (AR.const ..)
      rw [Sem.run_bind, hg, Result.andThen_ok]
      exact aStr_sound h3 t
    · split at h
      · rename_i b hb
        exact .mk' h (opEq_sound hok hm hb hx hy).1 (AR.const ..)
      · rename_i b hb
        exact .mk' h (opEq_sound hok hm hb hx hy).2 (AR.const ..)
      · cases h
theorem opUn_sound {op : UnOp} {x : AV} {r : OR} (h : (opUn op x).run = some r) {vx : Value} (hx : AR w ρ M x vx) : PureS P w ρ M r (Op.unary op vx) := by
  unfold opUn at h
  split at h
  · rename_i b hb
    have := boolOf_some hb hx; subst this
    exact .mk' h (by simp [Op.unary]) (AR.const ..)
  · rename_i k n hn
    have := intOf_some hn hx; subst this
    exact .mk' h (by simp [Op.unary, Op.intArith]) (AR.const ..)
  · rename_i k n hn
    have := intOf_some hn hx; subst this
    exact .mk' h (by simp [Op.unary, Op.intBits]) (AR.const ..)
  · cases h
end Go.Sx

/- A plain interpreter of the model's code over values without addresses: addresses, fields, indexes, lengths. -/
namespace Go.Sx
variable [Fr]
variable {P : Program} {X : Ctx} {w : World} {ρ : Locs} {M : Mut}

theorem opFieldAddr_sound (hok : Ok P X) {t : TypeId} {x : AV} {f : Nat} {r : OR} (h : (opFieldAddr X t x f).run = some r) {v : Value} (hx : AR w ρ M x v) : PureS P w ρ M r (Instr.fieldAt t v f) := by
  unfold opFieldAddr at h
  split at h
  · rename_i fs hfs
    have ht := hok.under hfs
    split at h
    · rename_i fd hfd
      have hfd' : fs[f]? = some fd := by rwa [Array.getElem?_toList] at hfd
      split at h
      · rename_i j hj
        split at h
        · cases h
        rename_i hz
        have hs := (hok.ti _ _ hj).run_sizeOf (w := w)
        have fin : ∀ b o, (Instr.fieldAt t (.pointer (some (at_ b o))) f).run P w = .ok (.pointer (some (at_ b (o + fd.offset)))) w := fun b o => by
          simp [Instr.fieldAt, run_underlying' ht, hfd', Instr.sureAddr, fieldPlace, hs, hz, at_add]
        split at h
        · obtain ⟨l, b, o, h1, h2, rfl⟩ := hx
          exact .mk' h (fin _ _) ⟨l, b, o, h1, h2, by rw [Nat.add_assoc]⟩
        · obtain ⟨l, b, o, h1, h2, rfl⟩ := hx
          exact .mk' h (fin _ _) ⟨l, b, o, h1, h2, by simp only [Nat.add_assoc]⟩
        · obtain ⟨b, o, rfl, vs, h1⟩ := hx
          refine .mk' h (fin _ _) ⟨b, o + fd.offset, rfl, fun j => vs (fd.offset + j), fun j x hj => ?_⟩
          rw [List.getElem?_drop] at hj
          have := h1 _ x hj
          rwa [← Nat.add_assoc] at this
        · cases h
      · cases h
    · cases h
  · cases h
theorem inRange_iff {i : Int} {n : Nat} (h : inRange i n = true) : 0 ≤ i ∧ i < n ∧ i.toNat < n := by
  simp only [inRange, Bool.and_eq_true, decide_eq_true_eq] at h
  omega
theorem indexAt_array {t e : TypeId} {n : Nat} {j : TI} (ht : P.underlying t = some (.array n e)) (hj : TIok P e j) {k : IntKind} {i : Int} (hi : 0 ≤ i ∧ i < n) (b o : Nat) :
    (Instr.indexAt t (.pointer (some (at_ b o))) (.int k i)).run P w = .ok (.pointer (some (at_ b (o + i.toNat * j.size)))) w := by
  simp [Instr.indexAt, asIntOf, run_underlying' ht, Instr.sureAddr, hi, hj.run_sizeOf, at_add]
theorem indexAt_slice {t e : TypeId} {n cap : Nat} {j : TI} (ht : P.underlying t = some (.slice e)) (hj : TIok P e j) {k : IntKind} {i : Int} (hi : 0 ≤ i ∧ i < n) (b o : Nat) :
    (Instr.indexAt t (.slice (some (at_ b o)) n cap) (.int k i)).run P w = .ok (.pointer (some (at_ b (o + i.toNat * j.size)))) w := by
  simp [Instr.indexAt, asIntOf, run_underlying' ht, hi, hj.run_sizeOf, at_add]
/-- A slice whose rows can be read for ever. -/
def RowsOf (w : World) (M : Mut) (sz n : Nat) (row : Nat → List D) (v : Value) : Prop := ∃ A cap, v = .slice A n cap ∧ n ≤ cap ∧ (n = 0 ∨ ∃ b o, A = some (at_ b o) ∧ RowsR w M sz n row b o)
theorem RowsOf.loc {l : Loc} {sz : Nat} {rows : List (List D)} (h1 : l.n = rows.length) (h2 : rows = [] ∨ ∃ b o, l.a = some (at_ b o) ∧ RowsR w M sz rows.length (fun i => rows.getD i []) b o) :
    RowsOf w M sz rows.length (fun i => rows.getD i []) (.slice l.a l.n l.cap) :=
  ⟨l.a, l.cap, by rw [h1], by rw [← h1]; exact l.le, h2.imp (fun e => by rw [e]; rfl) fun ⟨b, o, p, q⟩ => ⟨b, o, p, q⟩⟩
theorem rows_sound {x : D} {sz n : Nat} {row : Nat → List D} (h : x.rows = some (sz, n, row)) {v : Value} (hv : DR w M x v) : RowsOf w M sz n row v := by
  unfold D.rows at h
  split at h
  · rename_i sz0 rows0
    injection h with h; injection h with h0 h; injection h with h1 h2; subst h0; subst h1; subst h2
    cases hv with
    | sl0 => exact ⟨_, _, rfl, Nat.zero_le _, .inl rfl⟩
    | sl sz rows n cap b o vs hn hcap hz hc hmm hd =>
      subst hn
      refine ⟨_, _, rfl, hcap, .inr ⟨b, o, rfl, vs, fun i hi => ?_, hc, hmm, fun i k x hi hx => ?_⟩⟩
      · show (rows0.getD i []).length = _
        rw [List.getD_eq_getElem?_getD, List.getElem?_eq_getElem hi]
        exact hz _ (List.getElem_mem hi)
      · have hx : (rows0.getD i [])[k]? = some x := hx
        rw [List.getD_eq_getElem?_getD, List.getElem?_eq_getElem hi] at hx
        exact hd i k _ x (List.getElem?_eq_getElem hi) hx
  · injection h with h; injection h with h0 h; injection h with h1 h2; subst h0; subst h1; subst h2
    cases hv with
    | fs0 => exact ⟨_, _, rfl, Nat.zero_le _, .inl rfl⟩
    | fs sz n row cap b o vs hcap hz hc hmm hd => exact ⟨_, _, rfl, hcap, .inr ⟨b, o, rfl, vs, hz, hc, hmm, hd⟩⟩
  · injection h with h; injection h with h0 h; injection h with h1 h2; subst h0; subst h1; subst h2
    cases hv; exact ⟨_, _, rfl, Nat.zero_le _, .inl rfl⟩
  · injection h with h; injection h with h0 h; injection h with h1 h2; subst h0; subst h1; subst h2
    cases hv; exact ⟨_, _, rfl, Nat.zero_le _, .inl rfl⟩
  · cases h
theorem grow_rows {mem : Mem} (hm : MemR w ρ mem) {id sz : Nat} {rows : List (List D)} (hb : mem[id]? = some (.grow sz rows)) {l : Loc} (h1 : ρ id = some l) : RowsOf w (MuOf ρ mem) sz rows.length (fun i => rows.getD i []) (.slice l.a l.n l.cap) := by
  obtain ⟨l', k1, _, k3, k4⟩ := hm.get hb (by simp)
  rw [h1] at k1; injection k1 with k1; subst k1
  exact .loc k3 (k4.imp And.left fun ⟨b, o, p, q, _⟩ => ⟨b, o, p, q⟩)
theorem froz_rows {mem : Mem} (hm : MemR w ρ mem) {id sz : Nat} {rows : List (List D)} (hb : mem[id]? = some (.froz sz rows)) {l : Loc} (h1 : ρ id = some l) : RowsOf w (MuOf ρ mem) sz rows.length (fun i => rows.getD i []) (.slice l.a l.n l.cap) := by
  obtain ⟨l', k1, _, k3, k4⟩ := hm.get hb (by simp)
  rw [h1] at k1; injection k1 with k1; subst k1
  exact .loc k3 k4
theorem sliceRow_sound {mem : Mem} (hm : MemR w ρ mem) {a : S} {sz n : Nat} {row : Nat → List D} (h : sliceRow a mem = some (sz, n, row)) {v : Value} (hv : SR w ρ (MuOf ρ mem) a v) : RowsOf w (MuOf ρ mem) sz n row v := by
  unfold sliceRow at h
  split at h
  · exact rows_sound h hv
  · obtain ⟨l, h1, rfl⟩ := hv
    split at h <;> first
      | (rename_i sz rows hb
         injection h with h; injection h with h0 h; injection h with h3 h4; subst h0; subst h3; subst h4
         first | exact grow_rows hm hb h1 | exact froz_rows hm hb h1)
      | cases h
  · obtain ⟨l, h1, rfl⟩ := hv
    split at h
    · rename_i sz rows hb
      injection h with h; injection h with h0 h; injection h with h3 h4; subst h0; subst h3; subst h4
      exact froz_rows hm hb h1
    · cases h
  · cases h
theorem isArr_sound {mem : Mem} (hm : MemR w ρ mem) {a : S} {id sz n : Nat} (h : isArr a mem = some (id, sz, n)) {v : Value} (hv : SR w ρ (MuOf ρ mem) a v) :
    a = .as id ∧ ∃ l, ρ id = some l ∧ v = .slice l.a n l.cap ∧ l.n = n ∧ l.sz = sz ∧ (n = 0 ∨ ∃ b o, l.a = some (at_ b o)) := by
  unfold isArr at h
  split at h
  · obtain ⟨l, h1, rfl⟩ := hv
    split at h
    · rename_i sz rows hb
      injection h with h; injection h with h3 h; injection h with h4 h5; subst h3; subst h4; subst h5
      obtain ⟨l', k1, k2, k3, _, k4⟩ := hm.get hb (by simp)
      rw [h1] at k1; injection k1 with k1; subst k1
      exact ⟨rfl, l, h1, by rw [k3], k3, k2, k4.imp (fun e => by rw [e.1]; rfl) fun ⟨b, o, p, _⟩ => ⟨b, o, p⟩⟩
    · rename_i sz rows ty hb
      injection h with h; injection h with h3 h; injection h with h4 h5; subst h3; subst h4; subst h5
      obtain ⟨l', k1, k2, k3, _, k4⟩ := hm.get hb (by simp)
      rw [h1] at k1; injection k1 with k1; subst k1
      exact ⟨rfl, l, h1, by rw [k3], k3, k2.1, k4.imp (fun e => by rw [e.1]; rfl) fun ⟨b, o, p, _⟩ => ⟨b, o, p⟩⟩
    · cases h
  · cases h
theorem RowsR.ptr {sz n : Nat} {row : Nat → List D} {b o : Nat} (h : RowsR w M sz n row b o) {i : Nat} (hi : i < n) (ρ : Locs) : SR w ρ M (.rptr (row i)) (.pointer (some (at_ b (o + i * sz)))) := by
  obtain ⟨vs, r1, r2, r3, r4⟩ := h
  refine ⟨b, _, rfl, fun j => vs (i * sz + j), fun j x hj => ?_⟩
  have hl := r1 i hi
  have hj' : j < sz := by
    have := (List.getElem?_eq_some_iff.1 hj).1
    omega
  have : i * sz + j < n * sz := by
    have := Nat.mul_le_mul_right sz (show i + 1 ≤ n by omega)
    rw [Nat.add_mul, Nat.one_mul] at this; omega
  rw [Nat.add_assoc]
  exact ⟨r2 _ this, r3 _ this, r4 i j x hi hj⟩
theorem opIndexAddr_sound (hok : Ok P X) {mem : Mem} (hm : MemR w ρ mem) {t : TypeId} {x ix : AV} {r : OR} (h : (opIndexAddr X t x ix mem).run = some r) {v vi : Value} (hx : AR w ρ (MuOf ρ mem) x v) (hi : AR w ρ (MuOf ρ mem) ix vi) :
    PureS P w ρ (MuOf ρ mem) r (Instr.indexAt t v vi) := by
  unfold opIndexAddr at h
  split at h
  · cases h
  rename_i k i hin
  have := intOf_some hin hi; subst this
  split at h
  · rename_i n e id off hu
    have ht := hok.under hu
    obtain ⟨l, b, o, h1, h2, rfl⟩ := hx
    split at h
    · rename_i j hj
      obtain ⟨h3, h4⟩ := guard_some h
      obtain ⟨h5, h6, h7⟩ := inRange_iff h3
      exact .mk' h4 (indexAt_array ht (hok.ti _ _ hj) ⟨h5, h6⟩ _ _) ⟨l, b, o, h1, h2, by rw [Nat.add_assoc]⟩
    · cases h
  · rename_i n e cs hu
    have ht := hok.under hu
    obtain ⟨b, o, rfl, vs, h1⟩ := hx
    split at h
    · rename_i j hj
      obtain ⟨h3, h4⟩ := guard_some h
      obtain ⟨h5, h6, h7⟩ := inRange_iff h3
      refine .mk' h4 (indexAt_array ht (hok.ti _ _ hj) ⟨h5, h6⟩ _ _) ⟨b, _, rfl, fun m => vs (i.toNat * j.size + m), fun m x hm => ?_⟩
      rw [List.getElem?_drop] at hm
      have := h1 _ x hm
      rwa [← Nat.add_assoc] at this
    · cases h
  · rename_i e a hu
    have ht := hok.under hu
    split at h
    · cases h
    rename_i j hj
    split at h
    · rename_i id off n
      obtain ⟨l, b, o, ad, cap, h1, h2, rfl, hcap, h8⟩ := hx
      obtain ⟨h3, h4⟩ := guard_some h
      obtain ⟨h5, h6, h7⟩ := inRange_iff h3
      obtain rfl := h8 (by omega)
      exact .mk' h4 (indexAt_slice ht (hok.ti _ _ hj) ⟨h5, h6⟩ _ _) ⟨l, b, o, h1, h2, by rw [Nat.add_assoc]⟩
    · split at h
      · rename_i id sz n ha
        obtain ⟨rfl, l, h1, rfl, h2, hsz, h3⟩ := isArr_sound hm ha hx
        split at h
        · rename_i hs
          obtain ⟨h4, h5⟩ := guard_some h
          obtain ⟨h6, h7, h8⟩ := inRange_iff h4
          rcases h3 with h3 | ⟨b, o, h3⟩
          · omega
          rw [h3]
          exact .mk' h5 (indexAt_slice ht (hok.ti _ _ hj) ⟨h6, h7⟩ _ _) ⟨l, b, o, h1, h3, by rw [hsz, hs]; rfl⟩
        · cases h
      · split at h
        · rename_i sz n row hr
          obtain ⟨A, cap, rfl, hcap, h1⟩ := sliceRow_sound hm hr hx
          split at h
          · rename_i hs
            obtain ⟨h4, h5⟩ := guard_some h
            obtain ⟨h6, h7, h8⟩ := inRange_iff h4
            rcases h1 with h1 | ⟨b, o, rfl, hr⟩
            · omega
            rcases hs with hs | rfl
            · omega
            exact .mk' h5 (indexAt_slice ht (hok.ti _ _ hj) ⟨h6, h7⟩ _ _) (hr.ptr h8 ρ)
          · cases h
        · cases h
  · cases h

/-! ### Slice expressions -/
theorem boundsA_sound {len cap : Nat} (hc : len ≤ cap) {lo hi : Option AV} {l h : Nat} (hb : (boundsA len lo hi).run = some (l, h)) {vlo vhi : Option Value} (hlo : ∀ a, lo = some a → ∃ v, vlo = some v ∧ AR w ρ M a v) (hlo0 : lo = none → vlo = none)
    (hhi : ∀ a, hi = some a → ∃ v, vhi = some v ∧ AR w ρ M a v) (hhi0 : hi = none → vhi = none) (isS : Bool) : (Instr.sliceBounds isS len cap vlo vhi none).run P w = .ok (l, h, cap) w ∧ l ≤ h ∧ h ≤ len := by
  unfold boundsA at hb
  obtain ⟨h', h1, h2⟩ := bind_some hb
  have hh : h' ≤ len ∧ ∀ code, (match (vhi : Option Value) with | some v => Instr.sliceBound v cap code | none => pure len : Sem Nat).run P w = .ok h' w := by
    cases hi with
    | none =>
      rw [hhi0 rfl]
      injection h1 with h1; subst h1
      exact ⟨Nat.le_refl _, fun _ => rfl⟩
    | some a =>
      obtain ⟨v, rfl, hv⟩ := hhi a rfl
      simp only at h1
      split at h1
      · rename_i k n hn
        have := intOf_some hn hv; subst this
        obtain ⟨h3, h4⟩ := guard_some h1
        simp only [Bool.and_eq_true, decide_eq_true_eq] at h3
        injection h4 with h4; subst h4
        refine ⟨by omega, fun code => ?_⟩
        simp [Instr.sliceBound, asIntOf, show 0 ≤ n ∧ n ≤ (cap : Int) by omega]
      · cases h1
  have hl : l ≤ h ∧ h = h' ∧ ∀ code, (match (vlo : Option Value) with | some v => Instr.sliceBound v h' code | none => pure 0 : Sem Nat).run P w = .ok l w := by
    cases lo with
    | none =>
      rw [hlo0 rfl]
      injection h2 with h2; injection h2 with h2 h3; subst h2; subst h3
      exact ⟨Nat.zero_le _, rfl, fun _ => rfl⟩
    | some a =>
      obtain ⟨v, rfl, hv⟩ := hlo a rfl
      simp only at h2
      split at h2
      · rename_i k n hn
        have := intOf_some hn hv; subst this
        obtain ⟨h3, h4⟩ := guard_some h2
        simp only [Bool.and_eq_true, decide_eq_true_eq] at h3
        injection h4 with h4; injection h4 with h4 h5; subst h4; subst h5
        refine ⟨by omega, rfl, fun code => ?_⟩
        simp [Instr.sliceBound, asIntOf, h3]
      · cases h2
  obtain ⟨hl1, rfl, hl2⟩ := hl
  refine ⟨?_, hl1, hh.1⟩
  have e1 := hh.2
  cases vhi with
  | none =>
    simp only [Sem.run_pure, Result.ok.injEq, and_true] at e1
    have e1 := e1 .sliceB
    subst e1
    cases vlo with
    | none =>
      have e2 := hl2 .sliceB
      simp only [Sem.run_pure, Result.ok.injEq, and_true] at e2; subst e2
      simp [Instr.sliceBounds]
    | some v => simp [Instr.sliceBounds, hl2 .sliceB]
  | some v =>
    have e1 := e1 (if isS then .sliceAcap else .sliceAlen)
    simp only at e1
    cases vlo with
    | none =>
      have e2 := hl2 .sliceB
      simp only [Sem.run_pure, Result.ok.injEq, and_true] at e2; subst e2
      simp [Instr.sliceBounds, e1]
    | some u => simp [Instr.sliceBounds, e1, hl2 .sliceB]
end Go.Sx

/- A plain interpreter of the model's code over values without addresses: an operation that changes blocks and makes one. -/
namespace Go.Sx
variable [Fr]
variable {P : Program} {X : Ctx} {w w' : World} {ρ : Locs}

theorem Post.full {mem : Mem} {fresh : Nat} {r : AV} {v : Value} {us : List (Nat × Blk)} {nb : Blk} (l : Loc) (hm : MemR w ρ mem) (hf : Free ρ mem fresh 1) (Tb : Nat → Prop) (ht : Touch w w' (MuOf ρ mem) Tb) (hu : UpdOk ρ mem us)
    (hT : ∀ n, Tb n → ∃ i b bi li, (i, b) ∈ us ∧ mem[i]? = some bi ∧ owns bi = true ∧ ρ i = some li ∧ ownB li = some n)
    (hown : ∀ n, owns nb = true → ownB l = some n → w.heap.size ≤ n ∨ ∃ i b bi li, (i, b) ∈ us ∧ mem[i]? = some bi ∧ owns bi = true ∧ ρ i = some li ∧ ownB li = some n ∧ ∀ b', (i, b') ∈ us → owns b' = false)
    (hmu : ∀ c o, blkMu l nb c o → c < w.heap.size → MuOf ρ mem c o)
    (hB : ∀ M', Evo w (MuOf ρ mem) w' M' → (∀ c o, M' c o → MuOf ρ (upds mem us) c o ∨ blkMu l nb c o) →
      (∀ i b li, (i, b) ∈ us → ρ i = some li → b = .dead ∨ BR w' (fun i => if i = fresh then some l else ρ i) M' li b) ∧ BR w' (fun i => if i = fresh then some l else ρ i) M' l nb)
    (hA : ∀ M', Evo w (MuOf ρ mem) w' M' → AR w' (fun i => if i = fresh then some l else ρ i) M' r v) :
    Post w ρ mem fresh { r, upd := us, new := [nb] } v w' (fun i => if i = fresh then some l else ρ i) := by
  obtain ⟨hf1, hf2⟩ := hf 0 (by omega)
  simp only [Nat.add_zero] at hf1 hf2
  have hle : ρ.le (fun i => if i = fresh then some l else ρ i) := fun i x hx => by
    by_cases h : i = fresh
    · subst h; rw [hf2] at hx; cases hx
    · simp [h, hx]
  have hne : ∀ b, (fresh, b) ∉ us := fun b hb => by
    obtain ⟨bi, li, _, h2, _⟩ := hu.old _ _ hb
    rw [hf2] at h2; cases h2
  refine ⟨hle, fun i hi => if_neg (fun h => hi ⟨by omega, by simp; omega⟩), fun mem' hL => ?_⟩
  have hget : ∀ i, mem'[i]? = if i = fresh then some nb else (upds mem us)[i]? := fun i => by
    rw [hL i]
    by_cases h : i = fresh
    · subst h; simp
    · rw [if_neg (by simp; omega), if_neg h]
  have hmem : ∀ i b, i ≠ fresh → mem'[i]? = some b → (mem[i]? = some b ∧ ∀ b', (i, b') ∉ us) ∨ (i, b) ∈ us := fun i b hi hb => by
    rw [hget, if_neg hi] at hb
    exact upds_get _ _ _ _ hb
  have hM : ∀ c o, MuOf (fun i => if i = fresh then some l else ρ i) mem' c o → MuOf ρ (upds mem us) c o ∨ blkMu l nb c o := by
    rintro c o ⟨i, bi, li, h1, h2, h3⟩
    by_cases h : i = fresh
    · rw [hget, if_pos h] at h1; simp only [h, if_true] at h2
      injection h1 with h1; injection h2 with h2; subst h1; subst h2
      exact .inr h3
    · rw [hget, if_neg h] at h1; simp only [h, if_false] at h2
      exact .inl ⟨i, bi, li, h1, h2, h3⟩
  have := hm.next (w' := w') (mem' := mem') hle Tb (fun i => i = fresh ∨ ∃ b, (i, b) ∈ us) ht
    (fun i hi => by
      have h1 : i ≠ fresh := fun h => hi (.inl h)
      have h2 : ∀ b, (i, b) ∉ us := fun b hb => hi (.inr ⟨b, hb⟩)
      exact ⟨by rw [hget, if_neg h1, upds_out _ _ _ h2], if_neg h1⟩)
    (fun i b li n hi h1 h2 h3 h4 hn => by
      obtain ⟨j, bj, bj', lj, k1, k2, k3, k4, k5⟩ := hT n hn
      have := hm.owner h1 k2 h2 k3 h3 k4 h4 k5
      subst this; exact hi (.inr ⟨_, k1⟩))
    (fun i b li c o _ h1 h2 h3 h4 => by
      rcases hM c o ⟨i, b, li, h1, h2, h3⟩ with h | h
      · exact hu.mu h
      · exact hmu c o h h4)
    (fun i b li n hi h1 h2 h3 h4 => by
      by_cases h : i = fresh
      · rw [hget, if_pos h] at h1; simp only [h, if_true] at h3
        injection h1 with h1; injection h3 with h3; subst h1; subst h3
        exact (hown n h2 h4).imp (fun e => e) fun ⟨j, bj, bj', lj, k1, k2, k3, k4, k5, _⟩ => ⟨j, bj', lj, .inr ⟨_, k1⟩, k2, k3, k4, k5⟩
      · simp only [h, if_false] at h3
        rcases hmem i b h h1 with ⟨_, h5⟩ | h5
        · obtain ⟨b', hb'⟩ := hi.resolve_left h
          exact absurd hb' (h5 b')
        · obtain ⟨bi, li', k1, k2, k3, _⟩ := hu.old i b h5
          rw [h3] at k2; injection k2 with k2; subst k2
          exact .inr ⟨i, bi, li, .inr ⟨b, h5⟩, k1, k3 h2, h3, h4⟩)
    (fun i j bi bj li lj n hi hj h1 h2 h3 h4 h5 h6 h7 h8 => by
      have key : ∀ k bk lk, k ≠ fresh → mem'[k]? = some bk → owns bk = true → ρ k = some lk → ∃ b', mem[k]? = some b' ∧ owns b' = true ∧ ((∃ b'', (k, b'') ∈ us) → ∃ b'', (k, b'') ∈ us ∧ owns b'' = true) := fun k bk lk e0 e1 e2 e3 => by
        rcases hmem k bk e0 e1 with ⟨e4, e5⟩ | e4
        · exact ⟨bk, e4, e2, fun ⟨b'', hb⟩ => absurd hb (e5 b'')⟩
        · obtain ⟨b', l', e5, _, e7, _⟩ := hu.old k bk e4
          exact ⟨b', e5, e7 e2, fun _ => ⟨bk, e4, e2⟩⟩
      have cross : ∀ k bk lk, k ≠ fresh → mem'[k]? = some bk → owns bk = true → ρ k = some lk → ownB lk = some n → owns nb = true → ownB l = some n → False := fun k bk lk e0 e1 e2 e3 e4 e5 e6 => by
        obtain ⟨b', p1, p2, p3⟩ := key k bk lk e0 e1 e2 e3
        rcases hown n e5 e6 with q | ⟨j', bj', bj'', lj', k1, k2, k3, k4, k5, k6⟩
        · have hd : b' ≠ .dead := by rintro rfl; simp [owns] at p2
          obtain ⟨l'', q1, q2⟩ := hm.get p1 hd
          rw [e3] at q1; injection q1 with q1; subst q1
          have := q2.own_lt p2 e4
          omega
        · have := hm.owner p1 k2 p2 k3 e3 k4 e4 k5
          subst this
          obtain ⟨b'', r1, r2⟩ := p3 ⟨_, k1⟩
          rw [k6 b'' r1] at r2; cases r2
      by_cases hi' : i = fresh <;> by_cases hj' : j = fresh
      · omega
      · rw [hget, if_pos hi'] at h1; simp only [hi', if_true] at h5; simp only [hj', if_false] at h6
        injection h1 with h1; injection h5 with h5; subst h1; subst h5
        exact (cross j bj lj hj' h2 h4 h6 h8 h3 h7).elim
      · rw [hget, if_pos hj'] at h2; simp only [hj', if_true] at h6; simp only [hi', if_false] at h5
        injection h2 with h2; injection h6 with h6; subst h2; subst h6
        exact (cross i bi li hi' h1 h3 h5 h7 h4 h8).elim
      · simp only [hi', hj', if_false] at h5 h6
        obtain ⟨b1, p1, p2, _⟩ := key i bi li hi' h1 h3 h5
        obtain ⟨b2, q1, q2, _⟩ := key j bj lj hj' h2 h4 h6
        exact hm.owner p1 q1 p2 q2 h5 h6 h7 h8)
    (fun i hi hlen => by
      have h1 : mem'[i]? = none := List.getElem?_eq_none hlen
      rw [hget] at h1
      by_cases h : i = fresh
      · simp [h] at h1
      · simp only [h, if_false] at h1 ⊢
        have : (upds mem us).length ≤ i := by simpa using h1
        rw [upds_length] at this
        exact hm.fresh i this)
    (fun he i b hU hi => by
      obtain ⟨e1, e2⟩ := hB _ he hM
      by_cases h : i = fresh
      · rw [hget, if_pos h] at hi
        injection hi with hi; subst hi
        exact .inr ⟨l, by simp [h], e2⟩
      · rcases hmem i b h hi with ⟨_, h5⟩ | h5
        · obtain ⟨b', hb'⟩ := hU.resolve_left h
          exact absurd hb' (h5 b')
        · obtain ⟨bi, li, k1, k2, k3, _⟩ := hu.old i b h5
          exact (e1 i b li h5 k2).imp (fun e => e) fun h' => ⟨li, by simp [h, k2], h'⟩)
  exact ⟨this.1, this.2, hA _ this.1⟩
end Go.Sx

/- A plain interpreter of the model's code over values without addresses: slice expressions. -/
namespace Go.Sx
variable [Fr]
variable {P : Program} {X : Ctx} {w w' : World} {ρ : Locs}

/-- What an operation that gives a value owes. -/
def OpS (P : Program) (w : World) (ρ : Locs) (mem : Mem) (fresh : Nat) (r : OR) (s : Sem Value) : Prop := ∃ v w' ρ', s.run P w = .ok v w' ∧ Post w ρ mem fresh r v w' ρ'
theorem PureS.op {mem : Mem} {fresh : Nat} {r : OR} {s : Sem Value} (hm : MemR w ρ mem) (h : PureS P w ρ (MuOf ρ mem) r s) : OpS P w ρ mem fresh r s := by
  obtain ⟨v, h1, h2, h3, h4⟩ := h
  obtain ⟨a, upd, new⟩ := r
  simp only at h2 h3; subst h2; subst h3
  exact ⟨v, w, ρ, h1, Post.pure hm h4⟩
theorem RowsR.sub {M : Mut} {sz n : Nat} {row : Nat → List D} {b o l h : Nat} (hr : RowsR w M sz n row b o) (hlh : l < h) (hn : h ≤ n) (cap : Nat) (hc : h - l ≤ cap) :
    DR w M (subD l h n row sz) (.slice (some (at_ b (o + l * sz))) (h - l) cap) := by
  obtain ⟨vs, r1, r2, r3, r4⟩ := hr
  have key : ∀ j, j < (h - l) * sz → l * sz + j < n * sz := fun j hj => by
    have e1 := Nat.mul_le_mul_right sz hn
    have e2 : (h - l) * sz + l * sz = h * sz := by rw [← Nat.add_mul]; congr 1; omega
    omega
  refine .fs sz (h - l) _ cap b _ (fun j => vs (l * sz + j)) hc (fun i hi => r1 _ (by omega)) (fun j hj => ?_) (fun j hj => ?_) fun i k x hi hx => ?_
  · rw [Nat.add_assoc]; exact r2 _ (key j hj)
  · rw [Nat.add_assoc]; exact r3 _ (key j hj)
  · have := r4 (l + i) k x (by omega) hx
    show DR w M x (vs (l * sz + (i * sz + k)))
    rwa [Nat.add_mul, Nat.add_assoc] at this
theorem slice_run {t e : TypeId} {A : Option Addr} {n cap : Nat} {lo hi : Option Value} {l h : Nat} {j : TI} (ht : P.underlying t = some (.slice e)) (hj : TIok P e j) (hb : (Instr.sliceBounds true n cap lo hi none).run P w = .ok (l, h, cap) w) :
    (Instr.sliceAt t (.slice A n cap) lo hi none).run P w = .ok (.slice (if cap = l then A else A.map (·.add (l * j.size))) (h - l) (cap - l)) w := by
  simp [Instr.sliceAt, Instr.slice, run_underlying' ht, hb, hj.run_sizeOf]
theorem sliceArr_run {t e : TypeId} {n : Nat} {lo hi : Option Value} {l h : Nat} {j : TI} (ht : P.underlying t = some (.array n e)) (hj : TIok P e j) (hb : (Instr.sliceBounds false n n lo hi none).run P w = .ok (l, h, n) w) (b o : Nat) :
    (Instr.sliceAt t (.pointer (some (at_ b o))) lo hi none).run P w = .ok (.slice (some (if n = l then at_ b o else at_ b (o + l * j.size))) (h - l) (n - l)) w := by
  simp [Instr.sliceAt, run_underlying' ht, Instr.sureAddr, hb, hj.run_sizeOf, at_add]
theorem take_flatten {α : Type} (rows : List (List α)) (h j : Nat) (x : α) (hx : (rows.take h).flatten[j]? = some x) : rows.flatten[j]? = some x := by
  have e : rows.flatten = (rows.take h).flatten ++ (rows.drop h).flatten := by rw [← List.flatten_append, List.take_append_drop]
  rw [e, List.getElem?_append_left (List.getElem?_eq_some_iff.1 hx).1]
  exact hx
theorem CellsAt.take {w : World} {R R' : C → Value → Prop} {rows : List (List C)} {b o : Nat} (h : CellsAt w R rows.flatten b o) (n : Nat) (hR : ∀ x v, R x v → R' x v) : CellsAt w R' (rows.take n).flatten b o :=
  fun j x hj => let ⟨v, p, q⟩ := h j x (take_flatten _ _ _ _ hj); ⟨v, p, hR _ _ q⟩
theorem Room.less {w : World} {l l' : Loc} {b o u u' : Nat} (h : Room w l b o u) (hc : l'.cap = l.cap) (hs : l'.sz = l.sz) (hu : u' ≤ u) : Room w l' b o u' := by
  obtain ⟨arr, el, h1, h2, h3⟩ := h
  exact ⟨arr, el, h1, by rw [hc, hs]; omega, by rw [hc, hs]; exact h3⟩
theorem opSlice_sound (hok : Ok P X) {mem : Mem} {fresh : Nat} (hm : MemR w ρ mem) (hf : Free ρ mem fresh 1) {arr : Nat} {t : TypeId} {x : AV} {lo hi mx : Option AV} {r : OR} (h : (opSlice X arr t x lo hi mx mem fresh).run = some r)
    {v : Value} {vlo vhi vmx : Option Value} (hx : AR w ρ (MuOf ρ mem) x v) (hlo : ∀ a, lo = some a → ∃ v, vlo = some v ∧ AR w ρ (MuOf ρ mem) a v) (hlo0 : lo = none → vlo = none)
    (hhi : ∀ a, hi = some a → ∃ v, vhi = some v ∧ AR w ρ (MuOf ρ mem) a v) (hhi0 : hi = none → vhi = none) (hmx : mx = none → vmx = none) : OpS P w ρ mem fresh r (Instr.sliceAt t v vlo vhi vmx) := by
  unfold opSlice at h
  split at h
  · cases h
  rename_i hmx'
  obtain rfl := hmx (by simpa using hmx')
  have bnd : ∀ {len cap l h' : Nat} (isS : Bool), len ≤ cap → (boundsA len lo hi).run = some (l, h') → (Instr.sliceBounds isS len cap vlo vhi none).run P w = .ok (l, h', cap) w ∧ l ≤ h' ∧ h' ≤ len := fun isS hc hb =>
    boundsA_sound hc hb hlo hlo0 hhi hhi0 isS
  split at h
  · rename_i s hu
    have ht := hok.under hu
    cases hx
    obtain ⟨⟨l, h'⟩, h1, h2⟩ := bind_some h
    obtain ⟨h3, _⟩ := bnd false (Nat.le_refl _) h1
    exact PureS.op hm (.mk' h2 (by simp [Instr.sliceAt, Instr.slice, run_underlying' ht, h3]) (AR.const ..))
  · rename_i e a hu
    have ht := hok.under hu
    split at h
    · cases h
    rename_i j hj
    have hj' := hok.ti _ _ hj
    split at h
    · rename_i id off n
      obtain ⟨l, b, o, ad, cap, h1, h2, rfl, hcap, h8⟩ := hx
      obtain ⟨⟨l', h'⟩, h3, h4⟩ := bind_some h
      obtain ⟨h5, h6, h7⟩ := bnd true hcap h3
      refine PureS.op hm (.mk' h4 (slice_run ht hj' h5) ⟨l, b, o, _, _, h1, h2, rfl, by omega, fun hne => ?_⟩)
      have hne : h' - l' ≠ 0 := hne
      obtain rfl := h8 (by omega)
      rw [if_neg (by omega)]
      simp [at_add, Nat.add_assoc]
    · split at h
      · rename_i id sz n ha
        obtain ⟨rfl, l, h1, rfl, h2, hsz, h3⟩ := isArr_sound hm ha hx
        split at h
        · cases h
        rename_i harr
        obtain ⟨⟨l', h'⟩, h4, h5⟩ := bind_some h
        obtain ⟨h6, h7⟩ := guard_some h5
        obtain rfl : l' = 0 := by simpa using h6
        obtain ⟨h8, h9, h10⟩ := bnd true (h2 ▸ l.le) h4
        have hrun := slice_run (A := l.a) ht hj' h8
        have hv : (if l.cap = 0 then l.a else l.a.map (·.add (0 * j.size))) = l.a := by
          split
          · rfl
          · cases l.a <;> simp [Addr.add]
        rw [hv] at hrun
        simp only [Nat.sub_zero] at hrun
        have hle : h' ≤ l.cap := by have := l.le; omega
        split at h7
        · rename_i sz' rows hb
          injection h7 with h7; subst h7
          obtain ⟨l'', k1, k2, k3, kz, k4⟩ := hm.get hb (by simp)
          rw [h1] at k1; injection k1 with k1; subst k1
          refine ⟨_, w, _, hrun, Post.full ⟨l.a, h', l.cap, l.sz, hle⟩ hm hf (fun _ => False) (Touch.none _ _) ⟨?_⟩ (fun _ h => h.elim) ?_ ?_ ?_ ?_⟩
          · rintro i b hi
            obtain ⟨rfl, rfl⟩ := Prod.mk.inj (List.mem_singleton.1 hi)
            exact ⟨_, l, hb, h1, fun h => Bool.noConfusion h, fun c o h => False.elim h⟩
          · intro n' _ hn'
            refine .inr ⟨id, _, _, l, List.mem_singleton.2 rfl, hb, rfl, h1, hn', fun b' hb' => ?_⟩
            obtain ⟨_, rfl⟩ := Prod.mk.inj (List.mem_singleton.1 hb'); rfl
          · rintro c o ⟨b', o', e1, rfl⟩ _
            exact ⟨id, _, l, hb, h1, c, o', e1, rfl⟩
          · intro M' he _
            have hle' : ρ.le (fun i => if i = fresh then some (⟨l.a, h', l.cap, l.sz, hle⟩ : Loc) else ρ i) := fun i x hx => by
              have hne : i ≠ fresh := by
                rintro rfl
                have := (hf 0 (by omega)).2
                simp only [Nat.add_zero] at this
                rw [this] at hx; cases hx
              simp [hne, hx]
            refine ⟨fun i b li hi hli => ?_, ?_⟩
            · obtain ⟨rfl, rfl⟩ := Prod.mk.inj (List.mem_singleton.1 hi); exact .inl rfl
            · refine ⟨k2, by simp; omega, fun r hr => kz r (List.mem_of_mem_take hr), k4.imp (fun ⟨p, q, r⟩ => ⟨by rw [p, List.take_nil], q, r⟩) ?_⟩
              rintro ⟨b, o, p, q, s⟩
              refine ⟨b, o, p, ?_, s.less rfl rfl (Nat.mul_le_mul_right _ (by simp; omega))⟩
              exact q.take _ fun _ _ => CR.mono he hle'
          · intro M' he
            exact ⟨_, by simp; rfl, rfl⟩
        · rename_i sz' rows hb
          injection h7 with h7; subst h7
          obtain ⟨l'', k1, k2, k3, kz, k4⟩ := hm.get hb (by simp)
          rw [h1] at k1; injection k1 with k1; subst k1
          refine ⟨_, w, _, hrun, Post.full ⟨l.a, h', l.cap, l.sz, hle⟩ hm hf (fun _ => False) (Touch.none _ _) ⟨?_⟩ (fun _ h => h.elim) ?_ ?_ ?_ ?_⟩
          · rintro i b hi
            obtain ⟨rfl, rfl⟩ := Prod.mk.inj (List.mem_singleton.1 hi)
            exact ⟨_, l, hb, h1, fun h => Bool.noConfusion h, fun c o h => False.elim h⟩
          · intro n' _ hn'
            refine .inr ⟨id, _, _, l, List.mem_singleton.2 rfl, hb, rfl, h1, hn', fun b' hb' => ?_⟩
            obtain ⟨_, rfl⟩ := Prod.mk.inj (List.mem_singleton.1 hb'); rfl
          · rintro c o ⟨b', o', e1, rfl⟩ _
            exact ⟨id, _, l, hb, h1, c, o', e1, rfl⟩
          · intro M' he _
            have hle' : ρ.le (fun i => if i = fresh then some (⟨l.a, h', l.cap, l.sz, hle⟩ : Loc) else ρ i) := fun i x hx => by
              have hne : i ≠ fresh := by
                rintro rfl
                have := (hf 0 (by omega)).2
                simp only [Nat.add_zero] at this
                rw [this] at hx; cases hx
              simp [hne, hx]
            refine ⟨fun i b li hi hli => ?_, ?_⟩
            · obtain ⟨rfl, rfl⟩ := Prod.mk.inj (List.mem_singleton.1 hi); exact .inl rfl
            · refine ⟨⟨k2.1, fun t ht => by cases ht⟩, by simp; omega, fun r hr => kz r (List.mem_of_mem_take hr), k4.imp (fun ⟨p, q, r⟩ => ⟨by rw [p, List.take_nil], q, r⟩) ?_⟩
              rintro ⟨b, o, p, q, s⟩
              refine ⟨b, o, p, ?_, s.less rfl rfl (Nat.mul_le_mul_right _ (by simp; omega))⟩
              rw [map_flatten_d] at q ⊢
              rw [List.map_take]
              exact q.take _ fun _ _ => CR.mono he hle'
          · intro M' he
            exact ⟨_, by simp; rfl, rfl⟩
        · cases h7
      · split at h
        · rename_i sz n row hr
          obtain ⟨A, cap, rfl, hcap, h1⟩ := sliceRow_sound hm hr hx
          split at h
          · rename_i hs
            obtain ⟨⟨l', h'⟩, h3, h4⟩ := bind_some h
            obtain ⟨h5, h6, h7⟩ := bnd true hcap h3
            refine PureS.op hm (.mk' h4 (slice_run ht hj' h5) ?_)
            show DR w (MuOf ρ mem) (subD l' h' n row j.size) _
            by_cases hlt : l' < h'
            · rcases h1 with h1 | ⟨b, o, rfl, hr⟩
              · omega
              rcases hs with hs | rfl
              · omega
              rw [if_neg (by omega)]
              simp only [Option.map_some, at_add]
              exact hr.sub hlt h7 _ (by omega)
            · have : h' - l' = 0 := by omega
              simp only [subD, this]
              exact .fs0 ..
          · cases h
        · cases h
  · rename_i n e hu
    have ht := hok.under hu
    split at h
    · cases h
    rename_i j hj
    have hj' := hok.ti _ _ hj
    split at h
    · rename_i id off
      obtain ⟨l, b, o, h1, h2, rfl⟩ := hx
      obtain ⟨⟨l', h'⟩, h3, h4⟩ := bind_some h
      obtain ⟨h5, h6, h7⟩ := bnd false (Nat.le_refl _) h3
      refine PureS.op hm (.mk' h4 (sliceArr_run ht hj' h5 _ _) ⟨l, b, o, _, _, h1, h2, rfl, by omega, fun hne => ?_⟩)
      have hne : h' - l' ≠ 0 := hne
      rw [if_neg (by omega), Nat.add_assoc]
    · rename_i cs
      obtain ⟨b, o, rfl, vs, h1⟩ := hx
      split at h
      · rename_i hle
        obtain ⟨⟨l', h'⟩, h3, h4⟩ := bind_some h
        obtain ⟨h5, h6, h7⟩ := bnd false (Nat.le_refl _) h3
        refine PureS.op hm (.mk' h4 (sliceArr_run ht hj' h5 _ _) ?_)
        show DR w (MuOf ρ mem) (.fs _ _ _) _
        by_cases hlt : l' < h'
        · have hr : RowsR w (MuOf ρ mem) j.size n (fun i => (cs.drop (i * j.size)).take j.size) b o := by
            have key : ∀ i, i < n → i * j.size + j.size ≤ n * j.size := fun i hi => by
              have := Nat.mul_le_mul_right j.size (show i + 1 ≤ n by omega)
              rwa [Nat.add_mul, Nat.one_mul] at this
            refine ⟨vs, fun i hi => by have := key i hi; simp; omega, fun m hmm => ?_, fun m hmm => ?_, fun i k x hi hx => ?_⟩
            · exact (h1 m _ (List.getElem?_eq_getElem (by omega))).1
            · exact (h1 m _ (List.getElem?_eq_getElem (by omega))).2.1
            · have hk : k < j.size := by
                have := (List.getElem?_eq_some_iff.1 hx).1
                simp at this; omega
              have hx : ((cs.drop (i * j.size)).take j.size)[k]? = some x := hx
              rw [List.getElem?_take_of_lt hk, List.getElem?_drop] at hx
              exact (h1 _ x hx).2.2
          rw [if_neg (by omega)]
          have := hr.sub (l := l') (h := h') hlt h7 (n - l') (by omega)
          exact this
        · have : h' - l' = 0 := by omega
          rw [this]
          exact .fs0 ..
      · cases h
    · cases h
  · cases h
end Go.Sx

/- A plain interpreter of the model's code over values without addresses: values built and taken apart. -/
namespace Go.Sx
variable [Fr]
variable {P : Program} {X : Ctx} {w w' : World} {ρ : Locs} {M : Mut}

theorem sliceLen_sound {mem : Mem} (hm : MemR w ρ mem) {a : S} {n : Nat} (h : sliceLen a mem = some n) {v : Value} (hv : SR w ρ (MuOf ρ mem) a v) : ∃ A cap, v = .slice A n cap := by
  have loc : ∀ {id : Nat} {l : Loc} {b : Blk} {rows : Nat}, ρ id = some l → mem[id]? = some b → b ≠ .dead → (∀ l', BR w ρ (MuOf ρ mem) l' b → l'.n = rows) → ∃ A cap, Value.slice l.a l.n l.cap = .slice A rows cap := fun {id l b rows} h1 h2 h3 h4 => by
    obtain ⟨l', k1, k2⟩ := hm.get h2 h3
    rw [h1] at k1; injection k1 with k1; subst k1
    exact ⟨_, _, by rw [h4 _ k2]⟩
  unfold sliceLen at h
  split at h
  · rename_i x
    rw [Option.map_eq_some_iff] at h
    obtain ⟨⟨sz, m, row⟩, h1, rfl⟩ := h
    obtain ⟨A, cap, rfl, _⟩ := rows_sound h1 hv
    exact ⟨A, cap, rfl⟩
  · obtain ⟨l, h1, rfl⟩ := hv
    split at h
    · rename_i hb; injection h with h; subst h
      exact loc h1 hb (by simp) fun l' hl => hl.2.1
    · rename_i hb; injection h with h; subst h
      exact loc h1 hb (by simp) fun l' hl => hl.2.1
    · cases h
  · obtain ⟨l, h1, rfl⟩ := hv
    split at h
    · rename_i hb; injection h with h; subst h
      exact loc h1 hb (by simp) fun l' hl => hl.2.1
    · rename_i hb; injection h with h; subst h
      exact loc h1 hb (by simp) fun l' hl => hl.2.1
    · rename_i hb; injection h with h; subst h
      exact loc h1 hb (by simp) fun l' hl => hl.2.1
    · cases h
  · injection h with h; subst h
    obtain ⟨_, _, _, _, _, _, _, rfl, _⟩ := hv
    exact ⟨_, _, rfl⟩
  · cases h
theorem opLen_sound (hok : Ok P X) {mem : Mem} (hm : MemR w ρ mem) {t ty : TypeId} {x : AV} {r : OR} (h : (opLen X t x mem).run = some r) {v : Value} (hx : AR w ρ (MuOf ρ mem) x v) (ts : Array TypeId) (hts : ts[0]? = some t) :
    PureS P w ρ (MuOf ρ mem) r (Builtin.len_ ts ty #[v]) := by
  unfold opLen at h
  split at h
  · rename_i s hu
    cases hx
    exact .mk' h (by simp [Builtin.len_, hts, run_underlying' (hok.under hu), goInt]) (AR.const ..)
  · rename_i n e hu
    exact .mk' h (by simp [Builtin.len_, hts, run_underlying' (hok.under hu), goInt]) (AR.const ..)
  · rename_i e a hu
    split at h
    · rename_i n hn
      obtain ⟨A, cap, rfl⟩ := sliceLen_sound hm hn hx
      exact .mk' h (by simp [Builtin.len_, hts, run_underlying' (hok.under hu), goInt]) (AR.const ..)
    · cases h
  · rename_i k e hu
    cases hx
    exact .mk' h (by simp [Builtin.len_, hts, run_underlying' (hok.under hu), goInt]) (AR.const ..)
  · rename_i k e id hu
    obtain ⟨l, b, h1, h2, rfl⟩ := hx
    split at h
    · rename_i es hb
      obtain ⟨l', k1, b', ents, clock, k2, k3, ⟨es', k4, k5⟩, _⟩ := hm.get hb (by simp)
      rw [h1] at k1; injection k1 with k1; subst k1
      rw [h2] at k2; injection k2 with k2
      obtain rfl : b = b' := by simpa [at_] using k2
      have hl : ents.size = es.length := by have := k5.length; rw [k4.length_eq] at this; simpa using this.symm
      exact .mk' h (by simp [Builtin.len_, hts, run_underlying' (hok.under hu), goInt, getObj, Sem.run, k3, hl]) (AR.const ..)
    · cases h
  · cases h
theorem minmax_sound (mx : Bool) {a : AV} {l : List AV} {r : AV} (h : minmaxA mx a l = some r) {v : Value} {vs : List Value} (ha : AR w ρ M a v) (hl : All2 (AR w ρ M) l vs) :
    ∃ x, (vs.foldlM (if mx then Builtin.max2 else Builtin.min2) v).run P w = .ok x w ∧ AR w ρ M r x := by
  induction hl generalizing a v with
  | nil => simp only [minmaxA, Option.some.injEq] at h; subst h; exact ⟨v, rfl, ha⟩
  | cons hb _ ih =>
    simp only [minmaxA] at h
    split at h
    · rename_i k x k' y h1 h2
      have := intOf_some h1 ha; subst this
      have := intOf_some h2 hb; subst this
      obtain ⟨z, e1, e2⟩ := ih h (AR.const w ρ M _)
      refine ⟨z, ?_, e2⟩
      rw [List.foldlM_cons, Sem.run_bind]
      cases mx
      · simpa [Builtin.min2] using e1
      · simpa [Builtin.max2] using e1
    · cases h
theorem opField_sound (hok : Ok P X) {t : TypeId} {x : AV} {f : Nat} {r : OR}
    (h : (match under X t with
      | some (.struct fs) => match fs.toList[f]? with
        | some fd => match X.ti fd.type, x with
          | some j, .agg cs => match readPart j cs fd.offset with
            | some v => (.ret { r := v } : T OR)
            | none => .fail
          | _, _ => .fail
        | none => .fail
      | _ => .fail : T OR).run = some r) {v : Value} (hx : AR w ρ M x v) : PureS P w ρ M r (Instr.field t v f) := by
  split at h
  · rename_i fs hu
    split at h
    · rename_i fd hfd
      have hfd' : fs[f]? = some fd := by rwa [Array.getElem?_toList] at hfd
      split at h
      · rename_i j cs hj
        obtain ⟨a, rfl, hx⟩ := hx
        split at h
        · rename_i y hy
          obtain ⟨z, e1, e2⟩ := part_run (P := P) (hok.ti _ _ hj) hx hy
          exact .mk' h (by simp [Instr.field, run_underlying' (hok.under hu), hfd', asAgg, e1]) e2
        · cases h
      · cases h
    · cases h
  · cases h
theorem opIndex_sound (hok : Ok P X) {t : TypeId} {x ix : AV} {r : OR}
    (h : (match intOf ix, under X t, x with
      | some (_, i), some (.array n e), .agg cs => match X.ti e with
        | some j => T.guard (inRange i n) (match readPart j cs (i.toNat * j.size) with
          | some v => .ret { r := v }
          | none => .fail)
        | none => .fail
      | some (_, i), some .string, .c (.s (.d (.c (.string s)))) => .guard (inRange i s.size) (.ret { r := .v (.int .u8 (s.data.getD i.toNat 0).toNat) })
      | _, _, _ => .fail : T OR).run = some r) {v vi : Value} (hx : AR w ρ M x v) (hi : AR w ρ M ix vi) : PureS P w ρ M r (Instr.index t v vi) := by
  split at h
  · rename_i k i n e cs hin hu
    have := intOf_some hin hi; subst this
    obtain ⟨a, rfl, hx⟩ := hx
    split at h
    · rename_i j hj
      obtain ⟨h1, h2⟩ := guard_some h
      obtain ⟨h3, h4, h5⟩ := inRange_iff h1
      split at h2
      · rename_i y hy
        obtain ⟨z, e1, e2⟩ := part_run (P := P) (hok.ti _ _ hj) hx hy
        exact .mk' h2 (by simp [Instr.index, asIntOf, run_underlying' (hok.under hu), h3, h4, (hok.ti _ _ hj).run_sizeOf, e1]) e2
      · cases h2
    · cases h
  · rename_i k i s hin hu
    have := intOf_some hin hi; subst this
    cases hx
    obtain ⟨h1, h2⟩ := guard_some h
    obtain ⟨h3, h4, h5⟩ := inRange_iff h1
    have hs : s[i.toNat]? = some (s.data.getD i.toNat 0) := by
      have h5 : i.toNat < s.data.size := h5
      rw [getElem?_pos s i.toNat h5]
      simp only [Array.getD]
      rw [dif_pos h5]; rfl
    exact .mk' h2 (by simp [Instr.index, asIntOf, run_underlying' (hok.under hu), h3, hs]) (AR.const ..)
  · cases h
theorem TR.av {x : TV} {v : Value} (h : TR w ρ M x v) : AR w ρ M x.av v := by cases x <;> exact h
theorem AR.tv {x : AV} {y : TV} (hy : x.tv = some y) {v : Value} (h : AR w ρ M x v) : TR w ρ M y v := by
  cases x <;> simp only [AV.tv, Option.some.injEq, reduceCtorEq] at hy <;> subst hy <;> exact h
theorem opExtract_sound {t : AV} {i : Nat} {r : OR} (h : (match t with
      | .tup vs => match vs[i]? with
        | some v => (.ret { r := v.av } : T OR)
        | none => .fail
      | _ => .fail : T OR).run = some r) {v : Value} (ht : AR w ρ M t v) : PureS P w ρ M r (Instr.extract v i) := by
  split at h
  · obtain ⟨a, rfl, ht⟩ := ht
    split at h
    · rename_i y hy
      obtain ⟨z, h1, h2⟩ := ht.get i hy
      rw [Array.getElem?_toList] at h1
      exact .mk' h (by simp [Instr.extract, h1]) h2.av
    · cases h
  · cases h

/-! ### Building -/
theorem set_one (a : Array Value) (p : Nat) (v : Value) (h : p < a.size) : a.setIfInBounds p v = patch a p [v] := by
  apply Array.ext_getElem?
  intro j
  rw [patch_get (by simp; omega)]
  simp only [List.length_singleton, Array.getElem?_setIfInBounds]
  by_cases hj : p = j
  · subst hj; simp [h]
  · rw [if_neg hj, if_neg (by omega)]
theorem patch_patch (a : Array Value) (p : Nat) (v : Value) (l : List Value) (h : p + (l.length + 1) ≤ a.size) : patch (patch a p [v]) (p + 1) l = patch a p (v :: l) := by
  have h1 : (patch a p [v]).size = a.size := patch_size (by simp; omega)
  apply Array.ext_getElem?
  intro j
  rw [patch_get (by rw [h1]; omega), patch_get (by simp; omega), patch_get (by simp; omega)]
  simp only [List.length_cons, List.length_nil]
  by_cases h2 : p + 1 ≤ j ∧ j < p + 1 + l.length
  · rw [if_pos h2, if_pos (by omega), show j - p = (j - (p + 1)) + 1 by omega]; simp
  · rw [if_neg h2]
    by_cases h3 : j = p
    · subst h3; simp
    · rw [if_neg (by omega), if_neg (by omega)]
theorem fold_patch (l : List Value) (off k : Nat) (a : Array Value) (h : off + k + l.length ≤ a.size) :
    ((l.zipIdx k).foldl (fun cs (c, j) => cs.setIfInBounds (off + j) c) a) = patch a (off + k) l := by
  induction l generalizing k a with
  | nil => simp [patch]
  | cons v l ih =>
    simp only [List.zipIdx_cons, List.foldl_cons]
    rw [set_one _ _ _ (by simp at h; omega)]
    have hs : (patch a (off + k) [v]).size = a.size := patch_size (by simp at h ⊢; omega)
    rw [ih (k + 1) _ (by rw [hs]; simp at h; omega), ← Nat.add_assoc, patch_patch _ _ _ _ (by simpa using h)]
theorem fill_sound {place : Nat → Option (Nat × Nat)} {cells : List C} {parts : List (Nat × AV)} {out : List C} (h : fillA place cells parts = some out) {arr : Array Value} {vs : List (Nat × Value)}
    (hc : All2 (CR w ρ M) cells arr.toList) (hp : All2 (fun (p : Nat × AV) (q : Nat × Value) => p.1 = q.1 ∧ AR w ρ M p.2 q.2) parts vs) :
    ∃ a, Instr.fill place arr vs = some a ∧ All2 (CR w ρ M) out a.toList := by
  induction hp generalizing cells arr with
  | nil => simp only [fillA, Option.some.injEq] at h; subst h; exact ⟨arr, rfl, hc⟩
  | @cons p q ps qs hpq _ ih =>
    obtain ⟨i, v⟩ := p
    obtain ⟨i', x⟩ := q
    obtain ⟨rfl, hv⟩ := hpq
    simp only [fillA] at h
    split at h
    · rename_i off size cs h1 h2
      split at h
      · rename_i h3
        simp only [Bool.and_eq_true, decide_eq_true_eq] at h3
        split at h
        · rename_i cells' hw
          obtain ⟨hle, rfl⟩ := writePart_some hw
          obtain ⟨hx, _⟩ := cells_sound hv h2 h3.2
          have hl := hx.length
          have hl2 := hc.length
          simp at hl hl2
          obtain ⟨a, e1, e2⟩ := ih (arr := patch arr off x.cells.toList) h (by
            rw [patch_toList]
            have : x.cells.toList.length = cs.length := by simp [hl]
            rw [this]
            exact ((hc.take off).append hx).append (hc.drop _))
          refine ⟨a, ?_, e2⟩
          simp only [Instr.fill, h1]
          rw [if_neg (by simp; omega)]
          have hf := fold_patch x.cells.toList off 0 arr (by simp; omega)
          simp only [Nat.add_zero] at hf
          rw [← hf] at e1
          rw [← e1]
          congr 1
          rw [← Array.foldl_toList, Array.toList_zipIdx]
        · cases h
      · cases h
    · cases h
theorem zero_cells {t : TypeId} {i : TI} (hi : TIok P t i) : ∃ z, (zeroValue t).run P w = .ok z w ∧ All2 (CR w ρ M) (i.zero.map fun v => .d (.c v)) z.cells.toList ∧ (if i.agg then ∃ c, z = .agg c else z.cells = #[z]) := by
  obtain ⟨z, h1, h2, h3⟩ := hi.run_zero (w := w)
  exact ⟨z, h1, by rw [h2]; exact All2.consts w ρ M i.zero, h3⟩
theorem parts_rel {env : Env} {a : Act} (he : EnvR w ρ M env a.tmps) (hg : GlobR X w M) (parts : Array (Nat × Operand)) :
    All2 (fun (p : Nat × AV) (q : Nat × Value) => p.1 = q.1 ∧ AR w ρ M p.2 q.2) (parts.toList.map fun p => (p.1, evalO X env p.2)) (parts.map fun (i, x) => (i, a.eval x)).toList := by
  rw [Array.toList_map]
  generalize parts.toList = l
  induction l with
  | nil => exact .nil
  | cons p l ih => exact .cons ⟨rfl, evalO_sound he hg p.2⟩ ih
theorem run_mapM {α β : Type} (f : α → Sem β) (g : α → β) (l : List α) (h : ∀ x, x ∈ l → (f x).run P w = .ok (g x) w) : (l.mapM f).run P w = .ok (l.map g) w := by
  induction l with
  | nil => rfl
  | cons x l ih =>
    rw [List.mapM_cons, Sem.run_bind, h x (by simp), Result.andThen_ok, Sem.run_bind, ih fun y hy => h y (by simp [hy])]
    rfl
theorem run_mapM_array {α β : Type} (f : α → Sem β) (g : α → β) (l : Array α) (h : ∀ x, x ∈ l.toList → (f x).run P w = .ok (g x) w) : (l.mapM f).run P w = .ok (l.map g) w := by
  rw [Array.mapM_eq_mapM_toList, Sem.run_map, run_mapM f g l.toList h]
  simp only [Result.andThen_ok, Result.ok.injEq, and_true]
  apply Array.ext'
  simp
theorem opBuild_sound (hok : Ok P X) {env : Env} {a : Act} (he : EnvR w ρ M env a.tmps) (hg : GlobR X w M) {t : TypeId} {parts : Array (Nat × Operand)} {r : OR}
    (h : (match X.ti t, under X t with
    | some i, some (.struct fs) => if !(fs.toList.all fun f => (X.ti f.type).isSome) then .fail else match fillA (structPlace X fs) (i.zero.map fun v => .s (.d (.c v))) (parts.toList.map fun p => (p.1, evalO X env p.2)) with
      | some cs => .ret { r := .agg cs }
      | none => .fail
    | some i, some (.array _ e) => match X.ti e with
      | some j => match fillA (fun i => some (i * j.size, j.size)) (i.zero.map fun v => .s (.d (.c v))) (parts.toList.map fun p => (p.1, evalO X env p.2)) with
        | some cs => .ret { r := .agg cs }
        | none => .fail
      | none => .fail
    | _, _ => .fail : T OR).run = some r) : PureS P w ρ M r (Instr.build t (parts.map fun (i, x) => (i, a.eval x))) := by
  have hp := parts_rel (X := X) he hg parts
  split at h
  · rename_i i fs hi hu
    obtain ⟨z, z1, z2, _⟩ := zero_cells (P := P) (w := w) (ρ := ρ) (M := M) (hok.ti _ _ hi)
    split at h
    · cases h
    rename_i hall
    have hall : ∀ f, f ∈ fs.toList → (X.ti f.type).isSome = true := List.all_eq_true.1 (by simpa only [Bool.not_eq_true', Bool.not_eq_false] using hall)
    split at h
    · rename_i cs hcs
      obtain ⟨c, e1, e2⟩ := fill_sound hcs z2 hp
      refine .mk' h ?_ ⟨c, rfl, e2⟩
      have hpl : structPlace X fs = fun i => (fs.map fun f => (f.offset, ((X.ti f.type).map (·.size)).getD 0))[i]? := by
        funext i
        unfold structPlace
        rw [Array.getElem?_toList, Array.getElem?_map]
        cases hf : fs[i]? with
        | none => rfl
        | some f =>
          obtain ⟨j, hj⟩ := Option.isSome_iff_exists.1 (hall f (by rw [← Array.getElem?_toList] at hf; exact List.mem_of_getElem? hf))
          simp [hj]
      have hpm := run_mapM_array (P := P) (w := w) (fun f : Field => do pure (f.offset, ← sizeOf f.type)) (fun f => (f.offset, ((X.ti f.type).map (·.size)).getD 0)) fs fun f hf => by
        obtain ⟨j, hj⟩ := Option.isSome_iff_exists.1 (hall f hf)
        simp [hj, (hok.ti _ _ hj).run_sizeOf]
      rw [hpl] at e1
      simp only [Array.toList_map] at e1
      simp only [Instr.build, Sem.run_bind, z1, run_underlying' (hok.under hu), Result.andThen_ok, hpm, Array.toList_map]
      rw [e1]; rfl
    · cases h
  · rename_i i n e hi hu
    obtain ⟨z, z1, z2, _⟩ := zero_cells (P := P) (w := w) (ρ := ρ) (M := M) (hok.ti _ _ hi)
    split at h
    · rename_i j hj
      split at h
      · rename_i cs hcs
        obtain ⟨c, e1, e2⟩ := fill_sound hcs z2 hp
        refine .mk' h ?_ ⟨c, rfl, e2⟩
        simp only [Array.toList_map] at e1
        simp [Instr.build, z1, run_underlying' (hok.under hu), (hok.ti _ _ hj).run_sizeOf, e1]
      · cases h
    · cases h
  · cases h
end Go.Sx

/- A plain interpreter of the model's code over values without addresses: conversions. -/
namespace Go.Sx
variable [Fr]
variable {P : Program} {X : Ctx} {w w' : World} {ρ : Locs} {M : Mut}

theorem numsOf_get {rows : List (List D)} {xs : List Int} (h : numsOf rows = some xs) : rows = xs.map fun n => [D.c (.int .u8 n)] := by
  induction rows generalizing xs with
  | nil => simp only [numsOf, Option.some.injEq] at h; subst h; rfl
  | cons r rows ih =>
    unfold numsOf at h
    split at h
    · rename_i heq; cases heq
    · rename_i n l he
      injection he with h1 h2; subst h1; subst h2
      rw [Option.map_eq_some_iff] at h
      obtain ⟨ys, h3, rfl⟩ := h
      rw [ih h3]; rfl
    · cases h
theorem numsOfCells_get {cs : List C} {xs : List Int} (h : numsOfCells cs = some xs) : cs = xs.map fun n => C.d (.c (.int .u8 n)) := by
  induction cs generalizing xs with
  | nil => simp only [numsOfCells, Option.some.injEq] at h; subst h; rfl
  | cons r rows ih =>
    unfold numsOfCells at h
    split at h
    · rename_i heq; cases heq
    · rename_i n l he
      injection he with h1 h2; subst h1; subst h2
      rw [Option.map_eq_some_iff] at h
      obtain ⟨ys, h3, rfl⟩ := h
      rw [ih h3]; rfl
    · cases h
theorem bytes_run {src dst e : TypeId} (hs : P.underlying src = some (.slice e)) (he : P.underlying e = some (.int .u8)) (hd : P.underlying dst = some .string) {A : Option Addr} {n cap : Nat} {xs : List Int} (hn : xs.length = n)
    (h : n = 0 ∨ ∃ b o, A = some (at_ b o) ∧ ∀ i, i < n → w.cell? (at_ b (o + i)) = some (.int .u8 (xs.getD i 0))) : (convert src dst (.slice A n cap)).run P w = .ok (.string (strNums xs)) w := by
  have hstr : strNums xs = strOfNums xs := rfl
  rw [hstr]
  rcases h with rfl | ⟨b, o, rfl, h⟩
  · obtain rfl : xs = [] := List.eq_nil_of_length_eq_zero hn
    cases A with
    | none => exact run_convert_bytes_nil w src e hs he 0 cap dst hd
    | some a =>
      rw [run_convert_bytes_string w src dst e _ 0 cap hs he hd]
      simp [Conv.bytesToString, loadCells, loadCellsFrom, strOfNums]
      rfl
  · exact run_convert_bytes_arg w src e hs he b o n cap xs hn h dst hd
def Still (w w' : World) : Prop := w'.tape = w.tape ∧ w'.os = w.os ∧ w'.output = w.output ∧ w.heap.size ≤ w'.heap.size ∧ ∀ b, b < w.heap.size → w'.heap[b]? = w.heap[b]?
theorem Still.touch {w w' : World} (h : Still w w') (M : Mut) : Touch w w' M (fun _ => False) := ⟨h.1, h.2.1, h.2.2.1, h.2.2.2.1, fun b hb _ => h.2.2.2.2 b hb, fun _ _ _ _ h => h.elim, fun _ h => h.elim⟩
theorem Post.still {w w' : World} {ρ : Locs} {mem : Mem} {fresh : Nat} (hm : MemR w ρ mem) (hs : Still w w') {r : AV} {v : Value} (ha : AR w' ρ (MuOf ρ mem) r v) : Post w ρ mem fresh { r } v w' ρ := by
  refine ⟨Locs.le_refl _, fun _ _ => rfl, fun mem' hL => ?_⟩
  obtain rfl : mem' = mem := hL.none
  have := hm.next (w' := w') (mem' := mem') (Locs.le_refl ρ) (fun _ => False) (fun _ => False) (hs.touch _) (fun _ _ => ⟨rfl, rfl⟩) (fun _ _ _ _ _ _ _ _ _ h => h) (fun _ _ _ _ _ h => h.elim) (fun _ _ _ _ h => h.elim)
    (fun _ _ _ _ _ _ _ h => h.elim) (fun _ h => h.elim) (fun _ _ _ h => h.elim)
  exact ⟨this.1, this.2, ha⟩
theorem bytes_rel {mem : Mem} (hm : MemR w ρ mem) {e : TypeId} (s : ByteArray) (cap : Nat) (hc : s.size ≤ cap) (fz : Nat × Nat) :
    DR (w.drew.alloc (.cells (bytesRow s cap) e fz)) (MuOf ρ mem) (.fs 1 s.size fun i => [.c (.int .u8 (s.data.getD i 0).toNat)]) (.slice (some (at_ w.heap.size 0)) s.size cap) := by
  refine .fs 1 s.size _ cap w.heap.size 0 (fun j => .int .u8 ((s.data.getD j 0).toNat)) hc (fun _ _ => rfl) (fun j hj => ?_) (fun j hj => ⟨fun h => ?_, fun h => ?_⟩) fun i k x hi hx => ?_
  · have hj : j < s.data.size := by simpa using hj
    have := bytesRow_at s cap j hj
    simp only [World.cell?, at_, World.alloc, World.drew, Nat.zero_add, Array.getElem?_push_size]
    rw [show (bytesRow s cap)[j]? = _ from this]
    simp only [Array.getD, dif_pos hj]
    rfl
  · have := hm.mu_lt h; omega
  · have := hm.flt _ _ h; omega
  · cases k with
    | zero =>
      simp only [List.getElem?_cons_zero, Option.some.injEq] at hx; subst hx
      show DR _ _ _ (.int .u8 ((s.data.getD (i * 1 + 0) 0).toNat))
      rw [Nat.mul_one, Nat.add_zero]
      exact .c _
    | succ k => simp at hx
theorem lies_self {u : TypeId} (hc : P.cellsOf u ≠ 0) : liesAt P P.depth u 1 0 u 1 = true := by
  have hd : P.depth = (2 * (P.types.size + Made.depth) + 1) + 1 := rfl
  rw [hd]
  simp only [liesAt, Bool.or_eq_true]
  left
  rw [hd]
  simp [rowAt, hc, sameLayout]
theorem opConvert_sound (hok : Ok P X) {mem : Mem} {fresh : Nat} (hm : MemR w ρ mem) (hf : Free ρ mem fresh 1) {src dst : TypeId} {x : AV} {r : OR} (h : (opConvert X src dst x mem fresh).run = some r) {v : Value} (hx : AR w ρ (MuOf ρ mem) x v) :
    OpS P w ρ mem fresh r (convert src dst v) := by
  unfold opConvert at h
  split at h
  · rename_i d k k' n h1 h2
    cases hx
    refine PureS.op hm (.mk' h ?_ (AR.const ..))
    have e1 := run_underlying' (w := w) (hok.under h1)
    have e2 := run_underlying' (w := w) (hok.under h2)
    simp only [convert, Sem.run_bind, e1, e2, Result.andThen_ok]
    rfl
  · rename_i k k' n h1 h2
    cases hx
    refine PureS.op hm (.mk' h ?_ (AR.const ..))
    simp [convert, run_underlying' (hok.under h1), run_underlying' (hok.under h2), Conv.intToString]
  · rename_i s h1 h2
    cases hx
    refine PureS.op hm (.mk' h ?_ (AR.const ..))
    simp [convert, run_underlying' (hok.under h1), run_underlying' (hok.under h2)]
  · rename_i e s h1 h2
    cases hx
    split at h
    · rename_i he
      injection h with h; subst h
      have hst : Still w (w.drew.alloc (.cells (bytesRow s (grownCap w s.size 0 e)) e ((bytesRow s (grownCap w s.size 0 e)).size, (bytesRow s (grownCap w s.size 0 e)).size + 1))) :=
        ⟨rfl, rfl, rfl, by show w.heap.size ≤ (w.heap.push _).size; rw [Array.size_push]; omega, fun b hb => by show (w.heap.push _)[b]? = _; rw [Array.getElem?_push, if_neg (by omega)]⟩
      exact ⟨_, _, ρ, run_bytes_of_string w src dst e s (hok.under h1) (hok.under h2) (hok.under he), Post.still hm hst (bytes_rel hm s _ (grownCap_ge ..) _)⟩
    · cases h
  · rename_i e a h1 h2
    have u1 := hok.under h1
    have u2 := hok.under h2
    split at h
    · rename_i j he hj
      have u3 := hok.under he
      split at h
      · rename_i hj1
        split at h
        · rename_i id off n
          obtain ⟨l, b, o, ad, cap, k1, k2, rfl, kc, k3⟩ := hx
          split at h
          · rename_i cs ty hb
            split at h
            · rename_i hle
              split at h
              · rename_i xs hxs
                have hcs := numsOfCells_get hxs
                have hlen : xs.length = n := by
                  have := congrArg List.length hcs
                  simp at this; omega
                obtain ⟨l', q1, b', arr, el, q2, q3, q0, q4⟩ := hm.get hb (by simp)
                rw [k1] at q1; injection q1 with q1; subst q1
                rw [k2] at q2; injection q2 with q2
                obtain ⟨rfl, rfl⟩ : b = b' ∧ o = 0 := by simpa [at_] using q2
                refine PureS.op hm (.mk' h (bytes_run u1 u3 u2 hlen ?_) (AR.const ..))
                by_cases h0 : n = 0
                · exact .inl h0
                · refine .inr ⟨b, 0 + off, k3 h0, fun i hi => ?_⟩
                  have hc : cs[off + i]? = some (C.d (.c (.int .u8 (xs.getD i 0)))) := by
                    have : ((cs.drop off).take n)[i]? = some (C.d (.c (.int .u8 (xs.getD i 0)))) := by
                      rw [hcs]; simp [List.getD, show i < xs.length by omega]
                    rwa [List.getElem?_take_of_lt hi, List.getElem?_drop] at this
                  obtain ⟨y, e1, e2⟩ := cells_at q3 q4 _ _ hc
                  cases e2
                  rwa [Nat.zero_add] at e1 ⊢
              · cases h
            · cases h
          · cases h
        · split at h
          · rename_i sz n row hr
            obtain ⟨A, cap, rfl, hcap, hrr⟩ := sliceRow_sound hm hr hx
            split at h
            · rename_i hsz
              split at h
              · rename_i xs hxs
                have hcs := numsOf_get hxs
                have hlen : xs.length = n := by
                  have := congrArg List.length hcs
                  simp at this; omega
                refine PureS.op hm (.mk' h (bytes_run u1 u3 u2 hlen ?_) (AR.const ..))
                rcases hrr with h0 | ⟨b, o, rfl, vs, r1, r2, r3, r4⟩
                · exact .inl h0
                · rcases hsz with h0 | rfl
                  · exact .inl h0
                  · refine .inr ⟨b, o, rfl, fun i hi => ?_⟩
                    have hrow : row i = [D.c (.int .u8 (xs.getD i 0))] := by
                      have : ((List.range n).map row)[i]? = (xs.map fun n => [D.c (.int .u8 n)])[i]? := by rw [hcs]
                      simpa [hi, List.getD, show i < xs.length by omega] using this
                    have e1 := r2 i (by omega)
                    have e2 := r4 i 0 (.c (.int .u8 (xs.getD i 0))) hi (by rw [hrow]; rfl)
                    have e3 : vs (i * 1 + 0) = .int .u8 (xs.getD i 0) := by
                      generalize vs (i * 1 + 0) = y at e2
                      cases e2; rfl
                    simp only [Nat.mul_one, Nat.add_zero] at e3
                    rw [e1, e3]
              · cases h
            · cases h
          · cases h
      · cases h
    · cases h
  · rename_i e id off h1 h2
    obtain ⟨l, b, o, k1, k2, rfl⟩ := hx
    split at h
    · rename_i j cs ty hj hb
      split at h
      · rename_i hc
        obtain ⟨l', q1, b', arr, el, q2, q3, q0, q4⟩ := hm.get hb (by simp)
        rw [k1] at q1; injection q1 with q1; subst q1
        rw [k2] at q2; injection q2 with q2
        obtain ⟨rfl, rfl⟩ : b = b' ∧ o = 0 := by simpa [at_] using q2
        obtain ⟨f, f1, f2, _⟩ := (hok.ti _ _ hj).info
        have hl : cs.length = arr.size := by have := q4.length; simpa using this
        refine PureS.op hm (.mk' h (Go.Lib.run_to_unsafe w (at_ b (0 + off)) (hok.under h1) (hok.under h2) f1 (by rw [f2]; exact hc.1) (e := el) (cells := arr.size) ?_ ?_) ⟨l, b, 0, k1, k2, rfl⟩)
        · simp [World.shape?, at_, q3]
        · show 0 + off < arr.size
          rw [← hl]; omega
      · cases h
    · cases h
  · rename_i u id off h1 h2
    obtain ⟨l, b, o, k1, k2, rfl⟩ := hx
    split at h
    · rename_i j cs t hj hb
      split at h
      · rename_i hc
        obtain ⟨rfl, rfl, hj0, hjl⟩ := hc
        obtain ⟨l', q1, b', arr, el, q2, q3, q0, q4⟩ := hm.get hb (by simp)
        rw [k1] at q1; injection q1 with q1; subst q1
        rw [k2] at q2; injection q2 with q2
        obtain ⟨rfl, rfl⟩ : b = b' ∧ o = 0 := by simpa [at_] using q2
        obtain ⟨f, f1, f2, _⟩ := (hok.ti _ _ hj).info
        have hl : cs.length = arr.size := by have := q4.length; simpa using this
        have hel := q0 _ rfl
        subst hel
        have hco : P.cellsOf el = j.size := by simp [Program.cellsOf, f1, f2]
        refine PureS.op hm (.mk' h (Go.Lib.run_from_unsafe w (at_ b (0 + 0)) (hok.under h1) (hok.under h2) f1 (e := el) (cells := arr.size) ?_ ?_) ⟨l, b, 0, k1, k2, rfl⟩)
        · simp [World.shape?, at_, q3]
        · rw [hco, show arr.size = j.size by omega, Nat.div_self (by omega)]
          exact lies_self (by rw [hco]; exact hj0)
      · cases h
    · cases h
  · cases h
end Go.Sx

/- A plain interpreter of the model's code over values without addresses: new blocks. -/
namespace Go.Sx
variable [Fr]
variable {P : Program} {X : Ctx} {w w' : World} {ρ : Locs} {M : Mut}

def boxLoc (w : World) : Loc := ⟨some (at_ w.heap.size 0), 0, 0, 0, Nat.le_refl _⟩
theorem at_zero (n : Nat) : (⟨n, 0, none⟩ : Addr) = at_ n 0 := rfl
theorem free_le {mem : Mem} {fresh : Nat} (hf : Free ρ mem fresh 1) (l : Loc) : ρ.le (fun i => if i = fresh then some l else ρ i) := fun i x hx => by
  have hne : i ≠ fresh := by
    rintro rfl
    have := (hf 0 (by omega)).2
    simp only [Nat.add_zero] at this
    rw [this] at hx; cases hx
  simp [hne, hx]
/-- A new block of cells that may be written. -/
theorem Post.newCells {mem : Mem} {fresh : Nat} (hm : MemR w ρ mem) (hf : Free ρ mem fresh 1) {cs : List C} {arr : Array Value} (el : TypeId) {ty : Option TypeId} (hty : ∀ t, ty = some t → el = t) (hc : All2 (CR w ρ (MuOf ρ mem)) cs arr.toList)
    {a : AV} {v : Value} (ha : ∀ w' M', AR w' (fun i => if i = fresh then some (boxLoc w) else ρ i) M' a v) :
    Post w ρ mem fresh { r := a, new := [.cells cs ty] } v { w with heap := w.heap.push (.cells arr el), drawn := w.drawn } (fun i => if i = fresh then some (boxLoc w) else ρ i) := by
  refine Post.alloc (boxLoc w) hm hf (.inl rfl) (fun M' he _ => ?_) fun M' => ha _ _
  exact ⟨w.heap.size, arr, el, rfl, by simp, hty, hc.mono fun _ _ _ => CR.mono he (free_le hf _)⟩
theorem run_newRow (el : TypeId) (arr : Array Value) : (newRow el arr).run P w = .ok (at_ w.heap.size 0) { w with heap := w.heap.push (.cells arr el), drawn := w.drawn } := rfl
theorem opAlloc_sound (hok : Ok P X) {mem : Mem} {fresh : Nat} (hm : MemR w ρ mem) (hf : Free ρ mem fresh 1) {e : TypeId} {i : TI} (hi : X.ti e = some i) :
    OpS P w ρ mem fresh { r := .s (.ptr fresh 0), new := [.cells (i.zero.map fun v => .d (.c v)) (some e)] } (Instr.alloc e true (.tuple #[])) := by
  obtain ⟨z, z1, z2, _⟩ := zero_cells (P := P) (w := w) (ρ := ρ) (M := MuOf ρ mem) (hok.ti _ _ hi)
  refine ⟨.pointer (some (at_ w.heap.size 0)), _, _, ?_, Post.newCells hm hf e (fun t ht => by injection ht) z2 fun w' M' => ⟨boxLoc w, w.heap.size, 0, by simp, rfl, rfl⟩⟩
  simp only [Instr.alloc, Sem.run_bind, z1, Result.andThen_ok, newVar, run_newRow]
  rfl
theorem opBox_sound {mem : Mem} {fresh : Nat} (hm : MemR w ρ mem) (hf : Free ρ mem fresh 1) {e : TypeId} {x : AV} {cs : List C} (hc : x.cells = some cs) (hs : solid cs = true) {v : Value} (hx : AR w ρ (MuOf ρ mem) x v) :
    OpS P w ρ mem fresh { r := .s (.ptr fresh 0), new := [.cells cs] } (Instr.box e v) := by
  obtain ⟨h1, _⟩ := cells_sound hx hc hs
  refine ⟨.pointer (some (at_ w.heap.size 0)), _, _, ?_, Post.newCells hm hf e (fun t ht => by cases ht) h1 fun w' M' => ⟨boxLoc w, w.heap.size, 0, by simp, rfl, rfl⟩⟩
  simp only [Instr.box, newVar, Sem.run_bind, run_newRow, Result.andThen_ok]
  rfl
theorem opMakeMap_sound {mem : Mem} {fresh : Nat} (hm : MemR w ρ mem) (hf : Free ρ mem fresh 1) {t : TypeId} : OpS P w ρ mem fresh { r := .s (.map fresh), new := [.map []] } (Instr.makeMap t none) := by
  refine ⟨.map (some w.heap.size), { w with heap := w.heap.push (.map #[] 0), drawn := w.drawn }, _, by simp [Instr.makeMap, newObj, Sem.run], Post.alloc (boxLoc w) hm hf (.inl rfl) (fun M' he _ => ?_) fun M' => ⟨boxLoc w, w.heap.size, by simp, rfl, rfl⟩⟩
  exact ⟨w.heap.size, #[], 0, rfl, by simp, ⟨[], .refl _, .nil⟩, ⟨(none, false), by simp⟩, .nil⟩
theorem opRange_sound (hok : Ok P X) {mem : Mem} {fresh : Nat} (hm : MemR w ρ mem) (hf : Free ρ mem fresh 1) {t : TypeId} (hu : under X t = some .string) (s : ByteArray) :
    OpS P w ρ mem fresh { r := .s (.it fresh), new := [.sit s 0] } (Instr.range t (.string s)) := by
  refine ⟨.pointer (some (at_ w.heap.size 0)), { w with heap := w.heap.push (.stringIter s 0), drawn := w.drawn }, _, by simp [Instr.range, run_underlying' (hok.under hu), newObj, Sem.run, at_], Post.alloc (boxLoc w) hm hf (.inl rfl) (fun M' he _ => ?_) fun M' => ⟨boxLoc w, w.heap.size, by simp, rfl, rfl⟩⟩
  exact ⟨w.heap.size, rfl, by simp⟩
theorem sList_sound {l : List AV} {ss : List S} (h : sList l = some ss) {vs : List Value} (hl : All2 (AR w ρ M) l vs) : All2 (SR w ρ M) ss vs := by
  induction hl generalizing ss with
  | nil => simp only [sList, Option.some.injEq] at h; subst h; exact .nil
  | @cons a v l vs ha _ ih =>
    unfold sList at h
    split at h
    · rename_i heq; cases heq
    · rename_i x l' heq
      injection heq with h1 h2; subst h1; subst h2
      rw [Option.map_eq_some_iff] at h
      obtain ⟨ys, h3, rfl⟩ := h
      exact .cons ha (ih h3)
    · cases h
theorem args_rel {env : Env} {a : Act} (he : EnvR w ρ M env a.tmps) (hg : GlobR X w M) (l : List Operand) : All2 (AR w ρ M) (l.map (evalO X env)) (l.map a.eval) := by
  induction l with
  | nil => exact .nil
  | cons x l ih => exact .cons (evalO_sound he hg x) ih

/-! ### Slices that are made -/
theorem chunk_spec {α : Type} (sz : Nat) : ∀ (n : Nat) (l : List α), l.length = n * sz → (chunk sz n l).flatten = l ∧ (∀ r, r ∈ chunk sz n l → r.length = sz) ∧ (chunk sz n l).length = n
  | 0, l, h => by simp at h; subst h; simp [chunk]
  | n + 1, l, h => by
    rw [Nat.add_mul, Nat.one_mul] at h
    obtain ⟨h1, h2, h3⟩ := chunk_spec sz n (l.drop sz) (by simp; omega)
    refine ⟨by simp [chunk, h1], fun r hr => ?_, by simp [chunk, h3]⟩
    rcases List.mem_cons.1 hr with rfl | hr
    · simp; omega
    · exact h2 r hr
/-- A new block of rows that are only read, or may be written. -/
theorem rows_new {w : World} {M : Mut} {sz n : Nat} {ds : List D} {arr : Array Value} {el : TypeId} {b : Nat} (hl : ds.length = n * sz) (hd : All2 (DR w M) ds arr.toList) (hb : w.heap[b]? = some (.cells arr el (0, 0))) (hm : ∀ o, o < n * sz → NM M b o) :
    RowsR w M sz n (fun i => (chunk sz n ds).getD i []) b 0 := by
  obtain ⟨h1, h2, h3⟩ := chunk_spec sz n ds hl
  have hsz := hd.length
  simp at hsz
  refine ⟨fun j => arr.getD j undef, fun i hi => ?_, fun j hj => ?_, fun j hj => by rw [Nat.zero_add]; exact hm j hj, fun i k x hi hx => ?_⟩
  · show ((chunk sz n ds).getD i []).length = sz
    rw [List.getD_eq_getElem?_getD, List.getElem?_eq_getElem (by omega)]
    exact h2 _ (List.getElem_mem _)
  · simp only [World.cell?, at_, hb, Nat.zero_add]
    simp [Array.getD_eq_getD_getElem?, show j < arr.size by omega]
  · have hx : ((chunk sz n ds).getD i [])[k]? = some x := hx
    rw [List.getD_eq_getElem?_getD, List.getElem?_eq_getElem (show i < (chunk sz n ds).length by omega)] at hx
    have hg := flatten_get h2 (List.getElem?_eq_getElem (show i < (chunk sz n ds).length by omega)) hx
    rw [h1] at hg
    obtain ⟨v, e1, e2⟩ := hd.get _ hg
    rw [Array.getElem?_toList] at e1
    simp [Array.getD_eq_getD_getElem?, e1, e2]
theorem rep_get {α : Type} (z : List α) (n k : Nat) : (List.replicate n z).flatten[k]? = if k < n * z.length then z[k % z.length]? else none := by
  induction n generalizing k with
  | zero => simp
  | succ n ih =>
    rw [List.replicate_succ, List.flatten_cons]
    by_cases h : k < z.length
    · rw [List.getElem?_append_left h, Nat.mod_eq_of_lt h, if_pos]
      rw [Nat.add_mul, Nat.one_mul]; omega
    · rw [List.getElem?_append_right (by omega), ih, Nat.add_mul, Nat.one_mul]
      have e : k % z.length = (k - z.length) % z.length := by
        conv => lhs; rw [show k = (k - z.length) + z.length by omega]
        rw [Nat.add_mod_right]
      rw [e]
      by_cases h2 : k - z.length < n * z.length
      · rw [if_pos h2, if_pos (by omega)]
      · rw [if_neg h2, if_neg (by omega)]
theorem zeros_rep (z : Array Value) (n : Nat) (hz : 0 < z.size) : ((Array.range (n * z.size)).map fun i => z[i % z.size]!).toList = (List.replicate n z.toList).flatten := by
  apply List.ext_getElem?
  intro k
  rw [rep_get z.toList n k]
  simp only [Array.length_toList, Array.getElem?_toList, Array.getElem?_map, Array.getElem?_range]
  by_cases h : k < n * z.size
  · have hm : k % z.size < z.size := Nat.mod_lt _ hz
    simp [h, hm]
  · simp [h]
/-- The cells of a row that was just made. -/
theorem zeros_rel {e : TypeId} {j : TI} (hj : TIok P e j) (n : Nat) (hz : j.size ≠ 0) : ∃ zero : Array Value, (if n * j.size = 0 then pure #[] else do pure (← zeroValue e).cells : Sem (Array Value)).run P w = .ok zero w ∧
    All2 (CR w ρ M) ((List.replicate n j.zero).flatten.map fun v => .s (.d (.c v))) ((Array.range (n * j.size)).map fun i => zero[i % zero.size]!).toList := by
  by_cases h : n * j.size = 0
  · have hn : n = 0 := by
      rcases Nat.mul_eq_zero.1 h with h | h
      · exact h
      · exact absurd h hz
    subst hn
    exact ⟨#[], by simp, by simp; exact .nil⟩
  · obtain ⟨z, z1, z2, _⟩ := hj.run_zero (w := w)
    have hzs : z.cells.size = j.size := by rw [← hj.len, ← z2]; simp
    refine ⟨z.cells, by simp [h, z1], ?_⟩
    rw [← hzs, zeros_rep _ _ (by omega), z2]
    exact All2.consts w ρ M _
def rowLoc (w : World) (n sz : Nat) : Loc := ⟨some (at_ w.heap.size 0), n, n, sz, Nat.le_refl _⟩
/-- The seals of what is laid into a new row. -/
theorem seals_ok {mem : Mem} (hm : MemR w ρ mem) {cs : List C} {ds : List D} {us : List (Nat × Blk)} (hds : allD mem cs = some (ds, us)) : UpdOk ρ mem us := ⟨by
  intro j bj hj
  obtain ⟨sz', rows', _, e1, rfl⟩ := allD_seals hds j bj hj
  obtain ⟨l', e2, _⟩ := hm.get e1 (by simp)
  exact ⟨_, l', e1, e2, fun h => (Bool.noConfusion h), fun c o h => False.elim h⟩⟩
theorem touch_push (w : World) (o : Obj) (d : Nat) (Mu : Mut) : Touch w { w with heap := w.heap.push o, drawn := d } Mu (fun _ => False) :=
  ⟨rfl, rfl, rfl, by simp, fun b hb _ => by simp [Array.getElem?_push, show b ≠ w.heap.size by omega], fun _ _ _ _ h => h.elim, fun _ h => h.elim⟩
theorem seal_facts {mem : Mem} (hm : MemR w ρ mem) {cs : List C} {ds : List D} {us : List (Nat × Blk)} (hds : allD mem cs = some (ds, us)) {o : Obj} {d : Nat} {l : Loc} {nb : Blk} (hnb : ownB l = some w.heap.size) {M' : Mut} (hM : ∀ c o, M' c o → MuOf ρ (upds mem us) c o ∨ blkMu l nb c o) :
    ∀ i b li n, (i, b) ∈ us → ρ i = some li → ownB li = some n → ({ w with heap := w.heap.push o, drawn := d } : World).heap[n]? = w.heap[n]? ∧ ∀ o, ¬ M' n o := by
  intro i b li n hi e1 e2
  obtain ⟨sz', rows', _, e3, rfl⟩ := allD_seals hds i b hi
  obtain ⟨l', k1, k2⟩ := hm.get e3 (by simp)
  rw [e1] at k1; injection k1 with k1; subst k1
  have hlt := k2.own_lt rfl e2
  refine ⟨by simp [Array.getElem?_push, show n ≠ w.heap.size by omega], fun o' hmo => ?_⟩
  rcases hM n o' hmo with h | h
  · exact (seals_ok hm hds).sealed hm e3 rfl e1 e2 ⟨_, hi⟩ (fun b' hb' => by obtain ⟨_, _, _, _, rfl⟩ := allD_seals hds i b' hb'; rfl) o' h
  · obtain ⟨_, h2⟩ := blkMu_own h
    rw [hnb] at h2; injection h2 with h2; omega
theorem seal_blocks {mem : Mem} (hm : MemR w ρ mem) {cs : List C} {ds : List D} {us : List (Nat × Blk)} (hds : allD mem cs = some (ds, us)) {w' : World} {ρ' : Locs} {M' : Mut} (he : Evo w (MuOf ρ mem) w' M')
    (hs : ∀ i b li n, (i, b) ∈ us → ρ i = some li → ownB li = some n → w'.heap[n]? = w.heap[n]? ∧ ∀ o, ¬ M' n o) : ∀ i b li, (i, b) ∈ us → ρ i = some li → b = .dead ∨ BR w' ρ' M' li b := by
  intro i b li hi hli
  obtain ⟨sz', rows', _, e3, rfl⟩ := allD_seals hds i b hi
  obtain ⟨l', e4, e5, e6, e7, e8⟩ := hm.get e3 (by simp)
  rw [hli] at e4; injection e4 with e4; subst e4
  refine .inr ⟨e5.1, e6, e8.imp And.left fun ⟨b'', o'', p, q, _⟩ => ?_⟩
  obtain ⟨f1, f2⟩ := hs i _ li b'' hi hli (ownB_at p)
  exact ⟨b'', o'', p, q.rows e7 he f1 fun o' => ⟨f2 o', hm.fap _ _ _ _ e3 rfl hli (ownB_at p) o'⟩⟩
theorem run_elems (hok : Ok P X) {t e : TypeId} (hu : under X t = some (.slice e)) {j : TI} (hj : X.ti e = some j) (hz : j.size ≠ 0) {env : Env} {a : Act} (he : EnvR w ρ M env a.tmps) (hg : GlobR X w M) {len : Nat} (hlen : len * j.size ≤ 16777216) {parts : Array (Nat × Operand)} {cs : List C}
    (hcs : fillA (fun i => some (i * j.size, j.size)) ((List.replicate len j.zero).flatten.map fun v => .s (.d (.c v))) (parts.toList.map fun p => (p.1, evalO X env p.2)) = some cs) :
    ∃ arr : Array Value, (Instr.buildSlice t len (parts.map fun (i, x) => (i, a.eval x))).run P w = .ok (.slice (some (at_ w.heap.size 0)) len len) { w with heap := w.heap.push (.cells arr e), drawn := w.drawn } ∧ All2 (CR w ρ M) cs arr.toList ∧ cs.length = len * j.size := by
  obtain ⟨zero, z1, z2⟩ := zeros_rel (P := P) (w := w) (ρ := ρ) (M := M) (hok.ti _ _ hj) len hz
  obtain ⟨c, e1, e2⟩ := fill_sound hcs z2 (parts_rel (X := X) he hg parts)
  have hl : ∀ (place : Nat → Option (Nat × Nat)) (ps : List (Nat × AV)) (cs out : List C), fillA place cs ps = some out → out.length = cs.length := by
    intro place ps
    induction ps with
    | nil => intro cs out h; simp only [fillA, Option.some.injEq] at h; rw [h]
    | cons p ps ih =>
      intro cs out h
      obtain ⟨i, v⟩ := p
      simp only [fillA] at h
      split at h
      · split at h
        · split at h
          · rename_i cells' hw
            obtain ⟨hle, rfl⟩ := writePart_some hw
            rw [ih _ _ h]; simp; omega
          · cases h
        · cases h
      · cases h
  refine ⟨c, ?_, e2, ?_⟩
  · simp only [Array.toList_map] at e1
    simp only [Instr.buildSlice, Sem.run_bind, run_underlying' (hok.under hu), Result.andThen_ok, (hok.ti _ _ hj).run_sizeOf, if_neg (show ¬ len * j.size > 2 ^ 24 by omega)]
    by_cases h0 : len * j.size = 0
    · rw [if_pos h0] at z1
      injection z1 with z1 _; subst z1
      rw [if_pos h0]
      simp only [Sem.run_bind, Sem.run_pure, Result.andThen_ok, Array.toList_map]
      rw [e1]; rfl
    · rw [if_neg h0] at z1
      rw [if_neg h0]
      simp only [Sem.run_bind] at z1
      obtain ⟨z, y1, y2, _⟩ := (hok.ti _ _ hj).run_zero (w := w)
      rw [y1] at z1
      injection z1 with z1 _; subst z1
      simp only [Sem.run_bind, Sem.run_pure, y1, Result.andThen_ok, Array.toList_map]
      rw [e1]; rfl
  · rw [hl _ _ _ _ hcs]
    have := z2.length
    simp only [Array.length_toList, Array.size_map, Array.size_range] at this
    exact this
theorem opBuildSlice_sound (hok : Ok P X) {mem : Mem} {fresh : Nat} (hm : MemR w ρ mem) (hf : Free ρ mem fresh 1) {env : Env} {a : Act} (he : EnvR w ρ (MuOf ρ mem) env a.tmps) (hg : GlobR X w (MuOf ρ mem)) {arr : Nat} {t : TypeId} {len : Nat} {parts : Array (Nat × Operand)} {r : OR}
    (h : (match under X t with
    | some (.slice e) => match X.ti e with
      | some j => if j.size == 0 || len * j.size > 16777216 then .fail else
        match fillA (fun i => some (i * j.size, j.size)) ((List.replicate len j.zero).flatten.map fun v => .s (.d (.c v))) (parts.toList.map fun p => (p.1, evalO X env p.2)) with
        | some cs => if arr == 2 then .ret { r := .s (.as fresh), new := [.arr j.size (chunk j.size len cs)] } else
          match allD mem cs with
          | some (ds, us) => .ret (if arr == 1 then { r := .s (.as fresh), upd := us, new := [.arrD j.size (chunk j.size len ds)] }
              else { r := .s (.gs fresh), upd := us, new := [.grow j.size (chunk j.size len ds)] })
          | none => .fail
        | none => .fail
      | none => .fail
    | _ => .fail : T OR).run = some r) : OpS P w ρ mem fresh r (Instr.buildSlice t len (parts.map fun (i, x) => (i, a.eval x))) := by
  split at h
  · rename_i e hu
    split at h
    · rename_i j hj
      split at h
      · cases h
      rename_i hc
      simp only [Bool.or_eq_true, beq_iff_eq, decide_eq_true_eq, not_or, Nat.not_lt] at hc
      split at h
      · rename_i cs hcs
        obtain ⟨arr', h1, h2, h3⟩ := run_elems (P := P) hok hu hj hc.1 he hg hc.2 hcs
        have hsz := h2.length
        simp at hsz
        have hroom : ∀ u, u ≤ len * j.size → Room { w with heap := w.heap.push (.cells arr' e), drawn := w.drawn } (rowLoc w len j.size) w.heap.size 0 u := fun u hu =>
          ⟨arr', e, by simp, hu, by simp [rowLoc]; omega⟩
        have hown : ownB (rowLoc w len j.size) = some w.heap.size := rfl
        split at h
        · injection h with h; subst h
          obtain ⟨c1, c2, c3⟩ := chunk_spec j.size len cs h3
          refine ⟨_, _, _, h1, Post.alloc (rowLoc w len j.size) hm hf (.inl rfl) (fun M' hE _ => ?_) fun M' => ⟨rowLoc w len j.size, by simp, rfl⟩⟩
          refine ⟨rfl, c3.symm, c2, .inr ⟨w.heap.size, 0, rfl, ?_, hroom _ (by rw [c3]; exact Nat.le_refl _)⟩⟩
          rw [c1]
          exact cells_at (arr := arr') (el := e) (fz := (0, 0)) (by simp) (h2.mono fun _ _ _ => CR.mono hE (free_le hf _))
        · split at h
          · rename_i ds us hds
            have hdl : ds.length = cs.length := by
              clear h h2 h3 hcs hsz h1
              induction cs generalizing ds us with
              | nil => simp [allD] at hds; simp [hds.1.symm]
              | cons c cs ih =>
                simp only [allD] at hds
                split at hds
                · rename_i x u xs us'' e1 e2
                  injection hds with hds; injection hds with h3 h4; subst h3
                  simp [ih _ _ e2]
                · cases hds
            obtain ⟨c1, c2, c3⟩ := chunk_spec j.size len ds (by omega)
            injection h with h; subst h
            split
            · refine ⟨_, _, _, h1, Post.full (rowLoc w len j.size) hm hf (fun _ => False) (touch_push w _ _ _) (seals_ok hm hds) (fun _ h => h.elim) ?_ ?_ ?_ fun M' _ => ⟨rowLoc w len j.size, by simp, rfl⟩⟩
              · intro n _ hn; rw [hown] at hn; injection hn with hn; exact .inl (by omega)
              · rintro c o ⟨b', o', q1, rfl⟩ hlt
                have : w.heap.size = c ∧ 0 = o' := by simpa [rowLoc, at_] using q1
                omega
              · intro M' hE hM
                have hs := seal_facts (o := .cells arr' e) (d := w.drawn) hm hds hown hM
                refine ⟨seal_blocks hm hds hE hs, ⟨rfl, fun t ht => by cases ht⟩, c3.symm, c2, .inr ⟨w.heap.size, 0, rfl, ?_, hroom _ (by rw [c3]; exact Nat.le_refl _)⟩⟩
                rw [c1]
                exact cells_at (arr := arr') (el := e) (fz := (0, 0)) (by simp) (All2.map (allD_sound hm h2 hds hE hs))
            · refine ⟨_, _, _, h1, Post.full (rowLoc w len j.size) hm hf (fun _ => False) (touch_push w _ _ _) (seals_ok hm hds) (fun _ h => h.elim) ?_ ?_ ?_ fun M' _ => ⟨rowLoc w len j.size, by simp, rfl⟩⟩
              · intro n _ hn; rw [hown] at hn; injection hn with hn; exact .inl (by omega)
              · rintro c o ⟨b', o', q1, rfl, _⟩ hlt
                have : w.heap.size = c ∧ 0 = o' := by simpa [rowLoc, at_] using q1
                omega
              · intro M' hE hM
                have hs := seal_facts (o := .cells arr' e) (d := w.drawn) hm hds hown hM
                refine ⟨seal_blocks hm hds hE hs, rfl, c3.symm, .inr ⟨w.heap.size, 0, rfl, ?_, hroom _ (by rw [c3]; exact Nat.le_refl _)⟩⟩
                rw [c3]
                refine rows_new (by omega) (allD_sound hm h2 hds hE hs) (el := e) (by simp) fun o ho => ⟨fun hmo => ?_, fun hF => absurd (hm.flt _ _ hF) (by simp)⟩
                rcases hM _ _ hmo with hq | ⟨b', o', q1, q2, q3⟩
                · have := hm.mu_lt ((seals_ok hm hds).mu hq); omega
                · obtain ⟨rfl, rfl⟩ : w.heap.size = b' ∧ 0 = o' := by simpa [rowLoc, at_] using q1
                  rw [c3] at q3; omega
          · cases h
      · cases h
    · cases h
  · cases h
end Go.Sx

