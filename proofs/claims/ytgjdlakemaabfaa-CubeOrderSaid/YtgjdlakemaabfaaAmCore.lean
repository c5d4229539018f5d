/-
  THE ABSTRACT MACHINE: a deterministic reading of the model's code over values that bear their own content
  (lists for slices that are never written into, numbered blocks for what is written). No tape, no order, no capacity.
-/
import Derived.Orders
import Derived.Tactics
set_option linter.unusedVariables false
namespace Go.Am
open Go

/-- What is known of a slice's capacity: that it is its length; nothing; or that it ends where token r's spare room begins. -/
inductive Cap where
  | full | unk | tok (r : Nat)
  deriving DecidableEq

inductive AVal where
  | top
  | bool (b : Bool)
  | int (k : IntKind) (n : Int)
  | str (s : List UInt8)
  | nilPtr | nilSl | nilMap | nilI | nilFn
  | ptr (id off : Nat)
  | iptr (cells : List AVal)
  | sl (id off es len cap : Nat) (op : Bool)
  | lst (cells : List AVal) (len : Nat) (cap : Cap)
  | map (id : Nat)
  | fn (f : Fn) (first cap : List AVal)
  | iface (t : TypeId) (v : AVal)
  | agg (cells : List AVal)
  | tup (vs : List AVal)

inductive ABlk where
  | arr (cells : List AVal)
  | tok (es : Nat)
  | map (es : List (AVal × AVal × Nat)) (clock : Nat)
  | sIter (s : List UInt8) (pos : Nat)

structure AHeap where
  get : Nat → Option ABlk
  next : Nat

def AHeap.empty : AHeap := ⟨fun _ => none, 0⟩
def AHeap.set (h : AHeap) (i : Nat) (b : Option ABlk) : AHeap := { h with get := fun j => if j = i then b else h.get j }
def AHeap.new (h : AHeap) (b : ABlk) : AHeap := ⟨fun j => if j = h.next then some b else h.get j, h.next + 1⟩

/-! ### constants -/
def ofCell : Value → AVal
  | .bool b => .bool b
  | .int k n => .int k n
  | .string s => .str s.data.toList
  | .pointer none => .nilPtr
  | .slice none 0 0 => .nilSl
  | .map none => .nilMap
  | .nilIface => .nilI
  | .nilFunc => .nilFn
  | .func f first cap => if first.size = 0 ∧ cap.size = 0 then .fn f [] [] else .top
  | _ => .top
def ofV : Value → AVal
  | .agg cs => .agg (cs.toList.map ofCell)
  | v => ofCell v

def AVal.cells : AVal → List AVal
  | .agg cs => cs
  | v => [v]
/-- A value that one cell holds. -/
def AVal.isCell : AVal → Bool
  | .top | .agg _ | .tup _ => false
  | _ => true

/-! ### configuration -/
structure Cfg where
  P : Program
  /-- run over a heap of its own, that holds what its arguments lead to -/
  foc : FuncId → Bool
  /-- a function whose answer is known: of arguments that bear their content alone -/
  summ : FuncId → Option (List AVal → Option AVal)
  /-- a package-level variable's content, never written -/
  glob : Nat → Option (List AVal)
  /-- a literal slice that is written into later -/
  own : String → Bool
  /-- a function that defers one closure, ahead of all that may leave it -/
  dfr : FuncId → Bool := fun _ => false

structure ASt where
  tmps : List AVal
  h : AHeap

def put (tmps : List AVal) (dst : Option Tmp) (v : AVal) : List AVal :=
  match dst with
  | some d => tmps.set d v
  | none => tmps

def evalO (C : Cfg) (tmps : List AVal) : Operand → AVal
  | .tmp t => (tmps[t]?).getD .top
  | .const v => ofV v
  | .global g => match C.glob g with
    | some cs => .iptr cs
    | none => .top
  | .func f => .fn (.func f) [] []

/-! ### memory -/
def isAggT (P : Program) (t : TypeId) : Option Bool :=
  (P.underlying t).map fun
    | .struct _ | .array _ _ => true
    | _ => false

/-- some cells as a value of a type of size n, an aggregate or not -/
def ofCells (ag : Bool) (n : Nat) (cs : List AVal) : Option AVal :=
  if ag then (if n ≤ cs.length then some (.agg (cs.take n)) else none) else cs[0]?

def loadA (h : AHeap) (ag : Bool) (n : Nat) : AVal → Option AVal
  | .ptr id off => match h.get id with
    | some (.arr cells) => if off ≤ cells.length then ofCells ag n (cells.drop off) else none
    | _ => none
  | .iptr cells => ofCells ag n cells
  | _ => none

def aload (P : Program) (h : AHeap) (t : TypeId) (p : AVal) : Option AVal := do
  let ag ← isAggT P t
  let i ← P.info? t
  loadA h ag i.size p

def setRange (cells : List AVal) (off : Nat) : List AVal → List AVal
  | [] => cells
  | v :: vs => setRange (cells.set off v) (off + 1) vs

def storeA (h : AHeap) (n : Nat) (p v : AVal) : Option AHeap :=
  match p with
  | .ptr id off => match h.get id with
    | some (.arr cells) =>
      if v.cells.length = n ∧ v.cells.all AVal.isCell = true ∧ off + n ≤ cells.length then some (h.set id (some (.arr (setRange cells off v.cells)))) else none
    | _ => none
  | _ => none

def astore (P : Program) (h : AHeap) (t : TypeId) (p v : AVal) : Option AHeap := do
  let i ← P.info? t
  storeA h i.size p v

/-- may this stand in a new variable? -/
def AVal.boxable : AVal → Bool
  | .agg cs => cs.all AVal.isCell
  | v => v.isCell

def abox (h : AHeap) (v : AVal) : Option (AVal × AHeap) :=
  if v.boxable then some (.ptr h.next 0, h.new (.arr v.cells)) else none

def zeroA (P : Program) (t : TypeId) : Option AVal := do
  let i ← P.info? t
  let z ← i.zero
  some (ofV z)

def fillA (place : Nat → Option (Nat × Nat)) (cells : List AVal) : List (Nat × AVal) → Option (List AVal)
  | [] => some cells
  | (i, v) :: rest =>
    match place i with
    | none => none
    | some (off, size) =>
      if v.cells.length = size ∧ v.boxable = true ∧ off + size ≤ cells.length then fillA place (setRange cells off v.cells) rest else none

def abuild (P : Program) (t : TypeId) (parts : List (Nat × AVal)) : Option AVal := do
  let z ← zeroA P t
  match ← P.underlying t with
  | .struct fs =>
    let places ← fs.toList.mapM (fun f => (P.info? f.type).map fun i => (f.offset, i.size))
    let cells ← fillA (places.toArray[·]?) z.cells parts
    some (.agg cells)
  | .array _ e =>
    let i ← P.info? e
    let cells ← fillA (fun k => some (k * i.size, i.size)) z.cells parts
    some (.agg cells)
  | _ => none

def zerosA (z : List AVal) : Nat → List AVal
  | 0 => []
  | n + 1 => z ++ zerosA z n

def abuildSlice (P : Program) (t : TypeId) (len : Nat) (parts : List (Nat × AVal)) : Option (List AVal × Nat) := do
  let .slice e ← P.underlying t | none
  let i ← P.info? e
  if len * i.size ≤ 2 ^ 24 then
    let z ← zeroA P e
    if z.cells.length = i.size then
      let cells ← fillA (fun k => some (k * i.size, i.size)) (zerosA z.cells len) parts
      some (cells, i.size)
    else none
  else none

/-! ### numbers, strings -/
def asNat (i : Int) : Option Nat := if 0 ≤ i then some i.toNat else none

def isConstO : Operand → Bool
  | .const _ => true
  | _ => false

def flatV : AVal → Option Value
  | .bool b => some (.bool b)
  | .int k n => some (.int k n)
  | .str s => some (.string ⟨s.toArray⟩)
  | .nilPtr => some (.pointer none)
  | .nilSl => some (.slice none 0 0)
  | .nilMap => some (.map none)
  | .nilI => some .nilIface
  | .nilFn => some .nilFunc
  | _ => none

def flatVs : List AVal → Option (List Value)
  | [] => some []
  | v :: vs => do
    let x ← flatV v
    let xs ← flatVs vs
    some (x :: xs)

/-- a value without addresses, as the model has it -/
def flatW : AVal → Option Value
  | .agg cs => do let xs ← flatVs cs; some (.agg xs.toArray)
  | .iface t (.agg cs) => do let xs ← flatVs cs; some (.iface t (.agg xs.toArray))
  | .iface t v => do let x ← flatV v; some (.iface t x)
  | v => flatV v

/-- the answer of a reckoning that touches no memory -/
def runPure {α : Type} (P : Program) : Sem α → Option α
  | .pure a => some a
  | .program k => runPure P (k P)
  | _ => none

def abin (C : Cfg) (op : BinOp) (t : TypeId) (xo yo : Operand) (h : AHeap) (x y : AVal) : Option AVal :=
  match op, x, y with
  | .add, .int k a, .int k' b => if k = k' then some (.int k (k.wrap (a + b))) else none
  | .sub, .int k a, .int k' b => if k = k' then some (.int k (k.wrap (a - b))) else none
  | .mul, .int k a, .int k' b => if k = k' then some (.int k (k.wrap (a * b))) else none
  | .eql, .int k a, .int k' b => if k = k' then some (.bool (a == b)) else none
  | .neq, .int k a, .int k' b => if k = k' then some (.bool (a != b)) else none
  | .lss, .int k a, .int k' b => if k = k' then some (.bool (decide (a < b))) else none
  | .leq, .int k a, .int k' b => if k = k' then some (.bool (decide (a ≤ b))) else none
  | .gtr, .int k a, .int k' b => if k = k' then some (.bool (decide (a > b))) else none
  | .geq, .int k a, .int k' b => if k = k' then some (.bool (decide (a ≥ b))) else none
  | .quo, .int k a, .int k' b => if k = k' ∧ b ≠ 0 then some (.int k (k.wrap (a.tdiv b))) else none
  | .rem, .int k a, .int k' b => if k = k' ∧ b ≠ 0 then some (.int k (a.tmod b)) else none
  | .shl, .int k a, .int _ b => if 0 ≤ b then some (.int k (k.wrap (a * 2 ^ (min b.toNat k.bits)))) else none
  | .shr, .int k a, .int _ b => if 0 ≤ b then some (.int k (a.fdiv (2 ^ (min b.toNat k.bits)))) else none
  | .add, .str a, .str b => if a.length + b.length ≤ 9223372036854775807 then some (.str (a ++ b)) else none
  | .eql, .str a, .str b => some (.bool (a == b))
  | .neq, .str a, .str b => some (.bool (!(a == b)))
  | .eql, .ptr i a, .ptr j b => match h.get i, h.get j with
    | some (.arr (_ :: _)), some (.arr (_ :: _)) => if (P2 t) then some (.bool (decide (i = j) && decide (a = b))) else none
    | _, _ => none
  | .neq, .ptr i a, .ptr j b => match h.get i, h.get j with
    | some (.arr (_ :: _)), some (.arr (_ :: _)) => if (P2 t) then some (.bool (!(decide (i = j) && decide (a = b)))) else none
    | _, _ => none
  | .eql, .ptr _ _, .nilPtr | .eql, .nilPtr, .ptr _ _ => if isPtrT t then some (.bool false) else none
  | .neq, .ptr _ _, .nilPtr | .neq, .nilPtr, .ptr _ _ => if isPtrT t then some (.bool true) else none
  | .eql, .iptr _, .nilPtr | .eql, .nilPtr, .iptr _ => if isPtrT t then some (.bool false) else none
  | .neq, .iptr _, .nilPtr | .neq, .nilPtr, .iptr _ => if isPtrT t then some (.bool true) else none
  | .eql, .lst _ _ _, .nilSl => if isSlT t then some (.bool false) else none
  | .neq, .lst _ _ _, .nilSl => if isSlT t then some (.bool true) else none
  | .eql, .sl _ _ _ _ _ _, .nilSl => if isSlT t then some (.bool false) else none
  | .neq, .sl _ _ _ _ _ _, .nilSl => if isSlT t then some (.bool true) else none
  | .eql, .map _, .nilMap => if isMapT t then some (.bool false) else none
  | .neq, .map _, .nilMap => if isMapT t then some (.bool true) else none
  | .eql, .fn _ _ _, .nilFn => if isFnT t then some (.bool false) else none
  | .neq, .fn _ _ _, .nilFn => if isFnT t then some (.bool true) else none
  | .eql, .iface _ _, .nilI => if isIfT t then some (.bool false) else none
  | .neq, .iface _ _, .nilI => if isIfT t then some (.bool true) else none
  | op, x, y => do
    let a ← flatW x
    let b ← flatW y
    let r ← runPure C.P (do eqGuard op t xo yo a b; binOp op t a b)
    match r with
    | .agg _ | .tuple _ => none
    | _ => some (ofCell r)
where
  isPtrT (t : TypeId) : Bool := match C.P.underlying t with
    | some (.pointer _) => true
    | _ => false
  isSlT (t : TypeId) : Bool := match C.P.underlying t with
    | some (.slice _) => true
    | _ => false
  isMapT (t : TypeId) : Bool := match C.P.underlying t with
    | some (.map _ _) => true
    | _ => false
  isFnT (t : TypeId) : Bool := match C.P.underlying t with
    | some (.func _ _ _) => true
    | _ => false
  isIfT (t : TypeId) : Bool := match C.P.underlying t with
    | some (.interface _) => true
    | _ => false
  P2 (t : TypeId) : Bool := match C.P.underlying t with
    | some (.pointer e) => match C.P.info? e with
      | some i => i.size != 0
      | none => false
    | _ => false

def aun (C : Cfg) (op : UnOp) (x : AVal) : Option AVal :=
  match op, x with
  | .not, .bool b => some (.bool !b)
  | .neg, .int k n => some (.int k (k.wrap (0 - n)))
  | op, x => do
    let a ← flatV x
    let r ← runPure C.P (Op.unary op a)
    match r with
    | .agg _ | .tuple _ => none
    | _ => some (ofCell r)

/-! ### places -/
def dropCells (n : Nat) (p : AVal) : Option AVal :=
  match p with
  | .ptr id off => some (.ptr id (off + n))
  | .iptr cells => some (.iptr (cells.drop n))
  | _ => none

def afieldAddr (P : Program) (t : TypeId) (p : AVal) (f : Nat) : Option AVal := do
  let .struct fs ← P.underlying t | none
  let g ← fs[f]?
  let i ← P.info? g.type
  if i.size ≠ 0 then dropCells g.offset p else none

def partA (P : Program) (t : TypeId) (cs : List AVal) (off : Nat) : Option AVal := do
  let ag ← isAggT P t
  let i ← P.info? t
  if off ≤ cs.length then ofCells ag i.size (cs.drop off) else none

def afield (P : Program) (t : TypeId) (x : AVal) (f : Nat) : Option AVal := do
  let .struct fs ← P.underlying t | none
  let g ← fs[f]?
  let .agg cs := x | none
  partA P g.type cs g.offset

def indexAddrA (elemSize : Nat) (x : AVal) (i : Int) : Option AVal :=
  match x with
  | .lst cells len _ => if 0 ≤ i ∧ i < len then some (.iptr (cells.drop (i.toNat * elemSize))) else none
  | .sl id off es len _ _ => if es = elemSize ∧ 0 ≤ i ∧ i < len then some (.ptr id (off + i.toNat * elemSize)) else none
  | _ => none

def aindexAddr (P : Program) (t : TypeId) (x i : AVal) : Option AVal := do
  let .int _ i := i | none
  match ← P.underlying t with
  | .slice e =>
    let j ← P.info? e
    indexAddrA j.size x i
  | .array len e =>
    let j ← P.info? e
    if 0 ≤ i ∧ i < len then dropCells (i.toNat * j.size) x else none
  | _ => none

def aindex (P : Program) (t : TypeId) (x i : AVal) : Option AVal := do
  let .int _ i := i | none
  match ← P.underlying t, x with
  | .string, .str s => if 0 ≤ i then (s[i.toNat]?).map fun b => .int .u8 b.toNat else none
  | .array len e, .agg cs => do
    let j ← P.info? e
    if 0 ≤ i ∧ i < len then partA P e cs (i.toNat * j.size) else none
  | _, _ => none

/-- a bound of a slice expression: as a number, where it is one -/
def bnd (x : Option AVal) (d : Nat) : Option Nat :=
  match x with
  | none => some d
  | some (.int _ i) => asNat i
  | _ => none

def sliceA (es : Nat) (x : AVal) (lo hi mx : Option AVal) : Option AVal :=
  match x with
  | .str s => do
    if mx.isSome then none else
    let h ← bnd hi s.length
    let l ← bnd lo 0
    if l ≤ h ∧ h ≤ s.length then some (.str ((s.take h).drop l)) else none
  | .nilSl => do
    let m ← bnd mx 0
    let h ← bnd hi 0
    let l ← bnd lo 0
    if m = 0 ∧ h = 0 ∧ l = 0 ∧ (mx.isSome = true → hi.isSome = true) then some .nilSl else none
  | .lst cells len cap => do
    let h ← bnd hi len
    let l ← bnd lo 0
    match mx with
    | none =>
      if l ≤ h ∧ h ≤ len ∧ cells.length = len * es then some (.lst ((cells.take (h * es)).drop (l * es)) (h - l) (if h = len then cap else .unk)) else none
    | some _ =>
      let m ← bnd mx 0
      if l ≤ h ∧ h ≤ m ∧ m ≤ len ∧ hi.isSome then some (.lst ((cells.take (h * es)).drop (l * es)) (h - l) (if h = m then .full else .unk)) else none
  | .sl id off es' len cap op => do
    let h ← bnd hi len
    let l ← bnd lo 0
    match mx with
    | none => if es' = es ∧ l ≤ h ∧ h ≤ cap then some (.sl id (off + l * es) es (h - l) (cap - l) op) else none
    | some _ =>
      let m ← bnd mx 0
      if es' = es ∧ l ≤ h ∧ h ≤ m ∧ m ≤ cap ∧ hi.isSome then some (.sl id (off + l * es) es (h - l) (m - l) false) else none
  | _ => none

def aslice (P : Program) (hp : AHeap) (t : TypeId) (x : AVal) (lo hi mx : Option AVal) : Option AVal := do
  match ← P.underlying t with
  | .array n e =>
    let j ← P.info? e
    if mx.isSome then none else
    let h ← bnd hi n
    let l ← bnd lo 0
    if l ≤ h ∧ h ≤ n then
      match x with
      | .ptr id off => match hp.get id with
        | some (.arr cells) => if off + n * j.size ≤ cells.length then some (.sl id (off + l * j.size) j.size (h - l) (n - l) false) else none
        | _ => none
      | .iptr cells => if n * j.size ≤ cells.length then some (.lst ((cells.take (h * j.size)).drop (l * j.size)) (h - l) (if h = n then .full else .unk)) else none
      | _ => none
    else none
  | .slice e =>
    let j ← P.info? e
    match x with
    | .str _ => none
    | _ => sliceA j.size x lo hi mx
  | .string => match x with
    | .str _ => sliceA 1 x lo hi mx
    | _ => none
  | _ => none

def extractA (x : AVal) (i : Nat) : Option AVal :=
  match x with
  | .tup vs => vs[i]?
  | _ => none

/-! ### built-in functions -/
def lenA (h : AHeap) : AVal → Option Nat
  | .str s => some s.length
  | .nilSl => some 0
  | .lst _ len _ => some len
  | .sl _ _ _ len _ _ => some len
  | .nilMap => some 0
  | .map id => match h.get id with
    | some (.map es _) => some es.length
    | _ => none
  | _ => none

def alen (P : Program) (h : AHeap) (t : TypeId) (x : AVal) : Option AVal := do
  match ← P.underlying t, x with
  | .string, .str s => some (.int .i64 s.length)
  | .array n _, _ => some (.int .i64 n)
  | .slice _, .nilSl => some (.int .i64 0)
  | .slice _, .lst _ n _ => some (.int .i64 n)
  | .slice _, .sl _ _ _ n _ _ => some (.int .i64 n)
  | .map _ _, .nilMap => some (.int .i64 0)
  | .map _ _, .map id => match h.get id with
    | some (.map es _) => some (.int .i64 es.length)
    | _ => none
  | _, _ => none

def acap (P : Program) (t : TypeId) (x : AVal) : Option AVal := do
  match ← P.underlying t, x with
  | .slice _, .nilSl => some (.int .i64 0)
  | .slice _, .lst _ n .full => some (.int .i64 n)
  | .slice _, .sl _ _ _ _ c false => some (.int .i64 c)
  | _, _ => none

/-- the cells that a slice or a string leads to, its elements' first n -/
def srcCells (h : AHeap) (es n : Nat) : AVal → Option (List AVal)
  | .nilSl => if n = 0 then some [] else none
  | .str s => if es = 1 ∧ n ≤ s.length then some ((s.take n).map fun b => .int .u8 b.toNat) else none
  | .lst cells len _ => if n ≤ len ∧ cells.length = len * es then some (cells.take (n * es)) else none
  | .sl id off es' len _ _ => match h.get id with
    | some (.arr cells) => if es' = es ∧ n ≤ len ∧ off + len * es ≤ cells.length then some ((cells.drop off).take (n * es)) else none
    | _ => none
  | _ => none

def appendA (own : Bool) (h : AHeap) (es bytes : Nat) (s x : AVal) : Option (AVal × AHeap) := do
  let m ← lenA h x
  let new ← srcCells h es m x
  if new.all AVal.isCell then
    match s with
    | .nilSl =>
      if m = 0 then some (.nilSl, h)
      else if m * bytes ≤ 2 ^ 47 ∧ m ≤ 9223372036854775807 then
        if own then some (.sl h.next 0 es m m true, h.new (.arr new)) else some (.lst new m (.tok h.next), h.new (.tok es))
      else none
    | .lst cells len cap =>
      if m = 0 then some (.lst cells len cap, h)
      else if (len + m) * bytes ≤ 2 ^ 47 ∧ len + m ≤ 9223372036854775807 ∧ cells.length = len * es then
        match cap with
        | .full => some (.lst (cells ++ new) (len + m) (.tok h.next), h.new (.tok es))
        | .tok r => match h.get r with
          | some (.tok es') => if es' = es then some (.lst (cells ++ new) (len + m) (.tok h.next), (h.set r none).new (.tok es)) else none
          | _ => none
        | .unk => none
      else none
    | .sl id off es' len cap op =>
      match h.get id with
      | some (.arr cells) =>
        if es' = es ∧ off + cap * es ≤ cells.length ∧ len ≤ cap then
          if len + m ≤ cap then some (.sl id off es (len + m) cap op, h.set id (some (.arr (setRange cells (off + len * es) new))))
          else if (len + m) * bytes ≤ 2 ^ 47 ∧ len + m ≤ 9223372036854775807 then
            let body := (cells.drop off).take (len * es) ++ new
            if op then
              if off + cap * es = cells.length then some (.sl h.next 0 es (len + m) (len + m) true, (h.set id none).new (.arr body)) else none
            else some (.sl h.next 0 es (len + m) (len + m) true, h.new (.arr body))
          else none
        else none
      | _ => none
    | _ => none
  else none

def aappend (P : Program) (own : Bool) (h : AHeap) (argTypes : List TypeId) (args : List AVal) : Option (AVal × AHeap) :=
  match argTypes, args with
  | [sT, xT], [s, x] => do
    let .slice e ← P.underlying sT | none
    let i ← P.info? e
    let z ← i.zero
    let d ← P.underlying xT
    match d with
    | .int _ => none
    | _ => if (ofV z).cells.length = i.size then appendA own h i.size i.bytes s x else none
  | _, _ => none

def acopy (P : Program) (h : AHeap) (argTypes : List TypeId) (args : List AVal) : Option (AVal × AHeap) :=
  match argTypes, args with
  | dT :: _, [d, x] => do
    let .slice e ← P.underlying dT | none
    let i ← P.info? e
    let m ← lenA h x
    let n := Nat.min m (← lenA h d)
    let new ← srcCells h i.size n x
    match d with
    | .nilSl => some (.int .i64 (n : Nat), h)
    | .sl id off es _ _ _ =>
      match h.get id with
      | some (.arr cells) => if es = i.size ∧ new.all AVal.isCell = true ∧ off + n * es ≤ cells.length then some (.int .i64 (n : Nat), h.set id (some (.arr (setRange cells off new)))) else none
      | _ => none
    | .lst _ _ _ => if n = 0 then some (.int .i64 0, h) else none
    | _ => none
  | _, _ => none

def aclear (P : Program) (h : AHeap) (t : TypeId) (x : AVal) : Option AHeap := do
  match ← P.underlying t, x with
  | .slice _, .nilSl => some h
  | .slice e, .sl id off es n _ _ =>
    let z ← zeroA P e
    let i ← P.info? e
    match h.get id with
    | some (.arr cells) =>
      if n = 0 then some h
      else if es = i.size ∧ z.cells.length = es ∧ (z.cells.all AVal.isCell) = true ∧ off + n * es ≤ cells.length then some (h.set id (some (.arr (setRange cells off (zerosA z.cells n))))) else none
    | _ => none
  | .map _ _, .nilMap => some h
  | .map _ _, .map id => match h.get id with
    | some (.map _ clock) => some (h.set id (some (.map [] clock)))
    | _ => none
  | _, _ => none

/-! maps: keys that are numbers, strings or bools -/
def sameKeyA (kt : TypeDesc) (a b : AVal) : Option Bool :=
  match kt, a, b with
  | .int _, .int k x, .int k' y => if k = k' then some (x == y) else none
  | .string, .str x, .str y => some (x == y)
  | .bool, .bool x, .bool y => some (x == y)
  | _, _, _ => none

def findA (kt : TypeDesc) (k : AVal) : List (AVal × AVal × Nat) → Nat → Option (Option (Nat × AVal × Nat))
  | [], _ => some none
  | e :: es, i => do
    if ← sameKeyA kt k e.1 then some (some (i, e.2.1, e.2.2)) else findA kt k es (i + 1)

/-- does the key's type ask nothing more of a key? -/
def plainKey : TypeDesc → AVal → Bool
  | .int _, .int _ _ => true
  | .string, .str _ => true
  | .bool, .bool _ => true
  | _, _ => false

def mapEntries (h : AHeap) : AVal → Option (List (AVal × AVal × Nat))
  | .nilMap => some []
  | .map id => match h.get id with
    | some (.map es _) => some es
    | _ => none
  | _ => none

def alookup (P : Program) (h : AHeap) (t : TypeId) (x k : AVal) (ok : Bool) : Option AVal := do
  let .map kt et ← P.underlying t | none
  let kd ← P.underlying kt
  if plainKey kd k then
    let es ← mapEntries h x
    let r ← findA kd k es 0
    match r with
    | some (_, v, _) => some (if ok then .tup [v, .bool true] else v)
    | none =>
      let z ← zeroA P et
      some (if ok then .tup [z, .bool false] else z)
  else none

def amapUpdate (P : Program) (h : AHeap) (t : TypeId) (x k v : AVal) : Option AHeap := do
  let .map kt _ ← P.underlying t | none
  let kd ← P.underlying kt
  match x with
  | .map id => match h.get id with
    | some (.map es clock) =>
      if plainKey kd k && v.boxable then
        match ← findA kd k es 0 with
        | some (i, _, born) => some (h.set id (some (.map (es.set i (k, v, born)) clock)))
        | none => some (h.set id (some (.map (es ++ [(k, v, clock)]) (clock + 1))))
      else none
    | _ => none
  | _ => none

def adelete (P : Program) (h : AHeap) (t : TypeId) (x k : AVal) : Option AHeap := do
  let .map kt _ ← P.underlying t | none
  let kd ← P.underlying kt
  if plainKey kd k then
    match x with
    | .nilMap => some h
    | .map id => match h.get id with
      | some (.map es clock) =>
        match ← findA kd k es 0 with
        | some (i, _, _) => some (h.set id (some (.map (es.eraseIdx i) clock)))
        | none => some h
      | _ => none
    | _ => none
  else none

def max2A (hi : Bool) (x y : AVal) : Option AVal :=
  match x, y with
  | .int k a, .int _ b => some (.int k (if hi then (if b > a then b else a) else (if b < a then b else a)))
  | _, _ => none

def foldMax (hi : Bool) : AVal → List AVal → Option AVal
  | x, [] => some x
  | x, y :: r => do
    let z ← max2A hi x y
    foldMax hi z r

def aconvert (P : Program) (h : AHeap) (src dst : TypeId) (x : AVal) : Option (AVal × AHeap) := do
  let s ← P.underlying src
  let d ← P.underlying dst
  match s, d, x with
  | _, .int k, .int _ n => some (.int k (k.wrap n), h)
  | _, .string, .str b => some (.str b, h)
  | _, .slice e, .str b =>
    match ← P.underlying e with
    | .int .u8 => if b.length ≤ 2 ^ 47 then some (.lst (b.map fun c => .int .u8 c.toNat) b.length (.tok h.next), h.new (.tok 1)) else none
    | _ => none
  | .slice e, .string, x =>
    match ← P.underlying e with
    | .int .u8 => do
      let n ← lenA h x
      let cs ← srcCells h 1 n x
      let b ← bytesOf cs
      match x with
      | .str _ => none
      | _ => some (.str b, h)
    | _ => none
  | _, _, _ => none
where
  bytesOf : List AVal → Option (List UInt8)
    | [] => some []
    | .int .u8 n :: r => do
      let b ← bytesOf r
      some (UInt8.ofNat n.toNat :: b)
    | _ => none

end Go.Am
