import Derived.Orders
import Derived.Tactics
set_option linter.unusedVariables false
set_option linter.unusedSimpArgs false
namespace Go.Am
open Go
inductive Cap where
  | full | unk | tok (r : Nat)
  deriving DecidableEq
inductive AVal where
  | top
  | bool (b : Bool)
  | int (k : IntKind) (n : Int)
  | str (s : List UInt8)
  | nilPtr | nilSl | nilMap | nilI | nilFn
  | ptr (id off : Nat)
  | iptr (cells : List AVal)
  | sl (id off es len cap : Nat) (op : Bool)
  | lst (cells : List AVal) (len : Nat) (cap : Cap)
  | map (id : Nat)
  | fn (f : Fn) (first cap : List AVal)
  | iface (t : TypeId) (v : AVal)
  | agg (cells : List AVal)
  | tup (vs : List AVal)
inductive ABlk where
  | arr (cells : List AVal)
  | tok (es : Nat)
  | map (es : List (AVal × AVal × Nat)) (clock : Nat)
  | sIter (s : List UInt8) (pos : Nat)
structure AHeap where
  get : Nat → Option ABlk
  next : Nat
  ty : Nat → Option (TypeId × Bool)
def AHeap.empty : AHeap := ⟨fun _ => none, 0, fun _ => none⟩
def AHeap.set (h : AHeap) (i : Nat) (b : Option ABlk) : AHeap := { h with get := fun j => if j = i then b else h.get j }
def AHeap.new (h : AHeap) (b : ABlk) : AHeap := ⟨fun j => if j = h.next then some b else h.get j, h.next + 1, h.ty⟩
def AHeap.mark (h : AHeap) (i : Nat) (t : TypeId × Bool) : AHeap := { h with ty := fun j => if j = i then some t else h.ty j }
def AHeap.isTy (h : AHeap) (i : Nat) (e : TypeId) : Bool := match h.ty i with
  | some (t, _) => t == e
  | none => false
def ofCell : Value → AVal
  | .bool b => .bool b
  | .int k n => .int k n
  | .string s => .str s.data.toList
  | .pointer none => .nilPtr
  | .slice none 0 0 => .nilSl
  | .map none => .nilMap
  | .nilIface => .nilI
  | .nilFunc => .nilFn
  | .func f first cap => if first.size = 0 ∧ cap.size = 0 then .fn f [] [] else .top
  | _ => .top
def ofV : Value → AVal
  | .agg cs => .agg (cs.toList.map ofCell)
  | v => ofCell v
def AVal.cells : AVal → List AVal
  | .agg cs => cs
  | v => [v]
def AVal.isCell : AVal → Bool
  | .top | .agg _ | .tup _ => false
  | _ => true
structure Cfg where
  P : Program
  foc : FuncId → Bool
  summ : FuncId → Option (List AVal → Option AVal)
  glob : Nat → Option (List AVal)
  own : String → Bool
  dfr : FuncId → Bool := fun _ => false
  cbox : String → Bool := fun _ => false
  known : List (Nat × (Option Obj → Prop)) := []
structure ASt where
  tmps : List AVal
  h : AHeap
def put (tmps : List AVal) (dst : Option Tmp) (v : AVal) : List AVal :=
  match dst with
  | some d => tmps.set d v
  | none => tmps
def evalO (C : Cfg) (tmps : List AVal) : Operand → AVal
  | .tmp t => (tmps[t]?).getD .top
  | .const v => ofV v
  | .global g => match C.glob g with
    | some cs => .iptr cs
    | none => .top
  | .func f => .fn (.func f) [] []
def isAggT (P : Program) (t : TypeId) : Option Bool :=
  (P.underlying t).map fun
    | .struct _ | .array _ _ => true
    | _ => false
def ofCells (ag : Bool) (n : Nat) (cs : List AVal) : Option AVal :=
  if ag then (if n ≤ cs.length then some (.agg (cs.take n)) else none) else cs[0]?
def loadA (h : AHeap) (ag : Bool) (n : Nat) : AVal → Option AVal
  | .ptr id off => match h.get id with
    | some (.arr cells) => if off ≤ cells.length then ofCells ag n (cells.drop off) else none
    | _ => none
  | .iptr cells => ofCells ag n cells
  | _ => none
def aload (P : Program) (h : AHeap) (t : TypeId) (p : AVal) : Option AVal := do
  let ag ← isAggT P t
  let i ← P.info? t
  loadA h ag i.size p
def setRange (cells : List AVal) (off : Nat) : List AVal → List AVal
  | [] => cells
  | v :: vs => setRange (cells.set off v) (off + 1) vs
def storeA (h : AHeap) (n : Nat) (p v : AVal) : Option AHeap :=
  match p with
  | .ptr id off => match h.get id with
    | some (.arr cells) =>
      if v.cells.length = n ∧ v.cells.all AVal.isCell = true ∧ off + n ≤ cells.length then some (h.set id (some (.arr (setRange cells off v.cells)))) else none
    | _ => none
  | _ => none
def astore (P : Program) (h : AHeap) (t : TypeId) (p v : AVal) : Option AHeap := do
  let i ← P.info? t
  storeA h i.size p v
def AVal.boxable : AVal → Bool
  | .agg cs => cs.all AVal.isCell
  | v => v.isCell
def abox (h : AHeap) (v : AVal) : Option (AVal × AHeap) :=
  if v.boxable then some (.ptr h.next 0, h.new (.arr v.cells)) else none
def zeroA (P : Program) (t : TypeId) : Option AVal := do
  let i ← P.info? t
  let z ← i.zero
  some (ofV z)
def fillA (place : Nat → Option (Nat × Nat)) (cells : List AVal) : List (Nat × AVal) → Option (List AVal)
  | [] => some cells
  | (i, v) :: rest =>
    match place i with
    | none => none
    | some (off, size) =>
      if v.cells.length = size ∧ v.boxable = true ∧ off + size ≤ cells.length then fillA place (setRange cells off v.cells) rest else none
def abuild (P : Program) (t : TypeId) (parts : List (Nat × AVal)) : Option AVal := do
  let z ← zeroA P t
  match ← P.underlying t with
  | .struct fs =>
    let places ← fs.toList.mapM (fun f => (P.info? f.type).map fun i => (f.offset, i.size))
    let cells ← fillA (places.toArray[·]?) z.cells parts
    some (.agg cells)
  | .array _ e =>
    let i ← P.info? e
    let cells ← fillA (fun k => some (k * i.size, i.size)) z.cells parts
    some (.agg cells)
  | _ => none
def zerosA (z : List AVal) : Nat → List AVal
  | 0 => []
  | n + 1 => z ++ zerosA z n
def abuildSlice (P : Program) (t : TypeId) (len : Nat) (parts : List (Nat × AVal)) : Option (List AVal × Nat) := do
  let .slice e ← P.underlying t | none
  let i ← P.info? e
  if len * i.size ≤ 2 ^ 24 then
    let z ← zeroA P e
    if z.cells.length = i.size then
      let cells ← fillA (fun k => some (k * i.size, i.size)) (zerosA z.cells len) parts
      some (cells, i.size)
    else none
  else none
def asNat (i : Int) : Option Nat := if 0 ≤ i then some i.toNat else none
def flatV : AVal → Option Value
  | .bool b => some (.bool b)
  | .int k n => some (.int k n)
  | .str s => some (.string ⟨s.toArray⟩)
  | .nilPtr => some (.pointer none)
  | .nilSl => some (.slice none 0 0)
  | .nilMap => some (.map none)
  | .nilI => some .nilIface
  | .nilFn => some .nilFunc
  | _ => none
def flatVs : List AVal → Option (List Value)
  | [] => some []
  | v :: vs => do
    let x ← flatV v
    let xs ← flatVs vs
    some (x :: xs)
def flatW : AVal → Option Value
  | .agg cs => do let xs ← flatVs cs; some (.agg xs.toArray)
  | .iface t (.agg cs) => do let xs ← flatVs cs; some (.iface t (.agg xs.toArray))
  | .iface t v => do let x ← flatV v; some (.iface t x)
  | v => flatV v
def runPure {α : Type} (P : Program) : Sem α → Option α
  | .pure a => some a
  | .program k => runPure P (k P)
  | _ => none
def abin (C : Cfg) (op : BinOp) (t : TypeId) (xo yo : Operand) (h : AHeap) (x y : AVal) : Option AVal :=
  match op, x, y with
  | .add, .int k a, .int k' b => if k = k' then some (.int k (k.wrap (a + b))) else none
  | .sub, .int k a, .int k' b => if k = k' then some (.int k (k.wrap (a - b))) else none
  | .mul, .int k a, .int k' b => if k = k' then some (.int k (k.wrap (a * b))) else none
  | .eql, .int k a, .int k' b => if k = k' then some (.bool (a == b)) else none
  | .neq, .int k a, .int k' b => if k = k' then some (.bool (a != b)) else none
  | .lss, .int k a, .int k' b => if k = k' then some (.bool (decide (a < b))) else none
  | .leq, .int k a, .int k' b => if k = k' then some (.bool (decide (a ≤ b))) else none
  | .gtr, .int k a, .int k' b => if k = k' then some (.bool (decide (a > b))) else none
  | .geq, .int k a, .int k' b => if k = k' then some (.bool (decide (a ≥ b))) else none
  | .quo, .int k a, .int k' b => if k = k' ∧ b ≠ 0 then some (.int k (k.wrap (a.tdiv b))) else none
  | .rem, .int k a, .int k' b => if k = k' ∧ b ≠ 0 then some (.int k (a.tmod b)) else none
  | .shl, .int k a, .int _ b => if 0 ≤ b then some (.int k (k.wrap (a * 2 ^ (min b.toNat k.bits)))) else none
  | .shr, .int k a, .int _ b => if 0 ≤ b then some (.int k (a.fdiv (2 ^ (min b.toNat k.bits)))) else none
  | .add, .str a, .str b => if a.length + b.length ≤ 9223372036854775807 then some (.str (a ++ b)) else none
  | .eql, .str a, .str b => some (.bool (a == b))
  | .neq, .str a, .str b => some (.bool (!(a == b)))
  | .eql, .ptr i a, .ptr j b => match h.get i, h.get j with
    | some (.arr (_ :: _)), some (.arr (_ :: _)) => if (P2 t) then some (.bool (decide (i = j) && decide (a = b))) else none
    | _, _ => none
  | .neq, .ptr i a, .ptr j b => match h.get i, h.get j with
    | some (.arr (_ :: _)), some (.arr (_ :: _)) => if (P2 t) then some (.bool (!(decide (i = j) && decide (a = b)))) else none
    | _, _ => none
  | .eql, .ptr _ _, .nilPtr | .eql, .nilPtr, .ptr _ _ => if isPtrT t then some (.bool false) else none
  | .neq, .ptr _ _, .nilPtr | .neq, .nilPtr, .ptr _ _ => if isPtrT t then some (.bool true) else none
  | .eql, .iptr _, .nilPtr | .eql, .nilPtr, .iptr _ => if isPtrT t then some (.bool false) else none
  | .neq, .iptr _, .nilPtr | .neq, .nilPtr, .iptr _ => if isPtrT t then some (.bool true) else none
  | .eql, .lst _ _ _, .nilSl => if isSlT t then some (.bool false) else none
  | .neq, .lst _ _ _, .nilSl => if isSlT t then some (.bool true) else none
  | .eql, .sl _ _ _ _ _ _, .nilSl => if isSlT t then some (.bool false) else none
  | .neq, .sl _ _ _ _ _ _, .nilSl => if isSlT t then some (.bool true) else none
  | .eql, .map _, .nilMap => if isMapT t then some (.bool false) else none
  | .neq, .map _, .nilMap => if isMapT t then some (.bool true) else none
  | .eql, .fn _ _ _, .nilFn => if isFnT t then some (.bool false) else none
  | .neq, .fn _ _ _, .nilFn => if isFnT t then some (.bool true) else none
  | .eql, .iface _ _, .nilI => if isIfT t then some (.bool false) else none
  | .neq, .iface _ _, .nilI => if isIfT t then some (.bool true) else none
  | op, x, y => do
    let a ← flatW x
    let b ← flatW y
    let r ← runPure C.P (do eqGuard op t xo yo a b; binOp op t a b)
    match r with
    | .agg _ | .tuple _ => none
    | _ => some (ofCell r)
where
  isPtrT (t : TypeId) : Bool := match C.P.underlying t with
    | some (.pointer _) => true
    | _ => false
  isSlT (t : TypeId) : Bool := match C.P.underlying t with
    | some (.slice _) => true
    | _ => false
  isMapT (t : TypeId) : Bool := match C.P.underlying t with
    | some (.map _ _) => true
    | _ => false
  isFnT (t : TypeId) : Bool := match C.P.underlying t with
    | some (.func _ _ _) => true
    | _ => false
  isIfT (t : TypeId) : Bool := match C.P.underlying t with
    | some (.interface _) => true
    | _ => false
  P2 (t : TypeId) : Bool := match C.P.underlying t with
    | some (.pointer e) => match C.P.info? e with
      | some i => i.size != 0
      | none => false
    | _ => false
def aun (C : Cfg) (op : UnOp) (x : AVal) : Option AVal :=
  match op, x with
  | .not, .bool b => some (.bool !b)
  | .neg, .int k n => some (.int k (k.wrap (0 - n)))
  | op, x => do
    let a ← flatV x
    let r ← runPure C.P (Op.unary op a)
    match r with
    | .agg _ | .tuple _ => none
    | _ => some (ofCell r)
def dropCells (n : Nat) (p : AVal) : Option AVal :=
  match p with
  | .ptr id off => some (.ptr id (off + n))
  | .iptr cells => some (.iptr (cells.drop n))
  | _ => none
def afieldAddr (P : Program) (t : TypeId) (p : AVal) (f : Nat) : Option AVal := do
  let .struct fs ← P.underlying t | none
  let g ← fs[f]?
  let i ← P.info? g.type
  if i.size ≠ 0 then dropCells g.offset p else none
def partA (P : Program) (t : TypeId) (cs : List AVal) (off : Nat) : Option AVal := do
  let ag ← isAggT P t
  let i ← P.info? t
  if off ≤ cs.length then ofCells ag i.size (cs.drop off) else none
def afield (P : Program) (t : TypeId) (x : AVal) (f : Nat) : Option AVal := do
  let .struct fs ← P.underlying t | none
  let g ← fs[f]?
  let .agg cs := x | none
  partA P g.type cs g.offset
def indexAddrA (elemSize : Nat) (x : AVal) (i : Int) : Option AVal :=
  match x with
  | .lst cells len _ => if 0 ≤ i ∧ i < len then some (.iptr (cells.drop (i.toNat * elemSize))) else none
  | .sl id off es len _ _ => if es = elemSize ∧ 0 ≤ i ∧ i < len then some (.ptr id (off + i.toNat * elemSize)) else none
  | _ => none
def aindexAddr (P : Program) (t : TypeId) (x i : AVal) : Option AVal := do
  let .int _ i := i | none
  match ← P.underlying t with
  | .slice e =>
    let j ← P.info? e
    indexAddrA j.size x i
  | .array len e =>
    let j ← P.info? e
    if 0 ≤ i ∧ i < len then dropCells (i.toNat * j.size) x else none
  | _ => none
def aindex (P : Program) (t : TypeId) (x i : AVal) : Option AVal := do
  let .int _ i := i | none
  match ← P.underlying t, x with
  | .string, .str s => if 0 ≤ i then (s[i.toNat]?).map fun b => .int .u8 b.toNat else none
  | .array len e, .agg cs => do
    let j ← P.info? e
    if 0 ≤ i ∧ i < len then partA P e cs (i.toNat * j.size) else none
  | _, _ => none
def bnd (x : Option AVal) (d : Nat) : Option Nat :=
  match x with
  | none => some d
  | some (.int _ i) => asNat i
  | _ => none
def sliceA (es : Nat) (x : AVal) (lo hi mx : Option AVal) : Option AVal :=
  match x with
  | .str s => do
    if mx.isSome then none else
    let h ← bnd hi s.length
    let l ← bnd lo 0
    if l ≤ h ∧ h ≤ s.length then some (.str ((s.take h).drop l)) else none
  | .nilSl => do
    let m ← bnd mx 0
    let h ← bnd hi 0
    let l ← bnd lo 0
    if m = 0 ∧ h = 0 ∧ l = 0 ∧ (mx.isSome = true → hi.isSome = true) then some .nilSl else none
  | .lst cells len cap => do
    let h ← bnd hi len
    let l ← bnd lo 0
    match mx with
    | none =>
      if l ≤ h ∧ h ≤ len ∧ cells.length = len * es then some (.lst ((cells.take (h * es)).drop (l * es)) (h - l) (if h = len then cap else .unk)) else none
    | some _ =>
      let m ← bnd mx 0
      if l ≤ h ∧ h ≤ m ∧ m ≤ len ∧ hi.isSome then some (.lst ((cells.take (h * es)).drop (l * es)) (h - l) (if h = m then .full else .unk)) else none
  | .sl id off es' len cap op => do
    let h ← bnd hi len
    let l ← bnd lo 0
    match mx with
    | none => if es' = es ∧ l ≤ h ∧ h ≤ cap then some (.sl id (off + l * es) es (h - l) (cap - l) op) else none
    | some _ =>
      let m ← bnd mx 0
      if es' = es ∧ l ≤ h ∧ h ≤ m ∧ m ≤ cap ∧ hi.isSome then some (.sl id (off + l * es) es (h - l) (m - l) false) else none
  | _ => none
def aslice (P : Program) (hp : AHeap) (t : TypeId) (x : AVal) (lo hi mx : Option AVal) : Option AVal := do
  match ← P.underlying t with
  | .array n e =>
    let j ← P.info? e
    if mx.isSome then none else
    let h ← bnd hi n
    let l ← bnd lo 0
    if l ≤ h ∧ h ≤ n then
      match x with
      | .ptr id off => match hp.get id with
        | some (.arr cells) => if off + n * j.size ≤ cells.length then some (.sl id (off + l * j.size) j.size (h - l) (n - l) false) else none
        | _ => none
      | .iptr cells => if n * j.size ≤ cells.length then some (.lst ((cells.take (h * j.size)).drop (l * j.size)) (h - l) (if h = n then .full else .unk)) else none
      | _ => none
    else none
  | .slice e =>
    let j ← P.info? e
    match x with
    | .str _ => none
    | _ => sliceA j.size x lo hi mx
  | .string => match x with
    | .str _ => sliceA 1 x lo hi mx
    | _ => none
  | _ => none
def extractA (x : AVal) (i : Nat) : Option AVal :=
  match x with
  | .tup vs => vs[i]?
  | _ => none
def lenA (h : AHeap) : AVal → Option Nat
  | .str s => some s.length
  | .nilSl => some 0
  | .lst _ len _ => some len
  | .sl _ _ _ len _ _ => some len
  | .nilMap => some 0
  | .map id => match h.get id with
    | some (.map es _) => some es.length
    | _ => none
  | _ => none
def alen (P : Program) (h : AHeap) (t : TypeId) (x : AVal) : Option AVal := do
  match ← P.underlying t, x with
  | .string, .str s => some (.int .i64 s.length)
  | .array n _, _ => some (.int .i64 n)
  | .slice _, .nilSl => some (.int .i64 0)
  | .slice _, .lst _ n _ => some (.int .i64 n)
  | .slice _, .sl _ _ _ n _ _ => some (.int .i64 n)
  | .map _ _, .nilMap => some (.int .i64 0)
  | .map _ _, .map id => match h.get id with
    | some (.map es _) => some (.int .i64 es.length)
    | _ => none
  | _, _ => none
def acap (P : Program) (t : TypeId) (x : AVal) : Option AVal := do
  match ← P.underlying t, x with
  | .slice _, .nilSl => some (.int .i64 0)
  | .slice _, .lst _ n .full => some (.int .i64 n)
  | .slice _, .sl _ _ _ _ c false => some (.int .i64 c)
  | _, _ => none
def srcCells (h : AHeap) (es n : Nat) : AVal → Option (List AVal)
  | .nilSl => if n = 0 then some [] else none
  | .str s => if es = 1 ∧ n ≤ s.length then some ((s.take n).map fun b => .int .u8 b.toNat) else none
  | .lst cells len _ => if n ≤ len ∧ cells.length = len * es then some (cells.take (n * es)) else none
  | .sl id off es' len _ _ => match h.get id with
    | some (.arr cells) => if es' = es ∧ n ≤ len ∧ off + len * es ≤ cells.length then some ((cells.drop off).take (n * es)) else none
    | _ => none
  | _ => none
def appendA (own : Bool) (h : AHeap) (es bytes : Nat) (s x : AVal) : Option (AVal × AHeap) := do
  let m ← lenA h x
  let new ← srcCells h es m x
  if new.all AVal.isCell then
    match s with
    | .nilSl =>
      if m = 0 then some (.nilSl, h)
      else if m * bytes ≤ 2 ^ 47 ∧ m ≤ 9223372036854775807 then
        if own then some (.sl h.next 0 es m m true, h.new (.arr new)) else some (.lst new m (.tok h.next), h.new (.tok es))
      else none
    | .lst cells len cap =>
      if m = 0 then some (.lst cells len cap, h)
      else if (len + m) * bytes ≤ 2 ^ 47 ∧ len + m ≤ 9223372036854775807 ∧ cells.length = len * es then
        match cap with
        | .full => some (.lst (cells ++ new) (len + m) (.tok h.next), h.new (.tok es))
        | .tok r => match h.get r with
          | some (.tok es') => if es' = es then some (.lst (cells ++ new) (len + m) (.tok h.next), (h.set r none).new (.tok es)) else none
          | _ => none
        | .unk => none
      else none
    | .sl id off es' len cap op =>
      match h.get id with
      | some (.arr cells) =>
        if es' = es ∧ off + cap * es ≤ cells.length ∧ len ≤ cap then
          if len + m ≤ cap then some (.sl id off es (len + m) cap op, h.set id (some (.arr (setRange cells (off + len * es) new))))
          else if (len + m) * bytes ≤ 2 ^ 47 ∧ len + m ≤ 9223372036854775807 then
            let body := (cells.drop off).take (len * es) ++ new
            if op then
              if off + cap * es = cells.length then some (.sl h.next 0 es (len + m) (len + m) true, (h.set id none).new (.arr body)) else none
            else some (.sl h.next 0 es (len + m) (len + m) true, h.new (.arr body))
          else none
        else none
      | _ => none
    | _ => none
  else none
def markRow (h : AHeap) (e : TypeId) (s : AVal) (r : AVal × AHeap) : AVal × AHeap :=
  match r.1 with
  | .sl id off es len cap op =>
    if h.next ≤ id then (match s with
      | .nilSl => (.sl id off es len cap op, r.2.mark id (e, false))
      | .sl id0 _ _ _ _ _ => if h.isTy id0 e then (.sl id off es len cap op, r.2.mark id (e, false)) else r
      | _ => r)
    else r
  | _ => r
def appendZ (h : AHeap) (es bytes : Nat) (za : List AVal) (s x : AVal) : Option (AVal × AHeap) :=
  match s, x with
  | .nilSl, .int _ n => if 0 < n ∧ n ≤ 9223372036854775807 ∧ n.toNat * bytes ≤ 2 ^ 47 ∧ za.length = es ∧ es ≠ 0 then some (.sl h.next 0 es n.toNat n.toNat true, h.new (.arr (zerosA za n.toNat))) else none
  | _, _ => none
def aappend (P : Program) (own : Bool) (h : AHeap) (argTypes : List TypeId) (args : List AVal) : Option (AVal × AHeap) :=
  match argTypes, args with
  | [sT, xT], [s, x] => do
    let .slice e ← P.underlying sT | none
    let i ← P.info? e
    let z ← i.zero
    let d ← P.underlying xT
    match d with
    | .int _ => appendZ h i.size i.bytes (ofV z).cells s x
    | _ => if (ofV z).cells.length = i.size then (cond own ((appendA own h i.size i.bytes s x).map (markRow h e s)) (appendA own h i.size i.bytes s x)) else none
  | _, _ => none
def acopy (P : Program) (h : AHeap) (argTypes : List TypeId) (args : List AVal) : Option (AVal × AHeap) :=
  match argTypes, args with
  | dT :: _, [d, x] => do
    let .slice e ← P.underlying dT | none
    let i ← P.info? e
    let m ← lenA h x
    let n := Nat.min m (← lenA h d)
    let new ← srcCells h i.size n x
    match d with
    | .nilSl => some (.int .i64 (n : Nat), h)
    | .sl id off es _ _ _ =>
      match h.get id with
      | some (.arr cells) => if es = i.size ∧ new.all AVal.isCell = true ∧ off + n * es ≤ cells.length then some (.int .i64 (n : Nat), h.set id (some (.arr (setRange cells off new)))) else none
      | _ => none
    | .lst _ _ _ => if n = 0 then some (.int .i64 0, h) else none
    | _ => none
  | _, _ => none
def aclear (P : Program) (h : AHeap) (t : TypeId) (x : AVal) : Option AHeap := do
  match ← P.underlying t, x with
  | .slice _, .nilSl => some h
  | .slice e, .sl id off es n _ _ =>
    let z ← zeroA P e
    let i ← P.info? e
    match h.get id with
    | some (.arr cells) =>
      if n = 0 then some h
      else if es = i.size ∧ z.cells.length = es ∧ (z.cells.all AVal.isCell) = true ∧ off + n * es ≤ cells.length then some (h.set id (some (.arr (setRange cells off (zerosA z.cells n))))) else none
    | _ => none
  | .map _ _, .nilMap => some h
  | .map _ _, .map id => match h.get id with
    | some (.map _ clock) => some (h.set id (some (.map [] clock)))
    | _ => none
  | _, _ => none
def sameKeyA (kt : TypeDesc) (a b : AVal) : Option Bool :=
  match kt, a, b with
  | .int _, .int k x, .int k' y => if k = k' then some (x == y) else none
  | .string, .str x, .str y => some (x == y)
  | .bool, .bool x, .bool y => some (x == y)
  | _, _, _ => none
def findA (kt : TypeDesc) (k : AVal) : List (AVal × AVal × Nat) → Nat → Option (Option (Nat × AVal × Nat))
  | [], _ => some none
  | e :: es, i => do
    if ← sameKeyA kt k e.1 then some (some (i, e.2.1, e.2.2)) else findA kt k es (i + 1)
def plainKey : TypeDesc → AVal → Bool
  | .int _, .int _ _ => true
  | .string, .str _ => true
  | .bool, .bool _ => true
  | _, _ => false
def mapEntries (h : AHeap) : AVal → Option (List (AVal × AVal × Nat))
  | .nilMap => some []
  | .map id => match h.get id with
    | some (.map es _) => some es
    | _ => none
  | _ => none
def alookup (P : Program) (h : AHeap) (t : TypeId) (x k : AVal) (ok : Bool) : Option AVal := do
  let .map kt et ← P.underlying t | none
  let kd ← P.underlying kt
  if plainKey kd k then
    let es ← mapEntries h x
    let r ← findA kd k es 0
    match r with
    | some (_, v, _) => some (if ok then .tup [v, .bool true] else v)
    | none =>
      let z ← zeroA P et
      some (if ok then .tup [z, .bool false] else z)
  else none
def amapUpdate (P : Program) (h : AHeap) (t : TypeId) (x k v : AVal) : Option AHeap := do
  let .map kt _ ← P.underlying t | none
  let kd ← P.underlying kt
  match x with
  | .map id => match h.get id with
    | some (.map es clock) =>
      if plainKey kd k && v.boxable then
        match ← findA kd k es 0 with
        | some (i, _, born) => some (h.set id (some (.map (es.set i (k, v, born)) clock)))
        | none => some (h.set id (some (.map (es ++ [(k, v, clock)]) (clock + 1))))
      else none
    | _ => none
  | _ => none
def adelete (P : Program) (h : AHeap) (t : TypeId) (x k : AVal) : Option AHeap := do
  let .map kt _ ← P.underlying t | none
  let kd ← P.underlying kt
  if plainKey kd k then
    match x with
    | .nilMap => some h
    | .map id => match h.get id with
      | some (.map es clock) =>
        match ← findA kd k es 0 with
        | some (i, _, _) => some (h.set id (some (.map (es.eraseIdx i) clock)))
        | none => some h
      | _ => none
    | _ => none
  else none
def max2A (hi : Bool) (x y : AVal) : Option AVal :=
  match x, y with
  | .int k a, .int _ b => some (.int k (if hi then (if b > a then b else a) else (if b < a then b else a)))
  | _, _ => none
def foldMax (hi : Bool) : AVal → List AVal → Option AVal
  | x, [] => some x
  | x, y :: r => do
    let z ← max2A hi x y
    foldMax hi z r
def aconvert (P : Program) (h : AHeap) (src dst : TypeId) (x : AVal) : Option (AVal × AHeap) := do
  let s ← P.underlying src
  let d ← P.underlying dst
  match s, d, x with
  | _, .int k, .int _ n => some (.int k (k.wrap n), h)
  | _, .string, .str b => some (.str b, h)
  | .pointer t, .unsafePointer, .ptr id off => do
    let i ← P.info? t
    match h.get id with
    | some (.arr cells) => if off < cells.length ∧ i.size ≠ 0 then some (.ptr id off, h) else none
    | _ => none
  | .unsafePointer, .pointer u, .ptr id off => do
    let _ ← P.info? u
    match h.get id, h.ty id with
    | some (.arr cells), some (t, true) => if liesAt P P.depth t (cells.length / P.cellsOf t) off u 1 = true then some (.ptr id off, h) else none
    | _, _ => none
  | _, .slice e, .str b =>
    match ← P.underlying e with
    | .int .u8 => if b.length ≤ 2 ^ 47 then some (.lst (b.map fun c => .int .u8 c.toNat) b.length (.tok h.next), h.new (.tok 1)) else none
    | _ => none
  | .slice e, .string, x =>
    match ← P.underlying e with
    | .int .u8 => do
      let n ← lenA h x
      let cs ← srcCells h 1 n x
      let b ← bytesOf cs
      match x with
      | .str _ => none
      | _ => some (.str b, h)
    | _ => none
  | _, _, _ => none
where
  bytesOf : List AVal → Option (List UInt8)
    | [] => some []
    | .int .u8 n :: r => do
      let b ← bytesOf r
      some (UInt8.ofNat n.toNat :: b)
    | _ => none
end Go.Am



namespace Go.Am
open Go
mutual
def normW (keep : Nat → Bool) (hop : Nat → Option (List AVal)) : AVal → Option AVal
  | .ptr id off => if keep id then some (.ptr id off) else (hop id).map fun cs => .iptr (cs.drop off)
  | .sl id off es len cap op =>
    if keep id then some (.sl id off es len cap op) else
    match hop id with
    | some cs => if len ≤ cap ∧ off + len * es ≤ cs.length then some (.lst ((cs.drop off).take (len * es)) len .unk) else none
    | none => none
  | .map id => if keep id then some (.map id) else none
  | .iptr cs => (normL keep hop cs).map .iptr
  | .lst cs n c => (normL keep hop cs).map fun ds => .lst ds n (match c with
    | .full => .full
    | .unk => .unk
    | .tok _ => .unk)
  | .fn f a b => match normL keep hop a, normL keep hop b with
    | some a', some b' => some (.fn f a' b')
    | _, _ => none
  | .iface t v => (normW keep hop v).map (.iface t)
  | .agg cs => (normL keep hop cs).map .agg
  | .tup cs => (normL keep hop cs).map .tup
  | .top => some .top
  | .bool b => some (.bool b)
  | .int k n => some (.int k n)
  | .str s => some (.str s)
  | .nilPtr => some .nilPtr
  | .nilSl => some .nilSl
  | .nilMap => some .nilMap
  | .nilI => some .nilI
  | .nilFn => some .nilFn
def normL (keep : Nat → Bool) (hop : Nat → Option (List AVal)) : List AVal → Option (List AVal)
  | [] => some []
  | v :: vs => match normW keep hop v, normL keep hop vs with
    | some x, some xs => some (x :: xs)
    | _, _ => none
end
def hops (keep : Nat → Bool) (h : AHeap) : Nat → Nat → Option (List AVal)
  | 0, _ => none
  | d + 1, id => match h.get id with
    | some (.arr cs) => if keep id then none else normL keep (hops keep h d) cs
    | _ => none
def norm (keep : Nat → Bool) (h : AHeap) (d : Nat) (v : AVal) : Option AVal := normW keep (hops keep h d) v
def norms (keep : Nat → Bool) (h : AHeap) (d : Nat) (vs : List AVal) : Option (List AVal) := normL keep (hops keep h d) vs
mutual
def refs : AVal → List Nat
  | .ptr id _ | .sl id _ _ _ _ _ | .map id => [id]
  | .iptr cs | .lst cs _ _ | .agg cs | .tup cs => refsL cs
  | .fn _ a b => refsL a ++ refsL b
  | .iface _ v => refs v
  | .top | .bool _ | .int _ _ | .str _ | .nilPtr | .nilSl | .nilMap | .nilI | .nilFn => []
def refsL : List AVal → List Nat
  | [] => []
  | v :: vs => refs v ++ refsL vs
end
inductive AOut where
  | val (v : AVal) (h : AHeap)
  | call (f : FuncId) (args : List AVal)
  | pan (v : AVal)
def asByteA : AVal → Option UInt8
  | .int .u8 n => some n.toNat.toUInt8
  | _ => none
def findByte (c : UInt8) : List UInt8 → Nat → Int
  | [], _ => -1
  | b :: r, i => if b == c then (i : Int) else findByte c r (i + 1)
def aextern2 (C : Cfg) (fn : Func) (h : AHeap) (args : List AVal) : Option (AVal × AHeap) :=
  if fn.name = "internal/abi.NoEscape" then
    match args with
    | [x] => some (x, h)
    | _ => none
  else if fn.name = "internal/bytealg.CountString" then
    match args with
    | [.str s, c] => do
      let b ← asByteA c
      some (.int .i64 (s.count b : Nat), h)
    | _ => none
  else if fn.name = "internal/bytealg.IndexByteString" then
    match args with
    | [.str s, c] => do
      let b ← asByteA c
      some (.int .i64 (findByte b s 0), h)
    | _ => none
  else if fn.name = "internal/bytealg.MakeNoZero" then
    match fn.resultTypes.toList, args with
    | [t], [.int .i64 n] => match C.P.underlying t with
      | some (.slice e) => if 0 ≤ n ∧ n ≤ 281474976710656 then some (.sl h.next 0 1 n.toNat n.toNat true, (h.new (.arr (List.replicate n.toNat .top))).mark h.next (e, false)) else none
      | _ => none
    | _, _ => none
  else none
def aextern (C : Cfg) (fn : Func) (h : AHeap) (args : List AVal) : Option (AVal × AHeap) :=
  if fn.name = "sync/atomic.AddInt64" then
    match args with
    | [p, .int _ d] => do
      let .int .i64 n ← loadA h false 1 p | none
      let h' ← storeA h 1 p (.int .i64 (IntKind.i64.wrap (n + d)))
      some (.int .i64 (IntKind.i64.wrap (n + d)), h')
    | _ => none
  else if fn.name = "sync/atomic.LoadInt64" then
    match args with
    | [p] => do
      let .int .i64 n ← loadA h false 1 p | none
      some (.int .i64 n, h)
    | _ => none
  else aextern2 C fn h args
def aunsafeString (P : Program) (h : AHeap) (t : TypeId) (p : AVal) (n : Int) : Option (AVal × AHeap) :=
  match p with
  | .nilPtr => if n = 0 then some (.str [], h) else none
  | .ptr id off =>
    if n = 0 then some (.str [], h)
    else if 0 < n ∧ n ≤ 9223372036854775807 then
      match P.underlying t, h.get id, h.ty id with
      | some (.pointer u), some (.arr cells), some (e, _) =>
        if e = u ∧ P.cellsOf e = 1 ∧ off + n.toNat ≤ cells.length then
          (aconvert.bytesOf ((cells.drop off).take n.toNat)).map fun b => (.str b, h.set id none)
        else none
      | _, _, _ => none
    else none
  | _ => none
def abuiltin (C : Cfg) (own : Bool) (b : Builtin) (argTypes : List TypeId) (h : AHeap) (args : List AVal) : Option (AVal × AHeap) :=
  match b with
  | .append => aappend C.P own h argTypes args
  | .copy => acopy C.P h argTypes args
  | .len => match argTypes, args with
    | t :: _, x :: _ => (alen C.P h t x).map (·, h)
    | _, _ => none
  | .cap => match argTypes, args with
    | t :: _, x :: _ => (acap C.P t x).map (·, h)
    | _, _ => none
  | .clear => match argTypes, args with
    | t :: _, x :: _ => (aclear C.P h t x).map (.top, ·)
    | _, _ => none
  | .delete => match argTypes, args with
    | t :: _, x :: k :: _ => (adelete C.P h t x k).map (.top, ·)
    | _, _ => none
  | .unsafeSliceData => match args with
    | [.nilSl] => some (.nilPtr, h)
    | [.sl id off _ _ cap _] => if 0 < cap then some (.ptr id off, h) else none
    | _ => none
  | .unsafeString => match argTypes, args with
    | [t, _], [p, .int .i64 n] => aunsafeString C.P h t p n
    | _, _ => none
  | .max => match args with
    | x :: r => (foldMax true x r).map (·, h)
    | [] => none
  | .min => match args with
    | x :: r => (foldMax false x r).map (·, h)
    | [] => none
  | _ => none
def acallOp (C : Cfg) (own : Bool) (ev : Operand → AVal) (h : AHeap) (c : Call) : Option AOut :=
  match c.callee with
  | .builtin b => (abuiltin C own b c.argTypes.toList h (c.args.toList.map ev)).map fun r => .val r.1 r.2
  | .value f => match ev f with
    | .fn (.func g) first cap => some (.call g (first ++ c.args.toList.map ev ++ cap))
    | _ => none
  | .invoke _ _ => none
def amakeSlice (C : Cfg) (pos : String) (h : AHeap) (t : TypeId) (l c : AVal) : Option (AVal × AHeap) :=
  match C.P.underlying t, l, c with
  | some (.slice e), .int _ n, .int _ m => do
    let i ← C.P.info? e
    let z ← zeroA C.P e
    if 0 ≤ n ∧ n ≤ m ∧ m ≤ 9223372036854775807 ∧ i.bytes * m.toNat ≤ 2 ^ 47 ∧ z.cells.length = i.size ∧ i.size ≠ 0 then
      if n = 0 ∧ C.own pos = false then some (.lst [] 0 (.tok h.next), h.new (.tok i.size))
      else some (.sl h.next 0 i.size n.toNat m.toNat false, h.new (.arr (zerosA z.cells m.toNat)))
    else none
  | _, _, _ => none
def aoper (C : Cfg) (ev : Operand → AVal) (h : AHeap) (o : Oper) : Option AOut :=
  match o.op with
  | .move x | .assign x => some (.val (ev x) h)
  | .pick c a b => match ev c with
    | .bool t => some (.val (if t then ev a else ev b) h)
    | _ => none
  | .alloc e => do
    let z ← zeroA C.P e
    let r ← abox h z
    some (.val r.1 (if C.own o.pos then r.2.mark h.next (e, true) else r.2))
  | .box e x =>
    if C.cbox o.pos then (if (ev x).boxable then some (.val (.iptr (ev x).cells) h) else none)
    else do
      let r ← abox h (ev x)
      some (.val r.1 (if C.own o.pos then r.2.mark h.next (e, true) else r.2))
  | .build t parts => do
    let v ← abuild C.P t (parts.toList.map fun p => (p.1, ev p.2))
    some (.val v h)
  | .buildSlice t len parts => do
    let r ← abuildSlice C.P t len (parts.toList.map fun p => (p.1, ev p.2))
    if C.own o.pos then some (.val (.sl h.next 0 r.2 len len false) (h.new (.arr r.1)))
    else some (.val (.lst r.1 len .full) h)
  | .load t a => do
    let v ← aload C.P h t (ev a)
    some (.val v h)
  | .store t a x => do
    let h' ← astore C.P h t (ev a) (ev x)
    some (.val .top h')
  | .nilCheck x => match ev x with
    | .nilPtr | .nilI | .nilFn | .top => none
    | .fn (.func g) a b => some (.val (.fn (.func g) a b) h)
    | .fn _ _ _ => none
    | v => some (.val v h)
  | .binOp op t x y _ => do
    let v ← abin C op t x y h (ev x) (ev y)
    some (.val v h)
  | .unOp op _ x => do
    let v ← aun C op (ev x)
    some (.val v h)
  | .convert s d x => do
    let r ← aconvert C.P h s d (ev x)
    some (.val r.1 r.2)
  | .makeInterface t x => match C.P.underlying t with
    | some (.interface _) => none
    | none => none
    | some _ => some (.val (.iface t (ev x)) h)
  | .makeFunc fn first cap => some (.val (.fn fn (first.toList.map ev) (cap.toList.map ev)) h)
  | .makeMap _ none => some (.val (.map h.next) (h.new (.map [] 0)))
  | .makeMap t (some r) => match C.P.underlying t, ev r with
    | some (.map _ _), .int _ _ => some (.val (.map h.next) (h.new (.map [] 0)))
    | _, _ => none
  | .makeSlice t l c => (amakeSlice C o.pos h t (ev l) (ev c)).map fun r => .val r.1 r.2
  | .slice t x lo hi mx => do
    let v ← aslice C.P h t (ev x) (lo.map ev) (hi.map ev) (mx.map ev)
    some (.val v h)
  | .fieldAddr t x f => do
    let v ← afieldAddr C.P t (ev x) f
    some (.val v h)
  | .field t x f => do
    let v ← afield C.P t (ev x) f
    some (.val v h)
  | .indexAddr t x i => do
    let v ← aindexAddr C.P t (ev x) (ev i)
    some (.val v h)
  | .index t x i => do
    let v ← aindex C.P t (ev x) (ev i)
    some (.val v h)
  | .lookup t x k ok => do
    let v ← alookup C.P h t (ev x) (ev k) ok
    some (.val v h)
  | .mapUpdate t m k x => do
    let h' ← amapUpdate C.P h t (ev m) (ev k) (ev x)
    some (.val .top h')
  | .insert t m k x => do
    let h' ← amapUpdate C.P h t (ev m) (ev k) (ev x)
    some (.val .top h')
  | .extract t i => do
    let v ← extractA (ev t) i
    some (.val v h)
  | .typeAssert x _ asserted ok => match C.P.underlying asserted, ev x with
    | some (.interface _), _ => none
    | none, _ => none
    | some _, .iface t v =>
      if t = asserted then some (.val (if ok then .tup [v, .bool true] else v) h)
      else if ok then do
        let z ← zeroA C.P asserted
        some (.val (.tup [z, .bool false]) h)
      else none
    | some _, _ => none
  | .call c => acallOp C (C.own o.pos) ev h c
  | .panic x => match ev x with
    | .iface t v => some (.pan (.iface t v))
    | _ => none
  | _ => none
def awanted (ops : Array Oper) (tmps : List AVal) (o : Oper) : Option Bool :=
  match o.guard with
  | none => some true
  | some (j, want) => match ((ops[j]?).bind (·.dst)).bind (tmps[·]?) with
    | some (.bool b) => some (b == want)
    | some .top => none
    | some _ => some false
    | none => some false
inductive ARes where
  | ret (v : AVal)
  | pan (v : AVal)
inductive AExit where
  | normal | exit (id : Nat) | ret | pan (v : AVal)
abbrev CallF := FuncId → List AVal → AHeap → Option (ARes × AHeap)
def aops (C : Cfg) (call : CallF) (ops : Array Oper) : List Oper → ASt → Option (AExit × ASt)
  | [], s => some (.normal, s)
  | o :: rest, s =>
    match awanted ops s.tmps o with
    | none => none
    | some false => aops C call ops rest { s with tmps := put s.tmps o.dst (.tup []) }
    | some true =>
      match aoper C (evalO C s.tmps) s.h o with
      | none => none
      | some (.val v h') => aops C call ops rest { tmps := put s.tmps o.dst v, h := h' }
      | some (.pan v) => some (.pan v, s)
      | some (.call f args) =>
        match call f args s.h with
        | none => none
        | some (.ret v, h') => aops C call ops rest { tmps := put s.tmps o.dst v, h := h' }
        | some (.pan v, h') => some (.pan v, { s with h := h' })
mutual
def eqA : AVal → AVal → Bool
  | .top, .top | .nilPtr, .nilPtr | .nilSl, .nilSl | .nilMap, .nilMap | .nilI, .nilI | .nilFn, .nilFn => true
  | .bool a, .bool b => a == b
  | .int k a, .int l b => decide (k = l) && decide (a = b)
  | .str a, .str b => decide (a = b)
  | .ptr i a, .ptr j b => decide (i = j) && decide (a = b)
  | .map i, .map j => decide (i = j)
  | .sl i a b c d e, .sl i' a' b' c' d' e' => decide (i = i') && decide (a = a') && decide (b = b') && decide (c = c') && decide (d = d') && (e == e')
  | .iptr a, .iptr b => eqAs a b
  | .lst a n c, .lst b m d => eqAs a b && decide (n = m) && decide (c = d)
  | .agg a, .agg b => eqAs a b
  | .tup a, .tup b => eqAs a b
  | .iface t a, .iface u b => decide (t = u) && eqA a b
  | .fn f a b, .fn g c d => decide (f = g) && eqAs a c && eqAs b d
  | _, _ => false
def eqAs : List AVal → List AVal → Bool
  | [], [] => true
  | a :: as, b :: bs => eqA a b && eqAs as bs
  | _, _ => false
end
def eqE : List (AVal × AVal × Nat) → List (AVal × AVal × Nat) → Bool
  | [], [] => true
  | a :: as, b :: bs => eqA a.1 b.1 && eqA a.2.1 b.2.1 && decide (a.2.2 = b.2.2) && eqE as bs
  | _, _ => false
def eqB : ABlk → ABlk → Bool
  | .arr a, .arr b => eqAs a b
  | .tok a, .tok b => decide (a = b)
  | .map a m, .map b n => eqE a b && decide (m = n)
  | .sIter a m, .sIter b n => decide (a = b) && decide (m = n)
  | _, _ => false
def sameBlk (h h' : AHeap) (id : Nat) : Bool :=
  match h.get id, h'.get id with
  | some a, some b => eqB a b
  | none, none => true
  | _, _ => false
def topRefs : AVal → List Nat
  | .ptr id _ | .sl id _ _ _ _ _ | .map id => [id]
  | _ => []
def areads (C : Cfg) (ev : Operand → AVal) (o : Oper) : Option (List Nat) :=
  match o.op with
  | .box _ _ => if C.cbox o.pos then some [] else none
  | .move _ | .assign _ | .pick .. | .build .. | .nilCheck _ | .unOp .. | .makeInterface .. | .makeFunc .. | .fieldAddr .. | .field ..
  | .indexAddr .. | .index .. | .extract .. | .typeAssert .. => some []
  | .binOp op _ x y _ => match op with
    | .eql | .neq => some (topRefs (ev x) ++ topRefs (ev y))
    | _ => some []
  | .load _ a => some (topRefs (ev a))
  | .lookup _ x _ _ => some (topRefs (ev x))
  | .slice _ x _ _ _ => some (topRefs (ev x))
  | .call c => match c.callee with
    | .builtin .len | .builtin .cap => some (c.args.toList.flatMap fun a => topRefs (ev a))
    | .builtin .max | .builtin .min => some []
    | _ => none
  | _ => none
structure Did where
  cls : Option (List Nat)
  h0 : AHeap
  h1 : AHeap
def edgesOf (o : Oper) : List Nat := (o.after.toList.filter fun e => Region.binds .any e).map (·.on)
def ancs (ops : List Oper) : List (List Nat) :=
  ops.foldl (fun acc o => acc ++ [(edgesOf o ++ (edgesOf o).flatMap fun e => acc.getD e []).eraseDups]) []
def tmpOf : Operand → List Nat
  | .tmp t => [t]
  | _ => []
def looks (ops : Array Oper) (o : Oper) : List Nat :=
  o.op.operands.toList.flatMap tmpOf ++ (match o.guard with
    | some (j, _) => (((ops[j]?).bind (·.dst)).map fun t => [t]).getD []
    | none => [])
def writes (o : Oper) : List Nat := (o.dst.map fun t => [t]).getD []
def free2 (ops : Array Oper) (x y : Oper) : Bool :=
  (writes x).all (fun t => !(looks ops y).contains t && !(writes y).contains t) && (writes y).all (fun t => !(looks ops x).contains t)
def memOk (a b : Did) : Bool :=
  match a.cls, b.cls with
  | some _, some _ => true
  | some ids, none => ids.all (sameBlk b.h0 b.h1)
  | none, some ids => ids.all (sameBlk a.h0 a.h1)
  | none, none => false
def pairsOk (ops : Array Oper) (an : List (List Nat)) (cs : List Did) : Bool :=
  (List.range cs.length).all fun j => (List.range j).all fun i =>
    (an.getD j []).contains i ||
    match ops[i]?, ops[j]?, cs[i]?, cs[j]? with
    | some x, some y, some a, some b => free2 ops x y && memOk a b
    | _, _, _, _ => false
def apure (C : Cfg) (f : FuncId) (args : List AVal) : Bool :=
  (C.summ f).isSome || (C.foc f && (refsL args).isEmpty && ((C.P.funcs[f]?).bind (·.body)).isSome)
def drawGo (C : Cfg) (call : CallF) (ops : Array Oper) : List Oper → ASt → Option (List Did × ASt)
  | [], s => some ([], s)
  | o :: rest, s =>
    match awanted ops s.tmps o with
    | none => none
    | some false => (drawGo C call ops rest { s with tmps := put s.tmps o.dst (.tup []) }).map fun r => (⟨some [], s.h, s.h⟩ :: r.1, r.2)
    | some true =>
      match aoper C (evalO C s.tmps) s.h o with
      | none => none
      | some (.val v h') => (drawGo C call ops rest { tmps := put s.tmps o.dst v, h := h' }).map fun r => (⟨areads C (evalO C s.tmps) o, s.h, h'⟩ :: r.1, r.2)
      | some (.pan _) => none
      | some (.call f args) =>
        match call f args s.h with
        | some (.ret v, h') => (drawGo C call ops rest { tmps := put s.tmps o.dst v, h := h' }).map fun r =>
            (⟨if apure C f args then some [] else none, s.h, h'⟩ :: r.1, r.2)
        | _ => none
def backOk (ops : Array Oper) : Bool := (List.range ops.size).all fun i => match ops[i]? with
  | some o => (edgesOf o).all (· < i)
  | none => true
def adraw (C : Cfg) (call : CallF) (ops : Array Oper) (s : ASt) : Option (AExit × ASt) :=
  match drawGo C call ops ops.toList s with
  | some (cs, s') => if pairsOk ops (ancs ops.toList) cs && backOk ops then some (.normal, s') else none
  | none => none
def iter (f : ASt → Option (AExit × ASt)) : Nat → ASt → Option (AExit × ASt)
  | 0, _ => none
  | k + 1, s => match f s with
    | some (.normal, s') => iter f k s'
    | r => r
def aexec (C : Cfg) (call : CallF) (n : Nat) : Code → ASt → Option (AExit × ASt)
  | .skip, s => some (.normal, s)
  | .region _ ops false, s => aops C call ops ops.toList s
  | .region _ ops true, s => adraw C call ops s
  | .seq a b, s => match aexec C call n a s with
    | some (.normal, s') => aexec C call n b s'
    | r => r
  | .cond c a b, s => match evalO C s.tmps c with
    | .bool true => aexec C call n a s
    | .bool false => aexec C call n b s
    | _ => none
  | .block id c, s => match aexec C call n c s with
    | some (.exit j, s') => if j = id then some (.normal, s') else some (.exit j, s')
    | r => r
  | .loop c, s => iter (aexec C call n c) n s
  | .exit id, s => some (.exit id, s)
  | .ret, s => some (.ret, s)
  | .scope c, s => aexec C call n c s
  | .label _, s => some (.normal, s)
  | _, _ => none
def ares1 (C : Cfg) (s : ASt) : ResultVar → Option AVal
  | .tmp t => some ((s.tmps[t]?).getD .top)
  | .cell a t => aload C.P s.h t ((s.tmps[a]?).getD .top)
def aresults (C : Cfg) (rs : List ResultVar) (s : ASt) : Option (List AVal) :=
  match rs with
  | [] => some []
  | r :: rest => match ares1 C s r, aresults C rest s with
    | some v, some vs => some (v :: vs)
    | _, _ => none
def packRes : List AVal → AVal
  | [v] => v
  | vs => .tup vs
def abody (C : Cfg) (call : CallF) (n : Nat) (fn : Func) (body : Code) (args : List AVal) (h : AHeap) : Option (ARes × AHeap) :=
  match aexec C call n body { tmps := args ++ List.replicate (fn.ntmps - args.length) .top, h } with
  | some (.normal, s) | some (.ret, s) => (aresults C fn.results.toList s).map fun vs => (.ret (packRes vs), s.h)
  | some (.pan v, s) => some (.pan v, s.h)
  | _ => none
inductive AMode where
  | calm | pan (v : AVal) | done (v : AVal)
def isRecover (o : Oper) : Bool := match o.op with
  | .call c => match c.callee with
    | .builtin .recover => true
    | _ => false
  | _ => false
def aopsR (C : Cfg) (call : CallF) (ops : Array Oper) : List Oper → ASt → AMode → Option (AExit × ASt × AMode)
  | [], s, m => some (.normal, s, m)
  | o :: rest, s, m =>
    match awanted ops s.tmps o with
    | none => none
    | some false => aopsR C call ops rest { s with tmps := put s.tmps o.dst (.tup []) } m
    | some true =>
      if isRecover o then
        match m with
        | .pan v => aopsR C call ops rest { s with tmps := put s.tmps o.dst v } (.done v)
        | .calm => aopsR C call ops rest { s with tmps := put s.tmps o.dst .nilI } .calm
        | .done _ => none
      else
        match aoper C (evalO C s.tmps) s.h o with
        | none => none
        | some (.val v h') => aopsR C call ops rest { tmps := put s.tmps o.dst v, h := h' } m
        | some (.pan v) => some (.pan v, s, m)
        | some (.call f args) =>
          match call f args s.h with
          | none => none
          | some (.ret v, h') => aopsR C call ops rest { tmps := put s.tmps o.dst v, h := h' } m
          | some (.pan v, h') => some (.pan v, { s with h := h' }, m)
def aexecR (C : Cfg) (call : CallF) (n : Nat) : Code → ASt → AMode → Option (AExit × ASt × AMode)
  | .region _ ops false, s, m => aopsR C call ops ops.toList s m
  | .seq a b, s, m => match aexecR C call n a s m with
    | some (.normal, s', m') => aexecR C call n b s' m'
    | r => r
  | .cond c a b, s, m => match evalO C s.tmps c with
    | .bool true => aexecR C call n a s m
    | .bool false => aexecR C call n b s m
    | _ => none
  | c, s, m => (aexec C call n c s).map fun r => (r.1, r.2, m)
def adefer (C : Cfg) (call : CallF) (n : Nat) (g : FuncId) (args : List AVal) (m : AMode) (h : AHeap) : Option (ARes × AHeap × AMode) :=
  match C.P.funcs[g]? with
  | none => none
  | some fn => match fn.body with
    | none => none
    | some body => match aexecR C call n body { tmps := args ++ List.replicate (fn.ntmps - args.length) .top, h } m with
      | some (.normal, s, m') | some (.ret, s, m') => (aresults C fn.results.toList s).map fun vs => (.ret (packRes vs), s.h, m')
      | some (.pan v, s, m') => some (.pan v, s.h, m')
      | _ => none
def aleave (C : Cfg) (call : CallF) (n : Nat) (fn : Func) (g : FuncId) (args : List AVal) : Option (AExit × ASt) → Option (ARes × AHeap)
  | some (.normal, s) | some (.ret, s) => match adefer C call n g args .calm s.h with
    | some (.ret _, h', _) => (aresults C fn.results.toList { s with h := h' }).map fun vs => (.ret (packRes vs), h')
    | some (.pan v, h', _) => some (.pan v, h')
    | none => none
  | some (.pan v, s) => match adefer C call n g args (.pan v) s.h with
    | some (.ret _, h', .done _) => (aresults C fn.results.toList { s with h := h' }).map fun vs => (.ret (packRes vs), h')
    | some (.ret _, h', .pan u) => some (.pan u, h')
    | _ => none
  | _ => none
def deferOf : Code → Option (Array Oper × List Oper × Oper × Call)
  | .region _ ops false => match ops.toList.reverse with
    | o :: init => match o.op, o.guard with
      | .defer c, none => some (ops, init.reverse, o, c)
      | _, _ => none
    | [] => none
  | _ => none
def calleeOf (ev : Operand → AVal) (c : Call) : Option (FuncId × List AVal) :=
  match c.callee with
  | .value f => match ev f with
    | .fn (.func g) first cap => some (g, first ++ c.args.toList.map ev ++ cap)
    | _ => none
  | _ => none
def abodyD (C : Cfg) (call : CallF) (n : Nat) (fn : Func) : Code → ASt → Option (ARes × AHeap)
  | .seq a b, s => match deferOf a with
    | some (ops, init, o, c) => match aops C call ops init s with
      | some (.normal, s1) => match calleeOf (evalO C s1.tmps) c with
        | some (g, args) => aleave C call n fn g args (aexec C call n b { s1 with tmps := put s1.tmps o.dst .top })
        | none => none
      | _ => none
    | none => match aexec C call n a s with
      | some (.normal, s1) => abodyD C call n fn b s1
      | _ => none
  | _, _ => none
def abodyX (C : Cfg) (call : CallF) (n : Nat) (f : FuncId) (fn : Func) (body : Code) (args : List AVal) (h : AHeap) : Option (ARes × AHeap) :=
  if C.dfr f then abodyD C call n fn body { tmps := args ++ List.replicate (fn.ntmps - args.length) .top, h } else abody C call n fn body args h
def putAll (F : Nat → Option (List AVal)) (ids : List Nat) (h : AHeap) : Option AHeap :=
  ids.foldlM (fun (h' : AHeap) i => (F i).map fun ds => h'.set i (some (.arr ds))) h
def arrAt (keep : Nat → Bool) (hh : AHeap) (d : Nat) (h : AHeap) (i : Nat) : Option (List AVal) :=
  match h.get i with
  | some (.arr cs) => norms keep hh d cs
  | _ => none
def normRes (keep : Nat → Bool) (h : AHeap) (d : Nat) : ARes → Option ARes
  | .ret v => (norm keep h d v).map .ret
  | .pan v => (norm keep h d v).map .pan
def home (ids : List Nat) (d : Nat) (h h1 : AHeap) (r : ARes) : Option (ARes × AHeap) :=
  match normRes (fun i => ids.contains i) h1 d r, putAll (arrAt (fun i => ids.contains i) h1 d h1) ids h with
  | some r', some h' => some (r', h')
  | _, _ => none
def topId : List Nat → Nat
  | [] => 0
  | i :: r => max (i + 1) (topId r)
def focus (ids : List Nat) (d : Nat) (h : AHeap) : Option AHeap :=
  putAll (arrAt (fun i => ids.contains i) AHeap.empty d h) ids { get := fun _ => none, next := topId ids, ty := fun _ => none }
def depth : Nat := 100
def arun (C : Cfg) : Nat → CallF
  | 0 => fun _ _ _ => none
  | n + 1 => fun f args h =>
    match C.summ f with
    | some s => match norms (fun _ => false) AHeap.empty depth args with
      | some as => (s as).map fun v => (.ret v, h)
      | none => none
    | none =>
      match C.P.funcs[f]? with
      | none => none
      | some fn =>
        match fn.body with
        | none => (aextern C fn h args).map fun r => (.ret r.1, r.2)
        | some body =>
          if C.foc f then
            let ids := (refsL args).eraseDups
            match norms (fun i => ids.contains i) AHeap.empty depth args, focus ids depth h with
            | some as, some h0 =>
              match abodyX C (arun C n) n f fn body as h0 with
              | some (r, h1) => home ids depth h h1 r
              | none => none
            | _, _ => none
          else abodyX C (arun C n) n f fn body args h
end Go.Am

