/-
  THE ABSTRACT MACHINE, second part: operations, regions, code, calls.
-/
import Derived.Test.YtgjdlakemaabfaaAmCore
set_option linter.unusedVariables false
namespace Go.Am
open Go

/-! ### a value brought into the form that bears its own content -/
mutual
def normW (keep : Nat → Bool) (hop : Nat → Option (List AVal)) : AVal → Option AVal
  | .ptr id off => if keep id then some (.ptr id off) else (hop id).map fun cs => .iptr (cs.drop off)
  | .sl id off es len cap op =>
    if keep id then some (.sl id off es len cap op) else
    match hop id with
    | some cs => if len ≤ cap ∧ off + len * es ≤ cs.length then some (.lst ((cs.drop off).take (len * es)) len .unk) else none
    | none => none
  | .map id => if keep id then some (.map id) else none
  | .iptr cs => (normL keep hop cs).map .iptr
  | .lst cs n c => (normL keep hop cs).map fun ds => .lst ds n (match c with
    | .full => .full
    | .unk => .unk
    | .tok _ => .unk)
  | .fn f a b => match normL keep hop a, normL keep hop b with
    | some a', some b' => some (.fn f a' b')
    | _, _ => none
  | .iface t v => (normW keep hop v).map (.iface t)
  | .agg cs => (normL keep hop cs).map .agg
  | .tup cs => (normL keep hop cs).map .tup
  | .top => some .top
  | .bool b => some (.bool b)
  | .int k n => some (.int k n)
  | .str s => some (.str s)
  | .nilPtr => some .nilPtr
  | .nilSl => some .nilSl
  | .nilMap => some .nilMap
  | .nilI => some .nilI
  | .nilFn => some .nilFn
def normL (keep : Nat → Bool) (hop : Nat → Option (List AVal)) : List AVal → Option (List AVal)
  | [] => some []
  | v :: vs => match normW keep hop v, normL keep hop vs with
    | some x, some xs => some (x :: xs)
    | _, _ => none
end

/-- what a block leads to, d blocks deep -/
def hops (keep : Nat → Bool) (h : AHeap) : Nat → Nat → Option (List AVal)
  | 0, _ => none
  | d + 1, id => match h.get id with
    | some (.arr cs) => if keep id then none else normL keep (hops keep h d) cs
    | _ => none

def norm (keep : Nat → Bool) (h : AHeap) (d : Nat) (v : AVal) : Option AVal := normW keep (hops keep h d) v
def norms (keep : Nat → Bool) (h : AHeap) (d : Nat) (vs : List AVal) : Option (List AVal) := normL keep (hops keep h d) vs

mutual
/-- the blocks that a value names -/
def refs : AVal → List Nat
  | .ptr id _ | .sl id _ _ _ _ _ | .map id => [id]
  | .iptr cs | .lst cs _ _ | .agg cs | .tup cs => refsL cs
  | .fn _ a b => refsL a ++ refsL b
  | .iface _ v => refs v
  | .top | .bool _ | .int _ _ | .str _ | .nilPtr | .nilSl | .nilMap | .nilI | .nilFn => []
def refsL : List AVal → List Nat
  | [] => []
  | v :: vs => refs v ++ refsL vs
end

/-! ### operations -/
inductive AOut where
  | val (v : AVal) (h : AHeap)
  | call (f : FuncId) (args : List AVal)
  | pan (v : AVal)

def aextern (C : Cfg) (name : String) (h : AHeap) (args : List AVal) : Option (AVal × AHeap) :=
  if name = "sync/atomic.AddInt64" then
    match args with
    | [p, .int _ d] => do
      let .int .i64 n ← loadA h false 1 p | none
      let h' ← storeA h 1 p (.int .i64 (IntKind.i64.wrap (n + d)))
      some (.int .i64 (IntKind.i64.wrap (n + d)), h')
    | _ => none
  else if name = "sync/atomic.LoadInt64" then
    match args with
    | [p] => do
      let .int .i64 n ← loadA h false 1 p | none
      some (.int .i64 n, h)
    | _ => none
  else none

def abuiltin (C : Cfg) (own : Bool) (b : Builtin) (argTypes : List TypeId) (h : AHeap) (args : List AVal) : Option (AVal × AHeap) :=
  match b with
  | .append => aappend C.P own h argTypes args
  | .copy => acopy C.P h argTypes args
  | .len => match argTypes, args with
    | t :: _, x :: _ => (alen C.P h t x).map (·, h)
    | _, _ => none
  | .cap => match argTypes, args with
    | t :: _, x :: _ => (acap C.P t x).map (·, h)
    | _, _ => none
  | .clear => match argTypes, args with
    | t :: _, x :: _ => (aclear C.P h t x).map (.top, ·)
    | _, _ => none
  | .delete => match argTypes, args with
    | t :: _, x :: k :: _ => (adelete C.P h t x k).map (.top, ·)
    | _, _ => none
  | .max => match args with
    | x :: r => (foldMax true x r).map (·, h)
    | [] => none
  | .min => match args with
    | x :: r => (foldMax false x r).map (·, h)
    | [] => none
  | _ => none

/-- a call: of what, with what -/
def acallOp (C : Cfg) (own : Bool) (ev : Operand → AVal) (h : AHeap) (c : Call) : Option AOut :=
  match c.callee with
  | .builtin b => (abuiltin C own b c.argTypes.toList h (c.args.toList.map ev)).map fun r => .val r.1 r.2
  | .value f => match ev f with
    | .fn (.func g) first cap => some (.call g (first ++ c.args.toList.map ev ++ cap))
    | _ => none
  | .invoke _ _ => none

def aoper (C : Cfg) (ev : Operand → AVal) (h : AHeap) (o : Oper) : Option AOut :=
  match o.op with
  | .move x | .assign x => some (.val (ev x) h)
  | .pick c a b => match ev c with
    | .bool t => some (.val (if t then ev a else ev b) h)
    | _ => none
  | .alloc e => do
    let z ← zeroA C.P e
    let r ← abox h z
    some (.val r.1 r.2)
  | .box _ x => do
    let r ← abox h (ev x)
    some (.val r.1 r.2)
  | .build t parts => do
    let v ← abuild C.P t (parts.toList.map fun p => (p.1, ev p.2))
    some (.val v h)
  | .buildSlice t len parts => do
    let r ← abuildSlice C.P t len (parts.toList.map fun p => (p.1, ev p.2))
    if C.own o.pos then some (.val (.sl h.next 0 r.2 len len false) (h.new (.arr r.1)))
    else some (.val (.lst r.1 len .full) h)
  | .load t a => do
    let v ← aload C.P h t (ev a)
    some (.val v h)
  | .store t a x => do
    let h' ← astore C.P h t (ev a) (ev x)
    some (.val .top h')
  | .nilCheck x => match ev x with
    | .nilPtr | .nilI | .nilFn | .top => none
    | .fn (.func g) a b => some (.val (.fn (.func g) a b) h)
    | .fn _ _ _ => none
    | v => some (.val v h)
  | .binOp op t x y _ => do
    let v ← abin C op t x y h (ev x) (ev y)
    some (.val v h)
  | .unOp op _ x => do
    let v ← aun C op (ev x)
    some (.val v h)
  | .convert s d x => do
    let r ← aconvert C.P h s d (ev x)
    some (.val r.1 r.2)
  | .makeInterface t x => match C.P.underlying t with
    | some (.interface _) => none
    | none => none
    | some _ => some (.val (.iface t (ev x)) h)
  | .makeFunc fn first cap => some (.val (.fn fn (first.toList.map ev) (cap.toList.map ev)) h)
  | .makeMap _ none => some (.val (.map h.next) (h.new (.map [] 0)))
  | .makeMap t (some r) => match C.P.underlying t, ev r with
    | some (.map _ _), .int _ _ => some (.val (.map h.next) (h.new (.map [] 0)))
    | _, _ => none
  | .makeSlice t l c => match C.P.underlying t, ev l, ev c with
    | some (.slice e), .int _ n, .int _ m => do
      let i ← C.P.info? e
      let z ← zeroA C.P e
      if 0 ≤ n ∧ n ≤ m ∧ m ≤ 9223372036854775807 ∧ i.bytes * m.toNat ≤ 2 ^ 47 ∧ z.cells.length = i.size ∧ i.size ≠ 0 then
        if n = 0 ∧ C.own o.pos = false then some (.val (.lst [] 0 (.tok h.next)) (h.new (.tok i.size)))
        else some (.val (.sl h.next 0 i.size n.toNat m.toNat false) (h.new (.arr (zerosA z.cells m.toNat))))
      else none
    | _, _, _ => none
  | .slice t x lo hi mx => do
    let v ← aslice C.P h t (ev x) (lo.map ev) (hi.map ev) (mx.map ev)
    some (.val v h)
  | .fieldAddr t x f => do
    let v ← afieldAddr C.P t (ev x) f
    some (.val v h)
  | .field t x f => do
    let v ← afield C.P t (ev x) f
    some (.val v h)
  | .indexAddr t x i => do
    let v ← aindexAddr C.P t (ev x) (ev i)
    some (.val v h)
  | .index t x i => do
    let v ← aindex C.P t (ev x) (ev i)
    some (.val v h)
  | .lookup t x k ok => do
    let v ← alookup C.P h t (ev x) (ev k) ok
    some (.val v h)
  | .mapUpdate t m k x => do
    let h' ← amapUpdate C.P h t (ev m) (ev k) (ev x)
    some (.val .top h')
  | .insert t m k x => do
    let h' ← amapUpdate C.P h t (ev m) (ev k) (ev x)
    some (.val .top h')
  | .extract t i => do
    let v ← extractA (ev t) i
    some (.val v h)
  | .typeAssert x _ asserted ok => match C.P.underlying asserted, ev x with
    | some (.interface _), _ => none
    | none, _ => none
    | some _, .iface t v =>
      if t = asserted then some (.val (if ok then .tup [v, .bool true] else v) h)
      else if ok then do
        let z ← zeroA C.P asserted
        some (.val (.tup [z, .bool false]) h)
      else none
    | some _, _ => none
  | .call c => acallOp C (C.own o.pos) ev h c
  | .panic x => match ev x with
    | .iface t v => some (.pan (.iface t v))
    | _ => none
  | _ => none

/-- is an operation to be done: none where that is not known -/
def awanted (ops : Array Oper) (tmps : List AVal) (o : Oper) : Option Bool :=
  match o.guard with
  | none => some true
  | some (j, want) => match ((ops[j]?).bind (·.dst)).bind (tmps[·]?) with
    | some (.bool b) => some (b == want)
    | some .top => none
    | some _ => some false
    | none => some false

inductive ARes where
  | ret (v : AVal)
  | pan (v : AVal)

inductive AExit where
  | normal | exit (id : Nat) | ret | pan (v : AVal)

abbrev CallF := FuncId → List AVal → AHeap → Option (ARes × AHeap)

def aops (C : Cfg) (call : CallF) (ops : Array Oper) : List Oper → ASt → Option (AExit × ASt)
  | [], s => some (.normal, s)
  | o :: rest, s =>
    match awanted ops s.tmps o with
    | none => none
    | some false => aops C call ops rest { s with tmps := put s.tmps o.dst (.tup []) }
    | some true =>
      match aoper C (evalO C s.tmps) s.h o with
      | none => none
      | some (.val v h') => aops C call ops rest { tmps := put s.tmps o.dst v, h := h' }
      | some (.pan v) => some (.pan v, s)
      | some (.call f args) =>
        match call f args s.h with
        | none => none
        | some (.ret v, h') => aops C call ops rest { tmps := put s.tmps o.dst v, h := h' }
        | some (.pan v, h') => some (.pan v, { s with h := h' })

/-! ### which regions may draw their order -/
mutual
/-- the same value, told by looking -/
def eqA : AVal → AVal → Bool
  | .top, .top | .nilPtr, .nilPtr | .nilSl, .nilSl | .nilMap, .nilMap | .nilI, .nilI | .nilFn, .nilFn => true
  | .bool a, .bool b => a == b
  | .int k a, .int l b => decide (k = l) && decide (a = b)
  | .str a, .str b => decide (a = b)
  | .ptr i a, .ptr j b => decide (i = j) && decide (a = b)
  | .map i, .map j => decide (i = j)
  | .sl i a b c d e, .sl i' a' b' c' d' e' => decide (i = i') && decide (a = a') && decide (b = b') && decide (c = c') && decide (d = d') && (e == e')
  | .iptr a, .iptr b => eqAs a b
  | .lst a n c, .lst b m d => eqAs a b && decide (n = m) && decide (c = d)
  | .agg a, .agg b => eqAs a b
  | .tup a, .tup b => eqAs a b
  | .iface t a, .iface u b => decide (t = u) && eqA a b
  | .fn (.func f) a b, .fn (.func g) c d => decide (f = g) && eqAs a c && eqAs b d
  | _, _ => false
def eqAs : List AVal → List AVal → Bool
  | [], [] => true
  | a :: as, b :: bs => eqA a b && eqAs as bs
  | _, _ => false
end
def eqE : List (AVal × AVal × Nat) → List (AVal × AVal × Nat) → Bool
  | [], [] => true
  | a :: as, b :: bs => eqA a.1 b.1 && eqA a.2.1 b.2.1 && decide (a.2.2 = b.2.2) && eqE as bs
  | _, _ => false
def eqB : ABlk → ABlk → Bool
  | .arr a, .arr b => eqAs a b
  | .tok a, .tok b => decide (a = b)
  | .map a m, .map b n => eqE a b && decide (m = n)
  | .sIter a m, .sIter b n => decide (a = b) && decide (m = n)
  | _, _ => false
def sameBlk (h h' : AHeap) (id : Nat) : Bool :=
  match h.get id, h'.get id with
  | some a, some b => eqB a b
  | none, none => true
  | _, _ => false

/-- the block that a value names itself -/
def topRefs : AVal → List Nat
  | .ptr id _ | .sl id _ _ _ _ _ | .map id => [id]
  | _ => []
/-- which blocks an operation reads; none where it acts -/
def areads (ev : Operand → AVal) (o : Oper) : Option (List Nat) :=
  match o.op with
  | .move _ | .assign _ | .pick .. | .build .. | .nilCheck _ | .unOp .. | .makeInterface .. | .makeFunc .. | .fieldAddr .. | .field ..
  | .indexAddr .. | .index .. | .extract .. | .typeAssert .. => some []
  | .binOp op _ x y _ => match op with
    | .eql | .neq => some (topRefs (ev x) ++ topRefs (ev y))
    | _ => some []
  | .load _ a => some (topRefs (ev a))
  | .lookup _ x _ _ => some (topRefs (ev x))
  | .slice _ x _ _ _ => some (topRefs (ev x))
  | .call c => match c.callee with
    | .builtin .len | .builtin .cap => some (c.args.toList.flatMap fun a => topRefs (ev a))
    | .builtin .max | .builtin .min => some []
    | _ => none
  | _ => none

/-- what an operation of a region did: what it read, the memory ahead of it and behind it -/
structure Did where
  cls : Option (List Nat)
  h0 : AHeap
  h1 : AHeap

/-- what must be done ahead of each operation of a region -/
def edgesOf (o : Oper) : List Nat := (o.after.toList.filter fun e => Region.binds .any e).map (·.on)
def ancs (ops : List Oper) : List (List Nat) :=
  ops.foldl (fun acc o => acc ++ [(edgesOf o ++ (edgesOf o).flatMap fun e => acc.getD e []).eraseDups]) []

def tmpOf : Operand → List Nat
  | .tmp t => [t]
  | _ => []
/-- the slots that an operation looks at -/
def looks (ops : Array Oper) (o : Oper) : List Nat :=
  o.op.operands.toList.flatMap tmpOf ++ (match o.guard with
    | some (j, _) => (((ops[j]?).bind (·.dst)).map fun t => [t]).getD []
    | none => [])
def writes (o : Oper) : List Nat := (o.dst.map fun t => [t]).getD []

/-- may two operations change places: neither sees the other's slot -/
def free2 (ops : Array Oper) (x y : Oper) : Bool :=
  (writes x).all (fun t => !(looks ops y).contains t && !(writes y).contains t) && (writes y).all (fun t => !(looks ops x).contains t)
/-- .. nor do both act, nor does one act on what the other reads -/
def memOk (a b : Did) : Bool :=
  match a.cls, b.cls with
  | some _, some _ => true
  | some ids, none => ids.all (sameBlk b.h0 b.h1)
  | none, some ids => ids.all (sameBlk a.h0 a.h1)
  | none, none => false

def pairsOk (ops : Array Oper) (an : List (List Nat)) (cs : List Did) : Bool :=
  (List.range cs.length).all fun j => (List.range j).all fun i =>
    (an.getD j []).contains i ||
    match ops[i]?, ops[j]?, cs[i]?, cs[j]? with
    | some x, some y, some a, some b => free2 ops x y && memOk a b
    | _, _, _, _ => false

/-- a call that hangs on no memory -/
def apure (C : Cfg) (f : FuncId) (args : List AVal) : Bool :=
  (C.summ f).isSome || (C.foc f && (refsL args).isEmpty && ((C.P.funcs[f]?).bind (·.body)).isSome)

/-- the region in the order of its text; of each operation, what it does to memory -/
def drawGo (C : Cfg) (call : CallF) (ops : Array Oper) : List Oper → ASt → Option (List Did × ASt)
  | [], s => some ([], s)
  | o :: rest, s =>
    match awanted ops s.tmps o with
    | none => none
    | some false => (drawGo C call ops rest { s with tmps := put s.tmps o.dst (.tup []) }).map fun r => (⟨some [], s.h, s.h⟩ :: r.1, r.2)
    | some true =>
      match aoper C (evalO C s.tmps) s.h o with
      | none => none
      | some (.val v h') => (drawGo C call ops rest { tmps := put s.tmps o.dst v, h := h' }).map fun r => (⟨areads (evalO C s.tmps) o, s.h, h'⟩ :: r.1, r.2)
      | some (.pan _) => none
      | some (.call f args) =>
        match call f args s.h with
        | some (.ret v, h') => (drawGo C call ops rest { tmps := put s.tmps o.dst v, h := h' }).map fun r =>
            (⟨if apure C f args then some [] else none, s.h, h'⟩ :: r.1, r.2)
        | _ => none

/-- nothing waits for what stands behind it -/
def backOk (ops : Array Oper) : Bool := (List.range ops.size).all fun i => match ops[i]? with
  | some o => (edgesOf o).all (· < i)
  | none => true

def adraw (C : Cfg) (call : CallF) (ops : Array Oper) (s : ASt) : Option (AExit × ASt) :=
  match drawGo C call ops ops.toList s with
  | some (cs, s') => if pairsOk ops (ancs ops.toList) cs && backOk ops then some (.normal, s') else none
  | none => none

def iter (f : ASt → Option (AExit × ASt)) : Nat → ASt → Option (AExit × ASt)
  | 0, _ => none
  | k + 1, s => match f s with
    | some (.normal, s') => iter f k s'
    | r => r

def aexec (C : Cfg) (call : CallF) (n : Nat) : Code → ASt → Option (AExit × ASt)
  | .skip, s => some (.normal, s)
  | .region _ ops false, s => aops C call ops ops.toList s
  | .region _ ops true, s => adraw C call ops s
  | .seq a b, s => match aexec C call n a s with
    | some (.normal, s') => aexec C call n b s'
    | r => r
  | .cond c a b, s => match evalO C s.tmps c with
    | .bool true => aexec C call n a s
    | .bool false => aexec C call n b s
    | _ => none
  | .block id c, s => match aexec C call n c s with
    | some (.exit j, s') => if j = id then some (.normal, s') else some (.exit j, s')
    | r => r
  | .loop c, s => iter (aexec C call n c) n s
  | .exit id, s => some (.exit id, s)
  | .ret, s => some (.ret, s)
  | _, _ => none

def ares1 (C : Cfg) (s : ASt) : ResultVar → Option AVal
  | .tmp t => some ((s.tmps[t]?).getD .top)
  | .cell a t => aload C.P s.h t ((s.tmps[a]?).getD .top)
def aresults (C : Cfg) (rs : List ResultVar) (s : ASt) : Option (List AVal) :=
  match rs with
  | [] => some []
  | r :: rest => match ares1 C s r, aresults C rest s with
    | some v, some vs => some (v :: vs)
    | _, _ => none

def packRes : List AVal → AVal
  | [v] => v
  | vs => .tup vs

def abody (C : Cfg) (call : CallF) (n : Nat) (fn : Func) (body : Code) (args : List AVal) (h : AHeap) : Option (ARes × AHeap) :=
  match aexec C call n body { tmps := args ++ List.replicate (fn.ntmps - args.length) .top, h } with
  | some (.normal, s) | some (.ret, s) => (aresults C fn.results.toList s).map fun vs => (.ret (packRes vs), s.h)
  | some (.pan v, s) => some (.pan v, s.h)
  | _ => none

/-! ### functions that defer a closure -/
/-- a panic under way, where a deferred function looks at it: none; one; one that was recovered -/
inductive AMode where
  | calm | pan (v : AVal) | done (v : AVal)

def isRecover (o : Oper) : Bool := match o.op with
  | .call c => match c.callee with
    | .builtin .recover => true
    | _ => false
  | _ => false

/-- a region of a deferred function -/
def aopsR (C : Cfg) (call : CallF) (ops : Array Oper) : List Oper → ASt → AMode → Option (AExit × ASt × AMode)
  | [], s, m => some (.normal, s, m)
  | o :: rest, s, m =>
    match awanted ops s.tmps o with
    | none => none
    | some false => aopsR C call ops rest { s with tmps := put s.tmps o.dst (.tup []) } m
    | some true =>
      if isRecover o then
        match m with
        | .pan v => aopsR C call ops rest { s with tmps := put s.tmps o.dst v } (.done v)
        | .calm => aopsR C call ops rest { s with tmps := put s.tmps o.dst .nilI } .calm
        | .done _ => none
      else
        match aoper C (evalO C s.tmps) s.h o with
        | none => none
        | some (.val v h') => aopsR C call ops rest { tmps := put s.tmps o.dst v, h := h' } m
        | some (.pan v) => some (.pan v, s, m)
        | some (.call f args) =>
          match call f args s.h with
          | none => none
          | some (.ret v, h') => aopsR C call ops rest { tmps := put s.tmps o.dst v, h := h' } m
          | some (.pan v, h') => some (.pan v, { s with h := h' }, m)

def aexecR (C : Cfg) (call : CallF) (n : Nat) : Code → ASt → AMode → Option (AExit × ASt × AMode)
  | .region _ ops false, s, m => aopsR C call ops ops.toList s m
  | .seq a b, s, m => match aexecR C call n a s m with
    | some (.normal, s', m') => aexecR C call n b s' m'
    | r => r
  | .cond c a b, s, m => match evalO C s.tmps c with
    | .bool true => aexecR C call n a s m
    | .bool false => aexecR C call n b s m
    | _ => none
  | c, s, m => (aexec C call n c s).map fun r => (r.1, r.2, m)

/-- a deferred call -/
def adefer (C : Cfg) (call : CallF) (n : Nat) (g : FuncId) (args : List AVal) (m : AMode) (h : AHeap) : Option (ARes × AHeap × AMode) :=
  match C.P.funcs[g]? with
  | none => none
  | some fn => match fn.body with
    | none => none
    | some body => match aexecR C call n body { tmps := args ++ List.replicate (fn.ntmps - args.length) .top, h } m with
      | some (.normal, s, m') | some (.ret, s, m') => (aresults C fn.results.toList s).map fun vs => (.ret (packRes vs), s.h, m')
      | some (.pan v, s, m') => some (.pan v, s.h, m')
      | _ => none

/-- a body's end, with one deferred call -/
def aleave (C : Cfg) (call : CallF) (n : Nat) (fn : Func) (g : FuncId) (args : List AVal) : Option (AExit × ASt) → Option (ARes × AHeap)
  | some (.normal, s) | some (.ret, s) => match adefer C call n g args .calm s.h with
    | some (.ret _, h', _) => (aresults C fn.results.toList { s with h := h' }).map fun vs => (.ret (packRes vs), h')
    | some (.pan v, h', _) => some (.pan v, h')
    | none => none
  | some (.pan v, s) => match adefer C call n g args (.pan v) s.h with
    | some (.ret _, h', .done _) => (aresults C fn.results.toList { s with h := h' }).map fun vs => (.ret (packRes vs), h')
    | some (.ret _, h', .pan u) => some (.pan u, h')
    | _ => none
  | _ => none

/-- a region whose last operation defers a call -/
def deferOf : Code → Option (Array Oper × List Oper × Oper × Call)
  | .region _ ops false => match ops.toList.reverse with
    | o :: init => match o.op, o.guard with
      | .defer c, none => some (ops, init.reverse, o, c)
      | _, _ => none
    | [] => none
  | _ => none

def calleeOf (ev : Operand → AVal) (c : Call) : Option (FuncId × List AVal) :=
  match c.callee with
  | .value f => match ev f with
    | .fn (.func g) first cap => some (g, first ++ c.args.toList.map ev ++ cap)
    | _ => none
  | _ => none

def abodyD (C : Cfg) (call : CallF) (n : Nat) (fn : Func) : Code → ASt → Option (ARes × AHeap)
  | .seq a b, s => match deferOf a with
    | some (ops, init, o, c) => match aops C call ops init s with
      | some (.normal, s1) => match calleeOf (evalO C s1.tmps) c with
        | some (g, args) => aleave C call n fn g args (aexec C call n b { s1 with tmps := put s1.tmps o.dst .top })
        | none => none
      | _ => none
    | none => match aexec C call n a s with
      | some (.normal, s1) => abodyD C call n fn b s1
      | _ => none
  | _, _ => none

def abodyX (C : Cfg) (call : CallF) (n : Nat) (f : FuncId) (fn : Func) (body : Code) (args : List AVal) (h : AHeap) : Option (ARes × AHeap) :=
  if C.dfr f then abodyD C call n fn body { tmps := args ++ List.replicate (fn.ntmps - args.length) .top, h } else abody C call n fn body args h

/-- some blocks laid anew -/
def putAll (F : Nat → Option (List AVal)) (ids : List Nat) (h : AHeap) : Option AHeap :=
  ids.foldlM (fun (h' : AHeap) i => (F i).map fun ds => h'.set i (some (.arr ds))) h

def arrAt (keep : Nat → Bool) (hh : AHeap) (d : Nat) (h : AHeap) (i : Nat) : Option (List AVal) :=
  match h.get i with
  | some (.arr cs) => norms keep hh d cs
  | _ => none

def normRes (keep : Nat → Bool) (h : AHeap) (d : Nat) : ARes → Option ARes
  | .ret v => (norm keep h d v).map .ret
  | .pan v => (norm keep h d v).map .pan

/-- the answer of a call over a heap of its own, brought home -/
def home (ids : List Nat) (d : Nat) (h h1 : AHeap) (r : ARes) : Option (ARes × AHeap) :=
  match normRes (fun i => ids.contains i) h1 d r, putAll (arrAt (fun i => ids.contains i) h1 d h1) ids h with
  | some r', some h' => some (r', h')
  | _, _ => none

def topId : List Nat → Nat
  | [] => 0
  | i :: r => max (i + 1) (topId r)

/-- the heap of its own: the blocks that the arguments name -/
def focus (ids : List Nat) (d : Nat) (h : AHeap) : Option AHeap :=
  putAll (arrAt (fun i => ids.contains i) AHeap.empty d h) ids { get := fun _ => none, next := topId ids }

def depth : Nat := 100

def arun (C : Cfg) : Nat → CallF
  | 0 => fun _ _ _ => none
  | n + 1 => fun f args h =>
    match C.summ f with
    | some s => match norms (fun _ => false) AHeap.empty depth args with
      | some as => (s as).map fun v => (.ret v, h)
      | none => none
    | none =>
      match C.P.funcs[f]? with
      | none => none
      | some fn =>
        match fn.body with
        | none => (aextern C fn.name h args).map fun r => (.ret r.1, r.2)
        | some body =>
          if C.foc f then
            let ids := (refsL args).eraseDups
            match norms (fun i => ids.contains i) AHeap.empty depth args, focus ids depth h with
            | some as, some h0 =>
              match abodyX C (arun C n) n f fn body as h0 with
              | some (r, h1) => home ids depth h h1 r
              | none => none
            | _, _ => none
          else abodyX C (arun C n) n f fn body args h

end Go.Am
