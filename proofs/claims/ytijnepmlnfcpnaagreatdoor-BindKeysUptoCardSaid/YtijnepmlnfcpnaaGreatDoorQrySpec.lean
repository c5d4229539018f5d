/-
  QUERY: what a text's words are, and what query words are, as plain functions.
-/
import Derived.Test.YtijnepmlnfcpnaaGreatDoorQryTypes
import Derived.Lib.ItoaNum
import Derived.Lib.ParseIntB
set_option linter.unusedVariables false
set_option linter.unusedSimpArgs false
set_option linter.unusedVariables false
namespace Go.Proofs.Q
abbrev Bs := List UInt8

/-! ### the lexer -/
def kindN (n : Nat) : Nat :=
  if n = 32 ∨ n = 9 ∨ n = 10 ∨ n = 13 then 1
  else if (65 ≤ n ∧ n ≤ 90) ∨ (97 ≤ n ∧ n ≤ 122) ∨ n = 95 then 2
  else if 48 ≤ n ∧ n ≤ 57 then 3
  else if n = 39 then 4
  else if n = 40 ∨ n = 41 ∨ n = 44 ∨ n = 42 ∨ n = 61 ∨ n = 45 ∨ n = 60 ∨ n = 62 then 5
  else 0
def kindB (b : UInt8) : Nat := kindN b.toNat
def isL (b : UInt8) : Bool := kindB b == 2
def isD (b : UInt8) : Bool := kindB b == 3
def isLD (b : UInt8) : Bool := isL b || isD b
def capB (b : UInt8) : UInt8 := if 97 ≤ b.toNat ∧ b.toNat ≤ 122 then UInt8.ofNat (b.toNat - 32) else b
def caps (s : Bs) : Bs := s.map capB
def kw : List Bs := [([83, 69, 76, 69, 67, 84] : List UInt8), ([70, 82, 79, 77] : List UInt8), ([87, 72, 69, 82, 69] : List UInt8), ([71, 82, 79, 85, 80] : List UInt8), ([66, 89] : List UInt8), ([82, 79, 76, 76, 85, 80] : List UInt8), ([67, 85, 66, 69] : List UInt8), ([71, 82, 79, 85, 80, 73, 78, 71] : List UInt8), ([83, 69, 84, 83] : List UInt8), ([67, 79, 85, 78, 84] : List UInt8), ([83, 85, 77] : List UInt8), ([77, 73, 78] : List UInt8), ([77, 65, 88] : List UInt8), ([65, 78, 68] : List UInt8), ([79, 82] : List UInt8), ([78, 79, 84] : List UInt8), ([73, 78] : List UInt8)]
def isKw (s : Bs) : Bool := kw.contains (caps s)
def isName (s : Bs) : Bool := match s with
  | [] => false
  | c :: _ => decide (s.length ≤ 32) && isL c && s.all isLD && !isKw s
/-- what a String says and how many bytes it has behind its first quote; none: it has no end -/
def quoted : Bs → Option (Bs × Nat)
  | [] => none
  | [c] => if c = 39 then some ([], 1) else none
  | c :: d :: r => if c = 39 then (if d = 39 then (quoted r).map fun p => (39 :: p.1, p.2 + 2) else some ([], 1)) else (quoted (d :: r)).map fun p => (c :: p.1, p.2 + 1)
inductive Step where
  | blank
  | word (w : Word) (n : Nat)
  | bad (f : Fault)
/-- how many bytes a sign has -/
def signLen (c : UInt8) (t : Bs) : Nat := match t with
  | [] => 1
  | d :: _ => if (c = 60 ∧ (d = 62 ∨ d = 61)) ∨ (c = 62 ∧ d = 61) then 2 else 1
def lexLetter (p : Nat) (s : Bs) : Step :=
  let w := s.takeWhile isLD
  if isKw w then .word ⟨2, caps w, p⟩ w.length
  else if w.length > 32 then .bad ⟨45, p⟩
  else .word ⟨1, w, p⟩ w.length
def nextL (s : Bs) : Bool := match s with
  | [] => false
  | d :: _ => isL d
def lexDigit (p : Nat) (s : Bs) : Step :=
  let w := s.takeWhile isD
  if w.length > 1 ∧ w.head? = some 48 then .bad ⟨40, p⟩
  else if w.length > 19 then .bad ⟨45, p⟩
  else if nextL (s.dropWhile isD) = true then .bad ⟨40, (p + w.length : Nat)⟩
  else .word ⟨3, w, p⟩ w.length
def lexQuote (p : Nat) (t : Bs) : Step := match quoted t with
  | none => .bad ⟨40, p⟩
  | some (x, n) => if x.length > 64 then .bad ⟨45, p⟩ else .word ⟨4, x, p⟩ (n + 1)
def lexStep (p : Nat) (c : UInt8) (t : Bs) : Step :=
  if kindB c = 1 then .blank
  else if kindB c = 2 then lexLetter p (c :: t)
  else if kindB c = 3 then lexDigit p (c :: t)
  else if kindB c = 4 then lexQuote p t
  else if kindB c = 5 then .word ⟨5, (c :: t).take (signLen c t), p⟩ (signLen c t)
  else .bad ⟨40, p⟩
inductive Lx where
  | ok (l : List Word)
  | er (f : Fault)
def Lx.cons (w : Word) : Lx → Lx
  | .ok l => .ok (w :: l)
  | .er f => .er f
def lexGo : Nat → Nat → Bs → Lx
  | 0, p, _ => .ok [⟨6, [], p⟩]
  | _ + 1, p, [] => .ok [⟨6, [], p⟩]
  | n + 1, p, c :: t => match lexStep p c t with
    | .blank => lexGo n (p + 1) t
    | .word w k => (lexGo n (p + k) ((c :: t).drop k)).cons w
    | .bad f => .er f
def words (s : Bs) : Lx := if s.length > 4096 then .er ⟨45, 0⟩ else lexGo s.length 0 s

/-! ### the parser -/
inductive R (α : Type) where
  | ok (x : α) (r : List Word)
  | er (f : Fault)
  | out
def R.bind {α β : Type} (p : R α) (k : α → List Word → R β) : R β := match p with
  | .ok x r => k x r
  | .er f => .er f
  | .out => .out
@[simp] theorem R.bind_ok {α β : Type} (x : α) (r : List Word) (k : α → List Word → R β) : (R.ok x r).bind k = k x r := rfl
@[simp] theorem R.bind_er {α β : Type} (f : Fault) (k : α → List Word → R β) : (R.er f : R α).bind k = .er f := rfl
@[simp] theorem R.bind_out {α β : Type} (k : α → List Word → R β) : (R.out : R α).bind k = .out := rfl
def headAt (ws : List Word) : Int := match ws with
  | [] => 0
  | w :: _ => w.At
def fail {α : Type} (e : Int) (ws : List Word) : R α := .er ⟨e, headAt ws⟩
def isW (s : Bs) (w : Word) : Bool := (w.Kind == 2 || w.Kind == 5) && w.Text == s
def isH (s : Bs) (ws : List Word) : Bool := match ws with
  | [] => false
  | w :: _ => isW s w
def hKind (ws : List Word) : Int := match ws with
  | [] => 0
  | w :: _ => w.Kind
/-- which of some keywords and signs is the next word -/
def which (l : List Bs) (ws : List Word) : Option Nat := match l with
  | [] => none
  | s :: l => if isH s ws then some 0 else (which l ws).map (· + 1)
def must (l : List Bs) (ws : List Word) : R Unit := match l with
  | [] => .ok () ws
  | s :: l => if isH s ws then must l (ws.drop 1) else fail 41 ws
def ofKind (k : Int) (ws : List Word) : R Bs := match ws with
  | [] => fail 41 []
  | w :: r => if w.Kind = k then .ok w.Text r else fail 41 (w :: r)
def sevRest {α : Type} (p : List Word → R α) : Nat → List Word → R (List α)
  | 0, _ => .out
  | n + 1, ws => if isH ([44] : List UInt8) ws then (p (ws.drop 1)).bind fun x r => (sevRest p n r).bind fun l r' => .ok (x :: l) r' else .ok [] ws
def several {α : Type} (p : List Word → R α) (ws : List Word) : R (List α) :=
  (p ws).bind fun x r => (sevRest p (r.length + 1) r).bind fun l r' => .ok (x :: l) r'
def pName (ws : List Word) : R Bs := ofKind 1 ws
def pNames (ws : List Word) : R (List Bs) :=
  (must [([40] : List UInt8)] ws).bind fun _ r => (several pName r).bind fun l r => (must [([41] : List UInt8)] r).bind fun _ r => .ok l r
def pItem (ws : List Word) : R Item :=
  if hKind ws = 1 then (pName ws).bind fun s r => .ok ⟨1, s⟩ r
  else match which [([67, 79, 85, 78, 84] : List UInt8), ([83, 85, 77] : List UInt8), ([77, 73, 78] : List UInt8), ([77, 65, 88] : List UInt8), ([71, 82, 79, 85, 80, 73, 78, 71] : List UInt8)] ws with
    | none => fail 41 ws
    | some 0 => (must [([40] : List UInt8), ([42] : List UInt8), ([41] : List UInt8)] (ws.drop 1)).bind fun _ r => .ok ⟨2, []⟩ r
    | some (k + 1) => (must [([40] : List UInt8)] (ws.drop 1)).bind fun _ r => (pName r).bind fun s r => (must [([41] : List UInt8)] r).bind fun _ r => .ok ⟨2 + (k + 1 : Nat), s⟩ r
def pNumber (minus : Bs) (ws : List Word) : R Value := match ws with
  | [] => fail 41 []
  | w :: r => if w.Kind = 3 then (match Go.Lib.parseIntB 64 (minus ++ w.Text) with
      | .ok n => .ok ⟨false, [], n⟩ r
      | _ => fail 45 (w :: r)) else fail 41 (w :: r)
def pValue (ws : List Word) : R Value :=
  if hKind ws = 4 then (ofKind 4 ws).bind fun s r => .ok ⟨true, s, 0⟩ r
  else if isH ([45] : List UInt8) ws then pNumber ([45] : List UInt8) (ws.drop 1) else pNumber [] ws
def pTest (ws : List Word) : R CondT :=
  (pName ws).bind fun c r => match which [([61] : List UInt8), ([60, 62] : List UInt8), ([60] : List UInt8), ([60, 61] : List UInt8), ([62] : List UInt8), ([62, 61] : List UInt8)] r with
    | some i => (pValue (r.drop 1)).bind fun v r => .ok (.mk 4 .nil .nil c (1 + (i : Nat)) [v]) r
    | none => (must [([73, 78] : List UInt8), ([40] : List UInt8)] r).bind fun _ r => (several pValue r).bind fun l r => (must [([41] : List UInt8)] r).bind fun _ r => .ok (.mk 5 .nil .nil c 0 l) r
def chainRest (k : Int) (s : Bs) (p : List Word → R CondT) : Nat → CondT → List Word → R CondT
  | 0, _, _ => .out
  | n + 1, c, ws => if isH s ws then (p (ws.drop 1)).bind fun d r => chainRest k s p n (.mk k c d [] 0 []) r else .ok c ws
def chain (k : Int) (s : Bs) (p : List Word → R CondT) (ws : List Word) : R CondT :=
  (p ws).bind fun c r => chainRest k s p (r.length + 1) c r
/-- a condition without AND and OR ahead of brackets; n: how deep the reader may go -/
def pNot : Nat → List Word → R CondT
  | 0, _ => .out
  | n + 1, ws => match which [([78, 79, 84] : List UInt8), ([40] : List UInt8)] ws with
    | some 0 => (pNot n (ws.drop 1)).bind fun c r => .ok (.mk 3 c .nil [] 0 []) r
    | some _ => (chain 2 ([79, 82] : List UInt8) (chain 1 ([65, 78, 68] : List UInt8) (pNot n)) (ws.drop 1)).bind fun c r => (must [([41] : List UInt8)] r).bind fun _ r => .ok c r
    | none => pTest ws
def pOr (n : Nat) : List Word → R CondT := chain 2 ([79, 82] : List UInt8) (chain 1 ([65, 78, 68] : List UInt8) (pNot n))
def pSet (ws : List Word) : R (List Bs) :=
  if hKind ws = 1 then (pName ws).bind fun s r => .ok [s] r
  else if isH ([40] : List UInt8) ws ∧ hKind (ws.drop 1) = 5 ∧ isH ([41] : List UInt8) (ws.drop 1) then .ok [] (ws.drop 2)
  else pNames ws
def pElement (ws : List Word) : R Group :=
  if hKind ws = 1 then (pName ws).bind fun s r => .ok ⟨1, [s], []⟩ r
  else match which [([82, 79, 76, 76, 85, 80] : List UInt8), ([67, 85, 66, 69] : List UInt8), ([71, 82, 79, 85, 80, 73, 78, 71] : List UInt8)] ws with
    | none => fail 41 ws
    | some 0 => (pNames (ws.drop 1)).bind fun l r => .ok ⟨2, l, []⟩ r
    | some 1 => (pNames (ws.drop 1)).bind fun l r => .ok ⟨3, l, []⟩ r
    | some _ => (must [([83, 69, 84, 83] : List UInt8), ([40] : List UInt8)] (ws.drop 1)).bind fun _ r => (several pSet r).bind fun l r => (must [([41] : List UInt8)] r).bind fun _ r => .ok ⟨4, [], l⟩ r
def pWhere (ws : List Word) : R CondT := if isH ([87, 72, 69, 82, 69] : List UInt8) ws then pOr (ws.length + 2) (ws.drop 1) else .ok .nil ws
def pGroups (ws : List Word) : R (Bool × List Group) :=
  if isH ([71, 82, 79, 85, 80] : List UInt8) ws then (must [([66, 89] : List UInt8)] (ws.drop 1)).bind fun _ r => (several pElement r).bind fun l r => .ok (true, l) r else .ok (false, []) ws
def pQuery (ws : List Word) : R Query :=
  (must [([83, 69, 76, 69, 67, 84] : List UInt8)] ws).bind fun _ r => (several pItem r).bind fun items r => (must [([70, 82, 79, 77] : List UInt8)] r).bind fun _ r => (pName r).bind fun t r =>
  (pWhere r).bind fun c r => (pGroups r).bind fun g r => (ofKind 6 r).bind fun _ r => .ok ⟨items, t, c, g.1, g.2⟩ r
def manyV : CondT → Bool
  | .nil => false
  | .mk _ l r _ _ vs => decide (vs.length > 64) || manyV l || manyV r
def few (q : Query) : Bool :=
  q.Groups.all (fun g => decide (g.Columns.length ≤ 16) && decide (g.Sets.length ≤ 64) && g.Sets.all fun s => decide (s.length ≤ 16)) && decide (q.Items.length ≤ 16) && decide (q.Groups.length ≤ 16) && !manyV q.Where
def depth : CondT → Nat
  | .nil => 0
  | .mk _ l r _ _ _ => max (depth l) (depth r) + 1
def zQ : Query := ⟨[], [], .nil, false, []⟩
def parse (s : Bs) : Query × Fault := match words s with
  | .er f => (zQ, f)
  | .ok ws => match pQuery ws with
    | .ok q _ => if !few q then (zQ, ⟨46, 0⟩) else if depth q.Where > 32 then (zQ, ⟨47, 0⟩) else (q, ⟨0, 0⟩)
    | .er f => (zQ, f)
    | .out => (zQ, ⟨0, 0⟩)

/-! ### texts of queries -/
def quote (s : Bs) : Bs := 39 :: (s.flatMap fun b => if b = 39 then [39, 39] else [b]) ++ [39]
def showV (v : Value) : Bs := if v.IsText then quote v.Text else Go.Lib.itoa v.Int
def join : List Bs → Bs
  | [] => []
  | [s] => s
  | s :: t :: l => s ++ ([44, 32] : List UInt8) ++ join (t :: l)
def par (b : Bool) (s : Bs) : Bs := if b then ([40] : List UInt8) ++ s ++ ([41] : List UInt8) else s
def ck : CondT → Int
  | .nil => 0
  | .mk k _ _ _ _ _ => k
def opB (o : Int) : Bs := if o = 1 then ([61] : List UInt8) else if o = 2 then ([60, 62] : List UInt8) else if o = 3 then ([60] : List UInt8) else if o = 4 then ([60, 61] : List UInt8) else if o = 5 then ([62] : List UInt8) else ([62, 61] : List UInt8)
def showC : CondT → Bs
  | .nil => []
  | .mk k l r c o vs =>
    if k = 1 then par (ck l == 2) (showC l) ++ ([32, 65, 78, 68, 32] : List UInt8) ++ par (ck r == 2 || ck r == 1) (showC r)
    else if k = 2 then showC l ++ ([32, 79, 82, 32] : List UInt8) ++ par (ck r == 2) (showC r)
    else if k = 3 then ([78, 79, 84, 32] : List UInt8) ++ par (ck l == 2 || ck l == 1) (showC l)
    else if k = 4 then c ++ ([32] : List UInt8) ++ opB o ++ ([32] : List UInt8) ++ showV (vs.headD default)
    else c ++ ([32, 73, 78, 32, 40] : List UInt8) ++ join (vs.map showV) ++ ([41] : List UInt8)
def itemW (k : Int) : Bs := if k = 3 then ([83, 85, 77] : List UInt8) else if k = 4 then ([77, 73, 78] : List UInt8) else if k = 5 then ([77, 65, 88] : List UInt8) else ([71, 82, 79, 85, 80, 73, 78, 71] : List UInt8)
def showI (x : Item) : Bs := if x.Kind = 1 then x.Column else if x.Kind = 2 then ([67, 79, 85, 78, 84, 40, 42, 41] : List UInt8) else itemW x.Kind ++ ([40] : List UInt8) ++ x.Column ++ ([41] : List UInt8)
def showL (l : List Bs) : Bs := ([40] : List UInt8) ++ join l ++ ([41] : List UInt8)
def showG (g : Group) : Bs :=
  if g.Kind = 1 then g.Columns.headD [] else if g.Kind = 2 then ([82, 79, 76, 76, 85, 80] : List UInt8) ++ showL g.Columns else if g.Kind = 3 then ([67, 85, 66, 69] : List UInt8) ++ showL g.Columns
  else ([71, 82, 79, 85, 80, 73, 78, 71, 32, 83, 69, 84, 83, 40] : List UInt8) ++ join (g.Sets.map showL) ++ ([41] : List UInt8)
def text (q : Query) : Bs :=
  ([83, 69, 76, 69, 67, 84, 32] : List UInt8) ++ join (q.Items.map showI) ++ ([32, 70, 82, 79, 77, 32] : List UInt8) ++ q.Table ++ (if q.Where.isNil then [] else ([32, 87, 72, 69, 82, 69, 32] : List UInt8) ++ showC q.Where) ++ (if q.Grouped then ([32, 71, 82, 79, 85, 80, 32, 66, 89, 32] : List UInt8) ++ join (q.Groups.map showG) else [])

/-! ### which queries may be -/
def valueOk (v : Value) : Bool := if v.IsText then decide (v.Text.length ≤ 64) && v.Int == 0 else v.Text.isEmpty
def plainN (c : Bs) (o : Int) (vs : List Value) : Bool := c.isEmpty && o == 0 && vs.isEmpty
def leafN (l r : CondT) (c : Bs) (vs : List Value) : Bool := isName c && l.isNil && r.isNil && decide (0 < vs.length) && decide (vs.length ≤ 64)
def nodeOk (k : Int) (l r : CondT) (c : Bs) (o : Int) (vs : List Value) : Bool :=
  vs.all valueOk &&
  if k = 1 ∨ k = 2 then plainN c o vs && !l.isNil && !r.isNil
  else if k = 3 then plainN c o vs && !l.isNil && r.isNil
  else if k = 4 then leafN l r c vs && decide (vs.length = 1) && decide (1 ≤ o ∧ o ≤ 6)
  else if k = 5 then leafN l r c vs && o == 0
  else false
def nodesOk : CondT → Bool
  | .nil => true
  | .mk k l r c o vs => nodeOk k l r c o vs && nodesOk l && nodesOk r
def size : CondT → Nat
  | .nil => 0
  | .mk _ l r _ _ _ => size l + size r + 1
def named (l : List Bs) (least most : Nat) : Bool := decide (least ≤ l.length) && decide (l.length ≤ most) && l.all isName
def groupOk (g : Group) : Bool :=
  if g.Kind = 1 then g.Sets.isEmpty && named g.Columns 1 1
  else if g.Kind = 2 ∨ g.Kind = 3 then g.Sets.isEmpty && named g.Columns 1 16
  else if g.Kind = 4 then g.Columns.isEmpty && decide (0 < g.Sets.length) && decide (g.Sets.length ≤ 64) && g.Sets.all fun s => named s 0 16
  else false
def itemOk (x : Item) : Bool := if x.Kind = 2 then x.Column.isEmpty else decide (1 ≤ x.Kind ∧ x.Kind ≤ 6) && isName x.Column
def right (q : Query) : Bool :=
  isName q.Table && decide (1 ≤ q.Items.length) && decide (q.Items.length ≤ 16) && decide (q.Groups.length ≤ 16) && (q.Grouped == !q.Groups.isEmpty) && q.Items.all itemOk && q.Groups.all groupOk &&
  nodesOk q.Where && decide (size q.Where ≤ 2048) && decide (depth q.Where ≤ 32)
def shown (q : Query) : Bs × Int := if !right q then ([], 1) else if (text q).length > 4096 then ([], 45) else (text q, 0)
end Go.Proofs.Q
