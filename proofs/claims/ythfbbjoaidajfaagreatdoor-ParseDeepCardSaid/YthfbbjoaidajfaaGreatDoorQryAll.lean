import Derived.Lib.ItoaNum
import Derived.Lib.ParseIntB
set_option linter.unusedVariables false
set_option linter.unusedSimpArgs false
namespace Go.Proofs.Q
structure Value where
  IsText : Bool
  Text : (List UInt8)
  Int : Int
deriving DecidableEq
instance : Inhabited Value := ⟨⟨false, [], 0⟩⟩
inductive CondT where
  | nil
  | mk (Kind : Int) (Left : CondT) (Right : CondT) (Column : (List UInt8)) (Op : Int) (Values : (List Value))
instance : Inhabited CondT := ⟨.nil⟩
structure Cond where
  Kind : Int
  Left : CondT
  Right : CondT
  Column : (List UInt8)
  Op : Int
  Values : (List Value)
instance : Inhabited Cond := ⟨⟨0, default, default, [], 0, []⟩⟩
def CondT.get : CondT → Option Cond
  | .nil => none
  | .mk a0 a1 a2 a3 a4 a5 => some ⟨a0, a1, a2, a3, a4, a5⟩
def CondT.isNil : CondT → Bool
  | .nil => true
  | .mk _ _ _ _ _ _ => false
structure Fault where
  Code : Int
  At : Int
deriving DecidableEq
instance : Inhabited Fault := ⟨⟨0, 0⟩⟩
structure Group where
  Kind : Int
  Columns : (List (List UInt8))
  Sets : (List (List (List UInt8)))
deriving DecidableEq
instance : Inhabited Group := ⟨⟨0, [], []⟩⟩
structure Item where
  Kind : Int
  Column : (List UInt8)
deriving DecidableEq
instance : Inhabited Item := ⟨⟨0, []⟩⟩
structure Query where
  Items : (List Item)
  Table : (List UInt8)
  Where : CondT
  Grouped : Bool
  Groups : (List Group)
instance : Inhabited Query := ⟨⟨[], [], default, false, []⟩⟩
structure Word where
  Kind : Int
  Text : (List UInt8)
  At : Int
deriving DecidableEq
instance : Inhabited Word := ⟨⟨0, [], 0⟩⟩
structure Reader where
  words : (List Word)
  at_ : Int
instance : Inhabited Reader := ⟨⟨[], 0⟩⟩
end Go.Proofs.Q



set_option linter.unusedVariables false
namespace Go.Proofs.Q
abbrev Bs := List UInt8
def kindN (n : Nat) : Nat :=
  if n = 32 ∨ n = 9 ∨ n = 10 ∨ n = 13 then 1
  else if (65 ≤ n ∧ n ≤ 90) ∨ (97 ≤ n ∧ n ≤ 122) ∨ n = 95 then 2
  else if 48 ≤ n ∧ n ≤ 57 then 3
  else if n = 39 then 4
  else if n = 40 ∨ n = 41 ∨ n = 44 ∨ n = 42 ∨ n = 61 ∨ n = 45 ∨ n = 60 ∨ n = 62 then 5
  else 0
def kindB (b : UInt8) : Nat := kindN b.toNat
def isL (b : UInt8) : Bool := kindB b == 2
def isD (b : UInt8) : Bool := kindB b == 3
def isLD (b : UInt8) : Bool := isL b || isD b
def capB (b : UInt8) : UInt8 := if 97 ≤ b.toNat ∧ b.toNat ≤ 122 then UInt8.ofNat (b.toNat - 32) else b
def caps (s : Bs) : Bs := s.map capB
def kw : List Bs := [([83, 69, 76, 69, 67, 84] : List UInt8), ([70, 82, 79, 77] : List UInt8), ([87, 72, 69, 82, 69] : List UInt8), ([71, 82, 79, 85, 80] : List UInt8), ([66, 89] : List UInt8), ([82, 79, 76, 76, 85, 80] : List UInt8), ([67, 85, 66, 69] : List UInt8), ([71, 82, 79, 85, 80, 73, 78, 71] : List UInt8), ([83, 69, 84, 83] : List UInt8), ([67, 79, 85, 78, 84] : List UInt8), ([83, 85, 77] : List UInt8), ([77, 73, 78] : List UInt8), ([77, 65, 88] : List UInt8), ([65, 78, 68] : List UInt8), ([79, 82] : List UInt8), ([78, 79, 84] : List UInt8), ([73, 78] : List UInt8)]
def isKw (s : Bs) : Bool := kw.contains (caps s)
def isName (s : Bs) : Bool := match s with
  | [] => false
  | c :: _ => decide (s.length ≤ 32) && isL c && s.all isLD && !isKw s
def quoted : Bs → Option (Bs × Nat)
  | [] => none
  | [c] => if c = 39 then some ([], 1) else none
  | c :: d :: r => if c = 39 then (if d = 39 then (quoted r).map fun p => (39 :: p.1, p.2 + 2) else some ([], 1)) else (quoted (d :: r)).map fun p => (c :: p.1, p.2 + 1)
inductive Step where
  | blank
  | word (w : Word) (n : Nat)
  | bad (f : Fault)
def signLen (c : UInt8) (t : Bs) : Nat := match t with
  | [] => 1
  | d :: _ => if (c = 60 ∧ (d = 62 ∨ d = 61)) ∨ (c = 62 ∧ d = 61) then 2 else 1
def lexLetter (p : Nat) (s : Bs) : Step :=
  let w := s.takeWhile isLD
  if isKw w then .word ⟨2, caps w, p⟩ w.length
  else if w.length > 32 then .bad ⟨45, p⟩
  else .word ⟨1, w, p⟩ w.length
def nextL (s : Bs) : Bool := match s with
  | [] => false
  | d :: _ => isL d
def lexDigit (p : Nat) (s : Bs) : Step :=
  let w := s.takeWhile isD
  if w.length > 1 ∧ w.head? = some 48 then .bad ⟨40, p⟩
  else if w.length > 19 then .bad ⟨45, p⟩
  else if nextL (s.dropWhile isD) = true then .bad ⟨40, (p + w.length : Nat)⟩
  else .word ⟨3, w, p⟩ w.length
def lexQuote (p : Nat) (t : Bs) : Step := match quoted t with
  | none => .bad ⟨40, p⟩
  | some (x, n) => if x.length > 64 then .bad ⟨45, p⟩ else .word ⟨4, x, p⟩ (n + 1)
def lexStep (p : Nat) (c : UInt8) (t : Bs) : Step :=
  if kindB c = 1 then .blank
  else if kindB c = 2 then lexLetter p (c :: t)
  else if kindB c = 3 then lexDigit p (c :: t)
  else if kindB c = 4 then lexQuote p t
  else if kindB c = 5 then .word ⟨5, (c :: t).take (signLen c t), p⟩ (signLen c t)
  else .bad ⟨40, p⟩
inductive Lx where
  | ok (l : List Word)
  | er (f : Fault)
def Lx.cons (w : Word) : Lx → Lx
  | .ok l => .ok (w :: l)
  | .er f => .er f
def lexGo : Nat → Nat → Bs → Lx
  | 0, p, _ => .ok [⟨6, [], p⟩]
  | _ + 1, p, [] => .ok [⟨6, [], p⟩]
  | n + 1, p, c :: t => match lexStep p c t with
    | .blank => lexGo n (p + 1) t
    | .word w k => (lexGo n (p + k) ((c :: t).drop k)).cons w
    | .bad f => .er f
def words (s : Bs) : Lx := if s.length > 4096 then .er ⟨45, 0⟩ else lexGo s.length 0 s
inductive R (α : Type) where
  | ok (x : α) (r : List Word)
  | er (f : Fault)
  | out
def R.bind {α β : Type} (p : R α) (k : α → List Word → R β) : R β := match p with
  | .ok x r => k x r
  | .er f => .er f
  | .out => .out
@[simp] theorem R.bind_ok {α β : Type} (x : α) (r : List Word) (k : α → List Word → R β) : (R.ok x r).bind k = k x r := rfl
@[simp] theorem R.bind_er {α β : Type} (f : Fault) (k : α → List Word → R β) : (R.er f : R α).bind k = .er f := rfl
def headAt (ws : List Word) : Int := match ws with
  | [] => 0
  | w :: _ => w.At
def fail {α : Type} (e : Int) (ws : List Word) : R α := .er ⟨e, headAt ws⟩
def isW (s : Bs) (w : Word) : Bool := (w.Kind == 2 || w.Kind == 5) && w.Text == s
def isH (s : Bs) (ws : List Word) : Bool := match ws with
  | [] => false
  | w :: _ => isW s w
def hKind (ws : List Word) : Int := match ws with
  | [] => 0
  | w :: _ => w.Kind
def which (l : List Bs) (ws : List Word) : Option Nat := match l with
  | [] => none
  | s :: l => if isH s ws then some 0 else (which l ws).map (· + 1)
def must (l : List Bs) (ws : List Word) : R Unit := match l with
  | [] => .ok () ws
  | s :: l => if isH s ws then must l (ws.drop 1) else fail 41 ws
def ofKind (k : Int) (ws : List Word) : R Bs := match ws with
  | [] => fail 41 []
  | w :: r => if w.Kind = k then .ok w.Text r else fail 41 (w :: r)
def sevRest {α : Type} (p : List Word → R α) : Nat → List Word → R (List α)
  | 0, _ => .out
  | n + 1, ws => if isH ([44] : List UInt8) ws then (p (ws.drop 1)).bind fun x r => (sevRest p n r).bind fun l r' => .ok (x :: l) r' else .ok [] ws
def several {α : Type} (p : List Word → R α) (ws : List Word) : R (List α) :=
  (p ws).bind fun x r => (sevRest p (r.length + 1) r).bind fun l r' => .ok (x :: l) r'
def pName (ws : List Word) : R Bs := ofKind 1 ws
def pNames (ws : List Word) : R (List Bs) :=
  (must [([40] : List UInt8)] ws).bind fun _ r => (several pName r).bind fun l r => (must [([41] : List UInt8)] r).bind fun _ r => .ok l r
def pItem (ws : List Word) : R Item :=
  if hKind ws = 1 then (pName ws).bind fun s r => .ok ⟨1, s⟩ r
  else match which [([67, 79, 85, 78, 84] : List UInt8), ([83, 85, 77] : List UInt8), ([77, 73, 78] : List UInt8), ([77, 65, 88] : List UInt8), ([71, 82, 79, 85, 80, 73, 78, 71] : List UInt8)] ws with
    | none => fail 41 ws
    | some 0 => (must [([40] : List UInt8), ([42] : List UInt8), ([41] : List UInt8)] (ws.drop 1)).bind fun _ r => .ok ⟨2, []⟩ r
    | some (k + 1) => (must [([40] : List UInt8)] (ws.drop 1)).bind fun _ r => (pName r).bind fun s r => (must [([41] : List UInt8)] r).bind fun _ r => .ok ⟨2 + (k + 1 : Nat), s⟩ r
def pNumber (minus : Bs) (ws : List Word) : R Value := match ws with
  | [] => fail 41 []
  | w :: r => if w.Kind = 3 then (match Go.Lib.parseIntB 64 (minus ++ w.Text) with
      | .ok n => .ok ⟨false, [], n⟩ r
      | _ => fail 45 (w :: r)) else fail 41 (w :: r)
def pValue (ws : List Word) : R Value :=
  if hKind ws = 4 then (ofKind 4 ws).bind fun s r => .ok ⟨true, s, 0⟩ r
  else if isH ([45] : List UInt8) ws then pNumber ([45] : List UInt8) (ws.drop 1) else pNumber [] ws
def pTest (ws : List Word) : R CondT :=
  (pName ws).bind fun c r => match which [([61] : List UInt8), ([60, 62] : List UInt8), ([60] : List UInt8), ([60, 61] : List UInt8), ([62] : List UInt8), ([62, 61] : List UInt8)] r with
    | some i => (pValue (r.drop 1)).bind fun v r => .ok (.mk 4 .nil .nil c (1 + (i : Nat)) [v]) r
    | none => (must [([73, 78] : List UInt8), ([40] : List UInt8)] r).bind fun _ r => (several pValue r).bind fun l r => (must [([41] : List UInt8)] r).bind fun _ r => .ok (.mk 5 .nil .nil c 0 l) r
def chainRest (k : Int) (s : Bs) (p : List Word → R CondT) : Nat → CondT → List Word → R CondT
  | 0, _, _ => .out
  | n + 1, c, ws => if isH s ws then (p (ws.drop 1)).bind fun d r => chainRest k s p n (.mk k c d [] 0 []) r else .ok c ws
def chain (k : Int) (s : Bs) (p : List Word → R CondT) (ws : List Word) : R CondT :=
  (p ws).bind fun c r => chainRest k s p (r.length + 1) c r
def pNot : Nat → List Word → R CondT
  | 0, _ => .out
  | n + 1, ws => match which [([78, 79, 84] : List UInt8), ([40] : List UInt8)] ws with
    | some 0 => (pNot n (ws.drop 1)).bind fun c r => .ok (.mk 3 c .nil [] 0 []) r
    | some _ => (chain 2 ([79, 82] : List UInt8) (chain 1 ([65, 78, 68] : List UInt8) (pNot n)) (ws.drop 1)).bind fun c r => (must [([41] : List UInt8)] r).bind fun _ r => .ok c r
    | none => pTest ws
def pOr (n : Nat) : List Word → R CondT := chain 2 ([79, 82] : List UInt8) (chain 1 ([65, 78, 68] : List UInt8) (pNot n))
def pSet (ws : List Word) : R (List Bs) :=
  if hKind ws = 1 then (pName ws).bind fun s r => .ok [s] r
  else if isH ([40] : List UInt8) ws ∧ hKind (ws.drop 1) = 5 ∧ isH ([41] : List UInt8) (ws.drop 1) then .ok [] (ws.drop 2)
  else pNames ws
def pElement (ws : List Word) : R Group :=
  if hKind ws = 1 then (pName ws).bind fun s r => .ok ⟨1, [s], []⟩ r
  else match which [([82, 79, 76, 76, 85, 80] : List UInt8), ([67, 85, 66, 69] : List UInt8), ([71, 82, 79, 85, 80, 73, 78, 71] : List UInt8)] ws with
    | none => fail 41 ws
    | some 0 => (pNames (ws.drop 1)).bind fun l r => .ok ⟨2, l, []⟩ r
    | some 1 => (pNames (ws.drop 1)).bind fun l r => .ok ⟨3, l, []⟩ r
    | some _ => (must [([83, 69, 84, 83] : List UInt8), ([40] : List UInt8)] (ws.drop 1)).bind fun _ r => (several pSet r).bind fun l r => (must [([41] : List UInt8)] r).bind fun _ r => .ok ⟨4, [], l⟩ r
def pWhere (ws : List Word) : R CondT := if isH ([87, 72, 69, 82, 69] : List UInt8) ws then pOr (ws.length + 2) (ws.drop 1) else .ok .nil ws
def pGroups (ws : List Word) : R (Bool × List Group) :=
  if isH ([71, 82, 79, 85, 80] : List UInt8) ws then (must [([66, 89] : List UInt8)] (ws.drop 1)).bind fun _ r => (several pElement r).bind fun l r => .ok (true, l) r else .ok (false, []) ws
def pQuery (ws : List Word) : R Query :=
  (must [([83, 69, 76, 69, 67, 84] : List UInt8)] ws).bind fun _ r => (several pItem r).bind fun items r => (must [([70, 82, 79, 77] : List UInt8)] r).bind fun _ r => (pName r).bind fun t r =>
  (pWhere r).bind fun c r => (pGroups r).bind fun g r => (ofKind 6 r).bind fun _ r => .ok ⟨items, t, c, g.1, g.2⟩ r
def manyV : CondT → Bool
  | .nil => false
  | .mk _ l r _ _ vs => decide (vs.length > 64) || manyV l || manyV r
def few (q : Query) : Bool :=
  q.Groups.all (fun g => decide (g.Columns.length ≤ 16) && decide (g.Sets.length ≤ 64) && g.Sets.all fun s => decide (s.length ≤ 16)) && decide (q.Items.length ≤ 16) && decide (q.Groups.length ≤ 16) && !manyV q.Where
def depth : CondT → Nat
  | .nil => 0
  | .mk _ l r _ _ _ => max (depth l) (depth r) + 1
def zQ : Query := ⟨[], [], .nil, false, []⟩
def parse (s : Bs) : Query × Fault := match words s with
  | .er f => (zQ, f)
  | .ok ws => match pQuery ws with
    | .ok q _ => if !few q then (zQ, ⟨46, 0⟩) else if depth q.Where > 32 then (zQ, ⟨47, 0⟩) else (q, ⟨0, 0⟩)
    | .er f => (zQ, f)
    | .out => (zQ, ⟨0, 0⟩)
def quote (s : Bs) : Bs := 39 :: (s.flatMap fun b => if b = 39 then [39, 39] else [b]) ++ [39]
def showV (v : Value) : Bs := if v.IsText then quote v.Text else Go.Lib.itoa v.Int
def join : List Bs → Bs
  | [] => []
  | [s] => s
  | s :: t :: l => s ++ ([44, 32] : List UInt8) ++ join (t :: l)
def par (b : Bool) (s : Bs) : Bs := if b then ([40] : List UInt8) ++ s ++ ([41] : List UInt8) else s
def ck : CondT → Int
  | .nil => 0
  | .mk k _ _ _ _ _ => k
def opB (o : Int) : Bs := if o = 1 then ([61] : List UInt8) else if o = 2 then ([60, 62] : List UInt8) else if o = 3 then ([60] : List UInt8) else if o = 4 then ([60, 61] : List UInt8) else if o = 5 then ([62] : List UInt8) else ([62, 61] : List UInt8)
def showC : CondT → Bs
  | .nil => []
  | .mk k l r c o vs =>
    if k = 1 then par (ck l == 2) (showC l) ++ ([32, 65, 78, 68, 32] : List UInt8) ++ par (ck r == 2 || ck r == 1) (showC r)
    else if k = 2 then showC l ++ ([32, 79, 82, 32] : List UInt8) ++ par (ck r == 2) (showC r)
    else if k = 3 then ([78, 79, 84, 32] : List UInt8) ++ par (ck l == 2 || ck l == 1) (showC l)
    else if k = 4 then c ++ ([32] : List UInt8) ++ opB o ++ ([32] : List UInt8) ++ showV (vs.headD default)
    else c ++ ([32, 73, 78, 32, 40] : List UInt8) ++ join (vs.map showV) ++ ([41] : List UInt8)
def itemW (k : Int) : Bs := if k = 3 then ([83, 85, 77] : List UInt8) else if k = 4 then ([77, 73, 78] : List UInt8) else if k = 5 then ([77, 65, 88] : List UInt8) else ([71, 82, 79, 85, 80, 73, 78, 71] : List UInt8)
def showI (x : Item) : Bs := if x.Kind = 1 then x.Column else if x.Kind = 2 then ([67, 79, 85, 78, 84, 40, 42, 41] : List UInt8) else itemW x.Kind ++ ([40] : List UInt8) ++ x.Column ++ ([41] : List UInt8)
def showL (l : List Bs) : Bs := ([40] : List UInt8) ++ join l ++ ([41] : List UInt8)
def showG (g : Group) : Bs :=
  if g.Kind = 1 then g.Columns.headD [] else if g.Kind = 2 then ([82, 79, 76, 76, 85, 80] : List UInt8) ++ showL g.Columns else if g.Kind = 3 then ([67, 85, 66, 69] : List UInt8) ++ showL g.Columns
  else ([71, 82, 79, 85, 80, 73, 78, 71, 32, 83, 69, 84, 83, 40] : List UInt8) ++ join (g.Sets.map showL) ++ ([41] : List UInt8)
def text (q : Query) : Bs :=
  ([83, 69, 76, 69, 67, 84, 32] : List UInt8) ++ join (q.Items.map showI) ++ ([32, 70, 82, 79, 77, 32] : List UInt8) ++ q.Table ++ (if q.Where.isNil then [] else ([32, 87, 72, 69, 82, 69, 32] : List UInt8) ++ showC q.Where) ++ (if q.Grouped then ([32, 71, 82, 79, 85, 80, 32, 66, 89, 32] : List UInt8) ++ join (q.Groups.map showG) else [])
def valueOk (v : Value) : Bool := if v.IsText then decide (v.Text.length ≤ 64) && v.Int == 0 else v.Text.isEmpty
def plainN (c : Bs) (o : Int) (vs : List Value) : Bool := c.isEmpty && o == 0 && vs.isEmpty
def leafN (l r : CondT) (c : Bs) (vs : List Value) : Bool := isName c && l.isNil && r.isNil && decide (0 < vs.length) && decide (vs.length ≤ 64)
def nodeOk (k : Int) (l r : CondT) (c : Bs) (o : Int) (vs : List Value) : Bool :=
  vs.all valueOk &&
  if k = 1 ∨ k = 2 then plainN c o vs && !l.isNil && !r.isNil
  else if k = 3 then plainN c o vs && !l.isNil && r.isNil
  else if k = 4 then leafN l r c vs && decide (vs.length = 1) && decide (1 ≤ o ∧ o ≤ 6)
  else if k = 5 then leafN l r c vs && o == 0
  else false
def nodesOk : CondT → Bool
  | .nil => true
  | .mk k l r c o vs => nodeOk k l r c o vs && nodesOk l && nodesOk r
def size : CondT → Nat
  | .nil => 0
  | .mk _ l r _ _ _ => size l + size r + 1
def named (l : List Bs) (least most : Nat) : Bool := decide (least ≤ l.length) && decide (l.length ≤ most) && l.all isName
def groupOk (g : Group) : Bool :=
  if g.Kind = 1 then g.Sets.isEmpty && named g.Columns 1 1
  else if g.Kind = 2 ∨ g.Kind = 3 then g.Sets.isEmpty && named g.Columns 1 16
  else if g.Kind = 4 then g.Columns.isEmpty && decide (0 < g.Sets.length) && decide (g.Sets.length ≤ 64) && g.Sets.all fun s => named s 0 16
  else false
def itemOk (x : Item) : Bool := if x.Kind = 2 then x.Column.isEmpty else decide (1 ≤ x.Kind ∧ x.Kind ≤ 6) && isName x.Column
def right (q : Query) : Bool :=
  isName q.Table && decide (1 ≤ q.Items.length) && decide (q.Items.length ≤ 16) && decide (q.Groups.length ≤ 16) && (q.Grouped == !q.Groups.isEmpty) && q.Items.all itemOk && q.Groups.all groupOk &&
  nodesOk q.Where && decide (size q.Where ≤ 2048) && decide (depth q.Where ≤ 32)
end Go.Proofs.Q



set_option linter.unusedVariables false
set_option linter.unusedSimpArgs false
namespace Go.Proofs.Q
def lx (p : Nat) (s : Bs) : Lx := lexGo s.length p s
theorem takeWhile_split (f : UInt8 → Bool) (w s : Bs) (hw : ∀ b ∈ w, f b = true) (hs : ∀ c t, s = c :: t → f c = false) : (w ++ s).takeWhile f = w ∧ (w ++ s).dropWhile f = s := by
  induction w with
  | nil =>
    cases s with
    | nil => exact ⟨rfl, rfl⟩
    | cons c t => simp [List.takeWhile, List.dropWhile, hs c t rfl]
  | cons b w ih =>
    have hb := hw b (List.mem_cons_self ..)
    have := ih fun x hx => hw x (List.mem_cons_of_mem _ hx)
    simp [List.takeWhile, List.dropWhile, hb, this.1, this.2]
theorem signLen_pos (c : UInt8) (t : Bs) : 1 ≤ signLen c t := by
  unfold signLen; split
  · omega
  · split <;> omega
theorem isL_of {b : UInt8} (h : kindB b = 2) : isL b = true := by unfold isL; simp [h]
theorem isD_of {b : UInt8} (h : kindB b = 3) : isD b = true := by unfold isD; simp [h]
theorem lexStep_pos {p : Nat} {c : UInt8} {t : Bs} {w : Word} {n : Nat} (h : lexStep p c t = .word w n) : 1 ≤ n := by
  unfold lexStep at h
  split at h
  · cases h
  split at h
  · rename_i h2
    have hl : isLD c = true := by unfold isLD; simp [isL_of h2]
    unfold lexLetter at h
    have : 1 ≤ ((c :: t).takeWhile isLD).length := by simp [List.takeWhile, hl]
    simp only at h
    split at h
    · cases h; exact this
    split at h
    · cases h
    · cases h; exact this
  split at h
  · rename_i h3
    have hl : isD c = true := isD_of h3
    unfold lexDigit at h
    have : 1 ≤ ((c :: t).takeWhile isD).length := by simp [List.takeWhile, hl]
    simp only at h
    split at h
    · cases h
    split at h
    · cases h
    split at h
    · cases h
    · cases h; exact this
  split at h
  · unfold lexQuote at h
    split at h
    · cases h
    split at h
    · cases h
    · cases h; omega
  split at h
  · cases h; exact signLen_pos _ _
  · cases h
theorem lexGo_fuel : ∀ (n : Nat) (s : Bs) (p : Nat), s.length ≤ n → lexGo n p s = lexGo s.length p s := by
  intro n
  induction n using Nat.strongRecOn with
  | _ n ih =>
    intro s p hs
    cases s with
    | nil => cases n <;> rfl
    | cons c t =>
      cases n with
      | zero => simp at hs
      | succ n =>
        simp only [List.length_cons] at hs ⊢
        simp only [lexGo]
        cases hst : lexStep p c t with
        | blank => simp only; rw [ih n (by omega) t _ (by omega)]
        | bad f => rfl
        | word w k =>
          have hk := lexStep_pos hst
          have hd : ((c :: t).drop k).length ≤ t.length := by simp; omega
          simp only
          rw [ih n (by omega) _ _ (by omega), ih t.length (by omega) _ _ hd]
theorem lx_nil (p : Nat) : lx p [] = .ok [⟨6, [], p⟩] := rfl
theorem lx_blank {p : Nat} {c : UInt8} {t : Bs} (h : lexStep p c t = .blank) : lx p (c :: t) = lx (p + 1) t := by
  unfold lx; simp only [List.length_cons, lexGo, h]
theorem lx_word {p : Nat} {c : UInt8} {t : Bs} {w : Word} {k : Nat} (h : lexStep p c t = .word w k) : lx p (c :: t) = (lx (p + k) ((c :: t).drop k)).cons w := by
  have hk := lexStep_pos h
  unfold lx; simp only [List.length_cons, lexGo, h]
  rw [lexGo_fuel _ _ _ (by simp; omega)]
theorem lx_bad {p : Nat} {c : UInt8} {t : Bs} {f : Fault} (h : lexStep p c t = .bad f) : lx p (c :: t) = .er f := by
  unfold lx; simp only [List.length_cons, lexGo, h]
abbrev Tok := Int × Bs
def kt (w : Word) : Tok := (w.Kind, w.Text)
def Lx.app (ws : List Word) : Lx → Lx
  | .ok l => .ok (ws ++ l)
  | .er f => .er f
theorem Lx.app_nil (x : Lx) : x.app [] = x := by cases x <;> rfl
theorem Lx.app_app (a b : List Word) (x : Lx) : (x.app b).app a = x.app (a ++ b) := by cases x <;> simp [Lx.app]
theorem Lx.cons_eq (w : Word) (x : Lx) : x.cons w = x.app [w] := by cases x <;> rfl
def Bd (s : Bs) : Prop := ∀ c t, s = c :: t → c = 32 ∨ c = 44 ∨ c = 40 ∨ c = 41
def Any (s : Bs) : Prop := True
def LxT (P : Bs → Prop) (a : Bs) (T : List Tok) : Prop := ∀ p s, P s → ∃ ws, ws.map kt = T ∧ lx p (a ++ s) = (lx (p + a.length) s).app ws
theorem LxT.nil {P : Bs → Prop} : LxT P [] [] := fun p s _ => ⟨[], rfl, by simp [Lx.app_nil]⟩
theorem LxT.append {P Q : Bs → Prop} {a b : Bs} {A B : List Tok} (ha : LxT P a A) (hb : LxT Q b B) (h : ∀ s, Q s → P (b ++ s)) : LxT Q (a ++ b) (A ++ B) := by
  intro p s hs
  obtain ⟨u, hu, eu⟩ := ha p (b ++ s) (h s hs)
  obtain ⟨v, hv, ev⟩ := hb (p + a.length) s hs
  refine ⟨u ++ v, by simp [hu, hv], ?_⟩
  rw [List.append_assoc, eu, ev, Lx.app_app, List.length_append, Nat.add_assoc]
theorem LxT.seq {Q : Bs → Prop} {a b : Bs} {A B : List Tok} (ha : LxT Any a A) (hb : LxT Q b B) : LxT Q (a ++ b) (A ++ B) := ha.append hb fun _ _ => trivial
theorem Bd.head {c : UInt8} {t s : Bs} (h : c = 32 ∨ c = 44 ∨ c = 40 ∨ c = 41) : Bd (c :: t ++ s) := by
  intro d r e; cases e; exact h
theorem LxT.bd {Q : Bs → Prop} {a b : Bs} {c : UInt8} {A B : List Tok} (ha : LxT Bd a A) (hc : c = 32 ∨ c = 44 ∨ c = 40 ∨ c = 41) (hb : LxT Q (c :: b) B) : LxT Q (a ++ c :: b) (A ++ B) := ha.append hb fun s _ => Bd.head hc
theorem LxT.of_word {P : Bs → Prop} {a : Bs} {c : UInt8} {b : Bs} {k : Int} {x : Bs} (e : a = c :: b) (h : ∀ p s, P s → lexStep p c (b ++ s) = .word ⟨k, x, p⟩ a.length) : LxT P a [(k, x)] := by
  intro p s hs
  subst e
  refine ⟨[⟨k, x, p⟩], rfl, ?_⟩
  rw [List.cons_append, lx_word (h p s hs), Lx.cons_eq]
  congr 2
  rw [← List.cons_append, List.drop_left]
theorem lxt_blank {P : Bs → Prop} : LxT P [32] [] := by
  intro p s _
  refine ⟨[], rfl, ?_⟩
  rw [Lx.app_nil]
  exact lx_blank (by unfold lexStep; rw [if_pos (by decide)])
theorem step_sign {p : Nat} {c : UInt8} {t : Bs} (h : kindB c = 5) : lexStep p c t = .word ⟨5, (c :: t).take (signLen c t), p⟩ (signLen c t) := by
  unfold lexStep; simp [h]
theorem lxt_sign {P : Bs → Prop} (c : UInt8) (h : kindB c = 5) (h1 : c ≠ 60) (h2 : c ≠ 62) : LxT P [c] [(5, [c])] := by
  refine LxT.of_word (c := c) (b := []) rfl fun p s _ => ?_
  have hl : signLen c s = 1 := by unfold signLen; split <;> simp [h1, h2]
  rw [List.nil_append, step_sign h, hl]; rfl
theorem lxt_lt : LxT Bd [60] [(5, [60])] := by
  refine LxT.of_word (c := 60) (b := []) rfl fun p s hs => ?_
  have hl : signLen 60 s = 1 := by
    unfold signLen; split
    · rfl
    · rename_i d r
      rcases hs d r rfl with rfl | rfl | rfl | rfl <;> decide
  rw [List.nil_append, step_sign (by decide), hl]; rfl
theorem lxt_gt : LxT Bd [62] [(5, [62])] := by
  refine LxT.of_word (c := 62) (b := []) rfl fun p s hs => ?_
  have hl : signLen 62 s = 1 := by
    unfold signLen; split
    · rfl
    · rename_i d r
      rcases hs d r rfl with rfl | rfl | rfl | rfl <;> decide
  rw [List.nil_append, step_sign (by decide), hl]; rfl
theorem lxt_two (c d : UInt8) (h : kindB c = 5) (hl : (c = 60 ∧ (d = 62 ∨ d = 61)) ∨ (c = 62 ∧ d = 61)) : LxT Bd [c, d] [(5, [c, d])] := by
  refine LxT.of_word (c := c) (b := [d]) rfl fun p s hs => ?_
  have hl : signLen c ([d] ++ s) = 2 := by unfold signLen; simp only [List.cons_append]; rw [if_pos hl]
  rw [step_sign h, hl]; rfl
theorem lxt_op (o : Int) : LxT Bd (opB o) [(5, opB o)] := by
  unfold opB
  split
  · exact lxt_sign _ (by decide) (by decide) (by decide)
  split
  · exact lxt_two _ _ (by decide) (by decide)
  split
  · exact lxt_lt
  split
  · exact lxt_two _ _ (by decide) (by decide)
  split
  · exact lxt_gt
  · exact lxt_two _ _ (by decide) (by decide)
theorem Bd.notLD {s : Bs} (h : Bd s) : ∀ c t, s = c :: t → isLD c = false := by
  intro c t e
  rcases h c t e with rfl | rfl | rfl | rfl <;> decide
theorem Bd.notD {s : Bs} (h : Bd s) : ∀ c t, s = c :: t → isD c = false := by
  intro c t e
  rcases h c t e with rfl | rfl | rfl | rfl <;> decide
theorem Bd.notL {s : Bs} (h : Bd s) : nextL s = false := by
  cases s with
  | nil => rfl
  | cons c t => show isL c = false; rcases h c t rfl with rfl | rfl | rfl | rfl <;> decide
theorem kind_of_isL {b : UInt8} (h : isL b = true) : kindB b = 2 := by unfold isL at h; simpa using h
theorem kind_of_isD {b : UInt8} (h : isD b = true) : kindB b = 3 := by unfold isD at h; simpa using h
theorem step_letter {p : Nat} {c : UInt8} {b s : Bs} (h : isL c = true) (hb : ∀ x ∈ b, isLD x = true) (hs : Bd s) : lexStep p c (b ++ s) = if isKw (c :: b) then .word ⟨2, caps (c :: b), p⟩ (c :: b).length
  else if (c :: b).length > 32 then .bad ⟨45, p⟩ else .word ⟨1, c :: b, p⟩ (c :: b).length := by
  have hk := kind_of_isL h
  unfold lexStep
  simp only [hk]
  have ht := (takeWhile_split isLD (c :: b) s (by
    intro x hx
    rcases List.mem_cons.1 hx with rfl | hx
    · unfold isLD; simp [h]
    · exact hb x hx) hs.notLD).1
  rw [List.cons_append] at ht
  simp only [lexLetter, ht]
  rfl
theorem lxt_kw (w : Bs) (c : UInt8) (b : Bs) (e : w = c :: b) (h : isL c = true) (hb : ∀ x ∈ b, isLD x = true) (hk : isKw w = true) : LxT Bd w [(2, caps w)] :=
  LxT.of_word e fun p s hs => by
    subst e
    rw [step_letter h hb hs, if_pos hk]
theorem isName_cons {s : Bs} (h : isName s = true) : ∃ c b, s = c :: b ∧ isL c = true ∧ (∀ x ∈ b, isLD x = true) ∧ isKw s = false ∧ s.length ≤ 32 := by
  cases s with
  | nil => cases h
  | cons c b =>
    simp only [isName, Bool.and_eq_true, decide_eq_true_eq, Bool.not_eq_true', List.all_cons, List.all_eq_true] at h
    exact ⟨c, b, rfl, h.1.1.2, h.1.2.2, h.2, h.1.1.1⟩
theorem lxt_name {s : Bs} (h : isName s = true) : LxT Bd s [(1, s)] := by
  obtain ⟨c, b, e, h1, h2, h3, h4⟩ := isName_cons h
  refine LxT.of_word e fun p r hr => ?_
  subst e
  rw [step_letter h1 h2 hr, if_neg (by simp [h3]), if_neg (by omega)]
theorem lxt_digits {w : Bs} {c : UInt8} {b : Bs} (e : w = c :: b) (hw : ∀ x ∈ w, isD x = true) (hz : w.length > 1 → c ≠ 48) (hl : w.length ≤ 19) : LxT Bd w [(3, w)] := by
  refine LxT.of_word e fun p s hs => ?_
  subst e
  have hk := kind_of_isD (hw c (List.mem_cons_self ..))
  have ht := takeWhile_split isD (c :: b) s hw hs.notD
  rw [List.cons_append] at ht
  unfold lexStep
  simp only [hk]
  simp only [lexDigit, ht.1, ht.2, hs.notL]
  rw [if_neg (by decide), if_neg (by decide), if_pos True.intro, if_neg, if_neg (by omega), if_neg (by decide)]
  rintro ⟨h1, h2⟩
  simp only [List.head?_cons, Option.some.injEq] at h2
  exact hz h1 h2
def esc (x : Bs) : Bs := x.flatMap fun b => if b = 39 then [39, 39] else [b]
theorem esc_cons (b : UInt8) (x : Bs) : esc (b :: x) = (if b = 39 then [39, 39] else [b]) ++ esc x := rfl
theorem quoted_esc (s : Bs) (hs : ∀ c t, s = c :: t → c ≠ 39) : ∀ x : Bs, quoted (esc x ++ 39 :: s) = some (x, (esc x).length + 1) := by
  intro x
  induction x with
  | nil =>
    cases s with
    | nil => rfl
    | cons d r =>
      have := hs d r rfl
      simp [esc, quoted, this]
  | cons b x ih =>
    rw [esc_cons]
    by_cases hb : b = 39
    · subst hb
      simp only [if_true, List.cons_append, List.nil_append, quoted, ih, Option.map_some, List.length_cons]
    · rw [if_neg hb]
      obtain ⟨d, r, hr⟩ : ∃ d r, esc x ++ 39 :: s = d :: r := by cases he : esc x with
        | nil => exact ⟨_, _, rfl⟩
        | cons d r => exact ⟨_, _, rfl⟩
      simp only [List.cons_append, List.nil_append, hr]
      rw [hr] at ih
      simp only [quoted, if_neg hb, ih, Option.map_some, List.length_cons]
theorem lxt_quote {x : Bs} (hx : x.length ≤ 64) : LxT Bd (quote x) [(4, x)] := by
  have e : quote x = 39 :: (esc x ++ [39]) := rfl
  refine LxT.of_word e fun p s hs => ?_
  have hq := quoted_esc s (fun c t h => by rcases hs c t h with rfl | rfl | rfl | rfl <;> decide) x
  rw [List.append_assoc, List.singleton_append]
  unfold lexStep
  rw [if_neg (by decide), if_neg (by decide), if_neg (by decide), if_pos (by decide)]
  simp only [lexQuote, hq]
  rw [if_neg (by omega), e]
  simp
end Go.Proofs.Q



set_option linter.unusedVariables false
set_option linter.unusedSimpArgs false
namespace Go.Proofs.Q
open Go.Lib
theorem dec_step {u : Nat} (h : ¬ u < 10) : decDigits u = decDigits (u / 10) ++ [UInt8.ofNat (48 + u % 10)] := by rw [decDigits, dif_neg h]
theorem dig_toNat (d : Nat) (h : d < 10) : (UInt8.ofNat (48 + d)).toNat = 48 + d := by
  simp [UInt8.toNat_ofNat']; omega
theorem dig_isD (d : Nat) (h : d < 10) : isD (UInt8.ofNat (48 + d)) = true := by
  unfold isD kindB kindN
  rw [dig_toNat d h]
  rw [if_neg (by omega), if_neg (by omega), if_pos (by omega)]
  rfl
theorem dec_isD (u : Nat) : ∀ x ∈ decDigits u, isD x = true := by
  induction u using Nat.strongRecOn with
  | _ u ih =>
    by_cases h : u < 10
    · rw [decDigits, dif_pos h]; intro x hx
      simp only [List.mem_singleton] at hx
      subst hx; exact dig_isD u h
    · rw [dec_step h]; intro x hx
      rcases List.mem_append.1 hx with hx | hx
      · exact ih (u / 10) (by omega) x hx
      · simp only [List.mem_singleton] at hx
        subst hx; exact dig_isD _ (by omega)
theorem dec_head (u : Nat) : ∃ c b, decDigits u = c :: b ∧ (u ≠ 0 → c ≠ 48) ∧ (u < 10 → b = []) := by
  induction u using Nat.strongRecOn with
  | _ u ih =>
    by_cases h : u < 10
    · refine ⟨_, [], by rw [decDigits, dif_pos h], fun h0 e => ?_, fun _ => rfl⟩
      have := congrArg UInt8.toNat e
      rw [dig_toNat u h] at this
      have h2 : (48 : UInt8).toNat = 48 := rfl
      omega
    · obtain ⟨c, b, e, hc, _⟩ := ih (u / 10) (by omega)
      exact ⟨c, b ++ [UInt8.ofNat (48 + u % 10)], by rw [dec_step h, e]; rfl, fun _ => hc (by omega), fun hh => absurd hh h⟩
theorem dec_len (u : Nat) (h : u < 10 ^ 19) : (decDigits u).length ≤ 19 := by
  have : ∀ (k u : Nat), u < 10 ^ (k + 1) → (decDigits u).length ≤ k + 1 := by
    intro k
    induction k with
    | zero => intro u hu; rw [decDigits, dif_pos (by simpa using hu)]; simp
    | succ k ih =>
      intro u hu
      by_cases h : u < 10
      · rw [decDigits, dif_pos h]; simp
      · rw [dec_step h, List.length_append]
        have := ih (u / 10) (by rw [Nat.pow_succ] at hu; omega)
        simp; omega
  exact this 18 u h
theorem lxt_dec (u : Nat) (h : u < 10 ^ 19) : LxT Bd (decDigits u) [(3, decDigits u)] := by
  obtain ⟨c, b, e, hc, hs⟩ := dec_head u
  refine lxt_digits e (dec_isD u) (fun hl => ?_) (dec_len u h)
  by_cases h10 : u < 10
  · rw [e, hs h10] at hl; simp at hl
  · exact hc (by omega)
theorem uintM_app (M : Nat) : ∀ (a b : Bs) (n : Nat), parseUintM M n (a ++ b) = match parseUintM M n a with
    | .ok v => parseUintM M v b
    | x => x := by
  intro a
  induction a with
  | nil => intro b n; rfl
  | cons c a ih =>
    intro b n
    simp only [List.cons_append, parseUintM]
    split
    · split
      · rfl
      · split
        · rfl
        · exact ih b _
    · rfl
theorem uintM_dec (M : Nat) (hM : M < 18446744073709551616) (u : Nat) : u ≤ M → parseUintM M 0 (decDigits u) = .ok u := by
  induction u using Nat.strongRecOn with
  | _ u ih =>
    intro hu
    by_cases h : u < 10
    · rw [decDigits, dif_pos h]
      simp only [parseUintM, dig_toNat u h]
      rw [if_pos (by omega), if_neg (by omega), if_neg (by omega)]
      simp
    · rw [dec_step h, uintM_app, ih (u / 10) (by omega) (by omega)]
      simp only [parseUintM, dig_toNat (u % 10) (by omega)]
      rw [if_pos (by omega), if_neg (by omega), if_neg (by omega)]
      congr 1; omega
theorem dec_ne (u : Nat) : decDigits u ≠ [] := by
  obtain ⟨c, b, e, _⟩ := dec_head u
  rw [e]; simp
theorem uintB_dec (u : Nat) (h : u < 18446744073709551616) : parseUintB 64 (decDigits u) = .ok u := by
  unfold parseUintB
  rw [if_neg (dec_ne u), uintM_dec _ (by decide) u (by omega)]
theorem parse_pos (u : Nat) (h : u < 9223372036854775808) : parseIntB 64 (decDigits u) = .ok (u : Int) := by
  obtain ⟨c, b, e, _⟩ := dec_head u
  have hd := dec_isD u c (by rw [e]; exact List.mem_cons_self ..)
  have hc : c.toNat ≠ 43 ∧ c.toNat ≠ 45 := by
    constructor <;> (intro hh; unfold isD kindB at hd; rw [hh] at hd; revert hd; decide)
  have hb := uintB_dec u (by omega)
  rw [e] at hb ⊢
  simp only [parseIntB]
  rw [if_neg (by omega), hb]
  simp only
  rw [if_neg (by omega), if_neg (by omega), if_neg (by omega)]
theorem parse_neg (u : Nat) (h : u ≤ 9223372036854775808) : parseIntB 64 (45 :: decDigits u) = .ok (-(u : Int)) := by
  have hb := uintB_dec u (by omega)
  simp only [parseIntB]
  rw [if_pos (by decide), hb]
  simp only
  rw [if_neg (by simp), if_neg (by omega), if_pos (by decide)]
end Go.Proofs.Q



set_option linter.unusedVariables false
set_option linter.unusedSimpArgs false
namespace Go.Proofs.Q
open Go.Lib
abbrev sg (s : Bs) : Tok := (5, s)
abbrev ky (s : Bs) : Tok := (2, s)
def tV (v : Value) : List Tok := if v.IsText then [(4, v.Text)] else if v.Int < 0 then [sg ([45] : List UInt8), (3, decDigits v.Int.natAbs)] else [(3, decDigits v.Int.toNat)]
def tJoin : List (List Tok) → List Tok
  | [] => []
  | [s] => s
  | s :: t :: l => s ++ sg ([44] : List UInt8) :: tJoin (t :: l)
def tPar (b : Bool) (s : List Tok) : List Tok := if b then sg ([40] : List UInt8) :: s ++ [sg ([41] : List UInt8)] else s
def tC : CondT → List Tok
  | .nil => []
  | .mk k l r c o vs =>
    if k = 1 then tPar (ck l == 2) (tC l) ++ ky ([65, 78, 68] : List UInt8) :: tPar (ck r == 2 || ck r == 1) (tC r)
    else if k = 2 then tC l ++ ky ([79, 82] : List UInt8) :: tPar (ck r == 2) (tC r)
    else if k = 3 then ky ([78, 79, 84] : List UInt8) :: tPar (ck l == 2 || ck l == 1) (tC l)
    else if k = 4 then (1, c) :: sg (opB o) :: tV (vs.headD default)
    else (1, c) :: ky ([73, 78] : List UInt8) :: sg ([40] : List UInt8) :: (tJoin (vs.map tV) ++ [sg ([41] : List UInt8)])
def tI (x : Item) : List Tok := if x.Kind = 1 then [(1, x.Column)] else if x.Kind = 2 then [ky ([67, 79, 85, 78, 84] : List UInt8), sg ([40] : List UInt8), sg ([42] : List UInt8), sg ([41] : List UInt8)] else [ky (itemW x.Kind), sg ([40] : List UInt8), (1, x.Column), sg ([41] : List UInt8)]
def tL (l : List Bs) : List Tok := sg ([40] : List UInt8) :: (tJoin (l.map fun s => [(1, s)]) ++ [sg ([41] : List UInt8)])
def tG (g : Group) : List Tok :=
  if g.Kind = 1 then [(1, g.Columns.headD [])] else if g.Kind = 2 then ky ([82, 79, 76, 76, 85, 80] : List UInt8) :: tL g.Columns else if g.Kind = 3 then ky ([67, 85, 66, 69] : List UInt8) :: tL g.Columns
  else ky ([71, 82, 79, 85, 80, 73, 78, 71] : List UInt8) :: ky ([83, 69, 84, 83] : List UInt8) :: sg ([40] : List UInt8) :: (tJoin (g.Sets.map tL) ++ [sg ([41] : List UInt8)])
def tQ (q : Query) : List Tok :=
  ky ([83, 69, 76, 69, 67, 84] : List UInt8) :: (tJoin (q.Items.map tI) ++ ky ([70, 82, 79, 77] : List UInt8) :: (1, q.Table) :: ((if q.Where.isNil then [] else ky ([87, 72, 69, 82, 69] : List UInt8) :: tC q.Where) ++ (if q.Grouped then ky ([71, 82, 79, 85, 80] : List UInt8) :: ky ([66, 89] : List UInt8) :: tJoin (q.Groups.map tG) else [])))
theorem kwL (w : Bs) (c : UInt8) (b : Bs) (e : w = c :: b) (h : isL c = true) (hb : b.all isLD = true) (hk : isKw w = true) (hc : caps w = w) : LxT Bd w [ky w] := by
  have := lxt_kw w c b e h (by simpa using hb) hk
  rw [hc] at this
  exact this
theorem kAND : LxT Bd ([65, 78, 68] : List UInt8) [ky ([65, 78, 68] : List UInt8)] := kwL _ _ _ rfl (by decide) (by decide) (by decide) (by decide)
theorem kOR : LxT Bd ([79, 82] : List UInt8) [ky ([79, 82] : List UInt8)] := kwL _ _ _ rfl (by decide) (by decide) (by decide) (by decide)
theorem kNOT : LxT Bd ([78, 79, 84] : List UInt8) [ky ([78, 79, 84] : List UInt8)] := kwL _ _ _ rfl (by decide) (by decide) (by decide) (by decide)
theorem kIN : LxT Bd ([73, 78] : List UInt8) [ky ([73, 78] : List UInt8)] := kwL _ _ _ rfl (by decide) (by decide) (by decide) (by decide)
theorem kSELECT : LxT Bd ([83, 69, 76, 69, 67, 84] : List UInt8) [ky ([83, 69, 76, 69, 67, 84] : List UInt8)] := kwL _ _ _ rfl (by decide) (by decide) (by decide) (by decide)
theorem kFROM : LxT Bd ([70, 82, 79, 77] : List UInt8) [ky ([70, 82, 79, 77] : List UInt8)] := kwL _ _ _ rfl (by decide) (by decide) (by decide) (by decide)
theorem kWHERE : LxT Bd ([87, 72, 69, 82, 69] : List UInt8) [ky ([87, 72, 69, 82, 69] : List UInt8)] := kwL _ _ _ rfl (by decide) (by decide) (by decide) (by decide)
theorem kGROUP : LxT Bd ([71, 82, 79, 85, 80] : List UInt8) [ky ([71, 82, 79, 85, 80] : List UInt8)] := kwL _ _ _ rfl (by decide) (by decide) (by decide) (by decide)
theorem kBY : LxT Bd ([66, 89] : List UInt8) [ky ([66, 89] : List UInt8)] := kwL _ _ _ rfl (by decide) (by decide) (by decide) (by decide)
theorem kROLLUP : LxT Bd ([82, 79, 76, 76, 85, 80] : List UInt8) [ky ([82, 79, 76, 76, 85, 80] : List UInt8)] := kwL _ _ _ rfl (by decide) (by decide) (by decide) (by decide)
theorem kCUBE : LxT Bd ([67, 85, 66, 69] : List UInt8) [ky ([67, 85, 66, 69] : List UInt8)] := kwL _ _ _ rfl (by decide) (by decide) (by decide) (by decide)
theorem kGROUPING : LxT Bd ([71, 82, 79, 85, 80, 73, 78, 71] : List UInt8) [ky ([71, 82, 79, 85, 80, 73, 78, 71] : List UInt8)] := kwL _ _ _ rfl (by decide) (by decide) (by decide) (by decide)
theorem kSETS : LxT Bd ([83, 69, 84, 83] : List UInt8) [ky ([83, 69, 84, 83] : List UInt8)] := kwL _ _ _ rfl (by decide) (by decide) (by decide) (by decide)
theorem kCOUNT : LxT Bd ([67, 79, 85, 78, 84] : List UInt8) [ky ([67, 79, 85, 78, 84] : List UInt8)] := kwL _ _ _ rfl (by decide) (by decide) (by decide) (by decide)
theorem kItem (k : Int) : LxT Bd (itemW k) [ky (itemW k)] := by
  unfold itemW
  split
  · exact kwL _ _ _ rfl (by decide) (by decide) (by decide) (by decide)
  split
  · exact kwL _ _ _ rfl (by decide) (by decide) (by decide) (by decide)
  split
  · exact kwL _ _ _ rfl (by decide) (by decide) (by decide) (by decide)
  · exact kGROUPING
theorem sPar {P : Bs → Prop} : LxT P ([40] : List UInt8) [sg ([40] : List UInt8)] := lxt_sign _ (by decide) (by decide) (by decide)
theorem sEnd {P : Bs → Prop} : LxT P ([41] : List UInt8) [sg ([41] : List UInt8)] := lxt_sign _ (by decide) (by decide) (by decide)
theorem sStar {P : Bs → Prop} : LxT P ([42] : List UInt8) [sg ([42] : List UInt8)] := lxt_sign _ (by decide) (by decide) (by decide)
theorem sMinus {P : Bs → Prop} : LxT P ([45] : List UInt8) [sg ([45] : List UInt8)] := lxt_sign _ (by decide) (by decide) (by decide)
theorem sComma {P : Bs → Prop} : LxT P ([44, 32] : List UInt8) [sg ([44] : List UInt8)] := LxT.seq (a := ([44] : List UInt8)) (b := ([32] : List UInt8)) (A := [sg ([44] : List UInt8)]) (B := []) (lxt_sign _ (by decide) (by decide) (by decide)) lxt_blank
theorem kwSp {P : Bs → Prop} {w : Bs} {T : List Tok} (h : LxT Bd w T) : LxT P (w ++ [32]) T := by
  have := LxT.bd (Q := P) (c := 32) (b := []) h (.inl rfl) lxt_blank
  rwa [List.append_nil] at this
theorem spKwSp {P : Bs → Prop} {w : Bs} {T : List Tok} (h : LxT Bd w T) : LxT P (32 :: (w ++ [32])) T := LxT.seq (a := [32]) lxt_blank (kwSp h)
def V64 (v : Value) : Prop := -9223372036854775808 ≤ v.Int ∧ v.Int ≤ 9223372036854775807
theorem lxV {v : Value} (h : valueOk v = true) (hv : V64 v) : LxT Bd (showV v) (tV v) := by
  unfold showV tV
  unfold valueOk at h
  cases ht : v.IsText with
  | true =>
    simp only [ht, if_true, Bool.and_eq_true, decide_eq_true_eq] at h ⊢
    exact lxt_quote h.1
  | false =>
    simp only [Bool.false_eq_true, if_false]
    unfold itoa
    obtain ⟨h0, h1⟩ := hv
    split
    · have hu : v.Int.natAbs < 10 ^ 19 := by have : (10 : Nat) ^ 19 = 10000000000000000000 := by decide
                                             omega
      exact LxT.seq (a := ([45] : List UInt8)) (A := [sg ([45] : List UInt8)]) sMinus (lxt_dec _ hu)
    · have hu : v.Int.toNat < 10 ^ 19 := by have : (10 : Nat) ^ 19 = 10000000000000000000 := by decide
                                            omega
      exact lxt_dec _ hu
theorem lxJoin {α : Type} (f : α → Bs) (g : α → List Tok) : ∀ (l : List α), (∀ x ∈ l, LxT Bd (f x) (g x)) → LxT Bd (join (l.map f)) (tJoin (l.map g))
  | [], _ => LxT.nil
  | [x], h => h x (List.mem_cons_self ..)
  | x :: y :: l, h => by
    have ih := lxJoin f g (y :: l) fun z hz => h z (List.mem_cons_of_mem _ hz)
    have hx := h x (List.mem_cons_self ..)
    simp only [List.map_cons] at ih ⊢
    have e1 : join (f x :: f y :: l.map f) = f x ++ (44 :: ([32] ++ join (f y :: l.map f))) := by simp [join]
    have e2 : tJoin (g x :: g y :: l.map g) = g x ++ ([sg ([44] : List UInt8)] ++ tJoin (g y :: l.map g)) := rfl
    rw [e1, e2]
    exact LxT.bd hx (.inr (.inl rfl)) (LxT.seq (a := ([44, 32] : List UInt8)) (A := [sg ([44] : List UInt8)]) sComma ih)
theorem lxParens {a : Bs} {A : List Tok} {P : Bs → Prop} (h : LxT Bd a A) : LxT P (40 :: (a ++ [41])) (sg ([40] : List UInt8) :: (A ++ [sg ([41] : List UInt8)])) :=
  LxT.seq (a := ([40] : List UInt8)) (A := [sg ([40] : List UInt8)]) sPar (LxT.bd (c := 41) (b := []) h (.inr (.inr (.inr rfl))) sEnd)
theorem par_eq (b : Bool) (s : Bs) : par b s = if b then 40 :: (s ++ [41]) else s := by cases b <;> simp [par]
theorem tPar_eq (b : Bool) (s : List Tok) : tPar b s = if b then sg ([40] : List UInt8) :: (s ++ [sg ([41] : List UInt8)]) else s := by cases b <;> simp [tPar]
theorem lxPar {a : Bs} {A : List Tok} (b : Bool) (h : LxT Bd a A) : LxT Bd (par b a) (tPar b A) := by
  rw [par_eq, tPar_eq]
  cases b with
  | true => exact lxParens h
  | false => exact h
def C64 : CondT → Prop
  | .nil => True
  | .mk _ l r _ _ vs => C64 l ∧ C64 r ∧ ∀ v ∈ vs, V64 v
theorem nodeOk_cases {k : Int} {l r : CondT} {c : Bs} {o : Int} {vs : List Value} (h : nodeOk k l r c o vs = true) :
    (∀ v ∈ vs, valueOk v = true) ∧ (((k = 1 ∨ k = 2) ∧ c = [] ∧ o = 0 ∧ vs = [] ∧ l.isNil = false ∧ r.isNil = false) ∨ (k = 3 ∧ c = [] ∧ o = 0 ∧ vs = [] ∧ l.isNil = false ∧ r.isNil = true) ∨
    (k = 4 ∧ isName c = true ∧ l.isNil = true ∧ r.isNil = true ∧ (∃ v, vs = [v]) ∧ 1 ≤ o ∧ o ≤ 6) ∨ (k = 5 ∧ isName c = true ∧ l.isNil = true ∧ r.isNil = true ∧ vs ≠ [] ∧ vs.length ≤ 64 ∧ o = 0)) := by
  simp only [nodeOk, Bool.and_eq_true, List.all_eq_true] at h
  refine ⟨h.1, ?_⟩
  have h := h.2
  split at h
  · rename_i hk
    simp only [plainN, Bool.and_eq_true, List.isEmpty_iff, beq_iff_eq, Bool.not_eq_true'] at h
    exact .inl ⟨hk, h.1.1.1.1, h.1.1.1.2, h.1.1.2, h.1.2, h.2⟩
  split at h
  · rename_i hk
    simp only [plainN, Bool.and_eq_true, List.isEmpty_iff, beq_iff_eq, Bool.not_eq_true'] at h
    exact .inr (.inl ⟨hk, h.1.1.1.1, h.1.1.1.2, h.1.1.2, h.1.2, h.2⟩)
  split at h
  · rename_i hk
    simp only [leafN, Bool.and_eq_true, decide_eq_true_eq] at h
    obtain ⟨⟨⟨⟨⟨⟨h1, h2⟩, h3⟩, h4⟩, h5⟩, h6⟩, h7⟩ := h
    refine .inr (.inr (.inl ⟨hk, h1, h2, h3, ?_, h7⟩))
    cases vs with
    | nil => simp at h6
    | cons v vs => cases vs with
      | nil => exact ⟨v, rfl⟩
      | cons => simp at h6
  split at h
  · rename_i hk
    simp only [leafN, Bool.and_eq_true, decide_eq_true_eq, beq_iff_eq] at h
    obtain ⟨⟨⟨⟨⟨h1, h2⟩, h3⟩, h4⟩, h5⟩, h6⟩ := h
    refine .inr (.inr (.inr ⟨hk, h1, h2, h3, ?_, h5, h6⟩))
    intro e; rw [e] at h4; simp at h4
  · cases h
theorem lxC : ∀ (c : CondT), nodesOk c = true → C64 c → c.isNil = false → LxT Bd (showC c) (tC c)
  | .nil, _, _, h => by cases h
  | .mk k l r c o vs, h, h64, _ => by
    simp only [nodesOk, Bool.and_eq_true] at h
    obtain ⟨⟨hn, hl⟩, hr⟩ := h
    obtain ⟨l64, r64, v64⟩ := h64
    obtain ⟨hv, hn⟩ := nodeOk_cases hn
    rcases hn with ⟨hk, rfl, rfl, rfl, h1, h2⟩ | ⟨rfl, rfl, rfl, rfl, h1, h2⟩ | ⟨rfl, hc, h1, h2, ⟨v, rfl⟩, h3, h4⟩ | ⟨rfl, hc, h1, h2, h3, h4, rfl⟩
    · have il := lxC l hl l64 h1
      have ir := lxC r hr r64 h2
      rcases hk with rfl | rfl
      · simp only [showC, tC, if_true]
        have e : par (ck l == 2) (showC l) ++ ([32, 65, 78, 68, 32] : List UInt8) ++ par (ck r == 2 || ck r == 1) (showC r) = par (ck l == 2) (showC l) ++ 32 :: ((([65, 78, 68] : List UInt8) ++ [32]) ++ par (ck r == 2 || ck r == 1) (showC r)) := by simp
        rw [e]
        exact LxT.bd (lxPar _ il) (.inl rfl) (LxT.seq (a := 32 :: (([65, 78, 68] : List UInt8) ++ [32])) (A := [ky ([65, 78, 68] : List UInt8)]) (spKwSp kAND) (lxPar _ ir))
      · simp only [showC, tC, if_true, show ((2 : Int) = 1) = False from by simp, if_false]
        have e : showC l ++ ([32, 79, 82, 32] : List UInt8) ++ par (ck r == 2) (showC r) = showC l ++ 32 :: ((([79, 82] : List UInt8) ++ [32]) ++ par (ck r == 2) (showC r)) := by simp
        rw [e]
        exact LxT.bd il (.inl rfl) (LxT.seq (a := 32 :: (([79, 82] : List UInt8) ++ [32])) (A := [ky ([79, 82] : List UInt8)]) (spKwSp kOR) (lxPar _ ir))
    · have il := lxC l hl l64 h1
      simp only [showC, tC, if_true, show ((3 : Int) = 1) = False from by simp, show ((3 : Int) = 2) = False from by simp, if_false]
      exact LxT.seq (a := ([78, 79, 84] : List UInt8) ++ [32]) (A := [ky ([78, 79, 84] : List UInt8)]) (kwSp kNOT) (lxPar _ il)
    · have hvv := lxV (hv v (List.mem_cons_self ..)) (v64 v (List.mem_cons_self ..))
      simp only [showC, tC, if_true, show ((4 : Int) = 1) = False from by simp, show ((4 : Int) = 2) = False from by simp, show ((4 : Int) = 3) = False from by simp, if_false, List.headD_cons]
      have e : c ++ ([32] : List UInt8) ++ opB o ++ ([32] : List UInt8) ++ showV v = c ++ 32 :: ((opB o ++ [32]) ++ showV v) := by simp
      rw [e]
      exact LxT.bd (A := [(1, c)]) (lxt_name hc) (.inl rfl) (LxT.seq (a := 32 :: (opB o ++ [32])) (A := [sg (opB o)]) (spKwSp (lxt_op o)) hvv)
    · have hj := lxJoin showV tV vs fun v hm => lxV (hv v hm) (v64 v hm)
      simp only [showC, tC, if_true, show ((5 : Int) = 1) = False from by simp, show ((5 : Int) = 2) = False from by simp, show ((5 : Int) = 3) = False from by simp, show ((5 : Int) = 4) = False from by simp, if_false]
      have e : c ++ ([32, 73, 78, 32, 40] : List UInt8) ++ join (vs.map showV) ++ ([41] : List UInt8) = c ++ 32 :: ((([73, 78] : List UInt8) ++ [32]) ++ 40 :: (join (vs.map showV) ++ [41])) := by simp
      rw [e]
      exact LxT.bd (A := [(1, c)]) (lxt_name hc) (.inl rfl) (LxT.seq (a := 32 :: (([73, 78] : List UInt8) ++ [32])) (A := [ky ([73, 78] : List UInt8)]) (spKwSp kIN) (lxParens hj))
theorem lxI {x : Item} (h : itemOk x = true) : LxT Bd (showI x) (tI x) := by
  unfold showI tI
  unfold itemOk at h
  split
  · rename_i hk
    rw [if_neg (by omega)] at h
    simp only [Bool.and_eq_true] at h
    exact lxt_name h.2
  · split
    · have e : ([67, 79, 85, 78, 84, 40, 42, 41] : List UInt8) = ([67, 79, 85, 78, 84] : List UInt8) ++ 40 :: (([42] : List UInt8) ++ ([41] : List UInt8)) := rfl
      rw [e]
      exact LxT.bd (A := [ky ([67, 79, 85, 78, 84] : List UInt8)]) kCOUNT (.inr (.inr (.inl rfl))) (LxT.seq (a := ([40] : List UInt8)) (A := [sg ([40] : List UInt8)]) sPar (LxT.seq (A := [sg ([42] : List UInt8)]) sStar sEnd))
    · rename_i h1 h2
      rw [if_neg h2] at h
      simp only [Bool.and_eq_true] at h
      have e : itemW x.Kind ++ ([40] : List UInt8) ++ x.Column ++ ([41] : List UInt8) = itemW x.Kind ++ 40 :: (x.Column ++ [41]) := by simp
      rw [e]
      exact LxT.bd (A := [ky (itemW x.Kind)]) (kItem _) (.inr (.inr (.inl rfl))) (lxParens (A := [(1, x.Column)]) (lxt_name h.2))
theorem lxL {l : List Bs} (h : l.all isName = true) {P : Bs → Prop} : LxT P (showL l) (tL l) := by
  have hj := lxJoin (fun s : Bs => s) (fun s => [((1 : Int), s)]) l fun s hs => lxt_name (List.all_eq_true.1 h s hs)
  rw [List.map_id'] at hj
  have e : showL l = 40 :: (join l ++ [41]) := by simp [showL]
  rw [e]
  exact lxParens hj
theorem named_all {l : List Bs} {a b : Nat} (h : named l a b = true) : l.all isName = true := by
  simp only [named, Bool.and_eq_true] at h; exact h.2
theorem lxG {g : Group} (h : groupOk g = true) : LxT Bd (showG g) (tG g) := by
  unfold showG tG
  unfold groupOk at h
  split
  · rename_i hk
    rw [if_pos hk] at h
    simp only [Bool.and_eq_true] at h
    have hn := h.2
    simp only [named, Bool.and_eq_true, decide_eq_true_eq] at hn
    cases hc : g.Columns with
    | nil => rw [hc] at hn; simp at hn
    | cons s l =>
      rw [hc] at hn
      simp only [List.all_cons, Bool.and_eq_true] at hn
      exact lxt_name hn.2.1
  rename_i k1
  rw [if_neg k1] at h
  split
  · rename_i hk
    rw [if_pos (.inl hk)] at h
    simp only [Bool.and_eq_true] at h
    have e : showL g.Columns = 40 :: (join g.Columns ++ [41]) := by simp [showL]
    rw [e]
    refine LxT.bd (A := [ky ([82, 79, 76, 76, 85, 80] : List UInt8)]) kROLLUP (.inr (.inr (.inl rfl))) ?_
    rw [← e]; exact lxL (named_all h.2)
  rename_i k2
  split
  · rename_i hk
    rw [if_pos (.inr hk)] at h
    simp only [Bool.and_eq_true] at h
    have e : showL g.Columns = 40 :: (join g.Columns ++ [41]) := by simp [showL]
    rw [e]
    refine LxT.bd (A := [ky ([67, 85, 66, 69] : List UInt8)]) kCUBE (.inr (.inr (.inl rfl))) ?_
    rw [← e]; exact lxL (named_all h.2)
  rename_i k3
  rw [if_neg (by omega)] at h
  split at h
  · simp only [Bool.and_eq_true] at h
    have hj := lxJoin showL tL g.Sets fun s hs => lxL (P := Bd) (named_all (List.all_eq_true.1 h.2 s hs))
    have e : ([71, 82, 79, 85, 80, 73, 78, 71, 32, 83, 69, 84, 83, 40] : List UInt8) ++ join (g.Sets.map showL) ++ ([41] : List UInt8) = ([71, 82, 79, 85, 80, 73, 78, 71] : List UInt8) ++ 32 :: (([83, 69, 84, 83] : List UInt8) ++ 40 :: (join (g.Sets.map showL) ++ [41])) := by simp
    rw [e]
    exact LxT.bd (A := [ky ([71, 82, 79, 85, 80, 73, 78, 71] : List UInt8)]) kGROUPING (.inl rfl) (LxT.seq (a := ([32] : List UInt8)) (A := []) lxt_blank (LxT.bd (A := [ky ([83, 69, 84, 83] : List UInt8)]) kSETS (.inr (.inr (.inl rfl))) (lxParens hj)))
  · cases h
structure Rt0 (q : Query) : Prop where
  table : isName q.Table = true
  some : 1 ≤ q.Items.length
  grouped : q.Grouped = !q.Groups.isEmpty
  item : ∀ x ∈ q.Items, itemOk x = true
  group : ∀ g ∈ q.Groups, groupOk g = true
  nodes : nodesOk q.Where = true
structure Rt (q : Query) : Prop where
  table : isName q.Table = true
  some : 1 ≤ q.Items.length
  items : q.Items.length ≤ 16
  groups : q.Groups.length ≤ 16
  grouped : q.Grouped = !q.Groups.isEmpty
  item : ∀ x ∈ q.Items, itemOk x = true
  group : ∀ g ∈ q.Groups, groupOk g = true
  nodes : nodesOk q.Where = true
  size : size q.Where ≤ 2048
  deep : depth q.Where ≤ 32
theorem right_iff (q : Query) : right q = true ↔ Rt q := by
  unfold right
  simp only [Bool.and_eq_true, decide_eq_true_eq, beq_iff_eq, List.all_eq_true]
  constructor
  · rintro ⟨⟨⟨⟨⟨⟨⟨⟨⟨h1, h2⟩, h3⟩, h4⟩, h5⟩, h6⟩, h7⟩, h8⟩, h9⟩, h10⟩
    exact ⟨h1, h2, h3, h4, h5, h6, h7, h8, h9, h10⟩
  · rintro ⟨h1, h2, h3, h4, h5, h6, h7, h8, h9, h10⟩
    exact ⟨⟨⟨⟨⟨⟨⟨⟨⟨h1, h2⟩, h3⟩, h4⟩, h5⟩, h6⟩, h7⟩, h8⟩, h9⟩, h10⟩
theorem Rt.to0 {q : Query} (h : Rt q) : Rt0 q := ⟨h.table, h.some, h.grouped, h.item, h.group, h.nodes⟩
theorem lxQ {q : Query} (H : Rt0 q) (h64 : C64 q.Where) : LxT Bd (text q) (tQ q) := by
  have hi := lxJoin showI tI q.Items fun x hx => lxI (H.item x hx)
  have hg := lxJoin showG tG q.Groups fun x hx => lxG (H.group x hx)
  have G : LxT Bd (if q.Grouped then ([32, 71, 82, 79, 85, 80, 32, 66, 89, 32] : List UInt8) ++ join (q.Groups.map showG) else []) (if q.Grouped then ky ([71, 82, 79, 85, 80] : List UInt8) :: ky ([66, 89] : List UInt8) :: tJoin (q.Groups.map tG) else []) := by
    cases q.Grouped with
    | false => exact LxT.nil
    | true =>
      have e : ([32, 71, 82, 79, 85, 80, 32, 66, 89, 32] : List UInt8) = ([32] : List UInt8) ++ (([71, 82, 79, 85, 80] : List UInt8) ++ [32]) ++ (([66, 89] : List UInt8) ++ [32]) := rfl
      simp only [if_true]
      rw [e, List.append_assoc, List.append_assoc]
      exact LxT.seq (A := []) lxt_blank (LxT.seq (A := [ky ([71, 82, 79, 85, 80] : List UInt8)]) (kwSp kGROUP) (LxT.seq (A := [ky ([66, 89] : List UInt8)]) (kwSp kBY) hg))
  have gh : ∀ s, Bd s → Bd ((if q.Grouped then ([32, 71, 82, 79, 85, 80, 32, 66, 89, 32] : List UInt8) ++ join (q.Groups.map showG) else []) ++ s) := by
    intro s hs
    cases q.Grouped with
    | false => exact hs
    | true => exact Bd.head (.inl rfl)
  have W : LxT Bd ((if q.Where.isNil then [] else ([32, 87, 72, 69, 82, 69, 32] : List UInt8) ++ showC q.Where) ++ (if q.Grouped then ([32, 71, 82, 79, 85, 80, 32, 66, 89, 32] : List UInt8) ++ join (q.Groups.map showG) else [])) ((if q.Where.isNil then [] else ky ([87, 72, 69, 82, 69] : List UInt8) :: tC q.Where) ++ (if q.Grouped then ky ([71, 82, 79, 85, 80] : List UInt8) :: ky ([66, 89] : List UInt8) :: tJoin (q.Groups.map tG) else [])) := by
    cases hw : q.Where.isNil with
    | true => simpa using G
    | false =>
      have hc := lxC q.Where H.nodes h64 hw
      simp only [Bool.false_eq_true, if_false]
      obtain ⟨gr, hgr⟩ : ∃ gr, gr = (if q.Grouped then ([32, 71, 82, 79, 85, 80, 32, 66, 89, 32] : List UInt8) ++ join (q.Groups.map showG) else []) := ⟨_, rfl⟩
      rw [← hgr] at G gh ⊢
      have e : ([32, 87, 72, 69, 82, 69, 32] : List UInt8) ++ showC q.Where ++ gr = [32] ++ ((([87, 72, 69, 82, 69] : List UInt8) ++ [32]) ++ (showC q.Where ++ gr)) := by simp
      rw [e]
      exact LxT.seq (A := []) lxt_blank (LxT.seq (A := [ky ([87, 72, 69, 82, 69] : List UInt8)]) (kwSp kWHERE) (hc.append G gh))
  have wh : ∀ s, Bd s → Bd (((if q.Where.isNil then [] else ([32, 87, 72, 69, 82, 69, 32] : List UInt8) ++ showC q.Where) ++ (if q.Grouped then ([32, 71, 82, 79, 85, 80, 32, 66, 89, 32] : List UInt8) ++ join (q.Groups.map showG) else [])) ++ s) := by
    intro s hs
    cases hw : q.Where.isNil with
    | true => simpa using gh s hs
    | false =>
      simp only [Bool.false_eq_true, if_false]
      rw [List.append_assoc, List.append_assoc]
      exact Bd.head (c := 32) (t := ([87, 72, 69, 82, 69, 32] : List UInt8)) (.inl rfl)
  have e : text q = (([83, 69, 76, 69, 67, 84] : List UInt8) ++ [32]) ++ (join (q.Items.map showI) ++ 32 :: ((([70, 82, 79, 77] : List UInt8) ++ [32]) ++ (q.Table ++ ((if q.Where.isNil then [] else ([32, 87, 72, 69, 82, 69, 32] : List UInt8) ++ showC q.Where) ++ (if q.Grouped then ([32, 71, 82, 79, 85, 80, 32, 66, 89, 32] : List UInt8) ++ join (q.Groups.map showG) else []))))) := by
    simp [text]
  rw [e]
  unfold tQ
  exact LxT.seq (A := [ky ([83, 69, 76, 69, 67, 84] : List UInt8)]) (kwSp kSELECT) (LxT.bd hi (.inl rfl) (LxT.seq (a := 32 :: (([70, 82, 79, 77] : List UInt8) ++ [32])) (A := [ky ([70, 82, 79, 77] : List UInt8)]) (spKwSp kFROM) (LxT.append (A := [(1, q.Table)]) (lxt_name H.table) W wh)))
theorem words_text0 {q : Query} (h : Rt0 q) (h64 : C64 q.Where) (hl : (text q).length ≤ 4096) : ∃ ws, ws.map kt = tQ q ∧ words (text q) = .ok (ws ++ [⟨6, [], ((text q).length : Nat)⟩]) := by
  obtain ⟨ws, hw, e⟩ := lxQ h h64 0 [] (fun c t e => by cases e)
  refine ⟨ws, hw, ?_⟩
  unfold words
  rw [if_neg (by omega)]
  rw [List.append_nil] at e
  rw [show lexGo (text q).length 0 (text q) = lx 0 (text q) from rfl, e, lx_nil, Nat.zero_add]
  rfl
theorem words_text {q : Query} (h : right q = true) (h64 : C64 q.Where) (hl : (text q).length ≤ 4096) : ∃ ws, ws.map kt = tQ q ∧ words (text q) = .ok (ws ++ [⟨6, [], ((text q).length : Nat)⟩]) := words_text0 ((right_iff q).1 h).to0 h64 hl
end Go.Proofs.Q



set_option linter.unusedVariables false
set_option linter.unusedSimpArgs false
namespace Go.Proofs.Q
open Go.Lib
theorem R.bind_eq_ok {α β : Type} {p : R α} {k : α → List Word → R β} {y : β} {r' : List Word} (h : p.bind k = .ok y r') : ∃ x r, p = .ok x r ∧ k x r = .ok y r' := by
  cases p with
  | ok x r => exact ⟨x, r, rfl, h⟩
  | er f => cases h
  | out => cases h
theorem R.bind_congr {α β : Type} {p : R α} {k k' : α → List Word → R β} (h : ∀ x r, p = .ok x r → k x r = k' x r) : p.bind k = p.bind k' := by
  cases p with
  | ok x r => exact h x r rfl
  | er f => rfl
  | out => rfl
def Shr {α : Type} (p : List Word → R α) : Prop := ∀ ws x r, p ws = .ok x r → r.length < ws.length
theorem isH_true {s : Bs} {ws : List Word} (h : isH s ws = true) : ∃ w r, ws = w :: r ∧ isW s w = true := by
  cases ws with
  | nil => cases h
  | cons w r => exact ⟨w, r, rfl, h⟩
theorem isH_len {s : Bs} {ws : List Word} (h : isH s ws = true) : 1 ≤ ws.length := by
  obtain ⟨w, r, rfl, _⟩ := isH_true h; simp
theorem must_len : ∀ (l : List Bs) (ws r : List Word), must l ws = .ok () r → r.length + l.length = ws.length
  | [], ws, r, h => by cases h; simp
  | s :: l, ws, r, h => by
    unfold must at h
    split at h
    · rename_i hs
      have := must_len l _ r h
      have := isH_len hs
      simp at *; omega
    · cases h
theorem ofKind_cons (k : Int) (w : Word) (r : List Word) : ofKind k (w :: r) = if w.Kind = k then .ok w.Text r else fail 41 (w :: r) := rfl
theorem pNumber_cons (m : Bs) (w : Word) (r : List Word) : pNumber m (w :: r) = if w.Kind = 3 then (match parseIntB 64 (m ++ w.Text) with
      | .ok n => .ok ⟨false, [], n⟩ r
      | _ => fail 45 (w :: r)) else fail 41 (w :: r) := rfl
theorem ofKind_shr (k : Int) : Shr (ofKind k) := by
  intro ws x r h
  cases ws with
  | nil => cases h
  | cons w t =>
    rw [ofKind_cons] at h
    split at h
    · cases h; simp
    · cases h
theorem which_len : ∀ (l : List Bs) (ws : List Word) (i : Nat), which l ws = some i → 1 ≤ ws.length
  | [], _, _, h => by cases h
  | s :: l, ws, i, h => by
    unfold which at h
    split at h
    · rename_i hs; exact isH_len hs
    · cases hw : which l ws with
      | none => rw [hw] at h; cases h
      | some j => exact which_len l ws j hw
theorem sevRest_le {α : Type} {p : List Word → R α} (hp : Shr p) : ∀ (n : Nat) (ws : List Word) (l : List α) (r : List Word), sevRest p n ws = .ok l r → r.length ≤ ws.length
  | 0, _, _, _, h => by cases h
  | n + 1, ws, l, r, h => by
    unfold sevRest at h
    split at h
    · obtain ⟨x, r1, h1, h⟩ := R.bind_eq_ok h
      obtain ⟨l2, r2, h2, h⟩ := R.bind_eq_ok h
      cases h
      have a := hp _ _ _ h1
      have b := sevRest_le hp n _ _ _ h2
      simp at a; omega
    · cases h; exact Nat.le_refl _
theorem several_shr {α : Type} {p : List Word → R α} (hp : Shr p) : Shr (several p) := by
  intro ws l r h
  obtain ⟨x, r1, h1, h⟩ := R.bind_eq_ok h
  obtain ⟨l2, r2, h2, h⟩ := R.bind_eq_ok h
  cases h
  have a := hp _ _ _ h1
  have b := sevRest_le hp _ _ _ _ h2
  omega
theorem sevRest_fuel {α : Type} {p : List Word → R α} (hp : Shr p) : ∀ (n m : Nat) (ws : List Word), ws.length < n → ws.length < m → sevRest p n ws = sevRest p m ws := by
  intro n
  induction n with
  | zero => intro m ws h; omega
  | succ n ih =>
    intro m ws hn hm
    cases m with
    | zero => omega
    | succ m =>
      unfold sevRest
      split
      · refine R.bind_congr fun x r h => ?_
        have := hp _ _ _ h
        rw [ih m r (by simp at this; omega) (by simp at this; omega)]
      · rfl
def sr {α : Type} (p : List Word → R α) (ws : List Word) : R (List α) := sevRest p (ws.length + 1) ws
theorem several_eq {α : Type} (p : List Word → R α) (ws : List Word) : several p ws = (p ws).bind fun x r => (sr p r).bind fun l r' => .ok (x :: l) r' := rfl
theorem sr_stop {α : Type} {p : List Word → R α} {ws : List Word} (h : isH ([44] : List UInt8) ws = false) : sr p ws = .ok [] ws := by
  unfold sr sevRest; simp [h]
theorem sr_comma {α : Type} {p : List Word → R α} (hp : Shr p) {ws : List Word} (h : isH ([44] : List UInt8) ws = true) : sr p ws = several p (ws.drop 1) := by
  unfold sr several
  rw [sevRest, if_pos h]
  have h1 := isH_len h
  refine R.bind_congr fun x r h2 => ?_
  have := hp _ _ _ h2
  rw [sevRest_fuel hp ws.length (r.length + 1) r (by simp at this; omega) (by omega)]
theorem chainRest_le {k : Int} {s : Bs} {p : List Word → R CondT} (hp : Shr p) : ∀ (n : Nat) (c : CondT) (ws : List Word) (d : CondT) (r : List Word), chainRest k s p n c ws = .ok d r → r.length ≤ ws.length
  | 0, _, _, _, _, h => by cases h
  | n + 1, c, ws, d, r, h => by
    unfold chainRest at h
    split at h
    · obtain ⟨x, r1, h1, h⟩ := R.bind_eq_ok h
      have a := hp _ _ _ h1
      have b := chainRest_le hp n _ _ _ _ h
      simp at a; omega
    · cases h; exact Nat.le_refl _
theorem chain_shr {k : Int} {s : Bs} {p : List Word → R CondT} (hp : Shr p) : Shr (chain k s p) := by
  intro ws c r h
  obtain ⟨x, r1, h1, h⟩ := R.bind_eq_ok h
  have a := hp _ _ _ h1
  have b := chainRest_le hp _ _ _ _ _ h
  omega
theorem chainRest_fuel {k : Int} {s : Bs} {p : List Word → R CondT} (hp : Shr p) : ∀ (n m : Nat) (c : CondT) (ws : List Word), ws.length < n → ws.length < m → chainRest k s p n c ws = chainRest k s p m c ws := by
  intro n
  induction n with
  | zero => intro m c ws h; omega
  | succ n ih =>
    intro m c ws hn hm
    cases m with
    | zero => omega
    | succ m =>
      unfold chainRest
      split
      · refine R.bind_congr fun x r h => ?_
        have := hp _ _ _ h
        rw [ih m _ r (by simp at this; omega) (by simp at this; omega)]
      · rfl
theorem chainRest_congr {k : Int} {s : Bs} {p q : List Word → R CondT} (hp : Shr p) : ∀ (n : Nat) (c : CondT) (ws : List Word), (∀ t : List Word, t.length ≤ ws.length → p t = q t) → chainRest k s p n c ws = chainRest k s q n c ws := by
  intro n
  induction n with
  | zero => intro c ws h; rfl
  | succ n ih =>
    intro c ws h
    unfold chainRest
    split
    · rw [← h (ws.drop 1) (by simp)]
      refine R.bind_congr fun x r h2 => ?_
      have := hp _ _ _ h2
      exact ih _ r fun t ht => h t (by simp at this; omega)
    · rfl
theorem chain_congr {k : Int} {s : Bs} {p q : List Word → R CondT} (hp : Shr p) (ws : List Word) (h : ∀ t : List Word, t.length ≤ ws.length → p t = q t) : chain k s p ws = chain k s q ws := by
  unfold chain
  rw [← h ws (Nat.le_refl _)]
  refine R.bind_congr fun x r h2 => ?_
  have := hp _ _ _ h2
  exact chainRest_congr hp _ _ r fun t ht => h t (by omega)
theorem pNumber_shr (m : Bs) : Shr (pNumber m) := by
  intro ws x r h
  cases ws with
  | nil => cases h
  | cons w t =>
    rw [pNumber_cons] at h
    split at h
    · split at h
      · cases h; simp
      · cases h
    · cases h
theorem pValue_shr : Shr pValue := by
  intro ws x r h
  unfold pValue at h
  split at h
  · obtain ⟨s, r1, h1, h⟩ := R.bind_eq_ok h
    cases h; exact ofKind_shr _ _ _ _ h1
  split at h
  · have := pNumber_shr _ _ _ _ h
    simp at this; omega
  · exact pNumber_shr _ _ _ _ h
theorem pTest_shr : Shr pTest := by
  intro ws x r h
  obtain ⟨s, r1, h1, h⟩ := R.bind_eq_ok h
  have a := ofKind_shr _ _ _ _ h1
  split at h
  · obtain ⟨v, r2, h2, h⟩ := R.bind_eq_ok h
    cases h
    have := pValue_shr _ _ _ h2
    simp at this; omega
  · obtain ⟨_, r2, h2, h⟩ := R.bind_eq_ok h
    obtain ⟨v, r3, h3, h⟩ := R.bind_eq_ok h
    obtain ⟨_, r4, h4, h⟩ := R.bind_eq_ok h
    cases h
    have := must_len _ _ _ h2
    have := several_shr pValue_shr _ _ _ h3
    have := must_len _ _ _ h4
    omega
theorem pNot_shr : ∀ n, Shr (pNot n)
  | 0 => by intro ws x r h; cases h
  | n + 1 => by
    intro ws x r h
    unfold pNot at h
    split at h
    · obtain ⟨s, r1, h1, h⟩ := R.bind_eq_ok h
      cases h
      have := pNot_shr n _ _ _ h1
      simp at this; omega
    · obtain ⟨s, r1, h1, h⟩ := R.bind_eq_ok h
      obtain ⟨_, r2, h2, h⟩ := R.bind_eq_ok h
      cases h
      have := chain_shr (chain_shr (pNot_shr n)) _ _ _ h1
      have := must_len _ _ _ h2
      simp at *; omega
    · exact pTest_shr _ _ _ h
theorem pNot_fuel : ∀ (n m : Nat) (ws : List Word), ws.length < n → ws.length < m → pNot n ws = pNot m ws := by
  intro n
  induction n with
  | zero => intro m ws h; omega
  | succ n ih =>
    intro m ws hn hm
    cases m with
    | zero => omega
    | succ m =>
      unfold pNot
      split
      · rename_i h
        have := which_len _ _ _ h
        rw [ih m (ws.drop 1) (by simp; omega) (by simp; omega)]
      · rename_i h1 h
        have := which_len _ _ _ h
        rw [chain_congr (q := chain 1 ([65, 78, 68] : List UInt8) (pNot m)) (chain_shr (pNot_shr n)) (ws.drop 1) fun t ht => chain_congr (pNot_shr n) t fun u hu => ih m u (by simp at ht; omega) (by simp at ht; omega)]
      · rfl
def pn (ws : List Word) : R CondT := pNot (ws.length + 1) ws
def pA : List Word → R CondT := chain 1 ([65, 78, 68] : List UInt8) pn
def po : List Word → R CondT := chain 2 ([79, 82] : List UInt8) pA
theorem pn_shr : Shr pn := fun ws => pNot_shr _ ws
theorem pA_shr : Shr pA := chain_shr pn_shr
theorem pNot_pn {n : Nat} {ws : List Word} (h : ws.length < n) : pNot n ws = pn ws := pNot_fuel _ _ _ h (by omega)
theorem pOr_po {n : Nat} {ws : List Word} (h : ws.length < n) : pOr n ws = po ws :=
  chain_congr (chain_shr (pNot_shr n)) ws fun t ht => chain_congr (pNot_shr n) t fun u hu => pNot_pn (by omega)
theorem pn_eq (ws : List Word) : pn ws = match which [([78, 79, 84] : List UInt8), ([40] : List UInt8)] ws with
    | some 0 => (pn (ws.drop 1)).bind fun c r => .ok (.mk 3 c .nil [] 0 []) r
    | some _ => (po (ws.drop 1)).bind fun c r => (must [([41] : List UInt8)] r).bind fun _ r => .ok c r
    | none => pTest ws := by
  show pNot (ws.length + 1) ws = _
  rw [pNot]
  cases hw : which [([78, 79, 84] : List UInt8), ([40] : List UInt8)] ws with
  | none => rfl
  | some i =>
    have := which_len _ _ _ hw
    cases i with
    | zero => simp only; rw [pNot_pn (by simp; omega)]
    | succ j =>
      simp only
      rw [show chain 2 ([79, 82] : List UInt8) (chain 1 ([65, 78, 68] : List UInt8) (pNot ws.length)) (ws.drop 1) = pOr ws.length (ws.drop 1) from rfl, pOr_po (by simp; omega)]
theorem pWhere_eq (ws : List Word) : pWhere ws = if isH ([87, 72, 69, 82, 69] : List UInt8) ws then po (ws.drop 1) else .ok .nil ws := by
  unfold pWhere
  rw [pOr_po (by simp; omega)]
def crA (c : CondT) (ws : List Word) : R CondT := chainRest 1 ([65, 78, 68] : List UInt8) pn (ws.length + 1) c ws
def crO (c : CondT) (ws : List Word) : R CondT := chainRest 2 ([79, 82] : List UInt8) pA (ws.length + 1) c ws
theorem pA_eq (ws : List Word) : pA ws = (pn ws).bind crA := rfl
theorem po_eq (ws : List Word) : po ws = (pA ws).bind crO := rfl
theorem crA_stop {c : CondT} {ws : List Word} (h : isH ([65, 78, 68] : List UInt8) ws = false) : crA c ws = .ok c ws := by unfold crA chainRest; simp [h]
theorem crO_stop {c : CondT} {ws : List Word} (h : isH ([79, 82] : List UInt8) ws = false) : crO c ws = .ok c ws := by unfold crO chainRest; simp [h]
theorem crA_go {c : CondT} {ws : List Word} (h : isH ([65, 78, 68] : List UInt8) ws = true) : crA c ws = (pn (ws.drop 1)).bind fun d r => crA (.mk 1 c d [] 0 []) r := by
  unfold crA
  rw [chainRest, if_pos h]
  have h1 := isH_len h
  refine R.bind_congr fun x r h2 => ?_
  have := pn_shr _ _ _ h2
  rw [chainRest_fuel pn_shr ws.length (r.length + 1) _ r (by simp at this; omega) (by omega)]
theorem crO_go {c : CondT} {ws : List Word} (h : isH ([79, 82] : List UInt8) ws = true) : crO c ws = (pA (ws.drop 1)).bind fun d r => crO (.mk 2 c d [] 0 []) r := by
  unfold crO
  rw [chainRest, if_pos h]
  have h1 := isH_len h
  refine R.bind_congr fun x r h2 => ?_
  have := pA_shr _ _ _ h2
  rw [chainRest_fuel pA_shr ws.length (r.length + 1) _ r (by simp at this; omega) (by omega)]
theorem kt_cons {l : List Word} {t : Tok} {T : List Tok} (h : l.map kt = t :: T) : ∃ w l', l = w :: l' ∧ kt w = t ∧ l'.map kt = T := by
  cases l with
  | nil => cases h
  | cons w l => simp only [List.map_cons, List.cons.injEq] at h; exact ⟨w, l, rfl, h.1, h.2⟩
theorem kt_nil {l : List Word} (h : l.map kt = []) : l = [] := by cases l with
  | nil => rfl
  | cons => cases h
theorem kt_app {l : List Word} {S T : List Tok} (h : l.map kt = S ++ T) : ∃ a b, l = a ++ b ∧ a.map kt = S ∧ b.map kt = T := by
  obtain ⟨a, b, h1, h2, h3⟩ := List.map_eq_append_iff.1 h
  exact ⟨a, b, h1, h2, h3⟩
theorem kt_eq {w : Word} {k : Int} {x : Bs} (h : kt w = (k, x)) : w.Kind = k ∧ w.Text = x := Prod.mk.inj h
theorem isH_kt {w : Word} {r : List Word} {k : Int} {x : Bs} (s : Bs) (h : kt w = (k, x)) : isH s (w :: r) = ((k == 2 || k == 5) && x == s) := by
  obtain ⟨rfl, rfl⟩ := kt_eq h; rfl
theorem hKind_kt {w : Word} {r : List Word} {k : Int} {x : Bs} (h : kt w = (k, x)) : hKind (w :: r) = k := (kt_eq h).1
theorem must_cons {w : Word} {r : List Word} {k : Int} {s : Bs} {l : List Bs} (h : kt w = (k, s)) (hk : k = 2 ∨ k = 5) : must (s :: l) (w :: r) = must l r := by
  rw [must, isH_kt s h]
  rcases hk with rfl | rfl <;> simp
theorem must_nil (r : List Word) : must [] r = .ok () r := rfl
theorem ofKind_kt {w : Word} {r : List Word} {k : Int} {x : Bs} (h : kt w = (k, x)) : ofKind k (w :: r) = .ok x r := by
  obtain ⟨h1, h2⟩ := kt_eq h
  rw [ofKind_cons, if_pos h1, h2]
theorem eat_name {l r : List Word} {s : Bs} (h : l.map kt = [(1, s)]) : pName (l ++ r) = .ok s r := by
  obtain ⟨w, l', rfl, hw, h⟩ := kt_cons h
  cases kt_nil h
  exact ofKind_kt hw
theorem eat_several {α : Type} {p : List Word → R α} (hp : Shr p) (g : α → List Tok) : ∀ (xs : List α) (x : α), (∀ y ∈ x :: xs, ∀ l r, l.map kt = g y → p (l ++ r) = .ok y r) →
    ∀ l r, l.map kt = tJoin ((x :: xs).map g) → isH ([44] : List UInt8) r = false → several p (l ++ r) = .ok (x :: xs) r
  | [], x, hx, l, r, h, hr => by
    rw [several_eq, hx x (List.mem_cons_self ..) l r h, R.bind_ok, sr_stop hr, R.bind_ok]
  | y :: ys, x, hx, l, r, h, hr => by
    obtain ⟨l1, l2, rfl, h1, h2⟩ := kt_app (S := g x) (T := sg ([44] : List UInt8) :: tJoin ((y :: ys).map g)) h
    obtain ⟨w, l3, rfl, hw, h3⟩ := kt_cons h2
    have hc : isH ([44] : List UInt8) (w :: l3 ++ r) = true := by rw [List.cons_append, isH_kt _ hw]; rfl
    rw [List.append_assoc, several_eq, hx x (List.mem_cons_self ..) l1 _ h1, R.bind_ok, sr_comma hp hc, List.cons_append, List.drop_one, List.tail_cons,
      eat_several hp g ys y (fun z hz => hx z (List.mem_cons_of_mem _ hz)) l3 r h3 hr, R.bind_ok]
theorem eat_names {l r : List Word} {s : Bs} {ns : List Bs} (h : l.map kt = tL (s :: ns)) : pNames (l ++ r) = .ok (s :: ns) r := by
  obtain ⟨w, l1, rfl, hw, h1⟩ := kt_cons h
  obtain ⟨l2, l3, rfl, h2, h3⟩ := kt_app h1
  obtain ⟨v, l4, rfl, hv, h4⟩ := kt_cons h3
  cases kt_nil h4
  unfold pNames
  have e := eat_several (p := pName) (ofKind_shr 1) (fun s => [((1 : Int), s)]) ns s (fun y _ l r hl => eat_name hl) l2 (v :: r) h2 (by rw [isH_kt _ hv]; rfl)
  rw [List.cons_append, must_cons hw (.inr rfl), must_nil, R.bind_ok, List.append_assoc, List.singleton_append, e, R.bind_ok, must_cons hv (.inr rfl), must_nil, R.bind_ok]
theorem eat_item {x : Item} (hx : itemOk x = true) {l r : List Word} (h : l.map kt = tI x) : pItem (l ++ r) = .ok x r := by
  obtain ⟨k, c⟩ := x
  unfold tI at h
  unfold itemOk at hx
  simp only at h hx
  split at h
  · rename_i hk
    subst hk
    obtain ⟨w, l', rfl, hw, h⟩ := kt_cons h
    cases kt_nil h
    unfold pItem
    rw [List.cons_append, if_pos (hKind_kt hw)]
    unfold pName
    rw [ofKind_kt hw, R.bind_ok]; rfl
  split at h
  · rename_i hk
    rw [if_pos hk] at hx
    subst hk
    obtain ⟨w, l1, rfl, hw, h⟩ := kt_cons h
    obtain ⟨w2, l2, rfl, hw2, h⟩ := kt_cons h
    obtain ⟨w3, l3, rfl, hw3, h⟩ := kt_cons h
    obtain ⟨w4, l4, rfl, hw4, h⟩ := kt_cons h
    cases kt_nil h
    have hc : c = [] := by simpa using hx
    subst hc
    unfold pItem
    simp only [List.cons_append, List.nil_append]
    rw [if_neg (by rw [hKind_kt hw]; decide)]
    have hwh : which [([67, 79, 85, 78, 84] : List UInt8), ([83, 85, 77] : List UInt8), ([77, 73, 78] : List UInt8), ([77, 65, 88] : List UInt8), ([71, 82, 79, 85, 80, 73, 78, 71] : List UInt8)] (w :: w2 :: w3 :: w4 :: r) = some 0 := by
      simp only [which, isH_kt _ hw]; rfl
    rw [hwh]
    simp only [List.drop_one, List.tail_cons]
    rw [must_cons hw2 (.inr rfl), must_cons hw3 (.inr rfl), must_cons hw4 (.inr rfl), must_nil, R.bind_ok]
  · rename_i k1 k2
    rw [if_neg k2] at hx
    simp only [Bool.and_eq_true, decide_eq_true_eq] at hx
    obtain ⟨w, l1, rfl, hw, h⟩ := kt_cons h
    obtain ⟨w2, l2, rfl, hw2, h⟩ := kt_cons h
    obtain ⟨w3, l3, rfl, hw3, h⟩ := kt_cons h
    obtain ⟨w4, l4, rfl, hw4, h⟩ := kt_cons h
    cases kt_nil h
    unfold pItem
    simp only [List.cons_append, List.nil_append]
    rw [if_neg (by rw [hKind_kt hw]; decide)]
    have hk : k = 3 ∨ k = 4 ∨ k = 5 ∨ k = 6 := by omega
    have hwh : which [([67, 79, 85, 78, 84] : List UInt8), ([83, 85, 77] : List UInt8), ([77, 73, 78] : List UInt8), ([77, 65, 88] : List UInt8), ([71, 82, 79, 85, 80, 73, 78, 71] : List UInt8)] (w :: w2 :: w3 :: w4 :: r) = some ((k - 3).toNat + 1) ∧ 2 + (((k - 3).toNat + 1 : Nat) : Int) = k := by
      rcases hk with rfl | rfl | rfl | rfl <;> exact ⟨by simp only [which, isH_kt _ hw]; rfl, rfl⟩
    rw [hwh.1]
    simp only [List.drop_one, List.tail_cons]
    unfold pName
    rw [must_cons hw2 (.inr rfl), must_nil, R.bind_ok, ofKind_kt hw3, R.bind_ok, must_cons hw4 (.inr rfl), must_nil, R.bind_ok, hwh.2]
theorem eat_number {m : Bs} {w : Word} {r : List Word} {x : Bs} {n : Int} (h : kt w = (3, x)) (hp : parseIntB 64 (m ++ x) = .ok n) : pNumber m (w :: r) = .ok ⟨false, [], n⟩ r := by
  obtain ⟨h1, h2⟩ := kt_eq h
  rw [pNumber_cons, if_pos h1, h2, hp]
theorem eat_value {v : Value} (hv : valueOk v = true) (h64 : V64 v) {l r : List Word} (h : l.map kt = tV v) : pValue (l ++ r) = .ok v r := by
  obtain ⟨b, t, n⟩ := v
  unfold tV at h
  unfold valueOk at hv
  obtain ⟨b0, b1⟩ := h64
  simp only at h hv b0 b1
  cases b with
  | true =>
    simp only [if_true, Bool.and_eq_true, beq_iff_eq] at h hv
    obtain ⟨w, l', rfl, hw, h⟩ := kt_cons h
    cases kt_nil h
    unfold pValue
    rw [List.cons_append, if_pos (hKind_kt hw), ofKind_kt hw, R.bind_ok, hv.2]; rfl
  | false =>
    simp only [Bool.false_eq_true, if_false, List.isEmpty_iff] at h hv
    subst hv
    split at h
    · obtain ⟨w, l1, rfl, hw, h⟩ := kt_cons h
      obtain ⟨w2, l2, rfl, hw2, h⟩ := kt_cons h
      cases kt_nil h
      unfold pValue
      rw [List.cons_append, if_neg (by rw [hKind_kt hw]; decide), if_pos (by rw [isH_kt _ hw]; rfl)]
      simp only [List.cons_append, List.nil_append, List.drop_one, List.tail_cons]
      exact eat_number hw2 (by rw [List.singleton_append, parse_neg _ (by omega)]; congr 1; omega)
    · obtain ⟨w, l1, rfl, hw, h⟩ := kt_cons h
      cases kt_nil h
      unfold pValue
      rw [List.cons_append, if_neg (by rw [hKind_kt hw]; decide), if_neg (by rw [isH_kt _ hw]; simp)]
      exact eat_number hw (by rw [List.nil_append, parse_pos _ (by omega)]; congr 1; omega)
theorem which_op {w : Word} {r : List Word} {o : Int} (h1 : 1 ≤ o) (h2 : o ≤ 6) (h : kt w = sg (opB o)) : ∃ i : Nat, which [([61] : List UInt8), ([60, 62] : List UInt8), ([60] : List UInt8), ([60, 61] : List UInt8), ([62] : List UInt8), ([62, 61] : List UInt8)] (w :: r) = some i ∧ 1 + (i : Int) = o := by
  have hk : o = 1 ∨ o = 2 ∨ o = 3 ∨ o = 4 ∨ o = 5 ∨ o = 6 := by omega
  refine ⟨(o - 1).toNat, ?_, by omega⟩
  rcases hk with rfl | rfl | rfl | rfl | rfl | rfl <;> (simp only [which, isH_kt _ h]; rfl)
theorem isNil_eq {c : CondT} (h : c.isNil = true) : c = .nil := by cases c with
  | nil => rfl
  | mk => cases h
theorem eat_par {c : CondT} (b : Bool) (hb : b = false → ck c ≠ 1 ∧ ck c ≠ 2) (h1 : ck c ≠ 1 ∧ ck c ≠ 2 → ∀ l r, l.map kt = tC c → pn (l ++ r) = .ok c r)
    (h3 : ∀ l r, l.map kt = tC c → isH ([65, 78, 68] : List UInt8) r = false → po (l ++ r) = crO c r) (l r : List Word) (h : l.map kt = tPar b (tC c)) : pn (l ++ r) = .ok c r := by
  rw [tPar_eq] at h
  cases b with
  | false => exact h1 (hb rfl) l r h
  | true =>
    obtain ⟨w, l1, rfl, hw, h⟩ := kt_cons h
    obtain ⟨l2, l3, rfl, h2, h⟩ := kt_app h
    obtain ⟨v, l4, rfl, hv, h⟩ := kt_cons h
    cases kt_nil h
    have hwh : which [([78, 79, 84] : List UInt8), ([40] : List UInt8)] (w :: (l2 ++ [v]) ++ r) = some 1 := by
      simp only [List.cons_append, which, isH_kt _ hw]; rfl
    rw [pn_eq, hwh]
    simp only [List.cons_append, List.drop_one, List.tail_cons, List.append_assoc, List.nil_append]
    rw [h3 l2 (v :: r) h2 (by rw [isH_kt _ hv]; rfl), crO_stop (by rw [isH_kt _ hv]; rfl), R.bind_ok, must_cons hv (.inr rfl), must_nil, R.bind_ok]
theorem eat_cond : ∀ (c : CondT), nodesOk c = true → C64 c → c.isNil = false →
    (ck c ≠ 1 ∧ ck c ≠ 2 → ∀ l r, l.map kt = tC c → pn (l ++ r) = .ok c r) ∧
    (ck c ≠ 2 → ∀ l r, l.map kt = tC c → pA (l ++ r) = crA c r) ∧
    (∀ l r, l.map kt = tC c → isH ([65, 78, 68] : List UInt8) r = false → po (l ++ r) = crO c r)
  | .nil, _, _, h => by cases h
  | .mk k x y c o vs, h, h64, _ => by
    simp only [nodesOk, Bool.and_eq_true] at h
    obtain ⟨⟨hn, hl⟩, hr⟩ := h
    obtain ⟨l64, r64, v64⟩ := h64
    obtain ⟨hv, hn⟩ := nodeOk_cases hn
    have up : (∀ l r, l.map kt = tC (.mk k x y c o vs) → pn (l ++ r) = .ok (.mk k x y c o vs) r) → (∀ l r, l.map kt = tC (.mk k x y c o vs) → pA (l ++ r) = crA (.mk k x y c o vs) r) := by
      intro H l r h
      rw [pA_eq, H l r h, R.bind_ok]
    have up2 : (∀ l r, l.map kt = tC (.mk k x y c o vs) → pA (l ++ r) = crA (.mk k x y c o vs) r) → (∀ l r, l.map kt = tC (.mk k x y c o vs) → isH ([65, 78, 68] : List UInt8) r = false → po (l ++ r) = crO (.mk k x y c o vs) r) := by
      intro H l r h hr
      rw [po_eq, H l r h, crA_stop hr, R.bind_ok]
    rcases hn with ⟨hk, rfl, rfl, rfl, h1, h2⟩ | ⟨rfl, rfl, rfl, rfl, h1, h2⟩ | ⟨rfl, hc, h1, h2, ⟨v, rfl⟩, h3, h4⟩ | ⟨rfl, hc, h1, h2, h3, h4, rfl⟩
    · obtain ⟨il1, il2, il3⟩ := eat_cond x hl l64 h1
      obtain ⟨ir1, ir2, ir3⟩ := eat_cond y hr r64 h2
      rcases hk with rfl | rfl
      ·
        have A : ∀ l r, l.map kt = tC (.mk 1 x y [] 0 []) → pA (l ++ r) = crA (.mk 1 x y [] 0 []) r := by
          intro l r h
          have h' : l.map kt = tPar (ck x == 2) (tC x) ++ ky ([65, 78, 68] : List UInt8) :: tPar (ck y == 2 || ck y == 1) (tC y) := by rw [h]; simp only [tC, if_true]
          obtain ⟨la, lb, rfl, ha, hb⟩ := kt_app h'
          obtain ⟨w, lc, rfl, hw, hc⟩ := kt_cons hb
          have hA : isH ([65, 78, 68] : List UInt8) (w :: lc ++ r) = true := by rw [List.cons_append, isH_kt _ hw]; rfl
          have first : pA (la ++ (w :: lc ++ r)) = crA x (w :: lc ++ r) := by
            cases hb : (ck x == 2) with
            | false =>
              rw [hb] at ha
              exact il2 (by simpa using hb) la _ ha
            | true =>
              have := eat_par (c := x) true (fun e => by cases e) il1 il3 la (w :: lc ++ r) (by rw [ha, hb])
              rw [pA_eq, this, R.bind_ok]
          have second := eat_par (c := y) (ck y == 2 || ck y == 1) (fun e => by simpa [and_comm] using e) ir1 ir3 lc r hc
          rw [List.append_assoc, first, crA_go hA, List.cons_append, List.drop_one, List.tail_cons, second, R.bind_ok]
        exact ⟨fun e => absurd rfl e.1, fun _ => A, up2 A⟩
      ·
        refine ⟨fun e => absurd rfl e.2, fun e => absurd rfl e, ?_⟩
        intro l r h hr
        have h' : l.map kt = tC x ++ ky ([79, 82] : List UInt8) :: tPar (ck y == 2) (tC y) := by rw [h]; simp only [tC, if_true, show ((2 : Int) = 1) = False from by simp, if_false]
        obtain ⟨la, lb, rfl, ha, hb⟩ := kt_app h'
        obtain ⟨w, lc, rfl, hw, hc⟩ := kt_cons hb
        have hO : isH ([79, 82] : List UInt8) (w :: lc ++ r) = true := by rw [List.cons_append, isH_kt _ hw]; rfl
        have first := il3 la (w :: lc ++ r) ha (by rw [List.cons_append, isH_kt _ hw]; rfl)
        have second : pA (lc ++ r) = .ok y r := by
          cases hb : (ck y == 2) with
          | false =>
            rw [hb] at hc
            rw [ir2 (by simpa using hb) lc r hc, crA_stop hr]
          | true =>
            have := eat_par (c := y) true (fun e => by cases e) ir1 ir3 lc r (by rw [hc, hb])
            rw [pA_eq, this, R.bind_ok, crA_stop hr]
        rw [List.append_assoc, first, crO_go hO, List.cons_append, List.drop_one, List.tail_cons, second, R.bind_ok]
    · obtain ⟨il1, il2, il3⟩ := eat_cond x hl l64 h1
      have N : ∀ l r, l.map kt = tC (.mk 3 x y [] 0 []) → pn (l ++ r) = .ok (.mk 3 x y [] 0 []) r := by
        intro l r h
        have h' : l.map kt = ky ([78, 79, 84] : List UInt8) :: tPar (ck x == 2 || ck x == 1) (tC x) := by rw [h]; simp only [tC, if_true, show ((3 : Int) = 1) = False from by simp, show ((3 : Int) = 2) = False from by simp, if_false]
        obtain ⟨w, lc, rfl, hw, hc⟩ := kt_cons h'
        have hwh : which [([78, 79, 84] : List UInt8), ([40] : List UInt8)] (w :: lc ++ r) = some 0 := by simp only [List.cons_append, which, isH_kt _ hw]; rfl
        have second := eat_par (c := x) (ck x == 2 || ck x == 1) (fun e => by simpa [and_comm] using e) il1 il3 lc r hc
        rw [pn_eq, hwh]
        simp only [List.cons_append, List.drop_one, List.tail_cons]
        rw [second, R.bind_ok, isNil_eq h2]
      exact ⟨fun _ => N, fun _ => up N, up2 (up N)⟩
    · have N : ∀ l r, l.map kt = tC (.mk 4 x y c o [v]) → pn (l ++ r) = .ok (.mk 4 x y c o [v]) r := by
        intro l r h
        have h' : l.map kt = (1, c) :: sg (opB o) :: tV v := by rw [h]; simp only [tC, if_true, show ((4 : Int) = 1) = False from by simp, show ((4 : Int) = 2) = False from by simp, show ((4 : Int) = 3) = False from by simp, if_false, List.headD_cons]
        obtain ⟨w, la, rfl, hw, ha⟩ := kt_cons h'
        obtain ⟨w2, lb, rfl, hw2, hb⟩ := kt_cons ha
        have hwh : which [([78, 79, 84] : List UInt8), ([40] : List UInt8)] (w :: (w2 :: lb) ++ r) = none := by simp only [List.cons_append, which, isH_kt _ hw]; rfl
        obtain ⟨i, hi, ho⟩ := which_op (r := lb ++ r) h3 h4 hw2
        rw [pn_eq, hwh]
        simp only [List.cons_append, List.nil_append]
        unfold pTest pName
        rw [ofKind_kt hw, R.bind_ok, hi]
        simp only [List.drop_one, List.tail_cons]
        rw [eat_value (hv v (List.mem_cons_self ..)) (v64 v (List.mem_cons_self ..)) hb, R.bind_ok, isNil_eq h1, isNil_eq h2, ho]
      exact ⟨fun _ => N, fun _ => up N, up2 (up N)⟩
    · have N : ∀ l r, l.map kt = tC (.mk 5 x y c 0 vs) → pn (l ++ r) = .ok (.mk 5 x y c 0 vs) r := by
        intro l r h
        have h' : l.map kt = (1, c) :: ky ([73, 78] : List UInt8) :: sg ([40] : List UInt8) :: (tJoin (vs.map tV) ++ [sg ([41] : List UInt8)]) := by rw [h]; simp only [tC, if_true, show ((5 : Int) = 1) = False from by simp, show ((5 : Int) = 2) = False from by simp, show ((5 : Int) = 3) = False from by simp, show ((5 : Int) = 4) = False from by simp, if_false]
        obtain ⟨w, la, rfl, hw, ha⟩ := kt_cons h'
        obtain ⟨w2, lb, rfl, hw2, hb⟩ := kt_cons ha
        obtain ⟨w3, lc, rfl, hw3, hc3⟩ := kt_cons hb
        obtain ⟨ld, le, rfl, hd, he⟩ := kt_app hc3
        obtain ⟨w4, lf, rfl, hw4, hf⟩ := kt_cons he
        cases kt_nil hf
        obtain ⟨v, ws, rfl⟩ : ∃ v ws, vs = v :: ws := by cases vs with
          | nil => exact absurd rfl h3
          | cons v ws => exact ⟨v, ws, rfl⟩
        have hwh : which [([78, 79, 84] : List UInt8), ([40] : List UInt8)] (w :: (w2 :: w3 :: (ld ++ [w4])) ++ r) = none := by simp only [List.cons_append, which, isH_kt _ hw]; rfl
        have hop : which [([61] : List UInt8), ([60, 62] : List UInt8), ([60] : List UInt8), ([60, 61] : List UInt8), ([62] : List UInt8), ([62, 61] : List UInt8)] (w2 :: w3 :: (ld ++ [w4] ++ r)) = none := by simp only [which, isH_kt _ hw2]; rfl
        have e := eat_several pValue_shr tV ws v (fun y hy l r hl => eat_value (hv y hy) (v64 y hy) hl) ld (w4 :: r) hd (by rw [isH_kt _ hw4]; rfl)
        rw [pn_eq, hwh]
        simp only [List.cons_append, List.nil_append]
        unfold pTest pName
        rw [ofKind_kt hw, R.bind_ok, hop]
        simp only
        rw [must_cons hw2 (.inl rfl), must_cons hw3 (.inr rfl), must_nil, R.bind_ok, List.append_assoc, List.singleton_append, e, R.bind_ok, must_cons hw4 (.inr rfl), must_nil, R.bind_ok, isNil_eq h1, isNil_eq h2]
      exact ⟨fun _ => N, fun _ => up N, up2 (up N)⟩
theorem eat_set {s : List Bs} (hs : named s 0 16 = true) {l r : List Word} (h : l.map kt = tL s) : pSet (l ++ r) = .ok s r := by
  cases s with
  | nil =>
    obtain ⟨w, l1, rfl, hw, h1⟩ := kt_cons h
    obtain ⟨w2, l2, rfl, hw2, h2⟩ := kt_cons h1
    cases kt_nil h2
    unfold pSet
    simp only [List.cons_append, List.nil_append, List.drop_one, List.tail_cons]
    rw [if_neg (by rw [hKind_kt hw]; decide), if_pos ⟨by rw [isH_kt _ hw]; rfl, hKind_kt hw2, by rw [isH_kt _ hw2]; rfl⟩]
    rfl
  | cons a s =>
    have e := eat_names (r := r) h
    obtain ⟨w, l1, rfl, hw, h1⟩ := kt_cons h
    obtain ⟨l2, l3, rfl, h2, h3⟩ := kt_app h1
    have h0 : hKind (l2 ++ l3 ++ r) = 1 := by
      obtain ⟨v, l4, rfl, hv, _⟩ : ∃ v l4, l2 = v :: l4 ∧ kt v = ((1 : Int), a) ∧ True := by
        cases s with
        | nil => obtain ⟨v, l4, h5, h6, _⟩ := kt_cons h2; exact ⟨v, l4, h5, h6, trivial⟩
        | cons b s => obtain ⟨v, l4, h5, h6, _⟩ := kt_cons h2; exact ⟨v, l4, h5, h6, trivial⟩
      exact hKind_kt hv
    unfold pSet
    rw [if_neg (by rw [List.cons_append, hKind_kt hw]; decide), if_neg, e]
    rintro ⟨_, h6, _⟩
    rw [List.cons_append, List.drop_one, List.tail_cons, h0] at h6
    exact absurd h6 (by decide)
theorem pNames_shr : Shr pNames := by
  intro ws x r h
  obtain ⟨_, r2, h2, h⟩ := R.bind_eq_ok h
  obtain ⟨v, r3, h3, h⟩ := R.bind_eq_ok h
  obtain ⟨_, r4, h4, h⟩ := R.bind_eq_ok h
  cases h
  have := must_len _ _ _ h2
  have := several_shr (ofKind_shr 1) _ _ _ h3
  have := must_len _ _ _ h4
  omega
theorem pSet_shr : Shr pSet := by
  intro ws x r h
  unfold pSet at h
  split at h
  · obtain ⟨s, r1, h1, h⟩ := R.bind_eq_ok h
    cases h; exact ofKind_shr _ _ _ _ h1
  split at h
  · rename_i hc
    cases h
    have := isH_len hc.1
    simp; omega
  · exact pNames_shr _ _ _ h
theorem pElement_shr : Shr pElement := by
  intro ws x r h
  unfold pElement at h
  split at h
  · obtain ⟨s, r1, h1, h⟩ := R.bind_eq_ok h
    cases h; exact ofKind_shr _ _ _ _ h1
  split at h
  · cases h
  · obtain ⟨s, r1, h1, h⟩ := R.bind_eq_ok h
    cases h; have := pNames_shr _ _ _ h1; simp at this; omega
  · obtain ⟨s, r1, h1, h⟩ := R.bind_eq_ok h
    cases h; have := pNames_shr _ _ _ h1; simp at this; omega
  · obtain ⟨_, r2, h2, h⟩ := R.bind_eq_ok h
    obtain ⟨v, r3, h3, h⟩ := R.bind_eq_ok h
    obtain ⟨_, r4, h4, h⟩ := R.bind_eq_ok h
    cases h
    have := must_len _ _ _ h2
    have := several_shr pSet_shr _ _ _ h3
    have := must_len _ _ _ h4
    simp at *; omega
theorem pItem_shr : Shr pItem := by
  intro ws x r h
  unfold pItem at h
  split at h
  · obtain ⟨s, r1, h1, h⟩ := R.bind_eq_ok h
    cases h; exact ofKind_shr _ _ _ _ h1
  split at h
  · cases h
  · obtain ⟨s, r1, h1, h⟩ := R.bind_eq_ok h
    cases h; have := must_len _ _ _ h1; simp at this; omega
  · obtain ⟨_, r2, h2, h⟩ := R.bind_eq_ok h
    obtain ⟨v, r3, h3, h⟩ := R.bind_eq_ok h
    obtain ⟨_, r4, h4, h⟩ := R.bind_eq_ok h
    cases h
    have := must_len _ _ _ h2
    have := ofKind_shr 1 _ _ _ h3
    have := must_len _ _ _ h4
    simp at *; omega
theorem eat_element {g : Group} (hg : groupOk g = true) {l r : List Word} (h : l.map kt = tG g) : pElement (l ++ r) = .ok g r := by
  obtain ⟨k, cs, ss⟩ := g
  unfold tG at h
  unfold groupOk at hg
  simp only at h hg
  split at h
  · rename_i hk
    rw [if_pos hk] at hg
    subst hk
    simp only [named, Bool.and_eq_true, decide_eq_true_eq, List.isEmpty_iff] at hg
    obtain ⟨rfl, ⟨⟨h1, h2⟩, h3⟩⟩ := hg
    obtain ⟨s, rfl⟩ : ∃ s, cs = [s] := by
      cases cs with
      | nil => simp at h1
      | cons a l => cases l with
        | nil => exact ⟨a, rfl⟩
        | cons => simp at h2
    obtain ⟨w, l', rfl, hw, h⟩ := kt_cons h
    cases kt_nil h
    unfold pElement pName
    rw [List.cons_append, if_pos (hKind_kt hw), ofKind_kt hw, R.bind_ok]; rfl
  rename_i k1
  rw [if_neg k1] at hg
  split at h
  · rename_i hk
    subst hk
    rw [if_pos (.inl rfl)] at hg
    simp only [named, Bool.and_eq_true, decide_eq_true_eq, List.isEmpty_iff] at hg
    obtain ⟨rfl, ⟨⟨h1, h2⟩, h3⟩⟩ := hg
    obtain ⟨s, ns, rfl⟩ : ∃ s ns, cs = s :: ns := by
      cases cs with
      | nil => simp at h1
      | cons a l => exact ⟨a, l, rfl⟩
    obtain ⟨w, l', rfl, hw, h⟩ := kt_cons h
    have hwh : which [([82, 79, 76, 76, 85, 80] : List UInt8), ([67, 85, 66, 69] : List UInt8), ([71, 82, 79, 85, 80, 73, 78, 71] : List UInt8)] (w :: l' ++ r) = some 0 := by simp only [List.cons_append, which, isH_kt _ hw]; rfl
    unfold pElement
    rw [if_neg (by rw [List.cons_append, hKind_kt hw]; decide), hwh]
    simp only [List.cons_append, List.drop_one, List.tail_cons]
    rw [eat_names h, R.bind_ok]
  rename_i k2
  split at h
  · rename_i hk
    subst hk
    rw [if_pos (.inr rfl)] at hg
    simp only [named, Bool.and_eq_true, decide_eq_true_eq, List.isEmpty_iff] at hg
    obtain ⟨rfl, ⟨⟨h1, h2⟩, h3⟩⟩ := hg
    obtain ⟨s, ns, rfl⟩ : ∃ s ns, cs = s :: ns := by
      cases cs with
      | nil => simp at h1
      | cons a l => exact ⟨a, l, rfl⟩
    obtain ⟨w, l', rfl, hw, h⟩ := kt_cons h
    have hwh : which [([82, 79, 76, 76, 85, 80] : List UInt8), ([67, 85, 66, 69] : List UInt8), ([71, 82, 79, 85, 80, 73, 78, 71] : List UInt8)] (w :: l' ++ r) = some 1 := by simp only [List.cons_append, which, isH_kt _ hw]; rfl
    unfold pElement
    rw [if_neg (by rw [List.cons_append, hKind_kt hw]; decide), hwh]
    simp only [List.cons_append, List.drop_one, List.tail_cons]
    rw [eat_names h, R.bind_ok]
  rename_i k3
  rw [if_neg (by omega)] at hg
  split at hg
  case isFalse => cases hg
  rename_i hk
  subst hk
  simp only [Bool.and_eq_true, decide_eq_true_eq, List.isEmpty_iff, List.all_eq_true] at hg
  obtain ⟨⟨⟨rfl, h1⟩, h2⟩, h3⟩ := hg
  obtain ⟨s, ns, rfl⟩ : ∃ s ns, ss = s :: ns := by
    cases ss with
    | nil => simp at h1
    | cons a l => exact ⟨a, l, rfl⟩
  obtain ⟨w, l1, rfl, hw, h⟩ := kt_cons h
  obtain ⟨w2, l2, rfl, hw2, h⟩ := kt_cons h
  obtain ⟨w3, l3, rfl, hw3, h⟩ := kt_cons h
  obtain ⟨ld, le, rfl, hd, he⟩ := kt_app h
  obtain ⟨w4, lf, rfl, hw4, hf⟩ := kt_cons he
  cases kt_nil hf
  have hwh : which [([82, 79, 76, 76, 85, 80] : List UInt8), ([67, 85, 66, 69] : List UInt8), ([71, 82, 79, 85, 80, 73, 78, 71] : List UInt8)] (w :: w2 :: w3 :: (ld ++ [w4]) ++ r) = some 2 := by simp only [List.cons_append, which, isH_kt _ hw]; rfl
  have e := eat_several pSet_shr tL ns s (fun y hy l r hl => eat_set (h3 y hy) hl) ld (w4 :: r) hd (by rw [isH_kt _ hw4]; rfl)
  unfold pElement
  rw [if_neg (by rw [List.cons_append, hKind_kt hw]; decide), hwh]
  simp only [List.cons_append, List.drop_one, List.tail_cons]
  rw [must_cons hw2 (.inl rfl), must_cons hw3 (.inr rfl), must_nil, R.bind_ok, List.append_assoc, List.singleton_append, e, R.bind_ok, must_cons hw4 (.inr rfl), must_nil, R.bind_ok]
theorem eat_query {q : Query} (H : Rt0 q) (h64 : C64 q.Where) {ws : List Word} (hw : ws.map kt = tQ q) (e : Word) (he : e.Kind = 6) : pQuery (ws ++ [e]) = .ok q [] := by
  obtain ⟨items, table, wh, gd, gs⟩ := q
  obtain ⟨h1, h2, h5, h6, h7, h8⟩ := H
  simp only at h1 h2 h5 h6 h7 h8 h64
  have isE : ∀ s, isH s [e] = false := fun s => by simp [isH, isW, he]
  obtain ⟨x, xs, rfl⟩ : ∃ x xs, items = x :: xs := by
    cases items with
    | nil => simp at h2
    | cons a l => exact ⟨a, l, rfl⟩
  obtain ⟨w, l1, rfl, hws, hh⟩ := kt_cons hw
  obtain ⟨l2, l3, rfl, hi, hh⟩ := kt_app hh
  obtain ⟨w2, l4, rfl, hw2, hh⟩ := kt_cons hh
  obtain ⟨w3, l5, rfl, hw3, hh⟩ := kt_cons hh
  obtain ⟨l6, l7, rfl, hc, hg⟩ := kt_app hh
  have E1 := eat_several pItem_shr tI xs x (fun y hy l r hl => eat_item (h6 y hy) hl) l2 (w2 :: w3 :: (l6 ++ (l7 ++ [e]))) hi (by rw [isH_kt _ hw2]; rfl)
  have hgs : gd = false → gs = [] := by
    intro hf; rw [hf] at h5
    simpa using h5.symm
  have E3 : pGroups (l7 ++ [e]) = .ok (gd, gs) [e] := by
    cases gd with
    | false =>
      cases kt_nil hg
      rw [hgs rfl]
      unfold pGroups
      simp [isE]
    | true =>
      obtain ⟨g, gs', rfl⟩ : ∃ g gs', gs = g :: gs' := by
        cases gs with
        | nil => simp at h5
        | cons a l => exact ⟨a, l, rfl⟩
      obtain ⟨w4, l8, rfl, hw4, hg⟩ := kt_cons hg
      obtain ⟨w5, l9, rfl, hw5, hg⟩ := kt_cons hg
      have E := eat_several pElement_shr tG gs' g (fun y hy l r hl => eat_element (h7 y hy) hl) l9 [e] hg (isE _)
      unfold pGroups
      rw [if_pos (by rw [List.cons_append, isH_kt _ hw4]; rfl)]
      simp only [List.cons_append, List.drop_one, List.tail_cons]
      rw [must_cons hw5 (.inl rfl), must_nil, R.bind_ok, E, R.bind_ok]
  have hnext : ∀ s, s ≠ ([71, 82, 79, 85, 80] : List UInt8) → isH s (l7 ++ [e]) = false := by
    intro s hs
    cases gd with
    | false => cases kt_nil hg; exact isE s
    | true =>
      obtain ⟨w4, l8, rfl, hw4, hg⟩ := kt_cons hg
      rw [List.cons_append, isH_kt _ hw4]
      simp only [Bool.and_eq_false_imp]
      intro _
      simpa using Ne.symm hs
  have E2 : pWhere (l6 ++ (l7 ++ [e])) = .ok wh (l7 ++ [e]) := by
    rw [pWhere_eq]
    cases hn : wh.isNil with
    | true =>
      simp only [hn, if_true] at hc
      cases kt_nil hc
      rw [List.nil_append, hnext _ (by decide), isNil_eq hn]; rfl
    | false =>
      simp only [hn, Bool.false_eq_true, if_false] at hc
      obtain ⟨w4, l8, rfl, hw4, hc⟩ := kt_cons hc
      rw [if_pos (by rw [List.cons_append, isH_kt _ hw4]; rfl), List.cons_append, List.drop_one, List.tail_cons]
      rw [(eat_cond wh h8 h64 hn).2.2 l8 (l7 ++ [e]) hc (hnext _ (by decide)), crO_stop (hnext _ (by decide))]
  unfold pQuery pName
  simp only [List.cons_append, List.append_assoc]
  rw [must_cons hws (.inl rfl), must_nil, R.bind_ok, E1, R.bind_ok, must_cons hw2 (.inl rfl), must_nil, R.bind_ok, ofKind_kt hw3, R.bind_ok, E2, R.bind_ok, E3, R.bind_ok]
  rw [ofKind_cons, if_pos he, R.bind_ok]
theorem manyV_ok : ∀ (c : CondT), nodesOk c = true → manyV c = false
  | .nil, _ => rfl
  | .mk k l r c o vs, h => by
    simp only [nodesOk, Bool.and_eq_true] at h
    have hn := (nodeOk_cases h.1.1).2
    have hv : vs.length ≤ 64 := by
      rcases hn with ⟨_, _, _, rfl, _⟩ | ⟨_, _, _, rfl, _⟩ | ⟨_, _, _, _, ⟨v, rfl⟩, _⟩ | ⟨_, _, _, _, _, h4, _⟩
      · simp
      · simp
      · simp
      · exact h4
    simp only [manyV, manyV_ok l h.1.2, manyV_ok r h.2, Bool.or_false, decide_eq_false_iff_not]
    omega
theorem few_of_right {q : Query} (h : right q = true) : few q = true := by
  have H := (right_iff q).1 h
  unfold few
  simp only [Bool.and_eq_true, List.all_eq_true, decide_eq_true_eq, Bool.not_eq_true']
  refine ⟨⟨⟨fun g hg => ?_, H.items⟩, H.groups⟩, manyV_ok _ H.nodes⟩
  have := H.group g hg
  unfold groupOk at this
  split at this
  · simp only [named, Bool.and_eq_true, decide_eq_true_eq, List.isEmpty_iff] at this
    obtain ⟨h1, ⟨h2, h3⟩, h4⟩ := this
    rw [h1]; exact ⟨⟨by omega, by simp⟩, by simp⟩
  split at this
  · simp only [named, Bool.and_eq_true, decide_eq_true_eq, List.isEmpty_iff] at this
    obtain ⟨h1, ⟨h2, h3⟩, h4⟩ := this
    rw [h1]; exact ⟨⟨by omega, by simp⟩, by simp⟩
  split at this
  · simp only [Bool.and_eq_true, decide_eq_true_eq, List.isEmpty_iff, List.all_eq_true] at this
    obtain ⟨⟨⟨h1, h2⟩, h3⟩, h4⟩ := this
    rw [h1]
    refine ⟨⟨by simp, h3⟩, fun s hs => ?_⟩
    have := h4 s hs
    simp only [named, Bool.and_eq_true, decide_eq_true_eq] at this
    exact this.1.2
  · cases this
theorem parse_text {q : Query} (h : right q = true) (h64 : C64 q.Where) (hl : (text q).length ≤ 4096) : parse (text q) = (q, ⟨0, 0⟩) := by
  obtain ⟨ws, hw, e⟩ := words_text h h64 hl
  unfold parse
  rw [e]
  simp only
  rw [eat_query ((right_iff q).1 h).to0 h64 hw _ rfl]
  simp only [few_of_right h, Bool.not_true, Bool.false_eq_true, if_false]
  rw [if_neg (by have := ((right_iff q).1 h).deep; omega)]
theorem parse_deep {q : Query} (h : Rt0 q) (h64 : C64 q.Where) (hl : (text q).length ≤ 4096) (hf : few q = true) (hd : depth q.Where > 32) : parse (text q) = (zQ, ⟨47, 0⟩) := by
  obtain ⟨ws, hw, e⟩ := words_text0 h h64 hl
  unfold parse
  rw [e]
  simp only
  rw [eat_query h h64 hw _ rfl]
  simp only [hf, Bool.not_true, Bool.false_eq_true, if_false]
  rw [if_pos hd]
end Go.Proofs.Q



set_option linter.unusedVariables false
set_option linter.unusedSimpArgs false
namespace Go.Proofs.Q
open Go.Lib
def WOk (w : Word) : Prop := (w.Kind = 1 → isName w.Text = true) ∧ (w.Kind = 4 → w.Text.length ≤ 64) ∧ (w.Kind = 3 → w.Text ≠ [] ∧ w.Text.length ≤ 19 ∧ ∀ b ∈ w.Text, isD b = true)
def FOk (ws : List Word) (f : Fault) : Prop := (f.Code = 41 ∨ f.Code = 45) ∧ (f.At = 0 ∨ ∃ w ∈ ws, f.At = w.At)
def Out {α : Type} (Q : α → Prop) (ws : List Word) : R α → Prop
  | .ok x r => Q x ∧ r <:+ ws
  | .er f => FOk ws f
  | .out => False
def OKs (ws : List Word) : Prop := ∀ w ∈ ws, WOk w
def Rd {α : Type} (p : List Word → R α) (Q : α → Prop) : Prop := ∀ ws, OKs ws → Out Q ws (p ws)
section
variable {α β : Type} {Q : α → Prop} {Q' : β → Prop}
theorem FOk.of {ws r : List Word} {f : Fault} (h : FOk r f) (hs : r <:+ ws) : FOk ws f := ⟨h.1, h.2.imp id fun ⟨w, hw, e⟩ => ⟨w, hs.subset hw, e⟩⟩
theorem Out.of {ws r : List Word} {x : R α} (h : Out Q r x) (hs : r <:+ ws) : Out Q ws x := by
  cases x with
  | ok x r1 => exact ⟨h.1, h.2.trans hs⟩
  | er f => exact FOk.of h hs
  | out => exact h
theorem out_fail (e : Int) (he : e = 41 ∨ e = 45) (ws : List Word) : Out Q ws (fail e ws) := by
  refine ⟨he, ?_⟩
  cases ws with
  | nil => exact .inl rfl
  | cons w r => exact .inr ⟨w, List.mem_cons_self .., rfl⟩
theorem Out.bind {ws : List Word} {p : R α} {k : α → List Word → R β} (h : Out Q ws p) (hk : ∀ x r, p = .ok x r → Q x → r <:+ ws → Out Q' r (k x r)) : Out Q' ws (p.bind k) := by
  cases p with
  | ok x r => exact (hk x r rfl h.1 h.2).of h.2
  | er f => exact h
  | out => exact h
theorem OKs.suf {ws r : List Word} (h : OKs ws) (hs : r <:+ ws) : OKs r := fun w hw => h w (hs.subset hw)
theorem OKs.drop {ws : List Word} (h : OKs ws) (k : Nat) : OKs (ws.drop k) := h.suf (List.drop_suffix _ _)
theorem Rd.at {p : List Word → R α} (h : Rd p Q) {ws r : List Word} (hw : OKs ws) (hs : r <:+ ws) : Out Q r (p r) := h r (hw.suf hs)
theorem must_rd : ∀ (l : List Bs), Rd (must l) fun _ => True
  | [], ws, _ => ⟨trivial, List.suffix_refl _⟩
  | s :: l, ws, hw => by
    unfold must
    split
    · exact (must_rd l _ (hw.drop 1)).of (List.drop_suffix _ _)
    · exact out_fail 41 (.inl rfl) ws
theorem ofKind_out (k : Int) (Q : Bs → Prop) (hQ : ∀ w, WOk w → w.Kind = k → Q w.Text) : Rd (ofKind k) Q := by
  intro ws hw
  cases ws with
  | nil => exact out_fail 41 (.inl rfl) []
  | cons w t =>
    rw [ofKind_cons]
    split
    · exact ⟨hQ w (hw w (List.mem_cons_self ..)) ‹_›, List.suffix_cons _ _⟩
    · exact out_fail 41 (.inl rfl) _
theorem pName_rd : Rd pName (fun s => isName s = true) := ofKind_out 1 _ fun w h e => h.1 e
theorem sr_rd {p : List Word → R α} (hp : Rd p Q) (hs : Shr p) : ∀ (n : Nat) (ws : List Word), ws.length = n → OKs ws → Out (fun l => ∀ x ∈ l, Q x) ws (sr p ws) := by
  intro n
  induction n using Nat.strongRecOn with
  | _ n ih =>
    intro ws hl hw
    cases hc : isH ([44] : List UInt8) ws with
    | false => rw [sr_stop hc]; exact ⟨by simp, List.suffix_refl _⟩
    | true =>
      rw [sr_comma hs hc, several_eq]
      have h1 := isH_len hc
      refine Out.of (r := ws.drop 1) ?_ (List.drop_suffix _ _)
      refine (hp _ (hw.drop 1)).bind fun x r e hx hr => ?_
      have := hs _ _ _ e
      refine (ih r.length (by simp at this; omega) r rfl ((hw.drop 1).suf hr)).bind fun l r' _ hl _ => ?_
      exact ⟨fun y hy => by
        rcases List.mem_cons.1 hy with rfl | hy
        · exact hx
        · exact hl y hy, List.suffix_refl _⟩
theorem several_rd {p : List Word → R α} (hp : Rd p Q) (hs : Shr p) : Rd (several p) (fun l => l ≠ [] ∧ ∀ x ∈ l, Q x) := by
  intro ws hw
  rw [several_eq]
  refine (hp _ hw).bind fun x r e hx hr => ?_
  refine (sr_rd hp hs _ r rfl (hw.suf hr)).bind fun l r' _ hl _ => ?_
  exact ⟨⟨by simp, fun y hy => by
        rcases List.mem_cons.1 hy with rfl | hy
        · exact hx
        · exact hl y hy⟩, List.suffix_refl _⟩
end
theorem pNames_rd : Rd pNames (fun l => l ≠ [] ∧ ∀ s ∈ l, isName s = true) := by
  intro ws hw
  refine (must_rd _ _ hw).bind fun _ r _ _ hr => ?_
  refine (several_rd pName_rd (ofKind_shr 1) _ (hw.suf hr)).bind fun l r2 _ hl hr2 => ?_
  refine (must_rd _ _ ((hw.suf hr).suf hr2)).bind fun _ r3 _ _ hr3 => ?_
  exact ⟨hl, List.suffix_refl _⟩
theorem which_lt : ∀ (l : List Bs) (ws : List Word) (i : Nat), which l ws = some i → i < l.length
  | [], _, _, h => by cases h
  | s :: l, ws, i, h => by
    unfold which at h
    split at h
    · cases h; simp
    · cases hw : which l ws with
      | none => rw [hw] at h; cases h
      | some j => rw [hw] at h; cases h; have := which_lt l ws j hw; simp; omega
theorem pItem_rd : Rd pItem (fun x => itemOk x = true) := by
  intro ws hw
  unfold pItem
  split
  · refine (pName_rd _ hw).bind fun s r _ hs _ => ?_
    exact ⟨by unfold itemOk; simp [hs], List.suffix_refl _⟩
  split
  · exact out_fail 41 (.inl rfl) ws
  · refine Out.of (r := ws.drop 1) ?_ (List.drop_suffix _ _)
    refine (must_rd _ _ (hw.drop 1)).bind fun _ r _ _ _ => ⟨rfl, List.suffix_refl _⟩
  · rename_i k hk
    have := which_lt _ _ _ hk
    simp only [List.length_cons, List.length_nil] at this
    refine Out.of (r := ws.drop 1) ?_ (List.drop_suffix _ _)
    refine (must_rd _ _ (hw.drop 1)).bind fun _ r _ _ hr => ?_
    have hw2 := (hw.drop 1).suf hr
    refine (pName_rd _ hw2).bind fun s r2 _ hs hr2 => ?_
    refine (must_rd _ _ (hw2.suf hr2)).bind fun _ r3 _ _ _ => ⟨?_, List.suffix_refl _⟩
    show itemOk ⟨2 + ((k + 1 : Nat) : Int), s⟩ = true
    unfold itemOk
    rw [if_neg (by simp only; omega)]
    simp only [hs, Bool.and_true, decide_eq_true_eq]
    omega
theorem parseInt_bounds {l : Bs} {n : Int} (h : parseIntB 64 l = .ok n) : -9223372036854775808 ≤ n ∧ n ≤ 9223372036854775807 := by
  unfold parseIntB at h
  split at h
  · cases h
  · simp only at h
    split at h
    · cases h
    · cases h
    · split at h
      · cases h
      split at h
      · cases h
      rename_i h1 h2
      cases h
      split
      · rename_i h3; simp only [h3, true_and, Nat.not_lt] at h2; omega
      · rename_i h3; simp only [h3, not_false_eq_true, true_and, Nat.not_le] at h1; omega
theorem pNumber_rd (m : Bs) : Rd (pNumber m) (fun v => valueOk v = true ∧ V64 v) := by
  intro ws hw
  cases ws with
  | nil => exact out_fail 41 (.inl rfl) []
  | cons w t =>
    rw [pNumber_cons]
    split
    · split
      · rename_i n hn; exact ⟨⟨rfl, parseInt_bounds hn⟩, List.suffix_cons _ _⟩
      · exact out_fail 45 (.inr rfl) _
    · exact out_fail 41 (.inl rfl) _
theorem pValue_rd : Rd pValue (fun v => valueOk v = true ∧ V64 v) := by
  intro ws hw
  unfold pValue
  split
  · refine (ofKind_out 4 (fun s => s.length ≤ 64) (fun w h e => h.2.1 e) _ hw).bind fun s r _ hs _ => ?_
    exact ⟨⟨by unfold valueOk; simp [hs], by unfold V64; simp⟩, List.suffix_refl _⟩
  split
  · exact Out.of (pNumber_rd _ _ (hw.drop 1)) (List.drop_suffix _ _)
  · exact pNumber_rd _ _ hw
structure CP (c : CondT) : Prop where
  nn : c.isNil = false
  b64 : C64 c
  ok : manyV c = false → nodesOk c = true
theorem CP.leaf {k : Int} {c : Bs} {o : Int} {vs : List Value} (hc : isName c = true) (hk : (k = 4 ∧ vs.length = 1 ∧ 1 ≤ o ∧ o ≤ 6) ∨ (k = 5 ∧ vs ≠ [] ∧ o = 0)) (hv : ∀ v ∈ vs, valueOk v = true ∧ V64 v) : CP (.mk k .nil .nil c o vs) := by
  refine ⟨rfl, ⟨trivial, trivial, fun v hm => (hv v hm).2⟩, fun hm => ?_⟩
  simp only [manyV, Bool.or_false, decide_eq_false_iff_not] at hm
  have hall : vs.all valueOk = true := List.all_eq_true.2 fun v hm => (hv v hm).1
  simp only [nodesOk, nodeOk, hall, Bool.true_and, Bool.and_true]
  rcases hk with ⟨rfl, h1, h2, h3⟩ | ⟨rfl, h1, rfl⟩
  · rw [if_neg (by decide), if_neg (by decide), if_pos rfl]
    simp [leafN, hc, CondT.isNil, h1, h2, h3]
  · rw [if_neg (by decide), if_neg (by decide), if_neg (by decide), if_pos rfl]
    have : 0 < vs.length := by cases vs with
      | nil => exact absurd rfl h1
      | cons => simp
    simp [leafN, hc, CondT.isNil, this]; omega
theorem CP.two {k : Int} {l r : CondT} (hk : k = 1 ∨ k = 2) (hl : CP l) (hr : CP r) : CP (.mk k l r [] 0 []) := by
  refine ⟨rfl, ⟨hl.b64, hr.b64, by simp⟩, fun hm => ?_⟩
  simp only [manyV, Bool.or_eq_false_iff] at hm
  simp only [nodesOk, nodeOk, hl.ok hm.1.2, hr.ok hm.2, List.all_nil, Bool.true_and, Bool.and_true]
  rw [if_pos hk]
  simp [plainN, hl.nn, hr.nn]
theorem CP.not {l : CondT} (hl : CP l) : CP (.mk 3 l .nil [] 0 []) := by
  refine ⟨rfl, ⟨hl.b64, trivial, by simp⟩, fun hm => ?_⟩
  simp only [manyV, Bool.or_eq_false_iff] at hm
  simp only [nodesOk, nodeOk, hl.ok hm.1.2, List.all_nil, Bool.true_and, Bool.and_true]
  rw [if_neg (by decide), if_pos True.intro]
  have hn : CondT.nil.isNil = true := rfl
  simp [plainN, hl.nn, hn]
theorem pTest_rd : Rd pTest CP := by
  intro ws hw
  unfold pTest
  refine (pName_rd _ hw).bind fun c r _ hc hr => ?_
  have hw1 := hw.suf hr
  split
  · rename_i i hi
    have := which_lt _ _ _ hi
    simp only [List.length_cons, List.length_nil] at this
    refine Out.of (r := r.drop 1) ?_ (List.drop_suffix _ _)
    refine (pValue_rd _ (hw1.drop 1)).bind fun v r2 _ hv _ => ?_
    exact ⟨CP.leaf hc (.inl ⟨rfl, rfl, by omega, by omega⟩) (by simpa using hv), List.suffix_refl _⟩
  · refine (must_rd _ _ hw1).bind fun _ r2 _ _ hr2 => ?_
    have hw2 := hw1.suf hr2
    refine (several_rd pValue_rd pValue_shr _ hw2).bind fun l r3 _ hl hr3 => ?_
    refine (must_rd _ _ (hw2.suf hr3)).bind fun _ r4 _ _ _ => ?_
    exact ⟨CP.leaf hc (.inr ⟨rfl, hl.1, rfl⟩) hl.2, List.suffix_refl _⟩
def sz (w : Word) : Nat := if w.Kind = 2 ∨ w.Kind = 5 then w.Text.length else 1
def wt (ws : List Word) : Nat := (ws.map sz).sum
theorem wt_cons (w : Word) (ws : List Word) : wt (w :: ws) = sz w + wt ws := rfl
theorem wt_suf {ws r : List Word} (h : r <:+ ws) : wt r ≤ wt ws := by
  obtain ⟨a, rfl⟩ := h
  unfold wt; simp
theorem wt_isH {s : Bs} {ws : List Word} (h : isH s ws = true) : s.length + wt (ws.drop 1) = wt ws := by
  obtain ⟨w, r, rfl, hw⟩ := isH_true h
  unfold isW at hw
  simp only [Bool.and_eq_true, Bool.or_eq_true, beq_iff_eq] at hw
  rw [wt_cons, List.drop_one, List.tail_cons]
  unfold sz
  rw [if_pos hw.1, hw.2]
theorem wt_which : ∀ {l : List Bs} {ws : List Word} {i : Nat}, which l ws = some i → ∃ s ∈ l, s.length + wt (ws.drop 1) = wt ws
  | [], _, _, h => by cases h
  | s :: l, ws, i, h => by
    unfold which at h
    split at h
    · rename_i hs; exact ⟨s, List.mem_cons_self .., wt_isH hs⟩
    · cases hw : which l ws with
      | none => rw [hw] at h; cases h
      | some j => obtain ⟨t, ht, e⟩ := wt_which hw; exact ⟨t, List.mem_cons_of_mem _ ht, e⟩
theorem wt_ofKind {k : Int} (h2 : k ≠ 2) (h5 : k ≠ 5) {ws r : List Word} {x : Bs} (h : ofKind k ws = .ok x r) : 1 + wt r = wt ws := by
  cases ws with
  | nil => cases h
  | cons w t =>
    rw [ofKind_cons] at h
    split at h
    · rename_i hk; cases h; rw [wt_cons]; unfold sz; rw [if_neg (by omega)]
    · cases h
def Wt (M : Nat) (p : List Word → R CondT) : Prop := ∀ ws c r, ws.length < M → OKs ws → p ws = .ok c r → 2 * size c + wt r ≤ wt ws
theorem Out.suf {α : Type} {Q : α → Prop} {ws r : List Word} {p : R α} {x : α} (h : Out Q ws p) (e : p = .ok x r) : r <:+ ws := by rw [e] at h; exact h.2
theorem pTest_wt (M : Nat) : Wt M pTest := by
  intro ws c r _ hw h
  obtain ⟨s, r1, h1, h⟩ := R.bind_eq_ok h
  have a := wt_ofKind (by decide) (by decide) h1
  have s1 := (pName_rd ws hw).suf h1
  have hw1 := hw.suf s1
  split at h
  · rename_i i hi
    obtain ⟨v, r2, h2, h⟩ := R.bind_eq_ok h
    cases h
    obtain ⟨t, ht, e⟩ := wt_which hi
    have hv := wt_suf ((pValue_rd _ (hw1.drop 1)).suf h2)
    have : 1 ≤ t.length := by
      simp only [List.mem_cons, List.not_mem_nil, or_false] at ht
      rcases ht with rfl | rfl | rfl | rfl | rfl | rfl <;> decide
    simp only [size]; omega
  · obtain ⟨_, r2, h2, h⟩ := R.bind_eq_ok h
    obtain ⟨v, r3, h3, h⟩ := R.bind_eq_ok h
    obtain ⟨_, r4, h4, h⟩ := R.bind_eq_ok h
    cases h
    have s2 := (must_rd _ r1 hw1).suf h2
    have hw2 := hw1.suf s2
    have s3 := (several_rd pValue_rd pValue_shr r2 hw2).suf h3
    have s4 := (must_rd _ r3 (hw2.suf s3)).suf h4
    have w3 := wt_suf s3
    have w4 := wt_suf s4
    have w2 : 2 + wt r2 ≤ wt r1 := by
      unfold must at h2
      split at h2
      · rename_i hi
        have e1 := wt_isH hi
        have e2 := wt_suf ((must_rd _ _ (hw1.drop 1)).suf h2)
        have e3 : ([73, 78] : List UInt8).length = 2 := rfl
        rw [e3] at e1; omega
      · cases h2
    simp only [size]; omega
theorem chainRest_wt {k : Int} {s : Bs} (hs : 2 ≤ s.length) {M : Nat} {p : List Word → R CondT} (hp : Wt M p) (hr : Rd p CP) : ∀ (n : Nat) (c : CondT) (ws : List Word) (d : CondT) (r : List Word), ws.length ≤ M → OKs ws → chainRest k s p n c ws = .ok d r → 2 * size d + wt r ≤ 2 * size c + wt ws
  | 0, _, _, _, _, _, _, h => by cases h
  | n + 1, c, ws, d, r, hM, hw, h => by
    unfold chainRest at h
    split at h
    · rename_i hi
      have hl := isH_len hi
      obtain ⟨x, r1, h1, h⟩ := R.bind_eq_ok h
      have a := hp _ _ _ (by simp; omega) (hw.drop 1) h1
      have sf := (hr _ (hw.drop 1)).suf h1
      have sl := sf.length_le
      have b := chainRest_wt hs hp hr n _ _ _ _ (by simp at sl; omega) ((hw.drop 1).suf sf) h
      have e := wt_isH hi
      simp only [size] at b; omega
    · cases h; exact Nat.le_refl _
theorem chain_wt {k : Int} {s : Bs} (hs : 2 ≤ s.length) {M : Nat} {p : List Word → R CondT} (hp : Wt M p) (hr : Rd p CP) : Wt M (chain k s p) := by
  intro ws c r hM hw h
  obtain ⟨x, r1, h1, h⟩ := R.bind_eq_ok h
  have a := hp _ _ _ hM hw h1
  have sf := (hr _ hw).suf h1
  have sl := sf.length_le
  have b := chainRest_wt hs hp hr _ _ _ _ _ (by omega) (hw.suf sf) h
  omega
theorem chainRest_out {k : Int} (hk : k = 1 ∨ k = 2) {s : Bs} {p : List Word → R CondT} (hs : Shr p) (M : Nat) (hp : ∀ ws, ws.length < M → OKs ws → Out CP ws (p ws)) : ∀ (n : Nat) (c : CondT) (ws : List Word), ws.length < n → ws.length ≤ M → OKs ws → CP c → Out CP ws (chainRest k s p n c ws)
  | 0, _, _, h, _, _, _ => by omega
  | n + 1, c, ws, hn, hM, hw, hc => by
    unfold chainRest
    split
    · rename_i hi
      have h1 := isH_len hi
      refine Out.of (r := ws.drop 1) ?_ (List.drop_suffix _ _)
      refine (hp _ (by simp; omega) (hw.drop 1)).bind fun d r e hd hr => ?_
      have := hs _ _ _ e
      simp at this
      exact chainRest_out hk hs M hp n _ r (by omega) (by omega) ((hw.drop 1).suf hr) (CP.two hk hc hd)
    · exact ⟨hc, List.suffix_refl _⟩
theorem chain_out {k : Int} (hk : k = 1 ∨ k = 2) {s : Bs} {p : List Word → R CondT} (hs : Shr p) (M : Nat) (hp : ∀ ws, ws.length < M → OKs ws → Out CP ws (p ws)) (ws : List Word) (hn : ws.length < M) (hw : OKs ws) : Out CP ws (chain k s p ws) := by
  refine (hp ws hn hw).bind fun c r e hc hr => ?_
  have := hs _ _ _ e
  exact chainRest_out hk hs M hp _ _ r (by omega) (by omega) (hw.suf hr) hc
theorem pn_out : ∀ (M : Nat) (ws : List Word), ws.length < M → OKs ws → Out CP ws (pn ws)
  | 0, _, h, _ => by omega
  | M + 1, ws, hM, hw => by
    rw [pn_eq]
    split
    · rename_i h
      have := which_len _ _ _ h
      refine Out.of (r := ws.drop 1) ?_ (List.drop_suffix _ _)
      exact (pn_out M _ (by simp; omega) (hw.drop 1)).bind fun c r _ hc _ => ⟨CP.not hc, List.suffix_refl _⟩
    · rename_i h
      have := which_len _ _ _ h
      refine Out.of (r := ws.drop 1) ?_ (List.drop_suffix _ _)
      have ho : Out CP (ws.drop 1) (po (ws.drop 1)) := chain_out (.inr rfl) pA_shr M (fun t ht hw => chain_out (.inl rfl) pn_shr M (fun u hu hw => pn_out M u hu hw) t ht hw) _ (by simp; omega) (hw.drop 1)
      refine ho.bind fun c r _ hc hr => ?_
      exact (must_rd _ _ ((hw.drop 1).suf hr)).bind fun _ r2 _ _ _ => ⟨hc, List.suffix_refl _⟩
    · exact pTest_rd ws hw
theorem pn_rd : Rd pn CP := fun ws hw => pn_out _ ws (Nat.lt_succ_self _) hw
theorem pA_rd : Rd pA CP := fun ws hw => chain_out (.inl rfl) pn_shr _ (fun u _ hw => pn_rd u hw) ws (Nat.lt_succ_self _) hw
theorem po_rd : Rd po CP := fun ws hw => chain_out (.inr rfl) pA_shr _ (fun u _ hw => pA_rd u hw) ws (Nat.lt_succ_self _) hw
theorem pn_wt : ∀ (M : Nat), Wt M pn
  | 0 => fun ws c r h => by omega
  | M + 1 => by
    intro ws c r hM hw h
    have ih := pn_wt M
    rw [pn_eq] at h
    split at h
    · rename_i hi
      have := which_len _ _ _ hi
      obtain ⟨x, r1, h1, h⟩ := R.bind_eq_ok h
      cases h
      have a := ih _ _ _ (by simp; omega) (hw.drop 1) h1
      have e : 3 + wt (ws.drop 1) = wt ws := by
        unfold which at hi
        split at hi
        · rename_i hi2; exact wt_isH hi2
        · cases hw2 : which [([40] : List UInt8)] ws with
          | none => rw [hw2] at hi; cases hi
          | some j => rw [hw2] at hi; cases hi
      simp only [size]; omega
    · rename_i hi
      have := which_len _ _ _ hi
      obtain ⟨x, r1, h1, h⟩ := R.bind_eq_ok h
      obtain ⟨_, r2, h2, h⟩ := R.bind_eq_ok h
      cases h
      obtain ⟨t, ht, e⟩ := wt_which hi
      have a := chain_wt (k := 2) (s := ([79, 82] : List UInt8)) (by decide) (chain_wt (k := 1) (s := ([65, 78, 68] : List UInt8)) (by decide) ih pn_rd) pA_rd _ _ _ (by simp; omega) (hw.drop 1) h1
      have s1 := (po_rd _ (hw.drop 1)).suf h1
      have b := wt_suf ((must_rd _ _ ((hw.drop 1).suf s1)).suf h2)
      omega
    · exact pTest_wt _ ws c r (Nat.lt_succ_self _) hw h
theorem po_wt (ws : List Word) (c : CondT) (r : List Word) (hw : OKs ws) (h : po ws = .ok c r) : 2 * size c + wt r ≤ wt ws :=
  chain_wt (k := 2) (s := ([79, 82] : List UInt8)) (M := ws.length + 1) (by decide) (chain_wt (k := 1) (s := ([65, 78, 68] : List UInt8)) (by decide) (pn_wt _) pn_rd) pA_rd ws c r (Nat.lt_succ_self _) hw h
theorem pSet_rd : Rd pSet (fun l => ∀ s ∈ l, isName s = true) := by
  intro ws hw
  unfold pSet
  split
  · exact (pName_rd _ hw).bind fun s r _ hs _ => ⟨by simpa using hs, List.suffix_refl _⟩
  split
  · exact ⟨by simp, List.drop_suffix _ _⟩
  · have := pNames_rd ws hw
    cases h : pNames ws with
    | ok x r => rw [h] at this; exact ⟨this.1.2, this.2⟩
    | er f => rw [h] at this; exact this
    | out => rw [h] at this; exact this
def GP (g : Group) : Prop := (g.Kind = 1 ∧ g.Sets = [] ∧ ∃ s, g.Columns = [s] ∧ isName s = true) ∨ ((g.Kind = 2 ∨ g.Kind = 3) ∧ g.Sets = [] ∧ g.Columns ≠ [] ∧ ∀ s ∈ g.Columns, isName s = true) ∨
  (g.Kind = 4 ∧ g.Columns = [] ∧ g.Sets ≠ [] ∧ ∀ l ∈ g.Sets, ∀ s ∈ l, isName s = true)
theorem pElement_rd : Rd pElement GP := by
  intro ws hw
  unfold pElement
  split
  · exact (pName_rd _ hw).bind fun s r _ hs _ => ⟨.inl ⟨rfl, rfl, s, rfl, hs⟩, List.suffix_refl _⟩
  split
  · exact out_fail 41 (.inl rfl) ws
  · refine Out.of (r := ws.drop 1) ?_ (List.drop_suffix _ _)
    exact (pNames_rd _ (hw.drop 1)).bind fun l r _ hl _ => ⟨.inr (.inl ⟨.inl rfl, rfl, hl.1, hl.2⟩), List.suffix_refl _⟩
  · refine Out.of (r := ws.drop 1) ?_ (List.drop_suffix _ _)
    exact (pNames_rd _ (hw.drop 1)).bind fun l r _ hl _ => ⟨.inr (.inl ⟨.inr rfl, rfl, hl.1, hl.2⟩), List.suffix_refl _⟩
  · refine Out.of (r := ws.drop 1) ?_ (List.drop_suffix _ _)
    refine (must_rd _ _ (hw.drop 1)).bind fun _ r _ _ hr => ?_
    have hw2 := (hw.drop 1).suf hr
    refine (several_rd pSet_rd pSet_shr _ hw2).bind fun l r3 _ hl hr3 => ?_
    exact (must_rd _ _ (hw2.suf hr3)).bind fun _ r4 _ _ _ => ⟨.inr (.inr ⟨rfl, rfl, hl.1, hl.2⟩), List.suffix_refl _⟩
theorem pWhere_rd : Rd pWhere (fun c => c = .nil ∨ CP c) := by
  intro ws hw
  rw [pWhere_eq]
  split
  · refine Out.of (r := ws.drop 1) ?_ (List.drop_suffix _ _)
    have := po_rd _ (hw.drop 1)
    cases h : po (ws.drop 1) with
    | ok x r => rw [h] at this; exact ⟨.inr this.1, this.2⟩
    | er f => rw [h] at this; exact this
    | out => rw [h] at this; exact this
  · exact ⟨.inl rfl, List.suffix_refl _⟩
theorem pWhere_wt {ws r : List Word} {c : CondT} (hw : OKs ws) (h : pWhere ws = .ok c r) : 2 * size c + wt r ≤ wt ws := by
  rw [pWhere_eq] at h
  split at h
  · have a := po_wt _ _ _ (hw.drop 1) h
    have b := wt_suf (List.drop_suffix 1 ws)
    omega
  · cases h; simp [size]
theorem pGroups_rd : Rd pGroups (fun g => (g.1 = !g.2.isEmpty) ∧ ∀ x ∈ g.2, GP x) := by
  intro ws hw
  unfold pGroups
  split
  · refine Out.of (r := ws.drop 1) ?_ (List.drop_suffix _ _)
    refine (must_rd _ _ (hw.drop 1)).bind fun _ r _ _ hr => ?_
    refine (several_rd pElement_rd pElement_shr _ ((hw.drop 1).suf hr)).bind fun l r3 _ hl _ => ⟨⟨?_, hl.2⟩, List.suffix_refl _⟩
    cases l with
    | nil => exact absurd rfl hl.1
    | cons => rfl
  · exact ⟨⟨rfl, by simp⟩, List.suffix_refl _⟩
structure QP (ws : List Word) (q : Query) : Prop where
  table : isName q.Table = true
  some : q.Items ≠ []
  grouped : q.Grouped = !q.Groups.isEmpty
  item : ∀ x ∈ q.Items, itemOk x = true
  group : ∀ g ∈ q.Groups, GP g
  cond : q.Where = .nil ∨ CP q.Where
  size : 2 * size q.Where ≤ wt ws
theorem pQuery_rd (ws : List Word) (hw : OKs ws) : Out (QP ws) ws (pQuery ws) := by
  unfold pQuery
  refine (must_rd _ _ hw).bind fun _ r1 _ _ s1 => ?_
  have w1 := hw.suf s1
  refine (several_rd pItem_rd pItem_shr _ w1).bind fun items r2 _ hi s2 => ?_
  have w2 := w1.suf s2
  refine (must_rd _ _ w2).bind fun _ r3 _ _ s3 => ?_
  have w3 := w2.suf s3
  refine (pName_rd _ w3).bind fun t r4 _ ht s4 => ?_
  have w4 := w3.suf s4
  refine (pWhere_rd _ w4).bind fun c r5 e5 hc s5 => ?_
  have w5 := w4.suf s5
  refine (pGroups_rd _ w5).bind fun g r6 _ hg s6 => ?_
  have w6 := w5.suf s6
  refine (ofKind_out 6 (fun _ => True) (fun _ _ _ => trivial) _ w6).bind fun _ r7 _ _ s7 => ?_
  refine ⟨⟨ht, hi.1, hg.1, hi.2, hg.2, hc, ?_⟩, List.suffix_refl _⟩
  have a := pWhere_wt w4 e5
  have b := wt_suf (((s4.trans s3).trans s2).trans s1)
  simp only; omega
theorem group_of {g : Group} (h : GP g) (h1 : g.Columns.length ≤ 16) (h2 : g.Sets.length ≤ 64) (h3 : ∀ s ∈ g.Sets, s.length ≤ 16) : groupOk g = true := by
  obtain ⟨k, cs, ss⟩ := g
  unfold groupOk named
  rcases h with ⟨hk, hs, s, hc, hn⟩ | ⟨hk, hs, hc, hn⟩ | ⟨hk, hc, hs, hn⟩
  · simp only at hk hs hc h1 h2 h3 ⊢
    subst hk; subst hs; subst hc
    simp [hn]
  · simp only at hk hs hc h1 h2 h3 hn ⊢
    subst hs
    have : 1 ≤ cs.length := by cases cs with
      | nil => exact absurd rfl hc
      | cons => simp
    rw [if_neg (by omega), if_pos hk]
    simp only [List.isEmpty_nil, Bool.true_and, Bool.and_eq_true, decide_eq_true_eq, List.all_eq_true]
    exact ⟨⟨this, h1⟩, hn⟩
  · simp only at hk hs hc h1 h2 h3 hn ⊢
    subst hk; subst hc
    have : 0 < ss.length := by cases ss with
      | nil => exact absurd rfl hs
      | cons => simp
    rw [if_neg (by decide), if_neg (by decide), if_pos rfl]
    simp only [List.isEmpty_nil, Bool.true_and, Bool.and_eq_true, decide_eq_true_eq, List.all_eq_true]
    exact ⟨⟨this, h2⟩, fun s hs => ⟨⟨by omega, h3 s hs⟩, hn s hs⟩⟩
theorem right_of {ws : List Word} {q : Query} (h : QP ws q) (hf : few q = true) (hd : depth q.Where ≤ 32) (hws : wt ws ≤ 4097) : right q = true ∧ C64 q.Where := by
  unfold few at hf
  simp only [Bool.and_eq_true, List.all_eq_true, decide_eq_true_eq, Bool.not_eq_true'] at hf
  obtain ⟨⟨⟨f1, f2⟩, f3⟩, f4⟩ := hf
  have hs := h.size
  refine ⟨(right_iff q).2 ⟨h.table, ?_, f2, f3, h.grouped, h.item, fun g hg => group_of (h.group g hg) (f1 g hg).1.1 (f1 g hg).1.2 (f1 g hg).2, ?_, by omega, hd⟩, ?_⟩
  · have := h.some
    cases hi : q.Items with
    | nil => exact absurd hi this
    | cons => simp
  · rcases h.cond with e | e
    · rw [e]; rfl
    · exact e.ok f4
  · rcases h.cond with e | e
    · rw [e]; trivial
    · exact e.b64
theorem caps_len (s : Bs) : (caps s).length = s.length := by simp [caps]
def FL (m : Nat) (f : Fault) : Prop := (f.Code = 40 ∨ f.Code = 45) ∧ 0 ≤ f.At ∧ f.At ≤ (m : Int)
theorem lexStep_ok {p : Nat} {c : UInt8} {t : Bs} {w : Word} {n : Nat} (h : lexStep p c t = .word w n) : WOk w ∧ sz w ≤ n ∧ n ≤ t.length + 1 ∧ w.At = p := by
  have ht : ∀ f : UInt8 → Bool, ((c :: t).takeWhile f).length ≤ t.length + 1 := fun f => by
    have := (List.takeWhile_prefix f (l := c :: t)).length_le
    simpa using this
  have hn1 := lexStep_pos h
  unfold lexStep at h
  split at h
  · cases h
  split at h
  · rename_i h2
    unfold lexLetter at h
    simp only at h
    have hl : isL c = true := isL_of h2
    have hLD : isLD c = true := by unfold isLD; simp [hl]
    split at h
    · cases h; exact ⟨⟨fun e => (by cases e), fun e => (by cases e), fun e => (by cases e)⟩, by unfold sz; rw [if_pos (.inl rfl)]; simp [caps_len], ht _, rfl⟩
    split at h
    · cases h
    · rename_i h3 h4
      cases h
      refine ⟨⟨fun _ => ?_, fun e => (by cases e), fun e => (by cases e)⟩, by unfold sz; rw [if_neg (by simp)]; exact hn1, ht _, rfl⟩
      simp only
      have e : (c :: t).takeWhile isLD = c :: t.takeWhile isLD := by simp [List.takeWhile, hLD]
      rw [e] at h3 h4 ⊢
      simp only [isName, Bool.and_eq_true, decide_eq_true_eq, Bool.not_eq_true']
      refine ⟨⟨⟨by omega, hl⟩, ?_⟩, by simpa using h3⟩
      rw [← e]
      exact List.all_takeWhile
  split at h
  · rename_i h3
    unfold lexDigit at h
    simp only at h
    split at h
    · cases h
    split at h
    · cases h
    split at h
    · cases h
    · rename_i h4 h5 h6
      cases h
      refine ⟨⟨fun e => (by cases e), fun e => (by cases e), fun _ => ⟨?_, ?_, ?_⟩⟩, by unfold sz; rw [if_neg (by simp)]; exact hn1, ht _, rfl⟩
      · intro e; simp only at e; rw [e] at hn1; simp at hn1
      · simp only; omega
      · intro b hb
        exact (List.all_eq_true.1 (List.all_takeWhile (p := isD) (l := c :: t))) b hb
  split at h
  · unfold lexQuote at h
    split at h
    · cases h
    rename_i x k hq
    split at h
    · cases h
    · cases h
      have hk : ∀ (m : Nat) (t : Bs) (x : Bs) (k : Nat), t.length ≤ m → quoted t = some (x, k) → k ≤ t.length := by
        intro m
        induction m with
        | zero => intro t x k hm h; cases t with
          | nil => cases h
          | cons => simp at hm
        | succ m ih =>
          intro t x k hm h
          match t, h with
          | [], h => cases h
          | [c], h => unfold quoted at h; split at h; · cases h; simp
                      · cases h
          | c :: d :: r, h =>
            unfold quoted at h
            split at h
            · split at h
              · cases hq : quoted r with
                | none => rw [hq] at h; cases h
                | some p =>
                  rw [hq] at h; cases h
                  have := ih r p.1 p.2 (by simp at hm; omega) hq
                  simp; omega
              · cases h; simp
            · cases hq : quoted (d :: r) with
              | none => rw [hq] at h; cases h
              | some p =>
                rw [hq] at h; cases h
                have := ih (d :: r) p.1 p.2 (by simp at hm ⊢; omega) hq
                simp at this ⊢; omega
      have := hk _ t x k (Nat.le_refl _) hq
      exact ⟨⟨fun e => (by cases e), fun _ => by simp only; omega, fun e => (by cases e)⟩, by unfold sz; rw [if_neg (by simp)]; omega, by omega, rfl⟩
  split at h
  · cases h
    refine ⟨⟨fun e => (by cases e), fun e => (by cases e), fun e => (by cases e)⟩, by unfold sz; rw [if_pos (.inr rfl)]; simp; omega, ?_, rfl⟩
    unfold signLen
    split
    · simp
    · split <;> simp
  · cases h
theorem lexStep_bad {p : Nat} {c : UInt8} {t : Bs} {f : Fault} (h : lexStep p c t = .bad f) : FL (p + (t.length + 1)) f := by
  have ht : ∀ g : UInt8 → Bool, ((c :: t).takeWhile g).length ≤ t.length + 1 := fun g => by
    have := (List.takeWhile_prefix g (l := c :: t)).length_le
    simpa using this
  unfold lexStep at h
  split at h
  · cases h
  split at h
  · unfold lexLetter at h
    simp only at h
    split at h
    · cases h
    split at h
    · cases h; exact ⟨.inr rfl, by simp only; omega, by simp only; omega⟩
    · cases h
  split at h
  · unfold lexDigit at h
    simp only at h
    split at h
    · cases h; exact ⟨.inl rfl, by simp only; omega, by simp only; omega⟩
    split at h
    · cases h; exact ⟨.inr rfl, by simp only; omega, by simp only; omega⟩
    split at h
    · cases h
      have := ht isD
      exact ⟨.inl rfl, by simp only; omega, by simp only; omega⟩
    · cases h
  split at h
  · unfold lexQuote at h
    split at h
    · cases h; exact ⟨.inl rfl, by simp only; omega, by simp only; omega⟩
    split at h
    · cases h; exact ⟨.inr rfl, by simp only; omega, by simp only; omega⟩
    · cases h
  split at h
  · cases h
  · cases h; exact ⟨.inl rfl, by simp only; omega, by simp only; omega⟩
structure LP (p m : Nat) (ws : List Word) : Prop where
  ok : OKs ws
  wt : wt ws ≤ m + 1
  pl : ∀ w ∈ ws, 0 ≤ w.At ∧ w.At ≤ ((p + m : Nat) : Int)
  fin : ∃ i, ws = i ++ [⟨6, [], (p + m : Nat)⟩] ∧ ∀ w ∈ i, w.Kind ≠ 6
theorem lexStep_kind {p : Nat} {c : UInt8} {t : Bs} {w : Word} {n : Nat} (h : lexStep p c t = .word w n) : w.Kind ≠ 6 := by
  unfold lexStep at h
  split at h
  · cases h
  split at h
  · unfold lexLetter at h
    simp only at h
    split at h
    · cases h; simp
    split at h
    · cases h
    · cases h; simp
  split at h
  · unfold lexDigit at h
    simp only at h
    split at h
    · cases h
    split at h
    · cases h
    split at h
    · cases h
    · cases h; simp
  split at h
  · unfold lexQuote at h
    split at h
    · cases h
    split at h
    · cases h
    · cases h; simp
  split at h
  · cases h; simp
  · cases h
theorem lx_ok : ∀ (n : Nat) (s : Bs) (p : Nat), s.length = n → (∀ ws, lx p s = .ok ws → LP p s.length ws) ∧ (∀ f, lx p s = .er f → FL (p + s.length) f) := by
  intro n
  induction n using Nat.strongRecOn with
  | _ n ih =>
    intro s p hs
    cases s with
    | nil =>
      rw [lx_nil]
      refine ⟨fun ws h => ?_, fun f h => by cases h⟩
      cases h
      refine ⟨fun w hw => ?_, by simp [wt, sz], fun w hw => ?_, [], rfl, by simp⟩
      · simp only [List.mem_singleton] at hw; subst hw
        exact ⟨fun e => (by cases e), fun e => (by cases e), fun e => (by cases e)⟩
      · simp only [List.mem_singleton] at hw; subst hw
        simp
    | cons c t =>
      simp only [List.length_cons] at hs ⊢
      cases hst : lexStep p c t with
      | blank =>
        rw [lx_blank hst]
        have I := ih t.length (by omega) t (p + 1) rfl
        refine ⟨fun ws h => ?_, fun f h => ?_⟩
        · have J := I.1 ws h
          obtain ⟨i, hi, hk⟩ := J.fin
          exact ⟨J.ok, by have := J.wt; omega, fun w hw => by have := J.pl w hw; omega, i, by rw [hi]; congr 4; omega, hk⟩
        · have J := I.2 f h
          exact ⟨J.1, J.2.1, by have := J.2.2; omega⟩
      | bad f =>
        rw [lx_bad hst]
        refine ⟨fun ws h => (by cases h), fun g h => ?_⟩
        cases h
        exact lexStep_bad hst
      | word w k =>
        rw [lx_word hst]
        have K := lexStep_ok hst
        have K1 := lexStep_pos hst
        have K6 := lexStep_kind hst
        have hd : ((c :: t).drop k).length = t.length + 1 - k := by simp
        have I := ih ((c :: t).drop k).length (by omega) ((c :: t).drop k) (p + k) rfl
        rw [hd] at I
        refine ⟨fun ws h => ?_, fun f h => ?_⟩
        · cases hl : lx (p + k) ((c :: t).drop k) with
          | er f => rw [hl] at h; cases h
          | ok l =>
            rw [hl] at h; cases h
            have J := I.1 l hl
            obtain ⟨i, hi, hk⟩ := J.fin
            refine ⟨fun v hv => ?_, ?_, fun v hv => ?_, w :: i, ?_, fun v hv => ?_⟩
            · rcases List.mem_cons.1 hv with rfl | hv
              · exact K.1
              · exact J.ok v hv
            · rw [wt_cons]; have := J.wt; omega
            · rcases List.mem_cons.1 hv with rfl | hv
              · rw [K.2.2.2]; omega
              · have := J.pl v hv; omega
            · rw [hi, List.cons_append]; congr 5; omega
            · rcases List.mem_cons.1 hv with rfl | hv
              · exact K6
              · exact hk v hv
        · cases hl : lx (p + k) ((c :: t).drop k) with
          | ok l => rw [hl] at h; cases h
          | er g =>
            rw [hl] at h; cases h
            have J := I.2 _ hl
            exact ⟨J.1, J.2.1, by have := J.2.2; omega⟩
theorem words_ok {s : Bs} {ws : List Word} (h : words s = .ok ws) : s.length ≤ 4096 ∧ LP 0 s.length ws := by
  unfold words at h
  split at h
  · cases h
  · exact ⟨by omega, (lx_ok _ s 0 rfl).1 ws h⟩
theorem parse_good (s : Bs) : ((parse s).2 = ⟨0, 0⟩ ∧ right (parse s).1 = true ∧ C64 (parse s).1.Where) ∨ ((parse s).1 = zQ ∧ (parse s).2.Code ≠ 0 ∧ 0 ≤ (parse s).2.At ∧ (parse s).2.At ≤ (s.length : Int)) := by
  unfold parse
  cases hl : words s with
  | er f =>
    right
    refine ⟨rfl, ?_⟩
    unfold words at hl
    split at hl
    · cases hl; exact ⟨by decide, by simp, by simp⟩
    · have := (lx_ok _ s 0 rfl).2 f hl
      obtain ⟨h1, h2, h3⟩ := this
      exact ⟨by simp only; omega, h2, by simp only; omega⟩
  | ok ws =>
    obtain ⟨hn, L⟩ := words_ok hl
    have Q := pQuery_rd ws L.ok
    simp only
    cases hq : pQuery ws with
    | out => rw [hq] at Q; exact Q.elim
    | er f =>
      rw [hq] at Q
      right
      obtain ⟨h1, h2⟩ := Q
      refine ⟨rfl, by simp only; omega, ?_⟩
      simp only
      rcases h2 with h2 | ⟨w, hw, h2⟩
      · rw [h2]; simp
      · have := L.pl w hw; rw [h2]; omega
    | ok q r =>
      rw [hq] at Q
      simp only
      cases hf : few q with
      | false => right; exact ⟨rfl, by simp, by simp, by simp⟩
      | true =>
        simp only [Bool.not_true, Bool.false_eq_true, if_false]
        split
        · right; exact ⟨rfl, by simp, by simp, by simp⟩
        · rename_i hd
          left
          exact ⟨rfl, right_of Q.1 hf (Nat.not_lt.1 hd) (by have := L.wt; omega)⟩
end Go.Proofs.Q



set_option linter.unusedVariables false
set_option linter.unusedSimpArgs false
namespace Go.Proofs.Q
open Go.Lib
def rep (w : Bs) : Nat → Bs
  | 0 => []
  | k + 1 => rep w k ++ w
theorem rep_left (w : Bs) : ∀ k, rep w (k + 1) = w ++ rep w k
  | 0 => by simp [rep]
  | k + 1 => by
    show rep w (k + 1) ++ w = w ++ (rep w k ++ w)
    rw [rep_left w k, List.append_assoc]
theorem rep_len (w : Bs) : ∀ k, (rep w k).length = k * w.length
  | 0 => by simp [rep]
  | k + 1 => by rw [rep, List.length_append, rep_len w k, Nat.succ_mul]
def leaf (c : Bs) (n : Int) : CondT := .mk 4 .nil .nil c 1 [⟨false, [], n⟩]
def notC : Nat → CondT
  | 0 => leaf ([98] : List UInt8) 2
  | k + 1 => .mk 3 (notC k) .nil [] 0 []
def lc (kd : Int) : Nat → CondT
  | 0 => leaf ([97] : List UInt8) 1
  | k + 1 => .mk kd (lc kd k) (leaf ([97] : List UInt8) 1) [] 0 []
def chC (kd : Int) : Nat → CondT
  | 0 => leaf ([98] : List UInt8) 2
  | k + 1 => .mk kd (lc kd k) (leaf ([98] : List UInt8) 2) [] 0 []
def deepW (w : Nat) : Bs := if w = 0 then ([78, 79, 84, 32] : List UInt8) else if w = 1 then ([97, 32, 61, 32, 49, 32, 65, 78, 68, 32] : List UInt8) else ([97, 32, 61, 32, 49, 32, 79, 82, 32] : List UInt8)
def deepC (w k : Nat) : CondT := if w = 0 then notC k else if w = 1 then chC 1 k else chC 2 k
def deepQ (w k : Nat) : Query := ⟨[⟨2, []⟩], ([102, 97, 99, 116, 115] : List UInt8), deepC w k, false, []⟩
theorem show_leaf (c : Bs) (n : Int) : showC (leaf c n) = c ++ ([32, 61, 32] : List UInt8) ++ itoa n := by
  unfold leaf
  rw [showC, if_neg (by decide), if_neg (by decide), if_neg (by decide), if_pos rfl]
  simp [opB, showV]
theorem one_dec : itoa 1 = ([49] : List UInt8) := by decide +kernel
theorem two_dec : itoa 2 = ([50] : List UInt8) := by decide +kernel
theorem show_b : showC (leaf ([98] : List UInt8) 2) = ([98, 32, 61, 32, 50] : List UInt8) := by rw [show_leaf, two_dec]; rfl
theorem show_a : showC (leaf ([97] : List UInt8) 1) = ([97, 32, 61, 32, 49] : List UInt8) := by rw [show_leaf, one_dec]; rfl
theorem ck_not : ∀ k, ck (notC k) = 3 ∨ ck (notC k) = 4
  | 0 => .inr rfl
  | k + 1 => .inl rfl
theorem show_not : ∀ k, showC (notC k) = rep ([78, 79, 84, 32] : List UInt8) k ++ ([98, 32, 61, 32, 50] : List UInt8)
  | 0 => show_b
  | k + 1 => by
    have h : (ck (notC k) == 2 || ck (notC k) == 1) = false := by rcases ck_not k with h | h <;> rw [h] <;> rfl
    rw [rep_left, List.append_assoc, ← show_not k]
    show showC (.mk 3 (notC k) .nil [] 0 []) = _
    rw [showC, if_neg (by decide), if_neg (by decide), if_pos rfl, h]; rfl
theorem ck_lc (kd : Int) : ∀ k, ck (lc kd k) = kd ∨ ck (lc kd k) = 4
  | 0 => .inr rfl
  | k + 1 => .inl rfl
theorem show_lc1 : ∀ k, showC (lc 1 k) ++ ([32, 65, 78, 68, 32] : List UInt8) = rep ([97, 32, 61, 32, 49, 32, 65, 78, 68, 32] : List UInt8) (k + 1)
  | 0 => by rw [show lc 1 0 = leaf ([97] : List UInt8) 1 from rfl, show_a]; rfl
  | k + 1 => by
    have h : (ck (lc 1 k) == 2) = false := by rcases ck_lc 1 k with h | h <;> rw [h] <;> rfl
    rw [rep, ← show_lc1 k]
    show showC (.mk 1 (lc 1 k) (leaf ([97] : List UInt8) 1) [] 0 []) ++ _ = _
    rw [showC, if_pos rfl, h, show_a]
    simp [par, leaf, ck]
theorem show_lc2 : ∀ k, showC (lc 2 k) ++ ([32, 79, 82, 32] : List UInt8) = rep ([97, 32, 61, 32, 49, 32, 79, 82, 32] : List UInt8) (k + 1)
  | 0 => by rw [show lc 2 0 = leaf ([97] : List UInt8) 1 from rfl, show_a]; rfl
  | k + 1 => by
    rw [rep, ← show_lc2 k]
    show showC (.mk 2 (lc 2 k) (leaf ([97] : List UInt8) 1) [] 0 []) ++ _ = _
    rw [showC, if_neg (by decide), if_pos rfl, show_a]
    simp [par, leaf, ck]
theorem show_deep (w k : Nat) : showC (deepC w k) = rep (deepW w) k ++ ([98, 32, 61, 32, 50] : List UInt8) := by
  unfold deepC deepW
  split
  · exact show_not k
  split
  · cases k with
    | zero => exact show_b
    | succ k =>
      have h : (ck (lc 1 k) == 2) = false := by rcases ck_lc 1 k with h | h <;> rw [h] <;> rfl
      show showC (.mk 1 (lc 1 k) (leaf ([98] : List UInt8) 2) [] 0 []) = _
      rw [showC, if_pos rfl, h, show_b, ← show_lc1 k]
      simp [par, leaf, ck]
  · cases k with
    | zero => exact show_b
    | succ k =>
      show showC (.mk 2 (lc 2 k) (leaf ([98] : List UInt8) 2) [] 0 []) = _
      rw [showC, if_neg (by decide), if_pos rfl, show_b, ← show_lc2 k]
      simp [par, leaf, ck]
theorem leaf_ok (c : Bs) (n : Int) (hc : isName c = true) : nodesOk (leaf c n) = true := by
  simp [leaf, nodesOk, nodeOk, leafN, hc, valueOk, CondT.isNil]
theorem leaf_64 (c : Bs) (n : Int) (h : -9223372036854775808 ≤ n ∧ n ≤ 9223372036854775807) : C64 (leaf c n) := ⟨trivial, trivial, by intro v hv; simp only [List.mem_singleton] at hv; subst hv; exact h⟩
structure Fine (c : CondT) (d : Nat) : Prop where
  ok : nodesOk c = true
  b64 : C64 c
  nn : c.isNil = false
  many : manyV c = false
  dp : depth c = d
  sz : size c + 1 ≤ 2 * d
theorem fine_leaf (c : Bs) (n : Int) (hc : isName c = true) (h : -9223372036854775808 ≤ n ∧ n ≤ 9223372036854775807) : Fine (leaf c n) 1 := ⟨leaf_ok c n hc, leaf_64 c n h, rfl, rfl, rfl, by simp [leaf, size]⟩
theorem fine_not : ∀ k, Fine (notC k) (k + 1)
  | 0 => fine_leaf _ _ (by decide) (by decide)
  | k + 1 => by
    have h := fine_not k
    refine ⟨?_, ⟨h.b64, trivial, by simp⟩, rfl, ?_, ?_, ?_⟩
    · show nodesOk (.mk 3 (notC k) .nil [] 0 []) = true
      simp [nodesOk, nodeOk, plainN, h.ok, h.nn, show CondT.nil.isNil = true from rfl]
    · show manyV (.mk 3 (notC k) .nil [] 0 []) = false
      simp [manyV, h.many]
    · show depth (.mk 3 (notC k) .nil [] 0 []) = _
      simp [depth, h.dp]
    · show size (.mk 3 (notC k) .nil [] 0 []) + 1 ≤ _
      have := h.sz
      simp [size]; omega
theorem fine_two {kd : Int} (hk : kd = 1 ∨ kd = 2) {l r : CondT} {d : Nat} (hl : Fine l d) (hr : Fine r 1) (hd : 1 ≤ d) : Fine (.mk kd l r [] 0 []) (d + 1) := by
  refine ⟨?_, ⟨hl.b64, hr.b64, by simp⟩, rfl, ?_, ?_, ?_⟩
  · simp only [nodesOk, nodeOk, hl.ok, hr.ok, List.all_nil, Bool.true_and, Bool.and_true]
    rw [if_pos hk]
    simp [plainN, hl.nn, hr.nn]
  · simp [manyV, hl.many, hr.many]
  · simp only [depth, hl.dp, hr.dp]; omega
  · have := hl.sz
    have := hr.sz
    simp only [size]; omega
theorem fine_lc {kd : Int} (hk : kd = 1 ∨ kd = 2) : ∀ k, Fine (lc kd k) (k + 1)
  | 0 => fine_leaf _ _ (by decide) (by decide)
  | k + 1 => fine_two hk (fine_lc hk k) (fine_leaf _ _ (by decide) (by decide)) (by omega)
theorem fine_ch {kd : Int} (hk : kd = 1 ∨ kd = 2) : ∀ k, Fine (chC kd k) (k + 1)
  | 0 => fine_leaf _ _ (by decide) (by decide)
  | k + 1 => fine_two hk (fine_lc hk k) (fine_leaf _ _ (by decide) (by decide)) (by omega)
theorem fine_deep (w k : Nat) : Fine (deepC w k) (k + 1) := by
  unfold deepC
  split
  · exact fine_not k
  split
  · exact fine_ch (.inl rfl) k
  · exact fine_ch (.inr rfl) k
def deepS (w k : Nat) : Bs := ([83, 69, 76, 69, 67, 84, 32, 67, 79, 85, 78, 84, 40, 42, 41, 32, 70, 82, 79, 77, 32, 102, 97, 99, 116, 115, 32, 87, 72, 69, 82, 69, 32] : List UInt8) ++ rep (deepW w) k
theorem text_deep (w k : Nat) : deepS w k ++ ([98, 32, 61, 32, 50] : List UInt8) = text (deepQ w k) := by
  have F := fine_deep w k
  unfold text deepQ deepS
  simp only [F.nn, Bool.false_eq_true, if_false, show_deep]
  simp [showI, join]
theorem deepW_len (w : Nat) : (deepW w).length ≤ 10 := by
  unfold deepW; split; · decide
  split <;> decide
theorem deepS_len (w k : Nat) (hk : k ≤ 60) : (deepS w k).length ≤ 700 := by
  unfold deepS
  rw [List.length_append, rep_len]
  have h := deepW_len w
  have : k * (deepW w).length ≤ 60 * 10 := Nat.mul_le_mul hk h
  simp; omega
theorem deep_rt (w k : Nat) : Rt0 (deepQ w k) :=
  ⟨(by decide : isName ([102, 97, 99, 116, 115] : List UInt8) = true), by simp [deepQ], rfl, by simp [deepQ, itemOk], by simp [deepQ], (fine_deep w k).ok⟩
theorem deep_few (w k : Nat) : few (deepQ w k) = true := by
  have F := fine_deep w k
  unfold few deepQ
  simp [F.many]
theorem deep_parse (w k : Nat) (hk : k ≤ 60) : parse (deepS w k ++ ([98, 32, 61, 32, 50] : List UInt8)) = if k + 1 > 32 then (zQ, ⟨47, 0⟩) else (deepQ w k, ⟨0, 0⟩) := by
  have F := fine_deep w k
  have hl := deepS_len w k hk
  have hl2 : (text (deepQ w k)).length ≤ 4096 := by rw [← text_deep, List.length_append]; simp; omega
  rw [text_deep]
  split
  · rename_i h
    exact parse_deep (deep_rt w k) F.b64 hl2 (deep_few w k) (by show depth (deepC w k) > 32; rw [F.dp]; exact h)
  · rename_i h
    refine parse_text ((right_iff _).2 ?_) F.b64 hl2
    have R := deep_rt w k
    refine ⟨R.table, R.some, by simp [deepQ], by simp [deepQ], R.grouped, R.item, R.group, R.nodes, ?_, ?_⟩
    · show size (deepC w k) ≤ 2048
      have := F.sz; omega
    · show depth (deepC w k) ≤ 32
      rw [F.dp]; omega
end Go.Proofs.Q

