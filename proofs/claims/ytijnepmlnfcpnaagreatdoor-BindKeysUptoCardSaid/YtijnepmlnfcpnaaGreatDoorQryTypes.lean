/-
  QUERY: the types of words, queries and what belongs to them, as plain structures (as wip/tools/tg.py prints them).
-/

set_option linter.unusedVariables false
set_option linter.unusedSimpArgs false
namespace Go.Proofs.Q
structure Value where
  IsText : Bool
  Text : (List UInt8)
  Int : Int
deriving DecidableEq
instance : Inhabited Value := ⟨⟨false, [], 0⟩⟩
inductive CondT where
  | nil
  | mk (Kind : Int) (Left : CondT) (Right : CondT) (Column : (List UInt8)) (Op : Int) (Values : (List Value))
instance : Inhabited CondT := ⟨.nil⟩
structure Cond where
  Kind : Int
  Left : CondT
  Right : CondT
  Column : (List UInt8)
  Op : Int
  Values : (List Value)
instance : Inhabited Cond := ⟨⟨0, default, default, [], 0, []⟩⟩
def CondT.get : CondT → Option Cond
  | .nil => none
  | .mk a0 a1 a2 a3 a4 a5 => some ⟨a0, a1, a2, a3, a4, a5⟩
def CondT.isNil : CondT → Bool
  | .nil => true
  | .mk _ _ _ _ _ _ => false
structure Fault where
  Code : Int
  At : Int
deriving DecidableEq
instance : Inhabited Fault := ⟨⟨0, 0⟩⟩
structure Group where
  Kind : Int
  Columns : (List (List UInt8))
  Sets : (List (List (List UInt8)))
deriving DecidableEq
instance : Inhabited Group := ⟨⟨0, [], []⟩⟩
structure Item where
  Kind : Int
  Column : (List UInt8)
deriving DecidableEq
instance : Inhabited Item := ⟨⟨0, []⟩⟩
structure Query where
  Items : (List Item)
  Table : (List UInt8)
  Where : CondT
  Grouped : Bool
  Groups : (List Group)
instance : Inhabited Query := ⟨⟨[], [], default, false, []⟩⟩
structure Word where
  Kind : Int
  Text : (List UInt8)
  At : Int
deriving DecidableEq
instance : Inhabited Word := ⟨⟨0, [], 0⟩⟩
structure Reader where
  words : (List Word)
  at_ : Int
instance : Inhabited Reader := ⟨⟨[], 0⟩⟩
end Go.Proofs.Q
