/-
  PARSE (Sa): types (printed by wip/tools/tg.py).
-/
import Derived.Test.YthfbbjoaidajfaaGreatDoorParCfg
set_option linter.unusedVariables false
set_option linter.unusedSimpArgs false
set_option linter.unusedSimpArgs false
set_option linter.unusedVariables false
set_option maxRecDepth 100000
namespace Go.Proofs.Par
open Go Go.Am Go.Proofs
structure Value where
  IsText : Bool
  Text : (List UInt8)
  Int : Int
instance : Inhabited Value := ⟨⟨false, [], 0⟩⟩
def rValue (x : Value) (c : List AVal) : Prop := c = [.bool x.IsText, .str x.Text, .int .i64 x.Int]
theorem rValue_p : Rp rValue 3 := by
  refine ⟨?_, ?_, ?_, ?_⟩
  · intro x c h; rw [h]; rfl
  · intro x c h
    rw [h]
    rfl
  · intro x c h
    rw [h]
    rfl
  · intro x c h
    rw [h]
    rfl
inductive CondT where
  | nil
  | mk (Kind : Int) (Left : CondT) (Right : CondT) (Column : (List UInt8)) (Op : Int) (Values : (List Value))
instance : Inhabited CondT := ⟨.nil⟩
structure Cond where
  Kind : Int
  Left : CondT
  Right : CondT
  Column : (List UInt8)
  Op : Int
  Values : (List Value)
instance : Inhabited Cond := ⟨⟨0, default, default, [], 0, []⟩⟩
def CondT.get : CondT → Option Cond
  | .nil => none
  | .mk a0 a1 a2 a3 a4 a5 => some ⟨a0, a1, a2, a3, a4, a5⟩
def rCondT : CondT → List AVal → Prop
  | .nil, c => c = [.nilPtr]
  | .mk a0 a1 a2 a3 a4 a5, c => ∃ v0 v1 v2, c = [.iptr [.int .i64 a0, v0, v1, .str a3, .int .i64 a4, v2]] ∧ rCondT a1 [v0] ∧ rCondT a2 [v1] ∧ Sl rValue a5 v2
theorem rCondT_ref : ∀ (x : CondT) (c : List AVal), rCondT x c → refsL c = [] := by
  intro x
  induction x with
  | nil => intro c h; rw [h]; rfl
  | mk a0 a1 a2 a3 a4 a5 ih0 ih1 =>
    intro c h
    obtain ⟨v0, v1, v2, rfl, h0, h1, h2⟩ := h
    have g0 := ih0 _ h0
    have g1 := ih1 _ h1
    have g2 := (rSl_p rValue_p).ref _ _ ⟨_, rfl, h2⟩
    simp only [refsL, refs, List.append_nil] at g0 g1 g2 ⊢
    simp only [g0, g1, g2, List.append_nil]
theorem rCondT_str : ∀ (x : CondT) (c : List AVal), rCondT x c → rCondT x (stripL c) := by
  intro x
  induction x with
  | nil => intro c h; rw [h]; rfl
  | mk a0 a1 a2 a3 a4 a5 ih0 ih1 =>
    intro c h
    obtain ⟨v0, v1, v2, rfl, h0, h1, h2⟩ := h
    exact ⟨_, _, _, rfl, ih0 _ h0, ih1 _ h1, h2.strip rValue_p⟩
theorem rCondT_p : Rp rCondT 1 := by
  refine ⟨?_, rCondT_ref, ?_, rCondT_str⟩
  · intro x c h
    cases x with
    | nil => rw [h]; rfl
    | mk a0 a1 a2 a3 a4 a5 => obtain ⟨v0, v1, v2, rfl, h0, h1, h2⟩ := h; rfl
  · intro x c h
    cases x with
    | nil => rw [h]; rfl
    | mk a0 a1 a2 a3 a4 a5 => obtain ⟨v0, v1, v2, rfl, h0, h1, h2⟩ := h; rfl
theorem rCondT_get {x : CondT} {v : AVal} {n : Cond} (h : rCondT x [v]) (hg : x.get = some n) : ∃ v0 v1 v2, v = .iptr [.int .i64 n.Kind, v0, v1, .str n.Column, .int .i64 n.Op, v2] ∧ rCondT n.Left [v0] ∧ rCondT n.Right [v1] ∧ Sl rValue n.Values v2 := by
  cases x with
  | nil => cases hg
  | mk a0 a1 a2 a3 a4 a5 =>
    cases hg
    obtain ⟨v0, v1, v2, hc, h0, h1, h2⟩ := h
    exact ⟨v0, v1, v2, (List.cons.inj hc).1, h0, h1, h2⟩
def CondT.isNil : CondT → Bool
  | .nil => true
  | .mk _ _ _ _ _ _ => false
theorem rCondT_nil {x : CondT} {v : AVal} (h : rCondT x [v]) : (x.isNil = true ∧ v = .nilPtr) ∨ (x.isNil = false ∧ ∃ cs, v = .iptr cs) := by
  cases x with
  | nil => exact .inl ⟨rfl, (List.cons.inj h).1⟩
  | mk a0 a1 a2 a3 a4 a5 =>
    obtain ⟨v0, v1, v2, hc, h0, h1, h2⟩ := h
    exact .inr ⟨rfl, _, (List.cons.inj hc).1⟩
theorem rCondT_cell {x : CondT} {v : AVal} (h : rCondT x [v]) : v.isCell = true := by
  have := rCondT_p.cell _ _ h
  simpa using this
def rCond (x : Cond) (c : List AVal) : Prop := ∃ v0 v1 v2, c = [.int .i64 x.Kind, v0, v1, .str x.Column, .int .i64 x.Op, v2] ∧ rCondT x.Left [v0] ∧ rCondT x.Right [v1] ∧ Sl rValue x.Values v2
theorem rCond_p : Rp rCond 6 := by
  refine ⟨?_, ?_, ?_, ?_⟩
  · intro x c h; obtain ⟨v0, v1, v2, rfl, h0, h1, h2⟩ := h; rfl
  · intro x c h
    obtain ⟨v0, v1, v2, rfl, h0, h1, h2⟩ := h
    have g0 := rCondT_p.ref _ _ h0
    have g1 := rCondT_p.ref _ _ h1
    have g2 := (rSl_p rValue_p).ref _ _ ⟨_, rfl, h2⟩
    simp only [refsL, refs, List.append_nil] at g0 g1 g2 ⊢
    simp only [g0, g1, g2, List.append_nil]
  · intro x c h
    obtain ⟨v0, v1, v2, rfl, h0, h1, h2⟩ := h
    have g0 := rCondT_cell h0
    have g1 := rCondT_cell h1
    have g2 := h2.isCell
    simp only [List.all_cons, List.all_nil, g0, g1, g2, c_i, c_b, c_s, Bool.and_self, Bool.and_true]
  · intro x c h
    obtain ⟨v0, v1, v2, rfl, h0, h1, h2⟩ := h
    exact ⟨_, _, _, rfl, rCondT_p.str _ _ h0, rCondT_p.str _ _ h1, h2.strip rValue_p⟩
structure Fault where
  Code : Int
  At : Int
instance : Inhabited Fault := ⟨⟨0, 0⟩⟩
def rFault (x : Fault) (c : List AVal) : Prop := c = [.int .i64 x.Code, .int .i64 x.At]
theorem rFault_p : Rp rFault 2 := by
  refine ⟨?_, ?_, ?_, ?_⟩
  · intro x c h; rw [h]; rfl
  · intro x c h
    rw [h]
    rfl
  · intro x c h
    rw [h]
    rfl
  · intro x c h
    rw [h]
    rfl
structure Group where
  Kind : Int
  Columns : (List (List UInt8))
  Sets : (List (List (List UInt8)))
instance : Inhabited Group := ⟨⟨0, [], []⟩⟩
def rGroup (x : Group) (c : List AVal) : Prop := ∃ v0 v1, c = [.int .i64 x.Kind, v0, v1] ∧ Sl rS x.Columns v0 ∧ Sl (rSl rS) x.Sets v1
theorem rGroup_p : Rp rGroup 3 := by
  refine ⟨?_, ?_, ?_, ?_⟩
  · intro x c h; obtain ⟨v0, v1, rfl, h0, h1⟩ := h; rfl
  · intro x c h
    obtain ⟨v0, v1, rfl, h0, h1⟩ := h
    have g0 := (rSl_p rS_p).ref _ _ ⟨_, rfl, h0⟩
    have g1 := (rSl_p (rSl_p rS_p)).ref _ _ ⟨_, rfl, h1⟩
    simp only [refsL, refs, List.append_nil] at g0 g1 ⊢
    simp only [g0, g1, List.append_nil]
  · intro x c h
    obtain ⟨v0, v1, rfl, h0, h1⟩ := h
    have g0 := h0.isCell
    have g1 := h1.isCell
    simp only [List.all_cons, List.all_nil, g0, g1, c_i, c_b, c_s, Bool.and_self, Bool.and_true]
  · intro x c h
    obtain ⟨v0, v1, rfl, h0, h1⟩ := h
    exact ⟨_, _, rfl, h0.strip rS_p, h1.strip (rSl_p rS_p)⟩
structure Item where
  Kind : Int
  Column : (List UInt8)
instance : Inhabited Item := ⟨⟨0, []⟩⟩
def rItem (x : Item) (c : List AVal) : Prop := c = [.int .i64 x.Kind, .str x.Column]
theorem rItem_p : Rp rItem 2 := by
  refine ⟨?_, ?_, ?_, ?_⟩
  · intro x c h; rw [h]; rfl
  · intro x c h
    rw [h]
    rfl
  · intro x c h
    rw [h]
    rfl
  · intro x c h
    rw [h]
    rfl
structure Left where
  n : Int
instance : Inhabited Left := ⟨⟨0⟩⟩
def rLeft (x : Left) (c : List AVal) : Prop := c = [.int .i64 x.n]
theorem rLeft_p : Rp rLeft 1 := by
  refine ⟨?_, ?_, ?_, ?_⟩
  · intro x c h; rw [h]; rfl
  · intro x c h
    rw [h]
    rfl
  · intro x c h
    rw [h]
    rfl
  · intro x c h
    rw [h]
    rfl
structure Query where
  Items : (List Item)
  Table : (List UInt8)
  Where : CondT
  Grouped : Bool
  Groups : (List Group)
instance : Inhabited Query := ⟨⟨[], [], default, false, []⟩⟩
def rQuery (x : Query) (c : List AVal) : Prop := ∃ v0 v1 v2, c = [v0, .str x.Table, v1, .bool x.Grouped, v2] ∧ Sl rItem x.Items v0 ∧ rCondT x.Where [v1] ∧ Sl rGroup x.Groups v2
theorem rQuery_p : Rp rQuery 5 := by
  refine ⟨?_, ?_, ?_, ?_⟩
  · intro x c h; obtain ⟨v0, v1, v2, rfl, h0, h1, h2⟩ := h; rfl
  · intro x c h
    obtain ⟨v0, v1, v2, rfl, h0, h1, h2⟩ := h
    have g0 := (rSl_p rItem_p).ref _ _ ⟨_, rfl, h0⟩
    have g1 := rCondT_p.ref _ _ h1
    have g2 := (rSl_p rGroup_p).ref _ _ ⟨_, rfl, h2⟩
    simp only [refsL, refs, List.append_nil] at g0 g1 g2 ⊢
    simp only [g0, g1, g2, List.append_nil]
  · intro x c h
    obtain ⟨v0, v1, v2, rfl, h0, h1, h2⟩ := h
    have g0 := h0.isCell
    have g1 := rCondT_cell h1
    have g2 := h2.isCell
    simp only [List.all_cons, List.all_nil, g0, g1, g2, c_i, c_b, c_s, Bool.and_self, Bool.and_true]
  · intro x c h
    obtain ⟨v0, v1, v2, rfl, h0, h1, h2⟩ := h
    exact ⟨_, _, _, rfl, h0.strip rItem_p, rCondT_p.str _ _ h1, h2.strip rGroup_p⟩
structure Word where
  Kind : Int
  Text : (List UInt8)
  At : Int
instance : Inhabited Word := ⟨⟨0, [], 0⟩⟩
def rWord (x : Word) (c : List AVal) : Prop := c = [.int .i64 x.Kind, .str x.Text, .int .i64 x.At]
theorem rWord_p : Rp rWord 3 := by
  refine ⟨?_, ?_, ?_, ?_⟩
  · intro x c h; rw [h]; rfl
  · intro x c h
    rw [h]
    rfl
  · intro x c h
    rw [h]
    rfl
  · intro x c h
    rw [h]
    rfl
structure Reader where
  words : (List Word)
  at_ : Int
instance : Inhabited Reader := ⟨⟨[], 0⟩⟩
def rReader (x : Reader) (c : List AVal) : Prop := ∃ v0, c = [v0, .int .i64 x.at_] ∧ Sl rWord x.words v0
theorem rReader_p : Rp rReader 2 := by
  refine ⟨?_, ?_, ?_, ?_⟩
  · intro x c h; obtain ⟨v0, rfl, h0⟩ := h; rfl
  · intro x c h
    obtain ⟨v0, rfl, h0⟩ := h
    have g0 := (rSl_p rWord_p).ref _ _ ⟨_, rfl, h0⟩
    simp only [refsL, refs, List.append_nil] at g0 ⊢
    simp only [g0, List.append_nil]
  · intro x c h
    obtain ⟨v0, rfl, h0⟩ := h
    have g0 := h0.isCell
    simp only [List.all_cons, List.all_nil, g0, c_i, c_b, c_s, Bool.and_self, Bool.and_true]
  · intro x c h
    obtain ⟨v0, rfl, h0⟩ := h
    exact ⟨_, rfl, h0.strip rWord_p⟩
structure RefReader where
  l : (List Word)
  at_ : Int
  bad : Fault
instance : Inhabited RefReader := ⟨⟨[], 0, default⟩⟩
def rRefReader (x : RefReader) (c : List AVal) : Prop := ∃ v0, c = [v0, .int .i64 x.at_, .int .i64 x.bad.Code, .int .i64 x.bad.At] ∧ Sl rWord x.l v0
theorem rRefReader_p : Rp rRefReader 4 := by
  refine ⟨?_, ?_, ?_, ?_⟩
  · intro x c h; obtain ⟨v0, rfl, h0⟩ := h; rfl
  · intro x c h
    obtain ⟨v0, rfl, h0⟩ := h
    have g0 := (rSl_p rWord_p).ref _ _ ⟨_, rfl, h0⟩
    simp only [refsL, refs, List.append_nil] at g0 ⊢
    simp only [g0, List.append_nil]
  · intro x c h
    obtain ⟨v0, rfl, h0⟩ := h
    have g0 := h0.isCell
    simp only [List.all_cons, List.all_nil, g0, c_i, c_b, c_s, Bool.and_self, Bool.and_true]
  · intro x c h
    obtain ⟨v0, rfl, h0⟩ := h
    exact ⟨_, rfl, h0.strip rWord_p⟩
def eqValue (a b : Value) : Bool := (a.IsText == b.IsText) && (a.Text == b.Text) && (a.Int == b.Int)
def eqItem (a b : Item) : Bool := (a.Kind == b.Kind) && (a.Column == b.Column)
theorem CP : Cp.P = Tryz.prog := rfl
namespace Ty
theorem fa50_2 (p : AVal) : afieldAddr Tryz.prog 50 p 2 = dropCells 2 p := by kernel_rfl
theorem ld24 (h : AHeap) (p : AVal) : aload Tryz.prog h 24 p = loadA h false 1 p := by kernel_rfl
theorem fa50_1 (p : AVal) : afieldAddr Tryz.prog 50 p 1 = dropCells 1 p := by kernel_rfl
theorem fa50_5 (p : AVal) : afieldAddr Tryz.prog 50 p 5 = dropCells 5 p := by kernel_rfl
theorem ld48 (h : AHeap) (p : AVal) : aload Tryz.prog h 48 p = loadA h false 1 p := by kernel_rfl
theorem ix48 (x : AVal) (k : IntKind) (i : Int) : aindexAddr Tryz.prog 48 x (.int k i) = indexAddrA 3 x i := by kernel_rfl
theorem ld47 (h : AHeap) (p : AVal) : aload Tryz.prog h 47 p = loadA h true 3 p := by kernel_rfl
theorem neqs47 (xo yo : Operand) (h : AHeap) (a b : Value) : abin Cp .neq 47 xo yo h (.agg [.bool a.IsText, .str a.Text, .int .i64 a.Int]) (.agg [.bool b.IsText, .str b.Text, .int .i64 b.Int]) = some (.bool (!eqValue a b)) := by
  obtain ⟨a0, a1, a2⟩ := a; obtain ⟨b0, b1, b2⟩ := b
  have hf : All2 (TripEq Cp.P 9999 [(.bool a0), (.string ⟨a1.toArray⟩), (.int .i64 a2)].toArray [(.bool b0), (.string ⟨b1.toArray⟩), (.int .i64 b2)].toArray) [("IsText", 4, 0), ("Text", 9, 1), ("Int", 2, 2)] [a0 == b0, a1 == b1, a2 == b2] := (fld_cons (.bool a0) (.bool b0) (by kernel_rfl) (by kernel_rfl) (by kernel_rfl) (by kernel_rfl)
    (fld_cons (.string ⟨a1.toArray⟩) (.string ⟨b1.toArray⟩) (by kernel_rfl) (by kernel_rfl) (by kernel_rfl) (Eq.trans (b := some ((⟨a1.toArray⟩ : ByteArray) == ⟨b1.toArray⟩)) (by kernel_rfl) (congrArg some (str_eq _ _)))
    (fld_cons (.int .i64 a2) (.int .i64 b2) (by kernel_rfl) (by kernel_rfl) (by kernel_rfl) (by kernel_rfl)
    fld_nil)))
  have h := abin_struct (C := Cp) (t := 47) (xo := xo) (yo := yo) (h := h) (fields := [("IsText", 4, 0), ("Text", 9, 1), ("Int", 2, 2)]) (us := [.bool a0, .str a1, .int .i64 a2]) (ws := [.bool b0, .str b1, .int .i64 b2]) (by kernel_rfl) (by kernel_rfl) (by kernel_rfl) (by kernel_rfl) rfl rfl hf
  exact h.2.trans (by simp [eqValue, and_assoc, Bool.and_assoc])
theorem un48 : Tryz.prog.underlying 48 = some (.slice 47) := by kernel_rfl
theorem fa50_0 (p : AVal) : afieldAddr Tryz.prog 50 p 0 = dropCells 0 p := by kernel_rfl
theorem ld3 (h : AHeap) (p : AVal) : aload Tryz.prog h 3 p = loadA h false 1 p := by kernel_rfl
theorem fa50_3 (p : AVal) : afieldAddr Tryz.prog 50 p 3 = dropCells 3 p := by kernel_rfl
theorem ld9 (h : AHeap) (p : AVal) : aload Tryz.prog h 9 p = loadA h false 1 p := by kernel_rfl
theorem fa50_4 (p : AVal) : afieldAddr Tryz.prog 50 p 4 = dropCells 4 p := by kernel_rfl
theorem fa69_0 (p : AVal) : afieldAddr Tryz.prog 69 p 0 = dropCells 0 p := by kernel_rfl
theorem st3 (h : AHeap) (p v : AVal) : astore Tryz.prog h 3 p v = storeA h 1 p v := by kernel_rfl
theorem eqn24 (xo : Operand) (h : AHeap) : abin Cp .eql 24 xo (.const (.pointer none)) h .nilPtr .nilPtr = some (.bool true) := by kernel_rfl
theorem eqp24 (xo yo : Operand) (h : AHeap) (c : List AVal) : abin Cp .eql 24 xo yo h (.iptr c) .nilPtr = some (.bool false) := by kernel_rfl
theorem ix52 (x : AVal) (k : IntKind) (i : Int) : aindexAddr Tryz.prog 52 x (.int k i) = indexAddrA 1 x i := by kernel_rfl
theorem un52 : Tryz.prog.underlying 52 = some (.slice 9) := by kernel_rfl
theorem fa65_2 (p : AVal) : afieldAddr Tryz.prog 65 p 2 = dropCells 2 p := by kernel_rfl
theorem ld63 (h : AHeap) (p : AVal) : aload Tryz.prog h 63 p = loadA h false 1 p := by kernel_rfl
theorem ix63 (x : AVal) (k : IntKind) (i : Int) : aindexAddr Tryz.prog 63 x (.int k i) = indexAddrA 1 x i := by kernel_rfl
theorem ld52 (h : AHeap) (p : AVal) : aload Tryz.prog h 52 p = loadA h false 1 p := by kernel_rfl
theorem un63 : Tryz.prog.underlying 63 = some (.slice 52) := by kernel_rfl
theorem fa65_0 (p : AVal) : afieldAddr Tryz.prog 65 p 0 = dropCells 0 p := by kernel_rfl
theorem fa65_1 (p : AVal) : afieldAddr Tryz.prog 65 p 1 = dropCells 1 p := by kernel_rfl
theorem nc_ref_go_566 : Cp.cbox "ref.go:566" = false := by kernel_rfl
theorem fa27_2 (p : AVal) : afieldAddr Tryz.prog 27 p 2 = dropCells 2 p := by kernel_rfl
theorem bu69 (parts : List (Nat × AVal)) : abuild Tryz.prog 69 parts = ((fillA ([(0, 1)].toArray[·]?) [.int .i64 0] parts).bind fun c => some (.agg c)) := by kernel_rfl
theorem nc_ref_go_596 : Cp.cbox "ref.go:596" = false := by kernel_rfl
theorem fa27_4 (p : AVal) : afieldAddr Tryz.prog 27 p 4 = dropCells 4 p := by kernel_rfl
theorem ld25 (h : AHeap) (p : AVal) : aload Tryz.prog h 25 p = loadA h false 1 p := by kernel_rfl
theorem ix25 (x : AVal) (k : IntKind) (i : Int) : aindexAddr Tryz.prog 25 x (.int k i) = indexAddrA 3 x i := by kernel_rfl
theorem ld65 (h : AHeap) (p : AVal) : aload Tryz.prog h 65 p = loadA h true 3 p := by kernel_rfl
theorem un25 : Tryz.prog.underlying 25 = some (.slice 65) := by kernel_rfl
theorem fa27_0 (p : AVal) : afieldAddr Tryz.prog 27 p 0 = dropCells 0 p := by kernel_rfl
theorem ld23 (h : AHeap) (p : AVal) : aload Tryz.prog h 23 p = loadA h false 1 p := by kernel_rfl
theorem ix23 (x : AVal) (k : IntKind) (i : Int) : aindexAddr Tryz.prog 23 x (.int k i) = indexAddrA 2 x i := by kernel_rfl
theorem ld45 (h : AHeap) (p : AVal) : aload Tryz.prog h 45 p = loadA h true 2 p := by kernel_rfl
theorem neqs45 (xo yo : Operand) (h : AHeap) (a b : Item) : abin Cp .neq 45 xo yo h (.agg [.int .i64 a.Kind, .str a.Column]) (.agg [.int .i64 b.Kind, .str b.Column]) = some (.bool (!eqItem a b)) := by
  obtain ⟨a0, a1⟩ := a; obtain ⟨b0, b1⟩ := b
  have hf : All2 (TripEq Cp.P 9999 [(.int .i64 a0), (.string ⟨a1.toArray⟩)].toArray [(.int .i64 b0), (.string ⟨b1.toArray⟩)].toArray) [("Kind", 3, 0), ("Column", 9, 1)] [a0 == b0, a1 == b1] := (fld_cons (.int .i64 a0) (.int .i64 b0) (by kernel_rfl) (by kernel_rfl) (by kernel_rfl) (by kernel_rfl)
    (fld_cons (.string ⟨a1.toArray⟩) (.string ⟨b1.toArray⟩) (by kernel_rfl) (by kernel_rfl) (by kernel_rfl) (Eq.trans (b := some ((⟨a1.toArray⟩ : ByteArray) == ⟨b1.toArray⟩)) (by kernel_rfl) (congrArg some (str_eq _ _)))
    fld_nil))
  have h := abin_struct (C := Cp) (t := 45) (xo := xo) (yo := yo) (h := h) (fields := [("Kind", 3, 0), ("Column", 9, 1)]) (us := [.int .i64 a0, .str a1]) (ws := [.int .i64 b0, .str b1]) (by kernel_rfl) (by kernel_rfl) (by kernel_rfl) (by kernel_rfl) rfl rfl hf
  exact h.2.trans (by simp [eqItem, and_assoc, Bool.and_assoc])
theorem un23 : Tryz.prog.underlying 23 = some (.slice 45) := by kernel_rfl
theorem fa27_1 (p : AVal) : afieldAddr Tryz.prog 27 p 1 = dropCells 1 p := by kernel_rfl
theorem fa27_3 (p : AVal) : afieldAddr Tryz.prog 27 p 3 = dropCells 3 p := by kernel_rfl
theorem ld4 (h : AHeap) (p : AVal) : aload Tryz.prog h 4 p = loadA h false 1 p := by kernel_rfl
theorem neqb4 (xo yo : Operand) (h : AHeap) (a b : Bool) : abin Cp .neq 4 xo yo h (.bool a) (.bool b) = some (.bool (a != b)) := by cases a <;> cases b <;> kernel_rfl
theorem nc_ref_go_581 : Cp.cbox "ref.go:581" = false := by kernel_rfl
end Ty
end Go.Proofs.Par
