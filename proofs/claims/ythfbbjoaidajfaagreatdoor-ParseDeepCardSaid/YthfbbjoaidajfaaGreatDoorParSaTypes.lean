import Derived.Test.YthfbbjoaidajfaaGreatDoorParCfg
import Derived.Test.YthfbbjoaidajfaaGreatDoorQryAll
set_option linter.unusedVariables false
set_option linter.unusedSimpArgs false
set_option linter.unusedSimpArgs false
set_option linter.unusedVariables false
set_option maxRecDepth 100000
namespace Go.Proofs.Q.Par
open Go Go.Am Go.Proofs
def rValue (x : Value) (c : List AVal) : Prop := c = [.bool x.IsText, .str x.Text, .int .i64 x.Int]
theorem rValue_p : Rp rValue 3 := by
  refine ⟨?_, ?_, ?_, ?_⟩
  · intro x c h; rw [h]; rfl
  · intro x c h
    rw [h]
    rfl
  · intro x c h
    rw [h]
    rfl
  · intro x c h
    rw [h]
    rfl
def rCondT : CondT → List AVal → Prop
  | .nil, c => c = [.nilPtr]
  | .mk a0 a1 a2 a3 a4 a5, c => ∃ v0 v1 v2, c = [.iptr [.int .i64 a0, v0, v1, .str a3, .int .i64 a4, v2]] ∧ rCondT a1 [v0] ∧ rCondT a2 [v1] ∧ Sl rValue a5 v2
theorem rCondT_ref : ∀ (x : CondT) (c : List AVal), rCondT x c → refsL c = [] := by
  intro x
  induction x with
  | nil => intro c h; rw [h]; rfl
  | mk a0 a1 a2 a3 a4 a5 ih0 ih1 =>
    intro c h
    obtain ⟨v0, v1, v2, rfl, h0, h1, h2⟩ := h
    have g0 := ih0 _ h0
    have g1 := ih1 _ h1
    have g2 := (rSl_p rValue_p).ref _ _ ⟨_, rfl, h2⟩
    simp only [refsL, refs, List.append_nil] at g0 g1 g2 ⊢
    simp only [g0, g1, g2, List.append_nil]
theorem rCondT_str : ∀ (x : CondT) (c : List AVal), rCondT x c → rCondT x (stripL c) := by
  intro x
  induction x with
  | nil => intro c h; rw [h]; rfl
  | mk a0 a1 a2 a3 a4 a5 ih0 ih1 =>
    intro c h
    obtain ⟨v0, v1, v2, rfl, h0, h1, h2⟩ := h
    exact ⟨_, _, _, rfl, ih0 _ h0, ih1 _ h1, h2.strip rValue_p⟩
theorem rCondT_p : Rp rCondT 1 := by
  refine ⟨?_, rCondT_ref, ?_, rCondT_str⟩
  · intro x c h
    cases x with
    | nil => rw [h]; rfl
    | mk a0 a1 a2 a3 a4 a5 => obtain ⟨v0, v1, v2, rfl, h0, h1, h2⟩ := h; rfl
  · intro x c h
    cases x with
    | nil => rw [h]; rfl
    | mk a0 a1 a2 a3 a4 a5 => obtain ⟨v0, v1, v2, rfl, h0, h1, h2⟩ := h; rfl
theorem rCondT_get {x : CondT} {v : AVal} {n : Cond} (h : rCondT x [v]) (hg : x.get = some n) : ∃ v0 v1 v2, v = .iptr [.int .i64 n.Kind, v0, v1, .str n.Column, .int .i64 n.Op, v2] ∧ rCondT n.Left [v0] ∧ rCondT n.Right [v1] ∧ Sl rValue n.Values v2 := by
  cases x with
  | nil => cases hg
  | mk a0 a1 a2 a3 a4 a5 =>
    cases hg
    obtain ⟨v0, v1, v2, hc, h0, h1, h2⟩ := h
    exact ⟨v0, v1, v2, (List.cons.inj hc).1, h0, h1, h2⟩
theorem rCondT_nil {x : CondT} {v : AVal} (h : rCondT x [v]) : (x.isNil = true ∧ v = .nilPtr) ∨ (x.isNil = false ∧ ∃ cs, v = .iptr cs) := by
  cases x with
  | nil => exact .inl ⟨rfl, (List.cons.inj h).1⟩
  | mk a0 a1 a2 a3 a4 a5 =>
    obtain ⟨v0, v1, v2, hc, h0, h1, h2⟩ := h
    exact .inr ⟨rfl, _, (List.cons.inj hc).1⟩
theorem rCondT_cell {x : CondT} {v : AVal} (h : rCondT x [v]) : v.isCell = true := by
  have := rCondT_p.cell _ _ h
  simpa using this
def rGroup (x : Group) (c : List AVal) : Prop := ∃ v0 v1, c = [.int .i64 x.Kind, v0, v1] ∧ Sl rS x.Columns v0 ∧ Sl (rSl rS) x.Sets v1
theorem rGroup_p : Rp rGroup 3 := by
  refine ⟨?_, ?_, ?_, ?_⟩
  · intro x c h; obtain ⟨v0, v1, rfl, h0, h1⟩ := h; rfl
  · intro x c h
    obtain ⟨v0, v1, rfl, h0, h1⟩ := h
    have g0 := (rSl_p rS_p).ref _ _ ⟨_, rfl, h0⟩
    have g1 := (rSl_p (rSl_p rS_p)).ref _ _ ⟨_, rfl, h1⟩
    simp only [refsL, refs, List.append_nil] at g0 g1 ⊢
    simp only [g0, g1, List.append_nil]
  · intro x c h
    obtain ⟨v0, v1, rfl, h0, h1⟩ := h
    have g0 := h0.isCell
    have g1 := h1.isCell
    simp only [List.all_cons, List.all_nil, g0, g1, c_i, c_b, c_s, Bool.and_self, Bool.and_true]
  · intro x c h
    obtain ⟨v0, v1, rfl, h0, h1⟩ := h
    exact ⟨_, _, rfl, h0.strip rS_p, h1.strip (rSl_p rS_p)⟩
def rItem (x : Item) (c : List AVal) : Prop := c = [.int .i64 x.Kind, .str x.Column]
theorem rItem_p : Rp rItem 2 := by
  refine ⟨?_, ?_, ?_, ?_⟩
  · intro x c h; rw [h]; rfl
  · intro x c h
    rw [h]
    rfl
  · intro x c h
    rw [h]
    rfl
  · intro x c h
    rw [h]
    rfl
structure Left where
  n : Int
instance : Inhabited Left := ⟨⟨0⟩⟩
def rWord (x : Word) (c : List AVal) : Prop := c = [.int .i64 x.Kind, .str x.Text, .int .i64 x.At]
theorem rWord_p : Rp rWord 3 := by
  refine ⟨?_, ?_, ?_, ?_⟩
  · intro x c h; rw [h]; rfl
  · intro x c h
    rw [h]
    rfl
  · intro x c h
    rw [h]
    rfl
  · intro x c h
    rw [h]
    rfl
structure RefReader where
  l : (List Word)
  at_ : Int
  bad : Fault
instance : Inhabited RefReader := ⟨⟨[], 0, default⟩⟩
theorem CP : Cp.P = Tryz.prog := rfl
namespace Ty
theorem fa50_2 (p : AVal) : afieldAddr Tryz.prog 50 p 2 = dropCells 2 p := by kernel_rfl
theorem ld24 (h : AHeap) (p : AVal) : aload Tryz.prog h 24 p = loadA h false 1 p := by kernel_rfl
theorem fa50_1 (p : AVal) : afieldAddr Tryz.prog 50 p 1 = dropCells 1 p := by kernel_rfl
theorem fa50_5 (p : AVal) : afieldAddr Tryz.prog 50 p 5 = dropCells 5 p := by kernel_rfl
theorem ld48 (h : AHeap) (p : AVal) : aload Tryz.prog h 48 p = loadA h false 1 p := by kernel_rfl
theorem un48 : Tryz.prog.underlying 48 = some (.slice 47) := by kernel_rfl
theorem ld3 (h : AHeap) (p : AVal) : aload Tryz.prog h 3 p = loadA h false 1 p := by kernel_rfl
theorem ld9 (h : AHeap) (p : AVal) : aload Tryz.prog h 9 p = loadA h false 1 p := by kernel_rfl
theorem st3 (h : AHeap) (p v : AVal) : astore Tryz.prog h 3 p v = storeA h 1 p v := by kernel_rfl
theorem eqn24 (xo : Operand) (h : AHeap) : abin Cp .eql 24 xo (.const (.pointer none)) h .nilPtr .nilPtr = some (.bool true) := by kernel_rfl
theorem eqp24 (xo yo : Operand) (h : AHeap) (c : List AVal) : abin Cp .eql 24 xo yo h (.iptr c) .nilPtr = some (.bool false) := by kernel_rfl
theorem ix52 (x : AVal) (k : IntKind) (i : Int) : aindexAddr Tryz.prog 52 x (.int k i) = indexAddrA 1 x i := by kernel_rfl
theorem un52 : Tryz.prog.underlying 52 = some (.slice 9) := by kernel_rfl
theorem fa65_2 (p : AVal) : afieldAddr Tryz.prog 65 p 2 = dropCells 2 p := by kernel_rfl
theorem ld63 (h : AHeap) (p : AVal) : aload Tryz.prog h 63 p = loadA h false 1 p := by kernel_rfl
theorem ix63 (x : AVal) (k : IntKind) (i : Int) : aindexAddr Tryz.prog 63 x (.int k i) = indexAddrA 1 x i := by kernel_rfl
theorem ld52 (h : AHeap) (p : AVal) : aload Tryz.prog h 52 p = loadA h false 1 p := by kernel_rfl
theorem un63 : Tryz.prog.underlying 63 = some (.slice 52) := by kernel_rfl
theorem fa65_1 (p : AVal) : afieldAddr Tryz.prog 65 p 1 = dropCells 1 p := by kernel_rfl
theorem fa27_2 (p : AVal) : afieldAddr Tryz.prog 27 p 2 = dropCells 2 p := by kernel_rfl
theorem fa27_4 (p : AVal) : afieldAddr Tryz.prog 27 p 4 = dropCells 4 p := by kernel_rfl
theorem ld25 (h : AHeap) (p : AVal) : aload Tryz.prog h 25 p = loadA h false 1 p := by kernel_rfl
theorem ix25 (x : AVal) (k : IntKind) (i : Int) : aindexAddr Tryz.prog 25 x (.int k i) = indexAddrA 3 x i := by kernel_rfl
theorem ld65 (h : AHeap) (p : AVal) : aload Tryz.prog h 65 p = loadA h true 3 p := by kernel_rfl
theorem un25 : Tryz.prog.underlying 25 = some (.slice 65) := by kernel_rfl
theorem fa27_0 (p : AVal) : afieldAddr Tryz.prog 27 p 0 = dropCells 0 p := by kernel_rfl
theorem ld23 (h : AHeap) (p : AVal) : aload Tryz.prog h 23 p = loadA h false 1 p := by kernel_rfl
theorem un23 : Tryz.prog.underlying 23 = some (.slice 45) := by kernel_rfl
end Ty
end Go.Proofs.Q.Par

