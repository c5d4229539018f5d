/-
  KEYS: types (printed by wip/tools/tg.py).
-/
import Derived.Test.YtijnepmlnfcpnaaGreatDoorKyCfg
import Derived.Test.YtijnepmlnfcpnaaGreatDoorAmPure
set_option linter.unusedVariables false
set_option linter.unusedSimpArgs false
set_option linter.unusedSimpArgs false
set_option linter.unusedVariables false
set_option maxRecDepth 100000
namespace Go.Proofs.Ky
open Go Go.Am Go.Proofs
structure Pick where
  Kind : Int
  Index : Int
instance : Inhabited Pick := ⟨⟨0, 0⟩⟩
def rPick (x : Pick) (c : List AVal) : Prop := c = [.int .i64 x.Kind, .int .i64 x.Index]
theorem rPick_p : Rp rPick 2 := by
  refine ⟨?_, ?_, ?_, ?_⟩
  · intro x c h; rw [h]; rfl
  · intro x c h
    rw [h]
    rfl
  · intro x c h
    rw [h]
    rfl
  · intro x c h
    rw [h]
    rfl
inductive TestT where
  | nil
  | mk (Kind : Int) (Left : TestT) (Right : TestT) (Meas : Bool) (Index : Int) (Op : Int) (Texts : (List (List UInt8))) (Ints : (List Int))
instance : Inhabited TestT := ⟨.nil⟩
structure Test where
  Kind : Int
  Left : TestT
  Right : TestT
  Meas : Bool
  Index : Int
  Op : Int
  Texts : (List (List UInt8))
  Ints : (List Int)
instance : Inhabited Test := ⟨⟨0, default, default, false, 0, 0, [], []⟩⟩
def TestT.get : TestT → Option Test
  | .nil => none
  | .mk a0 a1 a2 a3 a4 a5 a6 a7 => some ⟨a0, a1, a2, a3, a4, a5, a6, a7⟩
def rTestT : TestT → List AVal → Prop
  | .nil, c => c = [.nilPtr]
  | .mk a0 a1 a2 a3 a4 a5 a6 a7, c => ∃ v0 v1 v2 v3, c = [.iptr [.int .i64 a0, v0, v1, .bool a3, .int .i64 a4, .int .i64 a5, v2, v3]] ∧ rTestT a1 [v0] ∧ rTestT a2 [v1] ∧ Sl rS a6 v2 ∧ Sl (rI .i64) a7 v3
theorem rTestT_ref : ∀ (x : TestT) (c : List AVal), rTestT x c → refsL c = [] := by
  intro x
  induction x with
  | nil => intro c h; rw [h]; rfl
  | mk a0 a1 a2 a3 a4 a5 a6 a7 ih0 ih1 =>
    intro c h
    obtain ⟨v0, v1, v2, v3, rfl, h0, h1, h2, h3⟩ := h
    have g0 := ih0 _ h0
    have g1 := ih1 _ h1
    have g2 := (rSl_p rS_p).ref _ _ ⟨_, rfl, h2⟩
    have g3 := (rSl_p (rI_p .i64)).ref _ _ ⟨_, rfl, h3⟩
    simp only [refsL, refs, List.append_nil] at g0 g1 g2 g3 ⊢
    simp only [g0, g1, g2, g3, List.append_nil]
theorem rTestT_str : ∀ (x : TestT) (c : List AVal), rTestT x c → rTestT x (stripL c) := by
  intro x
  induction x with
  | nil => intro c h; rw [h]; rfl
  | mk a0 a1 a2 a3 a4 a5 a6 a7 ih0 ih1 =>
    intro c h
    obtain ⟨v0, v1, v2, v3, rfl, h0, h1, h2, h3⟩ := h
    exact ⟨_, _, _, _, rfl, ih0 _ h0, ih1 _ h1, h2.strip rS_p, h3.strip (rI_p .i64)⟩
theorem rTestT_p : Rp rTestT 1 := by
  refine ⟨?_, rTestT_ref, ?_, rTestT_str⟩
  · intro x c h
    cases x with
    | nil => rw [h]; rfl
    | mk a0 a1 a2 a3 a4 a5 a6 a7 => obtain ⟨v0, v1, v2, v3, rfl, h0, h1, h2, h3⟩ := h; rfl
  · intro x c h
    cases x with
    | nil => rw [h]; rfl
    | mk a0 a1 a2 a3 a4 a5 a6 a7 => obtain ⟨v0, v1, v2, v3, rfl, h0, h1, h2, h3⟩ := h; rfl
theorem rTestT_get {x : TestT} {v : AVal} {n : Test} (h : rTestT x [v]) (hg : x.get = some n) : ∃ v0 v1 v2 v3, v = .iptr [.int .i64 n.Kind, v0, v1, .bool n.Meas, .int .i64 n.Index, .int .i64 n.Op, v2, v3] ∧ rTestT n.Left [v0] ∧ rTestT n.Right [v1] ∧ Sl rS n.Texts v2 ∧ Sl (rI .i64) n.Ints v3 := by
  cases x with
  | nil => cases hg
  | mk a0 a1 a2 a3 a4 a5 a6 a7 =>
    cases hg
    obtain ⟨v0, v1, v2, v3, hc, h0, h1, h2, h3⟩ := h
    exact ⟨v0, v1, v2, v3, (List.cons.inj hc).1, h0, h1, h2, h3⟩
def TestT.isNil : TestT → Bool
  | .nil => true
  | .mk _ _ _ _ _ _ _ _ => false
theorem rTestT_nil {x : TestT} {v : AVal} (h : rTestT x [v]) : (x.isNil = true ∧ v = .nilPtr) ∨ (x.isNil = false ∧ ∃ cs, v = .iptr cs) := by
  cases x with
  | nil => exact .inl ⟨rfl, (List.cons.inj h).1⟩
  | mk a0 a1 a2 a3 a4 a5 a6 a7 =>
    obtain ⟨v0, v1, v2, v3, hc, h0, h1, h2, h3⟩ := h
    exact .inr ⟨rfl, _, (List.cons.inj hc).1⟩
theorem rTestT_cell {x : TestT} {v : AVal} (h : rTestT x [v]) : v.isCell = true := by
  have := rTestT_p.cell _ _ h
  simpa using this
def rTest (x : Test) (c : List AVal) : Prop := ∃ v0 v1 v2 v3, c = [.int .i64 x.Kind, v0, v1, .bool x.Meas, .int .i64 x.Index, .int .i64 x.Op, v2, v3] ∧ rTestT x.Left [v0] ∧ rTestT x.Right [v1] ∧ Sl rS x.Texts v2 ∧ Sl (rI .i64) x.Ints v3
theorem rTest_p : Rp rTest 8 := by
  refine ⟨?_, ?_, ?_, ?_⟩
  · intro x c h; obtain ⟨v0, v1, v2, v3, rfl, h0, h1, h2, h3⟩ := h; rfl
  · intro x c h
    obtain ⟨v0, v1, v2, v3, rfl, h0, h1, h2, h3⟩ := h
    have g0 := rTestT_p.ref _ _ h0
    have g1 := rTestT_p.ref _ _ h1
    have g2 := (rSl_p rS_p).ref _ _ ⟨_, rfl, h2⟩
    have g3 := (rSl_p (rI_p .i64)).ref _ _ ⟨_, rfl, h3⟩
    simp only [refsL, refs, List.append_nil] at g0 g1 g2 g3 ⊢
    simp only [g0, g1, g2, g3, List.append_nil]
  · intro x c h
    obtain ⟨v0, v1, v2, v3, rfl, h0, h1, h2, h3⟩ := h
    have g0 := rTestT_cell h0
    have g1 := rTestT_cell h1
    have g2 := h2.isCell
    have g3 := h3.isCell
    simp only [List.all_cons, List.all_nil, g0, g1, g2, g3, c_i, c_b, c_s, Bool.and_self, Bool.and_true]
  · intro x c h
    obtain ⟨v0, v1, v2, v3, rfl, h0, h1, h2, h3⟩ := h
    exact ⟨_, _, _, _, rfl, rTestT_p.str _ _ h0, rTestT_p.str _ _ h1, h2.strip rS_p, h3.strip (rI_p .i64)⟩
structure Bound where
  Picks : (List Pick)
  Names : (List (List UInt8))
  Where : TestT
  Sets : (List Int)
instance : Inhabited Bound := ⟨⟨[], [], default, []⟩⟩
def rBound (x : Bound) (c : List AVal) : Prop := ∃ v0 v1 v2 v3, c = [v0, v1, v2, v3] ∧ Sl rPick x.Picks v0 ∧ Sl rS x.Names v1 ∧ rTestT x.Where [v2] ∧ Sl (rI .i64) x.Sets v3
theorem rBound_p : Rp rBound 4 := by
  refine ⟨?_, ?_, ?_, ?_⟩
  · intro x c h; obtain ⟨v0, v1, v2, v3, rfl, h0, h1, h2, h3⟩ := h; rfl
  · intro x c h
    obtain ⟨v0, v1, v2, v3, rfl, h0, h1, h2, h3⟩ := h
    have g0 := (rSl_p rPick_p).ref _ _ ⟨_, rfl, h0⟩
    have g1 := (rSl_p rS_p).ref _ _ ⟨_, rfl, h1⟩
    have g2 := rTestT_p.ref _ _ h2
    have g3 := (rSl_p (rI_p .i64)).ref _ _ ⟨_, rfl, h3⟩
    simp only [refsL, refs, List.append_nil] at g0 g1 g2 g3 ⊢
    simp only [g0, g1, g2, g3, List.append_nil]
  · intro x c h
    obtain ⟨v0, v1, v2, v3, rfl, h0, h1, h2, h3⟩ := h
    have g0 := h0.isCell
    have g1 := h1.isCell
    have g2 := rTestT_cell h2
    have g3 := h3.isCell
    simp only [List.all_cons, List.all_nil, g0, g1, g2, g3, c_i, c_b, c_s, Bool.and_self, Bool.and_true]
  · intro x c h
    obtain ⟨v0, v1, v2, v3, rfl, h0, h1, h2, h3⟩ := h
    exact ⟨_, _, _, _, rfl, h0.strip rPick_p, h1.strip rS_p, rTestT_p.str _ _ h2, h3.strip (rI_p .i64)⟩
theorem CP : Cl.P = Tryz.prog := rfl
namespace Ty
theorem fa57_2 (p : AVal) : afieldAddr Tryz.prog 57 p 2 = dropCells 2 p := by kernel_rfl
theorem ld32 (h : AHeap) (p : AVal) : aload Tryz.prog h 32 p = loadA h false 1 p := by kernel_rfl
theorem fa57_1 (p : AVal) : afieldAddr Tryz.prog 57 p 1 = dropCells 1 p := by kernel_rfl
theorem eqn32 (xo : Operand) (h : AHeap) : abin Cl .eql 32 xo (.const (.pointer none)) h .nilPtr .nilPtr = some (.bool true) := by kernel_rfl
theorem eqp32 (xo yo : Operand) (h : AHeap) (c : List AVal) : abin Cl .eql 32 xo yo h (.iptr c) .nilPtr = some (.bool false) := by kernel_rfl
end Ty
end Go.Proofs.Ky
