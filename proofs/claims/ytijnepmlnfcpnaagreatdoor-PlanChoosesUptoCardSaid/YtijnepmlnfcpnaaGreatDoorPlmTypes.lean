/-
  PLAN (aa): types (printed by wip/tools/tg.py).
-/
import Derived.Test.YtijnepmlnfcpnaaGreatDoorPlmCfg
import Derived.Test.YtijnepmlnfcpnaaGreatDoorAmPure
set_option linter.unusedVariables false
set_option linter.unusedSimpArgs false
set_option linter.unusedSimpArgs false
set_option linter.unusedVariables false
set_option maxRecDepth 100000
namespace Go.Proofs.Plm
open Go Go.Am Go.Proofs
structure Pick where
  Kind : Int
  Index : Int
instance : Inhabited Pick := ⟨⟨0, 0⟩⟩
def rPick (x : Pick) (c : List AVal) : Prop := c = [.int .i64 x.Kind, .int .i64 x.Index]
theorem rPick_p : Rp rPick 2 := by
  refine ⟨?_, ?_, ?_, ?_⟩
  · intro x c h; rw [h]; rfl
  · intro x c h
    rw [h]
    rfl
  · intro x c h
    rw [h]
    rfl
  · intro x c h
    rw [h]
    rfl
inductive TestT where
  | nil
  | mk (Kind : Int) (Left : TestT) (Right : TestT) (Meas : Bool) (Index : Int) (Op : Int) (Texts : (List (List UInt8))) (Ints : (List Int))
instance : Inhabited TestT := ⟨.nil⟩
structure Test where
  Kind : Int
  Left : TestT
  Right : TestT
  Meas : Bool
  Index : Int
  Op : Int
  Texts : (List (List UInt8))
  Ints : (List Int)
instance : Inhabited Test := ⟨⟨0, default, default, false, 0, 0, [], []⟩⟩
def TestT.get : TestT → Option Test
  | .nil => none
  | .mk a0 a1 a2 a3 a4 a5 a6 a7 => some ⟨a0, a1, a2, a3, a4, a5, a6, a7⟩
def rTestT : TestT → List AVal → Prop
  | .nil, c => c = [.nilPtr]
  | .mk a0 a1 a2 a3 a4 a5 a6 a7, c => ∃ v0 v1 v2 v3, c = [.iptr [.int .i64 a0, v0, v1, .bool a3, .int .i64 a4, .int .i64 a5, v2, v3]] ∧ rTestT a1 [v0] ∧ rTestT a2 [v1] ∧ Sl rS a6 v2 ∧ Sl (rI .i64) a7 v3
theorem rTestT_ref : ∀ (x : TestT) (c : List AVal), rTestT x c → refsL c = [] := by
  intro x
  induction x with
  | nil => intro c h; rw [h]; rfl
  | mk a0 a1 a2 a3 a4 a5 a6 a7 ih0 ih1 =>
    intro c h
    obtain ⟨v0, v1, v2, v3, rfl, h0, h1, h2, h3⟩ := h
    have g0 := ih0 _ h0
    have g1 := ih1 _ h1
    have g2 := (rSl_p rS_p).ref _ _ ⟨_, rfl, h2⟩
    have g3 := (rSl_p (rI_p .i64)).ref _ _ ⟨_, rfl, h3⟩
    simp only [refsL, refs, List.append_nil] at g0 g1 g2 g3 ⊢
    simp only [g0, g1, g2, g3, List.append_nil]
theorem rTestT_str : ∀ (x : TestT) (c : List AVal), rTestT x c → rTestT x (stripL c) := by
  intro x
  induction x with
  | nil => intro c h; rw [h]; rfl
  | mk a0 a1 a2 a3 a4 a5 a6 a7 ih0 ih1 =>
    intro c h
    obtain ⟨v0, v1, v2, v3, rfl, h0, h1, h2, h3⟩ := h
    exact ⟨_, _, _, _, rfl, ih0 _ h0, ih1 _ h1, h2.strip rS_p, h3.strip (rI_p .i64)⟩
theorem rTestT_p : Rp rTestT 1 := by
  refine ⟨?_, rTestT_ref, ?_, rTestT_str⟩
  · intro x c h
    cases x with
    | nil => rw [h]; rfl
    | mk a0 a1 a2 a3 a4 a5 a6 a7 => obtain ⟨v0, v1, v2, v3, rfl, h0, h1, h2, h3⟩ := h; rfl
  · intro x c h
    cases x with
    | nil => rw [h]; rfl
    | mk a0 a1 a2 a3 a4 a5 a6 a7 => obtain ⟨v0, v1, v2, v3, rfl, h0, h1, h2, h3⟩ := h; rfl
theorem rTestT_get {x : TestT} {v : AVal} {n : Test} (h : rTestT x [v]) (hg : x.get = some n) : ∃ v0 v1 v2 v3, v = .iptr [.int .i64 n.Kind, v0, v1, .bool n.Meas, .int .i64 n.Index, .int .i64 n.Op, v2, v3] ∧ rTestT n.Left [v0] ∧ rTestT n.Right [v1] ∧ Sl rS n.Texts v2 ∧ Sl (rI .i64) n.Ints v3 := by
  cases x with
  | nil => cases hg
  | mk a0 a1 a2 a3 a4 a5 a6 a7 =>
    cases hg
    obtain ⟨v0, v1, v2, v3, hc, h0, h1, h2, h3⟩ := h
    exact ⟨v0, v1, v2, v3, (List.cons.inj hc).1, h0, h1, h2, h3⟩
def TestT.isNil : TestT → Bool
  | .nil => true
  | .mk _ _ _ _ _ _ _ _ => false
theorem rTestT_nil {x : TestT} {v : AVal} (h : rTestT x [v]) : (x.isNil = true ∧ v = .nilPtr) ∨ (x.isNil = false ∧ ∃ cs, v = .iptr cs) := by
  cases x with
  | nil => exact .inl ⟨rfl, (List.cons.inj h).1⟩
  | mk a0 a1 a2 a3 a4 a5 a6 a7 =>
    obtain ⟨v0, v1, v2, v3, hc, h0, h1, h2, h3⟩ := h
    exact .inr ⟨rfl, _, (List.cons.inj hc).1⟩
theorem rTestT_cell {x : TestT} {v : AVal} (h : rTestT x [v]) : v.isCell = true := by
  have := rTestT_p.cell _ _ h
  simpa using this
def rTest (x : Test) (c : List AVal) : Prop := ∃ v0 v1 v2 v3, c = [.int .i64 x.Kind, v0, v1, .bool x.Meas, .int .i64 x.Index, .int .i64 x.Op, v2, v3] ∧ rTestT x.Left [v0] ∧ rTestT x.Right [v1] ∧ Sl rS x.Texts v2 ∧ Sl (rI .i64) x.Ints v3
theorem rTest_p : Rp rTest 8 := by
  refine ⟨?_, ?_, ?_, ?_⟩
  · intro x c h; obtain ⟨v0, v1, v2, v3, rfl, h0, h1, h2, h3⟩ := h; rfl
  · intro x c h
    obtain ⟨v0, v1, v2, v3, rfl, h0, h1, h2, h3⟩ := h
    have g0 := rTestT_p.ref _ _ h0
    have g1 := rTestT_p.ref _ _ h1
    have g2 := (rSl_p rS_p).ref _ _ ⟨_, rfl, h2⟩
    have g3 := (rSl_p (rI_p .i64)).ref _ _ ⟨_, rfl, h3⟩
    simp only [refsL, refs, List.append_nil] at g0 g1 g2 g3 ⊢
    simp only [g0, g1, g2, g3, List.append_nil]
  · intro x c h
    obtain ⟨v0, v1, v2, v3, rfl, h0, h1, h2, h3⟩ := h
    have g0 := rTestT_cell h0
    have g1 := rTestT_cell h1
    have g2 := h2.isCell
    have g3 := h3.isCell
    simp only [List.all_cons, List.all_nil, g0, g1, g2, g3, c_i, c_b, c_s, Bool.and_self, Bool.and_true]
  · intro x c h
    obtain ⟨v0, v1, v2, v3, rfl, h0, h1, h2, h3⟩ := h
    exact ⟨_, _, _, _, rfl, rTestT_p.str _ _ h0, rTestT_p.str _ _ h1, h2.strip rS_p, h3.strip (rI_p .i64)⟩
structure Bound where
  Picks : (List Pick)
  Names : (List (List UInt8))
  Where : TestT
  Sets : (List Int)
instance : Inhabited Bound := ⟨⟨[], [], default, []⟩⟩
def rBound (x : Bound) (c : List AVal) : Prop := ∃ v0 v1 v2 v3, c = [v0, v1, v2, v3] ∧ Sl rPick x.Picks v0 ∧ Sl rS x.Names v1 ∧ rTestT x.Where [v2] ∧ Sl (rI .i64) x.Sets v3
theorem rBound_p : Rp rBound 4 := by
  refine ⟨?_, ?_, ?_, ?_⟩
  · intro x c h; obtain ⟨v0, v1, v2, v3, rfl, h0, h1, h2, h3⟩ := h; rfl
  · intro x c h
    obtain ⟨v0, v1, v2, v3, rfl, h0, h1, h2, h3⟩ := h
    have g0 := (rSl_p rPick_p).ref _ _ ⟨_, rfl, h0⟩
    have g1 := (rSl_p rS_p).ref _ _ ⟨_, rfl, h1⟩
    have g2 := rTestT_p.ref _ _ h2
    have g3 := (rSl_p (rI_p .i64)).ref _ _ ⟨_, rfl, h3⟩
    simp only [refsL, refs, List.append_nil] at g0 g1 g2 g3 ⊢
    simp only [g0, g1, g2, g3, List.append_nil]
  · intro x c h
    obtain ⟨v0, v1, v2, v3, rfl, h0, h1, h2, h3⟩ := h
    have g0 := h0.isCell
    have g1 := h1.isCell
    have g2 := rTestT_cell h2
    have g3 := h3.isCell
    simp only [List.all_cons, List.all_nil, g0, g1, g2, g3, c_i, c_b, c_s, Bool.and_self, Bool.and_true]
  · intro x c h
    obtain ⟨v0, v1, v2, v3, rfl, h0, h1, h2, h3⟩ := h
    exact ⟨_, _, _, _, rfl, h0.strip rPick_p, h1.strip rS_p, rTestT_p.str _ _ h2, h3.strip (rI_p .i64)⟩
structure ViewInfo where
  Set : Int
  State : Int
  Seq : Int
  Rows : Int
  Bytes : Int
  Readers : Int
instance : Inhabited ViewInfo := ⟨⟨0, 0, 0, 0, 0, 0⟩⟩
def rViewInfo (x : ViewInfo) (c : List AVal) : Prop := c = [.int .i64 x.Set, .int .i64 x.State, .int .i64 x.Seq, .int .i64 x.Rows, .int .i64 x.Bytes, .int .i64 x.Readers]
theorem rViewInfo_p : Rp rViewInfo 6 := by
  refine ⟨?_, ?_, ?_, ?_⟩
  · intro x c h; rw [h]; rfl
  · intro x c h
    rw [h]
    rfl
  · intro x c h
    rw [h]
    rfl
  · intro x c h
    rw [h]
    rfl
structure Offer where
  Rows : Int
  Head : Int
  Facts : Int
  Views : (List ViewInfo)
instance : Inhabited Offer := ⟨⟨0, 0, 0, []⟩⟩
def rOffer (x : Offer) (c : List AVal) : Prop := ∃ v0, c = [.int .i64 x.Rows, .int .i64 x.Head, .int .i64 x.Facts, v0] ∧ Sl rViewInfo x.Views v0
theorem rOffer_p : Rp rOffer 4 := by
  refine ⟨?_, ?_, ?_, ?_⟩
  · intro x c h; obtain ⟨v0, rfl, h0⟩ := h; rfl
  · intro x c h
    obtain ⟨v0, rfl, h0⟩ := h
    have g0 := (rSl_p rViewInfo_p).ref _ _ ⟨_, rfl, h0⟩
    simp only [refsL, refs, List.append_nil] at g0 ⊢
    simp only [g0, List.append_nil]
  · intro x c h
    obtain ⟨v0, rfl, h0⟩ := h
    have g0 := h0.isCell
    simp only [List.all_cons, List.all_nil, g0, c_i, c_b, c_s, Bool.and_self, Bool.and_true]
  · intro x c h
    obtain ⟨v0, rfl, h0⟩ := h
    exact ⟨_, rfl, h0.strip rViewInfo_p⟩
structure Plan where
  Base : Bool
  Set : Int
  Cost : Int
instance : Inhabited Plan := ⟨⟨false, 0, 0⟩⟩
def rPlan (x : Plan) (c : List AVal) : Prop := c = [.bool x.Base, .int .i64 x.Set, .int .i64 x.Cost]
theorem rPlan_p : Rp rPlan 3 := by
  refine ⟨?_, ?_, ?_, ?_⟩
  · intro x c h; rw [h]; rfl
  · intro x c h
    rw [h]
    rfl
  · intro x c h
    rw [h]
    rfl
  · intro x c h
    rw [h]
    rfl
theorem CP : Cl.P = Tryz.prog := rfl
namespace Ty
theorem cv243_3 (h : AHeap) (k : IntKind) (n : Int) : aconvert Tryz.prog h 243 3 (.int k n) = some (.int .i64 (IntKind.i64.wrap n), h) := by kernel_rfl
theorem and3 (xo yo : Operand) (h : AHeap) (a b : Int) : abin Cl .and 3 xo yo h (.int .i64 a) (.int .i64 b) = some (.int .i64 (bits .and .i64 a b)) := by kernel_rfl
theorem and243 (xo yo : Operand) (h : AHeap) (a b : Int) : abin Cl .and 243 xo yo h (.int .u64 a) (.int .u64 b) = some (.int .u64 (bits .and .u64 a b)) := by kernel_rfl
theorem ix33 (x : AVal) (k : IntKind) (i : Int) : aindexAddr Tryz.prog 33 x (.int k i) = indexAddrA 1 x i := by kernel_rfl
theorem ld3 (h : AHeap) (p : AVal) : aload Tryz.prog h 3 p = loadA h false 1 p := by kernel_rfl
theorem un33 : Tryz.prog.underlying 33 = some (.slice 3) := by kernel_rfl
theorem andNot3 (xo yo : Operand) (h : AHeap) (a b : Int) : abin Cl .andNot 3 xo yo h (.int .i64 a) (.int .i64 b) = some (.int .i64 (bits .andNot .i64 a b)) := by kernel_rfl
theorem or3 (xo yo : Operand) (h : AHeap) (a b : Int) : abin Cl .or 3 xo yo h (.int .i64 a) (.int .i64 b) = some (.int .i64 (bits .or .i64 a b)) := by kernel_rfl
theorem ap33 (h : AHeap) (s x : AVal) : aappend Tryz.prog false h [33, 33] [s, x] = appendA false h 1 8 s x := by kernel_rfl
theorem own_sets_go_32 : Cl.own "sets.go:32" = false := by kernel_rfl
theorem cv3_213 (h : AHeap) (k : IntKind) (n : Int) : aconvert Tryz.prog h 3 213 (.int k n) = some (.int .u64 (IntKind.u64.wrap n), h) := by kernel_rfl
theorem ze3 : zeroA Tryz.prog 3 = some (.int .i64 0) := by kernel_rfl
theorem in3 : ∃ i, Tryz.prog.info? 3 = some i ∧ i.size = 1 ∧ i.bytes = 8 := ⟨_, rfl, rfl, rfl⟩
theorem own_sets_go_29 : Cl.own "sets.go:29" = false := by kernel_rfl
theorem fa57_4 (p : AVal) : afieldAddr Tryz.prog 57 p 4 = dropCells 4 p := by kernel_rfl
theorem own_bind_go_270 : Cl.own "bind.go:270" = false := by kernel_rfl
theorem fa57_2 (p : AVal) : afieldAddr Tryz.prog 57 p 2 = dropCells 2 p := by kernel_rfl
theorem ld32 (h : AHeap) (p : AVal) : aload Tryz.prog h 32 p = loadA h false 1 p := by kernel_rfl
theorem fa57_1 (p : AVal) : afieldAddr Tryz.prog 57 p 1 = dropCells 1 p := by kernel_rfl
theorem fa57_3 (p : AVal) : afieldAddr Tryz.prog 57 p 3 = dropCells 3 p := by kernel_rfl
theorem ld4 (h : AHeap) (p : AVal) : aload Tryz.prog h 4 p = loadA h false 1 p := by kernel_rfl
theorem fa57_0 (p : AVal) : afieldAddr Tryz.prog 57 p 0 = dropCells 0 p := by kernel_rfl
theorem eqn32 (xo : Operand) (h : AHeap) : abin Cl .eql 32 xo (.const (.pointer none)) h .nilPtr .nilPtr = some (.bool true) := by kernel_rfl
theorem eqp32 (xo yo : Operand) (h : AHeap) (c : List AVal) : abin Cl .eql 32 xo yo h (.iptr c) .nilPtr = some (.bool false) := by kernel_rfl
theorem fa207_1 (p : AVal) : afieldAddr Tryz.prog 207 p 1 = dropCells 1 p := by kernel_rfl
theorem fa207_2 (p : AVal) : afieldAddr Tryz.prog 207 p 2 = dropCells 2 p := by kernel_rfl
theorem fa207_0 (p : AVal) : afieldAddr Tryz.prog 207 p 0 = dropCells 0 p := by kernel_rfl
theorem cb_parse_go_148 : Cl.cbox "parse.go:148" = true := by kernel_rfl
theorem cb_parse_go_143 : Cl.cbox "parse.go:143" = true := by kernel_rfl
theorem cb_parse_go_130 : Cl.cbox "parse.go:130" = true := by kernel_rfl
theorem cb_plan_go_27 : Cl.cbox "plan.go:27" = true := by kernel_rfl
theorem cb_plan_go_29 : Cl.cbox "plan.go:29" = true := by kernel_rfl
theorem cb_plan_go_31 : Cl.cbox "plan.go:31" = true := by kernel_rfl
theorem cb_plan_go_41 : Cl.cbox "plan.go:41" = true := by kernel_rfl
theorem cb_plan_go_61 : Cl.cbox "plan.go:61" = true := by kernel_rfl
theorem cb_cube_go_25 : Cl.cbox "cube.go:25" = true := by kernel_rfl
theorem cb_law_go_39 : Cl.cbox "law.go:39" = true := by kernel_rfl
theorem cb_ref_go_26 : Cl.cbox "ref.go:26" = true := by kernel_rfl
theorem cb_ref_go_48 : Cl.cbox "ref.go:48" = true := by kernel_rfl
theorem cb_ref_go_57 : Cl.cbox "ref.go:57" = true := by kernel_rfl
theorem cb_ref_go_65 : Cl.cbox "ref.go:65" = true := by kernel_rfl
theorem fa207_3 (p : AVal) : afieldAddr Tryz.prog 207 p 3 = dropCells 3 p := by kernel_rfl
theorem own_plan_go_32 : Cl.own "plan.go:32" = false := by kernel_rfl
theorem ld207 (h : AHeap) (p : AVal) : aload Tryz.prog h 207 p = loadA h true 6 p := by kernel_rfl
theorem st207 (h : AHeap) (p v : AVal) : astore Tryz.prog h 207 p v = storeA h 6 p v := by kernel_rfl
theorem ix68 (x : AVal) (k : IntKind) (i : Int) : aindexAddr Tryz.prog 68 x (.int k i) = indexAddrA 6 x i := by kernel_rfl
theorem ze207 : zeroA Tryz.prog 207 = some (.agg [.int .i64 0, .int .i64 0, .int .i64 0, .int .i64 0, .int .i64 0, .int .i64 0]) := by kernel_rfl
theorem own_plan_go_18 : Cl.own "plan.go:18" = false := by kernel_rfl
theorem un68 : Tryz.prog.underlying 68 = some (.slice 207) := by kernel_rfl
theorem own_plan_go_16 : Cl.own "plan.go:16" = false := by kernel_rfl
theorem own_plan_go_15 : Cl.own "plan.go:15" = false := by kernel_rfl
theorem own_ref_go_63 : Cl.own "ref.go:63" = false := by kernel_rfl
theorem own_ref_go_316 : Cl.own "ref.go:316" = false := by kernel_rfl
theorem own_ref_go_315 : Cl.own "ref.go:315" = false := by kernel_rfl
theorem own_ref_go_310 : Cl.own "ref.go:310" = false := by kernel_rfl
theorem fa35_3 (p : AVal) : afieldAddr Tryz.prog 35 p 3 = dropCells 3 p := by kernel_rfl
theorem ld33 (h : AHeap) (p : AVal) : aload Tryz.prog h 33 p = loadA h false 1 p := by kernel_rfl
theorem own_ref_go_31 : Cl.own "ref.go:31" = false := by kernel_rfl
theorem own_ref_go_29 : Cl.own "ref.go:29" = false := by kernel_rfl
theorem fa35_2 (p : AVal) : afieldAddr Tryz.prog 35 p 2 = dropCells 2 p := by kernel_rfl
theorem own_ref_go_23 : Cl.own "ref.go:23" = false := by kernel_rfl
theorem bu72 (parts : List (Nat × AVal)) : abuild Tryz.prog 72 parts = ((fillA ([(0, 1), (1, 1), (2, 1)].toArray[·]?) [.bool false, .int .i64 0, .int .i64 0] parts).bind fun c => some (.agg c)) := by kernel_rfl
theorem st72 (h : AHeap) (p v : AVal) : astore Tryz.prog h 72 p v = storeA h 3 p v := by kernel_rfl
theorem ze72 : zeroA Tryz.prog 72 = some (.agg [.bool false, .int .i64 0, .int .i64 0]) := by kernel_rfl
theorem own_ref_go_36 : Cl.own "ref.go:36" = false := by kernel_rfl
theorem ld72 (h : AHeap) (p : AVal) : aload Tryz.prog h 72 p = loadA h true 3 p := by kernel_rfl
theorem ld35 (h : AHeap) (p : AVal) : aload Tryz.prog h 35 p = loadA h true 4 p := by kernel_rfl
theorem own_ref_go_48 : Cl.own "ref.go:48" = false := by kernel_rfl
theorem fa70_3 (p : AVal) : afieldAddr Tryz.prog 70 p 3 = dropCells 3 p := by kernel_rfl
theorem ld68 (h : AHeap) (p : AVal) : aload Tryz.prog h 68 p = loadA h false 1 p := by kernel_rfl
theorem fa70_1 (p : AVal) : afieldAddr Tryz.prog 70 p 1 = dropCells 1 p := by kernel_rfl
theorem fa70_2 (p : AVal) : afieldAddr Tryz.prog 70 p 2 = dropCells 2 p := by kernel_rfl
theorem fi72_2 (cs : List AVal) : afield Tryz.prog 72 (.agg cs) 2 = if 2 ≤ cs.length then ofCells false 1 (cs.drop 2) else none := by kernel_rfl
theorem fa70_0 (p : AVal) : afieldAddr Tryz.prog 70 p 0 = dropCells 0 p := by kernel_rfl
end Ty
end Go.Proofs.Plm
