/-
  PARSE (Sc): functions (printed by wip/tools/tg.py).
-/
import Derived.Test.YthfbbjoaidajfaaGreatDoorParScTypes
set_option linter.unusedVariables false
set_option linter.unusedSimpArgs false
set_option linter.unusedSimpArgs false
set_option linter.unusedVariables false
set_option maxRecDepth 100000
namespace Go.Proofs.Par
open Go Go.Am Go.Proofs
def rFnF0 (g : (Group → Group → Option Bool)) (v : AVal) : Prop := ∃ F, v = .fn (.func F) [] [] ∧ ∀ (x0 : Group) (x1 : Group) (vx0_0 : AVal) (_ : Sl rS x0.Columns vx0_0) (vx0_1 : AVal) (_ : Sl (rSl rS) x0.Sets vx0_1) (vx1_0 : AVal) (_ : Sl rS x1.Columns vx1_0) (vx1_1 : AVal) (_ : Sl (rSl rS) x1.Sets vx1_1) (r : Bool), g x0 x1 = some r → ∀ h, run Cp F [.agg [.int .i64 x0.Kind, vx0_0, vx0_1], .agg [.int .i64 x1.Kind, vx1_0, vx1_1]] h = some (.ret (.bool r), h)
theorem rFnF0_strip {g : (Group → Group → Option Bool)} {v : AVal} (h : rFnF0 g v) : rFnF0 g (strip v) := by
  obtain ⟨F, rfl, H⟩ := h
  exact ⟨F, rfl, H⟩
theorem rFnF0_refs {g : (Group → Group → Option Bool)} {v : AVal} (h : rFnF0 g v) : refs v = [] := by
  obtain ⟨F, rfl, H⟩ := h
  rfl
/-! ### slices.Equal[[]caisson/api.Value,caisson/api.Value] -/
structure Fr99 where
  t0 : (List Value)
  t1 : (List Value)
  t4 : Bool
  t5 : Int
  t10 : Bool
  t12 : Int
  t13 : Int
  t14 : Bool
  t24 : Bool
instance : Inhabited Fr99 := ⟨⟨[], [], false, 0, false, 0, 0, false, false⟩⟩
def P99_0' (s : Fr99) (t : List AVal) (h : AHeap) : Prop := t.length = 26 ∧ True
def P99_0 (s : Fr99) (st : ASt) : Prop := P99_0' s st.tmps st.h
def P99_1' (s : Fr99) (t : List AVal) (h : AHeap) : Prop := t.length = 26 ∧ t[4]? = some (.bool s.t4)
def P99_1 (s : Fr99) (st : ASt) : Prop := P99_1' s st.tmps st.h
def P99_2' (s : Fr99) (t : List AVal) (h : AHeap) : Prop := ∃ w0_0 w1_0, t.length = 26 ∧ t[0]? = some w0_0 ∧ Sl rValue s.t0 w0_0 ∧ t[1]? = some w1_0 ∧ Sl rValue s.t1 w1_0 ∧ t[12]? = some (.int .i64 s.t12) ∧ t[13]? = some (.int .i64 s.t13)
def P99_2 (s : Fr99) (st : ASt) : Prop := P99_2' s st.tmps st.h
def P99_3' (s : Fr99) (t : List AVal) (h : AHeap) : Prop := ∃ w0_0 w1_0, t.length = 26 ∧ t[0]? = some w0_0 ∧ Sl rValue s.t0 w0_0 ∧ t[1]? = some w1_0 ∧ Sl rValue s.t1 w1_0 ∧ t[12]? = some (.int .i64 s.t12) ∧ t[13]? = some (.int .i64 s.t13) ∧ t[24]? = some (.bool s.t24)
def P99_3 (s : Fr99) (st : ASt) : Prop := P99_3' s st.tmps st.h
def P99_4' (s : Fr99) (t : List AVal) (h : AHeap) : Prop := ∃ w0_0 w1_0, t.length = 26 ∧ t[0]? = some w0_0 ∧ Sl rValue s.t0 w0_0 ∧ t[1]? = some w1_0 ∧ Sl rValue s.t1 w1_0 ∧ t[5]? = some (.int .i64 s.t5) ∧ t[12]? = some (.int .i64 s.t12) ∧ t[13]? = some (.int .i64 s.t13)
def P99_4 (s : Fr99) (st : ASt) : Prop := P99_4' s st.tmps st.h
def P99_5' (s : Fr99) (t : List AVal) (h : AHeap) : Prop := ∃ w0_0 w1_0, t.length = 26 ∧ t[0]? = some w0_0 ∧ Sl rValue s.t0 w0_0 ∧ t[1]? = some w1_0 ∧ Sl rValue s.t1 w1_0 ∧ t[12]? = some (.int .i64 s.t12) ∧ t[13]? = some (.int .i64 s.t13) ∧ t[14]? = some (.bool s.t14)
def P99_5 (s : Fr99) (st : ASt) : Prop := P99_5' s st.tmps st.h
def P99_6' (s : Fr99) (t : List AVal) (h : AHeap) : Prop := ∃ w0_0 w1_0, t.length = 26 ∧ t[0]? = some w0_0 ∧ Sl rValue s.t0 w0_0 ∧ t[1]? = some w1_0 ∧ Sl rValue s.t1 w1_0
def P99_6 (s : Fr99) (st : ASt) : Prop := P99_6' s st.tmps st.h
def P99_7' (s : Fr99) (t : List AVal) (h : AHeap) : Prop := ∃ w0_0 w1_0, t.length = 26 ∧ t[0]? = some w0_0 ∧ Sl rValue s.t0 w0_0 ∧ t[1]? = some w1_0 ∧ Sl rValue s.t1 w1_0 ∧ t[10]? = some (.bool s.t10)
def P99_7 (s : Fr99) (st : ASt) : Prop := P99_7' s st.tmps st.h
noncomputable def m99_0 : Mo Fr99 := fun s => some (.nrm, { s with t4 := true })
noncomputable def m99_1 : Mo Fr99 := fun s => some (.nrm, { s with t13 := IntKind.wrap .i64 (s.t13 + 1) })
noncomputable def m99_2 : Mo Fr99 := fun s => some (.nrm, { s with t4 := false })
noncomputable def m99_3 : Mo Fr99 := fun s => (at? s.t0 s.t5).bind fun y1 => (at? s.t1 s.t5).bind fun y3 => some (.nrm, { s with t24 := (!eqValue y1 y3) })
noncomputable def m99_4 : Mo Fr99 := fun s => some (.nrm, { s with t5 := s.t13 })
noncomputable def m99_5 : Mo Fr99 := fun s => some (.nrm, { s with t14 := decide (s.t13 < s.t12) })
noncomputable def L99_6 : Mo Fr99 := seqM (m99_5) (seqM (condM (fun s => s.t14) (skipM) (exitM 0)) (seqM (blockM 1 (seqM (m99_4) (seqM (m99_3) (condM (fun s => s.t24) (seqM (m99_2) (retM)) (skipM))))) (m99_1)))
noncomputable def m99_7 : Mo Fr99 := fun s => some (.nrm, { s with t12 := (s.t0.length : Int), t13 := 0 })
noncomputable def m99_8 : Mo Fr99 := fun s => some (.nrm, { s with t4 := false })
noncomputable def m99_9 : Mo Fr99 := fun s => some (.nrm, { s with t10 := ((s.t0.length : Int) != (s.t1.length : Int)) })
noncomputable def m99_10 : Mo Fr99 := fun s => some (.nrm, s)
noncomputable def M99 : Mo Fr99 := seqM (m99_10) (seqM (seqM (m99_9) (condM (fun s => s.t10) (seqM (m99_8) (retM)) (skipM))) (seqM (seqM (m99_7) (blockM 0 (loopM (L99_6)))) (seqM (m99_0) (retM))))
def Spec99 (f : (List Value) → (List Value) → Option Bool) : Prop := ∀ (x0 : (List Value)) (x1 : (List Value)) (vx0_0 : AVal) (_ : Sl rValue x0 vx0_0) (vx1_0 : AVal) (_ : Sl rValue x1 vx1_0) (r : Bool), f x0 x1 = some r → ∀ h, run Cp 99 [vx0_0, vx1_0] h = some (.ret (.bool r), h)
theorem Spec99_of {f g : (List Value) → (List Value) → Option Bool} (hg : Spec99 g) (h : ∀ x0 x1 r, f x0 x1 = some r → g x0 x1 = some r) : Spec99 f := fun x0 x1 v0_ w0_ v1_ w1_ r hr => hg x0 x1 v0_ w0_ v1_ w1_ r (h x0 x1 r hr)
theorem R99_0 (pe : Nat → Fr99 → ASt → Prop) (pr : Fr99 → ASt → Prop) : Ref Cp P99_0 (Cat [true, true, true, false] (bodyOf Tryz.f99)) m99_0 (post P99_1 pe pr) := by
  rintro s ⟨t, h⟩ hp x s' hm
  have hp : P99_0' s t h := hp
  obtain ⟨hl, _⟩ := hp
  unfold m99_0 at hm
  cases hm
  refine ⟨⟨_, _⟩, by
      simp only [bodyOf, Tryz.f99, Cat, Bool.false_eq_true, e_seq, e_region, e_cond, e_block, ex_skip, ex_exit, ex_ret, o_cons, xops_nil, k_want_none, k_want_false, k_val, k_pan, k_call, k_ret, k_seq, k_seq_exit, k_seq_ret, k_true, k_false, k_block, k_block_exit, k_block_ret, k_loop, k_loop_exit, k_loop_ret, awanted, aoper, evalO, put, Option.getD_some, List.getElem?_set, acallOp, abuiltin, List.map_cons, List.map_nil, Nat.reduceEqDiff, Nat.reduceLT, List.length_set, Option.map_some, Option.bind_some, Option.bind_eq_bind, add_i, sub_i, mul_i, eql_i, neq_i, lss_i, leq_i, gtr_i, geq_i, ofV, ofCell, ↓reduceIte, List.cons_append, List.nil_append, List.append_nil, List.getElem?_toArray, List.getElem?_cons_succ, List.getElem?_cons_zero, e_draw, g_nil, g_cons, g_want, g_skip, g_val, g_call, g_ret, Option.map_none, hl, CP, bq1, bq2, bq3, bq4, ex_tup]
      exact rfl, ?_⟩
  show P99_1 _ _
  exact ⟨by simp [hl], by simp [hl]⟩
theorem R99_1 (pe : Nat → Fr99 → ASt → Prop) (pr : Fr99 → ASt → Prop) : Ref Cp P99_2 (Cat [true, true, false, true, true, true, true, true, true] (bodyOf Tryz.f99)) m99_1 (post P99_2 pe pr) := by
  rintro s ⟨t, h⟩ hp x s' hm
  have hp : P99_2' s t h := hp
  obtain ⟨w0_0, w1_0, hl, a0, r0_0, a1, r1_0, a12, a13⟩ := hp
  unfold m99_1 at hm
  cases hm
  refine ⟨⟨_, _⟩, by
      simp only [bodyOf, Tryz.f99, Cat, Bool.false_eq_true, e_seq, e_region, e_cond, e_block, ex_skip, ex_exit, ex_ret, o_cons, xops_nil, k_want_none, k_want_false, k_val, k_pan, k_call, k_ret, k_seq, k_seq_exit, k_seq_ret, k_true, k_false, k_block, k_block_exit, k_block_ret, k_loop, k_loop_exit, k_loop_ret, awanted, aoper, evalO, put, Option.getD_some, List.getElem?_set, acallOp, abuiltin, List.map_cons, List.map_nil, Nat.reduceEqDiff, Nat.reduceLT, List.length_set, Option.map_some, Option.bind_some, Option.bind_eq_bind, add_i, sub_i, mul_i, eql_i, neq_i, lss_i, leq_i, gtr_i, geq_i, ofV, ofCell, ↓reduceIte, List.cons_append, List.nil_append, List.append_nil, List.getElem?_toArray, List.getElem?_cons_succ, List.getElem?_cons_zero, e_draw, g_nil, g_cons, g_want, g_skip, g_val, g_call, g_ret, Option.map_none, hl, a0, a1, a12, a13, CP, bq1, bq2, bq3, bq4, ex_tup]
      exact rfl, ?_⟩
  show P99_2 _ _
  exact ⟨w0_0, w1_0, by simp [hl], by simp [a0], r0_0, by simp [a1], r1_0, by simp [a12], by simp [hl]⟩
theorem R99_2 (pe : Nat → Fr99 → ASt → Prop) (pr : Fr99 → ASt → Prop) : Ref Cp P99_0 (Cat [true, true, false, true, true, true, true, true, false, true, true, true, false, false] (bodyOf Tryz.f99)) m99_2 (post P99_1 pe pr) := by
  rintro s ⟨t, h⟩ hp x s' hm
  have hp : P99_0' s t h := hp
  obtain ⟨hl, _⟩ := hp
  unfold m99_2 at hm
  cases hm
  refine ⟨⟨_, _⟩, by
      simp only [bodyOf, Tryz.f99, Cat, Bool.false_eq_true, e_seq, e_region, e_cond, e_block, ex_skip, ex_exit, ex_ret, o_cons, xops_nil, k_want_none, k_want_false, k_val, k_pan, k_call, k_ret, k_seq, k_seq_exit, k_seq_ret, k_true, k_false, k_block, k_block_exit, k_block_ret, k_loop, k_loop_exit, k_loop_ret, awanted, aoper, evalO, put, Option.getD_some, List.getElem?_set, acallOp, abuiltin, List.map_cons, List.map_nil, Nat.reduceEqDiff, Nat.reduceLT, List.length_set, Option.map_some, Option.bind_some, Option.bind_eq_bind, add_i, sub_i, mul_i, eql_i, neq_i, lss_i, leq_i, gtr_i, geq_i, ofV, ofCell, ↓reduceIte, List.cons_append, List.nil_append, List.append_nil, List.getElem?_toArray, List.getElem?_cons_succ, List.getElem?_cons_zero, e_draw, g_nil, g_cons, g_want, g_skip, g_val, g_call, g_ret, Option.map_none, hl, CP, bq1, bq2, bq3, bq4, ex_tup]
      exact rfl, ?_⟩
  show P99_1 _ _
  exact ⟨by simp [hl], by simp [hl]⟩
theorem R99_3 (pe : Nat → Fr99 → ASt → Prop) (pr : Fr99 → ASt → Prop) : Ref Cp P99_4 (Cat [true, true, false, true, true, true, true, true, false, true, true, false] (bodyOf Tryz.f99)) m99_3 (post P99_3 pe pr) := by
  rintro s ⟨t, h⟩ hp x s' hm
  have hp : P99_4' s t h := hp
  obtain ⟨w0_0, w1_0, hl, a0, r0_0, a1, r1_0, a5, a12, a13⟩ := hp
  unfold m99_3 at hm
  obtain ⟨y6, hy6, hm⟩ := Option.bind_eq_some_iff.1 hm
  obtain ⟨cu7, du7, eu7, iu7, _⟩ := Sl.ix rValue_p r0_0 hy6
  have eu7 := eu7; unfold rValue at eu7; subst eu7
  obtain ⟨y8, hy8, hm⟩ := Option.bind_eq_some_iff.1 hm
  obtain ⟨cu9, du9, eu9, iu9, _⟩ := Sl.ix rValue_p r1_0 hy8
  have eu9 := eu9; unfold rValue at eu9; subst eu9
  have k10 : ∀ (xo yo : Operand) (h : AHeap), abin Cp .neq 47 xo yo h (.agg [.bool y6.IsText, .str y6.Text, .int .i64 y6.Int]) (.agg [.bool y8.IsText, .str y8.Text, .int .i64 y8.Int]) = some (.bool (!eqValue y6 y8)) := fun xo yo h => TyF.neqs47 xo yo h y6 y8
  cases hm
  refine ⟨⟨_, _⟩, by
      simp only [bodyOf, Tryz.f99, Cat, Bool.false_eq_true, e_seq, e_region, e_cond, e_block, ex_skip, ex_exit, ex_ret, o_cons, xops_nil, k_want_none, k_want_false, k_val, k_pan, k_call, k_ret, k_seq, k_seq_exit, k_seq_ret, k_true, k_false, k_block, k_block_exit, k_block_ret, k_loop, k_loop_exit, k_loop_ret, awanted, aoper, evalO, put, Option.getD_some, List.getElem?_set, acallOp, abuiltin, List.map_cons, List.map_nil, Nat.reduceEqDiff, Nat.reduceLT, List.length_set, Option.map_some, Option.bind_some, Option.bind_eq_bind, add_i, sub_i, mul_i, eql_i, neq_i, lss_i, leq_i, gtr_i, geq_i, ofV, ofCell, ↓reduceIte, List.cons_append, List.nil_append, List.append_nil, List.getElem?_toArray, List.getElem?_cons_succ, List.getElem?_cons_zero, e_draw, g_nil, g_cons, g_want, g_skip, g_val, g_call, g_ret, Option.map_none, hl, a0, a1, a5, a12, a13, CP, bq1, bq2, bq3, bq4, ex_tup, TyF.ix48, iu7, TyF.ld47, ld_ip, ofc3, List.drop_succ_cons, List.drop_zero, List.length_cons, List.length_nil, iu9, k10]
      rw [k_draw _ _ _ (by kernel_rfl)]
      exact rfl, ?_⟩
  show P99_3 _ _
  exact ⟨w0_0, w1_0, by simp [hl], by simp [a0], r0_0, by simp [a1], r1_0, by simp [a12], by simp [a13], by simp [hl]⟩
theorem R99_4 (pe : Nat → Fr99 → ASt → Prop) (pr : Fr99 → ASt → Prop) : Ref Cp P99_2 (Cat [true, true, false, true, true, true, true, true, false, true, false] (bodyOf Tryz.f99)) m99_4 (post P99_4 pe pr) := by
  rintro s ⟨t, h⟩ hp x s' hm
  have hp : P99_2' s t h := hp
  obtain ⟨w0_0, w1_0, hl, a0, r0_0, a1, r1_0, a12, a13⟩ := hp
  unfold m99_4 at hm
  cases hm
  refine ⟨⟨_, _⟩, by
      simp only [bodyOf, Tryz.f99, Cat, Bool.false_eq_true, e_seq, e_region, e_cond, e_block, ex_skip, ex_exit, ex_ret, o_cons, xops_nil, k_want_none, k_want_false, k_val, k_pan, k_call, k_ret, k_seq, k_seq_exit, k_seq_ret, k_true, k_false, k_block, k_block_exit, k_block_ret, k_loop, k_loop_exit, k_loop_ret, awanted, aoper, evalO, put, Option.getD_some, List.getElem?_set, acallOp, abuiltin, List.map_cons, List.map_nil, Nat.reduceEqDiff, Nat.reduceLT, List.length_set, Option.map_some, Option.bind_some, Option.bind_eq_bind, add_i, sub_i, mul_i, eql_i, neq_i, lss_i, leq_i, gtr_i, geq_i, ofV, ofCell, ↓reduceIte, List.cons_append, List.nil_append, List.append_nil, List.getElem?_toArray, List.getElem?_cons_succ, List.getElem?_cons_zero, e_draw, g_nil, g_cons, g_want, g_skip, g_val, g_call, g_ret, Option.map_none, hl, a0, a1, a12, a13, CP, bq1, bq2, bq3, bq4, ex_tup]
      exact rfl, ?_⟩
  show P99_4 _ _
  exact ⟨w0_0, w1_0, by simp [hl], by simp [a0], r0_0, by simp [a1], r1_0, by simp [hl], by simp [a12], by simp [a13]⟩
theorem R99_5 (pe : Nat → Fr99 → ASt → Prop) (pr : Fr99 → ASt → Prop) : Ref Cp P99_2 (Cat [true, true, false, true, true, true, false] (bodyOf Tryz.f99)) m99_5 (post P99_5 pe pr) := by
  rintro s ⟨t, h⟩ hp x s' hm
  have hp : P99_2' s t h := hp
  obtain ⟨w0_0, w1_0, hl, a0, r0_0, a1, r1_0, a12, a13⟩ := hp
  unfold m99_5 at hm
  cases hm
  refine ⟨⟨_, _⟩, by
      simp only [bodyOf, Tryz.f99, Cat, Bool.false_eq_true, e_seq, e_region, e_cond, e_block, ex_skip, ex_exit, ex_ret, o_cons, xops_nil, k_want_none, k_want_false, k_val, k_pan, k_call, k_ret, k_seq, k_seq_exit, k_seq_ret, k_true, k_false, k_block, k_block_exit, k_block_ret, k_loop, k_loop_exit, k_loop_ret, awanted, aoper, evalO, put, Option.getD_some, List.getElem?_set, acallOp, abuiltin, List.map_cons, List.map_nil, Nat.reduceEqDiff, Nat.reduceLT, List.length_set, Option.map_some, Option.bind_some, Option.bind_eq_bind, add_i, sub_i, mul_i, eql_i, neq_i, lss_i, leq_i, gtr_i, geq_i, ofV, ofCell, ↓reduceIte, List.cons_append, List.nil_append, List.append_nil, List.getElem?_toArray, List.getElem?_cons_succ, List.getElem?_cons_zero, e_draw, g_nil, g_cons, g_want, g_skip, g_val, g_call, g_ret, Option.map_none, hl, a0, a1, a12, a13, CP, bq1, bq2, bq3, bq4, ex_tup]
      exact rfl, ?_⟩
  show P99_5 _ _
  exact ⟨w0_0, w1_0, by simp [hl], by simp [a0], r0_0, by simp [a1], r1_0, by simp [a12], by simp [a13], by simp [hl]⟩
theorem R99_7 (pe : Nat → Fr99 → ASt → Prop) (pr : Fr99 → ASt → Prop) : Ref Cp P99_6 (Cat [true, true, false, false] (bodyOf Tryz.f99)) m99_7 (post P99_2 pe pr) := by
  rintro s ⟨t, h⟩ hp x s' hm
  have hp : P99_6' s t h := hp
  obtain ⟨w0_0, w1_0, hl, a0, r0_0, a1, r1_0⟩ := hp
  unfold m99_7 at hm
  have lu12 := fun h => Sl.len r0_0 TyF.un48 h
  cases hm
  refine ⟨⟨_, _⟩, by
      simp only [bodyOf, Tryz.f99, Cat, Bool.false_eq_true, e_seq, e_region, e_cond, e_block, ex_skip, ex_exit, ex_ret, o_cons, xops_nil, k_want_none, k_want_false, k_val, k_pan, k_call, k_ret, k_seq, k_seq_exit, k_seq_ret, k_true, k_false, k_block, k_block_exit, k_block_ret, k_loop, k_loop_exit, k_loop_ret, awanted, aoper, evalO, put, Option.getD_some, List.getElem?_set, acallOp, abuiltin, List.map_cons, List.map_nil, Nat.reduceEqDiff, Nat.reduceLT, List.length_set, Option.map_some, Option.bind_some, Option.bind_eq_bind, add_i, sub_i, mul_i, eql_i, neq_i, lss_i, leq_i, gtr_i, geq_i, ofV, ofCell, ↓reduceIte, List.cons_append, List.nil_append, List.append_nil, List.getElem?_toArray, List.getElem?_cons_succ, List.getElem?_cons_zero, e_draw, g_nil, g_cons, g_want, g_skip, g_val, g_call, g_ret, Option.map_none, hl, a0, a1, CP, bq1, bq2, bq3, bq4, ex_tup, lu12]
      exact rfl, ?_⟩
  show P99_2 _ _
  exact ⟨w0_0, w1_0, by simp [hl], by simp [a0], r0_0, by simp [a1], r1_0, by simp [hl], by simp [hl]⟩
theorem R99_8 (pe : Nat → Fr99 → ASt → Prop) (pr : Fr99 → ASt → Prop) : Ref Cp P99_0 (Cat [true, false, true, false, false] (bodyOf Tryz.f99)) m99_8 (post P99_1 pe pr) := by
  rintro s ⟨t, h⟩ hp x s' hm
  have hp : P99_0' s t h := hp
  obtain ⟨hl, _⟩ := hp
  unfold m99_8 at hm
  cases hm
  refine ⟨⟨_, _⟩, by
      simp only [bodyOf, Tryz.f99, Cat, Bool.false_eq_true, e_seq, e_region, e_cond, e_block, ex_skip, ex_exit, ex_ret, o_cons, xops_nil, k_want_none, k_want_false, k_val, k_pan, k_call, k_ret, k_seq, k_seq_exit, k_seq_ret, k_true, k_false, k_block, k_block_exit, k_block_ret, k_loop, k_loop_exit, k_loop_ret, awanted, aoper, evalO, put, Option.getD_some, List.getElem?_set, acallOp, abuiltin, List.map_cons, List.map_nil, Nat.reduceEqDiff, Nat.reduceLT, List.length_set, Option.map_some, Option.bind_some, Option.bind_eq_bind, add_i, sub_i, mul_i, eql_i, neq_i, lss_i, leq_i, gtr_i, geq_i, ofV, ofCell, ↓reduceIte, List.cons_append, List.nil_append, List.append_nil, List.getElem?_toArray, List.getElem?_cons_succ, List.getElem?_cons_zero, e_draw, g_nil, g_cons, g_want, g_skip, g_val, g_call, g_ret, Option.map_none, hl, CP, bq1, bq2, bq3, bq4, ex_tup]
      exact rfl, ?_⟩
  show P99_1 _ _
  exact ⟨by simp [hl], by simp [hl]⟩
theorem R99_9 (pe : Nat → Fr99 → ASt → Prop) (pr : Fr99 → ASt → Prop) : Ref Cp P99_6 (Cat [true, false, false] (bodyOf Tryz.f99)) m99_9 (post P99_7 pe pr) := by
  rintro s ⟨t, h⟩ hp x s' hm
  have hp : P99_6' s t h := hp
  obtain ⟨w0_0, w1_0, hl, a0, r0_0, a1, r1_0⟩ := hp
  unfold m99_9 at hm
  have lu15 := fun h => Sl.len r0_0 TyF.un48 h
  have lu16 := fun h => Sl.len r1_0 TyF.un48 h
  cases hm
  refine ⟨⟨_, _⟩, by
      simp only [bodyOf, Tryz.f99, Cat, Bool.false_eq_true, e_seq, e_region, e_cond, e_block, ex_skip, ex_exit, ex_ret, o_cons, xops_nil, k_want_none, k_want_false, k_val, k_pan, k_call, k_ret, k_seq, k_seq_exit, k_seq_ret, k_true, k_false, k_block, k_block_exit, k_block_ret, k_loop, k_loop_exit, k_loop_ret, awanted, aoper, evalO, put, Option.getD_some, List.getElem?_set, acallOp, abuiltin, List.map_cons, List.map_nil, Nat.reduceEqDiff, Nat.reduceLT, List.length_set, Option.map_some, Option.bind_some, Option.bind_eq_bind, add_i, sub_i, mul_i, eql_i, neq_i, lss_i, leq_i, gtr_i, geq_i, ofV, ofCell, ↓reduceIte, List.cons_append, List.nil_append, List.append_nil, List.getElem?_toArray, List.getElem?_cons_succ, List.getElem?_cons_zero, e_draw, g_nil, g_cons, g_want, g_skip, g_val, g_call, g_ret, Option.map_none, hl, a0, a1, CP, bq1, bq2, bq3, bq4, ex_tup, lu15, lu16]
      exact rfl, ?_⟩
  show P99_7 _ _
  exact ⟨w0_0, w1_0, by simp [hl], by simp [a0], r0_0, by simp [a1], r1_0, by simp [hl]⟩
theorem R99_10 (pe : Nat → Fr99 → ASt → Prop) (pr : Fr99 → ASt → Prop) : Ref Cp P99_6 (Cat [false] (bodyOf Tryz.f99)) m99_10 (post P99_6 pe pr) := by
  rintro s ⟨t, h⟩ hp x s' hm
  have hp : P99_6' s t h := hp
  obtain ⟨w0_0, w1_0, hl, a0, r0_0, a1, r1_0⟩ := hp
  unfold m99_10 at hm
  cases hm
  refine ⟨⟨_, _⟩, by
      simp only [bodyOf, Tryz.f99, Cat, Bool.false_eq_true, e_seq, e_region, e_cond, e_block, ex_skip, ex_exit, ex_ret, o_cons, xops_nil, k_want_none, k_want_false, k_val, k_pan, k_call, k_ret, k_seq, k_seq_exit, k_seq_ret, k_true, k_false, k_block, k_block_exit, k_block_ret, k_loop, k_loop_exit, k_loop_ret, awanted, aoper, evalO, put, Option.getD_some, List.getElem?_set, acallOp, abuiltin, List.map_cons, List.map_nil, Nat.reduceEqDiff, Nat.reduceLT, List.length_set, Option.map_some, Option.bind_some, Option.bind_eq_bind, add_i, sub_i, mul_i, eql_i, neq_i, lss_i, leq_i, gtr_i, geq_i, ofV, ofCell, ↓reduceIte, List.cons_append, List.nil_append, List.append_nil, List.getElem?_toArray, List.getElem?_cons_succ, List.getElem?_cons_zero, e_draw, g_nil, g_cons, g_want, g_skip, g_val, g_call, g_ret, Option.map_none, hl, a0, a1, CP, bq1, bq2, bq3, bq4, ex_tup]
      exact rfl, ?_⟩
  show P99_6 _ _
  exact ⟨w0_0, w1_0, by simp [hl], by simp [a0], r0_0, by simp [a1], r1_0⟩
theorem B99 : Ref Cp P99_6 (bodyOf Tryz.f99) (M99) (post P99_1 (fun _ _ _ => False) P99_1) := by
  rw [show bodyOf Tryz.f99 = .seq (Cat [false] (bodyOf Tryz.f99)) (.seq (.seq (Cat [true, false, false] (bodyOf Tryz.f99)) (.cond (.tmp 10) (.seq (Cat [true, false, true, false, false] (bodyOf Tryz.f99)) (.ret)) (.skip))) (.seq (.seq (Cat [true, true, false, false] (bodyOf Tryz.f99)) (.block 0 (.loop (.seq (Cat [true, true, false, true, true, true, false] (bodyOf Tryz.f99)) (.seq (.cond (.tmp 14) (.skip) (.exit 0)) (.seq (.block 1 (.seq (Cat [true, true, false, true, true, true, true, true, false, true, false] (bodyOf Tryz.f99)) (.seq (Cat [true, true, false, true, true, true, true, true, false, true, true, false] (bodyOf Tryz.f99)) (.cond (.tmp 24) (.seq (Cat [true, true, false, true, true, true, true, true, false, true, true, true, false, false] (bodyOf Tryz.f99)) (.ret)) (.skip))))) (Cat [true, true, false, true, true, true, true, true, true] (bodyOf Tryz.f99)))))))) (.seq (Cat [true, true, true, false] (bodyOf Tryz.f99)) (.ret)))) from rfl]
  unfold M99
  exact ref_seq (M := P99_6) (R99_10 _ _) (ref_seq (M := P99_6) (ref_seq (M := P99_7) (R99_9 _ _) (ref_cond (P := P99_7) (c := fun s => s.t10) (fun s st hp => by obtain ⟨w0_0, w1_0, hl, a0, r0_0, a1, r1_0, a10⟩ := (hp : P99_7' s st.tmps st.h); simp only [evalO, a10, Option.getD_some]) (ref_weak (P' := P99_0) (fun s st hp => by obtain ⟨w0_0, w1_0, hl, a0, r0_0, a1, r1_0, a10⟩ := (hp : P99_7' s st.tmps st.h); exact (⟨hl, trivial⟩ : P99_0' s st.tmps st.h)) (ref_seq (M := P99_1) (R99_8 _ _) (ref_ret (fun s st hp => hp)))) (ref_weak (P' := P99_6) (fun s st hp => by obtain ⟨w0_0, w1_0, hl, a0, r0_0, a1, r1_0, a10⟩ := (hp : P99_7' s st.tmps st.h); exact (⟨w0_0, w1_0, hl, a0, r0_0, a1, r1_0⟩ : P99_6' s st.tmps st.h)) (ref_skip (fun s st hp => hp))))) (ref_seq (M := P99_0) (ref_seq (M := P99_2) (R99_7 _ _) (ref_block (ref_loop (P := P99_2) (ref_weak (P' := P99_2) (fun s st hp => hp) (ref_seq (M := P99_5) (R99_5 _ _) (ref_seq (M := P99_2) (ref_cond (P := P99_5) (c := fun s => s.t14) (fun s st hp => by obtain ⟨w0_0, w1_0, hl, a0, r0_0, a1, r1_0, a12, a13, a14⟩ := (hp : P99_5' s st.tmps st.h); simp only [evalO, a14, Option.getD_some]) (ref_weak (P' := P99_2) (fun s st hp => by obtain ⟨w0_0, w1_0, hl, a0, r0_0, a1, r1_0, a12, a13, a14⟩ := (hp : P99_5' s st.tmps st.h); exact (⟨w0_0, w1_0, hl, a0, r0_0, a1, r1_0, a12, a13⟩ : P99_2' s st.tmps st.h)) (ref_skip (fun s st hp => hp))) (ref_weak (P' := P99_0) (fun s st hp => by obtain ⟨w0_0, w1_0, hl, a0, r0_0, a1, r1_0, a12, a13, a14⟩ := (hp : P99_5' s st.tmps st.h); exact (⟨hl, trivial⟩ : P99_0' s st.tmps st.h)) (ref_exit (fun s st hp => hp)))) (ref_seq (M := P99_2) (ref_block (ref_seq (M := P99_4) (R99_4 _ _) (ref_seq (M := P99_3) (R99_3 _ _) (ref_cond (P := P99_3) (c := fun s => s.t24) (fun s st hp => by obtain ⟨w0_0, w1_0, hl, a0, r0_0, a1, r1_0, a12, a13, a24⟩ := (hp : P99_3' s st.tmps st.h); simp only [evalO, a24, Option.getD_some]) (ref_weak (P' := P99_0) (fun s st hp => by obtain ⟨w0_0, w1_0, hl, a0, r0_0, a1, r1_0, a12, a13, a24⟩ := (hp : P99_3' s st.tmps st.h); exact (⟨hl, trivial⟩ : P99_0' s st.tmps st.h)) (ref_seq (M := P99_1) (R99_2 _ _) (ref_ret (fun s st hp => hp)))) (ref_weak (P' := P99_2) (fun s st hp => by obtain ⟨w0_0, w1_0, hl, a0, r0_0, a1, r1_0, a12, a13, a24⟩ := (hp : P99_3' s st.tmps st.h); exact (⟨w0_0, w1_0, hl, a0, r0_0, a1, r1_0, a12, a13⟩ : P99_2' s st.tmps st.h)) (ref_skip (fun s st hp => hp))))))) (R99_1 _ _)))))))) (ref_seq (M := P99_1) (R99_0 _ _) (ref_ret (fun s st hp => hp)))))
noncomputable def G99 (x0 : (List Value)) (x1 : (List Value)) : Option Bool := match M99 { (default : Fr99) with t0 := x0, t1 := x1 } with
  | some (.nrm, s) => some s.t4
  | some (.ret, s) => some s.t4
  | _ => none
theorem G99_spec : Spec99 (G99) := by
  intro x0 x1 vx0_0 hvx0_0 vx1_0 hvx1_0 r hr
  unfold G99 at hr
  cases hm : M99 { (default : Fr99) with t0 := x0, t1 := x1 } with
  | none => rw [hm] at hr; cases hr
  | some q =>
    obtain ⟨x, s⟩ := q
    rw [hm] at hr
    have hx : x = .nrm ∨ x = .ret := by cases x <;> first | exact .inl rfl | exact .inr rfl | cases hr
    have hr : s.t4 = r := by cases x <;> first | exact Option.some.inj hr | cases hr
    subst hr
    have hp0 : P99_6' ({ (default : Fr99) with t0 := x0, t1 := x1 }) (slots Tryz.f99 (stripL [vx0_0, vx1_0])) bare := ⟨(strip vx0_0 : AVal), (strip vx1_0 : AVal), rfl, rfl, hvx0_0.strip rValue_p, rfl, hvx1_0.strip rValue_p⟩
    obtain ⟨v, hR, hrun⟩ := run_of_ref (C := Cp) (f := 99) (fn := Tryz.f99) Tryz.func99 rfl rfl rfl rfl (args := [vx0_0, vx1_0]) (by simp only [refsL, refs, List.append_nil, hvx0_0.refs rValue_p, hvx1_0.refs rValue_p]) (B99) (s0 := { (default : Fr99) with t0 := x0, t1 := x1 }) hp0 hm hx (R := fun v => v = .bool s.t4) (by
      have key : ∀ st : ASt, P99_1 s st → ∃ vs v, aresults Cp Tryz.f99.results.toList st = some vs ∧ Nrm [] st.h (packRes vs) v ∧ (fun v => v = .bool s.t4) v := by
        intro st hp
        obtain ⟨hl, a4⟩ := (hp : P99_1' s st.tmps st.h)
        exact ⟨[.bool s.t4], _, by simp only [show Tryz.f99.results.toList = [ResultVar.tmp 4] from rfl, aresults, ares1, CP, a4, Option.getD_some], (Nrm.of (w := .bool s.t4) (by simp only [refsL, refs, List.append_nil])), rfl⟩
      intro st hq
      rcases hx with rfl | rfl
      · exact key st hq
      · exact key st hq)
    subst hR
    exact hrun
/-! ### caisson/parse.sameCond -/
structure Fr56 where
  st : Int
  t0 : CondT
  t1 : CondT
  t6 : Bool
  t12 : Bool
instance : Inhabited Fr56 := ⟨⟨0, default, default, false, false⟩⟩
def P56_0' (d0 : Nat) (s : Fr56) (t : List AVal) (h : AHeap) : Prop := ∃ w0_0 w1_0, t.length = 93 ∧ h.get d0 = some (.arr [.int .i64 s.st]) ∧ d0 < h.next ∧ t[0]? = some w0_0 ∧ rCondT s.t0 [w0_0] ∧ t[1]? = some w1_0 ∧ rCondT s.t1 [w1_0] ∧ t[2]? = some (.ptr d0 0)
def P56_0 (d0 : Nat) (s : Fr56) (st : ASt) : Prop := P56_0' d0 s st.tmps st.h
def P56_1' (d0 : Nat) (s : Fr56) (t : List AVal) (h : AHeap) : Prop := t.length = 93 ∧ h.get d0 = some (.arr [.int .i64 s.st]) ∧ d0 < h.next ∧ t[6]? = some (.bool s.t6)
def P56_1 (d0 : Nat) (s : Fr56) (st : ASt) : Prop := P56_1' d0 s st.tmps st.h
def P56_2' (d0 : Nat) (s : Fr56) (t : List AVal) (h : AHeap) : Prop := ∃ w0_0 w1_0, t.length = 93 ∧ h.get d0 = some (.arr [.int .i64 s.st]) ∧ d0 < h.next ∧ t[0]? = some w0_0 ∧ rCondT s.t0 [w0_0] ∧ t[1]? = some w1_0 ∧ rCondT s.t1 [w1_0]
def P56_2 (d0 : Nat) (s : Fr56) (st : ASt) : Prop := P56_2' d0 s st.tmps st.h
def P56_3' (d0 : Nat) (s : Fr56) (t : List AVal) (h : AHeap) : Prop := ∃ w0_0 w1_0, t.length = 93 ∧ h.get d0 = some (.arr [.int .i64 s.st]) ∧ d0 < h.next ∧ t[0]? = some w0_0 ∧ rCondT s.t0 [w0_0] ∧ t[1]? = some w1_0 ∧ rCondT s.t1 [w1_0] ∧ t[2]? = some (.ptr d0 0) ∧ t[12]? = some (.bool s.t12)
def P56_3 (d0 : Nat) (s : Fr56) (st : ASt) : Prop := P56_3' d0 s st.tmps st.h
noncomputable def m56_0 (rec56 : Int → CondT → CondT → Option (Int × Bool)) : Mo Fr56 := fun s => (cond (decide (s.st ≥ 0)) ((s.t0.get).bind fun n2 => (s.t1.get).bind fun n4 => some (n2.Kind == n4.Kind)) (some false)).bind fun x6 => (cond ((decide (s.st ≥ 0)) && x6) ((s.t0.get).bind fun n7 => (s.t1.get).bind fun n9 => some (n7.Column == n9.Column)) (some false)).bind fun x11 => (cond (((decide (s.st ≥ 0)) && x6) && x11) ((s.t0.get).bind fun n12 => (s.t1.get).bind fun n14 => some (n12.Op == n14.Op)) (some false)).bind fun x16 => (cond ((((decide (s.st ≥ 0)) && x6) && x11) && x16) ((s.t0.get).bind fun n17 => (s.t1.get).bind fun n19 => (G99 n17.Values n19.Values).bind fun z21 => some z21) (some false)).bind fun x23 => cond (((((decide (s.st ≥ 0)) && x6) && x11) && x16) && x23) ((s.t0.get).bind fun n33 => (s.t1.get).bind fun n35 => (rec56 s.st n33.Left n35.Left).bind fun z37 => cond z37.2 ((rec56 z37.1 n33.Right n35.Right).bind fun z47 => some (.nrm, { s with st := z47.1, t6 := z47.2 })) (some (.nrm, { s with st := z37.1, t6 := false }))) (some (.nrm, { s with t6 := false }))
noncomputable def m56_1 (rec56 : Int → CondT → CondT → Option (Int × Bool)) : Mo Fr56 := fun s => some (.nrm, { s with st := IntKind.wrap .i64 (s.st - 1) })
noncomputable def m56_2 (rec56 : Int → CondT → CondT → Option (Int × Bool)) : Mo Fr56 := fun s => (ptrT s.t0.isNil s.t1.isNil).bind fun z93 => some (.nrm, { s with t6 := z93 })
noncomputable def m56_3 (rec56 : Int → CondT → CondT → Option (Int × Bool)) : Mo Fr56 := fun s => some (.nrm, { s with t12 := (s.t0.isNil || s.t1.isNil) })
noncomputable def m56_4 (rec56 : Int → CondT → CondT → Option (Int × Bool)) : Mo Fr56 := fun s => some (.nrm, s)
noncomputable def M56 (rec56 : Int → CondT → CondT → Option (Int × Bool)) : Mo Fr56 := seqM (m56_4 rec56) (seqM (seqM (m56_3 rec56) (condM (fun s => s.t12) (seqM (m56_2 rec56) (retM)) (skipM))) (seqM (m56_1 rec56) (seqM (m56_0 rec56) (retM))))
def Spec56 (f : Int → CondT → CondT → Option (Int × Bool)) : Prop := ∀ (st0 : Int) (x0 : CondT) (x1 : CondT) (hp : AHeap) (d0 : Nat) (vx0_0 : AVal) (_ : rCondT x0 [vx0_0]) (vx1_0 : AVal) (_ : rCondT x1 [vx1_0]) (_ : hp.get d0 = some (.arr [.int .i64 st0])) (r : (Int × Bool)), f st0 x0 x1 = some r → run Cp 56 [vx0_0, vx1_0, .ptr d0 0] hp = some (.ret (.bool r.2), hp.set d0 (some (.arr [.int .i64 r.1])))
theorem Spec56_of {f g : Int → CondT → CondT → Option (Int × Bool)} (hg : Spec56 g) (h : ∀ st0 x0 x1 r, f st0 x0 x1 = some r → g st0 x0 x1 = some r) : Spec56 f := fun st0 x0 x1 h0 d0 v0_ w0_ v1_ w1_ g_ r hr => hg st0 x0 x1 h0 d0 v0_ w0_ v1_ w1_ g_ r (h st0 x0 x1 r hr)
set_option maxHeartbeats 8000000 in
theorem R56_0 (d0 : Nat) {rec56 : Int → CondT → CondT → Option (Int × Bool)} (hrec56 : Spec56 rec56) (pe : Nat → Fr56 → ASt → Prop) (pr : Fr56 → ASt → Prop) : Ref Cp (P56_0 d0) (Cat [true, true, true, false] (bodyOf Tryz.f56)) (m56_0 rec56) (post (P56_1 d0) pe pr) := by
  rintro s ⟨t, h⟩ hp x s' hm
  have hp : P56_0' d0 s t h := hp
  obtain ⟨w0_0, w1_0, hl, gst, lst, a0, r0_0, a1, r1_0, a2⟩ := hp
  unfold m56_0 at hm
  have k52 : loadA h false 1 (.ptr d0 0) = some (.int .i64 s.st) := by rw [Heap.load_gen gst (Nat.le_of_ble_eq_true rfl)]; first | rfl | exact ofc1 _ _ _
  cases hb53 : decide (s.st ≥ 0) with
  | true =>
    all_goals (
      try simp only [hb53, cond_true, cond_false, Option.bind_some, Option.bind_assoc, Bool.not_true, Bool.not_false, Bool.true_and, Bool.false_and, Bool.and_true, Bool.and_false, Bool.true_or, Bool.false_or] at hm
      obtain ⟨n54, hn54, hm⟩ := Option.bind_eq_some_iff.1 hm
      obtain ⟨bu55_0, bu55_1, bu55_2, qu55, gu55_0, gu55_1, gu55_2⟩ := rCondT_get r0_0 hn54
      subst qu55
      obtain ⟨n56, hn56, hm⟩ := Option.bind_eq_some_iff.1 hm
      obtain ⟨bu57_0, bu57_1, bu57_2, qu57, gu57_0, gu57_1, gu57_2⟩ := rCondT_get r1_0 hn56
      subst qu57
      try simp only [cond_true, cond_false, Option.bind_some, Option.bind_assoc, Bool.not_true, Bool.not_false, Bool.true_and, Bool.false_and, Bool.and_true, Bool.and_false, Bool.true_or, Bool.false_or] at hm
      cases hb58 : (n54.Kind == n56.Kind) with
      | true =>
        all_goals (
          try simp only [hb58, cond_true, cond_false, Option.bind_some, Option.bind_assoc, Bool.not_true, Bool.not_false, Bool.true_and, Bool.false_and, Bool.and_true, Bool.and_false, Bool.true_or, Bool.false_or] at hm
          obtain ⟨n59, hn59, hm⟩ := Option.bind_eq_some_iff.1 hm
          obtain rfl := Option.some.inj (hn54.symm.trans hn59)
          obtain ⟨n60, hn60, hm⟩ := Option.bind_eq_some_iff.1 hm
          obtain rfl := Option.some.inj (hn56.symm.trans hn60)
          try simp only [cond_true, cond_false, Option.bind_some, Option.bind_assoc, Bool.not_true, Bool.not_false, Bool.true_and, Bool.false_and, Bool.and_true, Bool.and_false, Bool.true_or, Bool.false_or] at hm
          cases hb61 : (n54.Column == n56.Column) with
          | true =>
            all_goals (
              try simp only [hb61, cond_true, cond_false, Option.bind_some, Option.bind_assoc, Bool.not_true, Bool.not_false, Bool.true_and, Bool.false_and, Bool.and_true, Bool.and_false, Bool.true_or, Bool.false_or] at hm
              obtain ⟨n62, hn62, hm⟩ := Option.bind_eq_some_iff.1 hm
              obtain rfl := Option.some.inj (hn54.symm.trans hn62)
              obtain ⟨n63, hn63, hm⟩ := Option.bind_eq_some_iff.1 hm
              obtain rfl := Option.some.inj (hn56.symm.trans hn63)
              try simp only [cond_true, cond_false, Option.bind_some, Option.bind_assoc, Bool.not_true, Bool.not_false, Bool.true_and, Bool.false_and, Bool.and_true, Bool.and_false, Bool.true_or, Bool.false_or] at hm
              cases hb64 : (n54.Op == n56.Op) with
              | true =>
                all_goals (
                  try simp only [hb64, cond_true, cond_false, Option.bind_some, Option.bind_assoc, Bool.not_true, Bool.not_false, Bool.true_and, Bool.false_and, Bool.and_true, Bool.and_false, Bool.true_or, Bool.false_or] at hm
                  obtain ⟨n65, hn65, hm⟩ := Option.bind_eq_some_iff.1 hm
                  obtain rfl := Option.some.inj (hn54.symm.trans hn65)
                  obtain ⟨n66, hn66, hm⟩ := Option.bind_eq_some_iff.1 hm
                  obtain rfl := Option.some.inj (hn56.symm.trans hn66)
                  obtain ⟨z67, hz67, hm⟩ := Option.bind_eq_some_iff.1 hm
                  have iu68 := G99_spec n54.Values n56.Values _ gu55_2 _ gu57_2 _ hz67
                  have apu68 : apure Cp 99 [bu55_2, bu57_2] = true := apure_of rfl rfl (by simp only [refsL, refs, List.append_nil, List.nil_append, gu55_2.refs rValue_p, gu57_2.refs rValue_p])
                  try simp only [cond_true, cond_false, Option.bind_some, Option.bind_assoc, Bool.not_true, Bool.not_false, Bool.true_and, Bool.false_and, Bool.and_true, Bool.and_false, Bool.true_or, Bool.false_or] at hm
                  cases hb69 : z67 with
                  | true =>
                    all_goals (
                      try simp only [hb69, cond_true, cond_false, Option.bind_some, Option.bind_assoc, Bool.not_true, Bool.not_false, Bool.true_and, Bool.false_and, Bool.and_true, Bool.and_false, Bool.true_or, Bool.false_or] at hm
                      obtain ⟨n70, hn70, hm⟩ := Option.bind_eq_some_iff.1 hm
                      obtain rfl := Option.some.inj (hn54.symm.trans hn70)
                      obtain ⟨n71, hn71, hm⟩ := Option.bind_eq_some_iff.1 hm
                      obtain rfl := Option.some.inj (hn56.symm.trans hn71)
                      obtain ⟨z72, hz72, hm⟩ := Option.bind_eq_some_iff.1 hm
                      have iu73 := hrec56 s.st n54.Left n56.Left h d0 _ gu55_0 _ gu57_0 gst _ hz72
                      obtain ⟨H74, eH74⟩ : ∃ x : AHeap, x = h.set d0 (some (.arr [.int .i64 z72.1])) := ⟨_, rfl⟩
                      rw [← eH74] at iu73
                      have k75 : H74.get d0 = some (.arr [.int .i64 z72.1]) := by rw [eH74]; exact Heap.get_set_eq
                      have k76 : d0 < H74.next := by rw [eH74]; exact lst
                      cases hb77 : z72.2 with
                      | true =>
                        all_goals (
                          try simp only [hb77, cond_true, cond_false, Option.bind_some, Option.bind_assoc, Bool.not_true, Bool.not_false, Bool.true_and, Bool.false_and, Bool.and_true, Bool.and_false, Bool.true_or, Bool.false_or] at hm
                          obtain ⟨z78, hz78, hm⟩ := Option.bind_eq_some_iff.1 hm
                          have iu79 := hrec56 z72.1 n54.Right n56.Right H74 d0 _ gu55_1 _ gu57_1 k75 _ hz78
                          obtain ⟨H80, eH80⟩ : ∃ x : AHeap, x = H74.set d0 (some (.arr [.int .i64 z78.1])) := ⟨_, rfl⟩
                          rw [← eH80] at iu79
                          have k81 : H80.get d0 = some (.arr [.int .i64 z78.1]) := by rw [eH80]; exact Heap.get_set_eq
                          have k82 : d0 < H80.next := by rw [eH80]; exact k76
                          cases hm
                          refine ⟨⟨_, _⟩, by
                              simp only [bodyOf, Tryz.f56, Cat, Bool.false_eq_true, e_seq, e_region, e_cond, e_block, ex_skip, ex_exit, ex_ret, o_cons, xops_nil, k_want_none, k_want_false, k_val, k_pan, k_call, k_ret, k_seq, k_seq_exit, k_seq_ret, k_true, k_false, k_block, k_block_exit, k_block_ret, k_loop, k_loop_exit, k_loop_ret, awanted, aoper, evalO, put, Option.getD_some, List.getElem?_set, acallOp, abuiltin, List.map_cons, List.map_nil, Nat.reduceEqDiff, Nat.reduceLT, List.length_set, Option.map_some, Option.bind_some, Option.bind_eq_bind, add_i, sub_i, mul_i, eql_i, neq_i, lss_i, leq_i, gtr_i, geq_i, ofV, ofCell, ↓reduceIte, List.cons_append, List.nil_append, List.append_nil, List.getElem?_toArray, List.getElem?_cons_succ, List.getElem?_cons_zero, e_draw, g_nil, g_cons, g_want, g_skip, g_val, g_call, g_ret, Option.map_none, hl, a0, a1, a2, CP, bq1, bq2, bq3, bq4, ex_tup, List.append_eq, k52, TyF.ld3, TyF.fa50_0, dropCells, List.drop_succ_cons, List.drop_zero, ld_ip, ofc1, List.drop_succ_cons, List.drop_zero, TyF.fa50_3, TyF.ld9, eql_s, TyF.fa50_4, TyF.fa50_5, TyF.ld48, iu68, apu68, if_true, TyF.fa50_1, TyF.ld24, iu73, TyF.fa50_2, iu79, hb53, hb58, hb61, hb64, hb69, hb77]
                              rw [k_draw _ _ _ (by kernel_rfl)]
                              exact rfl, ?_⟩
                          show (P56_1 d0) _ _
                          exact ⟨by simp [hl], k81, k82, by simp [hl, hb53, hb58, hb61, hb64, hb69, hb77]⟩)
                      | false =>
                        all_goals (
                          try simp only [hb77, cond_true, cond_false, Option.bind_some, Option.bind_assoc, Bool.not_true, Bool.not_false, Bool.true_and, Bool.false_and, Bool.and_true, Bool.and_false, Bool.true_or, Bool.false_or] at hm
                          cases hm
                          refine ⟨⟨_, _⟩, by
                              simp only [bodyOf, Tryz.f56, Cat, Bool.false_eq_true, e_seq, e_region, e_cond, e_block, ex_skip, ex_exit, ex_ret, o_cons, xops_nil, k_want_none, k_want_false, k_val, k_pan, k_call, k_ret, k_seq, k_seq_exit, k_seq_ret, k_true, k_false, k_block, k_block_exit, k_block_ret, k_loop, k_loop_exit, k_loop_ret, awanted, aoper, evalO, put, Option.getD_some, List.getElem?_set, acallOp, abuiltin, List.map_cons, List.map_nil, Nat.reduceEqDiff, Nat.reduceLT, List.length_set, Option.map_some, Option.bind_some, Option.bind_eq_bind, add_i, sub_i, mul_i, eql_i, neq_i, lss_i, leq_i, gtr_i, geq_i, ofV, ofCell, ↓reduceIte, List.cons_append, List.nil_append, List.append_nil, List.getElem?_toArray, List.getElem?_cons_succ, List.getElem?_cons_zero, e_draw, g_nil, g_cons, g_want, g_skip, g_val, g_call, g_ret, Option.map_none, hl, a0, a1, a2, CP, bq1, bq2, bq3, bq4, ex_tup, List.append_eq, k52, TyF.ld3, TyF.fa50_0, dropCells, List.drop_succ_cons, List.drop_zero, ld_ip, ofc1, List.drop_succ_cons, List.drop_zero, TyF.fa50_3, TyF.ld9, eql_s, TyF.fa50_4, TyF.fa50_5, TyF.ld48, iu68, apu68, if_true, TyF.fa50_1, TyF.ld24, iu73, hb53, hb58, hb61, hb64, hb69, hb77]
                              rw [k_draw _ _ _ (by kernel_rfl)]
                              exact rfl, ?_⟩
                          show (P56_1 d0) _ _
                          exact ⟨by simp [hl], k75, k76, by simp [hl, hb53, hb58, hb61, hb64, hb69, hb77]⟩))
                  | false =>
                    all_goals (
                      try simp only [hb69, cond_true, cond_false, Option.bind_some, Option.bind_assoc, Bool.not_true, Bool.not_false, Bool.true_and, Bool.false_and, Bool.and_true, Bool.and_false, Bool.true_or, Bool.false_or] at hm
                      cases hm
                      refine ⟨⟨_, _⟩, by
                          simp only [bodyOf, Tryz.f56, Cat, Bool.false_eq_true, e_seq, e_region, e_cond, e_block, ex_skip, ex_exit, ex_ret, o_cons, xops_nil, k_want_none, k_want_false, k_val, k_pan, k_call, k_ret, k_seq, k_seq_exit, k_seq_ret, k_true, k_false, k_block, k_block_exit, k_block_ret, k_loop, k_loop_exit, k_loop_ret, awanted, aoper, evalO, put, Option.getD_some, List.getElem?_set, acallOp, abuiltin, List.map_cons, List.map_nil, Nat.reduceEqDiff, Nat.reduceLT, List.length_set, Option.map_some, Option.bind_some, Option.bind_eq_bind, add_i, sub_i, mul_i, eql_i, neq_i, lss_i, leq_i, gtr_i, geq_i, ofV, ofCell, ↓reduceIte, List.cons_append, List.nil_append, List.append_nil, List.getElem?_toArray, List.getElem?_cons_succ, List.getElem?_cons_zero, e_draw, g_nil, g_cons, g_want, g_skip, g_val, g_call, g_ret, Option.map_none, hl, a0, a1, a2, CP, bq1, bq2, bq3, bq4, ex_tup, List.append_eq, k52, TyF.ld3, TyF.fa50_0, dropCells, List.drop_succ_cons, List.drop_zero, ld_ip, ofc1, List.drop_succ_cons, List.drop_zero, TyF.fa50_3, TyF.ld9, eql_s, TyF.fa50_4, TyF.fa50_5, TyF.ld48, iu68, apu68, if_true, hb53, hb58, hb61, hb64, hb69]
                          rw [k_draw _ _ _ (by kernel_rfl)]
                          exact rfl, ?_⟩
                      show (P56_1 d0) _ _
                      exact ⟨by simp [hl], gst, lst, by simp [hl, hb53, hb58, hb61, hb64, hb69]⟩))
              | false =>
                all_goals (
                  try simp only [hb64, cond_true, cond_false, Option.bind_some, Option.bind_assoc, Bool.not_true, Bool.not_false, Bool.true_and, Bool.false_and, Bool.and_true, Bool.and_false, Bool.true_or, Bool.false_or] at hm
                  cases hm
                  refine ⟨⟨_, _⟩, by
                      simp only [bodyOf, Tryz.f56, Cat, Bool.false_eq_true, e_seq, e_region, e_cond, e_block, ex_skip, ex_exit, ex_ret, o_cons, xops_nil, k_want_none, k_want_false, k_val, k_pan, k_call, k_ret, k_seq, k_seq_exit, k_seq_ret, k_true, k_false, k_block, k_block_exit, k_block_ret, k_loop, k_loop_exit, k_loop_ret, awanted, aoper, evalO, put, Option.getD_some, List.getElem?_set, acallOp, abuiltin, List.map_cons, List.map_nil, Nat.reduceEqDiff, Nat.reduceLT, List.length_set, Option.map_some, Option.bind_some, Option.bind_eq_bind, add_i, sub_i, mul_i, eql_i, neq_i, lss_i, leq_i, gtr_i, geq_i, ofV, ofCell, ↓reduceIte, List.cons_append, List.nil_append, List.append_nil, List.getElem?_toArray, List.getElem?_cons_succ, List.getElem?_cons_zero, e_draw, g_nil, g_cons, g_want, g_skip, g_val, g_call, g_ret, Option.map_none, hl, a0, a1, a2, CP, bq1, bq2, bq3, bq4, ex_tup, List.append_eq, k52, TyF.ld3, TyF.fa50_0, dropCells, List.drop_succ_cons, List.drop_zero, ld_ip, ofc1, List.drop_succ_cons, List.drop_zero, TyF.fa50_3, TyF.ld9, eql_s, TyF.fa50_4, hb53, hb58, hb61, hb64]
                      rw [k_draw _ _ _ (by kernel_rfl)]
                      exact rfl, ?_⟩
                  show (P56_1 d0) _ _
                  exact ⟨by simp [hl], gst, lst, by simp [hl, hb53, hb58, hb61, hb64]⟩))
          | false =>
            all_goals (
              try simp only [hb61, cond_true, cond_false, Option.bind_some, Option.bind_assoc, Bool.not_true, Bool.not_false, Bool.true_and, Bool.false_and, Bool.and_true, Bool.and_false, Bool.true_or, Bool.false_or] at hm
              cases hm
              refine ⟨⟨_, _⟩, by
                  simp only [bodyOf, Tryz.f56, Cat, Bool.false_eq_true, e_seq, e_region, e_cond, e_block, ex_skip, ex_exit, ex_ret, o_cons, xops_nil, k_want_none, k_want_false, k_val, k_pan, k_call, k_ret, k_seq, k_seq_exit, k_seq_ret, k_true, k_false, k_block, k_block_exit, k_block_ret, k_loop, k_loop_exit, k_loop_ret, awanted, aoper, evalO, put, Option.getD_some, List.getElem?_set, acallOp, abuiltin, List.map_cons, List.map_nil, Nat.reduceEqDiff, Nat.reduceLT, List.length_set, Option.map_some, Option.bind_some, Option.bind_eq_bind, add_i, sub_i, mul_i, eql_i, neq_i, lss_i, leq_i, gtr_i, geq_i, ofV, ofCell, ↓reduceIte, List.cons_append, List.nil_append, List.append_nil, List.getElem?_toArray, List.getElem?_cons_succ, List.getElem?_cons_zero, e_draw, g_nil, g_cons, g_want, g_skip, g_val, g_call, g_ret, Option.map_none, hl, a0, a1, a2, CP, bq1, bq2, bq3, bq4, ex_tup, List.append_eq, k52, TyF.ld3, TyF.fa50_0, dropCells, List.drop_succ_cons, List.drop_zero, ld_ip, ofc1, List.drop_succ_cons, List.drop_zero, TyF.fa50_3, TyF.ld9, eql_s, hb53, hb58, hb61]
                  rw [k_draw _ _ _ (by kernel_rfl)]
                  exact rfl, ?_⟩
              show (P56_1 d0) _ _
              exact ⟨by simp [hl], gst, lst, by simp [hl, hb53, hb58, hb61]⟩))
      | false =>
        all_goals (
          try simp only [hb58, cond_true, cond_false, Option.bind_some, Option.bind_assoc, Bool.not_true, Bool.not_false, Bool.true_and, Bool.false_and, Bool.and_true, Bool.and_false, Bool.true_or, Bool.false_or] at hm
          cases hm
          refine ⟨⟨_, _⟩, by
              simp only [bodyOf, Tryz.f56, Cat, Bool.false_eq_true, e_seq, e_region, e_cond, e_block, ex_skip, ex_exit, ex_ret, o_cons, xops_nil, k_want_none, k_want_false, k_val, k_pan, k_call, k_ret, k_seq, k_seq_exit, k_seq_ret, k_true, k_false, k_block, k_block_exit, k_block_ret, k_loop, k_loop_exit, k_loop_ret, awanted, aoper, evalO, put, Option.getD_some, List.getElem?_set, acallOp, abuiltin, List.map_cons, List.map_nil, Nat.reduceEqDiff, Nat.reduceLT, List.length_set, Option.map_some, Option.bind_some, Option.bind_eq_bind, add_i, sub_i, mul_i, eql_i, neq_i, lss_i, leq_i, gtr_i, geq_i, ofV, ofCell, ↓reduceIte, List.cons_append, List.nil_append, List.append_nil, List.getElem?_toArray, List.getElem?_cons_succ, List.getElem?_cons_zero, e_draw, g_nil, g_cons, g_want, g_skip, g_val, g_call, g_ret, Option.map_none, hl, a0, a1, a2, CP, bq1, bq2, bq3, bq4, ex_tup, List.append_eq, k52, TyF.ld3, TyF.fa50_0, dropCells, List.drop_succ_cons, List.drop_zero, ld_ip, ofc1, List.drop_succ_cons, List.drop_zero, hb53, hb58]
              rw [k_draw _ _ _ (by kernel_rfl)]
              exact rfl, ?_⟩
          show (P56_1 d0) _ _
          exact ⟨by simp [hl], gst, lst, by simp [hl, hb53, hb58]⟩))
  | false =>
    all_goals (
      try simp only [hb53, cond_true, cond_false, Option.bind_some, Option.bind_assoc, Bool.not_true, Bool.not_false, Bool.true_and, Bool.false_and, Bool.and_true, Bool.and_false, Bool.true_or, Bool.false_or] at hm
      cases hm
      refine ⟨⟨_, _⟩, by
          simp only [bodyOf, Tryz.f56, Cat, Bool.false_eq_true, e_seq, e_region, e_cond, e_block, ex_skip, ex_exit, ex_ret, o_cons, xops_nil, k_want_none, k_want_false, k_val, k_pan, k_call, k_ret, k_seq, k_seq_exit, k_seq_ret, k_true, k_false, k_block, k_block_exit, k_block_ret, k_loop, k_loop_exit, k_loop_ret, awanted, aoper, evalO, put, Option.getD_some, List.getElem?_set, acallOp, abuiltin, List.map_cons, List.map_nil, Nat.reduceEqDiff, Nat.reduceLT, List.length_set, Option.map_some, Option.bind_some, Option.bind_eq_bind, add_i, sub_i, mul_i, eql_i, neq_i, lss_i, leq_i, gtr_i, geq_i, ofV, ofCell, ↓reduceIte, List.cons_append, List.nil_append, List.append_nil, List.getElem?_toArray, List.getElem?_cons_succ, List.getElem?_cons_zero, e_draw, g_nil, g_cons, g_want, g_skip, g_val, g_call, g_ret, Option.map_none, hl, a0, a1, a2, CP, bq1, bq2, bq3, bq4, ex_tup, List.append_eq, k52, TyF.ld3, hb53]
          rw [k_draw _ _ _ (by kernel_rfl)]
          exact rfl, ?_⟩
      show (P56_1 d0) _ _
      exact ⟨by simp [hl], gst, lst, by simp [hl, hb53]⟩)
theorem R56_1 (d0 : Nat) {rec56 : Int → CondT → CondT → Option (Int × Bool)} (hrec56 : Spec56 rec56) (pe : Nat → Fr56 → ASt → Prop) (pr : Fr56 → ASt → Prop) : Ref Cp (P56_0 d0) (Cat [true, true, false] (bodyOf Tryz.f56)) (m56_1 rec56) (post (P56_0 d0) pe pr) := by
  rintro s ⟨t, h⟩ hp x s' hm
  have hp : P56_0' d0 s t h := hp
  obtain ⟨w0_0, w1_0, hl, gst, lst, a0, r0_0, a1, r1_0, a2⟩ := hp
  unfold m56_1 at hm
  have k88 : loadA h false 1 (.ptr d0 0) = some (.int .i64 s.st) := by rw [Heap.load_gen gst (Nat.le_of_ble_eq_true rfl)]; first | rfl | exact ofc1 _ _ _
  obtain ⟨H89, eH89⟩ : ∃ x : AHeap, x = h.set d0 (some (.arr [.int .i64 (IntKind.wrap .i64 (s.st - 1))])) := ⟨_, rfl⟩
  have k90 : storeA h 1 (.ptr d0 0) (.int .i64 (IntKind.wrap .i64 (s.st - 1))) = some H89 := by rw [eH89]; exact Heap.store_gen gst (show (.int .i64 (IntKind.wrap .i64 (s.st - 1)) : AVal).cells = [.int .i64 (IntKind.wrap .i64 (s.st - 1))] by simp only [cl_i, cl_b, cl_s, cl_a, cl_nl, cl_np, cl_ip, cl_ls]) rfl (by simp only [List.all_cons, List.all_nil, Bool.and_self, Bool.and_true, c_i, c_b, c_s, c_nl, c_np, c_ip, c_ls]) (Nat.le_of_ble_eq_true rfl) rfl
  have k91 : H89.get d0 = some (.arr [.int .i64 (IntKind.wrap .i64 (s.st - 1))]) := by rw [eH89]; exact Heap.get_set_eq
  have k92 : d0 < H89.next := by rw [eH89]; exact lst
  cases hm
  refine ⟨⟨_, _⟩, by
      simp only [bodyOf, Tryz.f56, Cat, Bool.false_eq_true, e_seq, e_region, e_cond, e_block, ex_skip, ex_exit, ex_ret, o_cons, xops_nil, k_want_none, k_want_false, k_val, k_pan, k_call, k_ret, k_seq, k_seq_exit, k_seq_ret, k_true, k_false, k_block, k_block_exit, k_block_ret, k_loop, k_loop_exit, k_loop_ret, awanted, aoper, evalO, put, Option.getD_some, List.getElem?_set, acallOp, abuiltin, List.map_cons, List.map_nil, Nat.reduceEqDiff, Nat.reduceLT, List.length_set, Option.map_some, Option.bind_some, Option.bind_eq_bind, add_i, sub_i, mul_i, eql_i, neq_i, lss_i, leq_i, gtr_i, geq_i, ofV, ofCell, ↓reduceIte, List.cons_append, List.nil_append, List.append_nil, List.getElem?_toArray, List.getElem?_cons_succ, List.getElem?_cons_zero, e_draw, g_nil, g_cons, g_want, g_skip, g_val, g_call, g_ret, Option.map_none, hl, a0, a1, a2, CP, bq1, bq2, bq3, bq4, ex_tup, k88, TyF.ld3, k90, TyF.st3]
      exact rfl, ?_⟩
  show (P56_0 d0) _ _
  exact ⟨w0_0, w1_0, by simp [hl], k91, k92, by simp [a0], r0_0, by simp [a1], r1_0, by simp [a2]⟩
theorem R56_2 (d0 : Nat) {rec56 : Int → CondT → CondT → Option (Int × Bool)} (hrec56 : Spec56 rec56) (pe : Nat → Fr56 → ASt → Prop) (pr : Fr56 → ASt → Prop) : Ref Cp (P56_2 d0) (Cat [true, false, true, false, false] (bodyOf Tryz.f56)) (m56_2 rec56) (post (P56_1 d0) pe pr) := by
  rintro s ⟨t, h⟩ hp x s' hm
  have hp : P56_2' d0 s t h := hp
  obtain ⟨w0_0, w1_0, hl, gst, lst, a0, r0_0, a1, r1_0⟩ := hp
  unfold m56_2 at hm
  obtain ⟨z95, hz95, hm⟩ := Option.bind_eq_some_iff.1 hm
  have iu96 := ptr_eq hz95 (rCondT_nil r0_0) (rCondT_nil r1_0) TyF.eqn2_24 TyF.eqp24 TyF.eqq24
  cases hm
  refine ⟨⟨_, _⟩, by
      simp only [bodyOf, Tryz.f56, Cat, Bool.false_eq_true, e_seq, e_region, e_cond, e_block, ex_skip, ex_exit, ex_ret, o_cons, xops_nil, k_want_none, k_want_false, k_val, k_pan, k_call, k_ret, k_seq, k_seq_exit, k_seq_ret, k_true, k_false, k_block, k_block_exit, k_block_ret, k_loop, k_loop_exit, k_loop_ret, awanted, aoper, evalO, put, Option.getD_some, List.getElem?_set, acallOp, abuiltin, List.map_cons, List.map_nil, Nat.reduceEqDiff, Nat.reduceLT, List.length_set, Option.map_some, Option.bind_some, Option.bind_eq_bind, add_i, sub_i, mul_i, eql_i, neq_i, lss_i, leq_i, gtr_i, geq_i, ofV, ofCell, ↓reduceIte, List.cons_append, List.nil_append, List.append_nil, List.getElem?_toArray, List.getElem?_cons_succ, List.getElem?_cons_zero, e_draw, g_nil, g_cons, g_want, g_skip, g_val, g_call, g_ret, Option.map_none, hl, a0, a1, CP, bq1, bq2, bq3, bq4, ex_tup, iu96]
      exact rfl, ?_⟩
  show (P56_1 d0) _ _
  exact ⟨by simp [hl], gst, lst, by simp [hl]⟩
theorem R56_3 (d0 : Nat) {rec56 : Int → CondT → CondT → Option (Int × Bool)} (hrec56 : Spec56 rec56) (pe : Nat → Fr56 → ASt → Prop) (pr : Fr56 → ASt → Prop) : Ref Cp (P56_0 d0) (Cat [true, false, false] (bodyOf Tryz.f56)) (m56_3 rec56) (post (P56_3 d0) pe pr) := by
  rintro s ⟨t, h⟩ hp x s' hm
  have hp : P56_0' d0 s t h := hp
  obtain ⟨w0_0, w1_0, hl, gst, lst, a0, r0_0, a1, r1_0, a2⟩ := hp
  unfold m56_3 at hm
  cases hb97 : s.t0.isNil with
  | true =>
    all_goals (
      try simp only [hb97, cond_true, cond_false, Option.bind_some, Option.bind_assoc, Bool.not_true, Bool.not_false, Bool.true_and, Bool.false_and, Bool.and_true, Bool.and_false, Bool.true_or, Bool.false_or] at hm
      obtain ⟨_, qz98⟩ | ⟨qz98, _⟩ := rCondT_nil r0_0
      rotate_left
      · rw [hb97] at qz98; cases qz98
      have z98 : ∀ (xo : Operand) (h : AHeap), abin Cp .eql 24 xo (.const (.pointer none)) h (w0_0) .nilPtr = some (.bool true) := fun xo h => by rw [qz98]; exact TyF.eqn24 xo h
      cases hm
      refine ⟨⟨_, _⟩, by
          simp only [bodyOf, Tryz.f56, Cat, Bool.false_eq_true, e_seq, e_region, e_cond, e_block, ex_skip, ex_exit, ex_ret, o_cons, xops_nil, k_want_none, k_want_false, k_val, k_pan, k_call, k_ret, k_seq, k_seq_exit, k_seq_ret, k_true, k_false, k_block, k_block_exit, k_block_ret, k_loop, k_loop_exit, k_loop_ret, awanted, aoper, evalO, put, Option.getD_some, List.getElem?_set, acallOp, abuiltin, List.map_cons, List.map_nil, Nat.reduceEqDiff, Nat.reduceLT, List.length_set, Option.map_some, Option.bind_some, Option.bind_eq_bind, add_i, sub_i, mul_i, eql_i, neq_i, lss_i, leq_i, gtr_i, geq_i, ofV, ofCell, ↓reduceIte, List.cons_append, List.nil_append, List.append_nil, List.getElem?_toArray, List.getElem?_cons_succ, List.getElem?_cons_zero, e_draw, g_nil, g_cons, g_want, g_skip, g_val, g_call, g_ret, Option.map_none, hl, a0, a1, a2, CP, bq1, bq2, bq3, bq4, ex_tup, z98, hb97]
          exact rfl, ?_⟩
      show (P56_3 d0) _ _
      exact ⟨w0_0, w1_0, by simp [hl], gst, lst, by simp [a0], r0_0, by simp [a1], r1_0, by simp [a2], by simp [hl, hb97]⟩)
  | false =>
    all_goals (
      try simp only [hb97, cond_true, cond_false, Option.bind_some, Option.bind_assoc, Bool.not_true, Bool.not_false, Bool.true_and, Bool.false_and, Bool.and_true, Bool.and_false, Bool.true_or, Bool.false_or] at hm
      obtain ⟨qz99, _⟩ | ⟨_, csz99, qz99⟩ := rCondT_nil r0_0
      · rw [hb97] at qz99; cases qz99
      have z99 : ∀ (xo yo : Operand) (h : AHeap), abin Cp .eql 24 xo yo h (w0_0) .nilPtr = some (.bool false) := fun xo yo h => by rw [qz99]; exact TyF.eqp24 xo yo h _
      clear qz99
      cases hb100 : s.t1.isNil with
      | true =>
        all_goals (
          try simp only [hb100, cond_true, cond_false, Option.bind_some, Option.bind_assoc, Bool.not_true, Bool.not_false, Bool.true_and, Bool.false_and, Bool.and_true, Bool.and_false, Bool.true_or, Bool.false_or] at hm
          obtain ⟨_, qz101⟩ | ⟨qz101, _⟩ := rCondT_nil r1_0
          rotate_left
          · rw [hb100] at qz101; cases qz101
          have z101 : ∀ (xo : Operand) (h : AHeap), abin Cp .eql 24 xo (.const (.pointer none)) h (w1_0) .nilPtr = some (.bool true) := fun xo h => by rw [qz101]; exact TyF.eqn24 xo h
          cases hm
          refine ⟨⟨_, _⟩, by
              simp only [bodyOf, Tryz.f56, Cat, Bool.false_eq_true, e_seq, e_region, e_cond, e_block, ex_skip, ex_exit, ex_ret, o_cons, xops_nil, k_want_none, k_want_false, k_val, k_pan, k_call, k_ret, k_seq, k_seq_exit, k_seq_ret, k_true, k_false, k_block, k_block_exit, k_block_ret, k_loop, k_loop_exit, k_loop_ret, awanted, aoper, evalO, put, Option.getD_some, List.getElem?_set, acallOp, abuiltin, List.map_cons, List.map_nil, Nat.reduceEqDiff, Nat.reduceLT, List.length_set, Option.map_some, Option.bind_some, Option.bind_eq_bind, add_i, sub_i, mul_i, eql_i, neq_i, lss_i, leq_i, gtr_i, geq_i, ofV, ofCell, ↓reduceIte, List.cons_append, List.nil_append, List.append_nil, List.getElem?_toArray, List.getElem?_cons_succ, List.getElem?_cons_zero, e_draw, g_nil, g_cons, g_want, g_skip, g_val, g_call, g_ret, Option.map_none, hl, a0, a1, a2, CP, bq1, bq2, bq3, bq4, ex_tup, z99, z101, hb97, hb100]
              exact rfl, ?_⟩
          show (P56_3 d0) _ _
          exact ⟨w0_0, w1_0, by simp [hl], gst, lst, by simp [a0], r0_0, by simp [a1], r1_0, by simp [a2], by simp [hl, hb97, hb100]⟩)
      | false =>
        all_goals (
          try simp only [hb100, cond_true, cond_false, Option.bind_some, Option.bind_assoc, Bool.not_true, Bool.not_false, Bool.true_and, Bool.false_and, Bool.and_true, Bool.and_false, Bool.true_or, Bool.false_or] at hm
          obtain ⟨qz102, _⟩ | ⟨_, csz102, qz102⟩ := rCondT_nil r1_0
          · rw [hb100] at qz102; cases qz102
          have z102 : ∀ (xo yo : Operand) (h : AHeap), abin Cp .eql 24 xo yo h (w1_0) .nilPtr = some (.bool false) := fun xo yo h => by rw [qz102]; exact TyF.eqp24 xo yo h _
          clear qz102
          cases hm
          refine ⟨⟨_, _⟩, by
              simp only [bodyOf, Tryz.f56, Cat, Bool.false_eq_true, e_seq, e_region, e_cond, e_block, ex_skip, ex_exit, ex_ret, o_cons, xops_nil, k_want_none, k_want_false, k_val, k_pan, k_call, k_ret, k_seq, k_seq_exit, k_seq_ret, k_true, k_false, k_block, k_block_exit, k_block_ret, k_loop, k_loop_exit, k_loop_ret, awanted, aoper, evalO, put, Option.getD_some, List.getElem?_set, acallOp, abuiltin, List.map_cons, List.map_nil, Nat.reduceEqDiff, Nat.reduceLT, List.length_set, Option.map_some, Option.bind_some, Option.bind_eq_bind, add_i, sub_i, mul_i, eql_i, neq_i, lss_i, leq_i, gtr_i, geq_i, ofV, ofCell, ↓reduceIte, List.cons_append, List.nil_append, List.append_nil, List.getElem?_toArray, List.getElem?_cons_succ, List.getElem?_cons_zero, e_draw, g_nil, g_cons, g_want, g_skip, g_val, g_call, g_ret, Option.map_none, hl, a0, a1, a2, CP, bq1, bq2, bq3, bq4, ex_tup, z99, z102, hb97, hb100]
              exact rfl, ?_⟩
          show (P56_3 d0) _ _
          exact ⟨w0_0, w1_0, by simp [hl], gst, lst, by simp [a0], r0_0, by simp [a1], r1_0, by simp [a2], by simp [hl, hb97, hb100]⟩))
theorem R56_4 (d0 : Nat) {rec56 : Int → CondT → CondT → Option (Int × Bool)} (hrec56 : Spec56 rec56) (pe : Nat → Fr56 → ASt → Prop) (pr : Fr56 → ASt → Prop) : Ref Cp (P56_0 d0) (Cat [false] (bodyOf Tryz.f56)) (m56_4 rec56) (post (P56_0 d0) pe pr) := by
  rintro s ⟨t, h⟩ hp x s' hm
  have hp : P56_0' d0 s t h := hp
  obtain ⟨w0_0, w1_0, hl, gst, lst, a0, r0_0, a1, r1_0, a2⟩ := hp
  unfold m56_4 at hm
  cases hm
  refine ⟨⟨_, _⟩, by
      simp only [bodyOf, Tryz.f56, Cat, Bool.false_eq_true, e_seq, e_region, e_cond, e_block, ex_skip, ex_exit, ex_ret, o_cons, xops_nil, k_want_none, k_want_false, k_val, k_pan, k_call, k_ret, k_seq, k_seq_exit, k_seq_ret, k_true, k_false, k_block, k_block_exit, k_block_ret, k_loop, k_loop_exit, k_loop_ret, awanted, aoper, evalO, put, Option.getD_some, List.getElem?_set, acallOp, abuiltin, List.map_cons, List.map_nil, Nat.reduceEqDiff, Nat.reduceLT, List.length_set, Option.map_some, Option.bind_some, Option.bind_eq_bind, add_i, sub_i, mul_i, eql_i, neq_i, lss_i, leq_i, gtr_i, geq_i, ofV, ofCell, ↓reduceIte, List.cons_append, List.nil_append, List.append_nil, List.getElem?_toArray, List.getElem?_cons_succ, List.getElem?_cons_zero, e_draw, g_nil, g_cons, g_want, g_skip, g_val, g_call, g_ret, Option.map_none, hl, a0, a1, a2, CP, bq1, bq2, bq3, bq4, ex_tup]
      exact rfl, ?_⟩
  show (P56_0 d0) _ _
  exact ⟨w0_0, w1_0, by simp [hl], gst, lst, by simp [a0], r0_0, by simp [a1], r1_0, by simp [a2]⟩
theorem B56 (d0 : Nat) {rec56 : Int → CondT → CondT → Option (Int × Bool)} (hrec56 : Spec56 rec56) : Ref Cp (P56_0 d0) (bodyOf Tryz.f56) (M56 rec56) (post (P56_1 d0) (fun _ _ _ => False) (P56_1 d0)) := by
  rw [show bodyOf Tryz.f56 = .seq (Cat [false] (bodyOf Tryz.f56)) (.seq (.seq (Cat [true, false, false] (bodyOf Tryz.f56)) (.cond (.tmp 12) (.seq (Cat [true, false, true, false, false] (bodyOf Tryz.f56)) (.ret)) (.skip))) (.seq (Cat [true, true, false] (bodyOf Tryz.f56)) (.seq (Cat [true, true, true, false] (bodyOf Tryz.f56)) (.ret)))) from rfl]
  unfold M56
  exact ref_seq (M := (P56_0 d0)) (R56_4 d0 hrec56 _ _) (ref_seq (M := (P56_0 d0)) (ref_seq (M := (P56_3 d0)) (R56_3 d0 hrec56 _ _) (ref_cond (P := (P56_3 d0)) (c := fun s => s.t12) (fun s st hp => by obtain ⟨w0_0, w1_0, hl, gst, lst, a0, r0_0, a1, r1_0, a2, a12⟩ := (hp : P56_3' d0 s st.tmps st.h); simp only [evalO, a12, Option.getD_some]) (ref_weak (P' := (P56_2 d0)) (fun s st hp => by obtain ⟨w0_0, w1_0, hl, gst, lst, a0, r0_0, a1, r1_0, a2, a12⟩ := (hp : P56_3' d0 s st.tmps st.h); exact (⟨w0_0, w1_0, hl, gst, lst, a0, r0_0, a1, r1_0⟩ : P56_2' d0 s st.tmps st.h)) (ref_seq (M := (P56_1 d0)) (R56_2 d0 hrec56 _ _) (ref_ret (fun s st hp => hp)))) (ref_weak (P' := (P56_0 d0)) (fun s st hp => by obtain ⟨w0_0, w1_0, hl, gst, lst, a0, r0_0, a1, r1_0, a2, a12⟩ := (hp : P56_3' d0 s st.tmps st.h); exact (⟨w0_0, w1_0, hl, gst, lst, a0, r0_0, a1, r1_0, a2⟩ : P56_0' d0 s st.tmps st.h)) (ref_skip (fun s st hp => hp))))) (ref_seq (M := (P56_0 d0)) (R56_1 d0 hrec56 _ _) (ref_seq (M := (P56_1 d0)) (R56_0 d0 hrec56 _ _) (ref_ret (fun s st hp => hp)))))
noncomputable def G56 (rec56 : Int → CondT → CondT → Option (Int × Bool)) (st0 : Int) (x0 : CondT) (x1 : CondT) : Option (Int × Bool) := match M56 rec56 { (default : Fr56) with st := st0, t0 := x0, t1 := x1 } with
  | some (.nrm, s) => some (s.st, s.t6)
  | some (.ret, s) => some (s.st, s.t6)
  | _ => none
theorem G56_spec {rec56 : Int → CondT → CondT → Option (Int × Bool)} (hrec56 : Spec56 rec56) : Spec56 (G56 rec56) := by
  intro st0 x0 x1 hp d0 vx0_0 hvx0_0 vx1_0 hvx1_0 hget0 r hr
  unfold G56 at hr
  cases hm : M56 rec56 { (default : Fr56) with st := st0, t0 := x0, t1 := x1 } with
  | none => rw [hm] at hr; cases hr
  | some q =>
    obtain ⟨x, s⟩ := q
    rw [hm] at hr
    have hx : x = .nrm ∨ x = .ret := by cases x <;> first | exact .inl rfl | exact .inr rfl | cases hr
    have hr : (s.st, s.t6) = r := by cases x <;> first | exact Option.some.inj hr | cases hr
    subst hr
    have hp0 : P56_0' d0 ({ (default : Fr56) with st := st0, t0 := x0, t1 := x1 }) (slots Tryz.f56 (stripL [vx0_0, vx1_0, .ptr d0 0])) (one d0 (stripL [.int .i64 st0])) := ⟨(strip vx0_0 : AVal), (strip vx1_0 : AVal), rfl, one_get _ _, one_lt _ _, rfl, rCondT_p.str _ _ hvx0_0, rfl, rCondT_p.str _ _ hvx1_0, rfl⟩
    obtain ⟨v, cs, hR, hrun⟩ := run_of_refS (C := Cp) (f := 56) (fn := Tryz.f56) Tryz.func56 rfl rfl rfl rfl (args := [vx0_0, vx1_0, .ptr d0 0]) hget0 (by simp only [refsL, refs, List.append_nil]) (by simp only [refsL, refs, List.append_nil, List.nil_append, refs_one (rCondT_p.ref _ _ hvx0_0), refs_one (rCondT_p.ref _ _ hvx1_0)]; exact dedup1 _) (B56 d0 hrec56) (s0 := { (default : Fr56) with st := st0, t0 := x0, t1 := x1 }) hp0 hm hx (R := fun v cs => v = .bool s.t6 ∧ cs = [.int .i64 s.st]) (by
      have key : ∀ st : ASt, (P56_1 d0) s st → ∃ vs v cs, aresults Cp Tryz.f56.results.toList st = some vs ∧ Nrm [d0] st.h (packRes vs) v ∧ st.h.get d0 = some (.arr cs) ∧ refsL cs = [] ∧ (fun v cs => v = .bool s.t6 ∧ cs = [.int .i64 s.st]) v (stripL cs) := by
        intro st hp
        obtain ⟨hl, gst, lst, a6⟩ := (hp : P56_1' d0 s st.tmps st.h)
        exact ⟨[.bool s.t6], _, _, by simp only [show Tryz.f56.results.toList = [ResultVar.tmp 6] from rfl, aresults, ares1, CP, a6, Option.getD_some], (Nrm.of (w := .bool s.t6) (by simp only [refsL, refs, List.append_nil])), gst, by simp only [refsL, refs, List.append_nil], ⟨rfl, rfl⟩⟩
      intro st hq
      rcases hx with rfl | rfl
      · exact key st hq
      · exact key st hq)
    obtain ⟨hv, hc⟩ := hR
    exact by rw [hrun, hv, hc]
noncomputable def F56 : Nat → Int → CondT → CondT → Option (Int × Bool)
  | 0 => fun _ _ _ => none
  | n + 1 => G56 (F56 n)
theorem F56_spec : ∀ n, Spec56 (F56 n)
  | 0 => fun st0 x0 x1 hp d0 vx0_0 hvx0_0 vx1_0 hvx1_0 hget0 r hr => by cases hr
  | n + 1 => G56_spec (F56_spec n)
theorem Spec56_fuel {f : Int → CondT → CondT → Option (Int × Bool)} (h : ∀ st0 x0 x1 r, f st0 x0 x1 = some r → ∃ n, F56 n st0 x0 x1 = some r) : Spec56 f := fun st0 x0 x1 hp d0 vx0_0 hvx0_0 vx1_0 hvx1_0 hget0 r hr => by
  obtain ⟨n, hn⟩ := h st0 x0 x1 r hr
  exact F56_spec n st0 x0 x1 hp d0 vx0_0 hvx0_0 vx1_0 hvx1_0 hget0 r hn
/-! ### caisson/parse.Same -/
structure Fr19 where
  t0 : Query
  t1 : Query
  t2 : Query
  t3 : Query
  t4 : Bool
  t5 : Int
instance : Inhabited Fr19 := ⟨⟨default, default, default, default, false, 0⟩⟩
def P19_0' (s : Fr19) (t : List AVal) (h : AHeap) : Prop := ∃ i2 w2_0 w2_1 w2_2 i3 w3_0 w3_1 w3_2 i5, t.length = 39 ∧ t[2]? = some (.ptr i2 0) ∧ h.get i2 = some (.arr [w2_0, .str s.t2.Table, w2_1, .bool s.t2.Grouped, w2_2]) ∧ i2 < h.next ∧ Sl rItem s.t2.Items w2_0 ∧ rCondT s.t2.Where [w2_1] ∧ Sl rGroup s.t2.Groups w2_2 ∧ t[3]? = some (.ptr i3 0) ∧ h.get i3 = some (.arr [w3_0, .str s.t3.Table, w3_1, .bool s.t3.Grouped, w3_2]) ∧ i3 < h.next ∧ Sl rItem s.t3.Items w3_0 ∧ rCondT s.t3.Where [w3_1] ∧ Sl rGroup s.t3.Groups w3_2 ∧ t[5]? = some (.ptr i5 0) ∧ h.get i5 = some (.arr [.int .i64 s.t5]) ∧ i5 < h.next ∧ i2 ≠ i3 ∧ i2 ≠ i5 ∧ i3 ≠ i5
def P19_0 (s : Fr19) (st : ASt) : Prop := P19_0' s st.tmps st.h
def P19_1' (s : Fr19) (t : List AVal) (h : AHeap) : Prop := t.length = 39 ∧ t[4]? = some (.bool s.t4)
def P19_1 (s : Fr19) (st : ASt) : Prop := P19_1' s st.tmps st.h
def P19_2' (s : Fr19) (t : List AVal) (h : AHeap) : Prop := ∃ i2 w2_0 w2_1 w2_2 i3 w3_0 w3_1 w3_2, t.length = 39 ∧ t[2]? = some (.ptr i2 0) ∧ h.get i2 = some (.arr [w2_0, .str s.t2.Table, w2_1, .bool s.t2.Grouped, w2_2]) ∧ i2 < h.next ∧ Sl rItem s.t2.Items w2_0 ∧ rCondT s.t2.Where [w2_1] ∧ Sl rGroup s.t2.Groups w2_2 ∧ t[3]? = some (.ptr i3 0) ∧ h.get i3 = some (.arr [w3_0, .str s.t3.Table, w3_1, .bool s.t3.Grouped, w3_2]) ∧ i3 < h.next ∧ Sl rItem s.t3.Items w3_0 ∧ rCondT s.t3.Where [w3_1] ∧ Sl rGroup s.t3.Groups w3_2 ∧ i2 ≠ i3
def P19_2 (s : Fr19) (st : ASt) : Prop := P19_2' s st.tmps st.h
def P19_3' (s : Fr19) (t : List AVal) (h : AHeap) : Prop := ∃ w0_0 w0_1 w0_2 w1_0 w1_1 w1_2, t.length = 39 ∧ t[0]? = some (.agg [w0_0, .str s.t0.Table, w0_1, .bool s.t0.Grouped, w0_2]) ∧ Sl rItem s.t0.Items w0_0 ∧ rCondT s.t0.Where [w0_1] ∧ Sl rGroup s.t0.Groups w0_2 ∧ t[1]? = some (.agg [w1_0, .str s.t1.Table, w1_1, .bool s.t1.Grouped, w1_2]) ∧ Sl rItem s.t1.Items w1_0 ∧ rCondT s.t1.Where [w1_1] ∧ Sl rGroup s.t1.Groups w1_2
def P19_3 (s : Fr19) (st : ASt) : Prop := P19_3' s st.tmps st.h
noncomputable def m19_0 : Mo Fr19 := fun s => (cond ((s.t2.Table == s.t3.Table) && (s.t2.Grouped == s.t3.Grouped)) ((G50 s.t2.Items s.t3.Items).bind fun z7 => some z7) (some false)).bind fun x9 => (cond (((s.t2.Table == s.t3.Table) && (s.t2.Grouped == s.t3.Grouped)) && x9) ((G51 s.t2.Groups s.t3.Groups G52).bind fun z12 => some z12) (some false)).bind fun x14 => cond ((((s.t2.Table == s.t3.Table) && (s.t2.Grouped == s.t3.Grouped)) && x9) && x14) ((F56 5000 s.t5 s.t2.Where s.t3.Where).bind fun z28 => some (.nrm, { s with t4 := z28.2 })) (some (.nrm, { s with t4 := false }))
noncomputable def m19_1 : Mo Fr19 := fun s => some (.nrm, { s with t5 := 4096 })
noncomputable def m19_2 : Mo Fr19 := fun s => some (.nrm, { s with t2 := s.t0, t3 := s.t1 })
noncomputable def M19 : Mo Fr19 := seqM (m19_2) (seqM (m19_1) (seqM (m19_0) (retM)))
def Spec19 (f : Query → Query → Option Bool) : Prop := ∀ (x0 : Query) (x1 : Query) (vx0_0 : AVal) (_ : Sl rItem x0.Items vx0_0) (vx0_1 : AVal) (_ : rCondT x0.Where [vx0_1]) (vx0_2 : AVal) (_ : Sl rGroup x0.Groups vx0_2) (vx1_0 : AVal) (_ : Sl rItem x1.Items vx1_0) (vx1_1 : AVal) (_ : rCondT x1.Where [vx1_1]) (vx1_2 : AVal) (_ : Sl rGroup x1.Groups vx1_2) (r : Bool), f x0 x1 = some r → ∀ h, run Cp 19 [.agg [vx0_0, .str x0.Table, vx0_1, .bool x0.Grouped, vx0_2], .agg [vx1_0, .str x1.Table, vx1_1, .bool x1.Grouped, vx1_2]] h = some (.ret (.bool r), h)
theorem Spec19_of {f g : Query → Query → Option Bool} (hg : Spec19 g) (h : ∀ x0 x1 r, f x0 x1 = some r → g x0 x1 = some r) : Spec19 f := fun x0 x1 v0_ w0_ v1_ w1_ v2_ w2_ v3_ w3_ v4_ w4_ v5_ w5_ r hr => hg x0 x1 v0_ w0_ v1_ w1_ v2_ w2_ v3_ w3_ v4_ w4_ v5_ w5_ r (h x0 x1 r hr)
theorem R19_0 (pe : Nat → Fr19 → ASt → Prop) (pr : Fr19 → ASt → Prop) : Ref Cp P19_0 (Cat [true, true, false] (bodyOf Tryz.f19)) m19_0 (post P19_1 pe pr) := by
  rintro s ⟨t, h⟩ hp x s' hm
  have hp : P19_0' s t h := hp
  obtain ⟨i2, w2_0, w2_1, w2_2, i3, w3_0, w3_1, w3_2, i5, hl, a2, g2, l2, r2_0, r2_1, r2_2, a3, g3, l3, r3_0, r3_1, r3_2, a5, g5, l5, ne2_3, ne2_5, ne3_5⟩ := hp
  unfold m19_0 at hm
  have k37 : loadA h false 1 (.ptr i2 1) = some (.str s.t2.Table) := by rw [Heap.load_gen g2 (Nat.le_of_ble_eq_true rfl)]; first | rfl | exact ofc1 _ _ _
  have k38 : loadA h false 1 (.ptr i3 1) = some (.str s.t3.Table) := by rw [Heap.load_gen g3 (Nat.le_of_ble_eq_true rfl)]; first | rfl | exact ofc1 _ _ _
  cases hb39 : (s.t2.Table == s.t3.Table) with
  | true =>
    all_goals (
      try simp only [hb39, cond_true, cond_false, Option.bind_some, Option.bind_assoc, Bool.not_true, Bool.not_false, Bool.true_and, Bool.false_and, Bool.and_true, Bool.and_false, Bool.true_or, Bool.false_or] at hm
      have k40 : loadA h false 1 (.ptr i2 3) = some (.bool s.t2.Grouped) := by rw [Heap.load_gen g2 (Nat.le_of_ble_eq_true rfl)]; first | rfl | exact ofc1 _ _ _
      have k41 : loadA h false 1 (.ptr i3 3) = some (.bool s.t3.Grouped) := by rw [Heap.load_gen g3 (Nat.le_of_ble_eq_true rfl)]; first | rfl | exact ofc1 _ _ _
      cases hb42 : (s.t2.Grouped == s.t3.Grouped) with
      | true =>
        all_goals (
          try simp only [hb42, cond_true, cond_false, Option.bind_some, Option.bind_assoc, Bool.not_true, Bool.not_false, Bool.true_and, Bool.false_and, Bool.and_true, Bool.and_false, Bool.true_or, Bool.false_or] at hm
          have k43 : loadA h false 1 (.ptr i2 0) = some w2_0 := by rw [Heap.load_gen g2 (Nat.le_of_ble_eq_true rfl)]; first | rfl | exact ofc1 _ _ _
          have k44 : loadA h false 1 (.ptr i3 0) = some w3_0 := by rw [Heap.load_gen g3 (Nat.le_of_ble_eq_true rfl)]; first | rfl | exact ofc1 _ _ _
          obtain ⟨z45, hz45, hm⟩ := Option.bind_eq_some_iff.1 hm
          have iu46 := G50_spec s.t2.Items s.t3.Items _ r2_0 _ r3_0 _ hz45
          try simp only [cond_true, cond_false, Option.bind_some, Option.bind_assoc, Bool.not_true, Bool.not_false, Bool.true_and, Bool.false_and, Bool.and_true, Bool.and_false, Bool.true_or, Bool.false_or] at hm
          cases hb47 : z45 with
          | true =>
            all_goals (
              try simp only [hb47, cond_true, cond_false, Option.bind_some, Option.bind_assoc, Bool.not_true, Bool.not_false, Bool.true_and, Bool.false_and, Bool.and_true, Bool.and_false, Bool.true_or, Bool.false_or] at hm
              have k48 : loadA h false 1 (.ptr i2 4) = some w2_2 := by rw [Heap.load_gen g2 (Nat.le_of_ble_eq_true rfl)]; first | rfl | exact ofc1 _ _ _
              have k49 : loadA h false 1 (.ptr i3 4) = some w3_2 := by rw [Heap.load_gen g3 (Nat.le_of_ble_eq_true rfl)]; first | rfl | exact ofc1 _ _ _
              obtain ⟨z50, hz50, hm⟩ := Option.bind_eq_some_iff.1 hm
              have iu51 := G51_spec s.t2.Groups s.t3.Groups G52 _ r2_2 _ r3_2 _ (show rFnF0 G52 (.fn (.func 52) [] []) from ⟨52, rfl, G52_spec⟩) _ hz50
              try simp only [cond_true, cond_false, Option.bind_some, Option.bind_assoc, Bool.not_true, Bool.not_false, Bool.true_and, Bool.false_and, Bool.and_true, Bool.and_false, Bool.true_or, Bool.false_or] at hm
              cases hb52 : z50 with
              | true =>
                all_goals (
                  try simp only [hb52, cond_true, cond_false, Option.bind_some, Option.bind_assoc, Bool.not_true, Bool.not_false, Bool.true_and, Bool.false_and, Bool.and_true, Bool.and_false, Bool.true_or, Bool.false_or] at hm
                  have k53 : loadA h false 1 (.ptr i2 2) = some w2_1 := by rw [Heap.load_gen g2 (Nat.le_of_ble_eq_true rfl)]; first | rfl | exact ofc1 _ _ _
                  have k54 : loadA h false 1 (.ptr i3 2) = some w3_1 := by rw [Heap.load_gen g3 (Nat.le_of_ble_eq_true rfl)]; first | rfl | exact ofc1 _ _ _
                  obtain ⟨z55, hz55, hm⟩ := Option.bind_eq_some_iff.1 hm
                  have iu56 := (F56_spec 5000) s.t5 s.t2.Where s.t3.Where h i5 _ r2_1 _ r3_1 g5 _ hz55
                  obtain ⟨H57, eH57⟩ : ∃ x : AHeap, x = h.set i5 (some (.arr [.int .i64 z55.1])) := ⟨_, rfl⟩
                  rw [← eH57] at iu56
                  have k58 : H57.get i2 = some (.arr [w2_0, .str s.t2.Table, w2_1, .bool s.t2.Grouped, w2_2]) := by rw [eH57, Heap.get_set_ne ne2_5]; exact g2
                  have k59 : i2 < H57.next := by rw [eH57]; exact l2
                  have k60 : H57.get i3 = some (.arr [w3_0, .str s.t3.Table, w3_1, .bool s.t3.Grouped, w3_2]) := by rw [eH57, Heap.get_set_ne ne3_5]; exact g3
                  have k61 : i3 < H57.next := by rw [eH57]; exact l3
                  have k62 : H57.get i5 = some (.arr [.int .i64 z55.1]) := by rw [eH57]; exact Heap.get_set_eq
                  have k63 : i5 < H57.next := by rw [eH57]; exact l5
                  cases hm
                  refine ⟨⟨_, _⟩, by
                      simp only [bodyOf, Tryz.f19, Cat, Bool.false_eq_true, e_seq, e_region, e_cond, e_block, ex_skip, ex_exit, ex_ret, o_cons, xops_nil, k_want_none, k_want_false, k_val, k_pan, k_call, k_ret, k_seq, k_seq_exit, k_seq_ret, k_true, k_false, k_block, k_block_exit, k_block_ret, k_loop, k_loop_exit, k_loop_ret, awanted, aoper, evalO, put, Option.getD_some, List.getElem?_set, acallOp, abuiltin, List.map_cons, List.map_nil, Nat.reduceEqDiff, Nat.reduceLT, List.length_set, Option.map_some, Option.bind_some, Option.bind_eq_bind, add_i, sub_i, mul_i, eql_i, neq_i, lss_i, leq_i, gtr_i, geq_i, ofV, ofCell, ↓reduceIte, List.cons_append, List.nil_append, List.append_nil, List.getElem?_toArray, List.getElem?_cons_succ, List.getElem?_cons_zero, e_draw, g_nil, g_cons, g_want, g_skip, g_val, g_call, g_ret, Option.map_none, hl, a2, a3, a5, CP, bq1, bq2, bq3, bq4, ex_tup, List.append_eq, TyF.fa27_1, dropCells, Nat.zero_add, Nat.reduceAdd, k37, TyF.ld9, k38, eql_s, TyF.fa27_3, k40, TyF.ld4, k41, TyF.eqlb4, TyF.fa27_0, k43, TyF.ld23, k44, iu46, TyF.fa27_4, k48, TyF.ld25, k49, iu51, TyF.fa27_2, k53, TyF.ld24, k54, iu56, hb39, hb42, hb47, hb52]
                      exact rfl, ?_⟩
                  show P19_1 _ _
                  exact ⟨by simp [hl], by simp [hl, hb39, hb42, hb47, hb52]⟩)
              | false =>
                all_goals (
                  try simp only [hb52, cond_true, cond_false, Option.bind_some, Option.bind_assoc, Bool.not_true, Bool.not_false, Bool.true_and, Bool.false_and, Bool.and_true, Bool.and_false, Bool.true_or, Bool.false_or] at hm
                  cases hm
                  refine ⟨⟨_, _⟩, by
                      simp only [bodyOf, Tryz.f19, Cat, Bool.false_eq_true, e_seq, e_region, e_cond, e_block, ex_skip, ex_exit, ex_ret, o_cons, xops_nil, k_want_none, k_want_false, k_val, k_pan, k_call, k_ret, k_seq, k_seq_exit, k_seq_ret, k_true, k_false, k_block, k_block_exit, k_block_ret, k_loop, k_loop_exit, k_loop_ret, awanted, aoper, evalO, put, Option.getD_some, List.getElem?_set, acallOp, abuiltin, List.map_cons, List.map_nil, Nat.reduceEqDiff, Nat.reduceLT, List.length_set, Option.map_some, Option.bind_some, Option.bind_eq_bind, add_i, sub_i, mul_i, eql_i, neq_i, lss_i, leq_i, gtr_i, geq_i, ofV, ofCell, ↓reduceIte, List.cons_append, List.nil_append, List.append_nil, List.getElem?_toArray, List.getElem?_cons_succ, List.getElem?_cons_zero, e_draw, g_nil, g_cons, g_want, g_skip, g_val, g_call, g_ret, Option.map_none, hl, a2, a3, a5, CP, bq1, bq2, bq3, bq4, ex_tup, List.append_eq, TyF.fa27_1, dropCells, Nat.zero_add, Nat.reduceAdd, k37, TyF.ld9, k38, eql_s, TyF.fa27_3, k40, TyF.ld4, k41, TyF.eqlb4, TyF.fa27_0, k43, TyF.ld23, k44, iu46, TyF.fa27_4, k48, TyF.ld25, k49, iu51, hb39, hb42, hb47, hb52]
                      exact rfl, ?_⟩
                  show P19_1 _ _
                  exact ⟨by simp [hl], by simp [hl, hb39, hb42, hb47, hb52]⟩))
          | false =>
            all_goals (
              try simp only [hb47, cond_true, cond_false, Option.bind_some, Option.bind_assoc, Bool.not_true, Bool.not_false, Bool.true_and, Bool.false_and, Bool.and_true, Bool.and_false, Bool.true_or, Bool.false_or] at hm
              cases hm
              refine ⟨⟨_, _⟩, by
                  simp only [bodyOf, Tryz.f19, Cat, Bool.false_eq_true, e_seq, e_region, e_cond, e_block, ex_skip, ex_exit, ex_ret, o_cons, xops_nil, k_want_none, k_want_false, k_val, k_pan, k_call, k_ret, k_seq, k_seq_exit, k_seq_ret, k_true, k_false, k_block, k_block_exit, k_block_ret, k_loop, k_loop_exit, k_loop_ret, awanted, aoper, evalO, put, Option.getD_some, List.getElem?_set, acallOp, abuiltin, List.map_cons, List.map_nil, Nat.reduceEqDiff, Nat.reduceLT, List.length_set, Option.map_some, Option.bind_some, Option.bind_eq_bind, add_i, sub_i, mul_i, eql_i, neq_i, lss_i, leq_i, gtr_i, geq_i, ofV, ofCell, ↓reduceIte, List.cons_append, List.nil_append, List.append_nil, List.getElem?_toArray, List.getElem?_cons_succ, List.getElem?_cons_zero, e_draw, g_nil, g_cons, g_want, g_skip, g_val, g_call, g_ret, Option.map_none, hl, a2, a3, a5, CP, bq1, bq2, bq3, bq4, ex_tup, List.append_eq, TyF.fa27_1, dropCells, Nat.zero_add, Nat.reduceAdd, k37, TyF.ld9, k38, eql_s, TyF.fa27_3, k40, TyF.ld4, k41, TyF.eqlb4, TyF.fa27_0, k43, TyF.ld23, k44, iu46, hb39, hb42, hb47]
                  exact rfl, ?_⟩
              show P19_1 _ _
              exact ⟨by simp [hl], by simp [hl, hb39, hb42, hb47]⟩))
      | false =>
        all_goals (
          try simp only [hb42, cond_true, cond_false, Option.bind_some, Option.bind_assoc, Bool.not_true, Bool.not_false, Bool.true_and, Bool.false_and, Bool.and_true, Bool.and_false, Bool.true_or, Bool.false_or] at hm
          cases hm
          refine ⟨⟨_, _⟩, by
              simp only [bodyOf, Tryz.f19, Cat, Bool.false_eq_true, e_seq, e_region, e_cond, e_block, ex_skip, ex_exit, ex_ret, o_cons, xops_nil, k_want_none, k_want_false, k_val, k_pan, k_call, k_ret, k_seq, k_seq_exit, k_seq_ret, k_true, k_false, k_block, k_block_exit, k_block_ret, k_loop, k_loop_exit, k_loop_ret, awanted, aoper, evalO, put, Option.getD_some, List.getElem?_set, acallOp, abuiltin, List.map_cons, List.map_nil, Nat.reduceEqDiff, Nat.reduceLT, List.length_set, Option.map_some, Option.bind_some, Option.bind_eq_bind, add_i, sub_i, mul_i, eql_i, neq_i, lss_i, leq_i, gtr_i, geq_i, ofV, ofCell, ↓reduceIte, List.cons_append, List.nil_append, List.append_nil, List.getElem?_toArray, List.getElem?_cons_succ, List.getElem?_cons_zero, e_draw, g_nil, g_cons, g_want, g_skip, g_val, g_call, g_ret, Option.map_none, hl, a2, a3, a5, CP, bq1, bq2, bq3, bq4, ex_tup, List.append_eq, TyF.fa27_1, dropCells, Nat.zero_add, Nat.reduceAdd, k37, TyF.ld9, k38, eql_s, TyF.fa27_3, k40, TyF.ld4, k41, TyF.eqlb4, hb39, hb42]
              exact rfl, ?_⟩
          show P19_1 _ _
          exact ⟨by simp [hl], by simp [hl, hb39, hb42]⟩))
  | false =>
    all_goals (
      try simp only [hb39, cond_true, cond_false, Option.bind_some, Option.bind_assoc, Bool.not_true, Bool.not_false, Bool.true_and, Bool.false_and, Bool.and_true, Bool.and_false, Bool.true_or, Bool.false_or] at hm
      cases hm
      refine ⟨⟨_, _⟩, by
          simp only [bodyOf, Tryz.f19, Cat, Bool.false_eq_true, e_seq, e_region, e_cond, e_block, ex_skip, ex_exit, ex_ret, o_cons, xops_nil, k_want_none, k_want_false, k_val, k_pan, k_call, k_ret, k_seq, k_seq_exit, k_seq_ret, k_true, k_false, k_block, k_block_exit, k_block_ret, k_loop, k_loop_exit, k_loop_ret, awanted, aoper, evalO, put, Option.getD_some, List.getElem?_set, acallOp, abuiltin, List.map_cons, List.map_nil, Nat.reduceEqDiff, Nat.reduceLT, List.length_set, Option.map_some, Option.bind_some, Option.bind_eq_bind, add_i, sub_i, mul_i, eql_i, neq_i, lss_i, leq_i, gtr_i, geq_i, ofV, ofCell, ↓reduceIte, List.cons_append, List.nil_append, List.append_nil, List.getElem?_toArray, List.getElem?_cons_succ, List.getElem?_cons_zero, e_draw, g_nil, g_cons, g_want, g_skip, g_val, g_call, g_ret, Option.map_none, hl, a2, a3, a5, CP, bq1, bq2, bq3, bq4, ex_tup, List.append_eq, TyF.fa27_1, dropCells, Nat.zero_add, Nat.reduceAdd, k37, TyF.ld9, k38, eql_s, hb39]
          exact rfl, ?_⟩
      show P19_1 _ _
      exact ⟨by simp [hl], by simp [hl, hb39]⟩)
theorem R19_1 (pe : Nat → Fr19 → ASt → Prop) (pr : Fr19 → ASt → Prop) : Ref Cp P19_2 (Cat [true, false] (bodyOf Tryz.f19)) m19_1 (post P19_0 pe pr) := by
  rintro s ⟨t, h⟩ hp x s' hm
  have hp : P19_2' s t h := hp
  obtain ⟨i2, w2_0, w2_1, w2_2, i3, w3_0, w3_1, w3_2, hl, a2, g2, l2, r2_0, r2_1, r2_2, a3, g3, l3, r3_0, r3_1, r3_2, ne2_3⟩ := hp
  unfold m19_1 at hm
  obtain ⟨H83, eH83⟩ : ∃ x : AHeap, x = h.new (.arr [.int .i64 0]) := ⟨_, rfl⟩
  obtain ⟨id84, eid84⟩ : ∃ x : Nat, x = h.next := ⟨_, rfl⟩
  have k85 : H83.get i2 = some (.arr [w2_0, .str s.t2.Table, w2_1, .bool s.t2.Grouped, w2_2]) := by rw [eH83, Heap.get_new_lt l2]; exact g2
  have k86 : i2 < H83.next := by rw [eH83, Heap.new_next]; exact Nat.lt_succ_of_lt l2
  have k87 : H83.get i3 = some (.arr [w3_0, .str s.t3.Table, w3_1, .bool s.t3.Grouped, w3_2]) := by rw [eH83, Heap.get_new_lt l3]; exact g3
  have k88 : i3 < H83.next := by rw [eH83, Heap.new_next]; exact Nat.lt_succ_of_lt l3
  have k89 : H83.get id84 = some (.arr [.int .i64 0]) := by rw [eH83, eid84]; exact Heap.get_new_eq
  have k90 : id84 < H83.next := by rw [eH83, eid84, Heap.new_next]; exact Nat.lt_succ_self _
  have k91 : i2 ≠ id84 := by rw [eid84]; exact Nat.ne_of_lt l2
  have k92 : i3 ≠ id84 := by rw [eid84]; exact Nat.ne_of_lt l3
  have k93 : abox h (.int .i64 0) = some (.ptr id84 0, H83) := by simp only [abox, eH83, eid84, bx_i, bx_b, bx_s, bx_a, bx_nl, bx_np, bx_ip, bx_ls, cl_i, cl_b, cl_s, cl_a, cl_nl, cl_np, cl_ip, cl_ls, List.all_cons, List.all_nil, Bool.and_self, Bool.and_true, c_i, c_b, c_s, c_nl, c_np, c_ip, c_ls, if_true]
  obtain ⟨H94, eH94⟩ : ∃ x : AHeap, x = H83.set id84 (some (.arr [.int .i64 4096])) := ⟨_, rfl⟩
  have k95 : storeA H83 1 (.ptr id84 0) (.int .i64 4096) = some H94 := by rw [eH94]; exact Heap.store_gen k89 (show (.int .i64 4096 : AVal).cells = [.int .i64 4096] by simp only [cl_i, cl_b, cl_s, cl_a, cl_nl, cl_np, cl_ip, cl_ls]) rfl (by simp only [List.all_cons, List.all_nil, Bool.and_self, Bool.and_true, c_i, c_b, c_s, c_nl, c_np, c_ip, c_ls]) (Nat.le_of_ble_eq_true rfl) rfl
  have k96 : H94.get i2 = some (.arr [w2_0, .str s.t2.Table, w2_1, .bool s.t2.Grouped, w2_2]) := by rw [eH94, Heap.get_set_ne k91]; exact k85
  have k97 : i2 < H94.next := by rw [eH94]; exact k86
  have k98 : H94.get i3 = some (.arr [w3_0, .str s.t3.Table, w3_1, .bool s.t3.Grouped, w3_2]) := by rw [eH94, Heap.get_set_ne k92]; exact k87
  have k99 : i3 < H94.next := by rw [eH94]; exact k88
  have k100 : H94.get id84 = some (.arr [.int .i64 4096]) := by rw [eH94]; exact Heap.get_set_eq
  have k101 : id84 < H94.next := by rw [eH94]; exact k90
  cases hm
  refine ⟨⟨_, _⟩, by
      simp only [bodyOf, Tryz.f19, Cat, Bool.false_eq_true, e_seq, e_region, e_cond, e_block, ex_skip, ex_exit, ex_ret, o_cons, xops_nil, k_want_none, k_want_false, k_val, k_pan, k_call, k_ret, k_seq, k_seq_exit, k_seq_ret, k_true, k_false, k_block, k_block_exit, k_block_ret, k_loop, k_loop_exit, k_loop_ret, awanted, aoper, evalO, put, Option.getD_some, List.getElem?_set, acallOp, abuiltin, List.map_cons, List.map_nil, Nat.reduceEqDiff, Nat.reduceLT, List.length_set, Option.map_some, Option.bind_some, Option.bind_eq_bind, add_i, sub_i, mul_i, eql_i, neq_i, lss_i, leq_i, gtr_i, geq_i, ofV, ofCell, ↓reduceIte, List.cons_append, List.nil_append, List.append_nil, List.getElem?_toArray, List.getElem?_cons_succ, List.getElem?_cons_zero, e_draw, g_nil, g_cons, g_want, g_skip, g_val, g_call, g_ret, Option.map_none, hl, a2, a3, CP, bq1, bq2, bq3, bq4, ex_tup, TyF.ze3, TyF.own_show_go_170, k93, k95, TyF.st3]
      exact rfl, ?_⟩
  show P19_0 _ _
  exact ⟨i2, w2_0, w2_1, w2_2, i3, w3_0, w3_1, w3_2, id84, by simp [hl], by simp [a2], k96, k97, r2_0, r2_1, r2_2, by simp [a3], k98, k99, r3_0, r3_1, r3_2, by simp [hl], k100, k101, ne2_3, k91, k92⟩
theorem R19_2 (pe : Nat → Fr19 → ASt → Prop) (pr : Fr19 → ASt → Prop) : Ref Cp P19_3 (Cat [false] (bodyOf Tryz.f19)) m19_2 (post P19_2 pe pr) := by
  rintro s ⟨t, h⟩ hp x s' hm
  have hp : P19_3' s t h := hp
  obtain ⟨w0_0, w0_1, w0_2, w1_0, w1_1, w1_2, hl, a0, r0_0, r0_1, r0_2, a1, r1_0, r1_1, r1_2⟩ := hp
  unfold m19_2 at hm
  obtain ⟨H121, eH121⟩ : ∃ x : AHeap, x = h.new (.arr [w0_0, .str s.t0.Table, w0_1, .bool s.t0.Grouped, w0_2]) := ⟨_, rfl⟩
  obtain ⟨id122, eid122⟩ : ∃ x : Nat, x = h.next := ⟨_, rfl⟩
  have k123 : H121.get id122 = some (.arr [w0_0, .str s.t0.Table, w0_1, .bool s.t0.Grouped, w0_2]) := by rw [eH121, eid122]; exact Heap.get_new_eq
  have k124 : id122 < H121.next := by rw [eH121, eid122, Heap.new_next]; exact Nat.lt_succ_self _
  have ic125 : (w0_0 : AVal).isCell = true := Sl.isCell r0_0
  have ic126 : (w0_1 : AVal).isCell = true := rCondT_cell r0_1
  have ic127 : (w0_2 : AVal).isCell = true := Sl.isCell r0_2
  have k128 : abox h (.agg [w0_0, .str s.t0.Table, w0_1, .bool s.t0.Grouped, w0_2]) = some (.ptr id122 0, H121) := by simp only [abox, eH121, eid122, bx_i, bx_b, bx_s, bx_a, bx_nl, bx_np, bx_ip, bx_ls, cl_i, cl_b, cl_s, cl_a, cl_nl, cl_np, cl_ip, cl_ls, List.all_cons, List.all_nil, Bool.and_self, Bool.and_true, c_i, c_b, c_s, c_nl, c_np, c_ip, c_ls, if_true, ic125, bx_c ic125, cl_c ic125, ic126, bx_c ic126, cl_c ic126, ic127, bx_c ic127, cl_c ic127]
  obtain ⟨H129, eH129⟩ : ∃ x : AHeap, x = H121.new (.arr [w1_0, .str s.t1.Table, w1_1, .bool s.t1.Grouped, w1_2]) := ⟨_, rfl⟩
  obtain ⟨id130, eid130⟩ : ∃ x : Nat, x = H121.next := ⟨_, rfl⟩
  have k131 : H129.get id122 = some (.arr [w0_0, .str s.t0.Table, w0_1, .bool s.t0.Grouped, w0_2]) := by rw [eH129, Heap.get_new_lt k124]; exact k123
  have k132 : id122 < H129.next := by rw [eH129, Heap.new_next]; exact Nat.lt_succ_of_lt k124
  have k133 : H129.get id130 = some (.arr [w1_0, .str s.t1.Table, w1_1, .bool s.t1.Grouped, w1_2]) := by rw [eH129, eid130]; exact Heap.get_new_eq
  have k134 : id130 < H129.next := by rw [eH129, eid130, Heap.new_next]; exact Nat.lt_succ_self _
  have k135 : id122 ≠ id130 := by rw [eid130]; exact Nat.ne_of_lt k124
  have ic136 : (w1_0 : AVal).isCell = true := Sl.isCell r1_0
  have ic137 : (w1_1 : AVal).isCell = true := rCondT_cell r1_1
  have ic138 : (w1_2 : AVal).isCell = true := Sl.isCell r1_2
  have k139 : abox H121 (.agg [w1_0, .str s.t1.Table, w1_1, .bool s.t1.Grouped, w1_2]) = some (.ptr id130 0, H129) := by simp only [abox, eH129, eid130, bx_i, bx_b, bx_s, bx_a, bx_nl, bx_np, bx_ip, bx_ls, cl_i, cl_b, cl_s, cl_a, cl_nl, cl_np, cl_ip, cl_ls, List.all_cons, List.all_nil, Bool.and_self, Bool.and_true, c_i, c_b, c_s, c_nl, c_np, c_ip, c_ls, if_true, ic136, bx_c ic136, cl_c ic136, ic137, bx_c ic137, cl_c ic137, ic138, bx_c ic138, cl_c ic138]
  cases hm
  refine ⟨⟨_, _⟩, by
      simp only [bodyOf, Tryz.f19, Cat, Bool.false_eq_true, e_seq, e_region, e_cond, e_block, ex_skip, ex_exit, ex_ret, o_cons, xops_nil, k_want_none, k_want_false, k_val, k_pan, k_call, k_ret, k_seq, k_seq_exit, k_seq_ret, k_true, k_false, k_block, k_block_exit, k_block_ret, k_loop, k_loop_exit, k_loop_ret, awanted, aoper, evalO, put, Option.getD_some, List.getElem?_set, acallOp, abuiltin, List.map_cons, List.map_nil, Nat.reduceEqDiff, Nat.reduceLT, List.length_set, Option.map_some, Option.bind_some, Option.bind_eq_bind, add_i, sub_i, mul_i, eql_i, neq_i, lss_i, leq_i, gtr_i, geq_i, ofV, ofCell, ↓reduceIte, List.cons_append, List.nil_append, List.append_nil, List.getElem?_toArray, List.getElem?_cons_succ, List.getElem?_cons_zero, e_draw, g_nil, g_cons, g_want, g_skip, g_val, g_call, g_ret, Option.map_none, hl, a0, a1, CP, bq1, bq2, bq3, bq4, ex_tup, TyF.nc_show_go_169, k128, k139]
      exact rfl, ?_⟩
  show P19_2 _ _
  exact ⟨id122, w0_0, w0_1, w0_2, id130, w1_0, w1_1, w1_2, by simp [hl], by simp [hl], k131, k132, r0_0, r0_1, r0_2, by simp [hl], k133, k134, r1_0, r1_1, r1_2, k135⟩
theorem B19 : Ref Cp P19_3 (bodyOf Tryz.f19) (M19) (post P19_1 (fun _ _ _ => False) P19_1) := by
  rw [show bodyOf Tryz.f19 = .seq (Cat [false] (bodyOf Tryz.f19)) (.seq (Cat [true, false] (bodyOf Tryz.f19)) (.seq (Cat [true, true, false] (bodyOf Tryz.f19)) (.ret))) from rfl]
  unfold M19
  exact ref_seq (M := P19_2) (R19_2 _ _) (ref_seq (M := P19_0) (R19_1 _ _) (ref_seq (M := P19_1) (R19_0 _ _) (ref_ret (fun s st hp => hp))))
noncomputable def G19 (x0 : Query) (x1 : Query) : Option Bool := match M19 { (default : Fr19) with t0 := x0, t1 := x1 } with
  | some (.nrm, s) => some s.t4
  | some (.ret, s) => some s.t4
  | _ => none
theorem G19_spec : Spec19 (G19) := by
  intro x0 x1 vx0_0 hvx0_0 vx0_1 hvx0_1 vx0_2 hvx0_2 vx1_0 hvx1_0 vx1_1 hvx1_1 vx1_2 hvx1_2 r hr
  unfold G19 at hr
  cases hm : M19 { (default : Fr19) with t0 := x0, t1 := x1 } with
  | none => rw [hm] at hr; cases hr
  | some q =>
    obtain ⟨x, s⟩ := q
    rw [hm] at hr
    have hx : x = .nrm ∨ x = .ret := by cases x <;> first | exact .inl rfl | exact .inr rfl | cases hr
    have hr : s.t4 = r := by cases x <;> first | exact Option.some.inj hr | cases hr
    subst hr
    have hp0 : P19_3' ({ (default : Fr19) with t0 := x0, t1 := x1 }) (slots Tryz.f19 (stripL [.agg [vx0_0, .str x0.Table, vx0_1, .bool x0.Grouped, vx0_2], .agg [vx1_0, .str x1.Table, vx1_1, .bool x1.Grouped, vx1_2]])) bare := ⟨(strip vx0_0 : AVal), (strip vx0_1 : AVal), (strip vx0_2 : AVal), (strip vx1_0 : AVal), (strip vx1_1 : AVal), (strip vx1_2 : AVal), rfl, rfl, hvx0_0.strip rItem_p, rCondT_p.str _ _ hvx0_1, hvx0_2.strip rGroup_p, rfl, hvx1_0.strip rItem_p, rCondT_p.str _ _ hvx1_1, hvx1_2.strip rGroup_p⟩
    obtain ⟨v, hR, hrun⟩ := run_of_ref (C := Cp) (f := 19) (fn := Tryz.f19) Tryz.func19 rfl rfl rfl rfl (args := [.agg [vx0_0, .str x0.Table, vx0_1, .bool x0.Grouped, vx0_2], .agg [vx1_0, .str x1.Table, vx1_1, .bool x1.Grouped, vx1_2]]) (by simp only [refsL, refs, List.append_nil, hvx0_0.refs rItem_p, refs_one (rCondT_p.ref _ _ hvx0_1), hvx0_2.refs rGroup_p, hvx1_0.refs rItem_p, refs_one (rCondT_p.ref _ _ hvx1_1), hvx1_2.refs rGroup_p]) (B19) (s0 := { (default : Fr19) with t0 := x0, t1 := x1 }) hp0 hm hx (R := fun v => v = .bool s.t4) (by
      have key : ∀ st : ASt, P19_1 s st → ∃ vs v, aresults Cp Tryz.f19.results.toList st = some vs ∧ Nrm [] st.h (packRes vs) v ∧ (fun v => v = .bool s.t4) v := by
        intro st hp
        obtain ⟨hl, a4⟩ := (hp : P19_1' s st.tmps st.h)
        exact ⟨[.bool s.t4], _, by simp only [show Tryz.f19.results.toList = [ResultVar.tmp 4] from rfl, aresults, ares1, CP, a4, Option.getD_some], (Nrm.of (w := .bool s.t4) (by simp only [refsL, refs, List.append_nil])), rfl⟩
      intro st hq
      rcases hx with rfl | rfl
      · exact key st hq
      · exact key st hq)
    subst hR
    exact hrun
end Go.Proofs.Par
