/-
  BIND: functions (printed by wip/tools/tg.py).
-/
import Derived.Test.YtijnepmlnfcpnaaGreatDoorBndTypes
set_option linter.unusedVariables false
set_option linter.unusedSimpArgs false
set_option linter.unusedSimpArgs false
set_option linter.unusedVariables false
set_option maxRecDepth 100000
namespace Go.Proofs.Bnd
open Go Go.Am Go.Proofs
/-! ### slices.Index[[]int64,int64] -/
structure Fr230 where
  t0 : (List Int)
  t1 : Int
  t4 : Int
  t5 : Int
  t7 : Int
  t8 : Int
  t9 : Bool
  t16 : Bool
instance : Inhabited Fr230 := ⟨⟨[], 0, 0, 0, 0, 0, false, false⟩⟩
def P230_0' (s : Fr230) (t : List AVal) (h : AHeap) : Prop := t.length = 19 ∧ True
def P230_0 (s : Fr230) (st : ASt) : Prop := P230_0' s st.tmps st.h
def P230_1' (s : Fr230) (t : List AVal) (h : AHeap) : Prop := t.length = 19 ∧ t[4]? = some (.int .i64 s.t4)
def P230_1 (s : Fr230) (st : ASt) : Prop := P230_1' s st.tmps st.h
def P230_2' (s : Fr230) (t : List AVal) (h : AHeap) : Prop := ∃ w0_0, t.length = 19 ∧ t[0]? = some w0_0 ∧ Sl (rI .i64) s.t0 w0_0 ∧ t[1]? = some (.int .i64 s.t1) ∧ t[7]? = some (.int .i64 s.t7) ∧ t[8]? = some (.int .i64 s.t8)
def P230_2 (s : Fr230) (st : ASt) : Prop := P230_2' s st.tmps st.h
def P230_3' (s : Fr230) (t : List AVal) (h : AHeap) : Prop := t.length = 19 ∧ t[5]? = some (.int .i64 s.t5)
def P230_3 (s : Fr230) (st : ASt) : Prop := P230_3' s st.tmps st.h
def P230_4' (s : Fr230) (t : List AVal) (h : AHeap) : Prop := ∃ w0_0, t.length = 19 ∧ t[0]? = some w0_0 ∧ Sl (rI .i64) s.t0 w0_0 ∧ t[1]? = some (.int .i64 s.t1) ∧ t[5]? = some (.int .i64 s.t5) ∧ t[7]? = some (.int .i64 s.t7) ∧ t[8]? = some (.int .i64 s.t8) ∧ t[16]? = some (.bool s.t16)
def P230_4 (s : Fr230) (st : ASt) : Prop := P230_4' s st.tmps st.h
def P230_5' (s : Fr230) (t : List AVal) (h : AHeap) : Prop := ∃ w0_0, t.length = 19 ∧ t[0]? = some w0_0 ∧ Sl (rI .i64) s.t0 w0_0 ∧ t[1]? = some (.int .i64 s.t1) ∧ t[5]? = some (.int .i64 s.t5) ∧ t[7]? = some (.int .i64 s.t7) ∧ t[8]? = some (.int .i64 s.t8)
def P230_5 (s : Fr230) (st : ASt) : Prop := P230_5' s st.tmps st.h
def P230_6' (s : Fr230) (t : List AVal) (h : AHeap) : Prop := ∃ w0_0, t.length = 19 ∧ t[0]? = some w0_0 ∧ Sl (rI .i64) s.t0 w0_0 ∧ t[1]? = some (.int .i64 s.t1) ∧ t[7]? = some (.int .i64 s.t7) ∧ t[8]? = some (.int .i64 s.t8) ∧ t[9]? = some (.bool s.t9)
def P230_6 (s : Fr230) (st : ASt) : Prop := P230_6' s st.tmps st.h
def P230_7' (s : Fr230) (t : List AVal) (h : AHeap) : Prop := ∃ w0_0, t.length = 19 ∧ t[0]? = some w0_0 ∧ Sl (rI .i64) s.t0 w0_0 ∧ t[1]? = some (.int .i64 s.t1)
def P230_7 (s : Fr230) (st : ASt) : Prop := P230_7' s st.tmps st.h
noncomputable def m230_0 : Mo Fr230 := fun s => some (.nrm, { s with t4 := (-1) })
noncomputable def m230_1 : Mo Fr230 := fun s => some (.nrm, { s with t8 := IntKind.wrap .i64 (s.t8 + 1) })
noncomputable def m230_2 : Mo Fr230 := fun s => some (.nrm, { s with t4 := s.t5 })
noncomputable def m230_3 : Mo Fr230 := fun s => (at? s.t0 s.t5).bind fun y1 => some (.nrm, { s with t16 := (s.t1 == y1) })
noncomputable def m230_4 : Mo Fr230 := fun s => some (.nrm, { s with t5 := s.t8 })
noncomputable def m230_5 : Mo Fr230 := fun s => some (.nrm, { s with t9 := decide (s.t8 < s.t7) })
noncomputable def L230_6 : Mo Fr230 := seqM (m230_5) (seqM (condM (fun s => s.t9) (skipM) (exitM 0)) (seqM (blockM 1 (seqM (m230_4) (seqM (m230_3) (condM (fun s => s.t16) (seqM (m230_2) (retM)) (skipM))))) (m230_1)))
noncomputable def m230_7 : Mo Fr230 := fun s => some (.nrm, { s with t7 := (s.t0.length : Int), t8 := 0 })
noncomputable def m230_8 : Mo Fr230 := fun s => some (.nrm, s)
noncomputable def M230 : Mo Fr230 := seqM (m230_8) (seqM (seqM (m230_7) (blockM 0 (loopM (L230_6)))) (seqM (m230_0) (retM)))
def Spec230 (f : (List Int) → Int → Option Int) : Prop := ∀ (x0 : (List Int)) (x1 : Int) (vx0_0 : AVal) (_ : Sl (rI .i64) x0 vx0_0) (r : Int), f x0 x1 = some r → ∀ h, run Cb 230 [vx0_0, .int .i64 x1] h = some (.ret (.int .i64 r), h)
theorem Spec230_of {f g : (List Int) → Int → Option Int} (hg : Spec230 g) (h : ∀ x0 x1 r, f x0 x1 = some r → g x0 x1 = some r) : Spec230 f := fun x0 x1 v0_ w0_ r hr => hg x0 x1 v0_ w0_ r (h x0 x1 r hr)
theorem R230_0 (pe : Nat → Fr230 → ASt → Prop) (pr : Fr230 → ASt → Prop) : Ref Cb P230_0 (Cat [true, true, false] (bodyOf Tryz.f230)) m230_0 (post P230_1 pe pr) := by
  rintro s ⟨t, h⟩ hp x s' hm
  have hp : P230_0' s t h := hp
  obtain ⟨hl, _⟩ := hp
  unfold m230_0 at hm
  cases hm
  refine ⟨⟨_, _⟩, by
      simp only [bodyOf, Tryz.f230, Cat, Bool.false_eq_true, e_seq, e_region, e_cond, e_block, ex_skip, ex_exit, ex_ret, o_cons, xops_nil, k_want_none, k_want_false, k_val, k_pan, k_call, k_ret, k_seq, k_seq_exit, k_seq_ret, k_true, k_false, k_block, k_block_exit, k_block_ret, k_loop, k_loop_exit, k_loop_ret, awanted, aoper, evalO, put, Option.getD_some, List.getElem?_set, acallOp, abuiltin, List.map_cons, List.map_nil, Nat.reduceEqDiff, Nat.reduceLT, List.length_set, Option.map_some, Option.bind_some, Option.bind_eq_bind, add_i, sub_i, mul_i, eql_i, neq_i, lss_i, leq_i, gtr_i, geq_i, ofV, ofCell, ↓reduceIte, List.cons_append, List.nil_append, List.append_nil, List.getElem?_toArray, List.getElem?_cons_succ, List.getElem?_cons_zero, e_draw, g_nil, g_cons, g_want, g_skip, g_val, g_call, g_ret, Option.map_none, hl, CP, bq1, bq2, bq3, bq4, ex_tup]
      exact rfl, ?_⟩
  show P230_1 _ _
  exact ⟨by simp [hl], by simp [hl]⟩
theorem R230_1 (pe : Nat → Fr230 → ASt → Prop) (pr : Fr230 → ASt → Prop) : Ref Cb P230_2 (Cat [true, false, true, true, true, true, true, true] (bodyOf Tryz.f230)) m230_1 (post P230_2 pe pr) := by
  rintro s ⟨t, h⟩ hp x s' hm
  have hp : P230_2' s t h := hp
  obtain ⟨w0_0, hl, a0, r0_0, a1, a7, a8⟩ := hp
  unfold m230_1 at hm
  cases hm
  refine ⟨⟨_, _⟩, by
      simp only [bodyOf, Tryz.f230, Cat, Bool.false_eq_true, e_seq, e_region, e_cond, e_block, ex_skip, ex_exit, ex_ret, o_cons, xops_nil, k_want_none, k_want_false, k_val, k_pan, k_call, k_ret, k_seq, k_seq_exit, k_seq_ret, k_true, k_false, k_block, k_block_exit, k_block_ret, k_loop, k_loop_exit, k_loop_ret, awanted, aoper, evalO, put, Option.getD_some, List.getElem?_set, acallOp, abuiltin, List.map_cons, List.map_nil, Nat.reduceEqDiff, Nat.reduceLT, List.length_set, Option.map_some, Option.bind_some, Option.bind_eq_bind, add_i, sub_i, mul_i, eql_i, neq_i, lss_i, leq_i, gtr_i, geq_i, ofV, ofCell, ↓reduceIte, List.cons_append, List.nil_append, List.append_nil, List.getElem?_toArray, List.getElem?_cons_succ, List.getElem?_cons_zero, e_draw, g_nil, g_cons, g_want, g_skip, g_val, g_call, g_ret, Option.map_none, hl, a0, a1, a7, a8, CP, bq1, bq2, bq3, bq4, ex_tup]
      exact rfl, ?_⟩
  show P230_2 _ _
  exact ⟨w0_0, by simp [hl], by simp [a0], r0_0, by simp [a1], by simp [a7], by simp [hl]⟩
theorem R230_2 (pe : Nat → Fr230 → ASt → Prop) (pr : Fr230 → ASt → Prop) : Ref Cb P230_3 (Cat [true, false, true, true, true, true, true, false, true, true, true, false, false] (bodyOf Tryz.f230)) m230_2 (post P230_1 pe pr) := by
  rintro s ⟨t, h⟩ hp x s' hm
  have hp : P230_3' s t h := hp
  obtain ⟨hl, a5⟩ := hp
  unfold m230_2 at hm
  cases hm
  refine ⟨⟨_, _⟩, by
      simp only [bodyOf, Tryz.f230, Cat, Bool.false_eq_true, e_seq, e_region, e_cond, e_block, ex_skip, ex_exit, ex_ret, o_cons, xops_nil, k_want_none, k_want_false, k_val, k_pan, k_call, k_ret, k_seq, k_seq_exit, k_seq_ret, k_true, k_false, k_block, k_block_exit, k_block_ret, k_loop, k_loop_exit, k_loop_ret, awanted, aoper, evalO, put, Option.getD_some, List.getElem?_set, acallOp, abuiltin, List.map_cons, List.map_nil, Nat.reduceEqDiff, Nat.reduceLT, List.length_set, Option.map_some, Option.bind_some, Option.bind_eq_bind, add_i, sub_i, mul_i, eql_i, neq_i, lss_i, leq_i, gtr_i, geq_i, ofV, ofCell, ↓reduceIte, List.cons_append, List.nil_append, List.append_nil, List.getElem?_toArray, List.getElem?_cons_succ, List.getElem?_cons_zero, e_draw, g_nil, g_cons, g_want, g_skip, g_val, g_call, g_ret, Option.map_none, hl, a5, CP, bq1, bq2, bq3, bq4, ex_tup]
      exact rfl, ?_⟩
  show P230_1 _ _
  exact ⟨by simp [hl], by simp [hl]⟩
theorem R230_3 (pe : Nat → Fr230 → ASt → Prop) (pr : Fr230 → ASt → Prop) : Ref Cb P230_5 (Cat [true, false, true, true, true, true, true, false, true, true, false] (bodyOf Tryz.f230)) m230_3 (post P230_4 pe pr) := by
  rintro s ⟨t, h⟩ hp x s' hm
  have hp : P230_5' s t h := hp
  obtain ⟨w0_0, hl, a0, r0_0, a1, a5, a7, a8⟩ := hp
  unfold m230_3 at hm
  obtain ⟨y3, hy3, hm⟩ := Option.bind_eq_some_iff.1 hm
  obtain ⟨cu4, du4, eu4, iu4, _⟩ := Sl.ix (rI_p .i64) r0_0 hy3
  subst eu4
  cases hm
  refine ⟨⟨_, _⟩, by
      simp only [bodyOf, Tryz.f230, Cat, Bool.false_eq_true, e_seq, e_region, e_cond, e_block, ex_skip, ex_exit, ex_ret, o_cons, xops_nil, k_want_none, k_want_false, k_val, k_pan, k_call, k_ret, k_seq, k_seq_exit, k_seq_ret, k_true, k_false, k_block, k_block_exit, k_block_ret, k_loop, k_loop_exit, k_loop_ret, awanted, aoper, evalO, put, Option.getD_some, List.getElem?_set, acallOp, abuiltin, List.map_cons, List.map_nil, Nat.reduceEqDiff, Nat.reduceLT, List.length_set, Option.map_some, Option.bind_some, Option.bind_eq_bind, add_i, sub_i, mul_i, eql_i, neq_i, lss_i, leq_i, gtr_i, geq_i, ofV, ofCell, ↓reduceIte, List.cons_append, List.nil_append, List.append_nil, List.getElem?_toArray, List.getElem?_cons_succ, List.getElem?_cons_zero, e_draw, g_nil, g_cons, g_want, g_skip, g_val, g_call, g_ret, Option.map_none, hl, a0, a1, a5, a7, a8, CP, bq1, bq2, bq3, bq4, ex_tup, Ty.ix51, iu4, Ty.ld2, ld_ip, ofc1, List.drop_succ_cons, List.drop_zero]
      exact rfl, ?_⟩
  show P230_4 _ _
  exact ⟨w0_0, by simp [hl], by simp [a0], r0_0, by simp [a1], by simp [a5], by simp [a7], by simp [a8], by simp [hl]⟩
theorem R230_4 (pe : Nat → Fr230 → ASt → Prop) (pr : Fr230 → ASt → Prop) : Ref Cb P230_2 (Cat [true, false, true, true, true, true, true, false, true, false] (bodyOf Tryz.f230)) m230_4 (post P230_5 pe pr) := by
  rintro s ⟨t, h⟩ hp x s' hm
  have hp : P230_2' s t h := hp
  obtain ⟨w0_0, hl, a0, r0_0, a1, a7, a8⟩ := hp
  unfold m230_4 at hm
  cases hm
  refine ⟨⟨_, _⟩, by
      simp only [bodyOf, Tryz.f230, Cat, Bool.false_eq_true, e_seq, e_region, e_cond, e_block, ex_skip, ex_exit, ex_ret, o_cons, xops_nil, k_want_none, k_want_false, k_val, k_pan, k_call, k_ret, k_seq, k_seq_exit, k_seq_ret, k_true, k_false, k_block, k_block_exit, k_block_ret, k_loop, k_loop_exit, k_loop_ret, awanted, aoper, evalO, put, Option.getD_some, List.getElem?_set, acallOp, abuiltin, List.map_cons, List.map_nil, Nat.reduceEqDiff, Nat.reduceLT, List.length_set, Option.map_some, Option.bind_some, Option.bind_eq_bind, add_i, sub_i, mul_i, eql_i, neq_i, lss_i, leq_i, gtr_i, geq_i, ofV, ofCell, ↓reduceIte, List.cons_append, List.nil_append, List.append_nil, List.getElem?_toArray, List.getElem?_cons_succ, List.getElem?_cons_zero, e_draw, g_nil, g_cons, g_want, g_skip, g_val, g_call, g_ret, Option.map_none, hl, a0, a1, a7, a8, CP, bq1, bq2, bq3, bq4, ex_tup]
      exact rfl, ?_⟩
  show P230_5 _ _
  exact ⟨w0_0, by simp [hl], by simp [a0], r0_0, by simp [a1], by simp [hl], by simp [a7], by simp [a8]⟩
theorem R230_5 (pe : Nat → Fr230 → ASt → Prop) (pr : Fr230 → ASt → Prop) : Ref Cb P230_2 (Cat [true, false, true, true, true, false] (bodyOf Tryz.f230)) m230_5 (post P230_6 pe pr) := by
  rintro s ⟨t, h⟩ hp x s' hm
  have hp : P230_2' s t h := hp
  obtain ⟨w0_0, hl, a0, r0_0, a1, a7, a8⟩ := hp
  unfold m230_5 at hm
  cases hm
  refine ⟨⟨_, _⟩, by
      simp only [bodyOf, Tryz.f230, Cat, Bool.false_eq_true, e_seq, e_region, e_cond, e_block, ex_skip, ex_exit, ex_ret, o_cons, xops_nil, k_want_none, k_want_false, k_val, k_pan, k_call, k_ret, k_seq, k_seq_exit, k_seq_ret, k_true, k_false, k_block, k_block_exit, k_block_ret, k_loop, k_loop_exit, k_loop_ret, awanted, aoper, evalO, put, Option.getD_some, List.getElem?_set, acallOp, abuiltin, List.map_cons, List.map_nil, Nat.reduceEqDiff, Nat.reduceLT, List.length_set, Option.map_some, Option.bind_some, Option.bind_eq_bind, add_i, sub_i, mul_i, eql_i, neq_i, lss_i, leq_i, gtr_i, geq_i, ofV, ofCell, ↓reduceIte, List.cons_append, List.nil_append, List.append_nil, List.getElem?_toArray, List.getElem?_cons_succ, List.getElem?_cons_zero, e_draw, g_nil, g_cons, g_want, g_skip, g_val, g_call, g_ret, Option.map_none, hl, a0, a1, a7, a8, CP, bq1, bq2, bq3, bq4, ex_tup]
      exact rfl, ?_⟩
  show P230_6 _ _
  exact ⟨w0_0, by simp [hl], by simp [a0], r0_0, by simp [a1], by simp [a7], by simp [a8], by simp [hl]⟩
theorem R230_7 (pe : Nat → Fr230 → ASt → Prop) (pr : Fr230 → ASt → Prop) : Ref Cb P230_7 (Cat [true, false, false] (bodyOf Tryz.f230)) m230_7 (post P230_2 pe pr) := by
  rintro s ⟨t, h⟩ hp x s' hm
  have hp : P230_7' s t h := hp
  obtain ⟨w0_0, hl, a0, r0_0, a1⟩ := hp
  unfold m230_7 at hm
  have lu6 := fun h => Sl.len r0_0 Ty.un51 h
  cases hm
  refine ⟨⟨_, _⟩, by
      simp only [bodyOf, Tryz.f230, Cat, Bool.false_eq_true, e_seq, e_region, e_cond, e_block, ex_skip, ex_exit, ex_ret, o_cons, xops_nil, k_want_none, k_want_false, k_val, k_pan, k_call, k_ret, k_seq, k_seq_exit, k_seq_ret, k_true, k_false, k_block, k_block_exit, k_block_ret, k_loop, k_loop_exit, k_loop_ret, awanted, aoper, evalO, put, Option.getD_some, List.getElem?_set, acallOp, abuiltin, List.map_cons, List.map_nil, Nat.reduceEqDiff, Nat.reduceLT, List.length_set, Option.map_some, Option.bind_some, Option.bind_eq_bind, add_i, sub_i, mul_i, eql_i, neq_i, lss_i, leq_i, gtr_i, geq_i, ofV, ofCell, ↓reduceIte, List.cons_append, List.nil_append, List.append_nil, List.getElem?_toArray, List.getElem?_cons_succ, List.getElem?_cons_zero, e_draw, g_nil, g_cons, g_want, g_skip, g_val, g_call, g_ret, Option.map_none, hl, a0, a1, CP, bq1, bq2, bq3, bq4, ex_tup, lu6]
      exact rfl, ?_⟩
  show P230_2 _ _
  exact ⟨w0_0, by simp [hl], by simp [a0], r0_0, by simp [a1], by simp [hl], by simp [hl]⟩
theorem R230_8 (pe : Nat → Fr230 → ASt → Prop) (pr : Fr230 → ASt → Prop) : Ref Cb P230_7 (Cat [false] (bodyOf Tryz.f230)) m230_8 (post P230_7 pe pr) := by
  rintro s ⟨t, h⟩ hp x s' hm
  have hp : P230_7' s t h := hp
  obtain ⟨w0_0, hl, a0, r0_0, a1⟩ := hp
  unfold m230_8 at hm
  cases hm
  refine ⟨⟨_, _⟩, by
      simp only [bodyOf, Tryz.f230, Cat, Bool.false_eq_true, e_seq, e_region, e_cond, e_block, ex_skip, ex_exit, ex_ret, o_cons, xops_nil, k_want_none, k_want_false, k_val, k_pan, k_call, k_ret, k_seq, k_seq_exit, k_seq_ret, k_true, k_false, k_block, k_block_exit, k_block_ret, k_loop, k_loop_exit, k_loop_ret, awanted, aoper, evalO, put, Option.getD_some, List.getElem?_set, acallOp, abuiltin, List.map_cons, List.map_nil, Nat.reduceEqDiff, Nat.reduceLT, List.length_set, Option.map_some, Option.bind_some, Option.bind_eq_bind, add_i, sub_i, mul_i, eql_i, neq_i, lss_i, leq_i, gtr_i, geq_i, ofV, ofCell, ↓reduceIte, List.cons_append, List.nil_append, List.append_nil, List.getElem?_toArray, List.getElem?_cons_succ, List.getElem?_cons_zero, e_draw, g_nil, g_cons, g_want, g_skip, g_val, g_call, g_ret, Option.map_none, hl, a0, a1, CP, bq1, bq2, bq3, bq4, ex_tup]
      exact rfl, ?_⟩
  show P230_7 _ _
  exact ⟨w0_0, by simp [hl], by simp [a0], r0_0, by simp [a1]⟩
theorem B230 : Ref Cb P230_7 (bodyOf Tryz.f230) (M230) (post P230_1 (fun _ _ _ => False) P230_1) := by
  rw [show bodyOf Tryz.f230 = .seq (Cat [false] (bodyOf Tryz.f230)) (.seq (.seq (Cat [true, false, false] (bodyOf Tryz.f230)) (.block 0 (.loop (.seq (Cat [true, false, true, true, true, false] (bodyOf Tryz.f230)) (.seq (.cond (.tmp 9) (.skip) (.exit 0)) (.seq (.block 1 (.seq (Cat [true, false, true, true, true, true, true, false, true, false] (bodyOf Tryz.f230)) (.seq (Cat [true, false, true, true, true, true, true, false, true, true, false] (bodyOf Tryz.f230)) (.cond (.tmp 16) (.seq (Cat [true, false, true, true, true, true, true, false, true, true, true, false, false] (bodyOf Tryz.f230)) (.ret)) (.skip))))) (Cat [true, false, true, true, true, true, true, true] (bodyOf Tryz.f230)))))))) (.seq (Cat [true, true, false] (bodyOf Tryz.f230)) (.ret))) from rfl]
  unfold M230
  exact ref_seq (M := P230_7) (R230_8 _ _) (ref_seq (M := P230_0) (ref_seq (M := P230_2) (R230_7 _ _) (ref_block (ref_loop (P := P230_2) (ref_weak (P' := P230_2) (fun s st hp => hp) (ref_seq (M := P230_6) (R230_5 _ _) (ref_seq (M := P230_2) (ref_cond (P := P230_6) (c := fun s => s.t9) (fun s st hp => by obtain ⟨w0_0, hl, a0, r0_0, a1, a7, a8, a9⟩ := (hp : P230_6' s st.tmps st.h); simp only [evalO, a9, Option.getD_some]) (ref_weak (P' := P230_2) (fun s st hp => by obtain ⟨w0_0, hl, a0, r0_0, a1, a7, a8, a9⟩ := (hp : P230_6' s st.tmps st.h); exact (⟨w0_0, hl, a0, r0_0, a1, a7, a8⟩ : P230_2' s st.tmps st.h)) (ref_skip (fun s st hp => hp))) (ref_weak (P' := P230_0) (fun s st hp => by obtain ⟨w0_0, hl, a0, r0_0, a1, a7, a8, a9⟩ := (hp : P230_6' s st.tmps st.h); exact (⟨hl, trivial⟩ : P230_0' s st.tmps st.h)) (ref_exit (fun s st hp => hp)))) (ref_seq (M := P230_2) (ref_block (ref_seq (M := P230_5) (R230_4 _ _) (ref_seq (M := P230_4) (R230_3 _ _) (ref_cond (P := P230_4) (c := fun s => s.t16) (fun s st hp => by obtain ⟨w0_0, hl, a0, r0_0, a1, a5, a7, a8, a16⟩ := (hp : P230_4' s st.tmps st.h); simp only [evalO, a16, Option.getD_some]) (ref_weak (P' := P230_3) (fun s st hp => by obtain ⟨w0_0, hl, a0, r0_0, a1, a5, a7, a8, a16⟩ := (hp : P230_4' s st.tmps st.h); exact (⟨hl, a5⟩ : P230_3' s st.tmps st.h)) (ref_seq (M := P230_1) (R230_2 _ _) (ref_ret (fun s st hp => hp)))) (ref_weak (P' := P230_2) (fun s st hp => by obtain ⟨w0_0, hl, a0, r0_0, a1, a5, a7, a8, a16⟩ := (hp : P230_4' s st.tmps st.h); exact (⟨w0_0, hl, a0, r0_0, a1, a7, a8⟩ : P230_2' s st.tmps st.h)) (ref_skip (fun s st hp => hp))))))) (R230_1 _ _)))))))) (ref_seq (M := P230_1) (R230_0 _ _) (ref_ret (fun s st hp => hp))))
noncomputable def G230 (x0 : (List Int)) (x1 : Int) : Option Int := match M230 { (default : Fr230) with t0 := x0, t1 := x1 } with
  | some (.nrm, s) => some s.t4
  | some (.ret, s) => some s.t4
  | _ => none
theorem G230_spec : Spec230 (G230) := by
  intro x0 x1 vx0_0 hvx0_0 r hr
  unfold G230 at hr
  cases hm : M230 { (default : Fr230) with t0 := x0, t1 := x1 } with
  | none => rw [hm] at hr; cases hr
  | some q =>
    obtain ⟨x, s⟩ := q
    rw [hm] at hr
    have hx : x = .nrm ∨ x = .ret := by cases x <;> first | exact .inl rfl | exact .inr rfl | cases hr
    have hr : s.t4 = r := by cases x <;> first | exact Option.some.inj hr | cases hr
    subst hr
    have hp0 : P230_7' ({ (default : Fr230) with t0 := x0, t1 := x1 }) (slots Tryz.f230 (stripL [vx0_0, .int .i64 x1])) bare := ⟨(strip vx0_0 : AVal), rfl, rfl, hvx0_0.strip (rI_p .i64), rfl⟩
    obtain ⟨v, hR, hrun⟩ := run_of_ref (C := Cb) (f := 230) (fn := Tryz.f230) Tryz.func230 rfl rfl rfl rfl (args := [vx0_0, .int .i64 x1]) (by simp only [refsL, refs, List.append_nil, hvx0_0.refs (rI_p .i64)]) (B230) (s0 := { (default : Fr230) with t0 := x0, t1 := x1 }) hp0 hm hx (R := fun v => v = .int .i64 s.t4) (by
      have key : ∀ st : ASt, P230_1 s st → ∃ vs v, aresults Cb Tryz.f230.results.toList st = some vs ∧ Nrm [] st.h (packRes vs) v ∧ (fun v => v = .int .i64 s.t4) v := by
        intro st hp
        obtain ⟨hl, a4⟩ := (hp : P230_1' s st.tmps st.h)
        exact ⟨[.int .i64 s.t4], _, by simp only [show Tryz.f230.results.toList = [ResultVar.tmp 4] from rfl, aresults, ares1, CP, a4, Option.getD_some], (Nrm.of (w := .int .i64 s.t4) (by simp only [refsL, refs, List.append_nil])), rfl⟩
      intro st hq
      rcases hx with rfl | rfl
      · exact key st hq
      · exact key st hq)
    subst hR
    exact hrun
/-! ### cmp.isNaN[int64] -/
structure Fr231 where
  t0 : Int
  t2 : Bool
instance : Inhabited Fr231 := ⟨⟨0, false⟩⟩
def P231_0' (s : Fr231) (t : List AVal) (h : AHeap) : Prop := t.length = 6 ∧ t[0]? = some (.int .i64 s.t0)
def P231_0 (s : Fr231) (st : ASt) : Prop := P231_0' s st.tmps st.h
def P231_1' (s : Fr231) (t : List AVal) (h : AHeap) : Prop := t.length = 6 ∧ t[2]? = some (.bool s.t2)
def P231_1 (s : Fr231) (st : ASt) : Prop := P231_1' s st.tmps st.h
noncomputable def m231_0 : Mo Fr231 := fun s => some (.nrm, { s with t2 := (s.t0 != s.t0) })
noncomputable def m231_1 : Mo Fr231 := fun s => some (.nrm, s)
noncomputable def M231 : Mo Fr231 := seqM (m231_1) (seqM (m231_0) (retM))
def Spec231 (f : Int → Option Bool) : Prop := ∀ (x0 : Int) (r : Bool), f x0 = some r → ∀ h, run Cb 231 [.int .i64 x0] h = some (.ret (.bool r), h)
theorem Spec231_of {f g : Int → Option Bool} (hg : Spec231 g) (h : ∀ x0 r, f x0 = some r → g x0 = some r) : Spec231 f := fun x0 r hr => hg x0 r (h x0 r hr)
theorem R231_0 (pe : Nat → Fr231 → ASt → Prop) (pr : Fr231 → ASt → Prop) : Ref Cb P231_0 (Cat [true, false] (bodyOf Tryz.f231)) m231_0 (post P231_1 pe pr) := by
  rintro s ⟨t, h⟩ hp x s' hm
  have hp : P231_0' s t h := hp
  obtain ⟨hl, a0⟩ := hp
  unfold m231_0 at hm
  cases hm
  refine ⟨⟨_, _⟩, by
      simp only [bodyOf, Tryz.f231, Cat, Bool.false_eq_true, e_seq, e_region, e_cond, e_block, ex_skip, ex_exit, ex_ret, o_cons, xops_nil, k_want_none, k_want_false, k_val, k_pan, k_call, k_ret, k_seq, k_seq_exit, k_seq_ret, k_true, k_false, k_block, k_block_exit, k_block_ret, k_loop, k_loop_exit, k_loop_ret, awanted, aoper, evalO, put, Option.getD_some, List.getElem?_set, acallOp, abuiltin, List.map_cons, List.map_nil, Nat.reduceEqDiff, Nat.reduceLT, List.length_set, Option.map_some, Option.bind_some, Option.bind_eq_bind, add_i, sub_i, mul_i, eql_i, neq_i, lss_i, leq_i, gtr_i, geq_i, ofV, ofCell, ↓reduceIte, List.cons_append, List.nil_append, List.append_nil, List.getElem?_toArray, List.getElem?_cons_succ, List.getElem?_cons_zero, e_draw, g_nil, g_cons, g_want, g_skip, g_val, g_call, g_ret, Option.map_none, hl, a0, CP, bq1, bq2, bq3, bq4, ex_tup]
      exact rfl, ?_⟩
  show P231_1 _ _
  exact ⟨by simp [hl], by simp [hl]⟩
theorem R231_1 (pe : Nat → Fr231 → ASt → Prop) (pr : Fr231 → ASt → Prop) : Ref Cb P231_0 (Cat [false] (bodyOf Tryz.f231)) m231_1 (post P231_0 pe pr) := by
  rintro s ⟨t, h⟩ hp x s' hm
  have hp : P231_0' s t h := hp
  obtain ⟨hl, a0⟩ := hp
  unfold m231_1 at hm
  cases hm
  refine ⟨⟨_, _⟩, by
      simp only [bodyOf, Tryz.f231, Cat, Bool.false_eq_true, e_seq, e_region, e_cond, e_block, ex_skip, ex_exit, ex_ret, o_cons, xops_nil, k_want_none, k_want_false, k_val, k_pan, k_call, k_ret, k_seq, k_seq_exit, k_seq_ret, k_true, k_false, k_block, k_block_exit, k_block_ret, k_loop, k_loop_exit, k_loop_ret, awanted, aoper, evalO, put, Option.getD_some, List.getElem?_set, acallOp, abuiltin, List.map_cons, List.map_nil, Nat.reduceEqDiff, Nat.reduceLT, List.length_set, Option.map_some, Option.bind_some, Option.bind_eq_bind, add_i, sub_i, mul_i, eql_i, neq_i, lss_i, leq_i, gtr_i, geq_i, ofV, ofCell, ↓reduceIte, List.cons_append, List.nil_append, List.append_nil, List.getElem?_toArray, List.getElem?_cons_succ, List.getElem?_cons_zero, e_draw, g_nil, g_cons, g_want, g_skip, g_val, g_call, g_ret, Option.map_none, hl, a0, CP, bq1, bq2, bq3, bq4, ex_tup]
      exact rfl, ?_⟩
  show P231_0 _ _
  exact ⟨by simp [hl], by simp [a0]⟩
theorem B231 : Ref Cb P231_0 (bodyOf Tryz.f231) (M231) (post P231_1 (fun _ _ _ => False) P231_1) := by
  rw [show bodyOf Tryz.f231 = .seq (Cat [false] (bodyOf Tryz.f231)) (.seq (Cat [true, false] (bodyOf Tryz.f231)) (.ret)) from rfl]
  unfold M231
  exact ref_seq (M := P231_0) (R231_1 _ _) (ref_seq (M := P231_1) (R231_0 _ _) (ref_ret (fun s st hp => hp)))
noncomputable def G231 (x0 : Int) : Option Bool := match M231 { (default : Fr231) with t0 := x0 } with
  | some (.nrm, s) => some s.t2
  | some (.ret, s) => some s.t2
  | _ => none
theorem G231_spec : Spec231 (G231) := by
  intro x0 r hr
  unfold G231 at hr
  cases hm : M231 { (default : Fr231) with t0 := x0 } with
  | none => rw [hm] at hr; cases hr
  | some q =>
    obtain ⟨x, s⟩ := q
    rw [hm] at hr
    have hx : x = .nrm ∨ x = .ret := by cases x <;> first | exact .inl rfl | exact .inr rfl | cases hr
    have hr : s.t2 = r := by cases x <;> first | exact Option.some.inj hr | cases hr
    subst hr
    have hp0 : P231_0' ({ (default : Fr231) with t0 := x0 }) (slots Tryz.f231 (stripL [.int .i64 x0])) bare := ⟨rfl, rfl⟩
    obtain ⟨v, hR, hrun⟩ := run_of_ref (C := Cb) (f := 231) (fn := Tryz.f231) Tryz.func231 rfl rfl rfl rfl (args := [.int .i64 x0]) (by simp only [refsL, refs, List.append_nil]) (B231) (s0 := { (default : Fr231) with t0 := x0 }) hp0 hm hx (R := fun v => v = .bool s.t2) (by
      have key : ∀ st : ASt, P231_1 s st → ∃ vs v, aresults Cb Tryz.f231.results.toList st = some vs ∧ Nrm [] st.h (packRes vs) v ∧ (fun v => v = .bool s.t2) v := by
        intro st hp
        obtain ⟨hl, a2⟩ := (hp : P231_1' s st.tmps st.h)
        exact ⟨[.bool s.t2], _, by simp only [show Tryz.f231.results.toList = [ResultVar.tmp 2] from rfl, aresults, ares1, CP, a2, Option.getD_some], (Nrm.of (w := .bool s.t2) (by simp only [refsL, refs, List.append_nil])), rfl⟩
      intro st hq
      rcases hx with rfl | rfl
      · exact key st hq
      · exact key st hq)
    subst hR
    exact hrun
/-! ### cmp.isNaN[string] -/
structure Fr232 where
  t0 : (List UInt8)
  t2 : Bool
instance : Inhabited Fr232 := ⟨⟨[], false⟩⟩
def P232_0' (s : Fr232) (t : List AVal) (h : AHeap) : Prop := t.length = 6 ∧ t[0]? = some (.str s.t0)
def P232_0 (s : Fr232) (st : ASt) : Prop := P232_0' s st.tmps st.h
def P232_1' (s : Fr232) (t : List AVal) (h : AHeap) : Prop := t.length = 6 ∧ t[2]? = some (.bool s.t2)
def P232_1 (s : Fr232) (st : ASt) : Prop := P232_1' s st.tmps st.h
noncomputable def m232_0 : Mo Fr232 := fun s => some (.nrm, { s with t2 := (!(s.t0 == s.t0)) })
noncomputable def m232_1 : Mo Fr232 := fun s => some (.nrm, s)
noncomputable def M232 : Mo Fr232 := seqM (m232_1) (seqM (m232_0) (retM))
def Spec232 (f : (List UInt8) → Option Bool) : Prop := ∀ (x0 : (List UInt8)) (r : Bool), f x0 = some r → ∀ h, run Cb 232 [.str x0] h = some (.ret (.bool r), h)
theorem Spec232_of {f g : (List UInt8) → Option Bool} (hg : Spec232 g) (h : ∀ x0 r, f x0 = some r → g x0 = some r) : Spec232 f := fun x0 r hr => hg x0 r (h x0 r hr)
theorem R232_0 (pe : Nat → Fr232 → ASt → Prop) (pr : Fr232 → ASt → Prop) : Ref Cb P232_0 (Cat [true, false] (bodyOf Tryz.f232)) m232_0 (post P232_1 pe pr) := by
  rintro s ⟨t, h⟩ hp x s' hm
  have hp : P232_0' s t h := hp
  obtain ⟨hl, a0⟩ := hp
  unfold m232_0 at hm
  cases hm
  refine ⟨⟨_, _⟩, by
      simp only [bodyOf, Tryz.f232, Cat, Bool.false_eq_true, e_seq, e_region, e_cond, e_block, ex_skip, ex_exit, ex_ret, o_cons, xops_nil, k_want_none, k_want_false, k_val, k_pan, k_call, k_ret, k_seq, k_seq_exit, k_seq_ret, k_true, k_false, k_block, k_block_exit, k_block_ret, k_loop, k_loop_exit, k_loop_ret, awanted, aoper, evalO, put, Option.getD_some, List.getElem?_set, acallOp, abuiltin, List.map_cons, List.map_nil, Nat.reduceEqDiff, Nat.reduceLT, List.length_set, Option.map_some, Option.bind_some, Option.bind_eq_bind, add_i, sub_i, mul_i, eql_i, neq_i, lss_i, leq_i, gtr_i, geq_i, ofV, ofCell, ↓reduceIte, List.cons_append, List.nil_append, List.append_nil, List.getElem?_toArray, List.getElem?_cons_succ, List.getElem?_cons_zero, e_draw, g_nil, g_cons, g_want, g_skip, g_val, g_call, g_ret, Option.map_none, hl, a0, CP, bq1, bq2, bq3, bq4, ex_tup, neq_s]
      exact rfl, ?_⟩
  show P232_1 _ _
  exact ⟨by simp [hl], by simp [hl]⟩
theorem R232_1 (pe : Nat → Fr232 → ASt → Prop) (pr : Fr232 → ASt → Prop) : Ref Cb P232_0 (Cat [false] (bodyOf Tryz.f232)) m232_1 (post P232_0 pe pr) := by
  rintro s ⟨t, h⟩ hp x s' hm
  have hp : P232_0' s t h := hp
  obtain ⟨hl, a0⟩ := hp
  unfold m232_1 at hm
  cases hm
  refine ⟨⟨_, _⟩, by
      simp only [bodyOf, Tryz.f232, Cat, Bool.false_eq_true, e_seq, e_region, e_cond, e_block, ex_skip, ex_exit, ex_ret, o_cons, xops_nil, k_want_none, k_want_false, k_val, k_pan, k_call, k_ret, k_seq, k_seq_exit, k_seq_ret, k_true, k_false, k_block, k_block_exit, k_block_ret, k_loop, k_loop_exit, k_loop_ret, awanted, aoper, evalO, put, Option.getD_some, List.getElem?_set, acallOp, abuiltin, List.map_cons, List.map_nil, Nat.reduceEqDiff, Nat.reduceLT, List.length_set, Option.map_some, Option.bind_some, Option.bind_eq_bind, add_i, sub_i, mul_i, eql_i, neq_i, lss_i, leq_i, gtr_i, geq_i, ofV, ofCell, ↓reduceIte, List.cons_append, List.nil_append, List.append_nil, List.getElem?_toArray, List.getElem?_cons_succ, List.getElem?_cons_zero, e_draw, g_nil, g_cons, g_want, g_skip, g_val, g_call, g_ret, Option.map_none, hl, a0, CP, bq1, bq2, bq3, bq4, ex_tup]
      exact rfl, ?_⟩
  show P232_0 _ _
  exact ⟨by simp [hl], by simp [a0]⟩
theorem B232 : Ref Cb P232_0 (bodyOf Tryz.f232) (M232) (post P232_1 (fun _ _ _ => False) P232_1) := by
  rw [show bodyOf Tryz.f232 = .seq (Cat [false] (bodyOf Tryz.f232)) (.seq (Cat [true, false] (bodyOf Tryz.f232)) (.ret)) from rfl]
  unfold M232
  exact ref_seq (M := P232_0) (R232_1 _ _) (ref_seq (M := P232_1) (R232_0 _ _) (ref_ret (fun s st hp => hp)))
noncomputable def G232 (x0 : (List UInt8)) : Option Bool := match M232 { (default : Fr232) with t0 := x0 } with
  | some (.nrm, s) => some s.t2
  | some (.ret, s) => some s.t2
  | _ => none
theorem G232_spec : Spec232 (G232) := by
  intro x0 r hr
  unfold G232 at hr
  cases hm : M232 { (default : Fr232) with t0 := x0 } with
  | none => rw [hm] at hr; cases hr
  | some q =>
    obtain ⟨x, s⟩ := q
    rw [hm] at hr
    have hx : x = .nrm ∨ x = .ret := by cases x <;> first | exact .inl rfl | exact .inr rfl | cases hr
    have hr : s.t2 = r := by cases x <;> first | exact Option.some.inj hr | cases hr
    subst hr
    have hp0 : P232_0' ({ (default : Fr232) with t0 := x0 }) (slots Tryz.f232 (stripL [.str x0])) bare := ⟨rfl, rfl⟩
    obtain ⟨v, hR, hrun⟩ := run_of_ref (C := Cb) (f := 232) (fn := Tryz.f232) Tryz.func232 rfl rfl rfl rfl (args := [.str x0]) (by simp only [refsL, refs, List.append_nil]) (B232) (s0 := { (default : Fr232) with t0 := x0 }) hp0 hm hx (R := fun v => v = .bool s.t2) (by
      have key : ∀ st : ASt, P232_1 s st → ∃ vs v, aresults Cb Tryz.f232.results.toList st = some vs ∧ Nrm [] st.h (packRes vs) v ∧ (fun v => v = .bool s.t2) v := by
        intro st hp
        obtain ⟨hl, a2⟩ := (hp : P232_1' s st.tmps st.h)
        exact ⟨[.bool s.t2], _, by simp only [show Tryz.f232.results.toList = [ResultVar.tmp 2] from rfl, aresults, ares1, CP, a2, Option.getD_some], (Nrm.of (w := .bool s.t2) (by simp only [refsL, refs, List.append_nil])), rfl⟩
      intro st hq
      rcases hx with rfl | rfl
      · exact key st hq
      · exact key st hq)
    subst hR
    exact hrun
/-! ### slices.Index[[]string,string] -/
structure Fr168 where
  t0 : (List (List UInt8))
  t1 : (List UInt8)
  t4 : Int
  t5 : Int
  t7 : Int
  t8 : Int
  t9 : Bool
  t16 : Bool
instance : Inhabited Fr168 := ⟨⟨[], [], 0, 0, 0, 0, false, false⟩⟩
def P168_0' (s : Fr168) (t : List AVal) (h : AHeap) : Prop := t.length = 19 ∧ True
def P168_0 (s : Fr168) (st : ASt) : Prop := P168_0' s st.tmps st.h
def P168_1' (s : Fr168) (t : List AVal) (h : AHeap) : Prop := t.length = 19 ∧ t[4]? = some (.int .i64 s.t4)
def P168_1 (s : Fr168) (st : ASt) : Prop := P168_1' s st.tmps st.h
def P168_2' (s : Fr168) (t : List AVal) (h : AHeap) : Prop := ∃ w0_0, t.length = 19 ∧ t[0]? = some w0_0 ∧ Sl rS s.t0 w0_0 ∧ t[1]? = some (.str s.t1) ∧ t[7]? = some (.int .i64 s.t7) ∧ t[8]? = some (.int .i64 s.t8)
def P168_2 (s : Fr168) (st : ASt) : Prop := P168_2' s st.tmps st.h
def P168_3' (s : Fr168) (t : List AVal) (h : AHeap) : Prop := t.length = 19 ∧ t[5]? = some (.int .i64 s.t5)
def P168_3 (s : Fr168) (st : ASt) : Prop := P168_3' s st.tmps st.h
def P168_4' (s : Fr168) (t : List AVal) (h : AHeap) : Prop := ∃ w0_0, t.length = 19 ∧ t[0]? = some w0_0 ∧ Sl rS s.t0 w0_0 ∧ t[1]? = some (.str s.t1) ∧ t[5]? = some (.int .i64 s.t5) ∧ t[7]? = some (.int .i64 s.t7) ∧ t[8]? = some (.int .i64 s.t8) ∧ t[16]? = some (.bool s.t16)
def P168_4 (s : Fr168) (st : ASt) : Prop := P168_4' s st.tmps st.h
def P168_5' (s : Fr168) (t : List AVal) (h : AHeap) : Prop := ∃ w0_0, t.length = 19 ∧ t[0]? = some w0_0 ∧ Sl rS s.t0 w0_0 ∧ t[1]? = some (.str s.t1) ∧ t[5]? = some (.int .i64 s.t5) ∧ t[7]? = some (.int .i64 s.t7) ∧ t[8]? = some (.int .i64 s.t8)
def P168_5 (s : Fr168) (st : ASt) : Prop := P168_5' s st.tmps st.h
def P168_6' (s : Fr168) (t : List AVal) (h : AHeap) : Prop := ∃ w0_0, t.length = 19 ∧ t[0]? = some w0_0 ∧ Sl rS s.t0 w0_0 ∧ t[1]? = some (.str s.t1) ∧ t[7]? = some (.int .i64 s.t7) ∧ t[8]? = some (.int .i64 s.t8) ∧ t[9]? = some (.bool s.t9)
def P168_6 (s : Fr168) (st : ASt) : Prop := P168_6' s st.tmps st.h
def P168_7' (s : Fr168) (t : List AVal) (h : AHeap) : Prop := ∃ w0_0, t.length = 19 ∧ t[0]? = some w0_0 ∧ Sl rS s.t0 w0_0 ∧ t[1]? = some (.str s.t1)
def P168_7 (s : Fr168) (st : ASt) : Prop := P168_7' s st.tmps st.h
noncomputable def m168_0 : Mo Fr168 := fun s => some (.nrm, { s with t4 := (-1) })
noncomputable def m168_1 : Mo Fr168 := fun s => some (.nrm, { s with t8 := IntKind.wrap .i64 (s.t8 + 1) })
noncomputable def m168_2 : Mo Fr168 := fun s => some (.nrm, { s with t4 := s.t5 })
noncomputable def m168_3 : Mo Fr168 := fun s => (at? s.t0 s.t5).bind fun y1 => some (.nrm, { s with t16 := (s.t1 == y1) })
noncomputable def m168_4 : Mo Fr168 := fun s => some (.nrm, { s with t5 := s.t8 })
noncomputable def m168_5 : Mo Fr168 := fun s => some (.nrm, { s with t9 := decide (s.t8 < s.t7) })
noncomputable def L168_6 : Mo Fr168 := seqM (m168_5) (seqM (condM (fun s => s.t9) (skipM) (exitM 0)) (seqM (blockM 1 (seqM (m168_4) (seqM (m168_3) (condM (fun s => s.t16) (seqM (m168_2) (retM)) (skipM))))) (m168_1)))
noncomputable def m168_7 : Mo Fr168 := fun s => some (.nrm, { s with t7 := (s.t0.length : Int), t8 := 0 })
noncomputable def m168_8 : Mo Fr168 := fun s => some (.nrm, s)
noncomputable def M168 : Mo Fr168 := seqM (m168_8) (seqM (seqM (m168_7) (blockM 0 (loopM (L168_6)))) (seqM (m168_0) (retM)))
def Spec168 (f : (List (List UInt8)) → (List UInt8) → Option Int) : Prop := ∀ (x0 : (List (List UInt8))) (x1 : (List UInt8)) (vx0_0 : AVal) (_ : Sl rS x0 vx0_0) (r : Int), f x0 x1 = some r → ∀ h, run Cb 168 [vx0_0, .str x1] h = some (.ret (.int .i64 r), h)
theorem Spec168_of {f g : (List (List UInt8)) → (List UInt8) → Option Int} (hg : Spec168 g) (h : ∀ x0 x1 r, f x0 x1 = some r → g x0 x1 = some r) : Spec168 f := fun x0 x1 v0_ w0_ r hr => hg x0 x1 v0_ w0_ r (h x0 x1 r hr)
theorem R168_0 (pe : Nat → Fr168 → ASt → Prop) (pr : Fr168 → ASt → Prop) : Ref Cb P168_0 (Cat [true, true, false] (bodyOf Tryz.f168)) m168_0 (post P168_1 pe pr) := by
  rintro s ⟨t, h⟩ hp x s' hm
  have hp : P168_0' s t h := hp
  obtain ⟨hl, _⟩ := hp
  unfold m168_0 at hm
  cases hm
  refine ⟨⟨_, _⟩, by
      simp only [bodyOf, Tryz.f168, Cat, Bool.false_eq_true, e_seq, e_region, e_cond, e_block, ex_skip, ex_exit, ex_ret, o_cons, xops_nil, k_want_none, k_want_false, k_val, k_pan, k_call, k_ret, k_seq, k_seq_exit, k_seq_ret, k_true, k_false, k_block, k_block_exit, k_block_ret, k_loop, k_loop_exit, k_loop_ret, awanted, aoper, evalO, put, Option.getD_some, List.getElem?_set, acallOp, abuiltin, List.map_cons, List.map_nil, Nat.reduceEqDiff, Nat.reduceLT, List.length_set, Option.map_some, Option.bind_some, Option.bind_eq_bind, add_i, sub_i, mul_i, eql_i, neq_i, lss_i, leq_i, gtr_i, geq_i, ofV, ofCell, ↓reduceIte, List.cons_append, List.nil_append, List.append_nil, List.getElem?_toArray, List.getElem?_cons_succ, List.getElem?_cons_zero, e_draw, g_nil, g_cons, g_want, g_skip, g_val, g_call, g_ret, Option.map_none, hl, CP, bq1, bq2, bq3, bq4, ex_tup]
      exact rfl, ?_⟩
  show P168_1 _ _
  exact ⟨by simp [hl], by simp [hl]⟩
theorem R168_1 (pe : Nat → Fr168 → ASt → Prop) (pr : Fr168 → ASt → Prop) : Ref Cb P168_2 (Cat [true, false, true, true, true, true, true, true] (bodyOf Tryz.f168)) m168_1 (post P168_2 pe pr) := by
  rintro s ⟨t, h⟩ hp x s' hm
  have hp : P168_2' s t h := hp
  obtain ⟨w0_0, hl, a0, r0_0, a1, a7, a8⟩ := hp
  unfold m168_1 at hm
  cases hm
  refine ⟨⟨_, _⟩, by
      simp only [bodyOf, Tryz.f168, Cat, Bool.false_eq_true, e_seq, e_region, e_cond, e_block, ex_skip, ex_exit, ex_ret, o_cons, xops_nil, k_want_none, k_want_false, k_val, k_pan, k_call, k_ret, k_seq, k_seq_exit, k_seq_ret, k_true, k_false, k_block, k_block_exit, k_block_ret, k_loop, k_loop_exit, k_loop_ret, awanted, aoper, evalO, put, Option.getD_some, List.getElem?_set, acallOp, abuiltin, List.map_cons, List.map_nil, Nat.reduceEqDiff, Nat.reduceLT, List.length_set, Option.map_some, Option.bind_some, Option.bind_eq_bind, add_i, sub_i, mul_i, eql_i, neq_i, lss_i, leq_i, gtr_i, geq_i, ofV, ofCell, ↓reduceIte, List.cons_append, List.nil_append, List.append_nil, List.getElem?_toArray, List.getElem?_cons_succ, List.getElem?_cons_zero, e_draw, g_nil, g_cons, g_want, g_skip, g_val, g_call, g_ret, Option.map_none, hl, a0, a1, a7, a8, CP, bq1, bq2, bq3, bq4, ex_tup]
      exact rfl, ?_⟩
  show P168_2 _ _
  exact ⟨w0_0, by simp [hl], by simp [a0], r0_0, by simp [a1], by simp [a7], by simp [hl]⟩
theorem R168_2 (pe : Nat → Fr168 → ASt → Prop) (pr : Fr168 → ASt → Prop) : Ref Cb P168_3 (Cat [true, false, true, true, true, true, true, false, true, true, true, false, false] (bodyOf Tryz.f168)) m168_2 (post P168_1 pe pr) := by
  rintro s ⟨t, h⟩ hp x s' hm
  have hp : P168_3' s t h := hp
  obtain ⟨hl, a5⟩ := hp
  unfold m168_2 at hm
  cases hm
  refine ⟨⟨_, _⟩, by
      simp only [bodyOf, Tryz.f168, Cat, Bool.false_eq_true, e_seq, e_region, e_cond, e_block, ex_skip, ex_exit, ex_ret, o_cons, xops_nil, k_want_none, k_want_false, k_val, k_pan, k_call, k_ret, k_seq, k_seq_exit, k_seq_ret, k_true, k_false, k_block, k_block_exit, k_block_ret, k_loop, k_loop_exit, k_loop_ret, awanted, aoper, evalO, put, Option.getD_some, List.getElem?_set, acallOp, abuiltin, List.map_cons, List.map_nil, Nat.reduceEqDiff, Nat.reduceLT, List.length_set, Option.map_some, Option.bind_some, Option.bind_eq_bind, add_i, sub_i, mul_i, eql_i, neq_i, lss_i, leq_i, gtr_i, geq_i, ofV, ofCell, ↓reduceIte, List.cons_append, List.nil_append, List.append_nil, List.getElem?_toArray, List.getElem?_cons_succ, List.getElem?_cons_zero, e_draw, g_nil, g_cons, g_want, g_skip, g_val, g_call, g_ret, Option.map_none, hl, a5, CP, bq1, bq2, bq3, bq4, ex_tup]
      exact rfl, ?_⟩
  show P168_1 _ _
  exact ⟨by simp [hl], by simp [hl]⟩
theorem R168_3 (pe : Nat → Fr168 → ASt → Prop) (pr : Fr168 → ASt → Prop) : Ref Cb P168_5 (Cat [true, false, true, true, true, true, true, false, true, true, false] (bodyOf Tryz.f168)) m168_3 (post P168_4 pe pr) := by
  rintro s ⟨t, h⟩ hp x s' hm
  have hp : P168_5' s t h := hp
  obtain ⟨w0_0, hl, a0, r0_0, a1, a5, a7, a8⟩ := hp
  unfold m168_3 at hm
  obtain ⟨y3, hy3, hm⟩ := Option.bind_eq_some_iff.1 hm
  obtain ⟨cu4, du4, eu4, iu4, _⟩ := Sl.ix rS_p r0_0 hy3
  subst eu4
  cases hm
  refine ⟨⟨_, _⟩, by
      simp only [bodyOf, Tryz.f168, Cat, Bool.false_eq_true, e_seq, e_region, e_cond, e_block, ex_skip, ex_exit, ex_ret, o_cons, xops_nil, k_want_none, k_want_false, k_val, k_pan, k_call, k_ret, k_seq, k_seq_exit, k_seq_ret, k_true, k_false, k_block, k_block_exit, k_block_ret, k_loop, k_loop_exit, k_loop_ret, awanted, aoper, evalO, put, Option.getD_some, List.getElem?_set, acallOp, abuiltin, List.map_cons, List.map_nil, Nat.reduceEqDiff, Nat.reduceLT, List.length_set, Option.map_some, Option.bind_some, Option.bind_eq_bind, add_i, sub_i, mul_i, eql_i, neq_i, lss_i, leq_i, gtr_i, geq_i, ofV, ofCell, ↓reduceIte, List.cons_append, List.nil_append, List.append_nil, List.getElem?_toArray, List.getElem?_cons_succ, List.getElem?_cons_zero, e_draw, g_nil, g_cons, g_want, g_skip, g_val, g_call, g_ret, Option.map_none, hl, a0, a1, a5, a7, a8, CP, bq1, bq2, bq3, bq4, ex_tup, Ty.ix22, iu4, Ty.ld9, ld_ip, ofc1, List.drop_succ_cons, List.drop_zero, eql_s]
      exact rfl, ?_⟩
  show P168_4 _ _
  exact ⟨w0_0, by simp [hl], by simp [a0], r0_0, by simp [a1], by simp [a5], by simp [a7], by simp [a8], by simp [hl]⟩
theorem R168_4 (pe : Nat → Fr168 → ASt → Prop) (pr : Fr168 → ASt → Prop) : Ref Cb P168_2 (Cat [true, false, true, true, true, true, true, false, true, false] (bodyOf Tryz.f168)) m168_4 (post P168_5 pe pr) := by
  rintro s ⟨t, h⟩ hp x s' hm
  have hp : P168_2' s t h := hp
  obtain ⟨w0_0, hl, a0, r0_0, a1, a7, a8⟩ := hp
  unfold m168_4 at hm
  cases hm
  refine ⟨⟨_, _⟩, by
      simp only [bodyOf, Tryz.f168, Cat, Bool.false_eq_true, e_seq, e_region, e_cond, e_block, ex_skip, ex_exit, ex_ret, o_cons, xops_nil, k_want_none, k_want_false, k_val, k_pan, k_call, k_ret, k_seq, k_seq_exit, k_seq_ret, k_true, k_false, k_block, k_block_exit, k_block_ret, k_loop, k_loop_exit, k_loop_ret, awanted, aoper, evalO, put, Option.getD_some, List.getElem?_set, acallOp, abuiltin, List.map_cons, List.map_nil, Nat.reduceEqDiff, Nat.reduceLT, List.length_set, Option.map_some, Option.bind_some, Option.bind_eq_bind, add_i, sub_i, mul_i, eql_i, neq_i, lss_i, leq_i, gtr_i, geq_i, ofV, ofCell, ↓reduceIte, List.cons_append, List.nil_append, List.append_nil, List.getElem?_toArray, List.getElem?_cons_succ, List.getElem?_cons_zero, e_draw, g_nil, g_cons, g_want, g_skip, g_val, g_call, g_ret, Option.map_none, hl, a0, a1, a7, a8, CP, bq1, bq2, bq3, bq4, ex_tup]
      exact rfl, ?_⟩
  show P168_5 _ _
  exact ⟨w0_0, by simp [hl], by simp [a0], r0_0, by simp [a1], by simp [hl], by simp [a7], by simp [a8]⟩
theorem R168_5 (pe : Nat → Fr168 → ASt → Prop) (pr : Fr168 → ASt → Prop) : Ref Cb P168_2 (Cat [true, false, true, true, true, false] (bodyOf Tryz.f168)) m168_5 (post P168_6 pe pr) := by
  rintro s ⟨t, h⟩ hp x s' hm
  have hp : P168_2' s t h := hp
  obtain ⟨w0_0, hl, a0, r0_0, a1, a7, a8⟩ := hp
  unfold m168_5 at hm
  cases hm
  refine ⟨⟨_, _⟩, by
      simp only [bodyOf, Tryz.f168, Cat, Bool.false_eq_true, e_seq, e_region, e_cond, e_block, ex_skip, ex_exit, ex_ret, o_cons, xops_nil, k_want_none, k_want_false, k_val, k_pan, k_call, k_ret, k_seq, k_seq_exit, k_seq_ret, k_true, k_false, k_block, k_block_exit, k_block_ret, k_loop, k_loop_exit, k_loop_ret, awanted, aoper, evalO, put, Option.getD_some, List.getElem?_set, acallOp, abuiltin, List.map_cons, List.map_nil, Nat.reduceEqDiff, Nat.reduceLT, List.length_set, Option.map_some, Option.bind_some, Option.bind_eq_bind, add_i, sub_i, mul_i, eql_i, neq_i, lss_i, leq_i, gtr_i, geq_i, ofV, ofCell, ↓reduceIte, List.cons_append, List.nil_append, List.append_nil, List.getElem?_toArray, List.getElem?_cons_succ, List.getElem?_cons_zero, e_draw, g_nil, g_cons, g_want, g_skip, g_val, g_call, g_ret, Option.map_none, hl, a0, a1, a7, a8, CP, bq1, bq2, bq3, bq4, ex_tup]
      exact rfl, ?_⟩
  show P168_6 _ _
  exact ⟨w0_0, by simp [hl], by simp [a0], r0_0, by simp [a1], by simp [a7], by simp [a8], by simp [hl]⟩
theorem R168_7 (pe : Nat → Fr168 → ASt → Prop) (pr : Fr168 → ASt → Prop) : Ref Cb P168_7 (Cat [true, false, false] (bodyOf Tryz.f168)) m168_7 (post P168_2 pe pr) := by
  rintro s ⟨t, h⟩ hp x s' hm
  have hp : P168_7' s t h := hp
  obtain ⟨w0_0, hl, a0, r0_0, a1⟩ := hp
  unfold m168_7 at hm
  have lu6 := fun h => Sl.len r0_0 Ty.un22 h
  cases hm
  refine ⟨⟨_, _⟩, by
      simp only [bodyOf, Tryz.f168, Cat, Bool.false_eq_true, e_seq, e_region, e_cond, e_block, ex_skip, ex_exit, ex_ret, o_cons, xops_nil, k_want_none, k_want_false, k_val, k_pan, k_call, k_ret, k_seq, k_seq_exit, k_seq_ret, k_true, k_false, k_block, k_block_exit, k_block_ret, k_loop, k_loop_exit, k_loop_ret, awanted, aoper, evalO, put, Option.getD_some, List.getElem?_set, acallOp, abuiltin, List.map_cons, List.map_nil, Nat.reduceEqDiff, Nat.reduceLT, List.length_set, Option.map_some, Option.bind_some, Option.bind_eq_bind, add_i, sub_i, mul_i, eql_i, neq_i, lss_i, leq_i, gtr_i, geq_i, ofV, ofCell, ↓reduceIte, List.cons_append, List.nil_append, List.append_nil, List.getElem?_toArray, List.getElem?_cons_succ, List.getElem?_cons_zero, e_draw, g_nil, g_cons, g_want, g_skip, g_val, g_call, g_ret, Option.map_none, hl, a0, a1, CP, bq1, bq2, bq3, bq4, ex_tup, lu6]
      exact rfl, ?_⟩
  show P168_2 _ _
  exact ⟨w0_0, by simp [hl], by simp [a0], r0_0, by simp [a1], by simp [hl], by simp [hl]⟩
theorem R168_8 (pe : Nat → Fr168 → ASt → Prop) (pr : Fr168 → ASt → Prop) : Ref Cb P168_7 (Cat [false] (bodyOf Tryz.f168)) m168_8 (post P168_7 pe pr) := by
  rintro s ⟨t, h⟩ hp x s' hm
  have hp : P168_7' s t h := hp
  obtain ⟨w0_0, hl, a0, r0_0, a1⟩ := hp
  unfold m168_8 at hm
  cases hm
  refine ⟨⟨_, _⟩, by
      simp only [bodyOf, Tryz.f168, Cat, Bool.false_eq_true, e_seq, e_region, e_cond, e_block, ex_skip, ex_exit, ex_ret, o_cons, xops_nil, k_want_none, k_want_false, k_val, k_pan, k_call, k_ret, k_seq, k_seq_exit, k_seq_ret, k_true, k_false, k_block, k_block_exit, k_block_ret, k_loop, k_loop_exit, k_loop_ret, awanted, aoper, evalO, put, Option.getD_some, List.getElem?_set, acallOp, abuiltin, List.map_cons, List.map_nil, Nat.reduceEqDiff, Nat.reduceLT, List.length_set, Option.map_some, Option.bind_some, Option.bind_eq_bind, add_i, sub_i, mul_i, eql_i, neq_i, lss_i, leq_i, gtr_i, geq_i, ofV, ofCell, ↓reduceIte, List.cons_append, List.nil_append, List.append_nil, List.getElem?_toArray, List.getElem?_cons_succ, List.getElem?_cons_zero, e_draw, g_nil, g_cons, g_want, g_skip, g_val, g_call, g_ret, Option.map_none, hl, a0, a1, CP, bq1, bq2, bq3, bq4, ex_tup]
      exact rfl, ?_⟩
  show P168_7 _ _
  exact ⟨w0_0, by simp [hl], by simp [a0], r0_0, by simp [a1]⟩
theorem B168 : Ref Cb P168_7 (bodyOf Tryz.f168) (M168) (post P168_1 (fun _ _ _ => False) P168_1) := by
  rw [show bodyOf Tryz.f168 = .seq (Cat [false] (bodyOf Tryz.f168)) (.seq (.seq (Cat [true, false, false] (bodyOf Tryz.f168)) (.block 0 (.loop (.seq (Cat [true, false, true, true, true, false] (bodyOf Tryz.f168)) (.seq (.cond (.tmp 9) (.skip) (.exit 0)) (.seq (.block 1 (.seq (Cat [true, false, true, true, true, true, true, false, true, false] (bodyOf Tryz.f168)) (.seq (Cat [true, false, true, true, true, true, true, false, true, true, false] (bodyOf Tryz.f168)) (.cond (.tmp 16) (.seq (Cat [true, false, true, true, true, true, true, false, true, true, true, false, false] (bodyOf Tryz.f168)) (.ret)) (.skip))))) (Cat [true, false, true, true, true, true, true, true] (bodyOf Tryz.f168)))))))) (.seq (Cat [true, true, false] (bodyOf Tryz.f168)) (.ret))) from rfl]
  unfold M168
  exact ref_seq (M := P168_7) (R168_8 _ _) (ref_seq (M := P168_0) (ref_seq (M := P168_2) (R168_7 _ _) (ref_block (ref_loop (P := P168_2) (ref_weak (P' := P168_2) (fun s st hp => hp) (ref_seq (M := P168_6) (R168_5 _ _) (ref_seq (M := P168_2) (ref_cond (P := P168_6) (c := fun s => s.t9) (fun s st hp => by obtain ⟨w0_0, hl, a0, r0_0, a1, a7, a8, a9⟩ := (hp : P168_6' s st.tmps st.h); simp only [evalO, a9, Option.getD_some]) (ref_weak (P' := P168_2) (fun s st hp => by obtain ⟨w0_0, hl, a0, r0_0, a1, a7, a8, a9⟩ := (hp : P168_6' s st.tmps st.h); exact (⟨w0_0, hl, a0, r0_0, a1, a7, a8⟩ : P168_2' s st.tmps st.h)) (ref_skip (fun s st hp => hp))) (ref_weak (P' := P168_0) (fun s st hp => by obtain ⟨w0_0, hl, a0, r0_0, a1, a7, a8, a9⟩ := (hp : P168_6' s st.tmps st.h); exact (⟨hl, trivial⟩ : P168_0' s st.tmps st.h)) (ref_exit (fun s st hp => hp)))) (ref_seq (M := P168_2) (ref_block (ref_seq (M := P168_5) (R168_4 _ _) (ref_seq (M := P168_4) (R168_3 _ _) (ref_cond (P := P168_4) (c := fun s => s.t16) (fun s st hp => by obtain ⟨w0_0, hl, a0, r0_0, a1, a5, a7, a8, a16⟩ := (hp : P168_4' s st.tmps st.h); simp only [evalO, a16, Option.getD_some]) (ref_weak (P' := P168_3) (fun s st hp => by obtain ⟨w0_0, hl, a0, r0_0, a1, a5, a7, a8, a16⟩ := (hp : P168_4' s st.tmps st.h); exact (⟨hl, a5⟩ : P168_3' s st.tmps st.h)) (ref_seq (M := P168_1) (R168_2 _ _) (ref_ret (fun s st hp => hp)))) (ref_weak (P' := P168_2) (fun s st hp => by obtain ⟨w0_0, hl, a0, r0_0, a1, a5, a7, a8, a16⟩ := (hp : P168_4' s st.tmps st.h); exact (⟨w0_0, hl, a0, r0_0, a1, a7, a8⟩ : P168_2' s st.tmps st.h)) (ref_skip (fun s st hp => hp))))))) (R168_1 _ _)))))))) (ref_seq (M := P168_1) (R168_0 _ _) (ref_ret (fun s st hp => hp))))
noncomputable def G168 (x0 : (List (List UInt8))) (x1 : (List UInt8)) : Option Int := match M168 { (default : Fr168) with t0 := x0, t1 := x1 } with
  | some (.nrm, s) => some s.t4
  | some (.ret, s) => some s.t4
  | _ => none
theorem G168_spec : Spec168 (G168) := by
  intro x0 x1 vx0_0 hvx0_0 r hr
  unfold G168 at hr
  cases hm : M168 { (default : Fr168) with t0 := x0, t1 := x1 } with
  | none => rw [hm] at hr; cases hr
  | some q =>
    obtain ⟨x, s⟩ := q
    rw [hm] at hr
    have hx : x = .nrm ∨ x = .ret := by cases x <;> first | exact .inl rfl | exact .inr rfl | cases hr
    have hr : s.t4 = r := by cases x <;> first | exact Option.some.inj hr | cases hr
    subst hr
    have hp0 : P168_7' ({ (default : Fr168) with t0 := x0, t1 := x1 }) (slots Tryz.f168 (stripL [vx0_0, .str x1])) bare := ⟨(strip vx0_0 : AVal), rfl, rfl, hvx0_0.strip rS_p, rfl⟩
    obtain ⟨v, hR, hrun⟩ := run_of_ref (C := Cb) (f := 168) (fn := Tryz.f168) Tryz.func168 rfl rfl rfl rfl (args := [vx0_0, .str x1]) (by simp only [refsL, refs, List.append_nil, hvx0_0.refs rS_p]) (B168) (s0 := { (default : Fr168) with t0 := x0, t1 := x1 }) hp0 hm hx (R := fun v => v = .int .i64 s.t4) (by
      have key : ∀ st : ASt, P168_1 s st → ∃ vs v, aresults Cb Tryz.f168.results.toList st = some vs ∧ Nrm [] st.h (packRes vs) v ∧ (fun v => v = .int .i64 s.t4) v := by
        intro st hp
        obtain ⟨hl, a4⟩ := (hp : P168_1' s st.tmps st.h)
        exact ⟨[.int .i64 s.t4], _, by simp only [show Tryz.f168.results.toList = [ResultVar.tmp 4] from rfl, aresults, ares1, CP, a4, Option.getD_some], (Nrm.of (w := .int .i64 s.t4) (by simp only [refsL, refs, List.append_nil])), rfl⟩
      intro st hq
      rcases hx with rfl | rfl
      · exact key st hq
      · exact key st hq)
    subst hR
    exact hrun
/-! ### slices.Contains[[]int64,int64] -/
structure Fr196 where
  t0 : (List Int)
  t1 : Int
  t4 : Bool
instance : Inhabited Fr196 := ⟨⟨[], 0, false⟩⟩
def P196_0' (s : Fr196) (t : List AVal) (h : AHeap) : Prop := ∃ w0_0, t.length = 9 ∧ t[0]? = some w0_0 ∧ Sl (rI .i64) s.t0 w0_0 ∧ t[1]? = some (.int .i64 s.t1)
def P196_0 (s : Fr196) (st : ASt) : Prop := P196_0' s st.tmps st.h
def P196_1' (s : Fr196) (t : List AVal) (h : AHeap) : Prop := t.length = 9 ∧ t[4]? = some (.bool s.t4)
def P196_1 (s : Fr196) (st : ASt) : Prop := P196_1' s st.tmps st.h
noncomputable def m196_0 : Mo Fr196 := fun s => (G230 s.t0 s.t1).bind fun z1 => some (.nrm, { s with t4 := decide (z1 ≥ 0) })
noncomputable def m196_1 : Mo Fr196 := fun s => some (.nrm, s)
noncomputable def M196 : Mo Fr196 := seqM (m196_1) (seqM (m196_0) (retM))
def Spec196 (f : (List Int) → Int → Option Bool) : Prop := ∀ (x0 : (List Int)) (x1 : Int) (vx0_0 : AVal) (_ : Sl (rI .i64) x0 vx0_0) (r : Bool), f x0 x1 = some r → ∀ h, run Cb 196 [vx0_0, .int .i64 x1] h = some (.ret (.bool r), h)
theorem Spec196_of {f g : (List Int) → Int → Option Bool} (hg : Spec196 g) (h : ∀ x0 x1 r, f x0 x1 = some r → g x0 x1 = some r) : Spec196 f := fun x0 x1 v0_ w0_ r hr => hg x0 x1 v0_ w0_ r (h x0 x1 r hr)
theorem R196_0 (pe : Nat → Fr196 → ASt → Prop) (pr : Fr196 → ASt → Prop) : Ref Cb P196_0 (Cat [true, false] (bodyOf Tryz.f196)) m196_0 (post P196_1 pe pr) := by
  rintro s ⟨t, h⟩ hp x s' hm
  have hp : P196_0' s t h := hp
  obtain ⟨w0_0, hl, a0, r0_0, a1⟩ := hp
  unfold m196_0 at hm
  obtain ⟨z3, hz3, hm⟩ := Option.bind_eq_some_iff.1 hm
  have iu4 := G230_spec s.t0 s.t1 _ r0_0 _ hz3
  cases hm
  refine ⟨⟨_, _⟩, by
      simp only [bodyOf, Tryz.f196, Cat, Bool.false_eq_true, e_seq, e_region, e_cond, e_block, ex_skip, ex_exit, ex_ret, o_cons, xops_nil, k_want_none, k_want_false, k_val, k_pan, k_call, k_ret, k_seq, k_seq_exit, k_seq_ret, k_true, k_false, k_block, k_block_exit, k_block_ret, k_loop, k_loop_exit, k_loop_ret, awanted, aoper, evalO, put, Option.getD_some, List.getElem?_set, acallOp, abuiltin, List.map_cons, List.map_nil, Nat.reduceEqDiff, Nat.reduceLT, List.length_set, Option.map_some, Option.bind_some, Option.bind_eq_bind, add_i, sub_i, mul_i, eql_i, neq_i, lss_i, leq_i, gtr_i, geq_i, ofV, ofCell, ↓reduceIte, List.cons_append, List.nil_append, List.append_nil, List.getElem?_toArray, List.getElem?_cons_succ, List.getElem?_cons_zero, e_draw, g_nil, g_cons, g_want, g_skip, g_val, g_call, g_ret, Option.map_none, hl, a0, a1, CP, bq1, bq2, bq3, bq4, ex_tup, iu4]
      exact rfl, ?_⟩
  show P196_1 _ _
  exact ⟨by simp [hl], by simp [hl]⟩
theorem R196_1 (pe : Nat → Fr196 → ASt → Prop) (pr : Fr196 → ASt → Prop) : Ref Cb P196_0 (Cat [false] (bodyOf Tryz.f196)) m196_1 (post P196_0 pe pr) := by
  rintro s ⟨t, h⟩ hp x s' hm
  have hp : P196_0' s t h := hp
  obtain ⟨w0_0, hl, a0, r0_0, a1⟩ := hp
  unfold m196_1 at hm
  cases hm
  refine ⟨⟨_, _⟩, by
      simp only [bodyOf, Tryz.f196, Cat, Bool.false_eq_true, e_seq, e_region, e_cond, e_block, ex_skip, ex_exit, ex_ret, o_cons, xops_nil, k_want_none, k_want_false, k_val, k_pan, k_call, k_ret, k_seq, k_seq_exit, k_seq_ret, k_true, k_false, k_block, k_block_exit, k_block_ret, k_loop, k_loop_exit, k_loop_ret, awanted, aoper, evalO, put, Option.getD_some, List.getElem?_set, acallOp, abuiltin, List.map_cons, List.map_nil, Nat.reduceEqDiff, Nat.reduceLT, List.length_set, Option.map_some, Option.bind_some, Option.bind_eq_bind, add_i, sub_i, mul_i, eql_i, neq_i, lss_i, leq_i, gtr_i, geq_i, ofV, ofCell, ↓reduceIte, List.cons_append, List.nil_append, List.append_nil, List.getElem?_toArray, List.getElem?_cons_succ, List.getElem?_cons_zero, e_draw, g_nil, g_cons, g_want, g_skip, g_val, g_call, g_ret, Option.map_none, hl, a0, a1, CP, bq1, bq2, bq3, bq4, ex_tup]
      exact rfl, ?_⟩
  show P196_0 _ _
  exact ⟨w0_0, by simp [hl], by simp [a0], r0_0, by simp [a1]⟩
theorem B196 : Ref Cb P196_0 (bodyOf Tryz.f196) (M196) (post P196_1 (fun _ _ _ => False) P196_1) := by
  rw [show bodyOf Tryz.f196 = .seq (Cat [false] (bodyOf Tryz.f196)) (.seq (Cat [true, false] (bodyOf Tryz.f196)) (.ret)) from rfl]
  unfold M196
  exact ref_seq (M := P196_0) (R196_1 _ _) (ref_seq (M := P196_1) (R196_0 _ _) (ref_ret (fun s st hp => hp)))
noncomputable def G196 (x0 : (List Int)) (x1 : Int) : Option Bool := match M196 { (default : Fr196) with t0 := x0, t1 := x1 } with
  | some (.nrm, s) => some s.t4
  | some (.ret, s) => some s.t4
  | _ => none
theorem G196_spec : Spec196 (G196) := by
  intro x0 x1 vx0_0 hvx0_0 r hr
  unfold G196 at hr
  cases hm : M196 { (default : Fr196) with t0 := x0, t1 := x1 } with
  | none => rw [hm] at hr; cases hr
  | some q =>
    obtain ⟨x, s⟩ := q
    rw [hm] at hr
    have hx : x = .nrm ∨ x = .ret := by cases x <;> first | exact .inl rfl | exact .inr rfl | cases hr
    have hr : s.t4 = r := by cases x <;> first | exact Option.some.inj hr | cases hr
    subst hr
    have hp0 : P196_0' ({ (default : Fr196) with t0 := x0, t1 := x1 }) (slots Tryz.f196 (stripL [vx0_0, .int .i64 x1])) bare := ⟨(strip vx0_0 : AVal), rfl, rfl, hvx0_0.strip (rI_p .i64), rfl⟩
    obtain ⟨v, hR, hrun⟩ := run_of_ref (C := Cb) (f := 196) (fn := Tryz.f196) Tryz.func196 rfl rfl rfl rfl (args := [vx0_0, .int .i64 x1]) (by simp only [refsL, refs, List.append_nil, hvx0_0.refs (rI_p .i64)]) (B196) (s0 := { (default : Fr196) with t0 := x0, t1 := x1 }) hp0 hm hx (R := fun v => v = .bool s.t4) (by
      have key : ∀ st : ASt, P196_1 s st → ∃ vs v, aresults Cb Tryz.f196.results.toList st = some vs ∧ Nrm [] st.h (packRes vs) v ∧ (fun v => v = .bool s.t4) v := by
        intro st hp
        obtain ⟨hl, a4⟩ := (hp : P196_1' s st.tmps st.h)
        exact ⟨[.bool s.t4], _, by simp only [show Tryz.f196.results.toList = [ResultVar.tmp 4] from rfl, aresults, ares1, CP, a4, Option.getD_some], (Nrm.of (w := .bool s.t4) (by simp only [refsL, refs, List.append_nil])), rfl⟩
      intro st hq
      rcases hx with rfl | rfl
      · exact key st hq
      · exact key st hq)
    subst hR
    exact hrun
/-! ### cmp.Compare[int64] -/
structure Fr198 where
  t0 : Int
  t1 : Int
  t4 : Int
  t5 : Bool
  t6 : Bool
  t11 : Bool
  t12 : Bool
  t13 : Bool
  t16 : Bool
  t19 : Bool
instance : Inhabited Fr198 := ⟨⟨0, 0, 0, false, false, false, false, false, false, false⟩⟩
def P198_0' (s : Fr198) (t : List AVal) (h : AHeap) : Prop := t.length = 20 ∧ True
def P198_0 (s : Fr198) (st : ASt) : Prop := P198_0' s st.tmps st.h
def P198_1' (s : Fr198) (t : List AVal) (h : AHeap) : Prop := t.length = 20 ∧ t[4]? = some (.int .i64 s.t4)
def P198_1 (s : Fr198) (st : ASt) : Prop := P198_1' s st.tmps st.h
def P198_2' (s : Fr198) (t : List AVal) (h : AHeap) : Prop := t.length = 20 ∧ t[19]? = some (.bool s.t19)
def P198_2 (s : Fr198) (st : ASt) : Prop := P198_2' s st.tmps st.h
def P198_3' (s : Fr198) (t : List AVal) (h : AHeap) : Prop := t.length = 20 ∧ t[0]? = some (.int .i64 s.t0) ∧ t[1]? = some (.int .i64 s.t1)
def P198_3 (s : Fr198) (st : ASt) : Prop := P198_3' s st.tmps st.h
def P198_4' (s : Fr198) (t : List AVal) (h : AHeap) : Prop := t.length = 20 ∧ t[0]? = some (.int .i64 s.t0) ∧ t[1]? = some (.int .i64 s.t1) ∧ t[16]? = some (.bool s.t16)
def P198_4 (s : Fr198) (st : ASt) : Prop := P198_4' s st.tmps st.h
def P198_5' (s : Fr198) (t : List AVal) (h : AHeap) : Prop := t.length = 20 ∧ t[0]? = some (.int .i64 s.t0) ∧ t[1]? = some (.int .i64 s.t1) ∧ t[13]? = some (.bool s.t13)
def P198_5 (s : Fr198) (st : ASt) : Prop := P198_5' s st.tmps st.h
def P198_6' (s : Fr198) (t : List AVal) (h : AHeap) : Prop := t.length = 20 ∧ t[0]? = some (.int .i64 s.t0) ∧ t[1]? = some (.int .i64 s.t1) ∧ t[6]? = some (.bool s.t6)
def P198_6 (s : Fr198) (st : ASt) : Prop := P198_6' s st.tmps st.h
def P198_7' (s : Fr198) (t : List AVal) (h : AHeap) : Prop := t.length = 20 ∧ t[12]? = some (.bool s.t12)
def P198_7 (s : Fr198) (st : ASt) : Prop := P198_7' s st.tmps st.h
def P198_8' (s : Fr198) (t : List AVal) (h : AHeap) : Prop := t.length = 20 ∧ t[6]? = some (.bool s.t6)
def P198_8 (s : Fr198) (st : ASt) : Prop := P198_8' s st.tmps st.h
def P198_9' (s : Fr198) (t : List AVal) (h : AHeap) : Prop := t.length = 20 ∧ t[0]? = some (.int .i64 s.t0) ∧ t[1]? = some (.int .i64 s.t1) ∧ t[6]? = some (.bool s.t6) ∧ t[11]? = some (.bool s.t11)
def P198_9 (s : Fr198) (st : ASt) : Prop := P198_9' s st.tmps st.h
def P198_10' (s : Fr198) (t : List AVal) (h : AHeap) : Prop := t.length = 20 ∧ t[0]? = some (.int .i64 s.t0) ∧ t[1]? = some (.int .i64 s.t1) ∧ t[5]? = some (.bool s.t5) ∧ t[6]? = some (.bool s.t6)
def P198_10 (s : Fr198) (st : ASt) : Prop := P198_10' s st.tmps st.h
def P198_11' (s : Fr198) (t : List AVal) (h : AHeap) : Prop := t.length = 20 ∧ t[0]? = some (.int .i64 s.t0) ∧ t[1]? = some (.int .i64 s.t1) ∧ t[5]? = some (.bool s.t5)
def P198_11 (s : Fr198) (st : ASt) : Prop := P198_11' s st.tmps st.h
noncomputable def m198_0 : Mo Fr198 := fun s => some (.nrm, { s with t4 := 0 })
noncomputable def m198_1 : Mo Fr198 := fun s => some (.nrm, { s with t4 := 1 })
noncomputable def m198_2 : Mo Fr198 := fun s => some (.nrm, { s with t19 := decide (s.t0 > s.t1) })
noncomputable def m198_3 : Mo Fr198 := fun s => some (.nrm, { s with t4 := (-1) })
noncomputable def m198_4 : Mo Fr198 := fun s => some (.nrm, { s with t16 := decide (s.t0 < s.t1) })
noncomputable def m198_5 : Mo Fr198 := fun s => some (.nrm, { s with t4 := 1 })
noncomputable def m198_6 : Mo Fr198 := fun s => some (.nrm, { s with t13 := s.t6 })
noncomputable def m198_7 : Mo Fr198 := fun s => some (.nrm, { s with t4 := (-1) })
noncomputable def m198_8 : Mo Fr198 := fun s => some (.nrm, { s with t4 := 0 })
noncomputable def m198_9 : Mo Fr198 := fun s => some (.nrm, { s with t12 := s.t6 })
noncomputable def m198_10 : Mo Fr198 := fun s => some (.nrm, { s with t11 := s.t5 })
noncomputable def m198_11 : Mo Fr198 := fun s => (G231 s.t1).bind fun z1 => some (.nrm, { s with t6 := z1 })
noncomputable def m198_12 : Mo Fr198 := fun s => (G231 s.t0).bind fun z5 => some (.nrm, { s with t5 := z5 })
noncomputable def m198_13 : Mo Fr198 := fun s => some (.nrm, s)
noncomputable def M198 : Mo Fr198 := seqM (m198_13) (seqM (m198_12) (seqM (m198_11) (seqM (seqM (m198_10) (condM (fun s => s.t11) (seqM (seqM (m198_9) (condM (fun s => s.t12) (seqM (m198_8) (retM)) (skipM))) (seqM (m198_7) (retM))) (skipM))) (seqM (seqM (m198_6) (condM (fun s => s.t13) (seqM (m198_5) (retM)) (skipM))) (seqM (seqM (m198_4) (condM (fun s => s.t16) (seqM (m198_3) (retM)) (skipM))) (seqM (seqM (m198_2) (condM (fun s => s.t19) (seqM (m198_1) (retM)) (skipM))) (seqM (m198_0) (retM))))))))
def Spec198 (f : Int → Int → Option Int) : Prop := ∀ (x0 : Int) (x1 : Int) (r : Int), f x0 x1 = some r → ∀ h, run Cb 198 [.int .i64 x0, .int .i64 x1] h = some (.ret (.int .i64 r), h)
theorem Spec198_of {f g : Int → Int → Option Int} (hg : Spec198 g) (h : ∀ x0 x1 r, f x0 x1 = some r → g x0 x1 = some r) : Spec198 f := fun x0 x1 r hr => hg x0 x1 r (h x0 x1 r hr)
theorem R198_0 (pe : Nat → Fr198 → ASt → Prop) (pr : Fr198 → ASt → Prop) : Ref Cb P198_0 (Cat [true, true, true, true, true, true, true, false] (bodyOf Tryz.f198)) m198_0 (post P198_1 pe pr) := by
  rintro s ⟨t, h⟩ hp x s' hm
  have hp : P198_0' s t h := hp
  obtain ⟨hl, _⟩ := hp
  unfold m198_0 at hm
  cases hm
  refine ⟨⟨_, _⟩, by
      simp only [bodyOf, Tryz.f198, Cat, Bool.false_eq_true, e_seq, e_region, e_cond, e_block, ex_skip, ex_exit, ex_ret, o_cons, xops_nil, k_want_none, k_want_false, k_val, k_pan, k_call, k_ret, k_seq, k_seq_exit, k_seq_ret, k_true, k_false, k_block, k_block_exit, k_block_ret, k_loop, k_loop_exit, k_loop_ret, awanted, aoper, evalO, put, Option.getD_some, List.getElem?_set, acallOp, abuiltin, List.map_cons, List.map_nil, Nat.reduceEqDiff, Nat.reduceLT, List.length_set, Option.map_some, Option.bind_some, Option.bind_eq_bind, add_i, sub_i, mul_i, eql_i, neq_i, lss_i, leq_i, gtr_i, geq_i, ofV, ofCell, ↓reduceIte, List.cons_append, List.nil_append, List.append_nil, List.getElem?_toArray, List.getElem?_cons_succ, List.getElem?_cons_zero, e_draw, g_nil, g_cons, g_want, g_skip, g_val, g_call, g_ret, Option.map_none, hl, CP, bq1, bq2, bq3, bq4, ex_tup]
      exact rfl, ?_⟩
  show P198_1 _ _
  exact ⟨by simp [hl], by simp [hl]⟩
theorem R198_1 (pe : Nat → Fr198 → ASt → Prop) (pr : Fr198 → ASt → Prop) : Ref Cb P198_0 (Cat [true, true, true, true, true, true, false, true, false, false] (bodyOf Tryz.f198)) m198_1 (post P198_1 pe pr) := by
  rintro s ⟨t, h⟩ hp x s' hm
  have hp : P198_0' s t h := hp
  obtain ⟨hl, _⟩ := hp
  unfold m198_1 at hm
  cases hm
  refine ⟨⟨_, _⟩, by
      simp only [bodyOf, Tryz.f198, Cat, Bool.false_eq_true, e_seq, e_region, e_cond, e_block, ex_skip, ex_exit, ex_ret, o_cons, xops_nil, k_want_none, k_want_false, k_val, k_pan, k_call, k_ret, k_seq, k_seq_exit, k_seq_ret, k_true, k_false, k_block, k_block_exit, k_block_ret, k_loop, k_loop_exit, k_loop_ret, awanted, aoper, evalO, put, Option.getD_some, List.getElem?_set, acallOp, abuiltin, List.map_cons, List.map_nil, Nat.reduceEqDiff, Nat.reduceLT, List.length_set, Option.map_some, Option.bind_some, Option.bind_eq_bind, add_i, sub_i, mul_i, eql_i, neq_i, lss_i, leq_i, gtr_i, geq_i, ofV, ofCell, ↓reduceIte, List.cons_append, List.nil_append, List.append_nil, List.getElem?_toArray, List.getElem?_cons_succ, List.getElem?_cons_zero, e_draw, g_nil, g_cons, g_want, g_skip, g_val, g_call, g_ret, Option.map_none, hl, CP, bq1, bq2, bq3, bq4, ex_tup]
      exact rfl, ?_⟩
  show P198_1 _ _
  exact ⟨by simp [hl], by simp [hl]⟩
theorem R198_2 (pe : Nat → Fr198 → ASt → Prop) (pr : Fr198 → ASt → Prop) : Ref Cb P198_3 (Cat [true, true, true, true, true, true, false, false] (bodyOf Tryz.f198)) m198_2 (post P198_2 pe pr) := by
  rintro s ⟨t, h⟩ hp x s' hm
  have hp : P198_3' s t h := hp
  obtain ⟨hl, a0, a1⟩ := hp
  unfold m198_2 at hm
  cases hm
  refine ⟨⟨_, _⟩, by
      simp only [bodyOf, Tryz.f198, Cat, Bool.false_eq_true, e_seq, e_region, e_cond, e_block, ex_skip, ex_exit, ex_ret, o_cons, xops_nil, k_want_none, k_want_false, k_val, k_pan, k_call, k_ret, k_seq, k_seq_exit, k_seq_ret, k_true, k_false, k_block, k_block_exit, k_block_ret, k_loop, k_loop_exit, k_loop_ret, awanted, aoper, evalO, put, Option.getD_some, List.getElem?_set, acallOp, abuiltin, List.map_cons, List.map_nil, Nat.reduceEqDiff, Nat.reduceLT, List.length_set, Option.map_some, Option.bind_some, Option.bind_eq_bind, add_i, sub_i, mul_i, eql_i, neq_i, lss_i, leq_i, gtr_i, geq_i, ofV, ofCell, ↓reduceIte, List.cons_append, List.nil_append, List.append_nil, List.getElem?_toArray, List.getElem?_cons_succ, List.getElem?_cons_zero, e_draw, g_nil, g_cons, g_want, g_skip, g_val, g_call, g_ret, Option.map_none, hl, a0, a1, CP, bq1, bq2, bq3, bq4, ex_tup]
      exact rfl, ?_⟩
  show P198_2 _ _
  exact ⟨by simp [hl], by simp [hl]⟩
theorem R198_3 (pe : Nat → Fr198 → ASt → Prop) (pr : Fr198 → ASt → Prop) : Ref Cb P198_0 (Cat [true, true, true, true, true, false, true, false, false] (bodyOf Tryz.f198)) m198_3 (post P198_1 pe pr) := by
  rintro s ⟨t, h⟩ hp x s' hm
  have hp : P198_0' s t h := hp
  obtain ⟨hl, _⟩ := hp
  unfold m198_3 at hm
  cases hm
  refine ⟨⟨_, _⟩, by
      simp only [bodyOf, Tryz.f198, Cat, Bool.false_eq_true, e_seq, e_region, e_cond, e_block, ex_skip, ex_exit, ex_ret, o_cons, xops_nil, k_want_none, k_want_false, k_val, k_pan, k_call, k_ret, k_seq, k_seq_exit, k_seq_ret, k_true, k_false, k_block, k_block_exit, k_block_ret, k_loop, k_loop_exit, k_loop_ret, awanted, aoper, evalO, put, Option.getD_some, List.getElem?_set, acallOp, abuiltin, List.map_cons, List.map_nil, Nat.reduceEqDiff, Nat.reduceLT, List.length_set, Option.map_some, Option.bind_some, Option.bind_eq_bind, add_i, sub_i, mul_i, eql_i, neq_i, lss_i, leq_i, gtr_i, geq_i, ofV, ofCell, ↓reduceIte, List.cons_append, List.nil_append, List.append_nil, List.getElem?_toArray, List.getElem?_cons_succ, List.getElem?_cons_zero, e_draw, g_nil, g_cons, g_want, g_skip, g_val, g_call, g_ret, Option.map_none, hl, CP, bq1, bq2, bq3, bq4, ex_tup]
      exact rfl, ?_⟩
  show P198_1 _ _
  exact ⟨by simp [hl], by simp [hl]⟩
theorem R198_4 (pe : Nat → Fr198 → ASt → Prop) (pr : Fr198 → ASt → Prop) : Ref Cb P198_3 (Cat [true, true, true, true, true, false, false] (bodyOf Tryz.f198)) m198_4 (post P198_4 pe pr) := by
  rintro s ⟨t, h⟩ hp x s' hm
  have hp : P198_3' s t h := hp
  obtain ⟨hl, a0, a1⟩ := hp
  unfold m198_4 at hm
  cases hm
  refine ⟨⟨_, _⟩, by
      simp only [bodyOf, Tryz.f198, Cat, Bool.false_eq_true, e_seq, e_region, e_cond, e_block, ex_skip, ex_exit, ex_ret, o_cons, xops_nil, k_want_none, k_want_false, k_val, k_pan, k_call, k_ret, k_seq, k_seq_exit, k_seq_ret, k_true, k_false, k_block, k_block_exit, k_block_ret, k_loop, k_loop_exit, k_loop_ret, awanted, aoper, evalO, put, Option.getD_some, List.getElem?_set, acallOp, abuiltin, List.map_cons, List.map_nil, Nat.reduceEqDiff, Nat.reduceLT, List.length_set, Option.map_some, Option.bind_some, Option.bind_eq_bind, add_i, sub_i, mul_i, eql_i, neq_i, lss_i, leq_i, gtr_i, geq_i, ofV, ofCell, ↓reduceIte, List.cons_append, List.nil_append, List.append_nil, List.getElem?_toArray, List.getElem?_cons_succ, List.getElem?_cons_zero, e_draw, g_nil, g_cons, g_want, g_skip, g_val, g_call, g_ret, Option.map_none, hl, a0, a1, CP, bq1, bq2, bq3, bq4, ex_tup]
      exact rfl, ?_⟩
  show P198_4 _ _
  exact ⟨by simp [hl], by simp [a0], by simp [a1], by simp [hl]⟩
theorem R198_5 (pe : Nat → Fr198 → ASt → Prop) (pr : Fr198 → ASt → Prop) : Ref Cb P198_0 (Cat [true, true, true, true, false, true, false, false] (bodyOf Tryz.f198)) m198_5 (post P198_1 pe pr) := by
  rintro s ⟨t, h⟩ hp x s' hm
  have hp : P198_0' s t h := hp
  obtain ⟨hl, _⟩ := hp
  unfold m198_5 at hm
  cases hm
  refine ⟨⟨_, _⟩, by
      simp only [bodyOf, Tryz.f198, Cat, Bool.false_eq_true, e_seq, e_region, e_cond, e_block, ex_skip, ex_exit, ex_ret, o_cons, xops_nil, k_want_none, k_want_false, k_val, k_pan, k_call, k_ret, k_seq, k_seq_exit, k_seq_ret, k_true, k_false, k_block, k_block_exit, k_block_ret, k_loop, k_loop_exit, k_loop_ret, awanted, aoper, evalO, put, Option.getD_some, List.getElem?_set, acallOp, abuiltin, List.map_cons, List.map_nil, Nat.reduceEqDiff, Nat.reduceLT, List.length_set, Option.map_some, Option.bind_some, Option.bind_eq_bind, add_i, sub_i, mul_i, eql_i, neq_i, lss_i, leq_i, gtr_i, geq_i, ofV, ofCell, ↓reduceIte, List.cons_append, List.nil_append, List.append_nil, List.getElem?_toArray, List.getElem?_cons_succ, List.getElem?_cons_zero, e_draw, g_nil, g_cons, g_want, g_skip, g_val, g_call, g_ret, Option.map_none, hl, CP, bq1, bq2, bq3, bq4, ex_tup]
      exact rfl, ?_⟩
  show P198_1 _ _
  exact ⟨by simp [hl], by simp [hl]⟩
theorem R198_6 (pe : Nat → Fr198 → ASt → Prop) (pr : Fr198 → ASt → Prop) : Ref Cb P198_6 (Cat [true, true, true, true, false, false] (bodyOf Tryz.f198)) m198_6 (post P198_5 pe pr) := by
  rintro s ⟨t, h⟩ hp x s' hm
  have hp : P198_6' s t h := hp
  obtain ⟨hl, a0, a1, a6⟩ := hp
  unfold m198_6 at hm
  cases hm
  refine ⟨⟨_, _⟩, by
      simp only [bodyOf, Tryz.f198, Cat, Bool.false_eq_true, e_seq, e_region, e_cond, e_block, ex_skip, ex_exit, ex_ret, o_cons, xops_nil, k_want_none, k_want_false, k_val, k_pan, k_call, k_ret, k_seq, k_seq_exit, k_seq_ret, k_true, k_false, k_block, k_block_exit, k_block_ret, k_loop, k_loop_exit, k_loop_ret, awanted, aoper, evalO, put, Option.getD_some, List.getElem?_set, acallOp, abuiltin, List.map_cons, List.map_nil, Nat.reduceEqDiff, Nat.reduceLT, List.length_set, Option.map_some, Option.bind_some, Option.bind_eq_bind, add_i, sub_i, mul_i, eql_i, neq_i, lss_i, leq_i, gtr_i, geq_i, ofV, ofCell, ↓reduceIte, List.cons_append, List.nil_append, List.append_nil, List.getElem?_toArray, List.getElem?_cons_succ, List.getElem?_cons_zero, e_draw, g_nil, g_cons, g_want, g_skip, g_val, g_call, g_ret, Option.map_none, hl, a0, a1, a6, CP, bq1, bq2, bq3, bq4, ex_tup]
      exact rfl, ?_⟩
  show P198_5 _ _
  exact ⟨by simp [hl], by simp [a0], by simp [a1], by simp [hl]⟩
theorem R198_7 (pe : Nat → Fr198 → ASt → Prop) (pr : Fr198 → ASt → Prop) : Ref Cb P198_0 (Cat [true, true, true, false, true, false, true, false] (bodyOf Tryz.f198)) m198_7 (post P198_1 pe pr) := by
  rintro s ⟨t, h⟩ hp x s' hm
  have hp : P198_0' s t h := hp
  obtain ⟨hl, _⟩ := hp
  unfold m198_7 at hm
  cases hm
  refine ⟨⟨_, _⟩, by
      simp only [bodyOf, Tryz.f198, Cat, Bool.false_eq_true, e_seq, e_region, e_cond, e_block, ex_skip, ex_exit, ex_ret, o_cons, xops_nil, k_want_none, k_want_false, k_val, k_pan, k_call, k_ret, k_seq, k_seq_exit, k_seq_ret, k_true, k_false, k_block, k_block_exit, k_block_ret, k_loop, k_loop_exit, k_loop_ret, awanted, aoper, evalO, put, Option.getD_some, List.getElem?_set, acallOp, abuiltin, List.map_cons, List.map_nil, Nat.reduceEqDiff, Nat.reduceLT, List.length_set, Option.map_some, Option.bind_some, Option.bind_eq_bind, add_i, sub_i, mul_i, eql_i, neq_i, lss_i, leq_i, gtr_i, geq_i, ofV, ofCell, ↓reduceIte, List.cons_append, List.nil_append, List.append_nil, List.getElem?_toArray, List.getElem?_cons_succ, List.getElem?_cons_zero, e_draw, g_nil, g_cons, g_want, g_skip, g_val, g_call, g_ret, Option.map_none, hl, CP, bq1, bq2, bq3, bq4, ex_tup]
      exact rfl, ?_⟩
  show P198_1 _ _
  exact ⟨by simp [hl], by simp [hl]⟩
theorem R198_8 (pe : Nat → Fr198 → ASt → Prop) (pr : Fr198 → ASt → Prop) : Ref Cb P198_0 (Cat [true, true, true, false, true, false, false, true, false, false] (bodyOf Tryz.f198)) m198_8 (post P198_1 pe pr) := by
  rintro s ⟨t, h⟩ hp x s' hm
  have hp : P198_0' s t h := hp
  obtain ⟨hl, _⟩ := hp
  unfold m198_8 at hm
  cases hm
  refine ⟨⟨_, _⟩, by
      simp only [bodyOf, Tryz.f198, Cat, Bool.false_eq_true, e_seq, e_region, e_cond, e_block, ex_skip, ex_exit, ex_ret, o_cons, xops_nil, k_want_none, k_want_false, k_val, k_pan, k_call, k_ret, k_seq, k_seq_exit, k_seq_ret, k_true, k_false, k_block, k_block_exit, k_block_ret, k_loop, k_loop_exit, k_loop_ret, awanted, aoper, evalO, put, Option.getD_some, List.getElem?_set, acallOp, abuiltin, List.map_cons, List.map_nil, Nat.reduceEqDiff, Nat.reduceLT, List.length_set, Option.map_some, Option.bind_some, Option.bind_eq_bind, add_i, sub_i, mul_i, eql_i, neq_i, lss_i, leq_i, gtr_i, geq_i, ofV, ofCell, ↓reduceIte, List.cons_append, List.nil_append, List.append_nil, List.getElem?_toArray, List.getElem?_cons_succ, List.getElem?_cons_zero, e_draw, g_nil, g_cons, g_want, g_skip, g_val, g_call, g_ret, Option.map_none, hl, CP, bq1, bq2, bq3, bq4, ex_tup]
      exact rfl, ?_⟩
  show P198_1 _ _
  exact ⟨by simp [hl], by simp [hl]⟩
theorem R198_9 (pe : Nat → Fr198 → ASt → Prop) (pr : Fr198 → ASt → Prop) : Ref Cb P198_8 (Cat [true, true, true, false, true, false, false, false] (bodyOf Tryz.f198)) m198_9 (post P198_7 pe pr) := by
  rintro s ⟨t, h⟩ hp x s' hm
  have hp : P198_8' s t h := hp
  obtain ⟨hl, a6⟩ := hp
  unfold m198_9 at hm
  cases hm
  refine ⟨⟨_, _⟩, by
      simp only [bodyOf, Tryz.f198, Cat, Bool.false_eq_true, e_seq, e_region, e_cond, e_block, ex_skip, ex_exit, ex_ret, o_cons, xops_nil, k_want_none, k_want_false, k_val, k_pan, k_call, k_ret, k_seq, k_seq_exit, k_seq_ret, k_true, k_false, k_block, k_block_exit, k_block_ret, k_loop, k_loop_exit, k_loop_ret, awanted, aoper, evalO, put, Option.getD_some, List.getElem?_set, acallOp, abuiltin, List.map_cons, List.map_nil, Nat.reduceEqDiff, Nat.reduceLT, List.length_set, Option.map_some, Option.bind_some, Option.bind_eq_bind, add_i, sub_i, mul_i, eql_i, neq_i, lss_i, leq_i, gtr_i, geq_i, ofV, ofCell, ↓reduceIte, List.cons_append, List.nil_append, List.append_nil, List.getElem?_toArray, List.getElem?_cons_succ, List.getElem?_cons_zero, e_draw, g_nil, g_cons, g_want, g_skip, g_val, g_call, g_ret, Option.map_none, hl, a6, CP, bq1, bq2, bq3, bq4, ex_tup]
      exact rfl, ?_⟩
  show P198_7 _ _
  exact ⟨by simp [hl], by simp [hl]⟩
theorem R198_10 (pe : Nat → Fr198 → ASt → Prop) (pr : Fr198 → ASt → Prop) : Ref Cb P198_10 (Cat [true, true, true, false, false] (bodyOf Tryz.f198)) m198_10 (post P198_9 pe pr) := by
  rintro s ⟨t, h⟩ hp x s' hm
  have hp : P198_10' s t h := hp
  obtain ⟨hl, a0, a1, a5, a6⟩ := hp
  unfold m198_10 at hm
  cases hm
  refine ⟨⟨_, _⟩, by
      simp only [bodyOf, Tryz.f198, Cat, Bool.false_eq_true, e_seq, e_region, e_cond, e_block, ex_skip, ex_exit, ex_ret, o_cons, xops_nil, k_want_none, k_want_false, k_val, k_pan, k_call, k_ret, k_seq, k_seq_exit, k_seq_ret, k_true, k_false, k_block, k_block_exit, k_block_ret, k_loop, k_loop_exit, k_loop_ret, awanted, aoper, evalO, put, Option.getD_some, List.getElem?_set, acallOp, abuiltin, List.map_cons, List.map_nil, Nat.reduceEqDiff, Nat.reduceLT, List.length_set, Option.map_some, Option.bind_some, Option.bind_eq_bind, add_i, sub_i, mul_i, eql_i, neq_i, lss_i, leq_i, gtr_i, geq_i, ofV, ofCell, ↓reduceIte, List.cons_append, List.nil_append, List.append_nil, List.getElem?_toArray, List.getElem?_cons_succ, List.getElem?_cons_zero, e_draw, g_nil, g_cons, g_want, g_skip, g_val, g_call, g_ret, Option.map_none, hl, a0, a1, a5, a6, CP, bq1, bq2, bq3, bq4, ex_tup]
      exact rfl, ?_⟩
  show P198_9 _ _
  exact ⟨by simp [hl], by simp [a0], by simp [a1], by simp [a6], by simp [hl]⟩
theorem R198_11 (pe : Nat → Fr198 → ASt → Prop) (pr : Fr198 → ASt → Prop) : Ref Cb P198_11 (Cat [true, true, false] (bodyOf Tryz.f198)) m198_11 (post P198_10 pe pr) := by
  rintro s ⟨t, h⟩ hp x s' hm
  have hp : P198_11' s t h := hp
  obtain ⟨hl, a0, a1, a5⟩ := hp
  unfold m198_11 at hm
  obtain ⟨z3, hz3, hm⟩ := Option.bind_eq_some_iff.1 hm
  have iu4 := G231_spec s.t1  _ hz3
  cases hm
  refine ⟨⟨_, _⟩, by
      simp only [bodyOf, Tryz.f198, Cat, Bool.false_eq_true, e_seq, e_region, e_cond, e_block, ex_skip, ex_exit, ex_ret, o_cons, xops_nil, k_want_none, k_want_false, k_val, k_pan, k_call, k_ret, k_seq, k_seq_exit, k_seq_ret, k_true, k_false, k_block, k_block_exit, k_block_ret, k_loop, k_loop_exit, k_loop_ret, awanted, aoper, evalO, put, Option.getD_some, List.getElem?_set, acallOp, abuiltin, List.map_cons, List.map_nil, Nat.reduceEqDiff, Nat.reduceLT, List.length_set, Option.map_some, Option.bind_some, Option.bind_eq_bind, add_i, sub_i, mul_i, eql_i, neq_i, lss_i, leq_i, gtr_i, geq_i, ofV, ofCell, ↓reduceIte, List.cons_append, List.nil_append, List.append_nil, List.getElem?_toArray, List.getElem?_cons_succ, List.getElem?_cons_zero, e_draw, g_nil, g_cons, g_want, g_skip, g_val, g_call, g_ret, Option.map_none, hl, a0, a1, a5, CP, bq1, bq2, bq3, bq4, ex_tup, iu4]
      exact rfl, ?_⟩
  show P198_10 _ _
  exact ⟨by simp [hl], by simp [a0], by simp [a1], by simp [a5], by simp [hl]⟩
theorem R198_12 (pe : Nat → Fr198 → ASt → Prop) (pr : Fr198 → ASt → Prop) : Ref Cb P198_3 (Cat [true, false] (bodyOf Tryz.f198)) m198_12 (post P198_11 pe pr) := by
  rintro s ⟨t, h⟩ hp x s' hm
  have hp : P198_3' s t h := hp
  obtain ⟨hl, a0, a1⟩ := hp
  unfold m198_12 at hm
  obtain ⟨z7, hz7, hm⟩ := Option.bind_eq_some_iff.1 hm
  have iu8 := G231_spec s.t0  _ hz7
  cases hm
  refine ⟨⟨_, _⟩, by
      simp only [bodyOf, Tryz.f198, Cat, Bool.false_eq_true, e_seq, e_region, e_cond, e_block, ex_skip, ex_exit, ex_ret, o_cons, xops_nil, k_want_none, k_want_false, k_val, k_pan, k_call, k_ret, k_seq, k_seq_exit, k_seq_ret, k_true, k_false, k_block, k_block_exit, k_block_ret, k_loop, k_loop_exit, k_loop_ret, awanted, aoper, evalO, put, Option.getD_some, List.getElem?_set, acallOp, abuiltin, List.map_cons, List.map_nil, Nat.reduceEqDiff, Nat.reduceLT, List.length_set, Option.map_some, Option.bind_some, Option.bind_eq_bind, add_i, sub_i, mul_i, eql_i, neq_i, lss_i, leq_i, gtr_i, geq_i, ofV, ofCell, ↓reduceIte, List.cons_append, List.nil_append, List.append_nil, List.getElem?_toArray, List.getElem?_cons_succ, List.getElem?_cons_zero, e_draw, g_nil, g_cons, g_want, g_skip, g_val, g_call, g_ret, Option.map_none, hl, a0, a1, CP, bq1, bq2, bq3, bq4, ex_tup, iu8]
      exact rfl, ?_⟩
  show P198_11 _ _
  exact ⟨by simp [hl], by simp [a0], by simp [a1], by simp [hl]⟩
theorem R198_13 (pe : Nat → Fr198 → ASt → Prop) (pr : Fr198 → ASt → Prop) : Ref Cb P198_3 (Cat [false] (bodyOf Tryz.f198)) m198_13 (post P198_3 pe pr) := by
  rintro s ⟨t, h⟩ hp x s' hm
  have hp : P198_3' s t h := hp
  obtain ⟨hl, a0, a1⟩ := hp
  unfold m198_13 at hm
  cases hm
  refine ⟨⟨_, _⟩, by
      simp only [bodyOf, Tryz.f198, Cat, Bool.false_eq_true, e_seq, e_region, e_cond, e_block, ex_skip, ex_exit, ex_ret, o_cons, xops_nil, k_want_none, k_want_false, k_val, k_pan, k_call, k_ret, k_seq, k_seq_exit, k_seq_ret, k_true, k_false, k_block, k_block_exit, k_block_ret, k_loop, k_loop_exit, k_loop_ret, awanted, aoper, evalO, put, Option.getD_some, List.getElem?_set, acallOp, abuiltin, List.map_cons, List.map_nil, Nat.reduceEqDiff, Nat.reduceLT, List.length_set, Option.map_some, Option.bind_some, Option.bind_eq_bind, add_i, sub_i, mul_i, eql_i, neq_i, lss_i, leq_i, gtr_i, geq_i, ofV, ofCell, ↓reduceIte, List.cons_append, List.nil_append, List.append_nil, List.getElem?_toArray, List.getElem?_cons_succ, List.getElem?_cons_zero, e_draw, g_nil, g_cons, g_want, g_skip, g_val, g_call, g_ret, Option.map_none, hl, a0, a1, CP, bq1, bq2, bq3, bq4, ex_tup]
      exact rfl, ?_⟩
  show P198_3 _ _
  exact ⟨by simp [hl], by simp [a0], by simp [a1]⟩
theorem B198 : Ref Cb P198_3 (bodyOf Tryz.f198) (M198) (post P198_1 (fun _ _ _ => False) P198_1) := by
  rw [show bodyOf Tryz.f198 = .seq (Cat [false] (bodyOf Tryz.f198)) (.seq (Cat [true, false] (bodyOf Tryz.f198)) (.seq (Cat [true, true, false] (bodyOf Tryz.f198)) (.seq (.seq (Cat [true, true, true, false, false] (bodyOf Tryz.f198)) (.cond (.tmp 11) (.seq (.seq (Cat [true, true, true, false, true, false, false, false] (bodyOf Tryz.f198)) (.cond (.tmp 12) (.seq (Cat [true, true, true, false, true, false, false, true, false, false] (bodyOf Tryz.f198)) (.ret)) (.skip))) (.seq (Cat [true, true, true, false, true, false, true, false] (bodyOf Tryz.f198)) (.ret))) (.skip))) (.seq (.seq (Cat [true, true, true, true, false, false] (bodyOf Tryz.f198)) (.cond (.tmp 13) (.seq (Cat [true, true, true, true, false, true, false, false] (bodyOf Tryz.f198)) (.ret)) (.skip))) (.seq (.seq (Cat [true, true, true, true, true, false, false] (bodyOf Tryz.f198)) (.cond (.tmp 16) (.seq (Cat [true, true, true, true, true, false, true, false, false] (bodyOf Tryz.f198)) (.ret)) (.skip))) (.seq (.seq (Cat [true, true, true, true, true, true, false, false] (bodyOf Tryz.f198)) (.cond (.tmp 19) (.seq (Cat [true, true, true, true, true, true, false, true, false, false] (bodyOf Tryz.f198)) (.ret)) (.skip))) (.seq (Cat [true, true, true, true, true, true, true, false] (bodyOf Tryz.f198)) (.ret)))))))) from rfl]
  unfold M198
  exact ref_seq (M := P198_3) (R198_13 _ _) (ref_seq (M := P198_11) (R198_12 _ _) (ref_seq (M := P198_10) (R198_11 _ _) (ref_seq (M := P198_6) (ref_seq (M := P198_9) (R198_10 _ _) (ref_cond (P := P198_9) (c := fun s => s.t11) (fun s st hp => by obtain ⟨hl, a0, a1, a6, a11⟩ := (hp : P198_9' s st.tmps st.h); simp only [evalO, a11, Option.getD_some]) (ref_weak (P' := P198_8) (fun s st hp => by obtain ⟨hl, a0, a1, a6, a11⟩ := (hp : P198_9' s st.tmps st.h); exact (⟨hl, a6⟩ : P198_8' s st.tmps st.h)) (ref_seq (M := P198_0) (ref_seq (M := P198_7) (R198_9 _ _) (ref_cond (P := P198_7) (c := fun s => s.t12) (fun s st hp => by obtain ⟨hl, a12⟩ := (hp : P198_7' s st.tmps st.h); simp only [evalO, a12, Option.getD_some]) (ref_weak (P' := P198_0) (fun s st hp => by obtain ⟨hl, a12⟩ := (hp : P198_7' s st.tmps st.h); exact (⟨hl, trivial⟩ : P198_0' s st.tmps st.h)) (ref_seq (M := P198_1) (R198_8 _ _) (ref_ret (fun s st hp => hp)))) (ref_weak (P' := P198_0) (fun s st hp => by obtain ⟨hl, a12⟩ := (hp : P198_7' s st.tmps st.h); exact (⟨hl, trivial⟩ : P198_0' s st.tmps st.h)) (ref_skip (fun s st hp => hp))))) (ref_seq (M := P198_1) (R198_7 _ _) (ref_ret (fun s st hp => hp))))) (ref_weak (P' := P198_6) (fun s st hp => by obtain ⟨hl, a0, a1, a6, a11⟩ := (hp : P198_9' s st.tmps st.h); exact (⟨hl, a0, a1, a6⟩ : P198_6' s st.tmps st.h)) (ref_skip (fun s st hp => hp))))) (ref_seq (M := P198_3) (ref_seq (M := P198_5) (R198_6 _ _) (ref_cond (P := P198_5) (c := fun s => s.t13) (fun s st hp => by obtain ⟨hl, a0, a1, a13⟩ := (hp : P198_5' s st.tmps st.h); simp only [evalO, a13, Option.getD_some]) (ref_weak (P' := P198_0) (fun s st hp => by obtain ⟨hl, a0, a1, a13⟩ := (hp : P198_5' s st.tmps st.h); exact (⟨hl, trivial⟩ : P198_0' s st.tmps st.h)) (ref_seq (M := P198_1) (R198_5 _ _) (ref_ret (fun s st hp => hp)))) (ref_weak (P' := P198_3) (fun s st hp => by obtain ⟨hl, a0, a1, a13⟩ := (hp : P198_5' s st.tmps st.h); exact (⟨hl, a0, a1⟩ : P198_3' s st.tmps st.h)) (ref_skip (fun s st hp => hp))))) (ref_seq (M := P198_3) (ref_seq (M := P198_4) (R198_4 _ _) (ref_cond (P := P198_4) (c := fun s => s.t16) (fun s st hp => by obtain ⟨hl, a0, a1, a16⟩ := (hp : P198_4' s st.tmps st.h); simp only [evalO, a16, Option.getD_some]) (ref_weak (P' := P198_0) (fun s st hp => by obtain ⟨hl, a0, a1, a16⟩ := (hp : P198_4' s st.tmps st.h); exact (⟨hl, trivial⟩ : P198_0' s st.tmps st.h)) (ref_seq (M := P198_1) (R198_3 _ _) (ref_ret (fun s st hp => hp)))) (ref_weak (P' := P198_3) (fun s st hp => by obtain ⟨hl, a0, a1, a16⟩ := (hp : P198_4' s st.tmps st.h); exact (⟨hl, a0, a1⟩ : P198_3' s st.tmps st.h)) (ref_skip (fun s st hp => hp))))) (ref_seq (M := P198_0) (ref_seq (M := P198_2) (R198_2 _ _) (ref_cond (P := P198_2) (c := fun s => s.t19) (fun s st hp => by obtain ⟨hl, a19⟩ := (hp : P198_2' s st.tmps st.h); simp only [evalO, a19, Option.getD_some]) (ref_weak (P' := P198_0) (fun s st hp => by obtain ⟨hl, a19⟩ := (hp : P198_2' s st.tmps st.h); exact (⟨hl, trivial⟩ : P198_0' s st.tmps st.h)) (ref_seq (M := P198_1) (R198_1 _ _) (ref_ret (fun s st hp => hp)))) (ref_weak (P' := P198_0) (fun s st hp => by obtain ⟨hl, a19⟩ := (hp : P198_2' s st.tmps st.h); exact (⟨hl, trivial⟩ : P198_0' s st.tmps st.h)) (ref_skip (fun s st hp => hp))))) (ref_seq (M := P198_1) (R198_0 _ _) (ref_ret (fun s st hp => hp)))))))))
noncomputable def G198 (x0 : Int) (x1 : Int) : Option Int := match M198 { (default : Fr198) with t0 := x0, t1 := x1 } with
  | some (.nrm, s) => some s.t4
  | some (.ret, s) => some s.t4
  | _ => none
theorem G198_spec : Spec198 (G198) := by
  intro x0 x1 r hr
  unfold G198 at hr
  cases hm : M198 { (default : Fr198) with t0 := x0, t1 := x1 } with
  | none => rw [hm] at hr; cases hr
  | some q =>
    obtain ⟨x, s⟩ := q
    rw [hm] at hr
    have hx : x = .nrm ∨ x = .ret := by cases x <;> first | exact .inl rfl | exact .inr rfl | cases hr
    have hr : s.t4 = r := by cases x <;> first | exact Option.some.inj hr | cases hr
    subst hr
    have hp0 : P198_3' ({ (default : Fr198) with t0 := x0, t1 := x1 }) (slots Tryz.f198 (stripL [.int .i64 x0, .int .i64 x1])) bare := ⟨rfl, rfl, rfl⟩
    obtain ⟨v, hR, hrun⟩ := run_of_ref (C := Cb) (f := 198) (fn := Tryz.f198) Tryz.func198 rfl rfl rfl rfl (args := [.int .i64 x0, .int .i64 x1]) (by simp only [refsL, refs, List.append_nil]) (B198) (s0 := { (default : Fr198) with t0 := x0, t1 := x1 }) hp0 hm hx (R := fun v => v = .int .i64 s.t4) (by
      have key : ∀ st : ASt, P198_1 s st → ∃ vs v, aresults Cb Tryz.f198.results.toList st = some vs ∧ Nrm [] st.h (packRes vs) v ∧ (fun v => v = .int .i64 s.t4) v := by
        intro st hp
        obtain ⟨hl, a4⟩ := (hp : P198_1' s st.tmps st.h)
        exact ⟨[.int .i64 s.t4], _, by simp only [show Tryz.f198.results.toList = [ResultVar.tmp 4] from rfl, aresults, ares1, CP, a4, Option.getD_some], (Nrm.of (w := .int .i64 s.t4) (by simp only [refsL, refs, List.append_nil])), rfl⟩
      intro st hq
      rcases hx with rfl | rfl
      · exact key st hq
      · exact key st hq)
    subst hR
    exact hrun
/-! ### cmp.Compare[string] -/
structure Fr199 where
  t0 : (List UInt8)
  t1 : (List UInt8)
  t4 : Int
  t5 : Bool
  t6 : Bool
  t11 : Bool
  t12 : Bool
  t13 : Bool
  t16 : Bool
  t19 : Bool
instance : Inhabited Fr199 := ⟨⟨[], [], 0, false, false, false, false, false, false, false⟩⟩
def P199_0' (s : Fr199) (t : List AVal) (h : AHeap) : Prop := t.length = 20 ∧ True
def P199_0 (s : Fr199) (st : ASt) : Prop := P199_0' s st.tmps st.h
def P199_1' (s : Fr199) (t : List AVal) (h : AHeap) : Prop := t.length = 20 ∧ t[4]? = some (.int .i64 s.t4)
def P199_1 (s : Fr199) (st : ASt) : Prop := P199_1' s st.tmps st.h
def P199_2' (s : Fr199) (t : List AVal) (h : AHeap) : Prop := t.length = 20 ∧ t[19]? = some (.bool s.t19)
def P199_2 (s : Fr199) (st : ASt) : Prop := P199_2' s st.tmps st.h
def P199_3' (s : Fr199) (t : List AVal) (h : AHeap) : Prop := t.length = 20 ∧ t[0]? = some (.str s.t0) ∧ t[1]? = some (.str s.t1)
def P199_3 (s : Fr199) (st : ASt) : Prop := P199_3' s st.tmps st.h
def P199_4' (s : Fr199) (t : List AVal) (h : AHeap) : Prop := t.length = 20 ∧ t[0]? = some (.str s.t0) ∧ t[1]? = some (.str s.t1) ∧ t[16]? = some (.bool s.t16)
def P199_4 (s : Fr199) (st : ASt) : Prop := P199_4' s st.tmps st.h
def P199_5' (s : Fr199) (t : List AVal) (h : AHeap) : Prop := t.length = 20 ∧ t[0]? = some (.str s.t0) ∧ t[1]? = some (.str s.t1) ∧ t[13]? = some (.bool s.t13)
def P199_5 (s : Fr199) (st : ASt) : Prop := P199_5' s st.tmps st.h
def P199_6' (s : Fr199) (t : List AVal) (h : AHeap) : Prop := t.length = 20 ∧ t[0]? = some (.str s.t0) ∧ t[1]? = some (.str s.t1) ∧ t[6]? = some (.bool s.t6)
def P199_6 (s : Fr199) (st : ASt) : Prop := P199_6' s st.tmps st.h
def P199_7' (s : Fr199) (t : List AVal) (h : AHeap) : Prop := t.length = 20 ∧ t[12]? = some (.bool s.t12)
def P199_7 (s : Fr199) (st : ASt) : Prop := P199_7' s st.tmps st.h
def P199_8' (s : Fr199) (t : List AVal) (h : AHeap) : Prop := t.length = 20 ∧ t[6]? = some (.bool s.t6)
def P199_8 (s : Fr199) (st : ASt) : Prop := P199_8' s st.tmps st.h
def P199_9' (s : Fr199) (t : List AVal) (h : AHeap) : Prop := t.length = 20 ∧ t[0]? = some (.str s.t0) ∧ t[1]? = some (.str s.t1) ∧ t[6]? = some (.bool s.t6) ∧ t[11]? = some (.bool s.t11)
def P199_9 (s : Fr199) (st : ASt) : Prop := P199_9' s st.tmps st.h
def P199_10' (s : Fr199) (t : List AVal) (h : AHeap) : Prop := t.length = 20 ∧ t[0]? = some (.str s.t0) ∧ t[1]? = some (.str s.t1) ∧ t[5]? = some (.bool s.t5) ∧ t[6]? = some (.bool s.t6)
def P199_10 (s : Fr199) (st : ASt) : Prop := P199_10' s st.tmps st.h
def P199_11' (s : Fr199) (t : List AVal) (h : AHeap) : Prop := t.length = 20 ∧ t[0]? = some (.str s.t0) ∧ t[1]? = some (.str s.t1) ∧ t[5]? = some (.bool s.t5)
def P199_11 (s : Fr199) (st : ASt) : Prop := P199_11' s st.tmps st.h
noncomputable def m199_0 : Mo Fr199 := fun s => some (.nrm, { s with t4 := 0 })
noncomputable def m199_1 : Mo Fr199 := fun s => some (.nrm, { s with t4 := 1 })
noncomputable def m199_2 : Mo Fr199 := fun s => some (.nrm, { s with t19 := (!(ltS s.t0 s.t1 || eqS s.t0 s.t1)) })
noncomputable def m199_3 : Mo Fr199 := fun s => some (.nrm, { s with t4 := (-1) })
noncomputable def m199_4 : Mo Fr199 := fun s => some (.nrm, { s with t16 := (ltS s.t0 s.t1) })
noncomputable def m199_5 : Mo Fr199 := fun s => some (.nrm, { s with t4 := 1 })
noncomputable def m199_6 : Mo Fr199 := fun s => some (.nrm, { s with t13 := s.t6 })
noncomputable def m199_7 : Mo Fr199 := fun s => some (.nrm, { s with t4 := (-1) })
noncomputable def m199_8 : Mo Fr199 := fun s => some (.nrm, { s with t4 := 0 })
noncomputable def m199_9 : Mo Fr199 := fun s => some (.nrm, { s with t12 := s.t6 })
noncomputable def m199_10 : Mo Fr199 := fun s => some (.nrm, { s with t11 := s.t5 })
noncomputable def m199_11 : Mo Fr199 := fun s => (G232 s.t1).bind fun z1 => some (.nrm, { s with t6 := z1 })
noncomputable def m199_12 : Mo Fr199 := fun s => (G232 s.t0).bind fun z5 => some (.nrm, { s with t5 := z5 })
noncomputable def m199_13 : Mo Fr199 := fun s => some (.nrm, s)
noncomputable def M199 : Mo Fr199 := seqM (m199_13) (seqM (m199_12) (seqM (m199_11) (seqM (seqM (m199_10) (condM (fun s => s.t11) (seqM (seqM (m199_9) (condM (fun s => s.t12) (seqM (m199_8) (retM)) (skipM))) (seqM (m199_7) (retM))) (skipM))) (seqM (seqM (m199_6) (condM (fun s => s.t13) (seqM (m199_5) (retM)) (skipM))) (seqM (seqM (m199_4) (condM (fun s => s.t16) (seqM (m199_3) (retM)) (skipM))) (seqM (seqM (m199_2) (condM (fun s => s.t19) (seqM (m199_1) (retM)) (skipM))) (seqM (m199_0) (retM))))))))
def Spec199 (f : (List UInt8) → (List UInt8) → Option Int) : Prop := ∀ (x0 : (List UInt8)) (x1 : (List UInt8)) (r : Int), f x0 x1 = some r → ∀ h, run Cb 199 [.str x0, .str x1] h = some (.ret (.int .i64 r), h)
theorem Spec199_of {f g : (List UInt8) → (List UInt8) → Option Int} (hg : Spec199 g) (h : ∀ x0 x1 r, f x0 x1 = some r → g x0 x1 = some r) : Spec199 f := fun x0 x1 r hr => hg x0 x1 r (h x0 x1 r hr)
theorem R199_0 (pe : Nat → Fr199 → ASt → Prop) (pr : Fr199 → ASt → Prop) : Ref Cb P199_0 (Cat [true, true, true, true, true, true, true, false] (bodyOf Tryz.f199)) m199_0 (post P199_1 pe pr) := by
  rintro s ⟨t, h⟩ hp x s' hm
  have hp : P199_0' s t h := hp
  obtain ⟨hl, _⟩ := hp
  unfold m199_0 at hm
  cases hm
  refine ⟨⟨_, _⟩, by
      simp only [bodyOf, Tryz.f199, Cat, Bool.false_eq_true, e_seq, e_region, e_cond, e_block, ex_skip, ex_exit, ex_ret, o_cons, xops_nil, k_want_none, k_want_false, k_val, k_pan, k_call, k_ret, k_seq, k_seq_exit, k_seq_ret, k_true, k_false, k_block, k_block_exit, k_block_ret, k_loop, k_loop_exit, k_loop_ret, awanted, aoper, evalO, put, Option.getD_some, List.getElem?_set, acallOp, abuiltin, List.map_cons, List.map_nil, Nat.reduceEqDiff, Nat.reduceLT, List.length_set, Option.map_some, Option.bind_some, Option.bind_eq_bind, add_i, sub_i, mul_i, eql_i, neq_i, lss_i, leq_i, gtr_i, geq_i, ofV, ofCell, ↓reduceIte, List.cons_append, List.nil_append, List.append_nil, List.getElem?_toArray, List.getElem?_cons_succ, List.getElem?_cons_zero, e_draw, g_nil, g_cons, g_want, g_skip, g_val, g_call, g_ret, Option.map_none, hl, CP, bq1, bq2, bq3, bq4, ex_tup]
      exact rfl, ?_⟩
  show P199_1 _ _
  exact ⟨by simp [hl], by simp [hl]⟩
theorem R199_1 (pe : Nat → Fr199 → ASt → Prop) (pr : Fr199 → ASt → Prop) : Ref Cb P199_0 (Cat [true, true, true, true, true, true, false, true, false, false] (bodyOf Tryz.f199)) m199_1 (post P199_1 pe pr) := by
  rintro s ⟨t, h⟩ hp x s' hm
  have hp : P199_0' s t h := hp
  obtain ⟨hl, _⟩ := hp
  unfold m199_1 at hm
  cases hm
  refine ⟨⟨_, _⟩, by
      simp only [bodyOf, Tryz.f199, Cat, Bool.false_eq_true, e_seq, e_region, e_cond, e_block, ex_skip, ex_exit, ex_ret, o_cons, xops_nil, k_want_none, k_want_false, k_val, k_pan, k_call, k_ret, k_seq, k_seq_exit, k_seq_ret, k_true, k_false, k_block, k_block_exit, k_block_ret, k_loop, k_loop_exit, k_loop_ret, awanted, aoper, evalO, put, Option.getD_some, List.getElem?_set, acallOp, abuiltin, List.map_cons, List.map_nil, Nat.reduceEqDiff, Nat.reduceLT, List.length_set, Option.map_some, Option.bind_some, Option.bind_eq_bind, add_i, sub_i, mul_i, eql_i, neq_i, lss_i, leq_i, gtr_i, geq_i, ofV, ofCell, ↓reduceIte, List.cons_append, List.nil_append, List.append_nil, List.getElem?_toArray, List.getElem?_cons_succ, List.getElem?_cons_zero, e_draw, g_nil, g_cons, g_want, g_skip, g_val, g_call, g_ret, Option.map_none, hl, CP, bq1, bq2, bq3, bq4, ex_tup]
      exact rfl, ?_⟩
  show P199_1 _ _
  exact ⟨by simp [hl], by simp [hl]⟩
theorem R199_2 (pe : Nat → Fr199 → ASt → Prop) (pr : Fr199 → ASt → Prop) : Ref Cb P199_3 (Cat [true, true, true, true, true, true, false, false] (bodyOf Tryz.f199)) m199_2 (post P199_2 pe pr) := by
  rintro s ⟨t, h⟩ hp x s' hm
  have hp : P199_3' s t h := hp
  obtain ⟨hl, a0, a1⟩ := hp
  unfold m199_2 at hm
  cases hm
  refine ⟨⟨_, _⟩, by
      simp only [bodyOf, Tryz.f199, Cat, Bool.false_eq_true, e_seq, e_region, e_cond, e_block, ex_skip, ex_exit, ex_ret, o_cons, xops_nil, k_want_none, k_want_false, k_val, k_pan, k_call, k_ret, k_seq, k_seq_exit, k_seq_ret, k_true, k_false, k_block, k_block_exit, k_block_ret, k_loop, k_loop_exit, k_loop_ret, awanted, aoper, evalO, put, Option.getD_some, List.getElem?_set, acallOp, abuiltin, List.map_cons, List.map_nil, Nat.reduceEqDiff, Nat.reduceLT, List.length_set, Option.map_some, Option.bind_some, Option.bind_eq_bind, add_i, sub_i, mul_i, eql_i, neq_i, lss_i, leq_i, gtr_i, geq_i, ofV, ofCell, ↓reduceIte, List.cons_append, List.nil_append, List.append_nil, List.getElem?_toArray, List.getElem?_cons_succ, List.getElem?_cons_zero, e_draw, g_nil, g_cons, g_want, g_skip, g_val, g_call, g_ret, Option.map_none, hl, a0, a1, CP, bq1, bq2, bq3, bq4, ex_tup, Ty.gtrS9]
      exact rfl, ?_⟩
  show P199_2 _ _
  exact ⟨by simp [hl], by simp [hl]⟩
theorem R199_3 (pe : Nat → Fr199 → ASt → Prop) (pr : Fr199 → ASt → Prop) : Ref Cb P199_0 (Cat [true, true, true, true, true, false, true, false, false] (bodyOf Tryz.f199)) m199_3 (post P199_1 pe pr) := by
  rintro s ⟨t, h⟩ hp x s' hm
  have hp : P199_0' s t h := hp
  obtain ⟨hl, _⟩ := hp
  unfold m199_3 at hm
  cases hm
  refine ⟨⟨_, _⟩, by
      simp only [bodyOf, Tryz.f199, Cat, Bool.false_eq_true, e_seq, e_region, e_cond, e_block, ex_skip, ex_exit, ex_ret, o_cons, xops_nil, k_want_none, k_want_false, k_val, k_pan, k_call, k_ret, k_seq, k_seq_exit, k_seq_ret, k_true, k_false, k_block, k_block_exit, k_block_ret, k_loop, k_loop_exit, k_loop_ret, awanted, aoper, evalO, put, Option.getD_some, List.getElem?_set, acallOp, abuiltin, List.map_cons, List.map_nil, Nat.reduceEqDiff, Nat.reduceLT, List.length_set, Option.map_some, Option.bind_some, Option.bind_eq_bind, add_i, sub_i, mul_i, eql_i, neq_i, lss_i, leq_i, gtr_i, geq_i, ofV, ofCell, ↓reduceIte, List.cons_append, List.nil_append, List.append_nil, List.getElem?_toArray, List.getElem?_cons_succ, List.getElem?_cons_zero, e_draw, g_nil, g_cons, g_want, g_skip, g_val, g_call, g_ret, Option.map_none, hl, CP, bq1, bq2, bq3, bq4, ex_tup]
      exact rfl, ?_⟩
  show P199_1 _ _
  exact ⟨by simp [hl], by simp [hl]⟩
theorem R199_4 (pe : Nat → Fr199 → ASt → Prop) (pr : Fr199 → ASt → Prop) : Ref Cb P199_3 (Cat [true, true, true, true, true, false, false] (bodyOf Tryz.f199)) m199_4 (post P199_4 pe pr) := by
  rintro s ⟨t, h⟩ hp x s' hm
  have hp : P199_3' s t h := hp
  obtain ⟨hl, a0, a1⟩ := hp
  unfold m199_4 at hm
  cases hm
  refine ⟨⟨_, _⟩, by
      simp only [bodyOf, Tryz.f199, Cat, Bool.false_eq_true, e_seq, e_region, e_cond, e_block, ex_skip, ex_exit, ex_ret, o_cons, xops_nil, k_want_none, k_want_false, k_val, k_pan, k_call, k_ret, k_seq, k_seq_exit, k_seq_ret, k_true, k_false, k_block, k_block_exit, k_block_ret, k_loop, k_loop_exit, k_loop_ret, awanted, aoper, evalO, put, Option.getD_some, List.getElem?_set, acallOp, abuiltin, List.map_cons, List.map_nil, Nat.reduceEqDiff, Nat.reduceLT, List.length_set, Option.map_some, Option.bind_some, Option.bind_eq_bind, add_i, sub_i, mul_i, eql_i, neq_i, lss_i, leq_i, gtr_i, geq_i, ofV, ofCell, ↓reduceIte, List.cons_append, List.nil_append, List.append_nil, List.getElem?_toArray, List.getElem?_cons_succ, List.getElem?_cons_zero, e_draw, g_nil, g_cons, g_want, g_skip, g_val, g_call, g_ret, Option.map_none, hl, a0, a1, CP, bq1, bq2, bq3, bq4, ex_tup, Ty.lssS9]
      exact rfl, ?_⟩
  show P199_4 _ _
  exact ⟨by simp [hl], by simp [a0], by simp [a1], by simp [hl]⟩
theorem R199_5 (pe : Nat → Fr199 → ASt → Prop) (pr : Fr199 → ASt → Prop) : Ref Cb P199_0 (Cat [true, true, true, true, false, true, false, false] (bodyOf Tryz.f199)) m199_5 (post P199_1 pe pr) := by
  rintro s ⟨t, h⟩ hp x s' hm
  have hp : P199_0' s t h := hp
  obtain ⟨hl, _⟩ := hp
  unfold m199_5 at hm
  cases hm
  refine ⟨⟨_, _⟩, by
      simp only [bodyOf, Tryz.f199, Cat, Bool.false_eq_true, e_seq, e_region, e_cond, e_block, ex_skip, ex_exit, ex_ret, o_cons, xops_nil, k_want_none, k_want_false, k_val, k_pan, k_call, k_ret, k_seq, k_seq_exit, k_seq_ret, k_true, k_false, k_block, k_block_exit, k_block_ret, k_loop, k_loop_exit, k_loop_ret, awanted, aoper, evalO, put, Option.getD_some, List.getElem?_set, acallOp, abuiltin, List.map_cons, List.map_nil, Nat.reduceEqDiff, Nat.reduceLT, List.length_set, Option.map_some, Option.bind_some, Option.bind_eq_bind, add_i, sub_i, mul_i, eql_i, neq_i, lss_i, leq_i, gtr_i, geq_i, ofV, ofCell, ↓reduceIte, List.cons_append, List.nil_append, List.append_nil, List.getElem?_toArray, List.getElem?_cons_succ, List.getElem?_cons_zero, e_draw, g_nil, g_cons, g_want, g_skip, g_val, g_call, g_ret, Option.map_none, hl, CP, bq1, bq2, bq3, bq4, ex_tup]
      exact rfl, ?_⟩
  show P199_1 _ _
  exact ⟨by simp [hl], by simp [hl]⟩
theorem R199_6 (pe : Nat → Fr199 → ASt → Prop) (pr : Fr199 → ASt → Prop) : Ref Cb P199_6 (Cat [true, true, true, true, false, false] (bodyOf Tryz.f199)) m199_6 (post P199_5 pe pr) := by
  rintro s ⟨t, h⟩ hp x s' hm
  have hp : P199_6' s t h := hp
  obtain ⟨hl, a0, a1, a6⟩ := hp
  unfold m199_6 at hm
  cases hm
  refine ⟨⟨_, _⟩, by
      simp only [bodyOf, Tryz.f199, Cat, Bool.false_eq_true, e_seq, e_region, e_cond, e_block, ex_skip, ex_exit, ex_ret, o_cons, xops_nil, k_want_none, k_want_false, k_val, k_pan, k_call, k_ret, k_seq, k_seq_exit, k_seq_ret, k_true, k_false, k_block, k_block_exit, k_block_ret, k_loop, k_loop_exit, k_loop_ret, awanted, aoper, evalO, put, Option.getD_some, List.getElem?_set, acallOp, abuiltin, List.map_cons, List.map_nil, Nat.reduceEqDiff, Nat.reduceLT, List.length_set, Option.map_some, Option.bind_some, Option.bind_eq_bind, add_i, sub_i, mul_i, eql_i, neq_i, lss_i, leq_i, gtr_i, geq_i, ofV, ofCell, ↓reduceIte, List.cons_append, List.nil_append, List.append_nil, List.getElem?_toArray, List.getElem?_cons_succ, List.getElem?_cons_zero, e_draw, g_nil, g_cons, g_want, g_skip, g_val, g_call, g_ret, Option.map_none, hl, a0, a1, a6, CP, bq1, bq2, bq3, bq4, ex_tup]
      exact rfl, ?_⟩
  show P199_5 _ _
  exact ⟨by simp [hl], by simp [a0], by simp [a1], by simp [hl]⟩
theorem R199_7 (pe : Nat → Fr199 → ASt → Prop) (pr : Fr199 → ASt → Prop) : Ref Cb P199_0 (Cat [true, true, true, false, true, false, true, false] (bodyOf Tryz.f199)) m199_7 (post P199_1 pe pr) := by
  rintro s ⟨t, h⟩ hp x s' hm
  have hp : P199_0' s t h := hp
  obtain ⟨hl, _⟩ := hp
  unfold m199_7 at hm
  cases hm
  refine ⟨⟨_, _⟩, by
      simp only [bodyOf, Tryz.f199, Cat, Bool.false_eq_true, e_seq, e_region, e_cond, e_block, ex_skip, ex_exit, ex_ret, o_cons, xops_nil, k_want_none, k_want_false, k_val, k_pan, k_call, k_ret, k_seq, k_seq_exit, k_seq_ret, k_true, k_false, k_block, k_block_exit, k_block_ret, k_loop, k_loop_exit, k_loop_ret, awanted, aoper, evalO, put, Option.getD_some, List.getElem?_set, acallOp, abuiltin, List.map_cons, List.map_nil, Nat.reduceEqDiff, Nat.reduceLT, List.length_set, Option.map_some, Option.bind_some, Option.bind_eq_bind, add_i, sub_i, mul_i, eql_i, neq_i, lss_i, leq_i, gtr_i, geq_i, ofV, ofCell, ↓reduceIte, List.cons_append, List.nil_append, List.append_nil, List.getElem?_toArray, List.getElem?_cons_succ, List.getElem?_cons_zero, e_draw, g_nil, g_cons, g_want, g_skip, g_val, g_call, g_ret, Option.map_none, hl, CP, bq1, bq2, bq3, bq4, ex_tup]
      exact rfl, ?_⟩
  show P199_1 _ _
  exact ⟨by simp [hl], by simp [hl]⟩
theorem R199_8 (pe : Nat → Fr199 → ASt → Prop) (pr : Fr199 → ASt → Prop) : Ref Cb P199_0 (Cat [true, true, true, false, true, false, false, true, false, false] (bodyOf Tryz.f199)) m199_8 (post P199_1 pe pr) := by
  rintro s ⟨t, h⟩ hp x s' hm
  have hp : P199_0' s t h := hp
  obtain ⟨hl, _⟩ := hp
  unfold m199_8 at hm
  cases hm
  refine ⟨⟨_, _⟩, by
      simp only [bodyOf, Tryz.f199, Cat, Bool.false_eq_true, e_seq, e_region, e_cond, e_block, ex_skip, ex_exit, ex_ret, o_cons, xops_nil, k_want_none, k_want_false, k_val, k_pan, k_call, k_ret, k_seq, k_seq_exit, k_seq_ret, k_true, k_false, k_block, k_block_exit, k_block_ret, k_loop, k_loop_exit, k_loop_ret, awanted, aoper, evalO, put, Option.getD_some, List.getElem?_set, acallOp, abuiltin, List.map_cons, List.map_nil, Nat.reduceEqDiff, Nat.reduceLT, List.length_set, Option.map_some, Option.bind_some, Option.bind_eq_bind, add_i, sub_i, mul_i, eql_i, neq_i, lss_i, leq_i, gtr_i, geq_i, ofV, ofCell, ↓reduceIte, List.cons_append, List.nil_append, List.append_nil, List.getElem?_toArray, List.getElem?_cons_succ, List.getElem?_cons_zero, e_draw, g_nil, g_cons, g_want, g_skip, g_val, g_call, g_ret, Option.map_none, hl, CP, bq1, bq2, bq3, bq4, ex_tup]
      exact rfl, ?_⟩
  show P199_1 _ _
  exact ⟨by simp [hl], by simp [hl]⟩
theorem R199_9 (pe : Nat → Fr199 → ASt → Prop) (pr : Fr199 → ASt → Prop) : Ref Cb P199_8 (Cat [true, true, true, false, true, false, false, false] (bodyOf Tryz.f199)) m199_9 (post P199_7 pe pr) := by
  rintro s ⟨t, h⟩ hp x s' hm
  have hp : P199_8' s t h := hp
  obtain ⟨hl, a6⟩ := hp
  unfold m199_9 at hm
  cases hm
  refine ⟨⟨_, _⟩, by
      simp only [bodyOf, Tryz.f199, Cat, Bool.false_eq_true, e_seq, e_region, e_cond, e_block, ex_skip, ex_exit, ex_ret, o_cons, xops_nil, k_want_none, k_want_false, k_val, k_pan, k_call, k_ret, k_seq, k_seq_exit, k_seq_ret, k_true, k_false, k_block, k_block_exit, k_block_ret, k_loop, k_loop_exit, k_loop_ret, awanted, aoper, evalO, put, Option.getD_some, List.getElem?_set, acallOp, abuiltin, List.map_cons, List.map_nil, Nat.reduceEqDiff, Nat.reduceLT, List.length_set, Option.map_some, Option.bind_some, Option.bind_eq_bind, add_i, sub_i, mul_i, eql_i, neq_i, lss_i, leq_i, gtr_i, geq_i, ofV, ofCell, ↓reduceIte, List.cons_append, List.nil_append, List.append_nil, List.getElem?_toArray, List.getElem?_cons_succ, List.getElem?_cons_zero, e_draw, g_nil, g_cons, g_want, g_skip, g_val, g_call, g_ret, Option.map_none, hl, a6, CP, bq1, bq2, bq3, bq4, ex_tup]
      exact rfl, ?_⟩
  show P199_7 _ _
  exact ⟨by simp [hl], by simp [hl]⟩
theorem R199_10 (pe : Nat → Fr199 → ASt → Prop) (pr : Fr199 → ASt → Prop) : Ref Cb P199_10 (Cat [true, true, true, false, false] (bodyOf Tryz.f199)) m199_10 (post P199_9 pe pr) := by
  rintro s ⟨t, h⟩ hp x s' hm
  have hp : P199_10' s t h := hp
  obtain ⟨hl, a0, a1, a5, a6⟩ := hp
  unfold m199_10 at hm
  cases hm
  refine ⟨⟨_, _⟩, by
      simp only [bodyOf, Tryz.f199, Cat, Bool.false_eq_true, e_seq, e_region, e_cond, e_block, ex_skip, ex_exit, ex_ret, o_cons, xops_nil, k_want_none, k_want_false, k_val, k_pan, k_call, k_ret, k_seq, k_seq_exit, k_seq_ret, k_true, k_false, k_block, k_block_exit, k_block_ret, k_loop, k_loop_exit, k_loop_ret, awanted, aoper, evalO, put, Option.getD_some, List.getElem?_set, acallOp, abuiltin, List.map_cons, List.map_nil, Nat.reduceEqDiff, Nat.reduceLT, List.length_set, Option.map_some, Option.bind_some, Option.bind_eq_bind, add_i, sub_i, mul_i, eql_i, neq_i, lss_i, leq_i, gtr_i, geq_i, ofV, ofCell, ↓reduceIte, List.cons_append, List.nil_append, List.append_nil, List.getElem?_toArray, List.getElem?_cons_succ, List.getElem?_cons_zero, e_draw, g_nil, g_cons, g_want, g_skip, g_val, g_call, g_ret, Option.map_none, hl, a0, a1, a5, a6, CP, bq1, bq2, bq3, bq4, ex_tup]
      exact rfl, ?_⟩
  show P199_9 _ _
  exact ⟨by simp [hl], by simp [a0], by simp [a1], by simp [a6], by simp [hl]⟩
theorem R199_11 (pe : Nat → Fr199 → ASt → Prop) (pr : Fr199 → ASt → Prop) : Ref Cb P199_11 (Cat [true, true, false] (bodyOf Tryz.f199)) m199_11 (post P199_10 pe pr) := by
  rintro s ⟨t, h⟩ hp x s' hm
  have hp : P199_11' s t h := hp
  obtain ⟨hl, a0, a1, a5⟩ := hp
  unfold m199_11 at hm
  obtain ⟨z3, hz3, hm⟩ := Option.bind_eq_some_iff.1 hm
  have iu4 := G232_spec s.t1  _ hz3
  cases hm
  refine ⟨⟨_, _⟩, by
      simp only [bodyOf, Tryz.f199, Cat, Bool.false_eq_true, e_seq, e_region, e_cond, e_block, ex_skip, ex_exit, ex_ret, o_cons, xops_nil, k_want_none, k_want_false, k_val, k_pan, k_call, k_ret, k_seq, k_seq_exit, k_seq_ret, k_true, k_false, k_block, k_block_exit, k_block_ret, k_loop, k_loop_exit, k_loop_ret, awanted, aoper, evalO, put, Option.getD_some, List.getElem?_set, acallOp, abuiltin, List.map_cons, List.map_nil, Nat.reduceEqDiff, Nat.reduceLT, List.length_set, Option.map_some, Option.bind_some, Option.bind_eq_bind, add_i, sub_i, mul_i, eql_i, neq_i, lss_i, leq_i, gtr_i, geq_i, ofV, ofCell, ↓reduceIte, List.cons_append, List.nil_append, List.append_nil, List.getElem?_toArray, List.getElem?_cons_succ, List.getElem?_cons_zero, e_draw, g_nil, g_cons, g_want, g_skip, g_val, g_call, g_ret, Option.map_none, hl, a0, a1, a5, CP, bq1, bq2, bq3, bq4, ex_tup, iu4]
      exact rfl, ?_⟩
  show P199_10 _ _
  exact ⟨by simp [hl], by simp [a0], by simp [a1], by simp [a5], by simp [hl]⟩
theorem R199_12 (pe : Nat → Fr199 → ASt → Prop) (pr : Fr199 → ASt → Prop) : Ref Cb P199_3 (Cat [true, false] (bodyOf Tryz.f199)) m199_12 (post P199_11 pe pr) := by
  rintro s ⟨t, h⟩ hp x s' hm
  have hp : P199_3' s t h := hp
  obtain ⟨hl, a0, a1⟩ := hp
  unfold m199_12 at hm
  obtain ⟨z7, hz7, hm⟩ := Option.bind_eq_some_iff.1 hm
  have iu8 := G232_spec s.t0  _ hz7
  cases hm
  refine ⟨⟨_, _⟩, by
      simp only [bodyOf, Tryz.f199, Cat, Bool.false_eq_true, e_seq, e_region, e_cond, e_block, ex_skip, ex_exit, ex_ret, o_cons, xops_nil, k_want_none, k_want_false, k_val, k_pan, k_call, k_ret, k_seq, k_seq_exit, k_seq_ret, k_true, k_false, k_block, k_block_exit, k_block_ret, k_loop, k_loop_exit, k_loop_ret, awanted, aoper, evalO, put, Option.getD_some, List.getElem?_set, acallOp, abuiltin, List.map_cons, List.map_nil, Nat.reduceEqDiff, Nat.reduceLT, List.length_set, Option.map_some, Option.bind_some, Option.bind_eq_bind, add_i, sub_i, mul_i, eql_i, neq_i, lss_i, leq_i, gtr_i, geq_i, ofV, ofCell, ↓reduceIte, List.cons_append, List.nil_append, List.append_nil, List.getElem?_toArray, List.getElem?_cons_succ, List.getElem?_cons_zero, e_draw, g_nil, g_cons, g_want, g_skip, g_val, g_call, g_ret, Option.map_none, hl, a0, a1, CP, bq1, bq2, bq3, bq4, ex_tup, iu8]
      exact rfl, ?_⟩
  show P199_11 _ _
  exact ⟨by simp [hl], by simp [a0], by simp [a1], by simp [hl]⟩
theorem R199_13 (pe : Nat → Fr199 → ASt → Prop) (pr : Fr199 → ASt → Prop) : Ref Cb P199_3 (Cat [false] (bodyOf Tryz.f199)) m199_13 (post P199_3 pe pr) := by
  rintro s ⟨t, h⟩ hp x s' hm
  have hp : P199_3' s t h := hp
  obtain ⟨hl, a0, a1⟩ := hp
  unfold m199_13 at hm
  cases hm
  refine ⟨⟨_, _⟩, by
      simp only [bodyOf, Tryz.f199, Cat, Bool.false_eq_true, e_seq, e_region, e_cond, e_block, ex_skip, ex_exit, ex_ret, o_cons, xops_nil, k_want_none, k_want_false, k_val, k_pan, k_call, k_ret, k_seq, k_seq_exit, k_seq_ret, k_true, k_false, k_block, k_block_exit, k_block_ret, k_loop, k_loop_exit, k_loop_ret, awanted, aoper, evalO, put, Option.getD_some, List.getElem?_set, acallOp, abuiltin, List.map_cons, List.map_nil, Nat.reduceEqDiff, Nat.reduceLT, List.length_set, Option.map_some, Option.bind_some, Option.bind_eq_bind, add_i, sub_i, mul_i, eql_i, neq_i, lss_i, leq_i, gtr_i, geq_i, ofV, ofCell, ↓reduceIte, List.cons_append, List.nil_append, List.append_nil, List.getElem?_toArray, List.getElem?_cons_succ, List.getElem?_cons_zero, e_draw, g_nil, g_cons, g_want, g_skip, g_val, g_call, g_ret, Option.map_none, hl, a0, a1, CP, bq1, bq2, bq3, bq4, ex_tup]
      exact rfl, ?_⟩
  show P199_3 _ _
  exact ⟨by simp [hl], by simp [a0], by simp [a1]⟩
theorem B199 : Ref Cb P199_3 (bodyOf Tryz.f199) (M199) (post P199_1 (fun _ _ _ => False) P199_1) := by
  rw [show bodyOf Tryz.f199 = .seq (Cat [false] (bodyOf Tryz.f199)) (.seq (Cat [true, false] (bodyOf Tryz.f199)) (.seq (Cat [true, true, false] (bodyOf Tryz.f199)) (.seq (.seq (Cat [true, true, true, false, false] (bodyOf Tryz.f199)) (.cond (.tmp 11) (.seq (.seq (Cat [true, true, true, false, true, false, false, false] (bodyOf Tryz.f199)) (.cond (.tmp 12) (.seq (Cat [true, true, true, false, true, false, false, true, false, false] (bodyOf Tryz.f199)) (.ret)) (.skip))) (.seq (Cat [true, true, true, false, true, false, true, false] (bodyOf Tryz.f199)) (.ret))) (.skip))) (.seq (.seq (Cat [true, true, true, true, false, false] (bodyOf Tryz.f199)) (.cond (.tmp 13) (.seq (Cat [true, true, true, true, false, true, false, false] (bodyOf Tryz.f199)) (.ret)) (.skip))) (.seq (.seq (Cat [true, true, true, true, true, false, false] (bodyOf Tryz.f199)) (.cond (.tmp 16) (.seq (Cat [true, true, true, true, true, false, true, false, false] (bodyOf Tryz.f199)) (.ret)) (.skip))) (.seq (.seq (Cat [true, true, true, true, true, true, false, false] (bodyOf Tryz.f199)) (.cond (.tmp 19) (.seq (Cat [true, true, true, true, true, true, false, true, false, false] (bodyOf Tryz.f199)) (.ret)) (.skip))) (.seq (Cat [true, true, true, true, true, true, true, false] (bodyOf Tryz.f199)) (.ret)))))))) from rfl]
  unfold M199
  exact ref_seq (M := P199_3) (R199_13 _ _) (ref_seq (M := P199_11) (R199_12 _ _) (ref_seq (M := P199_10) (R199_11 _ _) (ref_seq (M := P199_6) (ref_seq (M := P199_9) (R199_10 _ _) (ref_cond (P := P199_9) (c := fun s => s.t11) (fun s st hp => by obtain ⟨hl, a0, a1, a6, a11⟩ := (hp : P199_9' s st.tmps st.h); simp only [evalO, a11, Option.getD_some]) (ref_weak (P' := P199_8) (fun s st hp => by obtain ⟨hl, a0, a1, a6, a11⟩ := (hp : P199_9' s st.tmps st.h); exact (⟨hl, a6⟩ : P199_8' s st.tmps st.h)) (ref_seq (M := P199_0) (ref_seq (M := P199_7) (R199_9 _ _) (ref_cond (P := P199_7) (c := fun s => s.t12) (fun s st hp => by obtain ⟨hl, a12⟩ := (hp : P199_7' s st.tmps st.h); simp only [evalO, a12, Option.getD_some]) (ref_weak (P' := P199_0) (fun s st hp => by obtain ⟨hl, a12⟩ := (hp : P199_7' s st.tmps st.h); exact (⟨hl, trivial⟩ : P199_0' s st.tmps st.h)) (ref_seq (M := P199_1) (R199_8 _ _) (ref_ret (fun s st hp => hp)))) (ref_weak (P' := P199_0) (fun s st hp => by obtain ⟨hl, a12⟩ := (hp : P199_7' s st.tmps st.h); exact (⟨hl, trivial⟩ : P199_0' s st.tmps st.h)) (ref_skip (fun s st hp => hp))))) (ref_seq (M := P199_1) (R199_7 _ _) (ref_ret (fun s st hp => hp))))) (ref_weak (P' := P199_6) (fun s st hp => by obtain ⟨hl, a0, a1, a6, a11⟩ := (hp : P199_9' s st.tmps st.h); exact (⟨hl, a0, a1, a6⟩ : P199_6' s st.tmps st.h)) (ref_skip (fun s st hp => hp))))) (ref_seq (M := P199_3) (ref_seq (M := P199_5) (R199_6 _ _) (ref_cond (P := P199_5) (c := fun s => s.t13) (fun s st hp => by obtain ⟨hl, a0, a1, a13⟩ := (hp : P199_5' s st.tmps st.h); simp only [evalO, a13, Option.getD_some]) (ref_weak (P' := P199_0) (fun s st hp => by obtain ⟨hl, a0, a1, a13⟩ := (hp : P199_5' s st.tmps st.h); exact (⟨hl, trivial⟩ : P199_0' s st.tmps st.h)) (ref_seq (M := P199_1) (R199_5 _ _) (ref_ret (fun s st hp => hp)))) (ref_weak (P' := P199_3) (fun s st hp => by obtain ⟨hl, a0, a1, a13⟩ := (hp : P199_5' s st.tmps st.h); exact (⟨hl, a0, a1⟩ : P199_3' s st.tmps st.h)) (ref_skip (fun s st hp => hp))))) (ref_seq (M := P199_3) (ref_seq (M := P199_4) (R199_4 _ _) (ref_cond (P := P199_4) (c := fun s => s.t16) (fun s st hp => by obtain ⟨hl, a0, a1, a16⟩ := (hp : P199_4' s st.tmps st.h); simp only [evalO, a16, Option.getD_some]) (ref_weak (P' := P199_0) (fun s st hp => by obtain ⟨hl, a0, a1, a16⟩ := (hp : P199_4' s st.tmps st.h); exact (⟨hl, trivial⟩ : P199_0' s st.tmps st.h)) (ref_seq (M := P199_1) (R199_3 _ _) (ref_ret (fun s st hp => hp)))) (ref_weak (P' := P199_3) (fun s st hp => by obtain ⟨hl, a0, a1, a16⟩ := (hp : P199_4' s st.tmps st.h); exact (⟨hl, a0, a1⟩ : P199_3' s st.tmps st.h)) (ref_skip (fun s st hp => hp))))) (ref_seq (M := P199_0) (ref_seq (M := P199_2) (R199_2 _ _) (ref_cond (P := P199_2) (c := fun s => s.t19) (fun s st hp => by obtain ⟨hl, a19⟩ := (hp : P199_2' s st.tmps st.h); simp only [evalO, a19, Option.getD_some]) (ref_weak (P' := P199_0) (fun s st hp => by obtain ⟨hl, a19⟩ := (hp : P199_2' s st.tmps st.h); exact (⟨hl, trivial⟩ : P199_0' s st.tmps st.h)) (ref_seq (M := P199_1) (R199_1 _ _) (ref_ret (fun s st hp => hp)))) (ref_weak (P' := P199_0) (fun s st hp => by obtain ⟨hl, a19⟩ := (hp : P199_2' s st.tmps st.h); exact (⟨hl, trivial⟩ : P199_0' s st.tmps st.h)) (ref_skip (fun s st hp => hp))))) (ref_seq (M := P199_1) (R199_0 _ _) (ref_ret (fun s st hp => hp)))))))))
noncomputable def G199 (x0 : (List UInt8)) (x1 : (List UInt8)) : Option Int := match M199 { (default : Fr199) with t0 := x0, t1 := x1 } with
  | some (.nrm, s) => some s.t4
  | some (.ret, s) => some s.t4
  | _ => none
theorem G199_spec : Spec199 (G199) := by
  intro x0 x1 r hr
  unfold G199 at hr
  cases hm : M199 { (default : Fr199) with t0 := x0, t1 := x1 } with
  | none => rw [hm] at hr; cases hr
  | some q =>
    obtain ⟨x, s⟩ := q
    rw [hm] at hr
    have hx : x = .nrm ∨ x = .ret := by cases x <;> first | exact .inl rfl | exact .inr rfl | cases hr
    have hr : s.t4 = r := by cases x <;> first | exact Option.some.inj hr | cases hr
    subst hr
    have hp0 : P199_3' ({ (default : Fr199) with t0 := x0, t1 := x1 }) (slots Tryz.f199 (stripL [.str x0, .str x1])) bare := ⟨rfl, rfl, rfl⟩
    obtain ⟨v, hR, hrun⟩ := run_of_ref (C := Cb) (f := 199) (fn := Tryz.f199) Tryz.func199 rfl rfl rfl rfl (args := [.str x0, .str x1]) (by simp only [refsL, refs, List.append_nil]) (B199) (s0 := { (default : Fr199) with t0 := x0, t1 := x1 }) hp0 hm hx (R := fun v => v = .int .i64 s.t4) (by
      have key : ∀ st : ASt, P199_1 s st → ∃ vs v, aresults Cb Tryz.f199.results.toList st = some vs ∧ Nrm [] st.h (packRes vs) v ∧ (fun v => v = .int .i64 s.t4) v := by
        intro st hp
        obtain ⟨hl, a4⟩ := (hp : P199_1' s st.tmps st.h)
        exact ⟨[.int .i64 s.t4], _, by simp only [show Tryz.f199.results.toList = [ResultVar.tmp 4] from rfl, aresults, ares1, CP, a4, Option.getD_some], (Nrm.of (w := .int .i64 s.t4) (by simp only [refsL, refs, List.append_nil])), rfl⟩
      intro st hq
      rcases hx with rfl | rfl
      · exact key st hq
      · exact key st hq)
    subst hR
    exact hrun
/-! ### caisson/bind.says -/
structure Fr197 where
  t0 : Int
  t1 : Int
  t4 : Bool
  t5 : Int
  t6 : Bool
  t10 : Bool
  t14 : Bool
  t18 : Bool
  t22 : Bool
  t26 : Bool
instance : Inhabited Fr197 := ⟨⟨0, 0, false, 0, false, false, false, false, false, false⟩⟩
def P197_0' (s : Fr197) (t : List AVal) (h : AHeap) : Prop := t.length = 30 ∧ True
def P197_0 (s : Fr197) (st : ASt) : Prop := P197_0' s st.tmps st.h
def P197_1' (s : Fr197) (t : List AVal) (h : AHeap) : Prop := t.length = 30 ∧ t[4]? = some (.bool s.t4)
def P197_1 (s : Fr197) (st : ASt) : Prop := P197_1' s st.tmps st.h
def P197_2' (s : Fr197) (t : List AVal) (h : AHeap) : Prop := t.length = 30 ∧ t[1]? = some (.int .i64 s.t1)
def P197_2 (s : Fr197) (st : ASt) : Prop := P197_2' s st.tmps st.h
def P197_3' (s : Fr197) (t : List AVal) (h : AHeap) : Prop := t.length = 30 ∧ t[1]? = some (.int .i64 s.t1) ∧ t[26]? = some (.bool s.t26)
def P197_3 (s : Fr197) (st : ASt) : Prop := P197_3' s st.tmps st.h
def P197_4' (s : Fr197) (t : List AVal) (h : AHeap) : Prop := t.length = 30 ∧ t[1]? = some (.int .i64 s.t1) ∧ t[5]? = some (.int .i64 s.t5)
def P197_4 (s : Fr197) (st : ASt) : Prop := P197_4' s st.tmps st.h
def P197_5' (s : Fr197) (t : List AVal) (h : AHeap) : Prop := t.length = 30 ∧ t[1]? = some (.int .i64 s.t1) ∧ t[5]? = some (.int .i64 s.t5) ∧ t[22]? = some (.bool s.t22)
def P197_5 (s : Fr197) (st : ASt) : Prop := P197_5' s st.tmps st.h
def P197_6' (s : Fr197) (t : List AVal) (h : AHeap) : Prop := t.length = 30 ∧ t[1]? = some (.int .i64 s.t1) ∧ t[5]? = some (.int .i64 s.t5) ∧ t[18]? = some (.bool s.t18)
def P197_6 (s : Fr197) (st : ASt) : Prop := P197_6' s st.tmps st.h
def P197_7' (s : Fr197) (t : List AVal) (h : AHeap) : Prop := t.length = 30 ∧ t[1]? = some (.int .i64 s.t1) ∧ t[5]? = some (.int .i64 s.t5) ∧ t[14]? = some (.bool s.t14)
def P197_7 (s : Fr197) (st : ASt) : Prop := P197_7' s st.tmps st.h
def P197_8' (s : Fr197) (t : List AVal) (h : AHeap) : Prop := t.length = 30 ∧ t[1]? = some (.int .i64 s.t1) ∧ t[5]? = some (.int .i64 s.t5) ∧ t[10]? = some (.bool s.t10)
def P197_8 (s : Fr197) (st : ASt) : Prop := P197_8' s st.tmps st.h
def P197_9' (s : Fr197) (t : List AVal) (h : AHeap) : Prop := t.length = 30 ∧ t[1]? = some (.int .i64 s.t1) ∧ t[5]? = some (.int .i64 s.t5) ∧ t[6]? = some (.bool s.t6)
def P197_9 (s : Fr197) (st : ASt) : Prop := P197_9' s st.tmps st.h
def P197_10' (s : Fr197) (t : List AVal) (h : AHeap) : Prop := t.length = 30 ∧ t[0]? = some (.int .i64 s.t0) ∧ t[1]? = some (.int .i64 s.t1)
def P197_10 (s : Fr197) (st : ASt) : Prop := P197_10' s st.tmps st.h
noncomputable def m197_0 : Mo Fr197 := fun s => some (.nrm, { s with t4 := false })
noncomputable def m197_1 : Mo Fr197 := fun s => some (.nrm, { s with t4 := (s.t1 == 0) })
noncomputable def m197_2 : Mo Fr197 := fun s => some (.nrm, { s with t4 := (s.t1 != 0) })
noncomputable def m197_3 : Mo Fr197 := fun s => some (.nrm, { s with t4 := decide (s.t1 < 0) })
noncomputable def m197_4 : Mo Fr197 := fun s => some (.nrm, { s with t4 := decide (s.t1 ≤ 0) })
noncomputable def m197_5 : Mo Fr197 := fun s => some (.nrm, { s with t4 := decide (s.t1 > 0) })
noncomputable def m197_6 : Mo Fr197 := fun s => some (.nrm, { s with t4 := decide (s.t1 ≥ 0) })
noncomputable def m197_7 : Mo Fr197 := fun s => some (.nrm, { s with t26 := (s.t5 == 6) })
noncomputable def m197_8 : Mo Fr197 := fun s => some (.nrm, { s with t22 := (s.t5 == 5) })
noncomputable def m197_9 : Mo Fr197 := fun s => some (.nrm, { s with t18 := (s.t5 == 4) })
noncomputable def m197_10 : Mo Fr197 := fun s => some (.nrm, { s with t14 := (s.t5 == 3) })
noncomputable def m197_11 : Mo Fr197 := fun s => some (.nrm, { s with t10 := (s.t5 == 2) })
noncomputable def m197_12 : Mo Fr197 := fun s => some (.nrm, { s with t6 := (s.t5 == 1) })
noncomputable def m197_13 : Mo Fr197 := fun s => some (.nrm, { s with t5 := s.t0 })
noncomputable def m197_14 : Mo Fr197 := fun s => some (.nrm, s)
noncomputable def M197 : Mo Fr197 := seqM (m197_14) (seqM (seqM (m197_13) (blockM 0 (seqM (m197_12) (condM (fun s => s.t6) (seqM (m197_1) (retM)) (seqM (m197_11) (condM (fun s => s.t10) (seqM (m197_2) (retM)) (seqM (m197_10) (condM (fun s => s.t14) (seqM (m197_3) (retM)) (seqM (m197_9) (condM (fun s => s.t18) (seqM (m197_4) (retM)) (seqM (m197_8) (condM (fun s => s.t22) (seqM (m197_5) (retM)) (seqM (m197_7) (condM (fun s => s.t26) (seqM (m197_6) (retM)) (skipM))))))))))))))) (seqM (m197_0) (retM)))
def Spec197 (f : Int → Int → Option Bool) : Prop := ∀ (x0 : Int) (x1 : Int) (r : Bool), f x0 x1 = some r → ∀ h, run Cb 197 [.int .i64 x0, .int .i64 x1] h = some (.ret (.bool r), h)
theorem Spec197_of {f g : Int → Int → Option Bool} (hg : Spec197 g) (h : ∀ x0 x1 r, f x0 x1 = some r → g x0 x1 = some r) : Spec197 f := fun x0 x1 r hr => hg x0 x1 r (h x0 x1 r hr)
theorem R197_0 (pe : Nat → Fr197 → ASt → Prop) (pr : Fr197 → ASt → Prop) : Ref Cb P197_0 (Cat [true, true, false] (bodyOf Tryz.f197)) m197_0 (post P197_1 pe pr) := by
  rintro s ⟨t, h⟩ hp x s' hm
  have hp : P197_0' s t h := hp
  obtain ⟨hl, _⟩ := hp
  unfold m197_0 at hm
  cases hm
  refine ⟨⟨_, _⟩, by
      simp only [bodyOf, Tryz.f197, Cat, Bool.false_eq_true, e_seq, e_region, e_cond, e_block, ex_skip, ex_exit, ex_ret, o_cons, xops_nil, k_want_none, k_want_false, k_val, k_pan, k_call, k_ret, k_seq, k_seq_exit, k_seq_ret, k_true, k_false, k_block, k_block_exit, k_block_ret, k_loop, k_loop_exit, k_loop_ret, awanted, aoper, evalO, put, Option.getD_some, List.getElem?_set, acallOp, abuiltin, List.map_cons, List.map_nil, Nat.reduceEqDiff, Nat.reduceLT, List.length_set, Option.map_some, Option.bind_some, Option.bind_eq_bind, add_i, sub_i, mul_i, eql_i, neq_i, lss_i, leq_i, gtr_i, geq_i, ofV, ofCell, ↓reduceIte, List.cons_append, List.nil_append, List.append_nil, List.getElem?_toArray, List.getElem?_cons_succ, List.getElem?_cons_zero, e_draw, g_nil, g_cons, g_want, g_skip, g_val, g_call, g_ret, Option.map_none, hl, CP, bq1, bq2, bq3, bq4, ex_tup]
      exact rfl, ?_⟩
  show P197_1 _ _
  exact ⟨by simp [hl], by simp [hl]⟩
theorem R197_1 (pe : Nat → Fr197 → ASt → Prop) (pr : Fr197 → ASt → Prop) : Ref Cb P197_2 (Cat [true, false, true, true, true, false, false] (bodyOf Tryz.f197)) m197_1 (post P197_1 pe pr) := by
  rintro s ⟨t, h⟩ hp x s' hm
  have hp : P197_2' s t h := hp
  obtain ⟨hl, a1⟩ := hp
  unfold m197_1 at hm
  cases hm
  refine ⟨⟨_, _⟩, by
      simp only [bodyOf, Tryz.f197, Cat, Bool.false_eq_true, e_seq, e_region, e_cond, e_block, ex_skip, ex_exit, ex_ret, o_cons, xops_nil, k_want_none, k_want_false, k_val, k_pan, k_call, k_ret, k_seq, k_seq_exit, k_seq_ret, k_true, k_false, k_block, k_block_exit, k_block_ret, k_loop, k_loop_exit, k_loop_ret, awanted, aoper, evalO, put, Option.getD_some, List.getElem?_set, acallOp, abuiltin, List.map_cons, List.map_nil, Nat.reduceEqDiff, Nat.reduceLT, List.length_set, Option.map_some, Option.bind_some, Option.bind_eq_bind, add_i, sub_i, mul_i, eql_i, neq_i, lss_i, leq_i, gtr_i, geq_i, ofV, ofCell, ↓reduceIte, List.cons_append, List.nil_append, List.append_nil, List.getElem?_toArray, List.getElem?_cons_succ, List.getElem?_cons_zero, e_draw, g_nil, g_cons, g_want, g_skip, g_val, g_call, g_ret, Option.map_none, hl, a1, CP, bq1, bq2, bq3, bq4, ex_tup]
      exact rfl, ?_⟩
  show P197_1 _ _
  exact ⟨by simp [hl], by simp [hl]⟩
theorem R197_2 (pe : Nat → Fr197 → ASt → Prop) (pr : Fr197 → ASt → Prop) : Ref Cb P197_2 (Cat [true, false, true, true, true, true, true, false, false] (bodyOf Tryz.f197)) m197_2 (post P197_1 pe pr) := by
  rintro s ⟨t, h⟩ hp x s' hm
  have hp : P197_2' s t h := hp
  obtain ⟨hl, a1⟩ := hp
  unfold m197_2 at hm
  cases hm
  refine ⟨⟨_, _⟩, by
      simp only [bodyOf, Tryz.f197, Cat, Bool.false_eq_true, e_seq, e_region, e_cond, e_block, ex_skip, ex_exit, ex_ret, o_cons, xops_nil, k_want_none, k_want_false, k_val, k_pan, k_call, k_ret, k_seq, k_seq_exit, k_seq_ret, k_true, k_false, k_block, k_block_exit, k_block_ret, k_loop, k_loop_exit, k_loop_ret, awanted, aoper, evalO, put, Option.getD_some, List.getElem?_set, acallOp, abuiltin, List.map_cons, List.map_nil, Nat.reduceEqDiff, Nat.reduceLT, List.length_set, Option.map_some, Option.bind_some, Option.bind_eq_bind, add_i, sub_i, mul_i, eql_i, neq_i, lss_i, leq_i, gtr_i, geq_i, ofV, ofCell, ↓reduceIte, List.cons_append, List.nil_append, List.append_nil, List.getElem?_toArray, List.getElem?_cons_succ, List.getElem?_cons_zero, e_draw, g_nil, g_cons, g_want, g_skip, g_val, g_call, g_ret, Option.map_none, hl, a1, CP, bq1, bq2, bq3, bq4, ex_tup]
      exact rfl, ?_⟩
  show P197_1 _ _
  exact ⟨by simp [hl], by simp [hl]⟩
theorem R197_3 (pe : Nat → Fr197 → ASt → Prop) (pr : Fr197 → ASt → Prop) : Ref Cb P197_2 (Cat [true, false, true, true, true, true, true, true, true, false, false] (bodyOf Tryz.f197)) m197_3 (post P197_1 pe pr) := by
  rintro s ⟨t, h⟩ hp x s' hm
  have hp : P197_2' s t h := hp
  obtain ⟨hl, a1⟩ := hp
  unfold m197_3 at hm
  cases hm
  refine ⟨⟨_, _⟩, by
      simp only [bodyOf, Tryz.f197, Cat, Bool.false_eq_true, e_seq, e_region, e_cond, e_block, ex_skip, ex_exit, ex_ret, o_cons, xops_nil, k_want_none, k_want_false, k_val, k_pan, k_call, k_ret, k_seq, k_seq_exit, k_seq_ret, k_true, k_false, k_block, k_block_exit, k_block_ret, k_loop, k_loop_exit, k_loop_ret, awanted, aoper, evalO, put, Option.getD_some, List.getElem?_set, acallOp, abuiltin, List.map_cons, List.map_nil, Nat.reduceEqDiff, Nat.reduceLT, List.length_set, Option.map_some, Option.bind_some, Option.bind_eq_bind, add_i, sub_i, mul_i, eql_i, neq_i, lss_i, leq_i, gtr_i, geq_i, ofV, ofCell, ↓reduceIte, List.cons_append, List.nil_append, List.append_nil, List.getElem?_toArray, List.getElem?_cons_succ, List.getElem?_cons_zero, e_draw, g_nil, g_cons, g_want, g_skip, g_val, g_call, g_ret, Option.map_none, hl, a1, CP, bq1, bq2, bq3, bq4, ex_tup]
      exact rfl, ?_⟩
  show P197_1 _ _
  exact ⟨by simp [hl], by simp [hl]⟩
theorem R197_4 (pe : Nat → Fr197 → ASt → Prop) (pr : Fr197 → ASt → Prop) : Ref Cb P197_2 (Cat [true, false, true, true, true, true, true, true, true, true, true, false, false] (bodyOf Tryz.f197)) m197_4 (post P197_1 pe pr) := by
  rintro s ⟨t, h⟩ hp x s' hm
  have hp : P197_2' s t h := hp
  obtain ⟨hl, a1⟩ := hp
  unfold m197_4 at hm
  cases hm
  refine ⟨⟨_, _⟩, by
      simp only [bodyOf, Tryz.f197, Cat, Bool.false_eq_true, e_seq, e_region, e_cond, e_block, ex_skip, ex_exit, ex_ret, o_cons, xops_nil, k_want_none, k_want_false, k_val, k_pan, k_call, k_ret, k_seq, k_seq_exit, k_seq_ret, k_true, k_false, k_block, k_block_exit, k_block_ret, k_loop, k_loop_exit, k_loop_ret, awanted, aoper, evalO, put, Option.getD_some, List.getElem?_set, acallOp, abuiltin, List.map_cons, List.map_nil, Nat.reduceEqDiff, Nat.reduceLT, List.length_set, Option.map_some, Option.bind_some, Option.bind_eq_bind, add_i, sub_i, mul_i, eql_i, neq_i, lss_i, leq_i, gtr_i, geq_i, ofV, ofCell, ↓reduceIte, List.cons_append, List.nil_append, List.append_nil, List.getElem?_toArray, List.getElem?_cons_succ, List.getElem?_cons_zero, e_draw, g_nil, g_cons, g_want, g_skip, g_val, g_call, g_ret, Option.map_none, hl, a1, CP, bq1, bq2, bq3, bq4, ex_tup]
      exact rfl, ?_⟩
  show P197_1 _ _
  exact ⟨by simp [hl], by simp [hl]⟩
theorem R197_5 (pe : Nat → Fr197 → ASt → Prop) (pr : Fr197 → ASt → Prop) : Ref Cb P197_2 (Cat [true, false, true, true, true, true, true, true, true, true, true, true, true, false, false] (bodyOf Tryz.f197)) m197_5 (post P197_1 pe pr) := by
  rintro s ⟨t, h⟩ hp x s' hm
  have hp : P197_2' s t h := hp
  obtain ⟨hl, a1⟩ := hp
  unfold m197_5 at hm
  cases hm
  refine ⟨⟨_, _⟩, by
      simp only [bodyOf, Tryz.f197, Cat, Bool.false_eq_true, e_seq, e_region, e_cond, e_block, ex_skip, ex_exit, ex_ret, o_cons, xops_nil, k_want_none, k_want_false, k_val, k_pan, k_call, k_ret, k_seq, k_seq_exit, k_seq_ret, k_true, k_false, k_block, k_block_exit, k_block_ret, k_loop, k_loop_exit, k_loop_ret, awanted, aoper, evalO, put, Option.getD_some, List.getElem?_set, acallOp, abuiltin, List.map_cons, List.map_nil, Nat.reduceEqDiff, Nat.reduceLT, List.length_set, Option.map_some, Option.bind_some, Option.bind_eq_bind, add_i, sub_i, mul_i, eql_i, neq_i, lss_i, leq_i, gtr_i, geq_i, ofV, ofCell, ↓reduceIte, List.cons_append, List.nil_append, List.append_nil, List.getElem?_toArray, List.getElem?_cons_succ, List.getElem?_cons_zero, e_draw, g_nil, g_cons, g_want, g_skip, g_val, g_call, g_ret, Option.map_none, hl, a1, CP, bq1, bq2, bq3, bq4, ex_tup]
      exact rfl, ?_⟩
  show P197_1 _ _
  exact ⟨by simp [hl], by simp [hl]⟩
theorem R197_6 (pe : Nat → Fr197 → ASt → Prop) (pr : Fr197 → ASt → Prop) : Ref Cb P197_2 (Cat [true, false, true, true, true, true, true, true, true, true, true, true, true, true, true, false, false] (bodyOf Tryz.f197)) m197_6 (post P197_1 pe pr) := by
  rintro s ⟨t, h⟩ hp x s' hm
  have hp : P197_2' s t h := hp
  obtain ⟨hl, a1⟩ := hp
  unfold m197_6 at hm
  cases hm
  refine ⟨⟨_, _⟩, by
      simp only [bodyOf, Tryz.f197, Cat, Bool.false_eq_true, e_seq, e_region, e_cond, e_block, ex_skip, ex_exit, ex_ret, o_cons, xops_nil, k_want_none, k_want_false, k_val, k_pan, k_call, k_ret, k_seq, k_seq_exit, k_seq_ret, k_true, k_false, k_block, k_block_exit, k_block_ret, k_loop, k_loop_exit, k_loop_ret, awanted, aoper, evalO, put, Option.getD_some, List.getElem?_set, acallOp, abuiltin, List.map_cons, List.map_nil, Nat.reduceEqDiff, Nat.reduceLT, List.length_set, Option.map_some, Option.bind_some, Option.bind_eq_bind, add_i, sub_i, mul_i, eql_i, neq_i, lss_i, leq_i, gtr_i, geq_i, ofV, ofCell, ↓reduceIte, List.cons_append, List.nil_append, List.append_nil, List.getElem?_toArray, List.getElem?_cons_succ, List.getElem?_cons_zero, e_draw, g_nil, g_cons, g_want, g_skip, g_val, g_call, g_ret, Option.map_none, hl, a1, CP, bq1, bq2, bq3, bq4, ex_tup]
      exact rfl, ?_⟩
  show P197_1 _ _
  exact ⟨by simp [hl], by simp [hl]⟩
theorem R197_7 (pe : Nat → Fr197 → ASt → Prop) (pr : Fr197 → ASt → Prop) : Ref Cb P197_4 (Cat [true, false, true, true, true, true, true, true, true, true, true, true, true, true, false] (bodyOf Tryz.f197)) m197_7 (post P197_3 pe pr) := by
  rintro s ⟨t, h⟩ hp x s' hm
  have hp : P197_4' s t h := hp
  obtain ⟨hl, a1, a5⟩ := hp
  unfold m197_7 at hm
  cases hm
  refine ⟨⟨_, _⟩, by
      simp only [bodyOf, Tryz.f197, Cat, Bool.false_eq_true, e_seq, e_region, e_cond, e_block, ex_skip, ex_exit, ex_ret, o_cons, xops_nil, k_want_none, k_want_false, k_val, k_pan, k_call, k_ret, k_seq, k_seq_exit, k_seq_ret, k_true, k_false, k_block, k_block_exit, k_block_ret, k_loop, k_loop_exit, k_loop_ret, awanted, aoper, evalO, put, Option.getD_some, List.getElem?_set, acallOp, abuiltin, List.map_cons, List.map_nil, Nat.reduceEqDiff, Nat.reduceLT, List.length_set, Option.map_some, Option.bind_some, Option.bind_eq_bind, add_i, sub_i, mul_i, eql_i, neq_i, lss_i, leq_i, gtr_i, geq_i, ofV, ofCell, ↓reduceIte, List.cons_append, List.nil_append, List.append_nil, List.getElem?_toArray, List.getElem?_cons_succ, List.getElem?_cons_zero, e_draw, g_nil, g_cons, g_want, g_skip, g_val, g_call, g_ret, Option.map_none, hl, a1, a5, CP, bq1, bq2, bq3, bq4, ex_tup]
      exact rfl, ?_⟩
  show P197_3 _ _
  exact ⟨by simp [hl], by simp [a1], by simp [hl]⟩
theorem R197_8 (pe : Nat → Fr197 → ASt → Prop) (pr : Fr197 → ASt → Prop) : Ref Cb P197_4 (Cat [true, false, true, true, true, true, true, true, true, true, true, true, false] (bodyOf Tryz.f197)) m197_8 (post P197_5 pe pr) := by
  rintro s ⟨t, h⟩ hp x s' hm
  have hp : P197_4' s t h := hp
  obtain ⟨hl, a1, a5⟩ := hp
  unfold m197_8 at hm
  cases hm
  refine ⟨⟨_, _⟩, by
      simp only [bodyOf, Tryz.f197, Cat, Bool.false_eq_true, e_seq, e_region, e_cond, e_block, ex_skip, ex_exit, ex_ret, o_cons, xops_nil, k_want_none, k_want_false, k_val, k_pan, k_call, k_ret, k_seq, k_seq_exit, k_seq_ret, k_true, k_false, k_block, k_block_exit, k_block_ret, k_loop, k_loop_exit, k_loop_ret, awanted, aoper, evalO, put, Option.getD_some, List.getElem?_set, acallOp, abuiltin, List.map_cons, List.map_nil, Nat.reduceEqDiff, Nat.reduceLT, List.length_set, Option.map_some, Option.bind_some, Option.bind_eq_bind, add_i, sub_i, mul_i, eql_i, neq_i, lss_i, leq_i, gtr_i, geq_i, ofV, ofCell, ↓reduceIte, List.cons_append, List.nil_append, List.append_nil, List.getElem?_toArray, List.getElem?_cons_succ, List.getElem?_cons_zero, e_draw, g_nil, g_cons, g_want, g_skip, g_val, g_call, g_ret, Option.map_none, hl, a1, a5, CP, bq1, bq2, bq3, bq4, ex_tup]
      exact rfl, ?_⟩
  show P197_5 _ _
  exact ⟨by simp [hl], by simp [a1], by simp [a5], by simp [hl]⟩
theorem R197_9 (pe : Nat → Fr197 → ASt → Prop) (pr : Fr197 → ASt → Prop) : Ref Cb P197_4 (Cat [true, false, true, true, true, true, true, true, true, true, false] (bodyOf Tryz.f197)) m197_9 (post P197_6 pe pr) := by
  rintro s ⟨t, h⟩ hp x s' hm
  have hp : P197_4' s t h := hp
  obtain ⟨hl, a1, a5⟩ := hp
  unfold m197_9 at hm
  cases hm
  refine ⟨⟨_, _⟩, by
      simp only [bodyOf, Tryz.f197, Cat, Bool.false_eq_true, e_seq, e_region, e_cond, e_block, ex_skip, ex_exit, ex_ret, o_cons, xops_nil, k_want_none, k_want_false, k_val, k_pan, k_call, k_ret, k_seq, k_seq_exit, k_seq_ret, k_true, k_false, k_block, k_block_exit, k_block_ret, k_loop, k_loop_exit, k_loop_ret, awanted, aoper, evalO, put, Option.getD_some, List.getElem?_set, acallOp, abuiltin, List.map_cons, List.map_nil, Nat.reduceEqDiff, Nat.reduceLT, List.length_set, Option.map_some, Option.bind_some, Option.bind_eq_bind, add_i, sub_i, mul_i, eql_i, neq_i, lss_i, leq_i, gtr_i, geq_i, ofV, ofCell, ↓reduceIte, List.cons_append, List.nil_append, List.append_nil, List.getElem?_toArray, List.getElem?_cons_succ, List.getElem?_cons_zero, e_draw, g_nil, g_cons, g_want, g_skip, g_val, g_call, g_ret, Option.map_none, hl, a1, a5, CP, bq1, bq2, bq3, bq4, ex_tup]
      exact rfl, ?_⟩
  show P197_6 _ _
  exact ⟨by simp [hl], by simp [a1], by simp [a5], by simp [hl]⟩
theorem R197_10 (pe : Nat → Fr197 → ASt → Prop) (pr : Fr197 → ASt → Prop) : Ref Cb P197_4 (Cat [true, false, true, true, true, true, true, true, false] (bodyOf Tryz.f197)) m197_10 (post P197_7 pe pr) := by
  rintro s ⟨t, h⟩ hp x s' hm
  have hp : P197_4' s t h := hp
  obtain ⟨hl, a1, a5⟩ := hp
  unfold m197_10 at hm
  cases hm
  refine ⟨⟨_, _⟩, by
      simp only [bodyOf, Tryz.f197, Cat, Bool.false_eq_true, e_seq, e_region, e_cond, e_block, ex_skip, ex_exit, ex_ret, o_cons, xops_nil, k_want_none, k_want_false, k_val, k_pan, k_call, k_ret, k_seq, k_seq_exit, k_seq_ret, k_true, k_false, k_block, k_block_exit, k_block_ret, k_loop, k_loop_exit, k_loop_ret, awanted, aoper, evalO, put, Option.getD_some, List.getElem?_set, acallOp, abuiltin, List.map_cons, List.map_nil, Nat.reduceEqDiff, Nat.reduceLT, List.length_set, Option.map_some, Option.bind_some, Option.bind_eq_bind, add_i, sub_i, mul_i, eql_i, neq_i, lss_i, leq_i, gtr_i, geq_i, ofV, ofCell, ↓reduceIte, List.cons_append, List.nil_append, List.append_nil, List.getElem?_toArray, List.getElem?_cons_succ, List.getElem?_cons_zero, e_draw, g_nil, g_cons, g_want, g_skip, g_val, g_call, g_ret, Option.map_none, hl, a1, a5, CP, bq1, bq2, bq3, bq4, ex_tup]
      exact rfl, ?_⟩
  show P197_7 _ _
  exact ⟨by simp [hl], by simp [a1], by simp [a5], by simp [hl]⟩
theorem R197_11 (pe : Nat → Fr197 → ASt → Prop) (pr : Fr197 → ASt → Prop) : Ref Cb P197_4 (Cat [true, false, true, true, true, true, false] (bodyOf Tryz.f197)) m197_11 (post P197_8 pe pr) := by
  rintro s ⟨t, h⟩ hp x s' hm
  have hp : P197_4' s t h := hp
  obtain ⟨hl, a1, a5⟩ := hp
  unfold m197_11 at hm
  cases hm
  refine ⟨⟨_, _⟩, by
      simp only [bodyOf, Tryz.f197, Cat, Bool.false_eq_true, e_seq, e_region, e_cond, e_block, ex_skip, ex_exit, ex_ret, o_cons, xops_nil, k_want_none, k_want_false, k_val, k_pan, k_call, k_ret, k_seq, k_seq_exit, k_seq_ret, k_true, k_false, k_block, k_block_exit, k_block_ret, k_loop, k_loop_exit, k_loop_ret, awanted, aoper, evalO, put, Option.getD_some, List.getElem?_set, acallOp, abuiltin, List.map_cons, List.map_nil, Nat.reduceEqDiff, Nat.reduceLT, List.length_set, Option.map_some, Option.bind_some, Option.bind_eq_bind, add_i, sub_i, mul_i, eql_i, neq_i, lss_i, leq_i, gtr_i, geq_i, ofV, ofCell, ↓reduceIte, List.cons_append, List.nil_append, List.append_nil, List.getElem?_toArray, List.getElem?_cons_succ, List.getElem?_cons_zero, e_draw, g_nil, g_cons, g_want, g_skip, g_val, g_call, g_ret, Option.map_none, hl, a1, a5, CP, bq1, bq2, bq3, bq4, ex_tup]
      exact rfl, ?_⟩
  show P197_8 _ _
  exact ⟨by simp [hl], by simp [a1], by simp [a5], by simp [hl]⟩
theorem R197_12 (pe : Nat → Fr197 → ASt → Prop) (pr : Fr197 → ASt → Prop) : Ref Cb P197_4 (Cat [true, false, true, true, false] (bodyOf Tryz.f197)) m197_12 (post P197_9 pe pr) := by
  rintro s ⟨t, h⟩ hp x s' hm
  have hp : P197_4' s t h := hp
  obtain ⟨hl, a1, a5⟩ := hp
  unfold m197_12 at hm
  cases hm
  refine ⟨⟨_, _⟩, by
      simp only [bodyOf, Tryz.f197, Cat, Bool.false_eq_true, e_seq, e_region, e_cond, e_block, ex_skip, ex_exit, ex_ret, o_cons, xops_nil, k_want_none, k_want_false, k_val, k_pan, k_call, k_ret, k_seq, k_seq_exit, k_seq_ret, k_true, k_false, k_block, k_block_exit, k_block_ret, k_loop, k_loop_exit, k_loop_ret, awanted, aoper, evalO, put, Option.getD_some, List.getElem?_set, acallOp, abuiltin, List.map_cons, List.map_nil, Nat.reduceEqDiff, Nat.reduceLT, List.length_set, Option.map_some, Option.bind_some, Option.bind_eq_bind, add_i, sub_i, mul_i, eql_i, neq_i, lss_i, leq_i, gtr_i, geq_i, ofV, ofCell, ↓reduceIte, List.cons_append, List.nil_append, List.append_nil, List.getElem?_toArray, List.getElem?_cons_succ, List.getElem?_cons_zero, e_draw, g_nil, g_cons, g_want, g_skip, g_val, g_call, g_ret, Option.map_none, hl, a1, a5, CP, bq1, bq2, bq3, bq4, ex_tup]
      exact rfl, ?_⟩
  show P197_9 _ _
  exact ⟨by simp [hl], by simp [a1], by simp [a5], by simp [hl]⟩
theorem R197_13 (pe : Nat → Fr197 → ASt → Prop) (pr : Fr197 → ASt → Prop) : Ref Cb P197_10 (Cat [true, false, false] (bodyOf Tryz.f197)) m197_13 (post P197_4 pe pr) := by
  rintro s ⟨t, h⟩ hp x s' hm
  have hp : P197_10' s t h := hp
  obtain ⟨hl, a0, a1⟩ := hp
  unfold m197_13 at hm
  cases hm
  refine ⟨⟨_, _⟩, by
      simp only [bodyOf, Tryz.f197, Cat, Bool.false_eq_true, e_seq, e_region, e_cond, e_block, ex_skip, ex_exit, ex_ret, o_cons, xops_nil, k_want_none, k_want_false, k_val, k_pan, k_call, k_ret, k_seq, k_seq_exit, k_seq_ret, k_true, k_false, k_block, k_block_exit, k_block_ret, k_loop, k_loop_exit, k_loop_ret, awanted, aoper, evalO, put, Option.getD_some, List.getElem?_set, acallOp, abuiltin, List.map_cons, List.map_nil, Nat.reduceEqDiff, Nat.reduceLT, List.length_set, Option.map_some, Option.bind_some, Option.bind_eq_bind, add_i, sub_i, mul_i, eql_i, neq_i, lss_i, leq_i, gtr_i, geq_i, ofV, ofCell, ↓reduceIte, List.cons_append, List.nil_append, List.append_nil, List.getElem?_toArray, List.getElem?_cons_succ, List.getElem?_cons_zero, e_draw, g_nil, g_cons, g_want, g_skip, g_val, g_call, g_ret, Option.map_none, hl, a0, a1, CP, bq1, bq2, bq3, bq4, ex_tup]
      exact rfl, ?_⟩
  show P197_4 _ _
  exact ⟨by simp [hl], by simp [a1], by simp [hl]⟩
theorem R197_14 (pe : Nat → Fr197 → ASt → Prop) (pr : Fr197 → ASt → Prop) : Ref Cb P197_10 (Cat [false] (bodyOf Tryz.f197)) m197_14 (post P197_10 pe pr) := by
  rintro s ⟨t, h⟩ hp x s' hm
  have hp : P197_10' s t h := hp
  obtain ⟨hl, a0, a1⟩ := hp
  unfold m197_14 at hm
  cases hm
  refine ⟨⟨_, _⟩, by
      simp only [bodyOf, Tryz.f197, Cat, Bool.false_eq_true, e_seq, e_region, e_cond, e_block, ex_skip, ex_exit, ex_ret, o_cons, xops_nil, k_want_none, k_want_false, k_val, k_pan, k_call, k_ret, k_seq, k_seq_exit, k_seq_ret, k_true, k_false, k_block, k_block_exit, k_block_ret, k_loop, k_loop_exit, k_loop_ret, awanted, aoper, evalO, put, Option.getD_some, List.getElem?_set, acallOp, abuiltin, List.map_cons, List.map_nil, Nat.reduceEqDiff, Nat.reduceLT, List.length_set, Option.map_some, Option.bind_some, Option.bind_eq_bind, add_i, sub_i, mul_i, eql_i, neq_i, lss_i, leq_i, gtr_i, geq_i, ofV, ofCell, ↓reduceIte, List.cons_append, List.nil_append, List.append_nil, List.getElem?_toArray, List.getElem?_cons_succ, List.getElem?_cons_zero, e_draw, g_nil, g_cons, g_want, g_skip, g_val, g_call, g_ret, Option.map_none, hl, a0, a1, CP, bq1, bq2, bq3, bq4, ex_tup]
      exact rfl, ?_⟩
  show P197_10 _ _
  exact ⟨by simp [hl], by simp [a0], by simp [a1]⟩
theorem B197 : Ref Cb P197_10 (bodyOf Tryz.f197) (M197) (post P197_1 (fun _ _ _ => False) P197_1) := by
  rw [show bodyOf Tryz.f197 = .seq (Cat [false] (bodyOf Tryz.f197)) (.seq (.seq (Cat [true, false, false] (bodyOf Tryz.f197)) (.block 0 (.seq (Cat [true, false, true, true, false] (bodyOf Tryz.f197)) (.cond (.tmp 6) (.seq (Cat [true, false, true, true, true, false, false] (bodyOf Tryz.f197)) (.ret)) (.seq (Cat [true, false, true, true, true, true, false] (bodyOf Tryz.f197)) (.cond (.tmp 10) (.seq (Cat [true, false, true, true, true, true, true, false, false] (bodyOf Tryz.f197)) (.ret)) (.seq (Cat [true, false, true, true, true, true, true, true, false] (bodyOf Tryz.f197)) (.cond (.tmp 14) (.seq (Cat [true, false, true, true, true, true, true, true, true, false, false] (bodyOf Tryz.f197)) (.ret)) (.seq (Cat [true, false, true, true, true, true, true, true, true, true, false] (bodyOf Tryz.f197)) (.cond (.tmp 18) (.seq (Cat [true, false, true, true, true, true, true, true, true, true, true, false, false] (bodyOf Tryz.f197)) (.ret)) (.seq (Cat [true, false, true, true, true, true, true, true, true, true, true, true, false] (bodyOf Tryz.f197)) (.cond (.tmp 22) (.seq (Cat [true, false, true, true, true, true, true, true, true, true, true, true, true, false, false] (bodyOf Tryz.f197)) (.ret)) (.seq (Cat [true, false, true, true, true, true, true, true, true, true, true, true, true, true, false] (bodyOf Tryz.f197)) (.cond (.tmp 26) (.seq (Cat [true, false, true, true, true, true, true, true, true, true, true, true, true, true, true, false, false] (bodyOf Tryz.f197)) (.ret)) (.skip))))))))))))))) (.seq (Cat [true, true, false] (bodyOf Tryz.f197)) (.ret))) from rfl]
  unfold M197
  exact ref_seq (M := P197_10) (R197_14 _ _) (ref_seq (M := P197_0) (ref_seq (M := P197_4) (R197_13 _ _) (ref_block (ref_seq (M := P197_9) (R197_12 _ _) (ref_cond (P := P197_9) (c := fun s => s.t6) (fun s st hp => by obtain ⟨hl, a1, a5, a6⟩ := (hp : P197_9' s st.tmps st.h); simp only [evalO, a6, Option.getD_some]) (ref_weak (P' := P197_2) (fun s st hp => by obtain ⟨hl, a1, a5, a6⟩ := (hp : P197_9' s st.tmps st.h); exact (⟨hl, a1⟩ : P197_2' s st.tmps st.h)) (ref_seq (M := P197_1) (R197_1 _ _) (ref_ret (fun s st hp => hp)))) (ref_weak (P' := P197_4) (fun s st hp => by obtain ⟨hl, a1, a5, a6⟩ := (hp : P197_9' s st.tmps st.h); exact (⟨hl, a1, a5⟩ : P197_4' s st.tmps st.h)) (ref_seq (M := P197_8) (R197_11 _ _) (ref_cond (P := P197_8) (c := fun s => s.t10) (fun s st hp => by obtain ⟨hl, a1, a5, a10⟩ := (hp : P197_8' s st.tmps st.h); simp only [evalO, a10, Option.getD_some]) (ref_weak (P' := P197_2) (fun s st hp => by obtain ⟨hl, a1, a5, a10⟩ := (hp : P197_8' s st.tmps st.h); exact (⟨hl, a1⟩ : P197_2' s st.tmps st.h)) (ref_seq (M := P197_1) (R197_2 _ _) (ref_ret (fun s st hp => hp)))) (ref_weak (P' := P197_4) (fun s st hp => by obtain ⟨hl, a1, a5, a10⟩ := (hp : P197_8' s st.tmps st.h); exact (⟨hl, a1, a5⟩ : P197_4' s st.tmps st.h)) (ref_seq (M := P197_7) (R197_10 _ _) (ref_cond (P := P197_7) (c := fun s => s.t14) (fun s st hp => by obtain ⟨hl, a1, a5, a14⟩ := (hp : P197_7' s st.tmps st.h); simp only [evalO, a14, Option.getD_some]) (ref_weak (P' := P197_2) (fun s st hp => by obtain ⟨hl, a1, a5, a14⟩ := (hp : P197_7' s st.tmps st.h); exact (⟨hl, a1⟩ : P197_2' s st.tmps st.h)) (ref_seq (M := P197_1) (R197_3 _ _) (ref_ret (fun s st hp => hp)))) (ref_weak (P' := P197_4) (fun s st hp => by obtain ⟨hl, a1, a5, a14⟩ := (hp : P197_7' s st.tmps st.h); exact (⟨hl, a1, a5⟩ : P197_4' s st.tmps st.h)) (ref_seq (M := P197_6) (R197_9 _ _) (ref_cond (P := P197_6) (c := fun s => s.t18) (fun s st hp => by obtain ⟨hl, a1, a5, a18⟩ := (hp : P197_6' s st.tmps st.h); simp only [evalO, a18, Option.getD_some]) (ref_weak (P' := P197_2) (fun s st hp => by obtain ⟨hl, a1, a5, a18⟩ := (hp : P197_6' s st.tmps st.h); exact (⟨hl, a1⟩ : P197_2' s st.tmps st.h)) (ref_seq (M := P197_1) (R197_4 _ _) (ref_ret (fun s st hp => hp)))) (ref_weak (P' := P197_4) (fun s st hp => by obtain ⟨hl, a1, a5, a18⟩ := (hp : P197_6' s st.tmps st.h); exact (⟨hl, a1, a5⟩ : P197_4' s st.tmps st.h)) (ref_seq (M := P197_5) (R197_8 _ _) (ref_cond (P := P197_5) (c := fun s => s.t22) (fun s st hp => by obtain ⟨hl, a1, a5, a22⟩ := (hp : P197_5' s st.tmps st.h); simp only [evalO, a22, Option.getD_some]) (ref_weak (P' := P197_2) (fun s st hp => by obtain ⟨hl, a1, a5, a22⟩ := (hp : P197_5' s st.tmps st.h); exact (⟨hl, a1⟩ : P197_2' s st.tmps st.h)) (ref_seq (M := P197_1) (R197_5 _ _) (ref_ret (fun s st hp => hp)))) (ref_weak (P' := P197_4) (fun s st hp => by obtain ⟨hl, a1, a5, a22⟩ := (hp : P197_5' s st.tmps st.h); exact (⟨hl, a1, a5⟩ : P197_4' s st.tmps st.h)) (ref_seq (M := P197_3) (R197_7 _ _) (ref_cond (P := P197_3) (c := fun s => s.t26) (fun s st hp => by obtain ⟨hl, a1, a26⟩ := (hp : P197_3' s st.tmps st.h); simp only [evalO, a26, Option.getD_some]) (ref_weak (P' := P197_2) (fun s st hp => by obtain ⟨hl, a1, a26⟩ := (hp : P197_3' s st.tmps st.h); exact (⟨hl, a1⟩ : P197_2' s st.tmps st.h)) (ref_seq (M := P197_1) (R197_6 _ _) (ref_ret (fun s st hp => hp)))) (ref_weak (P' := P197_0) (fun s st hp => by obtain ⟨hl, a1, a26⟩ := (hp : P197_3' s st.tmps st.h); exact (⟨hl, trivial⟩ : P197_0' s st.tmps st.h)) (ref_skip (fun s st hp => hp)))))))))))))))))))))) (ref_seq (M := P197_1) (R197_0 _ _) (ref_ret (fun s st hp => hp))))
noncomputable def G197 (x0 : Int) (x1 : Int) : Option Bool := match M197 { (default : Fr197) with t0 := x0, t1 := x1 } with
  | some (.nrm, s) => some s.t4
  | some (.ret, s) => some s.t4
  | _ => none
theorem G197_spec : Spec197 (G197) := by
  intro x0 x1 r hr
  unfold G197 at hr
  cases hm : M197 { (default : Fr197) with t0 := x0, t1 := x1 } with
  | none => rw [hm] at hr; cases hr
  | some q =>
    obtain ⟨x, s⟩ := q
    rw [hm] at hr
    have hx : x = .nrm ∨ x = .ret := by cases x <;> first | exact .inl rfl | exact .inr rfl | cases hr
    have hr : s.t4 = r := by cases x <;> first | exact Option.some.inj hr | cases hr
    subst hr
    have hp0 : P197_10' ({ (default : Fr197) with t0 := x0, t1 := x1 }) (slots Tryz.f197 (stripL [.int .i64 x0, .int .i64 x1])) bare := ⟨rfl, rfl, rfl⟩
    obtain ⟨v, hR, hrun⟩ := run_of_ref (C := Cb) (f := 197) (fn := Tryz.f197) Tryz.func197 rfl rfl rfl rfl (args := [.int .i64 x0, .int .i64 x1]) (by simp only [refsL, refs, List.append_nil]) (B197) (s0 := { (default : Fr197) with t0 := x0, t1 := x1 }) hp0 hm hx (R := fun v => v = .bool s.t4) (by
      have key : ∀ st : ASt, P197_1 s st → ∃ vs v, aresults Cb Tryz.f197.results.toList st = some vs ∧ Nrm [] st.h (packRes vs) v ∧ (fun v => v = .bool s.t4) v := by
        intro st hp
        obtain ⟨hl, a4⟩ := (hp : P197_1' s st.tmps st.h)
        exact ⟨[.bool s.t4], _, by simp only [show Tryz.f197.results.toList = [ResultVar.tmp 4] from rfl, aresults, ares1, CP, a4, Option.getD_some], (Nrm.of (w := .bool s.t4) (by simp only [refsL, refs, List.append_nil])), rfl⟩
      intro st hq
      rcases hx with rfl | rfl
      · exact key st hq
      · exact key st hq)
    subst hR
    exact hrun
/-! ### slices.Contains[[]string,string] -/
structure Fr105 where
  t0 : (List (List UInt8))
  t1 : (List UInt8)
  t4 : Bool
instance : Inhabited Fr105 := ⟨⟨[], [], false⟩⟩
def P105_0' (s : Fr105) (t : List AVal) (h : AHeap) : Prop := ∃ w0_0, t.length = 9 ∧ t[0]? = some w0_0 ∧ Sl rS s.t0 w0_0 ∧ t[1]? = some (.str s.t1)
def P105_0 (s : Fr105) (st : ASt) : Prop := P105_0' s st.tmps st.h
def P105_1' (s : Fr105) (t : List AVal) (h : AHeap) : Prop := t.length = 9 ∧ t[4]? = some (.bool s.t4)
def P105_1 (s : Fr105) (st : ASt) : Prop := P105_1' s st.tmps st.h
noncomputable def m105_0 : Mo Fr105 := fun s => (G168 s.t0 s.t1).bind fun z1 => some (.nrm, { s with t4 := decide (z1 ≥ 0) })
noncomputable def m105_1 : Mo Fr105 := fun s => some (.nrm, s)
noncomputable def M105 : Mo Fr105 := seqM (m105_1) (seqM (m105_0) (retM))
def Spec105 (f : (List (List UInt8)) → (List UInt8) → Option Bool) : Prop := ∀ (x0 : (List (List UInt8))) (x1 : (List UInt8)) (vx0_0 : AVal) (_ : Sl rS x0 vx0_0) (r : Bool), f x0 x1 = some r → ∀ h, run Cb 105 [vx0_0, .str x1] h = some (.ret (.bool r), h)
theorem Spec105_of {f g : (List (List UInt8)) → (List UInt8) → Option Bool} (hg : Spec105 g) (h : ∀ x0 x1 r, f x0 x1 = some r → g x0 x1 = some r) : Spec105 f := fun x0 x1 v0_ w0_ r hr => hg x0 x1 v0_ w0_ r (h x0 x1 r hr)
theorem R105_0 (pe : Nat → Fr105 → ASt → Prop) (pr : Fr105 → ASt → Prop) : Ref Cb P105_0 (Cat [true, false] (bodyOf Tryz.f105)) m105_0 (post P105_1 pe pr) := by
  rintro s ⟨t, h⟩ hp x s' hm
  have hp : P105_0' s t h := hp
  obtain ⟨w0_0, hl, a0, r0_0, a1⟩ := hp
  unfold m105_0 at hm
  obtain ⟨z3, hz3, hm⟩ := Option.bind_eq_some_iff.1 hm
  have iu4 := G168_spec s.t0 s.t1 _ r0_0 _ hz3
  cases hm
  refine ⟨⟨_, _⟩, by
      simp only [bodyOf, Tryz.f105, Cat, Bool.false_eq_true, e_seq, e_region, e_cond, e_block, ex_skip, ex_exit, ex_ret, o_cons, xops_nil, k_want_none, k_want_false, k_val, k_pan, k_call, k_ret, k_seq, k_seq_exit, k_seq_ret, k_true, k_false, k_block, k_block_exit, k_block_ret, k_loop, k_loop_exit, k_loop_ret, awanted, aoper, evalO, put, Option.getD_some, List.getElem?_set, acallOp, abuiltin, List.map_cons, List.map_nil, Nat.reduceEqDiff, Nat.reduceLT, List.length_set, Option.map_some, Option.bind_some, Option.bind_eq_bind, add_i, sub_i, mul_i, eql_i, neq_i, lss_i, leq_i, gtr_i, geq_i, ofV, ofCell, ↓reduceIte, List.cons_append, List.nil_append, List.append_nil, List.getElem?_toArray, List.getElem?_cons_succ, List.getElem?_cons_zero, e_draw, g_nil, g_cons, g_want, g_skip, g_val, g_call, g_ret, Option.map_none, hl, a0, a1, CP, bq1, bq2, bq3, bq4, ex_tup, iu4]
      exact rfl, ?_⟩
  show P105_1 _ _
  exact ⟨by simp [hl], by simp [hl]⟩
theorem R105_1 (pe : Nat → Fr105 → ASt → Prop) (pr : Fr105 → ASt → Prop) : Ref Cb P105_0 (Cat [false] (bodyOf Tryz.f105)) m105_1 (post P105_0 pe pr) := by
  rintro s ⟨t, h⟩ hp x s' hm
  have hp : P105_0' s t h := hp
  obtain ⟨w0_0, hl, a0, r0_0, a1⟩ := hp
  unfold m105_1 at hm
  cases hm
  refine ⟨⟨_, _⟩, by
      simp only [bodyOf, Tryz.f105, Cat, Bool.false_eq_true, e_seq, e_region, e_cond, e_block, ex_skip, ex_exit, ex_ret, o_cons, xops_nil, k_want_none, k_want_false, k_val, k_pan, k_call, k_ret, k_seq, k_seq_exit, k_seq_ret, k_true, k_false, k_block, k_block_exit, k_block_ret, k_loop, k_loop_exit, k_loop_ret, awanted, aoper, evalO, put, Option.getD_some, List.getElem?_set, acallOp, abuiltin, List.map_cons, List.map_nil, Nat.reduceEqDiff, Nat.reduceLT, List.length_set, Option.map_some, Option.bind_some, Option.bind_eq_bind, add_i, sub_i, mul_i, eql_i, neq_i, lss_i, leq_i, gtr_i, geq_i, ofV, ofCell, ↓reduceIte, List.cons_append, List.nil_append, List.append_nil, List.getElem?_toArray, List.getElem?_cons_succ, List.getElem?_cons_zero, e_draw, g_nil, g_cons, g_want, g_skip, g_val, g_call, g_ret, Option.map_none, hl, a0, a1, CP, bq1, bq2, bq3, bq4, ex_tup]
      exact rfl, ?_⟩
  show P105_0 _ _
  exact ⟨w0_0, by simp [hl], by simp [a0], r0_0, by simp [a1]⟩
theorem B105 : Ref Cb P105_0 (bodyOf Tryz.f105) (M105) (post P105_1 (fun _ _ _ => False) P105_1) := by
  rw [show bodyOf Tryz.f105 = .seq (Cat [false] (bodyOf Tryz.f105)) (.seq (Cat [true, false] (bodyOf Tryz.f105)) (.ret)) from rfl]
  unfold M105
  exact ref_seq (M := P105_0) (R105_1 _ _) (ref_seq (M := P105_1) (R105_0 _ _) (ref_ret (fun s st hp => hp)))
noncomputable def G105 (x0 : (List (List UInt8))) (x1 : (List UInt8)) : Option Bool := match M105 { (default : Fr105) with t0 := x0, t1 := x1 } with
  | some (.nrm, s) => some s.t4
  | some (.ret, s) => some s.t4
  | _ => none
theorem G105_spec : Spec105 (G105) := by
  intro x0 x1 vx0_0 hvx0_0 r hr
  unfold G105 at hr
  cases hm : M105 { (default : Fr105) with t0 := x0, t1 := x1 } with
  | none => rw [hm] at hr; cases hr
  | some q =>
    obtain ⟨x, s⟩ := q
    rw [hm] at hr
    have hx : x = .nrm ∨ x = .ret := by cases x <;> first | exact .inl rfl | exact .inr rfl | cases hr
    have hr : s.t4 = r := by cases x <;> first | exact Option.some.inj hr | cases hr
    subst hr
    have hp0 : P105_0' ({ (default : Fr105) with t0 := x0, t1 := x1 }) (slots Tryz.f105 (stripL [vx0_0, .str x1])) bare := ⟨(strip vx0_0 : AVal), rfl, rfl, hvx0_0.strip rS_p, rfl⟩
    obtain ⟨v, hR, hrun⟩ := run_of_ref (C := Cb) (f := 105) (fn := Tryz.f105) Tryz.func105 rfl rfl rfl rfl (args := [vx0_0, .str x1]) (by simp only [refsL, refs, List.append_nil, hvx0_0.refs rS_p]) (B105) (s0 := { (default : Fr105) with t0 := x0, t1 := x1 }) hp0 hm hx (R := fun v => v = .bool s.t4) (by
      have key : ∀ st : ASt, P105_1 s st → ∃ vs v, aresults Cb Tryz.f105.results.toList st = some vs ∧ Nrm [] st.h (packRes vs) v ∧ (fun v => v = .bool s.t4) v := by
        intro st hp
        obtain ⟨hl, a4⟩ := (hp : P105_1' s st.tmps st.h)
        exact ⟨[.bool s.t4], _, by simp only [show Tryz.f105.results.toList = [ResultVar.tmp 4] from rfl, aresults, ares1, CP, a4, Option.getD_some], (Nrm.of (w := .bool s.t4) (by simp only [refsL, refs, List.append_nil])), rfl⟩
      intro st hq
      rcases hx with rfl | rfl
      · exact key st hq
      · exact key st hq)
    subst hR
    exact hrun
/-! ### caisson/bind.leaf[int64] -/
structure Fr149 where
  t0 : TestT
  t1 : (List Int)
  t2 : (List Int)
  t6 : Bool
  t7 : Bool
  t27 : Bool
instance : Inhabited Fr149 := ⟨⟨default, [], [], false, false, false⟩⟩
def P149_0' (s : Fr149) (t : List AVal) (h : AHeap) : Prop := ∃ w0_0 w1_0 w2_0, t.length = 58 ∧ t[0]? = some w0_0 ∧ rTestT s.t0 [w0_0] ∧ t[1]? = some w1_0 ∧ Sl (rI .i64) s.t1 w1_0 ∧ t[2]? = some w2_0 ∧ Sl (rI .i64) s.t2 w2_0
def P149_0 (s : Fr149) (st : ASt) : Prop := P149_0' s st.tmps st.h
def P149_1' (s : Fr149) (t : List AVal) (h : AHeap) : Prop := t.length = 58 ∧ t[6]? = some (.bool s.t6)
def P149_1 (s : Fr149) (st : ASt) : Prop := P149_1' s st.tmps st.h
def P149_2' (s : Fr149) (t : List AVal) (h : AHeap) : Prop := t.length = 58 ∧ True
def P149_2 (s : Fr149) (st : ASt) : Prop := P149_2' s st.tmps st.h
def P149_3' (s : Fr149) (t : List AVal) (h : AHeap) : Prop := ∃ w0_0 w1_0 w2_0, t.length = 58 ∧ t[0]? = some w0_0 ∧ rTestT s.t0 [w0_0] ∧ t[1]? = some w1_0 ∧ Sl (rI .i64) s.t1 w1_0 ∧ t[2]? = some w2_0 ∧ Sl (rI .i64) s.t2 w2_0 ∧ t[27]? = some (.bool s.t27)
def P149_3 (s : Fr149) (st : ASt) : Prop := P149_3' s st.tmps st.h
def P149_4' (s : Fr149) (t : List AVal) (h : AHeap) : Prop := ∃ w0_0 w1_0 w2_0, t.length = 58 ∧ t[0]? = some w0_0 ∧ rTestT s.t0 [w0_0] ∧ t[1]? = some w1_0 ∧ Sl (rI .i64) s.t1 w1_0 ∧ t[2]? = some w2_0 ∧ Sl (rI .i64) s.t2 w2_0 ∧ t[7]? = some (.bool s.t7)
def P149_4 (s : Fr149) (st : ASt) : Prop := P149_4' s st.tmps st.h
noncomputable def m149_0 : Mo Fr149 := fun s => (s.t0.get).bind fun n1 => (at? s.t1 n1.Index).bind fun y3 => (at? s.t2 0).bind fun y5 => (G198 y3 y5).bind fun z7 => (G197 n1.Op z7).bind fun z9 => some (.nrm, { s with t6 := z9 })
noncomputable def m149_1 : Mo Fr149 := fun s => some (.nrm, { s with t6 := false })
noncomputable def m149_2 : Mo Fr149 := fun s => (s.t0.get).bind fun n21 => (at? s.t1 n21.Index).bind fun y23 => (G196 s.t2 y23).bind fun z25 => some (.nrm, { s with t6 := z25 })
noncomputable def m149_3 : Mo Fr149 := fun s => (s.t0.get).bind fun n33 => some (.nrm, { s with t27 := (n33.Kind == 5) })
noncomputable def m149_4 : Mo Fr149 := fun s => (s.t0.get).bind fun n37 => some (.nrm, { s with t7 := (((decide (n37.Index < 0)) || (decide (n37.Index ≥ (s.t1.length : Int)))) || ((s.t2.length : Int) == 0)) })
noncomputable def m149_5 : Mo Fr149 := fun s => some (.nrm, s)
noncomputable def M149 : Mo Fr149 := seqM (m149_5) (seqM (blockM 0 (seqM (m149_4) (condM (fun s => s.t7) (seqM (m149_1) (retM)) (seqM (m149_3) (condM (fun s => s.t27) (seqM (m149_2) (retM)) (skipM)))))) (seqM (m149_0) (retM)))
def Spec149 (f : TestT → (List Int) → (List Int) → Option Bool) : Prop := ∀ (x0 : TestT) (x1 : (List Int)) (x2 : (List Int)) (vx0_0 : AVal) (_ : rTestT x0 [vx0_0]) (vx1_0 : AVal) (_ : Sl (rI .i64) x1 vx1_0) (vx2_0 : AVal) (_ : Sl (rI .i64) x2 vx2_0) (r : Bool), f x0 x1 x2 = some r → ∀ h, run Cb 149 [vx0_0, vx1_0, vx2_0] h = some (.ret (.bool r), h)
theorem Spec149_of {f g : TestT → (List Int) → (List Int) → Option Bool} (hg : Spec149 g) (h : ∀ x0 x1 x2 r, f x0 x1 x2 = some r → g x0 x1 x2 = some r) : Spec149 f := fun x0 x1 x2 v0_ w0_ v1_ w1_ v2_ w2_ r hr => hg x0 x1 x2 v0_ w0_ v1_ w1_ v2_ w2_ r (h x0 x1 x2 r hr)
theorem R149_0 (pe : Nat → Fr149 → ASt → Prop) (pr : Fr149 → ASt → Prop) : Ref Cb P149_0 (Cat [true, true, false] (bodyOf Tryz.f149)) m149_0 (post P149_1 pe pr) := by
  rintro s ⟨t, h⟩ hp x s' hm
  have hp : P149_0' s t h := hp
  obtain ⟨w0_0, w1_0, w2_0, hl, a0, r0_0, a1, r1_0, a2, r2_0⟩ := hp
  unfold m149_0 at hm
  obtain ⟨n11, hn11, hm⟩ := Option.bind_eq_some_iff.1 hm
  obtain ⟨bu12_0, bu12_1, bu12_2, bu12_3, qu12, gu12_0, gu12_1, gu12_2, gu12_3⟩ := rTestT_get r0_0 hn11
  subst qu12
  obtain ⟨y13, hy13, hm⟩ := Option.bind_eq_some_iff.1 hm
  obtain ⟨cu14, du14, eu14, iu14, _⟩ := Sl.ix (rI_p .i64) r1_0 hy13
  subst eu14
  obtain ⟨y15, hy15, hm⟩ := Option.bind_eq_some_iff.1 hm
  obtain ⟨cu16, du16, eu16, iu16, _⟩ := Sl.ix (rI_p .i64) r2_0 hy15
  subst eu16
  obtain ⟨z17, hz17, hm⟩ := Option.bind_eq_some_iff.1 hm
  have iu18 := G198_spec y13 y15  _ hz17
  obtain ⟨z19, hz19, hm⟩ := Option.bind_eq_some_iff.1 hm
  have iu20 := G197_spec n11.Op z17  _ hz19
  cases hm
  refine ⟨⟨_, _⟩, by
      simp only [bodyOf, Tryz.f149, Cat, Bool.false_eq_true, e_seq, e_region, e_cond, e_block, ex_skip, ex_exit, ex_ret, o_cons, xops_nil, k_want_none, k_want_false, k_val, k_pan, k_call, k_ret, k_seq, k_seq_exit, k_seq_ret, k_true, k_false, k_block, k_block_exit, k_block_ret, k_loop, k_loop_exit, k_loop_ret, awanted, aoper, evalO, put, Option.getD_some, List.getElem?_set, acallOp, abuiltin, List.map_cons, List.map_nil, Nat.reduceEqDiff, Nat.reduceLT, List.length_set, Option.map_some, Option.bind_some, Option.bind_eq_bind, add_i, sub_i, mul_i, eql_i, neq_i, lss_i, leq_i, gtr_i, geq_i, ofV, ofCell, ↓reduceIte, List.cons_append, List.nil_append, List.append_nil, List.getElem?_toArray, List.getElem?_cons_succ, List.getElem?_cons_zero, e_draw, g_nil, g_cons, g_want, g_skip, g_val, g_call, g_ret, Option.map_none, hl, a0, a1, a2, CP, bq1, bq2, bq3, bq4, ex_tup, Ty.fa57_5, dropCells, List.drop_succ_cons, List.drop_zero, Ty.ld3, ld_ip, ofc1, List.drop_succ_cons, List.drop_zero, Ty.fa57_4, Ty.ix51, iu14, Ty.ld2, iu16, iu18, iu20]
      rw [k_draw _ _ _ (by kernel_rfl)]
      exact rfl, ?_⟩
  show P149_1 _ _
  exact ⟨by simp [hl], by simp [hl]⟩
theorem R149_1 (pe : Nat → Fr149 → ASt → Prop) (pr : Fr149 → ASt → Prop) : Ref Cb P149_2 (Cat [true, false, true, true, false, false] (bodyOf Tryz.f149)) m149_1 (post P149_1 pe pr) := by
  rintro s ⟨t, h⟩ hp x s' hm
  have hp : P149_2' s t h := hp
  obtain ⟨hl, _⟩ := hp
  unfold m149_1 at hm
  cases hm
  refine ⟨⟨_, _⟩, by
      simp only [bodyOf, Tryz.f149, Cat, Bool.false_eq_true, e_seq, e_region, e_cond, e_block, ex_skip, ex_exit, ex_ret, o_cons, xops_nil, k_want_none, k_want_false, k_val, k_pan, k_call, k_ret, k_seq, k_seq_exit, k_seq_ret, k_true, k_false, k_block, k_block_exit, k_block_ret, k_loop, k_loop_exit, k_loop_ret, awanted, aoper, evalO, put, Option.getD_some, List.getElem?_set, acallOp, abuiltin, List.map_cons, List.map_nil, Nat.reduceEqDiff, Nat.reduceLT, List.length_set, Option.map_some, Option.bind_some, Option.bind_eq_bind, add_i, sub_i, mul_i, eql_i, neq_i, lss_i, leq_i, gtr_i, geq_i, ofV, ofCell, ↓reduceIte, List.cons_append, List.nil_append, List.append_nil, List.getElem?_toArray, List.getElem?_cons_succ, List.getElem?_cons_zero, e_draw, g_nil, g_cons, g_want, g_skip, g_val, g_call, g_ret, Option.map_none, hl, CP, bq1, bq2, bq3, bq4, ex_tup]
      exact rfl, ?_⟩
  show P149_1 _ _
  exact ⟨by simp [hl], by simp [hl]⟩
theorem R149_2 (pe : Nat → Fr149 → ASt → Prop) (pr : Fr149 → ASt → Prop) : Ref Cb P149_0 (Cat [true, false, true, true, true, true, false, false] (bodyOf Tryz.f149)) m149_2 (post P149_1 pe pr) := by
  rintro s ⟨t, h⟩ hp x s' hm
  have hp : P149_0' s t h := hp
  obtain ⟨w0_0, w1_0, w2_0, hl, a0, r0_0, a1, r1_0, a2, r2_0⟩ := hp
  unfold m149_2 at hm
  obtain ⟨n27, hn27, hm⟩ := Option.bind_eq_some_iff.1 hm
  obtain ⟨bu28_0, bu28_1, bu28_2, bu28_3, qu28, gu28_0, gu28_1, gu28_2, gu28_3⟩ := rTestT_get r0_0 hn27
  subst qu28
  obtain ⟨y29, hy29, hm⟩ := Option.bind_eq_some_iff.1 hm
  obtain ⟨cu30, du30, eu30, iu30, _⟩ := Sl.ix (rI_p .i64) r1_0 hy29
  subst eu30
  obtain ⟨z31, hz31, hm⟩ := Option.bind_eq_some_iff.1 hm
  have iu32 := G196_spec s.t2 y29 _ r2_0 _ hz31
  cases hm
  refine ⟨⟨_, _⟩, by
      simp only [bodyOf, Tryz.f149, Cat, Bool.false_eq_true, e_seq, e_region, e_cond, e_block, ex_skip, ex_exit, ex_ret, o_cons, xops_nil, k_want_none, k_want_false, k_val, k_pan, k_call, k_ret, k_seq, k_seq_exit, k_seq_ret, k_true, k_false, k_block, k_block_exit, k_block_ret, k_loop, k_loop_exit, k_loop_ret, awanted, aoper, evalO, put, Option.getD_some, List.getElem?_set, acallOp, abuiltin, List.map_cons, List.map_nil, Nat.reduceEqDiff, Nat.reduceLT, List.length_set, Option.map_some, Option.bind_some, Option.bind_eq_bind, add_i, sub_i, mul_i, eql_i, neq_i, lss_i, leq_i, gtr_i, geq_i, ofV, ofCell, ↓reduceIte, List.cons_append, List.nil_append, List.append_nil, List.getElem?_toArray, List.getElem?_cons_succ, List.getElem?_cons_zero, e_draw, g_nil, g_cons, g_want, g_skip, g_val, g_call, g_ret, Option.map_none, hl, a0, a1, a2, CP, bq1, bq2, bq3, bq4, ex_tup, Ty.fa57_4, dropCells, List.drop_succ_cons, List.drop_zero, Ty.ld3, ld_ip, ofc1, List.drop_succ_cons, List.drop_zero, Ty.ix51, iu30, Ty.ld2, iu32]
      exact rfl, ?_⟩
  show P149_1 _ _
  exact ⟨by simp [hl], by simp [hl]⟩
theorem R149_3 (pe : Nat → Fr149 → ASt → Prop) (pr : Fr149 → ASt → Prop) : Ref Cb P149_0 (Cat [true, false, true, true, true, false] (bodyOf Tryz.f149)) m149_3 (post P149_3 pe pr) := by
  rintro s ⟨t, h⟩ hp x s' hm
  have hp : P149_0' s t h := hp
  obtain ⟨w0_0, w1_0, w2_0, hl, a0, r0_0, a1, r1_0, a2, r2_0⟩ := hp
  unfold m149_3 at hm
  obtain ⟨n35, hn35, hm⟩ := Option.bind_eq_some_iff.1 hm
  obtain ⟨bu36_0, bu36_1, bu36_2, bu36_3, qu36, gu36_0, gu36_1, gu36_2, gu36_3⟩ := rTestT_get r0_0 hn35
  subst qu36
  cases hm
  refine ⟨⟨_, _⟩, by
      simp only [bodyOf, Tryz.f149, Cat, Bool.false_eq_true, e_seq, e_region, e_cond, e_block, ex_skip, ex_exit, ex_ret, o_cons, xops_nil, k_want_none, k_want_false, k_val, k_pan, k_call, k_ret, k_seq, k_seq_exit, k_seq_ret, k_true, k_false, k_block, k_block_exit, k_block_ret, k_loop, k_loop_exit, k_loop_ret, awanted, aoper, evalO, put, Option.getD_some, List.getElem?_set, acallOp, abuiltin, List.map_cons, List.map_nil, Nat.reduceEqDiff, Nat.reduceLT, List.length_set, Option.map_some, Option.bind_some, Option.bind_eq_bind, add_i, sub_i, mul_i, eql_i, neq_i, lss_i, leq_i, gtr_i, geq_i, ofV, ofCell, ↓reduceIte, List.cons_append, List.nil_append, List.append_nil, List.getElem?_toArray, List.getElem?_cons_succ, List.getElem?_cons_zero, e_draw, g_nil, g_cons, g_want, g_skip, g_val, g_call, g_ret, Option.map_none, hl, a0, a1, a2, CP, bq1, bq2, bq3, bq4, ex_tup, Ty.fa57_0, dropCells, List.drop_succ_cons, List.drop_zero, Ty.ld3, ld_ip, ofc1, List.drop_succ_cons, List.drop_zero]
      exact rfl, ?_⟩
  show P149_3 _ _
  exact ⟨(.iptr [.int .i64 n35.Kind, bu36_0, bu36_1, .bool n35.Meas, .int .i64 n35.Index, .int .i64 n35.Op, bu36_2, bu36_3] : AVal), w1_0, w2_0, by simp [hl], by simp [a0], r0_0, by simp [a1], r1_0, by simp [a2], r2_0, by simp [hl]⟩
theorem R149_4 (pe : Nat → Fr149 → ASt → Prop) (pr : Fr149 → ASt → Prop) : Ref Cb P149_0 (Cat [true, false, true, false] (bodyOf Tryz.f149)) m149_4 (post P149_4 pe pr) := by
  rintro s ⟨t, h⟩ hp x s' hm
  have hp : P149_0' s t h := hp
  obtain ⟨w0_0, w1_0, w2_0, hl, a0, r0_0, a1, r1_0, a2, r2_0⟩ := hp
  unfold m149_4 at hm
  obtain ⟨n41, hn41, hm⟩ := Option.bind_eq_some_iff.1 hm
  obtain ⟨bu42_0, bu42_1, bu42_2, bu42_3, qu42, gu42_0, gu42_1, gu42_2, gu42_3⟩ := rTestT_get r0_0 hn41
  subst qu42
  cases hb43 : decide (n41.Index < 0) with
  | true =>
    all_goals (
      try simp only [hb43, cond_true, cond_false, Option.bind_some, Option.bind_assoc, Bool.not_true, Bool.not_false, Bool.true_and, Bool.false_and, Bool.and_true, Bool.and_false, Bool.true_or, Bool.false_or] at hm
      cases hm
      refine ⟨⟨_, _⟩, by
          simp only [bodyOf, Tryz.f149, Cat, Bool.false_eq_true, e_seq, e_region, e_cond, e_block, ex_skip, ex_exit, ex_ret, o_cons, xops_nil, k_want_none, k_want_false, k_val, k_pan, k_call, k_ret, k_seq, k_seq_exit, k_seq_ret, k_true, k_false, k_block, k_block_exit, k_block_ret, k_loop, k_loop_exit, k_loop_ret, awanted, aoper, evalO, put, Option.getD_some, List.getElem?_set, acallOp, abuiltin, List.map_cons, List.map_nil, Nat.reduceEqDiff, Nat.reduceLT, List.length_set, Option.map_some, Option.bind_some, Option.bind_eq_bind, add_i, sub_i, mul_i, eql_i, neq_i, lss_i, leq_i, gtr_i, geq_i, ofV, ofCell, ↓reduceIte, List.cons_append, List.nil_append, List.append_nil, List.getElem?_toArray, List.getElem?_cons_succ, List.getElem?_cons_zero, e_draw, g_nil, g_cons, g_want, g_skip, g_val, g_call, g_ret, Option.map_none, hl, a0, a1, a2, CP, bq1, bq2, bq3, bq4, ex_tup, Ty.fa57_4, dropCells, List.drop_succ_cons, List.drop_zero, Ty.ld3, ld_ip, ofc1, List.drop_succ_cons, List.drop_zero, hb43]
          exact rfl, ?_⟩
      show P149_4 _ _
      exact ⟨(.iptr [.int .i64 n41.Kind, bu42_0, bu42_1, .bool n41.Meas, .int .i64 n41.Index, .int .i64 n41.Op, bu42_2, bu42_3] : AVal), w1_0, w2_0, by simp [hl], by simp [a0], r0_0, by simp [a1], r1_0, by simp [a2], r2_0, by simp [hl, hb43]⟩)
  | false =>
    all_goals (
      try simp only [hb43, cond_true, cond_false, Option.bind_some, Option.bind_assoc, Bool.not_true, Bool.not_false, Bool.true_and, Bool.false_and, Bool.and_true, Bool.and_false, Bool.true_or, Bool.false_or] at hm
      have lu44 := fun h => Sl.len r1_0 Ty.un51 h
      cases hb45 : decide (n41.Index ≥ (s.t1.length : Int)) with
      | true =>
        all_goals (
          try simp only [hb45, cond_true, cond_false, Option.bind_some, Option.bind_assoc, Bool.not_true, Bool.not_false, Bool.true_and, Bool.false_and, Bool.and_true, Bool.and_false, Bool.true_or, Bool.false_or] at hm
          cases hm
          refine ⟨⟨_, _⟩, by
              simp only [bodyOf, Tryz.f149, Cat, Bool.false_eq_true, e_seq, e_region, e_cond, e_block, ex_skip, ex_exit, ex_ret, o_cons, xops_nil, k_want_none, k_want_false, k_val, k_pan, k_call, k_ret, k_seq, k_seq_exit, k_seq_ret, k_true, k_false, k_block, k_block_exit, k_block_ret, k_loop, k_loop_exit, k_loop_ret, awanted, aoper, evalO, put, Option.getD_some, List.getElem?_set, acallOp, abuiltin, List.map_cons, List.map_nil, Nat.reduceEqDiff, Nat.reduceLT, List.length_set, Option.map_some, Option.bind_some, Option.bind_eq_bind, add_i, sub_i, mul_i, eql_i, neq_i, lss_i, leq_i, gtr_i, geq_i, ofV, ofCell, ↓reduceIte, List.cons_append, List.nil_append, List.append_nil, List.getElem?_toArray, List.getElem?_cons_succ, List.getElem?_cons_zero, e_draw, g_nil, g_cons, g_want, g_skip, g_val, g_call, g_ret, Option.map_none, hl, a0, a1, a2, CP, bq1, bq2, bq3, bq4, ex_tup, Ty.fa57_4, dropCells, List.drop_succ_cons, List.drop_zero, Ty.ld3, ld_ip, ofc1, List.drop_succ_cons, List.drop_zero, lu44, hb43, hb45]
              exact rfl, ?_⟩
          show P149_4 _ _
          exact ⟨(.iptr [.int .i64 n41.Kind, bu42_0, bu42_1, .bool n41.Meas, .int .i64 n41.Index, .int .i64 n41.Op, bu42_2, bu42_3] : AVal), w1_0, w2_0, by simp [hl], by simp [a0], r0_0, by simp [a1], r1_0, by simp [a2], r2_0, by simp [hl, hb43, hb45]⟩)
      | false =>
        all_goals (
          try simp only [hb45, cond_true, cond_false, Option.bind_some, Option.bind_assoc, Bool.not_true, Bool.not_false, Bool.true_and, Bool.false_and, Bool.and_true, Bool.and_false, Bool.true_or, Bool.false_or] at hm
          have lu46 := fun h => Sl.len r2_0 Ty.un51 h
          cases hm
          refine ⟨⟨_, _⟩, by
              simp only [bodyOf, Tryz.f149, Cat, Bool.false_eq_true, e_seq, e_region, e_cond, e_block, ex_skip, ex_exit, ex_ret, o_cons, xops_nil, k_want_none, k_want_false, k_val, k_pan, k_call, k_ret, k_seq, k_seq_exit, k_seq_ret, k_true, k_false, k_block, k_block_exit, k_block_ret, k_loop, k_loop_exit, k_loop_ret, awanted, aoper, evalO, put, Option.getD_some, List.getElem?_set, acallOp, abuiltin, List.map_cons, List.map_nil, Nat.reduceEqDiff, Nat.reduceLT, List.length_set, Option.map_some, Option.bind_some, Option.bind_eq_bind, add_i, sub_i, mul_i, eql_i, neq_i, lss_i, leq_i, gtr_i, geq_i, ofV, ofCell, ↓reduceIte, List.cons_append, List.nil_append, List.append_nil, List.getElem?_toArray, List.getElem?_cons_succ, List.getElem?_cons_zero, e_draw, g_nil, g_cons, g_want, g_skip, g_val, g_call, g_ret, Option.map_none, hl, a0, a1, a2, CP, bq1, bq2, bq3, bq4, ex_tup, Ty.fa57_4, dropCells, List.drop_succ_cons, List.drop_zero, Ty.ld3, ld_ip, ofc1, List.drop_succ_cons, List.drop_zero, lu44, lu46, hb43, hb45]
              exact rfl, ?_⟩
          show P149_4 _ _
          exact ⟨(.iptr [.int .i64 n41.Kind, bu42_0, bu42_1, .bool n41.Meas, .int .i64 n41.Index, .int .i64 n41.Op, bu42_2, bu42_3] : AVal), w1_0, w2_0, by simp [hl], by simp [a0], r0_0, by simp [a1], r1_0, by simp [a2], r2_0, by simp [hl, hb43, hb45]⟩))
theorem R149_5 (pe : Nat → Fr149 → ASt → Prop) (pr : Fr149 → ASt → Prop) : Ref Cb P149_0 (Cat [false] (bodyOf Tryz.f149)) m149_5 (post P149_0 pe pr) := by
  rintro s ⟨t, h⟩ hp x s' hm
  have hp : P149_0' s t h := hp
  obtain ⟨w0_0, w1_0, w2_0, hl, a0, r0_0, a1, r1_0, a2, r2_0⟩ := hp
  unfold m149_5 at hm
  cases hm
  refine ⟨⟨_, _⟩, by
      simp only [bodyOf, Tryz.f149, Cat, Bool.false_eq_true, e_seq, e_region, e_cond, e_block, ex_skip, ex_exit, ex_ret, o_cons, xops_nil, k_want_none, k_want_false, k_val, k_pan, k_call, k_ret, k_seq, k_seq_exit, k_seq_ret, k_true, k_false, k_block, k_block_exit, k_block_ret, k_loop, k_loop_exit, k_loop_ret, awanted, aoper, evalO, put, Option.getD_some, List.getElem?_set, acallOp, abuiltin, List.map_cons, List.map_nil, Nat.reduceEqDiff, Nat.reduceLT, List.length_set, Option.map_some, Option.bind_some, Option.bind_eq_bind, add_i, sub_i, mul_i, eql_i, neq_i, lss_i, leq_i, gtr_i, geq_i, ofV, ofCell, ↓reduceIte, List.cons_append, List.nil_append, List.append_nil, List.getElem?_toArray, List.getElem?_cons_succ, List.getElem?_cons_zero, e_draw, g_nil, g_cons, g_want, g_skip, g_val, g_call, g_ret, Option.map_none, hl, a0, a1, a2, CP, bq1, bq2, bq3, bq4, ex_tup]
      exact rfl, ?_⟩
  show P149_0 _ _
  exact ⟨w0_0, w1_0, w2_0, by simp [hl], by simp [a0], r0_0, by simp [a1], r1_0, by simp [a2], r2_0⟩
theorem B149 : Ref Cb P149_0 (bodyOf Tryz.f149) (M149) (post P149_1 (fun _ _ _ => False) P149_1) := by
  rw [show bodyOf Tryz.f149 = .seq (Cat [false] (bodyOf Tryz.f149)) (.seq (.block 0 (.seq (Cat [true, false, true, false] (bodyOf Tryz.f149)) (.cond (.tmp 7) (.seq (Cat [true, false, true, true, false, false] (bodyOf Tryz.f149)) (.ret)) (.seq (Cat [true, false, true, true, true, false] (bodyOf Tryz.f149)) (.cond (.tmp 27) (.seq (Cat [true, false, true, true, true, true, false, false] (bodyOf Tryz.f149)) (.ret)) (.skip)))))) (.seq (Cat [true, true, false] (bodyOf Tryz.f149)) (.ret))) from rfl]
  unfold M149
  exact ref_seq (M := P149_0) (R149_5 _ _) (ref_seq (M := P149_0) (ref_block (ref_seq (M := P149_4) (R149_4 _ _) (ref_cond (P := P149_4) (c := fun s => s.t7) (fun s st hp => by obtain ⟨w0_0, w1_0, w2_0, hl, a0, r0_0, a1, r1_0, a2, r2_0, a7⟩ := (hp : P149_4' s st.tmps st.h); simp only [evalO, a7, Option.getD_some]) (ref_weak (P' := P149_2) (fun s st hp => by obtain ⟨w0_0, w1_0, w2_0, hl, a0, r0_0, a1, r1_0, a2, r2_0, a7⟩ := (hp : P149_4' s st.tmps st.h); exact (⟨hl, trivial⟩ : P149_2' s st.tmps st.h)) (ref_seq (M := P149_1) (R149_1 _ _) (ref_ret (fun s st hp => hp)))) (ref_weak (P' := P149_0) (fun s st hp => by obtain ⟨w0_0, w1_0, w2_0, hl, a0, r0_0, a1, r1_0, a2, r2_0, a7⟩ := (hp : P149_4' s st.tmps st.h); exact (⟨w0_0, w1_0, w2_0, hl, a0, r0_0, a1, r1_0, a2, r2_0⟩ : P149_0' s st.tmps st.h)) (ref_seq (M := P149_3) (R149_3 _ _) (ref_cond (P := P149_3) (c := fun s => s.t27) (fun s st hp => by obtain ⟨w0_0, w1_0, w2_0, hl, a0, r0_0, a1, r1_0, a2, r2_0, a27⟩ := (hp : P149_3' s st.tmps st.h); simp only [evalO, a27, Option.getD_some]) (ref_weak (P' := P149_0) (fun s st hp => by obtain ⟨w0_0, w1_0, w2_0, hl, a0, r0_0, a1, r1_0, a2, r2_0, a27⟩ := (hp : P149_3' s st.tmps st.h); exact (⟨w0_0, w1_0, w2_0, hl, a0, r0_0, a1, r1_0, a2, r2_0⟩ : P149_0' s st.tmps st.h)) (ref_seq (M := P149_1) (R149_2 _ _) (ref_ret (fun s st hp => hp)))) (ref_weak (P' := P149_0) (fun s st hp => by obtain ⟨w0_0, w1_0, w2_0, hl, a0, r0_0, a1, r1_0, a2, r2_0, a27⟩ := (hp : P149_3' s st.tmps st.h); exact (⟨w0_0, w1_0, w2_0, hl, a0, r0_0, a1, r1_0, a2, r2_0⟩ : P149_0' s st.tmps st.h)) (ref_skip (fun s st hp => hp))))))))) (ref_seq (M := P149_1) (R149_0 _ _) (ref_ret (fun s st hp => hp))))
noncomputable def G149 (x0 : TestT) (x1 : (List Int)) (x2 : (List Int)) : Option Bool := match M149 { (default : Fr149) with t0 := x0, t1 := x1, t2 := x2 } with
  | some (.nrm, s) => some s.t6
  | some (.ret, s) => some s.t6
  | _ => none
theorem G149_spec : Spec149 (G149) := by
  intro x0 x1 x2 vx0_0 hvx0_0 vx1_0 hvx1_0 vx2_0 hvx2_0 r hr
  unfold G149 at hr
  cases hm : M149 { (default : Fr149) with t0 := x0, t1 := x1, t2 := x2 } with
  | none => rw [hm] at hr; cases hr
  | some q =>
    obtain ⟨x, s⟩ := q
    rw [hm] at hr
    have hx : x = .nrm ∨ x = .ret := by cases x <;> first | exact .inl rfl | exact .inr rfl | cases hr
    have hr : s.t6 = r := by cases x <;> first | exact Option.some.inj hr | cases hr
    subst hr
    have hp0 : P149_0' ({ (default : Fr149) with t0 := x0, t1 := x1, t2 := x2 }) (slots Tryz.f149 (stripL [vx0_0, vx1_0, vx2_0])) bare := ⟨(strip vx0_0 : AVal), (strip vx1_0 : AVal), (strip vx2_0 : AVal), rfl, rfl, rTestT_p.str _ _ hvx0_0, rfl, hvx1_0.strip (rI_p .i64), rfl, hvx2_0.strip (rI_p .i64)⟩
    obtain ⟨v, hR, hrun⟩ := run_of_ref (C := Cb) (f := 149) (fn := Tryz.f149) Tryz.func149 rfl rfl rfl rfl (args := [vx0_0, vx1_0, vx2_0]) (by simp only [refsL, refs, List.append_nil, refs_one (rTestT_p.ref _ _ hvx0_0), hvx1_0.refs (rI_p .i64), hvx2_0.refs (rI_p .i64)]) (B149) (s0 := { (default : Fr149) with t0 := x0, t1 := x1, t2 := x2 }) hp0 hm hx (R := fun v => v = .bool s.t6) (by
      have key : ∀ st : ASt, P149_1 s st → ∃ vs v, aresults Cb Tryz.f149.results.toList st = some vs ∧ Nrm [] st.h (packRes vs) v ∧ (fun v => v = .bool s.t6) v := by
        intro st hp
        obtain ⟨hl, a6⟩ := (hp : P149_1' s st.tmps st.h)
        exact ⟨[.bool s.t6], _, by simp only [show Tryz.f149.results.toList = [ResultVar.tmp 6] from rfl, aresults, ares1, CP, a6, Option.getD_some], (Nrm.of (w := .bool s.t6) (by simp only [refsL, refs, List.append_nil])), rfl⟩
      intro st hq
      rcases hx with rfl | rfl
      · exact key st hq
      · exact key st hq)
    subst hR
    exact hrun
end Go.Proofs.Bnd
