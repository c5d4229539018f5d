/-
  PARSE (Sb): functions (printed by wip/tools/tg.py).
-/
import Derived.Test.YthfbbjoaidajfaaGreatDoorParSbTypes
set_option linter.unusedVariables false
set_option linter.unusedSimpArgs false
set_option linter.unusedSimpArgs false
set_option linter.unusedVariables false
set_option maxRecDepth 100000
namespace Go.Proofs.Par
open Go Go.Am Go.Proofs
def rFnE0 (g : ((List (List UInt8)) → (List (List UInt8)) → Option Bool)) (v : AVal) : Prop := ∃ F, v = .fn (.func F) [] [] ∧ ∀ (x0 : (List (List UInt8))) (x1 : (List (List UInt8))) (vx0_0 : AVal) (_ : Sl rS x0 vx0_0) (vx1_0 : AVal) (_ : Sl rS x1 vx1_0) (r : Bool), g x0 x1 = some r → ∀ h, run Cp F [vx0_0, vx1_0] h = some (.ret (.bool r), h)
theorem rFnE0_strip {g : ((List (List UInt8)) → (List (List UInt8)) → Option Bool)} {v : AVal} (h : rFnE0 g v) : rFnE0 g (strip v) := by
  obtain ⟨F, rfl, H⟩ := h
  exact ⟨F, rfl, H⟩
theorem rFnE0_refs {g : ((List (List UInt8)) → (List (List UInt8)) → Option Bool)} {v : AVal} (h : rFnE0 g v) : refs v = [] := by
  obtain ⟨F, rfl, H⟩ := h
  rfl
def rFnE1 (g : (Group → Group → Option Bool)) (v : AVal) : Prop := ∃ F, v = .fn (.func F) [] [] ∧ ∀ (x0 : Group) (x1 : Group) (vx0_0 : AVal) (_ : Sl rS x0.Columns vx0_0) (vx0_1 : AVal) (_ : Sl (rSl rS) x0.Sets vx0_1) (vx1_0 : AVal) (_ : Sl rS x1.Columns vx1_0) (vx1_1 : AVal) (_ : Sl (rSl rS) x1.Sets vx1_1) (r : Bool), g x0 x1 = some r → ∀ h, run Cp F [.agg [.int .i64 x0.Kind, vx0_0, vx0_1], .agg [.int .i64 x1.Kind, vx1_0, vx1_1]] h = some (.ret (.bool r), h)
theorem rFnE1_strip {g : (Group → Group → Option Bool)} {v : AVal} (h : rFnE1 g v) : rFnE1 g (strip v) := by
  obtain ⟨F, rfl, H⟩ := h
  exact ⟨F, rfl, H⟩
theorem rFnE1_refs {g : (Group → Group → Option Bool)} {v : AVal} (h : rFnE1 g v) : refs v = [] := by
  obtain ⟨F, rfl, H⟩ := h
  rfl
/-! ### slices.Equal[[]string,string] -/
structure Fr53 where
  t0 : (List (List UInt8))
  t1 : (List (List UInt8))
  t4 : Bool
  t5 : Int
  t10 : Bool
  t12 : Int
  t13 : Int
  t14 : Bool
  t24 : Bool
instance : Inhabited Fr53 := ⟨⟨[], [], false, 0, false, 0, 0, false, false⟩⟩
def P53_0' (s : Fr53) (t : List AVal) (h : AHeap) : Prop := t.length = 26 ∧ True
def P53_0 (s : Fr53) (st : ASt) : Prop := P53_0' s st.tmps st.h
def P53_1' (s : Fr53) (t : List AVal) (h : AHeap) : Prop := t.length = 26 ∧ t[4]? = some (.bool s.t4)
def P53_1 (s : Fr53) (st : ASt) : Prop := P53_1' s st.tmps st.h
def P53_2' (s : Fr53) (t : List AVal) (h : AHeap) : Prop := ∃ w0_0 w1_0, t.length = 26 ∧ t[0]? = some w0_0 ∧ Sl rS s.t0 w0_0 ∧ t[1]? = some w1_0 ∧ Sl rS s.t1 w1_0 ∧ t[12]? = some (.int .i64 s.t12) ∧ t[13]? = some (.int .i64 s.t13)
def P53_2 (s : Fr53) (st : ASt) : Prop := P53_2' s st.tmps st.h
def P53_3' (s : Fr53) (t : List AVal) (h : AHeap) : Prop := ∃ w0_0 w1_0, t.length = 26 ∧ t[0]? = some w0_0 ∧ Sl rS s.t0 w0_0 ∧ t[1]? = some w1_0 ∧ Sl rS s.t1 w1_0 ∧ t[12]? = some (.int .i64 s.t12) ∧ t[13]? = some (.int .i64 s.t13) ∧ t[24]? = some (.bool s.t24)
def P53_3 (s : Fr53) (st : ASt) : Prop := P53_3' s st.tmps st.h
def P53_4' (s : Fr53) (t : List AVal) (h : AHeap) : Prop := ∃ w0_0 w1_0, t.length = 26 ∧ t[0]? = some w0_0 ∧ Sl rS s.t0 w0_0 ∧ t[1]? = some w1_0 ∧ Sl rS s.t1 w1_0 ∧ t[5]? = some (.int .i64 s.t5) ∧ t[12]? = some (.int .i64 s.t12) ∧ t[13]? = some (.int .i64 s.t13)
def P53_4 (s : Fr53) (st : ASt) : Prop := P53_4' s st.tmps st.h
def P53_5' (s : Fr53) (t : List AVal) (h : AHeap) : Prop := ∃ w0_0 w1_0, t.length = 26 ∧ t[0]? = some w0_0 ∧ Sl rS s.t0 w0_0 ∧ t[1]? = some w1_0 ∧ Sl rS s.t1 w1_0 ∧ t[12]? = some (.int .i64 s.t12) ∧ t[13]? = some (.int .i64 s.t13) ∧ t[14]? = some (.bool s.t14)
def P53_5 (s : Fr53) (st : ASt) : Prop := P53_5' s st.tmps st.h
def P53_6' (s : Fr53) (t : List AVal) (h : AHeap) : Prop := ∃ w0_0 w1_0, t.length = 26 ∧ t[0]? = some w0_0 ∧ Sl rS s.t0 w0_0 ∧ t[1]? = some w1_0 ∧ Sl rS s.t1 w1_0
def P53_6 (s : Fr53) (st : ASt) : Prop := P53_6' s st.tmps st.h
def P53_7' (s : Fr53) (t : List AVal) (h : AHeap) : Prop := ∃ w0_0 w1_0, t.length = 26 ∧ t[0]? = some w0_0 ∧ Sl rS s.t0 w0_0 ∧ t[1]? = some w1_0 ∧ Sl rS s.t1 w1_0 ∧ t[10]? = some (.bool s.t10)
def P53_7 (s : Fr53) (st : ASt) : Prop := P53_7' s st.tmps st.h
noncomputable def m53_0 : Mo Fr53 := fun s => some (.nrm, { s with t4 := true })
noncomputable def m53_1 : Mo Fr53 := fun s => some (.nrm, { s with t13 := IntKind.wrap .i64 (s.t13 + 1) })
noncomputable def m53_2 : Mo Fr53 := fun s => some (.nrm, { s with t4 := false })
noncomputable def m53_3 : Mo Fr53 := fun s => (at? s.t0 s.t5).bind fun y1 => (at? s.t1 s.t5).bind fun y3 => some (.nrm, { s with t24 := (!(y1 == y3)) })
noncomputable def m53_4 : Mo Fr53 := fun s => some (.nrm, { s with t5 := s.t13 })
noncomputable def m53_5 : Mo Fr53 := fun s => some (.nrm, { s with t14 := decide (s.t13 < s.t12) })
noncomputable def L53_6 : Mo Fr53 := seqM (m53_5) (seqM (condM (fun s => s.t14) (skipM) (exitM 0)) (seqM (blockM 1 (seqM (m53_4) (seqM (m53_3) (condM (fun s => s.t24) (seqM (m53_2) (retM)) (skipM))))) (m53_1)))
noncomputable def m53_7 : Mo Fr53 := fun s => some (.nrm, { s with t12 := (s.t0.length : Int), t13 := 0 })
noncomputable def m53_8 : Mo Fr53 := fun s => some (.nrm, { s with t4 := false })
noncomputable def m53_9 : Mo Fr53 := fun s => some (.nrm, { s with t10 := ((s.t0.length : Int) != (s.t1.length : Int)) })
noncomputable def m53_10 : Mo Fr53 := fun s => some (.nrm, s)
noncomputable def M53 : Mo Fr53 := seqM (m53_10) (seqM (seqM (m53_9) (condM (fun s => s.t10) (seqM (m53_8) (retM)) (skipM))) (seqM (seqM (m53_7) (blockM 0 (loopM (L53_6)))) (seqM (m53_0) (retM))))
def Spec53 (f : (List (List UInt8)) → (List (List UInt8)) → Option Bool) : Prop := ∀ (x0 : (List (List UInt8))) (x1 : (List (List UInt8))) (vx0_0 : AVal) (_ : Sl rS x0 vx0_0) (vx1_0 : AVal) (_ : Sl rS x1 vx1_0) (r : Bool), f x0 x1 = some r → ∀ h, run Cp 53 [vx0_0, vx1_0] h = some (.ret (.bool r), h)
theorem Spec53_of {f g : (List (List UInt8)) → (List (List UInt8)) → Option Bool} (hg : Spec53 g) (h : ∀ x0 x1 r, f x0 x1 = some r → g x0 x1 = some r) : Spec53 f := fun x0 x1 v0_ w0_ v1_ w1_ r hr => hg x0 x1 v0_ w0_ v1_ w1_ r (h x0 x1 r hr)
theorem R53_0 (pe : Nat → Fr53 → ASt → Prop) (pr : Fr53 → ASt → Prop) : Ref Cp P53_0 (Cat [true, true, true, false] (bodyOf Tryz.f53)) m53_0 (post P53_1 pe pr) := by
  rintro s ⟨t, h⟩ hp x s' hm
  have hp : P53_0' s t h := hp
  obtain ⟨hl, _⟩ := hp
  unfold m53_0 at hm
  cases hm
  refine ⟨⟨_, _⟩, by
      simp only [bodyOf, Tryz.f53, Cat, Bool.false_eq_true, e_seq, e_region, e_cond, e_block, ex_skip, ex_exit, ex_ret, o_cons, xops_nil, k_want_none, k_want_false, k_val, k_pan, k_call, k_ret, k_seq, k_seq_exit, k_seq_ret, k_true, k_false, k_block, k_block_exit, k_block_ret, k_loop, k_loop_exit, k_loop_ret, awanted, aoper, evalO, put, Option.getD_some, List.getElem?_set, acallOp, abuiltin, List.map_cons, List.map_nil, Nat.reduceEqDiff, Nat.reduceLT, List.length_set, Option.map_some, Option.bind_some, Option.bind_eq_bind, add_i, sub_i, mul_i, eql_i, neq_i, lss_i, leq_i, gtr_i, geq_i, ofV, ofCell, ↓reduceIte, List.cons_append, List.nil_append, List.append_nil, List.getElem?_toArray, List.getElem?_cons_succ, List.getElem?_cons_zero, e_draw, g_nil, g_cons, g_want, g_skip, g_val, g_call, g_ret, Option.map_none, hl, CP, bq1, bq2, bq3, bq4, ex_tup]
      exact rfl, ?_⟩
  show P53_1 _ _
  exact ⟨by simp [hl], by simp [hl]⟩
theorem R53_1 (pe : Nat → Fr53 → ASt → Prop) (pr : Fr53 → ASt → Prop) : Ref Cp P53_2 (Cat [true, true, false, true, true, true, true, true, true] (bodyOf Tryz.f53)) m53_1 (post P53_2 pe pr) := by
  rintro s ⟨t, h⟩ hp x s' hm
  have hp : P53_2' s t h := hp
  obtain ⟨w0_0, w1_0, hl, a0, r0_0, a1, r1_0, a12, a13⟩ := hp
  unfold m53_1 at hm
  cases hm
  refine ⟨⟨_, _⟩, by
      simp only [bodyOf, Tryz.f53, Cat, Bool.false_eq_true, e_seq, e_region, e_cond, e_block, ex_skip, ex_exit, ex_ret, o_cons, xops_nil, k_want_none, k_want_false, k_val, k_pan, k_call, k_ret, k_seq, k_seq_exit, k_seq_ret, k_true, k_false, k_block, k_block_exit, k_block_ret, k_loop, k_loop_exit, k_loop_ret, awanted, aoper, evalO, put, Option.getD_some, List.getElem?_set, acallOp, abuiltin, List.map_cons, List.map_nil, Nat.reduceEqDiff, Nat.reduceLT, List.length_set, Option.map_some, Option.bind_some, Option.bind_eq_bind, add_i, sub_i, mul_i, eql_i, neq_i, lss_i, leq_i, gtr_i, geq_i, ofV, ofCell, ↓reduceIte, List.cons_append, List.nil_append, List.append_nil, List.getElem?_toArray, List.getElem?_cons_succ, List.getElem?_cons_zero, e_draw, g_nil, g_cons, g_want, g_skip, g_val, g_call, g_ret, Option.map_none, hl, a0, a1, a12, a13, CP, bq1, bq2, bq3, bq4, ex_tup]
      exact rfl, ?_⟩
  show P53_2 _ _
  exact ⟨w0_0, w1_0, by simp [hl], by simp [a0], r0_0, by simp [a1], r1_0, by simp [a12], by simp [hl]⟩
theorem R53_2 (pe : Nat → Fr53 → ASt → Prop) (pr : Fr53 → ASt → Prop) : Ref Cp P53_0 (Cat [true, true, false, true, true, true, true, true, false, true, true, true, false, false] (bodyOf Tryz.f53)) m53_2 (post P53_1 pe pr) := by
  rintro s ⟨t, h⟩ hp x s' hm
  have hp : P53_0' s t h := hp
  obtain ⟨hl, _⟩ := hp
  unfold m53_2 at hm
  cases hm
  refine ⟨⟨_, _⟩, by
      simp only [bodyOf, Tryz.f53, Cat, Bool.false_eq_true, e_seq, e_region, e_cond, e_block, ex_skip, ex_exit, ex_ret, o_cons, xops_nil, k_want_none, k_want_false, k_val, k_pan, k_call, k_ret, k_seq, k_seq_exit, k_seq_ret, k_true, k_false, k_block, k_block_exit, k_block_ret, k_loop, k_loop_exit, k_loop_ret, awanted, aoper, evalO, put, Option.getD_some, List.getElem?_set, acallOp, abuiltin, List.map_cons, List.map_nil, Nat.reduceEqDiff, Nat.reduceLT, List.length_set, Option.map_some, Option.bind_some, Option.bind_eq_bind, add_i, sub_i, mul_i, eql_i, neq_i, lss_i, leq_i, gtr_i, geq_i, ofV, ofCell, ↓reduceIte, List.cons_append, List.nil_append, List.append_nil, List.getElem?_toArray, List.getElem?_cons_succ, List.getElem?_cons_zero, e_draw, g_nil, g_cons, g_want, g_skip, g_val, g_call, g_ret, Option.map_none, hl, CP, bq1, bq2, bq3, bq4, ex_tup]
      exact rfl, ?_⟩
  show P53_1 _ _
  exact ⟨by simp [hl], by simp [hl]⟩
theorem R53_3 (pe : Nat → Fr53 → ASt → Prop) (pr : Fr53 → ASt → Prop) : Ref Cp P53_4 (Cat [true, true, false, true, true, true, true, true, false, true, true, false] (bodyOf Tryz.f53)) m53_3 (post P53_3 pe pr) := by
  rintro s ⟨t, h⟩ hp x s' hm
  have hp : P53_4' s t h := hp
  obtain ⟨w0_0, w1_0, hl, a0, r0_0, a1, r1_0, a5, a12, a13⟩ := hp
  unfold m53_3 at hm
  obtain ⟨y5, hy5, hm⟩ := Option.bind_eq_some_iff.1 hm
  obtain ⟨cu6, du6, eu6, iu6, _⟩ := Sl.ix rS_p r0_0 hy5
  subst eu6
  obtain ⟨y7, hy7, hm⟩ := Option.bind_eq_some_iff.1 hm
  obtain ⟨cu8, du8, eu8, iu8, _⟩ := Sl.ix rS_p r1_0 hy7
  subst eu8
  cases hm
  refine ⟨⟨_, _⟩, by
      simp only [bodyOf, Tryz.f53, Cat, Bool.false_eq_true, e_seq, e_region, e_cond, e_block, ex_skip, ex_exit, ex_ret, o_cons, xops_nil, k_want_none, k_want_false, k_val, k_pan, k_call, k_ret, k_seq, k_seq_exit, k_seq_ret, k_true, k_false, k_block, k_block_exit, k_block_ret, k_loop, k_loop_exit, k_loop_ret, awanted, aoper, evalO, put, Option.getD_some, List.getElem?_set, acallOp, abuiltin, List.map_cons, List.map_nil, Nat.reduceEqDiff, Nat.reduceLT, List.length_set, Option.map_some, Option.bind_some, Option.bind_eq_bind, add_i, sub_i, mul_i, eql_i, neq_i, lss_i, leq_i, gtr_i, geq_i, ofV, ofCell, ↓reduceIte, List.cons_append, List.nil_append, List.append_nil, List.getElem?_toArray, List.getElem?_cons_succ, List.getElem?_cons_zero, e_draw, g_nil, g_cons, g_want, g_skip, g_val, g_call, g_ret, Option.map_none, hl, a0, a1, a5, a12, a13, CP, bq1, bq2, bq3, bq4, ex_tup, TyE.ix52, iu6, TyE.ld9, ld_ip, ofc1, List.drop_succ_cons, List.drop_zero, iu8, neq_s]
      rw [k_draw _ _ _ (by kernel_rfl)]
      exact rfl, ?_⟩
  show P53_3 _ _
  exact ⟨w0_0, w1_0, by simp [hl], by simp [a0], r0_0, by simp [a1], r1_0, by simp [a12], by simp [a13], by simp [hl]⟩
theorem R53_4 (pe : Nat → Fr53 → ASt → Prop) (pr : Fr53 → ASt → Prop) : Ref Cp P53_2 (Cat [true, true, false, true, true, true, true, true, false, true, false] (bodyOf Tryz.f53)) m53_4 (post P53_4 pe pr) := by
  rintro s ⟨t, h⟩ hp x s' hm
  have hp : P53_2' s t h := hp
  obtain ⟨w0_0, w1_0, hl, a0, r0_0, a1, r1_0, a12, a13⟩ := hp
  unfold m53_4 at hm
  cases hm
  refine ⟨⟨_, _⟩, by
      simp only [bodyOf, Tryz.f53, Cat, Bool.false_eq_true, e_seq, e_region, e_cond, e_block, ex_skip, ex_exit, ex_ret, o_cons, xops_nil, k_want_none, k_want_false, k_val, k_pan, k_call, k_ret, k_seq, k_seq_exit, k_seq_ret, k_true, k_false, k_block, k_block_exit, k_block_ret, k_loop, k_loop_exit, k_loop_ret, awanted, aoper, evalO, put, Option.getD_some, List.getElem?_set, acallOp, abuiltin, List.map_cons, List.map_nil, Nat.reduceEqDiff, Nat.reduceLT, List.length_set, Option.map_some, Option.bind_some, Option.bind_eq_bind, add_i, sub_i, mul_i, eql_i, neq_i, lss_i, leq_i, gtr_i, geq_i, ofV, ofCell, ↓reduceIte, List.cons_append, List.nil_append, List.append_nil, List.getElem?_toArray, List.getElem?_cons_succ, List.getElem?_cons_zero, e_draw, g_nil, g_cons, g_want, g_skip, g_val, g_call, g_ret, Option.map_none, hl, a0, a1, a12, a13, CP, bq1, bq2, bq3, bq4, ex_tup]
      exact rfl, ?_⟩
  show P53_4 _ _
  exact ⟨w0_0, w1_0, by simp [hl], by simp [a0], r0_0, by simp [a1], r1_0, by simp [hl], by simp [a12], by simp [a13]⟩
theorem R53_5 (pe : Nat → Fr53 → ASt → Prop) (pr : Fr53 → ASt → Prop) : Ref Cp P53_2 (Cat [true, true, false, true, true, true, false] (bodyOf Tryz.f53)) m53_5 (post P53_5 pe pr) := by
  rintro s ⟨t, h⟩ hp x s' hm
  have hp : P53_2' s t h := hp
  obtain ⟨w0_0, w1_0, hl, a0, r0_0, a1, r1_0, a12, a13⟩ := hp
  unfold m53_5 at hm
  cases hm
  refine ⟨⟨_, _⟩, by
      simp only [bodyOf, Tryz.f53, Cat, Bool.false_eq_true, e_seq, e_region, e_cond, e_block, ex_skip, ex_exit, ex_ret, o_cons, xops_nil, k_want_none, k_want_false, k_val, k_pan, k_call, k_ret, k_seq, k_seq_exit, k_seq_ret, k_true, k_false, k_block, k_block_exit, k_block_ret, k_loop, k_loop_exit, k_loop_ret, awanted, aoper, evalO, put, Option.getD_some, List.getElem?_set, acallOp, abuiltin, List.map_cons, List.map_nil, Nat.reduceEqDiff, Nat.reduceLT, List.length_set, Option.map_some, Option.bind_some, Option.bind_eq_bind, add_i, sub_i, mul_i, eql_i, neq_i, lss_i, leq_i, gtr_i, geq_i, ofV, ofCell, ↓reduceIte, List.cons_append, List.nil_append, List.append_nil, List.getElem?_toArray, List.getElem?_cons_succ, List.getElem?_cons_zero, e_draw, g_nil, g_cons, g_want, g_skip, g_val, g_call, g_ret, Option.map_none, hl, a0, a1, a12, a13, CP, bq1, bq2, bq3, bq4, ex_tup]
      exact rfl, ?_⟩
  show P53_5 _ _
  exact ⟨w0_0, w1_0, by simp [hl], by simp [a0], r0_0, by simp [a1], r1_0, by simp [a12], by simp [a13], by simp [hl]⟩
theorem R53_7 (pe : Nat → Fr53 → ASt → Prop) (pr : Fr53 → ASt → Prop) : Ref Cp P53_6 (Cat [true, true, false, false] (bodyOf Tryz.f53)) m53_7 (post P53_2 pe pr) := by
  rintro s ⟨t, h⟩ hp x s' hm
  have hp : P53_6' s t h := hp
  obtain ⟨w0_0, w1_0, hl, a0, r0_0, a1, r1_0⟩ := hp
  unfold m53_7 at hm
  have lu10 := fun h => Sl.len r0_0 TyE.un52 h
  cases hm
  refine ⟨⟨_, _⟩, by
      simp only [bodyOf, Tryz.f53, Cat, Bool.false_eq_true, e_seq, e_region, e_cond, e_block, ex_skip, ex_exit, ex_ret, o_cons, xops_nil, k_want_none, k_want_false, k_val, k_pan, k_call, k_ret, k_seq, k_seq_exit, k_seq_ret, k_true, k_false, k_block, k_block_exit, k_block_ret, k_loop, k_loop_exit, k_loop_ret, awanted, aoper, evalO, put, Option.getD_some, List.getElem?_set, acallOp, abuiltin, List.map_cons, List.map_nil, Nat.reduceEqDiff, Nat.reduceLT, List.length_set, Option.map_some, Option.bind_some, Option.bind_eq_bind, add_i, sub_i, mul_i, eql_i, neq_i, lss_i, leq_i, gtr_i, geq_i, ofV, ofCell, ↓reduceIte, List.cons_append, List.nil_append, List.append_nil, List.getElem?_toArray, List.getElem?_cons_succ, List.getElem?_cons_zero, e_draw, g_nil, g_cons, g_want, g_skip, g_val, g_call, g_ret, Option.map_none, hl, a0, a1, CP, bq1, bq2, bq3, bq4, ex_tup, lu10]
      exact rfl, ?_⟩
  show P53_2 _ _
  exact ⟨w0_0, w1_0, by simp [hl], by simp [a0], r0_0, by simp [a1], r1_0, by simp [hl], by simp [hl]⟩
theorem R53_8 (pe : Nat → Fr53 → ASt → Prop) (pr : Fr53 → ASt → Prop) : Ref Cp P53_0 (Cat [true, false, true, false, false] (bodyOf Tryz.f53)) m53_8 (post P53_1 pe pr) := by
  rintro s ⟨t, h⟩ hp x s' hm
  have hp : P53_0' s t h := hp
  obtain ⟨hl, _⟩ := hp
  unfold m53_8 at hm
  cases hm
  refine ⟨⟨_, _⟩, by
      simp only [bodyOf, Tryz.f53, Cat, Bool.false_eq_true, e_seq, e_region, e_cond, e_block, ex_skip, ex_exit, ex_ret, o_cons, xops_nil, k_want_none, k_want_false, k_val, k_pan, k_call, k_ret, k_seq, k_seq_exit, k_seq_ret, k_true, k_false, k_block, k_block_exit, k_block_ret, k_loop, k_loop_exit, k_loop_ret, awanted, aoper, evalO, put, Option.getD_some, List.getElem?_set, acallOp, abuiltin, List.map_cons, List.map_nil, Nat.reduceEqDiff, Nat.reduceLT, List.length_set, Option.map_some, Option.bind_some, Option.bind_eq_bind, add_i, sub_i, mul_i, eql_i, neq_i, lss_i, leq_i, gtr_i, geq_i, ofV, ofCell, ↓reduceIte, List.cons_append, List.nil_append, List.append_nil, List.getElem?_toArray, List.getElem?_cons_succ, List.getElem?_cons_zero, e_draw, g_nil, g_cons, g_want, g_skip, g_val, g_call, g_ret, Option.map_none, hl, CP, bq1, bq2, bq3, bq4, ex_tup]
      exact rfl, ?_⟩
  show P53_1 _ _
  exact ⟨by simp [hl], by simp [hl]⟩
theorem R53_9 (pe : Nat → Fr53 → ASt → Prop) (pr : Fr53 → ASt → Prop) : Ref Cp P53_6 (Cat [true, false, false] (bodyOf Tryz.f53)) m53_9 (post P53_7 pe pr) := by
  rintro s ⟨t, h⟩ hp x s' hm
  have hp : P53_6' s t h := hp
  obtain ⟨w0_0, w1_0, hl, a0, r0_0, a1, r1_0⟩ := hp
  unfold m53_9 at hm
  have lu13 := fun h => Sl.len r0_0 TyE.un52 h
  have lu14 := fun h => Sl.len r1_0 TyE.un52 h
  cases hm
  refine ⟨⟨_, _⟩, by
      simp only [bodyOf, Tryz.f53, Cat, Bool.false_eq_true, e_seq, e_region, e_cond, e_block, ex_skip, ex_exit, ex_ret, o_cons, xops_nil, k_want_none, k_want_false, k_val, k_pan, k_call, k_ret, k_seq, k_seq_exit, k_seq_ret, k_true, k_false, k_block, k_block_exit, k_block_ret, k_loop, k_loop_exit, k_loop_ret, awanted, aoper, evalO, put, Option.getD_some, List.getElem?_set, acallOp, abuiltin, List.map_cons, List.map_nil, Nat.reduceEqDiff, Nat.reduceLT, List.length_set, Option.map_some, Option.bind_some, Option.bind_eq_bind, add_i, sub_i, mul_i, eql_i, neq_i, lss_i, leq_i, gtr_i, geq_i, ofV, ofCell, ↓reduceIte, List.cons_append, List.nil_append, List.append_nil, List.getElem?_toArray, List.getElem?_cons_succ, List.getElem?_cons_zero, e_draw, g_nil, g_cons, g_want, g_skip, g_val, g_call, g_ret, Option.map_none, hl, a0, a1, CP, bq1, bq2, bq3, bq4, ex_tup, lu13, lu14]
      exact rfl, ?_⟩
  show P53_7 _ _
  exact ⟨w0_0, w1_0, by simp [hl], by simp [a0], r0_0, by simp [a1], r1_0, by simp [hl]⟩
theorem R53_10 (pe : Nat → Fr53 → ASt → Prop) (pr : Fr53 → ASt → Prop) : Ref Cp P53_6 (Cat [false] (bodyOf Tryz.f53)) m53_10 (post P53_6 pe pr) := by
  rintro s ⟨t, h⟩ hp x s' hm
  have hp : P53_6' s t h := hp
  obtain ⟨w0_0, w1_0, hl, a0, r0_0, a1, r1_0⟩ := hp
  unfold m53_10 at hm
  cases hm
  refine ⟨⟨_, _⟩, by
      simp only [bodyOf, Tryz.f53, Cat, Bool.false_eq_true, e_seq, e_region, e_cond, e_block, ex_skip, ex_exit, ex_ret, o_cons, xops_nil, k_want_none, k_want_false, k_val, k_pan, k_call, k_ret, k_seq, k_seq_exit, k_seq_ret, k_true, k_false, k_block, k_block_exit, k_block_ret, k_loop, k_loop_exit, k_loop_ret, awanted, aoper, evalO, put, Option.getD_some, List.getElem?_set, acallOp, abuiltin, List.map_cons, List.map_nil, Nat.reduceEqDiff, Nat.reduceLT, List.length_set, Option.map_some, Option.bind_some, Option.bind_eq_bind, add_i, sub_i, mul_i, eql_i, neq_i, lss_i, leq_i, gtr_i, geq_i, ofV, ofCell, ↓reduceIte, List.cons_append, List.nil_append, List.append_nil, List.getElem?_toArray, List.getElem?_cons_succ, List.getElem?_cons_zero, e_draw, g_nil, g_cons, g_want, g_skip, g_val, g_call, g_ret, Option.map_none, hl, a0, a1, CP, bq1, bq2, bq3, bq4, ex_tup]
      exact rfl, ?_⟩
  show P53_6 _ _
  exact ⟨w0_0, w1_0, by simp [hl], by simp [a0], r0_0, by simp [a1], r1_0⟩
theorem B53 : Ref Cp P53_6 (bodyOf Tryz.f53) (M53) (post P53_1 (fun _ _ _ => False) P53_1) := by
  rw [show bodyOf Tryz.f53 = .seq (Cat [false] (bodyOf Tryz.f53)) (.seq (.seq (Cat [true, false, false] (bodyOf Tryz.f53)) (.cond (.tmp 10) (.seq (Cat [true, false, true, false, false] (bodyOf Tryz.f53)) (.ret)) (.skip))) (.seq (.seq (Cat [true, true, false, false] (bodyOf Tryz.f53)) (.block 0 (.loop (.seq (Cat [true, true, false, true, true, true, false] (bodyOf Tryz.f53)) (.seq (.cond (.tmp 14) (.skip) (.exit 0)) (.seq (.block 1 (.seq (Cat [true, true, false, true, true, true, true, true, false, true, false] (bodyOf Tryz.f53)) (.seq (Cat [true, true, false, true, true, true, true, true, false, true, true, false] (bodyOf Tryz.f53)) (.cond (.tmp 24) (.seq (Cat [true, true, false, true, true, true, true, true, false, true, true, true, false, false] (bodyOf Tryz.f53)) (.ret)) (.skip))))) (Cat [true, true, false, true, true, true, true, true, true] (bodyOf Tryz.f53)))))))) (.seq (Cat [true, true, true, false] (bodyOf Tryz.f53)) (.ret)))) from rfl]
  unfold M53
  exact ref_seq (M := P53_6) (R53_10 _ _) (ref_seq (M := P53_6) (ref_seq (M := P53_7) (R53_9 _ _) (ref_cond (P := P53_7) (c := fun s => s.t10) (fun s st hp => by obtain ⟨w0_0, w1_0, hl, a0, r0_0, a1, r1_0, a10⟩ := (hp : P53_7' s st.tmps st.h); simp only [evalO, a10, Option.getD_some]) (ref_weak (P' := P53_0) (fun s st hp => by obtain ⟨w0_0, w1_0, hl, a0, r0_0, a1, r1_0, a10⟩ := (hp : P53_7' s st.tmps st.h); exact (⟨hl, trivial⟩ : P53_0' s st.tmps st.h)) (ref_seq (M := P53_1) (R53_8 _ _) (ref_ret (fun s st hp => hp)))) (ref_weak (P' := P53_6) (fun s st hp => by obtain ⟨w0_0, w1_0, hl, a0, r0_0, a1, r1_0, a10⟩ := (hp : P53_7' s st.tmps st.h); exact (⟨w0_0, w1_0, hl, a0, r0_0, a1, r1_0⟩ : P53_6' s st.tmps st.h)) (ref_skip (fun s st hp => hp))))) (ref_seq (M := P53_0) (ref_seq (M := P53_2) (R53_7 _ _) (ref_block (ref_loop (P := P53_2) (ref_weak (P' := P53_2) (fun s st hp => hp) (ref_seq (M := P53_5) (R53_5 _ _) (ref_seq (M := P53_2) (ref_cond (P := P53_5) (c := fun s => s.t14) (fun s st hp => by obtain ⟨w0_0, w1_0, hl, a0, r0_0, a1, r1_0, a12, a13, a14⟩ := (hp : P53_5' s st.tmps st.h); simp only [evalO, a14, Option.getD_some]) (ref_weak (P' := P53_2) (fun s st hp => by obtain ⟨w0_0, w1_0, hl, a0, r0_0, a1, r1_0, a12, a13, a14⟩ := (hp : P53_5' s st.tmps st.h); exact (⟨w0_0, w1_0, hl, a0, r0_0, a1, r1_0, a12, a13⟩ : P53_2' s st.tmps st.h)) (ref_skip (fun s st hp => hp))) (ref_weak (P' := P53_0) (fun s st hp => by obtain ⟨w0_0, w1_0, hl, a0, r0_0, a1, r1_0, a12, a13, a14⟩ := (hp : P53_5' s st.tmps st.h); exact (⟨hl, trivial⟩ : P53_0' s st.tmps st.h)) (ref_exit (fun s st hp => hp)))) (ref_seq (M := P53_2) (ref_block (ref_seq (M := P53_4) (R53_4 _ _) (ref_seq (M := P53_3) (R53_3 _ _) (ref_cond (P := P53_3) (c := fun s => s.t24) (fun s st hp => by obtain ⟨w0_0, w1_0, hl, a0, r0_0, a1, r1_0, a12, a13, a24⟩ := (hp : P53_3' s st.tmps st.h); simp only [evalO, a24, Option.getD_some]) (ref_weak (P' := P53_0) (fun s st hp => by obtain ⟨w0_0, w1_0, hl, a0, r0_0, a1, r1_0, a12, a13, a24⟩ := (hp : P53_3' s st.tmps st.h); exact (⟨hl, trivial⟩ : P53_0' s st.tmps st.h)) (ref_seq (M := P53_1) (R53_2 _ _) (ref_ret (fun s st hp => hp)))) (ref_weak (P' := P53_2) (fun s st hp => by obtain ⟨w0_0, w1_0, hl, a0, r0_0, a1, r1_0, a12, a13, a24⟩ := (hp : P53_3' s st.tmps st.h); exact (⟨w0_0, w1_0, hl, a0, r0_0, a1, r1_0, a12, a13⟩ : P53_2' s st.tmps st.h)) (ref_skip (fun s st hp => hp))))))) (R53_1 _ _)))))))) (ref_seq (M := P53_1) (R53_0 _ _) (ref_ret (fun s st hp => hp)))))
noncomputable def G53 (x0 : (List (List UInt8))) (x1 : (List (List UInt8))) : Option Bool := match M53 { (default : Fr53) with t0 := x0, t1 := x1 } with
  | some (.nrm, s) => some s.t4
  | some (.ret, s) => some s.t4
  | _ => none
theorem G53_spec : Spec53 (G53) := by
  intro x0 x1 vx0_0 hvx0_0 vx1_0 hvx1_0 r hr
  unfold G53 at hr
  cases hm : M53 { (default : Fr53) with t0 := x0, t1 := x1 } with
  | none => rw [hm] at hr; cases hr
  | some q =>
    obtain ⟨x, s⟩ := q
    rw [hm] at hr
    have hx : x = .nrm ∨ x = .ret := by cases x <;> first | exact .inl rfl | exact .inr rfl | cases hr
    have hr : s.t4 = r := by cases x <;> first | exact Option.some.inj hr | cases hr
    subst hr
    have hp0 : P53_6' ({ (default : Fr53) with t0 := x0, t1 := x1 }) (slots Tryz.f53 (stripL [vx0_0, vx1_0])) bare := ⟨(strip vx0_0 : AVal), (strip vx1_0 : AVal), rfl, rfl, hvx0_0.strip rS_p, rfl, hvx1_0.strip rS_p⟩
    obtain ⟨v, hR, hrun⟩ := run_of_ref (C := Cp) (f := 53) (fn := Tryz.f53) Tryz.func53 rfl rfl rfl rfl (args := [vx0_0, vx1_0]) (by simp only [refsL, refs, List.append_nil, hvx0_0.refs rS_p, hvx1_0.refs rS_p]) (B53) (s0 := { (default : Fr53) with t0 := x0, t1 := x1 }) hp0 hm hx (R := fun v => v = .bool s.t4) (by
      have key : ∀ st : ASt, P53_1 s st → ∃ vs v, aresults Cp Tryz.f53.results.toList st = some vs ∧ Nrm [] st.h (packRes vs) v ∧ (fun v => v = .bool s.t4) v := by
        intro st hp
        obtain ⟨hl, a4⟩ := (hp : P53_1' s st.tmps st.h)
        exact ⟨[.bool s.t4], _, by simp only [show Tryz.f53.results.toList = [ResultVar.tmp 4] from rfl, aresults, ares1, CP, a4, Option.getD_some], (Nrm.of (w := .bool s.t4) (by simp only [refsL, refs, List.append_nil])), rfl⟩
      intro st hq
      rcases hx with rfl | rfl
      · exact key st hq
      · exact key st hq)
    subst hR
    exact hrun
/-! ### slices.EqualFunc[[][]string,[][]string,[]string,[]string] -/
structure Fr54 where
  t0 : (List (List (List UInt8)))
  t1 : (List (List (List UInt8)))
  t2 : ((List (List UInt8)) → (List (List UInt8)) → Option Bool)
  t6 : Bool
  t7 : Int
  t8 : (List (List UInt8))
  t9 : (List (List UInt8))
  t14 : Bool
  t15 : (List (List (List UInt8)))
  t16 : Int
  t17 : Int
  t18 : Bool
  t30 : Bool
instance : Inhabited Fr54 := ⟨⟨[], [], (fun _ _ => none), false, 0, [], [], false, [], 0, 0, false, false⟩⟩
def P54_0' (s : Fr54) (t : List AVal) (h : AHeap) : Prop := t.length = 32 ∧ True
def P54_0 (s : Fr54) (st : ASt) : Prop := P54_0' s st.tmps st.h
def P54_1' (s : Fr54) (t : List AVal) (h : AHeap) : Prop := t.length = 32 ∧ t[6]? = some (.bool s.t6)
def P54_1 (s : Fr54) (st : ASt) : Prop := P54_1' s st.tmps st.h
def P54_2' (s : Fr54) (t : List AVal) (h : AHeap) : Prop := ∃ w1_0 w2_0 w15_0, t.length = 32 ∧ t[1]? = some w1_0 ∧ Sl (rSl rS) s.t1 w1_0 ∧ t[2]? = some w2_0 ∧ rFnE0 s.t2 w2_0 ∧ t[15]? = some w15_0 ∧ Sl (rSl rS) s.t15 w15_0 ∧ t[16]? = some (.int .i64 s.t16) ∧ t[17]? = some (.int .i64 s.t17)
def P54_2 (s : Fr54) (st : ASt) : Prop := P54_2' s st.tmps st.h
def P54_3' (s : Fr54) (t : List AVal) (h : AHeap) : Prop := ∃ w1_0 w2_0 w15_0, t.length = 32 ∧ t[1]? = some w1_0 ∧ Sl (rSl rS) s.t1 w1_0 ∧ t[2]? = some w2_0 ∧ rFnE0 s.t2 w2_0 ∧ t[15]? = some w15_0 ∧ Sl (rSl rS) s.t15 w15_0 ∧ t[16]? = some (.int .i64 s.t16) ∧ t[17]? = some (.int .i64 s.t17) ∧ t[30]? = some (.bool s.t30)
def P54_3 (s : Fr54) (st : ASt) : Prop := P54_3' s st.tmps st.h
def P54_4' (s : Fr54) (t : List AVal) (h : AHeap) : Prop := ∃ w1_0 w2_0 w8_0 w9_0 w15_0, t.length = 32 ∧ t[1]? = some w1_0 ∧ Sl (rSl rS) s.t1 w1_0 ∧ t[2]? = some w2_0 ∧ rFnE0 s.t2 w2_0 ∧ t[8]? = some w8_0 ∧ Sl rS s.t8 w8_0 ∧ t[9]? = some w9_0 ∧ Sl rS s.t9 w9_0 ∧ t[15]? = some w15_0 ∧ Sl (rSl rS) s.t15 w15_0 ∧ t[16]? = some (.int .i64 s.t16) ∧ t[17]? = some (.int .i64 s.t17)
def P54_4 (s : Fr54) (st : ASt) : Prop := P54_4' s st.tmps st.h
def P54_5' (s : Fr54) (t : List AVal) (h : AHeap) : Prop := ∃ w1_0 w2_0 w8_0 w15_0, t.length = 32 ∧ t[1]? = some w1_0 ∧ Sl (rSl rS) s.t1 w1_0 ∧ t[2]? = some w2_0 ∧ rFnE0 s.t2 w2_0 ∧ t[7]? = some (.int .i64 s.t7) ∧ t[8]? = some w8_0 ∧ Sl rS s.t8 w8_0 ∧ t[15]? = some w15_0 ∧ Sl (rSl rS) s.t15 w15_0 ∧ t[16]? = some (.int .i64 s.t16) ∧ t[17]? = some (.int .i64 s.t17)
def P54_5 (s : Fr54) (st : ASt) : Prop := P54_5' s st.tmps st.h
def P54_6' (s : Fr54) (t : List AVal) (h : AHeap) : Prop := ∃ w1_0 w2_0 w15_0, t.length = 32 ∧ t[1]? = some w1_0 ∧ Sl (rSl rS) s.t1 w1_0 ∧ t[2]? = some w2_0 ∧ rFnE0 s.t2 w2_0 ∧ t[15]? = some w15_0 ∧ Sl (rSl rS) s.t15 w15_0 ∧ t[16]? = some (.int .i64 s.t16) ∧ t[17]? = some (.int .i64 s.t17) ∧ t[18]? = some (.bool s.t18)
def P54_6 (s : Fr54) (st : ASt) : Prop := P54_6' s st.tmps st.h
def P54_7' (s : Fr54) (t : List AVal) (h : AHeap) : Prop := ∃ w0_0 w1_0 w2_0, t.length = 32 ∧ t[0]? = some w0_0 ∧ Sl (rSl rS) s.t0 w0_0 ∧ t[1]? = some w1_0 ∧ Sl (rSl rS) s.t1 w1_0 ∧ t[2]? = some w2_0 ∧ rFnE0 s.t2 w2_0
def P54_7 (s : Fr54) (st : ASt) : Prop := P54_7' s st.tmps st.h
def P54_8' (s : Fr54) (t : List AVal) (h : AHeap) : Prop := ∃ w0_0 w1_0 w2_0, t.length = 32 ∧ t[0]? = some w0_0 ∧ Sl (rSl rS) s.t0 w0_0 ∧ t[1]? = some w1_0 ∧ Sl (rSl rS) s.t1 w1_0 ∧ t[2]? = some w2_0 ∧ rFnE0 s.t2 w2_0 ∧ t[14]? = some (.bool s.t14)
def P54_8 (s : Fr54) (st : ASt) : Prop := P54_8' s st.tmps st.h
noncomputable def m54_0 : Mo Fr54 := fun s => some (.nrm, { s with t6 := true })
noncomputable def m54_1 : Mo Fr54 := fun s => some (.nrm, { s with t17 := IntKind.wrap .i64 (s.t17 + 1) })
noncomputable def m54_2 : Mo Fr54 := fun s => some (.nrm, { s with t6 := false })
noncomputable def m54_3 : Mo Fr54 := fun s => (s.t2 s.t8 s.t9).bind fun z1 => some (.nrm, { s with t30 := (!z1) })
noncomputable def m54_4 : Mo Fr54 := fun s => (at? s.t1 s.t7).bind fun y5 => some (.nrm, { s with t9 := y5 })
noncomputable def m54_5 : Mo Fr54 := fun s => (at? s.t15 s.t17).bind fun y9 => some (.nrm, { s with t7 := s.t17, t8 := y9 })
noncomputable def m54_6 : Mo Fr54 := fun s => some (.nrm, { s with t18 := decide (s.t17 < s.t16) })
noncomputable def L54_7 : Mo Fr54 := seqM (m54_6) (seqM (condM (fun s => s.t18) (skipM) (exitM 0)) (seqM (blockM 1 (seqM (m54_5) (seqM (m54_4) (seqM (m54_3) (condM (fun s => s.t30) (seqM (m54_2) (retM)) (skipM)))))) (m54_1)))
noncomputable def m54_8 : Mo Fr54 := fun s => some (.nrm, { s with t15 := s.t0, t16 := (s.t0.length : Int), t17 := 0 })
noncomputable def m54_9 : Mo Fr54 := fun s => some (.nrm, { s with t6 := false })
noncomputable def m54_10 : Mo Fr54 := fun s => some (.nrm, { s with t14 := ((s.t0.length : Int) != (s.t1.length : Int)) })
noncomputable def m54_11 : Mo Fr54 := fun s => some (.nrm, s)
noncomputable def M54 : Mo Fr54 := seqM (m54_11) (seqM (seqM (m54_10) (condM (fun s => s.t14) (seqM (m54_9) (retM)) (skipM))) (seqM (seqM (m54_8) (blockM 0 (loopM (L54_7)))) (seqM (m54_0) (retM))))
def Spec54 (f : (List (List (List UInt8))) → (List (List (List UInt8))) → ((List (List UInt8)) → (List (List UInt8)) → Option Bool) → Option Bool) : Prop := ∀ (x0 : (List (List (List UInt8)))) (x1 : (List (List (List UInt8)))) (x2 : ((List (List UInt8)) → (List (List UInt8)) → Option Bool)) (vx0_0 : AVal) (_ : Sl (rSl rS) x0 vx0_0) (vx1_0 : AVal) (_ : Sl (rSl rS) x1 vx1_0) (vx2_0 : AVal) (_ : rFnE0 x2 vx2_0) (r : Bool), f x0 x1 x2 = some r → ∀ h, run Cp 54 [vx0_0, vx1_0, vx2_0] h = some (.ret (.bool r), h)
theorem Spec54_of {f g : (List (List (List UInt8))) → (List (List (List UInt8))) → ((List (List UInt8)) → (List (List UInt8)) → Option Bool) → Option Bool} (hg : Spec54 g) (h : ∀ x0 x1 x2 r, f x0 x1 x2 = some r → g x0 x1 x2 = some r) : Spec54 f := fun x0 x1 x2 v0_ w0_ v1_ w1_ v2_ w2_ r hr => hg x0 x1 x2 v0_ w0_ v1_ w1_ v2_ w2_ r (h x0 x1 x2 r hr)
theorem R54_0 (pe : Nat → Fr54 → ASt → Prop) (pr : Fr54 → ASt → Prop) : Ref Cp P54_0 (Cat [true, true, true, false] (bodyOf Tryz.f54)) m54_0 (post P54_1 pe pr) := by
  rintro s ⟨t, h⟩ hp x s' hm
  have hp : P54_0' s t h := hp
  obtain ⟨hl, _⟩ := hp
  unfold m54_0 at hm
  cases hm
  refine ⟨⟨_, _⟩, by
      simp only [bodyOf, Tryz.f54, Cat, Bool.false_eq_true, e_seq, e_region, e_cond, e_block, ex_skip, ex_exit, ex_ret, o_cons, xops_nil, k_want_none, k_want_false, k_val, k_pan, k_call, k_ret, k_seq, k_seq_exit, k_seq_ret, k_true, k_false, k_block, k_block_exit, k_block_ret, k_loop, k_loop_exit, k_loop_ret, awanted, aoper, evalO, put, Option.getD_some, List.getElem?_set, acallOp, abuiltin, List.map_cons, List.map_nil, Nat.reduceEqDiff, Nat.reduceLT, List.length_set, Option.map_some, Option.bind_some, Option.bind_eq_bind, add_i, sub_i, mul_i, eql_i, neq_i, lss_i, leq_i, gtr_i, geq_i, ofV, ofCell, ↓reduceIte, List.cons_append, List.nil_append, List.append_nil, List.getElem?_toArray, List.getElem?_cons_succ, List.getElem?_cons_zero, e_draw, g_nil, g_cons, g_want, g_skip, g_val, g_call, g_ret, Option.map_none, hl, CP, bq1, bq2, bq3, bq4, ex_tup]
      exact rfl, ?_⟩
  show P54_1 _ _
  exact ⟨by simp [hl], by simp [hl]⟩
theorem R54_1 (pe : Nat → Fr54 → ASt → Prop) (pr : Fr54 → ASt → Prop) : Ref Cp P54_2 (Cat [true, true, false, true, true, true, true, true, true] (bodyOf Tryz.f54)) m54_1 (post P54_2 pe pr) := by
  rintro s ⟨t, h⟩ hp x s' hm
  have hp : P54_2' s t h := hp
  obtain ⟨w1_0, w2_0, w15_0, hl, a1, r1_0, a2, r2_0, a15, r15_0, a16, a17⟩ := hp
  unfold m54_1 at hm
  cases hm
  refine ⟨⟨_, _⟩, by
      simp only [bodyOf, Tryz.f54, Cat, Bool.false_eq_true, e_seq, e_region, e_cond, e_block, ex_skip, ex_exit, ex_ret, o_cons, xops_nil, k_want_none, k_want_false, k_val, k_pan, k_call, k_ret, k_seq, k_seq_exit, k_seq_ret, k_true, k_false, k_block, k_block_exit, k_block_ret, k_loop, k_loop_exit, k_loop_ret, awanted, aoper, evalO, put, Option.getD_some, List.getElem?_set, acallOp, abuiltin, List.map_cons, List.map_nil, Nat.reduceEqDiff, Nat.reduceLT, List.length_set, Option.map_some, Option.bind_some, Option.bind_eq_bind, add_i, sub_i, mul_i, eql_i, neq_i, lss_i, leq_i, gtr_i, geq_i, ofV, ofCell, ↓reduceIte, List.cons_append, List.nil_append, List.append_nil, List.getElem?_toArray, List.getElem?_cons_succ, List.getElem?_cons_zero, e_draw, g_nil, g_cons, g_want, g_skip, g_val, g_call, g_ret, Option.map_none, hl, a1, a2, a15, a16, a17, CP, bq1, bq2, bq3, bq4, ex_tup]
      exact rfl, ?_⟩
  show P54_2 _ _
  exact ⟨w1_0, w2_0, w15_0, by simp [hl], by simp [a1], r1_0, by simp [a2], r2_0, by simp [a15], r15_0, by simp [a16], by simp [hl]⟩
theorem R54_2 (pe : Nat → Fr54 → ASt → Prop) (pr : Fr54 → ASt → Prop) : Ref Cp P54_0 (Cat [true, true, false, true, true, true, true, true, false, true, true, true, true, false, false] (bodyOf Tryz.f54)) m54_2 (post P54_1 pe pr) := by
  rintro s ⟨t, h⟩ hp x s' hm
  have hp : P54_0' s t h := hp
  obtain ⟨hl, _⟩ := hp
  unfold m54_2 at hm
  cases hm
  refine ⟨⟨_, _⟩, by
      simp only [bodyOf, Tryz.f54, Cat, Bool.false_eq_true, e_seq, e_region, e_cond, e_block, ex_skip, ex_exit, ex_ret, o_cons, xops_nil, k_want_none, k_want_false, k_val, k_pan, k_call, k_ret, k_seq, k_seq_exit, k_seq_ret, k_true, k_false, k_block, k_block_exit, k_block_ret, k_loop, k_loop_exit, k_loop_ret, awanted, aoper, evalO, put, Option.getD_some, List.getElem?_set, acallOp, abuiltin, List.map_cons, List.map_nil, Nat.reduceEqDiff, Nat.reduceLT, List.length_set, Option.map_some, Option.bind_some, Option.bind_eq_bind, add_i, sub_i, mul_i, eql_i, neq_i, lss_i, leq_i, gtr_i, geq_i, ofV, ofCell, ↓reduceIte, List.cons_append, List.nil_append, List.append_nil, List.getElem?_toArray, List.getElem?_cons_succ, List.getElem?_cons_zero, e_draw, g_nil, g_cons, g_want, g_skip, g_val, g_call, g_ret, Option.map_none, hl, CP, bq1, bq2, bq3, bq4, ex_tup]
      exact rfl, ?_⟩
  show P54_1 _ _
  exact ⟨by simp [hl], by simp [hl]⟩
theorem R54_3 (pe : Nat → Fr54 → ASt → Prop) (pr : Fr54 → ASt → Prop) : Ref Cp P54_4 (Cat [true, true, false, true, true, true, true, true, false, true, true, true, false] (bodyOf Tryz.f54)) m54_3 (post P54_3 pe pr) := by
  rintro s ⟨t, h⟩ hp x s' hm
  have hp : P54_4' s t h := hp
  obtain ⟨w1_0, w2_0, w8_0, w9_0, w15_0, hl, a1, r1_0, a2, r2_0, a8, r8_0, a9, r9_0, a15, r15_0, a16, a17⟩ := hp
  unfold m54_3 at hm
  obtain ⟨z3, hz3, hm⟩ := Option.bind_eq_some_iff.1 hm
  obtain ⟨Fu4, qu4, Hu4⟩ := r2_0
  subst qu4
  have iu4 := Hu4 s.t8 s.t9 _ r8_0 _ r9_0 _ hz3
  cases hm
  refine ⟨⟨_, _⟩, by
      simp only [bodyOf, Tryz.f54, Cat, Bool.false_eq_true, e_seq, e_region, e_cond, e_block, ex_skip, ex_exit, ex_ret, o_cons, xops_nil, k_want_none, k_want_false, k_val, k_pan, k_call, k_ret, k_seq, k_seq_exit, k_seq_ret, k_true, k_false, k_block, k_block_exit, k_block_ret, k_loop, k_loop_exit, k_loop_ret, awanted, aoper, evalO, put, Option.getD_some, List.getElem?_set, acallOp, abuiltin, List.map_cons, List.map_nil, Nat.reduceEqDiff, Nat.reduceLT, List.length_set, Option.map_some, Option.bind_some, Option.bind_eq_bind, add_i, sub_i, mul_i, eql_i, neq_i, lss_i, leq_i, gtr_i, geq_i, ofV, ofCell, ↓reduceIte, List.cons_append, List.nil_append, List.append_nil, List.getElem?_toArray, List.getElem?_cons_succ, List.getElem?_cons_zero, e_draw, g_nil, g_cons, g_want, g_skip, g_val, g_call, g_ret, Option.map_none, hl, a1, a2, a8, a9, a15, a16, a17, CP, bq1, bq2, bq3, bq4, ex_tup, iu4, aun_not]
      exact rfl, ?_⟩
  show P54_3 _ _
  exact ⟨w1_0, (.fn (.func Fu4) [] [] : AVal), w15_0, by simp [hl], by simp [a1], r1_0, by simp [a2], ⟨Fu4, rfl, Hu4⟩, by simp [a15], r15_0, by simp [a16], by simp [a17], by simp [hl]⟩
theorem R54_4 (pe : Nat → Fr54 → ASt → Prop) (pr : Fr54 → ASt → Prop) : Ref Cp P54_5 (Cat [true, true, false, true, true, true, true, true, false, true, true, false] (bodyOf Tryz.f54)) m54_4 (post P54_4 pe pr) := by
  rintro s ⟨t, h⟩ hp x s' hm
  have hp : P54_5' s t h := hp
  obtain ⟨w1_0, w2_0, w8_0, w15_0, hl, a1, r1_0, a2, r2_0, a7, a8, r8_0, a15, r15_0, a16, a17⟩ := hp
  unfold m54_4 at hm
  obtain ⟨y7, hy7, hm⟩ := Option.bind_eq_some_iff.1 hm
  obtain ⟨cu8, du8, eu8, iu8, _⟩ := Sl.ix (rSl_p rS_p) r1_0 hy7
  obtain ⟨bu8_0, rfl, gu8_0⟩ := eu8
  cases hm
  refine ⟨⟨_, _⟩, by
      simp only [bodyOf, Tryz.f54, Cat, Bool.false_eq_true, e_seq, e_region, e_cond, e_block, ex_skip, ex_exit, ex_ret, o_cons, xops_nil, k_want_none, k_want_false, k_val, k_pan, k_call, k_ret, k_seq, k_seq_exit, k_seq_ret, k_true, k_false, k_block, k_block_exit, k_block_ret, k_loop, k_loop_exit, k_loop_ret, awanted, aoper, evalO, put, Option.getD_some, List.getElem?_set, acallOp, abuiltin, List.map_cons, List.map_nil, Nat.reduceEqDiff, Nat.reduceLT, List.length_set, Option.map_some, Option.bind_some, Option.bind_eq_bind, add_i, sub_i, mul_i, eql_i, neq_i, lss_i, leq_i, gtr_i, geq_i, ofV, ofCell, ↓reduceIte, List.cons_append, List.nil_append, List.append_nil, List.getElem?_toArray, List.getElem?_cons_succ, List.getElem?_cons_zero, e_draw, g_nil, g_cons, g_want, g_skip, g_val, g_call, g_ret, Option.map_none, hl, a1, a2, a7, a8, a15, a16, a17, CP, bq1, bq2, bq3, bq4, ex_tup, TyE.ix63, iu8, TyE.ld52, ld_ip, ofc1, List.drop_succ_cons, List.drop_zero]
      exact rfl, ?_⟩
  show P54_4 _ _
  exact ⟨w1_0, w2_0, w8_0, bu8_0, w15_0, by simp [hl], by simp [a1], r1_0, by simp [a2], r2_0, by simp [a8], r8_0, by simp [hl], gu8_0, by simp [a15], r15_0, by simp [a16], by simp [a17]⟩
theorem R54_5 (pe : Nat → Fr54 → ASt → Prop) (pr : Fr54 → ASt → Prop) : Ref Cp P54_2 (Cat [true, true, false, true, true, true, true, true, false, true, false] (bodyOf Tryz.f54)) m54_5 (post P54_5 pe pr) := by
  rintro s ⟨t, h⟩ hp x s' hm
  have hp : P54_2' s t h := hp
  obtain ⟨w1_0, w2_0, w15_0, hl, a1, r1_0, a2, r2_0, a15, r15_0, a16, a17⟩ := hp
  unfold m54_5 at hm
  obtain ⟨y11, hy11, hm⟩ := Option.bind_eq_some_iff.1 hm
  obtain ⟨cu12, du12, eu12, iu12, _⟩ := Sl.ix (rSl_p rS_p) r15_0 hy11
  obtain ⟨bu12_0, rfl, gu12_0⟩ := eu12
  cases hm
  refine ⟨⟨_, _⟩, by
      simp only [bodyOf, Tryz.f54, Cat, Bool.false_eq_true, e_seq, e_region, e_cond, e_block, ex_skip, ex_exit, ex_ret, o_cons, xops_nil, k_want_none, k_want_false, k_val, k_pan, k_call, k_ret, k_seq, k_seq_exit, k_seq_ret, k_true, k_false, k_block, k_block_exit, k_block_ret, k_loop, k_loop_exit, k_loop_ret, awanted, aoper, evalO, put, Option.getD_some, List.getElem?_set, acallOp, abuiltin, List.map_cons, List.map_nil, Nat.reduceEqDiff, Nat.reduceLT, List.length_set, Option.map_some, Option.bind_some, Option.bind_eq_bind, add_i, sub_i, mul_i, eql_i, neq_i, lss_i, leq_i, gtr_i, geq_i, ofV, ofCell, ↓reduceIte, List.cons_append, List.nil_append, List.append_nil, List.getElem?_toArray, List.getElem?_cons_succ, List.getElem?_cons_zero, e_draw, g_nil, g_cons, g_want, g_skip, g_val, g_call, g_ret, Option.map_none, hl, a1, a2, a15, a16, a17, CP, bq1, bq2, bq3, bq4, ex_tup, TyE.ix63, iu12, TyE.ld52, ld_ip, ofc1, List.drop_succ_cons, List.drop_zero]
      exact rfl, ?_⟩
  show P54_5 _ _
  exact ⟨w1_0, w2_0, bu12_0, w15_0, by simp [hl], by simp [a1], r1_0, by simp [a2], r2_0, by simp [hl], by simp [hl], gu12_0, by simp [a15], r15_0, by simp [a16], by simp [a17]⟩
theorem R54_6 (pe : Nat → Fr54 → ASt → Prop) (pr : Fr54 → ASt → Prop) : Ref Cp P54_2 (Cat [true, true, false, true, true, true, false] (bodyOf Tryz.f54)) m54_6 (post P54_6 pe pr) := by
  rintro s ⟨t, h⟩ hp x s' hm
  have hp : P54_2' s t h := hp
  obtain ⟨w1_0, w2_0, w15_0, hl, a1, r1_0, a2, r2_0, a15, r15_0, a16, a17⟩ := hp
  unfold m54_6 at hm
  cases hm
  refine ⟨⟨_, _⟩, by
      simp only [bodyOf, Tryz.f54, Cat, Bool.false_eq_true, e_seq, e_region, e_cond, e_block, ex_skip, ex_exit, ex_ret, o_cons, xops_nil, k_want_none, k_want_false, k_val, k_pan, k_call, k_ret, k_seq, k_seq_exit, k_seq_ret, k_true, k_false, k_block, k_block_exit, k_block_ret, k_loop, k_loop_exit, k_loop_ret, awanted, aoper, evalO, put, Option.getD_some, List.getElem?_set, acallOp, abuiltin, List.map_cons, List.map_nil, Nat.reduceEqDiff, Nat.reduceLT, List.length_set, Option.map_some, Option.bind_some, Option.bind_eq_bind, add_i, sub_i, mul_i, eql_i, neq_i, lss_i, leq_i, gtr_i, geq_i, ofV, ofCell, ↓reduceIte, List.cons_append, List.nil_append, List.append_nil, List.getElem?_toArray, List.getElem?_cons_succ, List.getElem?_cons_zero, e_draw, g_nil, g_cons, g_want, g_skip, g_val, g_call, g_ret, Option.map_none, hl, a1, a2, a15, a16, a17, CP, bq1, bq2, bq3, bq4, ex_tup]
      exact rfl, ?_⟩
  show P54_6 _ _
  exact ⟨w1_0, w2_0, w15_0, by simp [hl], by simp [a1], r1_0, by simp [a2], r2_0, by simp [a15], r15_0, by simp [a16], by simp [a17], by simp [hl]⟩
theorem R54_8 (pe : Nat → Fr54 → ASt → Prop) (pr : Fr54 → ASt → Prop) : Ref Cp P54_7 (Cat [true, true, false, false] (bodyOf Tryz.f54)) m54_8 (post P54_2 pe pr) := by
  rintro s ⟨t, h⟩ hp x s' hm
  have hp : P54_7' s t h := hp
  obtain ⟨w0_0, w1_0, w2_0, hl, a0, r0_0, a1, r1_0, a2, r2_0⟩ := hp
  unfold m54_8 at hm
  have lu14 := fun h => Sl.len r0_0 TyE.un63 h
  cases hm
  refine ⟨⟨_, _⟩, by
      simp only [bodyOf, Tryz.f54, Cat, Bool.false_eq_true, e_seq, e_region, e_cond, e_block, ex_skip, ex_exit, ex_ret, o_cons, xops_nil, k_want_none, k_want_false, k_val, k_pan, k_call, k_ret, k_seq, k_seq_exit, k_seq_ret, k_true, k_false, k_block, k_block_exit, k_block_ret, k_loop, k_loop_exit, k_loop_ret, awanted, aoper, evalO, put, Option.getD_some, List.getElem?_set, acallOp, abuiltin, List.map_cons, List.map_nil, Nat.reduceEqDiff, Nat.reduceLT, List.length_set, Option.map_some, Option.bind_some, Option.bind_eq_bind, add_i, sub_i, mul_i, eql_i, neq_i, lss_i, leq_i, gtr_i, geq_i, ofV, ofCell, ↓reduceIte, List.cons_append, List.nil_append, List.append_nil, List.getElem?_toArray, List.getElem?_cons_succ, List.getElem?_cons_zero, e_draw, g_nil, g_cons, g_want, g_skip, g_val, g_call, g_ret, Option.map_none, hl, a0, a1, a2, CP, bq1, bq2, bq3, bq4, ex_tup, lu14]
      exact rfl, ?_⟩
  show P54_2 _ _
  exact ⟨w1_0, w2_0, w0_0, by simp [hl], by simp [a1], r1_0, by simp [a2], r2_0, by simp [hl], r0_0, by simp [hl], by simp [hl]⟩
theorem R54_9 (pe : Nat → Fr54 → ASt → Prop) (pr : Fr54 → ASt → Prop) : Ref Cp P54_0 (Cat [true, false, true, false, false] (bodyOf Tryz.f54)) m54_9 (post P54_1 pe pr) := by
  rintro s ⟨t, h⟩ hp x s' hm
  have hp : P54_0' s t h := hp
  obtain ⟨hl, _⟩ := hp
  unfold m54_9 at hm
  cases hm
  refine ⟨⟨_, _⟩, by
      simp only [bodyOf, Tryz.f54, Cat, Bool.false_eq_true, e_seq, e_region, e_cond, e_block, ex_skip, ex_exit, ex_ret, o_cons, xops_nil, k_want_none, k_want_false, k_val, k_pan, k_call, k_ret, k_seq, k_seq_exit, k_seq_ret, k_true, k_false, k_block, k_block_exit, k_block_ret, k_loop, k_loop_exit, k_loop_ret, awanted, aoper, evalO, put, Option.getD_some, List.getElem?_set, acallOp, abuiltin, List.map_cons, List.map_nil, Nat.reduceEqDiff, Nat.reduceLT, List.length_set, Option.map_some, Option.bind_some, Option.bind_eq_bind, add_i, sub_i, mul_i, eql_i, neq_i, lss_i, leq_i, gtr_i, geq_i, ofV, ofCell, ↓reduceIte, List.cons_append, List.nil_append, List.append_nil, List.getElem?_toArray, List.getElem?_cons_succ, List.getElem?_cons_zero, e_draw, g_nil, g_cons, g_want, g_skip, g_val, g_call, g_ret, Option.map_none, hl, CP, bq1, bq2, bq3, bq4, ex_tup]
      exact rfl, ?_⟩
  show P54_1 _ _
  exact ⟨by simp [hl], by simp [hl]⟩
theorem R54_10 (pe : Nat → Fr54 → ASt → Prop) (pr : Fr54 → ASt → Prop) : Ref Cp P54_7 (Cat [true, false, false] (bodyOf Tryz.f54)) m54_10 (post P54_8 pe pr) := by
  rintro s ⟨t, h⟩ hp x s' hm
  have hp : P54_7' s t h := hp
  obtain ⟨w0_0, w1_0, w2_0, hl, a0, r0_0, a1, r1_0, a2, r2_0⟩ := hp
  unfold m54_10 at hm
  have lu17 := fun h => Sl.len r0_0 TyE.un63 h
  have lu18 := fun h => Sl.len r1_0 TyE.un63 h
  cases hm
  refine ⟨⟨_, _⟩, by
      simp only [bodyOf, Tryz.f54, Cat, Bool.false_eq_true, e_seq, e_region, e_cond, e_block, ex_skip, ex_exit, ex_ret, o_cons, xops_nil, k_want_none, k_want_false, k_val, k_pan, k_call, k_ret, k_seq, k_seq_exit, k_seq_ret, k_true, k_false, k_block, k_block_exit, k_block_ret, k_loop, k_loop_exit, k_loop_ret, awanted, aoper, evalO, put, Option.getD_some, List.getElem?_set, acallOp, abuiltin, List.map_cons, List.map_nil, Nat.reduceEqDiff, Nat.reduceLT, List.length_set, Option.map_some, Option.bind_some, Option.bind_eq_bind, add_i, sub_i, mul_i, eql_i, neq_i, lss_i, leq_i, gtr_i, geq_i, ofV, ofCell, ↓reduceIte, List.cons_append, List.nil_append, List.append_nil, List.getElem?_toArray, List.getElem?_cons_succ, List.getElem?_cons_zero, e_draw, g_nil, g_cons, g_want, g_skip, g_val, g_call, g_ret, Option.map_none, hl, a0, a1, a2, CP, bq1, bq2, bq3, bq4, ex_tup, lu17, lu18]
      exact rfl, ?_⟩
  show P54_8 _ _
  exact ⟨w0_0, w1_0, w2_0, by simp [hl], by simp [a0], r0_0, by simp [a1], r1_0, by simp [a2], r2_0, by simp [hl]⟩
theorem R54_11 (pe : Nat → Fr54 → ASt → Prop) (pr : Fr54 → ASt → Prop) : Ref Cp P54_7 (Cat [false] (bodyOf Tryz.f54)) m54_11 (post P54_7 pe pr) := by
  rintro s ⟨t, h⟩ hp x s' hm
  have hp : P54_7' s t h := hp
  obtain ⟨w0_0, w1_0, w2_0, hl, a0, r0_0, a1, r1_0, a2, r2_0⟩ := hp
  unfold m54_11 at hm
  cases hm
  refine ⟨⟨_, _⟩, by
      simp only [bodyOf, Tryz.f54, Cat, Bool.false_eq_true, e_seq, e_region, e_cond, e_block, ex_skip, ex_exit, ex_ret, o_cons, xops_nil, k_want_none, k_want_false, k_val, k_pan, k_call, k_ret, k_seq, k_seq_exit, k_seq_ret, k_true, k_false, k_block, k_block_exit, k_block_ret, k_loop, k_loop_exit, k_loop_ret, awanted, aoper, evalO, put, Option.getD_some, List.getElem?_set, acallOp, abuiltin, List.map_cons, List.map_nil, Nat.reduceEqDiff, Nat.reduceLT, List.length_set, Option.map_some, Option.bind_some, Option.bind_eq_bind, add_i, sub_i, mul_i, eql_i, neq_i, lss_i, leq_i, gtr_i, geq_i, ofV, ofCell, ↓reduceIte, List.cons_append, List.nil_append, List.append_nil, List.getElem?_toArray, List.getElem?_cons_succ, List.getElem?_cons_zero, e_draw, g_nil, g_cons, g_want, g_skip, g_val, g_call, g_ret, Option.map_none, hl, a0, a1, a2, CP, bq1, bq2, bq3, bq4, ex_tup]
      exact rfl, ?_⟩
  show P54_7 _ _
  exact ⟨w0_0, w1_0, w2_0, by simp [hl], by simp [a0], r0_0, by simp [a1], r1_0, by simp [a2], r2_0⟩
theorem B54 : Ref Cp P54_7 (bodyOf Tryz.f54) (M54) (post P54_1 (fun _ _ _ => False) P54_1) := by
  rw [show bodyOf Tryz.f54 = .seq (Cat [false] (bodyOf Tryz.f54)) (.seq (.seq (Cat [true, false, false] (bodyOf Tryz.f54)) (.cond (.tmp 14) (.seq (Cat [true, false, true, false, false] (bodyOf Tryz.f54)) (.ret)) (.skip))) (.seq (.seq (Cat [true, true, false, false] (bodyOf Tryz.f54)) (.block 0 (.loop (.seq (Cat [true, true, false, true, true, true, false] (bodyOf Tryz.f54)) (.seq (.cond (.tmp 18) (.skip) (.exit 0)) (.seq (.block 1 (.seq (Cat [true, true, false, true, true, true, true, true, false, true, false] (bodyOf Tryz.f54)) (.seq (Cat [true, true, false, true, true, true, true, true, false, true, true, false] (bodyOf Tryz.f54)) (.seq (Cat [true, true, false, true, true, true, true, true, false, true, true, true, false] (bodyOf Tryz.f54)) (.cond (.tmp 30) (.seq (Cat [true, true, false, true, true, true, true, true, false, true, true, true, true, false, false] (bodyOf Tryz.f54)) (.ret)) (.skip)))))) (Cat [true, true, false, true, true, true, true, true, true] (bodyOf Tryz.f54)))))))) (.seq (Cat [true, true, true, false] (bodyOf Tryz.f54)) (.ret)))) from rfl]
  unfold M54
  exact ref_seq (M := P54_7) (R54_11 _ _) (ref_seq (M := P54_7) (ref_seq (M := P54_8) (R54_10 _ _) (ref_cond (P := P54_8) (c := fun s => s.t14) (fun s st hp => by obtain ⟨w0_0, w1_0, w2_0, hl, a0, r0_0, a1, r1_0, a2, r2_0, a14⟩ := (hp : P54_8' s st.tmps st.h); simp only [evalO, a14, Option.getD_some]) (ref_weak (P' := P54_0) (fun s st hp => by obtain ⟨w0_0, w1_0, w2_0, hl, a0, r0_0, a1, r1_0, a2, r2_0, a14⟩ := (hp : P54_8' s st.tmps st.h); exact (⟨hl, trivial⟩ : P54_0' s st.tmps st.h)) (ref_seq (M := P54_1) (R54_9 _ _) (ref_ret (fun s st hp => hp)))) (ref_weak (P' := P54_7) (fun s st hp => by obtain ⟨w0_0, w1_0, w2_0, hl, a0, r0_0, a1, r1_0, a2, r2_0, a14⟩ := (hp : P54_8' s st.tmps st.h); exact (⟨w0_0, w1_0, w2_0, hl, a0, r0_0, a1, r1_0, a2, r2_0⟩ : P54_7' s st.tmps st.h)) (ref_skip (fun s st hp => hp))))) (ref_seq (M := P54_0) (ref_seq (M := P54_2) (R54_8 _ _) (ref_block (ref_loop (P := P54_2) (ref_weak (P' := P54_2) (fun s st hp => hp) (ref_seq (M := P54_6) (R54_6 _ _) (ref_seq (M := P54_2) (ref_cond (P := P54_6) (c := fun s => s.t18) (fun s st hp => by obtain ⟨w1_0, w2_0, w15_0, hl, a1, r1_0, a2, r2_0, a15, r15_0, a16, a17, a18⟩ := (hp : P54_6' s st.tmps st.h); simp only [evalO, a18, Option.getD_some]) (ref_weak (P' := P54_2) (fun s st hp => by obtain ⟨w1_0, w2_0, w15_0, hl, a1, r1_0, a2, r2_0, a15, r15_0, a16, a17, a18⟩ := (hp : P54_6' s st.tmps st.h); exact (⟨w1_0, w2_0, w15_0, hl, a1, r1_0, a2, r2_0, a15, r15_0, a16, a17⟩ : P54_2' s st.tmps st.h)) (ref_skip (fun s st hp => hp))) (ref_weak (P' := P54_0) (fun s st hp => by obtain ⟨w1_0, w2_0, w15_0, hl, a1, r1_0, a2, r2_0, a15, r15_0, a16, a17, a18⟩ := (hp : P54_6' s st.tmps st.h); exact (⟨hl, trivial⟩ : P54_0' s st.tmps st.h)) (ref_exit (fun s st hp => hp)))) (ref_seq (M := P54_2) (ref_block (ref_seq (M := P54_5) (R54_5 _ _) (ref_seq (M := P54_4) (R54_4 _ _) (ref_seq (M := P54_3) (R54_3 _ _) (ref_cond (P := P54_3) (c := fun s => s.t30) (fun s st hp => by obtain ⟨w1_0, w2_0, w15_0, hl, a1, r1_0, a2, r2_0, a15, r15_0, a16, a17, a30⟩ := (hp : P54_3' s st.tmps st.h); simp only [evalO, a30, Option.getD_some]) (ref_weak (P' := P54_0) (fun s st hp => by obtain ⟨w1_0, w2_0, w15_0, hl, a1, r1_0, a2, r2_0, a15, r15_0, a16, a17, a30⟩ := (hp : P54_3' s st.tmps st.h); exact (⟨hl, trivial⟩ : P54_0' s st.tmps st.h)) (ref_seq (M := P54_1) (R54_2 _ _) (ref_ret (fun s st hp => hp)))) (ref_weak (P' := P54_2) (fun s st hp => by obtain ⟨w1_0, w2_0, w15_0, hl, a1, r1_0, a2, r2_0, a15, r15_0, a16, a17, a30⟩ := (hp : P54_3' s st.tmps st.h); exact (⟨w1_0, w2_0, w15_0, hl, a1, r1_0, a2, r2_0, a15, r15_0, a16, a17⟩ : P54_2' s st.tmps st.h)) (ref_skip (fun s st hp => hp)))))))) (R54_1 _ _)))))))) (ref_seq (M := P54_1) (R54_0 _ _) (ref_ret (fun s st hp => hp)))))
noncomputable def G54 (x0 : (List (List (List UInt8)))) (x1 : (List (List (List UInt8)))) (x2 : ((List (List UInt8)) → (List (List UInt8)) → Option Bool)) : Option Bool := match M54 { (default : Fr54) with t0 := x0, t1 := x1, t2 := x2 } with
  | some (.nrm, s) => some s.t6
  | some (.ret, s) => some s.t6
  | _ => none
theorem G54_spec : Spec54 (G54) := by
  intro x0 x1 x2 vx0_0 hvx0_0 vx1_0 hvx1_0 vx2_0 hvx2_0 r hr
  unfold G54 at hr
  cases hm : M54 { (default : Fr54) with t0 := x0, t1 := x1, t2 := x2 } with
  | none => rw [hm] at hr; cases hr
  | some q =>
    obtain ⟨x, s⟩ := q
    rw [hm] at hr
    have hx : x = .nrm ∨ x = .ret := by cases x <;> first | exact .inl rfl | exact .inr rfl | cases hr
    have hr : s.t6 = r := by cases x <;> first | exact Option.some.inj hr | cases hr
    subst hr
    have hp0 : P54_7' ({ (default : Fr54) with t0 := x0, t1 := x1, t2 := x2 }) (slots Tryz.f54 (stripL [vx0_0, vx1_0, vx2_0])) bare := ⟨(strip vx0_0 : AVal), (strip vx1_0 : AVal), (strip vx2_0 : AVal), rfl, rfl, hvx0_0.strip (rSl_p rS_p), rfl, hvx1_0.strip (rSl_p rS_p), rfl, rFnE0_strip hvx2_0⟩
    obtain ⟨v, hR, hrun⟩ := run_of_ref (C := Cp) (f := 54) (fn := Tryz.f54) Tryz.func54 rfl rfl rfl rfl (args := [vx0_0, vx1_0, vx2_0]) (by simp only [refsL, refs, List.append_nil, hvx0_0.refs (rSl_p rS_p), hvx1_0.refs (rSl_p rS_p), rFnE0_refs hvx2_0]) (B54) (s0 := { (default : Fr54) with t0 := x0, t1 := x1, t2 := x2 }) hp0 hm hx (R := fun v => v = .bool s.t6) (by
      have key : ∀ st : ASt, P54_1 s st → ∃ vs v, aresults Cp Tryz.f54.results.toList st = some vs ∧ Nrm [] st.h (packRes vs) v ∧ (fun v => v = .bool s.t6) v := by
        intro st hp
        obtain ⟨hl, a6⟩ := (hp : P54_1' s st.tmps st.h)
        exact ⟨[.bool s.t6], _, by simp only [show Tryz.f54.results.toList = [ResultVar.tmp 6] from rfl, aresults, ares1, CP, a6, Option.getD_some], (Nrm.of (w := .bool s.t6) (by simp only [refsL, refs, List.append_nil])), rfl⟩
      intro st hq
      rcases hx with rfl | rfl
      · exact key st hq
      · exact key st hq)
    subst hR
    exact hrun
/-! ### caisson/parse.Same$1$1 -/
structure Fr55 where
  t0 : (List (List UInt8))
  t1 : (List (List UInt8))
  t4 : Bool
instance : Inhabited Fr55 := ⟨⟨[], [], false⟩⟩
def P55_0' (s : Fr55) (t : List AVal) (h : AHeap) : Prop := ∃ w0_0 w1_0, t.length = 8 ∧ t[0]? = some w0_0 ∧ Sl rS s.t0 w0_0 ∧ t[1]? = some w1_0 ∧ Sl rS s.t1 w1_0
def P55_0 (s : Fr55) (st : ASt) : Prop := P55_0' s st.tmps st.h
def P55_1' (s : Fr55) (t : List AVal) (h : AHeap) : Prop := t.length = 8 ∧ t[4]? = some (.bool s.t4)
def P55_1 (s : Fr55) (st : ASt) : Prop := P55_1' s st.tmps st.h
noncomputable def m55_0 : Mo Fr55 := fun s => (G53 s.t0 s.t1).bind fun z1 => some (.nrm, { s with t4 := z1 })
noncomputable def m55_1 : Mo Fr55 := fun s => some (.nrm, s)
noncomputable def M55 : Mo Fr55 := seqM (m55_1) (seqM (m55_0) (retM))
def Spec55 (f : (List (List UInt8)) → (List (List UInt8)) → Option Bool) : Prop := ∀ (x0 : (List (List UInt8))) (x1 : (List (List UInt8))) (vx0_0 : AVal) (_ : Sl rS x0 vx0_0) (vx1_0 : AVal) (_ : Sl rS x1 vx1_0) (r : Bool), f x0 x1 = some r → ∀ h, run Cp 55 [vx0_0, vx1_0] h = some (.ret (.bool r), h)
theorem Spec55_of {f g : (List (List UInt8)) → (List (List UInt8)) → Option Bool} (hg : Spec55 g) (h : ∀ x0 x1 r, f x0 x1 = some r → g x0 x1 = some r) : Spec55 f := fun x0 x1 v0_ w0_ v1_ w1_ r hr => hg x0 x1 v0_ w0_ v1_ w1_ r (h x0 x1 r hr)
theorem R55_0 (pe : Nat → Fr55 → ASt → Prop) (pr : Fr55 → ASt → Prop) : Ref Cp P55_0 (Cat [true, false] (bodyOf Tryz.f55)) m55_0 (post P55_1 pe pr) := by
  rintro s ⟨t, h⟩ hp x s' hm
  have hp : P55_0' s t h := hp
  obtain ⟨w0_0, w1_0, hl, a0, r0_0, a1, r1_0⟩ := hp
  unfold m55_0 at hm
  obtain ⟨z3, hz3, hm⟩ := Option.bind_eq_some_iff.1 hm
  have iu4 := G53_spec s.t0 s.t1 _ r0_0 _ r1_0 _ hz3
  cases hm
  refine ⟨⟨_, _⟩, by
      simp only [bodyOf, Tryz.f55, Cat, Bool.false_eq_true, e_seq, e_region, e_cond, e_block, ex_skip, ex_exit, ex_ret, o_cons, xops_nil, k_want_none, k_want_false, k_val, k_pan, k_call, k_ret, k_seq, k_seq_exit, k_seq_ret, k_true, k_false, k_block, k_block_exit, k_block_ret, k_loop, k_loop_exit, k_loop_ret, awanted, aoper, evalO, put, Option.getD_some, List.getElem?_set, acallOp, abuiltin, List.map_cons, List.map_nil, Nat.reduceEqDiff, Nat.reduceLT, List.length_set, Option.map_some, Option.bind_some, Option.bind_eq_bind, add_i, sub_i, mul_i, eql_i, neq_i, lss_i, leq_i, gtr_i, geq_i, ofV, ofCell, ↓reduceIte, List.cons_append, List.nil_append, List.append_nil, List.getElem?_toArray, List.getElem?_cons_succ, List.getElem?_cons_zero, e_draw, g_nil, g_cons, g_want, g_skip, g_val, g_call, g_ret, Option.map_none, hl, a0, a1, CP, bq1, bq2, bq3, bq4, ex_tup, iu4]
      exact rfl, ?_⟩
  show P55_1 _ _
  exact ⟨by simp [hl], by simp [hl]⟩
theorem R55_1 (pe : Nat → Fr55 → ASt → Prop) (pr : Fr55 → ASt → Prop) : Ref Cp P55_0 (Cat [false] (bodyOf Tryz.f55)) m55_1 (post P55_0 pe pr) := by
  rintro s ⟨t, h⟩ hp x s' hm
  have hp : P55_0' s t h := hp
  obtain ⟨w0_0, w1_0, hl, a0, r0_0, a1, r1_0⟩ := hp
  unfold m55_1 at hm
  cases hm
  refine ⟨⟨_, _⟩, by
      simp only [bodyOf, Tryz.f55, Cat, Bool.false_eq_true, e_seq, e_region, e_cond, e_block, ex_skip, ex_exit, ex_ret, o_cons, xops_nil, k_want_none, k_want_false, k_val, k_pan, k_call, k_ret, k_seq, k_seq_exit, k_seq_ret, k_true, k_false, k_block, k_block_exit, k_block_ret, k_loop, k_loop_exit, k_loop_ret, awanted, aoper, evalO, put, Option.getD_some, List.getElem?_set, acallOp, abuiltin, List.map_cons, List.map_nil, Nat.reduceEqDiff, Nat.reduceLT, List.length_set, Option.map_some, Option.bind_some, Option.bind_eq_bind, add_i, sub_i, mul_i, eql_i, neq_i, lss_i, leq_i, gtr_i, geq_i, ofV, ofCell, ↓reduceIte, List.cons_append, List.nil_append, List.append_nil, List.getElem?_toArray, List.getElem?_cons_succ, List.getElem?_cons_zero, e_draw, g_nil, g_cons, g_want, g_skip, g_val, g_call, g_ret, Option.map_none, hl, a0, a1, CP, bq1, bq2, bq3, bq4, ex_tup]
      exact rfl, ?_⟩
  show P55_0 _ _
  exact ⟨w0_0, w1_0, by simp [hl], by simp [a0], r0_0, by simp [a1], r1_0⟩
theorem B55 : Ref Cp P55_0 (bodyOf Tryz.f55) (M55) (post P55_1 (fun _ _ _ => False) P55_1) := by
  rw [show bodyOf Tryz.f55 = .seq (Cat [false] (bodyOf Tryz.f55)) (.seq (Cat [true, false] (bodyOf Tryz.f55)) (.ret)) from rfl]
  unfold M55
  exact ref_seq (M := P55_0) (R55_1 _ _) (ref_seq (M := P55_1) (R55_0 _ _) (ref_ret (fun s st hp => hp)))
noncomputable def G55 (x0 : (List (List UInt8))) (x1 : (List (List UInt8))) : Option Bool := match M55 { (default : Fr55) with t0 := x0, t1 := x1 } with
  | some (.nrm, s) => some s.t4
  | some (.ret, s) => some s.t4
  | _ => none
theorem G55_spec : Spec55 (G55) := by
  intro x0 x1 vx0_0 hvx0_0 vx1_0 hvx1_0 r hr
  unfold G55 at hr
  cases hm : M55 { (default : Fr55) with t0 := x0, t1 := x1 } with
  | none => rw [hm] at hr; cases hr
  | some q =>
    obtain ⟨x, s⟩ := q
    rw [hm] at hr
    have hx : x = .nrm ∨ x = .ret := by cases x <;> first | exact .inl rfl | exact .inr rfl | cases hr
    have hr : s.t4 = r := by cases x <;> first | exact Option.some.inj hr | cases hr
    subst hr
    have hp0 : P55_0' ({ (default : Fr55) with t0 := x0, t1 := x1 }) (slots Tryz.f55 (stripL [vx0_0, vx1_0])) bare := ⟨(strip vx0_0 : AVal), (strip vx1_0 : AVal), rfl, rfl, hvx0_0.strip rS_p, rfl, hvx1_0.strip rS_p⟩
    obtain ⟨v, hR, hrun⟩ := run_of_ref (C := Cp) (f := 55) (fn := Tryz.f55) Tryz.func55 rfl rfl rfl rfl (args := [vx0_0, vx1_0]) (by simp only [refsL, refs, List.append_nil, hvx0_0.refs rS_p, hvx1_0.refs rS_p]) (B55) (s0 := { (default : Fr55) with t0 := x0, t1 := x1 }) hp0 hm hx (R := fun v => v = .bool s.t4) (by
      have key : ∀ st : ASt, P55_1 s st → ∃ vs v, aresults Cp Tryz.f55.results.toList st = some vs ∧ Nrm [] st.h (packRes vs) v ∧ (fun v => v = .bool s.t4) v := by
        intro st hp
        obtain ⟨hl, a4⟩ := (hp : P55_1' s st.tmps st.h)
        exact ⟨[.bool s.t4], _, by simp only [show Tryz.f55.results.toList = [ResultVar.tmp 4] from rfl, aresults, ares1, CP, a4, Option.getD_some], (Nrm.of (w := .bool s.t4) (by simp only [refsL, refs, List.append_nil])), rfl⟩
      intro st hq
      rcases hx with rfl | rfl
      · exact key st hq
      · exact key st hq)
    subst hR
    exact hrun
/-! ### caisson/parse.Same$1 -/
structure Fr52 where
  t0 : Group
  t1 : Group
  t2 : Group
  t3 : Group
  t4 : Bool
instance : Inhabited Fr52 := ⟨⟨default, default, default, default, false⟩⟩
def P52_0' (s : Fr52) (t : List AVal) (h : AHeap) : Prop := ∃ i2 w2_0 w2_1 i3 w3_0 w3_1, t.length = 24 ∧ t[2]? = some (.ptr i2 0) ∧ h.get i2 = some (.arr [.int .i64 s.t2.Kind, w2_0, w2_1]) ∧ i2 < h.next ∧ Sl rS s.t2.Columns w2_0 ∧ Sl (rSl rS) s.t2.Sets w2_1 ∧ t[3]? = some (.ptr i3 0) ∧ h.get i3 = some (.arr [.int .i64 s.t3.Kind, w3_0, w3_1]) ∧ i3 < h.next ∧ Sl rS s.t3.Columns w3_0 ∧ Sl (rSl rS) s.t3.Sets w3_1 ∧ i2 ≠ i3
def P52_0 (s : Fr52) (st : ASt) : Prop := P52_0' s st.tmps st.h
def P52_1' (s : Fr52) (t : List AVal) (h : AHeap) : Prop := t.length = 24 ∧ t[4]? = some (.bool s.t4)
def P52_1 (s : Fr52) (st : ASt) : Prop := P52_1' s st.tmps st.h
def P52_2' (s : Fr52) (t : List AVal) (h : AHeap) : Prop := ∃ w0_0 w0_1 w1_0 w1_1, t.length = 24 ∧ t[0]? = some (.agg [.int .i64 s.t0.Kind, w0_0, w0_1]) ∧ Sl rS s.t0.Columns w0_0 ∧ Sl (rSl rS) s.t0.Sets w0_1 ∧ t[1]? = some (.agg [.int .i64 s.t1.Kind, w1_0, w1_1]) ∧ Sl rS s.t1.Columns w1_0 ∧ Sl (rSl rS) s.t1.Sets w1_1
def P52_2 (s : Fr52) (st : ASt) : Prop := P52_2' s st.tmps st.h
noncomputable def m52_0 : Mo Fr52 := fun s => (cond (s.t2.Kind == s.t3.Kind) ((G53 s.t2.Columns s.t3.Columns).bind fun z5 => some z5) (some false)).bind fun x7 => (cond ((s.t2.Kind == s.t3.Kind) && x7) ((G54 s.t2.Sets s.t3.Sets G55).bind fun z10 => some z10) (some false)).bind fun x12 => some (.nrm, { s with t4 := (((s.t2.Kind == s.t3.Kind) && x7) && x12) })
noncomputable def m52_1 : Mo Fr52 := fun s => some (.nrm, { s with t2 := s.t0, t3 := s.t1 })
noncomputable def M52 : Mo Fr52 := seqM (m52_1) (seqM (m52_0) (retM))
def Spec52 (f : Group → Group → Option Bool) : Prop := ∀ (x0 : Group) (x1 : Group) (vx0_0 : AVal) (_ : Sl rS x0.Columns vx0_0) (vx0_1 : AVal) (_ : Sl (rSl rS) x0.Sets vx0_1) (vx1_0 : AVal) (_ : Sl rS x1.Columns vx1_0) (vx1_1 : AVal) (_ : Sl (rSl rS) x1.Sets vx1_1) (r : Bool), f x0 x1 = some r → ∀ h, run Cp 52 [.agg [.int .i64 x0.Kind, vx0_0, vx0_1], .agg [.int .i64 x1.Kind, vx1_0, vx1_1]] h = some (.ret (.bool r), h)
theorem Spec52_of {f g : Group → Group → Option Bool} (hg : Spec52 g) (h : ∀ x0 x1 r, f x0 x1 = some r → g x0 x1 = some r) : Spec52 f := fun x0 x1 v0_ w0_ v1_ w1_ v2_ w2_ v3_ w3_ r hr => hg x0 x1 v0_ w0_ v1_ w1_ v2_ w2_ v3_ w3_ r (h x0 x1 r hr)
theorem R52_0 (pe : Nat → Fr52 → ASt → Prop) (pr : Fr52 → ASt → Prop) : Ref Cp P52_0 (Cat [true, false] (bodyOf Tryz.f52)) m52_0 (post P52_1 pe pr) := by
  rintro s ⟨t, h⟩ hp x s' hm
  have hp : P52_0' s t h := hp
  obtain ⟨i2, w2_0, w2_1, i3, w3_0, w3_1, hl, a2, g2, l2, r2_0, r2_1, a3, g3, l3, r3_0, r3_1, ne2_3⟩ := hp
  unfold m52_0 at hm
  have k13 : loadA h false 1 (.ptr i2 0) = some (.int .i64 s.t2.Kind) := by rw [Heap.load_gen g2 (Nat.le_of_ble_eq_true rfl)]; first | rfl | exact ofc1 _ _ _
  have k14 : loadA h false 1 (.ptr i3 0) = some (.int .i64 s.t3.Kind) := by rw [Heap.load_gen g3 (Nat.le_of_ble_eq_true rfl)]; first | rfl | exact ofc1 _ _ _
  cases hb15 : (s.t2.Kind == s.t3.Kind) with
  | true =>
    all_goals (
      try simp only [hb15, cond_true, cond_false, Option.bind_some, Option.bind_assoc, Bool.not_true, Bool.not_false, Bool.true_and, Bool.false_and, Bool.and_true, Bool.and_false, Bool.true_or, Bool.false_or] at hm
      have k16 : loadA h false 1 (.ptr i2 1) = some w2_0 := by rw [Heap.load_gen g2 (Nat.le_of_ble_eq_true rfl)]; first | rfl | exact ofc1 _ _ _
      have k17 : loadA h false 1 (.ptr i3 1) = some w3_0 := by rw [Heap.load_gen g3 (Nat.le_of_ble_eq_true rfl)]; first | rfl | exact ofc1 _ _ _
      obtain ⟨z18, hz18, hm⟩ := Option.bind_eq_some_iff.1 hm
      have iu19 := G53_spec s.t2.Columns s.t3.Columns _ r2_0 _ r3_0 _ hz18
      try simp only [cond_true, cond_false, Option.bind_some, Option.bind_assoc, Bool.not_true, Bool.not_false, Bool.true_and, Bool.false_and, Bool.and_true, Bool.and_false, Bool.true_or, Bool.false_or] at hm
      cases hb20 : z18 with
      | true =>
        all_goals (
          try simp only [hb20, cond_true, cond_false, Option.bind_some, Option.bind_assoc, Bool.not_true, Bool.not_false, Bool.true_and, Bool.false_and, Bool.and_true, Bool.and_false, Bool.true_or, Bool.false_or] at hm
          have k21 : loadA h false 1 (.ptr i2 2) = some w2_1 := by rw [Heap.load_gen g2 (Nat.le_of_ble_eq_true rfl)]; first | rfl | exact ofc1 _ _ _
          have k22 : loadA h false 1 (.ptr i3 2) = some w3_1 := by rw [Heap.load_gen g3 (Nat.le_of_ble_eq_true rfl)]; first | rfl | exact ofc1 _ _ _
          obtain ⟨z23, hz23, hm⟩ := Option.bind_eq_some_iff.1 hm
          have iu24 := G54_spec s.t2.Sets s.t3.Sets G55 _ r2_1 _ r3_1 _ (show rFnE0 G55 (.fn (.func 55) [] []) from ⟨55, rfl, G55_spec⟩) _ hz23
          try simp only [cond_true, cond_false, Option.bind_some, Option.bind_assoc, Bool.not_true, Bool.not_false, Bool.true_and, Bool.false_and, Bool.and_true, Bool.and_false, Bool.true_or, Bool.false_or] at hm
          cases hm
          refine ⟨⟨_, _⟩, by
              simp only [bodyOf, Tryz.f52, Cat, Bool.false_eq_true, e_seq, e_region, e_cond, e_block, ex_skip, ex_exit, ex_ret, o_cons, xops_nil, k_want_none, k_want_false, k_val, k_pan, k_call, k_ret, k_seq, k_seq_exit, k_seq_ret, k_true, k_false, k_block, k_block_exit, k_block_ret, k_loop, k_loop_exit, k_loop_ret, awanted, aoper, evalO, put, Option.getD_some, List.getElem?_set, acallOp, abuiltin, List.map_cons, List.map_nil, Nat.reduceEqDiff, Nat.reduceLT, List.length_set, Option.map_some, Option.bind_some, Option.bind_eq_bind, add_i, sub_i, mul_i, eql_i, neq_i, lss_i, leq_i, gtr_i, geq_i, ofV, ofCell, ↓reduceIte, List.cons_append, List.nil_append, List.append_nil, List.getElem?_toArray, List.getElem?_cons_succ, List.getElem?_cons_zero, e_draw, g_nil, g_cons, g_want, g_skip, g_val, g_call, g_ret, Option.map_none, hl, a2, a3, CP, bq1, bq2, bq3, bq4, ex_tup, TyE.fa65_0, dropCells, Nat.zero_add, Nat.reduceAdd, k13, TyE.ld3, k14, TyE.fa65_1, k16, TyE.ld52, k17, iu19, TyE.fa65_2, k21, TyE.ld63, k22, iu24, hb15, hb20]
              exact rfl, ?_⟩
          show P52_1 _ _
          exact ⟨by simp [hl], by simp [hl, hb15, hb20]⟩)
      | false =>
        all_goals (
          try simp only [hb20, cond_true, cond_false, Option.bind_some, Option.bind_assoc, Bool.not_true, Bool.not_false, Bool.true_and, Bool.false_and, Bool.and_true, Bool.and_false, Bool.true_or, Bool.false_or] at hm
          cases hm
          refine ⟨⟨_, _⟩, by
              simp only [bodyOf, Tryz.f52, Cat, Bool.false_eq_true, e_seq, e_region, e_cond, e_block, ex_skip, ex_exit, ex_ret, o_cons, xops_nil, k_want_none, k_want_false, k_val, k_pan, k_call, k_ret, k_seq, k_seq_exit, k_seq_ret, k_true, k_false, k_block, k_block_exit, k_block_ret, k_loop, k_loop_exit, k_loop_ret, awanted, aoper, evalO, put, Option.getD_some, List.getElem?_set, acallOp, abuiltin, List.map_cons, List.map_nil, Nat.reduceEqDiff, Nat.reduceLT, List.length_set, Option.map_some, Option.bind_some, Option.bind_eq_bind, add_i, sub_i, mul_i, eql_i, neq_i, lss_i, leq_i, gtr_i, geq_i, ofV, ofCell, ↓reduceIte, List.cons_append, List.nil_append, List.append_nil, List.getElem?_toArray, List.getElem?_cons_succ, List.getElem?_cons_zero, e_draw, g_nil, g_cons, g_want, g_skip, g_val, g_call, g_ret, Option.map_none, hl, a2, a3, CP, bq1, bq2, bq3, bq4, ex_tup, TyE.fa65_0, dropCells, Nat.zero_add, Nat.reduceAdd, k13, TyE.ld3, k14, TyE.fa65_1, k16, TyE.ld52, k17, iu19, hb15, hb20]
              exact rfl, ?_⟩
          show P52_1 _ _
          exact ⟨by simp [hl], by simp [hl, hb15, hb20]⟩))
  | false =>
    all_goals (
      try simp only [hb15, cond_true, cond_false, Option.bind_some, Option.bind_assoc, Bool.not_true, Bool.not_false, Bool.true_and, Bool.false_and, Bool.and_true, Bool.and_false, Bool.true_or, Bool.false_or] at hm
      cases hm
      refine ⟨⟨_, _⟩, by
          simp only [bodyOf, Tryz.f52, Cat, Bool.false_eq_true, e_seq, e_region, e_cond, e_block, ex_skip, ex_exit, ex_ret, o_cons, xops_nil, k_want_none, k_want_false, k_val, k_pan, k_call, k_ret, k_seq, k_seq_exit, k_seq_ret, k_true, k_false, k_block, k_block_exit, k_block_ret, k_loop, k_loop_exit, k_loop_ret, awanted, aoper, evalO, put, Option.getD_some, List.getElem?_set, acallOp, abuiltin, List.map_cons, List.map_nil, Nat.reduceEqDiff, Nat.reduceLT, List.length_set, Option.map_some, Option.bind_some, Option.bind_eq_bind, add_i, sub_i, mul_i, eql_i, neq_i, lss_i, leq_i, gtr_i, geq_i, ofV, ofCell, ↓reduceIte, List.cons_append, List.nil_append, List.append_nil, List.getElem?_toArray, List.getElem?_cons_succ, List.getElem?_cons_zero, e_draw, g_nil, g_cons, g_want, g_skip, g_val, g_call, g_ret, Option.map_none, hl, a2, a3, CP, bq1, bq2, bq3, bq4, ex_tup, TyE.fa65_0, dropCells, Nat.zero_add, Nat.reduceAdd, k13, TyE.ld3, k14, hb15]
          exact rfl, ?_⟩
      show P52_1 _ _
      exact ⟨by simp [hl], by simp [hl, hb15]⟩)
theorem R52_1 (pe : Nat → Fr52 → ASt → Prop) (pr : Fr52 → ASt → Prop) : Ref Cp P52_2 (Cat [false] (bodyOf Tryz.f52)) m52_1 (post P52_0 pe pr) := by
  rintro s ⟨t, h⟩ hp x s' hm
  have hp : P52_2' s t h := hp
  obtain ⟨w0_0, w0_1, w1_0, w1_1, hl, a0, r0_0, r0_1, a1, r1_0, r1_1⟩ := hp
  unfold m52_1 at hm
  obtain ⟨H42, eH42⟩ : ∃ x : AHeap, x = h.new (.arr [.int .i64 s.t0.Kind, w0_0, w0_1]) := ⟨_, rfl⟩
  obtain ⟨id43, eid43⟩ : ∃ x : Nat, x = h.next := ⟨_, rfl⟩
  have k44 : H42.get id43 = some (.arr [.int .i64 s.t0.Kind, w0_0, w0_1]) := by rw [eH42, eid43]; exact Heap.get_new_eq
  have k45 : id43 < H42.next := by rw [eH42, eid43, Heap.new_next]; exact Nat.lt_succ_self _
  have ic46 : (w0_0 : AVal).isCell = true := Sl.isCell r0_0
  have ic47 : (w0_1 : AVal).isCell = true := Sl.isCell r0_1
  have k48 : abox h (.agg [.int .i64 s.t0.Kind, w0_0, w0_1]) = some (.ptr id43 0, H42) := by simp only [abox, eH42, eid43, bx_i, bx_b, bx_s, bx_a, bx_nl, bx_np, bx_ip, bx_ls, cl_i, cl_b, cl_s, cl_a, cl_nl, cl_np, cl_ip, cl_ls, List.all_cons, List.all_nil, Bool.and_self, Bool.and_true, c_i, c_b, c_s, c_nl, c_np, c_ip, c_ls, if_true, ic46, bx_c ic46, cl_c ic46, ic47, bx_c ic47, cl_c ic47]
  obtain ⟨H49, eH49⟩ : ∃ x : AHeap, x = H42.new (.arr [.int .i64 s.t1.Kind, w1_0, w1_1]) := ⟨_, rfl⟩
  obtain ⟨id50, eid50⟩ : ∃ x : Nat, x = H42.next := ⟨_, rfl⟩
  have k51 : H49.get id43 = some (.arr [.int .i64 s.t0.Kind, w0_0, w0_1]) := by rw [eH49, Heap.get_new_lt k45]; exact k44
  have k52 : id43 < H49.next := by rw [eH49, Heap.new_next]; exact Nat.lt_succ_of_lt k45
  have k53 : H49.get id50 = some (.arr [.int .i64 s.t1.Kind, w1_0, w1_1]) := by rw [eH49, eid50]; exact Heap.get_new_eq
  have k54 : id50 < H49.next := by rw [eH49, eid50, Heap.new_next]; exact Nat.lt_succ_self _
  have k55 : id43 ≠ id50 := by rw [eid50]; exact Nat.ne_of_lt k45
  have ic56 : (w1_0 : AVal).isCell = true := Sl.isCell r1_0
  have ic57 : (w1_1 : AVal).isCell = true := Sl.isCell r1_1
  have k58 : abox H42 (.agg [.int .i64 s.t1.Kind, w1_0, w1_1]) = some (.ptr id50 0, H49) := by simp only [abox, eH49, eid50, bx_i, bx_b, bx_s, bx_a, bx_nl, bx_np, bx_ip, bx_ls, cl_i, cl_b, cl_s, cl_a, cl_nl, cl_np, cl_ip, cl_ls, List.all_cons, List.all_nil, Bool.and_self, Bool.and_true, c_i, c_b, c_s, c_nl, c_np, c_ip, c_ls, if_true, ic56, bx_c ic56, cl_c ic56, ic57, bx_c ic57, cl_c ic57]
  cases hm
  refine ⟨⟨_, _⟩, by
      simp only [bodyOf, Tryz.f52, Cat, Bool.false_eq_true, e_seq, e_region, e_cond, e_block, ex_skip, ex_exit, ex_ret, o_cons, xops_nil, k_want_none, k_want_false, k_val, k_pan, k_call, k_ret, k_seq, k_seq_exit, k_seq_ret, k_true, k_false, k_block, k_block_exit, k_block_ret, k_loop, k_loop_exit, k_loop_ret, awanted, aoper, evalO, put, Option.getD_some, List.getElem?_set, acallOp, abuiltin, List.map_cons, List.map_nil, Nat.reduceEqDiff, Nat.reduceLT, List.length_set, Option.map_some, Option.bind_some, Option.bind_eq_bind, add_i, sub_i, mul_i, eql_i, neq_i, lss_i, leq_i, gtr_i, geq_i, ofV, ofCell, ↓reduceIte, List.cons_append, List.nil_append, List.append_nil, List.getElem?_toArray, List.getElem?_cons_succ, List.getElem?_cons_zero, e_draw, g_nil, g_cons, g_want, g_skip, g_val, g_call, g_ret, Option.map_none, hl, a0, a1, CP, bq1, bq2, bq3, bq4, ex_tup, TyE.nc_show_go_171, k48, k58]
      exact rfl, ?_⟩
  show P52_0 _ _
  exact ⟨id43, w0_0, w0_1, id50, w1_0, w1_1, by simp [hl], by simp [hl], k51, k52, r0_0, r0_1, by simp [hl], k53, k54, r1_0, r1_1, k55⟩
theorem B52 : Ref Cp P52_2 (bodyOf Tryz.f52) (M52) (post P52_1 (fun _ _ _ => False) P52_1) := by
  rw [show bodyOf Tryz.f52 = .seq (Cat [false] (bodyOf Tryz.f52)) (.seq (Cat [true, false] (bodyOf Tryz.f52)) (.ret)) from rfl]
  unfold M52
  exact ref_seq (M := P52_0) (R52_1 _ _) (ref_seq (M := P52_1) (R52_0 _ _) (ref_ret (fun s st hp => hp)))
noncomputable def G52 (x0 : Group) (x1 : Group) : Option Bool := match M52 { (default : Fr52) with t0 := x0, t1 := x1 } with
  | some (.nrm, s) => some s.t4
  | some (.ret, s) => some s.t4
  | _ => none
theorem G52_spec : Spec52 (G52) := by
  intro x0 x1 vx0_0 hvx0_0 vx0_1 hvx0_1 vx1_0 hvx1_0 vx1_1 hvx1_1 r hr
  unfold G52 at hr
  cases hm : M52 { (default : Fr52) with t0 := x0, t1 := x1 } with
  | none => rw [hm] at hr; cases hr
  | some q =>
    obtain ⟨x, s⟩ := q
    rw [hm] at hr
    have hx : x = .nrm ∨ x = .ret := by cases x <;> first | exact .inl rfl | exact .inr rfl | cases hr
    have hr : s.t4 = r := by cases x <;> first | exact Option.some.inj hr | cases hr
    subst hr
    have hp0 : P52_2' ({ (default : Fr52) with t0 := x0, t1 := x1 }) (slots Tryz.f52 (stripL [.agg [.int .i64 x0.Kind, vx0_0, vx0_1], .agg [.int .i64 x1.Kind, vx1_0, vx1_1]])) bare := ⟨(strip vx0_0 : AVal), (strip vx0_1 : AVal), (strip vx1_0 : AVal), (strip vx1_1 : AVal), rfl, rfl, hvx0_0.strip rS_p, hvx0_1.strip (rSl_p rS_p), rfl, hvx1_0.strip rS_p, hvx1_1.strip (rSl_p rS_p)⟩
    obtain ⟨v, hR, hrun⟩ := run_of_ref (C := Cp) (f := 52) (fn := Tryz.f52) Tryz.func52 rfl rfl rfl rfl (args := [.agg [.int .i64 x0.Kind, vx0_0, vx0_1], .agg [.int .i64 x1.Kind, vx1_0, vx1_1]]) (by simp only [refsL, refs, List.append_nil, hvx0_0.refs rS_p, hvx0_1.refs (rSl_p rS_p), hvx1_0.refs rS_p, hvx1_1.refs (rSl_p rS_p)]) (B52) (s0 := { (default : Fr52) with t0 := x0, t1 := x1 }) hp0 hm hx (R := fun v => v = .bool s.t4) (by
      have key : ∀ st : ASt, P52_1 s st → ∃ vs v, aresults Cp Tryz.f52.results.toList st = some vs ∧ Nrm [] st.h (packRes vs) v ∧ (fun v => v = .bool s.t4) v := by
        intro st hp
        obtain ⟨hl, a4⟩ := (hp : P52_1' s st.tmps st.h)
        exact ⟨[.bool s.t4], _, by simp only [show Tryz.f52.results.toList = [ResultVar.tmp 4] from rfl, aresults, ares1, CP, a4, Option.getD_some], (Nrm.of (w := .bool s.t4) (by simp only [refsL, refs, List.append_nil])), rfl⟩
      intro st hq
      rcases hx with rfl | rfl
      · exact key st hq
      · exact key st hq)
    subst hR
    exact hrun
/-! ### slices.EqualFunc[[]caisson/api.Group,[]caisson/api.Group,caisson/api.Group,caisson/api.Group] -/
structure Fr51 where
  t0 : (List Group)
  t1 : (List Group)
  t2 : (Group → Group → Option Bool)
  t6 : Bool
  t7 : Int
  t8 : Group
  t9 : Group
  t14 : Bool
  t15 : (List Group)
  t16 : Int
  t17 : Int
  t18 : Bool
  t30 : Bool
instance : Inhabited Fr51 := ⟨⟨[], [], (fun _ _ => none), false, 0, default, default, false, [], 0, 0, false, false⟩⟩
def P51_0' (s : Fr51) (t : List AVal) (h : AHeap) : Prop := t.length = 32 ∧ True
def P51_0 (s : Fr51) (st : ASt) : Prop := P51_0' s st.tmps st.h
def P51_1' (s : Fr51) (t : List AVal) (h : AHeap) : Prop := t.length = 32 ∧ t[6]? = some (.bool s.t6)
def P51_1 (s : Fr51) (st : ASt) : Prop := P51_1' s st.tmps st.h
def P51_2' (s : Fr51) (t : List AVal) (h : AHeap) : Prop := ∃ w1_0 w2_0 w15_0, t.length = 32 ∧ t[1]? = some w1_0 ∧ Sl rGroup s.t1 w1_0 ∧ t[2]? = some w2_0 ∧ rFnE1 s.t2 w2_0 ∧ t[15]? = some w15_0 ∧ Sl rGroup s.t15 w15_0 ∧ t[16]? = some (.int .i64 s.t16) ∧ t[17]? = some (.int .i64 s.t17)
def P51_2 (s : Fr51) (st : ASt) : Prop := P51_2' s st.tmps st.h
def P51_3' (s : Fr51) (t : List AVal) (h : AHeap) : Prop := ∃ w1_0 w2_0 w15_0, t.length = 32 ∧ t[1]? = some w1_0 ∧ Sl rGroup s.t1 w1_0 ∧ t[2]? = some w2_0 ∧ rFnE1 s.t2 w2_0 ∧ t[15]? = some w15_0 ∧ Sl rGroup s.t15 w15_0 ∧ t[16]? = some (.int .i64 s.t16) ∧ t[17]? = some (.int .i64 s.t17) ∧ t[30]? = some (.bool s.t30)
def P51_3 (s : Fr51) (st : ASt) : Prop := P51_3' s st.tmps st.h
def P51_4' (s : Fr51) (t : List AVal) (h : AHeap) : Prop := ∃ w1_0 w2_0 i8 w8_0 w8_1 i9 w9_0 w9_1 w15_0, t.length = 32 ∧ t[1]? = some w1_0 ∧ Sl rGroup s.t1 w1_0 ∧ t[2]? = some w2_0 ∧ rFnE1 s.t2 w2_0 ∧ t[8]? = some (.ptr i8 0) ∧ h.get i8 = some (.arr [.int .i64 s.t8.Kind, w8_0, w8_1]) ∧ i8 < h.next ∧ Sl rS s.t8.Columns w8_0 ∧ Sl (rSl rS) s.t8.Sets w8_1 ∧ t[9]? = some (.ptr i9 0) ∧ h.get i9 = some (.arr [.int .i64 s.t9.Kind, w9_0, w9_1]) ∧ i9 < h.next ∧ Sl rS s.t9.Columns w9_0 ∧ Sl (rSl rS) s.t9.Sets w9_1 ∧ t[15]? = some w15_0 ∧ Sl rGroup s.t15 w15_0 ∧ t[16]? = some (.int .i64 s.t16) ∧ t[17]? = some (.int .i64 s.t17) ∧ i8 ≠ i9
def P51_4 (s : Fr51) (st : ASt) : Prop := P51_4' s st.tmps st.h
def P51_5' (s : Fr51) (t : List AVal) (h : AHeap) : Prop := ∃ w1_0 w2_0 i8 w8_0 w8_1 w15_0, t.length = 32 ∧ t[1]? = some w1_0 ∧ Sl rGroup s.t1 w1_0 ∧ t[2]? = some w2_0 ∧ rFnE1 s.t2 w2_0 ∧ t[7]? = some (.int .i64 s.t7) ∧ t[8]? = some (.ptr i8 0) ∧ h.get i8 = some (.arr [.int .i64 s.t8.Kind, w8_0, w8_1]) ∧ i8 < h.next ∧ Sl rS s.t8.Columns w8_0 ∧ Sl (rSl rS) s.t8.Sets w8_1 ∧ t[15]? = some w15_0 ∧ Sl rGroup s.t15 w15_0 ∧ t[16]? = some (.int .i64 s.t16) ∧ t[17]? = some (.int .i64 s.t17)
def P51_5 (s : Fr51) (st : ASt) : Prop := P51_5' s st.tmps st.h
def P51_6' (s : Fr51) (t : List AVal) (h : AHeap) : Prop := ∃ w1_0 w2_0 w15_0, t.length = 32 ∧ t[1]? = some w1_0 ∧ Sl rGroup s.t1 w1_0 ∧ t[2]? = some w2_0 ∧ rFnE1 s.t2 w2_0 ∧ t[15]? = some w15_0 ∧ Sl rGroup s.t15 w15_0 ∧ t[16]? = some (.int .i64 s.t16) ∧ t[17]? = some (.int .i64 s.t17) ∧ t[18]? = some (.bool s.t18)
def P51_6 (s : Fr51) (st : ASt) : Prop := P51_6' s st.tmps st.h
def P51_7' (s : Fr51) (t : List AVal) (h : AHeap) : Prop := ∃ w0_0 w1_0 w2_0, t.length = 32 ∧ t[0]? = some w0_0 ∧ Sl rGroup s.t0 w0_0 ∧ t[1]? = some w1_0 ∧ Sl rGroup s.t1 w1_0 ∧ t[2]? = some w2_0 ∧ rFnE1 s.t2 w2_0
def P51_7 (s : Fr51) (st : ASt) : Prop := P51_7' s st.tmps st.h
def P51_8' (s : Fr51) (t : List AVal) (h : AHeap) : Prop := ∃ w0_0 w1_0 w2_0, t.length = 32 ∧ t[0]? = some w0_0 ∧ Sl rGroup s.t0 w0_0 ∧ t[1]? = some w1_0 ∧ Sl rGroup s.t1 w1_0 ∧ t[2]? = some w2_0 ∧ rFnE1 s.t2 w2_0 ∧ t[14]? = some (.bool s.t14)
def P51_8 (s : Fr51) (st : ASt) : Prop := P51_8' s st.tmps st.h
noncomputable def m51_0 : Mo Fr51 := fun s => some (.nrm, { s with t6 := true })
noncomputable def m51_1 : Mo Fr51 := fun s => some (.nrm, { s with t17 := IntKind.wrap .i64 (s.t17 + 1) })
noncomputable def m51_2 : Mo Fr51 := fun s => some (.nrm, { s with t6 := false })
noncomputable def m51_3 : Mo Fr51 := fun s => (s.t2 s.t8 s.t9).bind fun z3 => some (.nrm, { s with t30 := (!z3) })
noncomputable def m51_4 : Mo Fr51 := fun s => (at? s.t1 s.t7).bind fun y9 => some (.nrm, { s with t9 := y9 })
noncomputable def m51_5 : Mo Fr51 := fun s => (at? s.t15 s.t17).bind fun y45 => some (.nrm, { s with t7 := s.t17, t8 := y45 })
noncomputable def m51_6 : Mo Fr51 := fun s => some (.nrm, { s with t18 := decide (s.t17 < s.t16) })
noncomputable def L51_7 : Mo Fr51 := seqM (m51_6) (seqM (condM (fun s => s.t18) (skipM) (exitM 0)) (seqM (blockM 1 (seqM (m51_5) (seqM (m51_4) (seqM (m51_3) (condM (fun s => s.t30) (seqM (m51_2) (retM)) (skipM)))))) (m51_1)))
noncomputable def m51_8 : Mo Fr51 := fun s => some (.nrm, { s with t15 := s.t0, t16 := (s.t0.length : Int), t17 := 0 })
noncomputable def m51_9 : Mo Fr51 := fun s => some (.nrm, { s with t6 := false })
noncomputable def m51_10 : Mo Fr51 := fun s => some (.nrm, { s with t14 := ((s.t0.length : Int) != (s.t1.length : Int)) })
noncomputable def m51_11 : Mo Fr51 := fun s => some (.nrm, s)
noncomputable def M51 : Mo Fr51 := seqM (m51_11) (seqM (seqM (m51_10) (condM (fun s => s.t14) (seqM (m51_9) (retM)) (skipM))) (seqM (seqM (m51_8) (blockM 0 (loopM (L51_7)))) (seqM (m51_0) (retM))))
def Spec51 (f : (List Group) → (List Group) → (Group → Group → Option Bool) → Option Bool) : Prop := ∀ (x0 : (List Group)) (x1 : (List Group)) (x2 : (Group → Group → Option Bool)) (vx0_0 : AVal) (_ : Sl rGroup x0 vx0_0) (vx1_0 : AVal) (_ : Sl rGroup x1 vx1_0) (vx2_0 : AVal) (_ : rFnE1 x2 vx2_0) (r : Bool), f x0 x1 x2 = some r → ∀ h, run Cp 51 [vx0_0, vx1_0, vx2_0] h = some (.ret (.bool r), h)
theorem Spec51_of {f g : (List Group) → (List Group) → (Group → Group → Option Bool) → Option Bool} (hg : Spec51 g) (h : ∀ x0 x1 x2 r, f x0 x1 x2 = some r → g x0 x1 x2 = some r) : Spec51 f := fun x0 x1 x2 v0_ w0_ v1_ w1_ v2_ w2_ r hr => hg x0 x1 x2 v0_ w0_ v1_ w1_ v2_ w2_ r (h x0 x1 x2 r hr)
theorem R51_0 (pe : Nat → Fr51 → ASt → Prop) (pr : Fr51 → ASt → Prop) : Ref Cp P51_0 (Cat [true, true, true, false] (bodyOf Tryz.f51)) m51_0 (post P51_1 pe pr) := by
  rintro s ⟨t, h⟩ hp x s' hm
  have hp : P51_0' s t h := hp
  obtain ⟨hl, _⟩ := hp
  unfold m51_0 at hm
  cases hm
  refine ⟨⟨_, _⟩, by
      simp only [bodyOf, Tryz.f51, Cat, Bool.false_eq_true, e_seq, e_region, e_cond, e_block, ex_skip, ex_exit, ex_ret, o_cons, xops_nil, k_want_none, k_want_false, k_val, k_pan, k_call, k_ret, k_seq, k_seq_exit, k_seq_ret, k_true, k_false, k_block, k_block_exit, k_block_ret, k_loop, k_loop_exit, k_loop_ret, awanted, aoper, evalO, put, Option.getD_some, List.getElem?_set, acallOp, abuiltin, List.map_cons, List.map_nil, Nat.reduceEqDiff, Nat.reduceLT, List.length_set, Option.map_some, Option.bind_some, Option.bind_eq_bind, add_i, sub_i, mul_i, eql_i, neq_i, lss_i, leq_i, gtr_i, geq_i, ofV, ofCell, ↓reduceIte, List.cons_append, List.nil_append, List.append_nil, List.getElem?_toArray, List.getElem?_cons_succ, List.getElem?_cons_zero, e_draw, g_nil, g_cons, g_want, g_skip, g_val, g_call, g_ret, Option.map_none, hl, CP, bq1, bq2, bq3, bq4, ex_tup]
      exact rfl, ?_⟩
  show P51_1 _ _
  exact ⟨by simp [hl], by simp [hl]⟩
theorem R51_1 (pe : Nat → Fr51 → ASt → Prop) (pr : Fr51 → ASt → Prop) : Ref Cp P51_2 (Cat [true, true, false, true, true, true, true, true, true] (bodyOf Tryz.f51)) m51_1 (post P51_2 pe pr) := by
  rintro s ⟨t, h⟩ hp x s' hm
  have hp : P51_2' s t h := hp
  obtain ⟨w1_0, w2_0, w15_0, hl, a1, r1_0, a2, r2_0, a15, r15_0, a16, a17⟩ := hp
  unfold m51_1 at hm
  cases hm
  refine ⟨⟨_, _⟩, by
      simp only [bodyOf, Tryz.f51, Cat, Bool.false_eq_true, e_seq, e_region, e_cond, e_block, ex_skip, ex_exit, ex_ret, o_cons, xops_nil, k_want_none, k_want_false, k_val, k_pan, k_call, k_ret, k_seq, k_seq_exit, k_seq_ret, k_true, k_false, k_block, k_block_exit, k_block_ret, k_loop, k_loop_exit, k_loop_ret, awanted, aoper, evalO, put, Option.getD_some, List.getElem?_set, acallOp, abuiltin, List.map_cons, List.map_nil, Nat.reduceEqDiff, Nat.reduceLT, List.length_set, Option.map_some, Option.bind_some, Option.bind_eq_bind, add_i, sub_i, mul_i, eql_i, neq_i, lss_i, leq_i, gtr_i, geq_i, ofV, ofCell, ↓reduceIte, List.cons_append, List.nil_append, List.append_nil, List.getElem?_toArray, List.getElem?_cons_succ, List.getElem?_cons_zero, e_draw, g_nil, g_cons, g_want, g_skip, g_val, g_call, g_ret, Option.map_none, hl, a1, a2, a15, a16, a17, CP, bq1, bq2, bq3, bq4, ex_tup]
      exact rfl, ?_⟩
  show P51_2 _ _
  exact ⟨w1_0, w2_0, w15_0, by simp [hl], by simp [a1], r1_0, by simp [a2], r2_0, by simp [a15], r15_0, by simp [a16], by simp [hl]⟩
theorem R51_2 (pe : Nat → Fr51 → ASt → Prop) (pr : Fr51 → ASt → Prop) : Ref Cp P51_0 (Cat [true, true, false, true, true, true, true, true, false, true, true, true, true, false, false] (bodyOf Tryz.f51)) m51_2 (post P51_1 pe pr) := by
  rintro s ⟨t, h⟩ hp x s' hm
  have hp : P51_0' s t h := hp
  obtain ⟨hl, _⟩ := hp
  unfold m51_2 at hm
  cases hm
  refine ⟨⟨_, _⟩, by
      simp only [bodyOf, Tryz.f51, Cat, Bool.false_eq_true, e_seq, e_region, e_cond, e_block, ex_skip, ex_exit, ex_ret, o_cons, xops_nil, k_want_none, k_want_false, k_val, k_pan, k_call, k_ret, k_seq, k_seq_exit, k_seq_ret, k_true, k_false, k_block, k_block_exit, k_block_ret, k_loop, k_loop_exit, k_loop_ret, awanted, aoper, evalO, put, Option.getD_some, List.getElem?_set, acallOp, abuiltin, List.map_cons, List.map_nil, Nat.reduceEqDiff, Nat.reduceLT, List.length_set, Option.map_some, Option.bind_some, Option.bind_eq_bind, add_i, sub_i, mul_i, eql_i, neq_i, lss_i, leq_i, gtr_i, geq_i, ofV, ofCell, ↓reduceIte, List.cons_append, List.nil_append, List.append_nil, List.getElem?_toArray, List.getElem?_cons_succ, List.getElem?_cons_zero, e_draw, g_nil, g_cons, g_want, g_skip, g_val, g_call, g_ret, Option.map_none, hl, CP, bq1, bq2, bq3, bq4, ex_tup]
      exact rfl, ?_⟩
  show P51_1 _ _
  exact ⟨by simp [hl], by simp [hl]⟩
theorem R51_3 (pe : Nat → Fr51 → ASt → Prop) (pr : Fr51 → ASt → Prop) : Ref Cp P51_4 (Cat [true, true, false, true, true, true, true, true, false, true, true, true, false] (bodyOf Tryz.f51)) m51_3 (post P51_3 pe pr) := by
  rintro s ⟨t, h⟩ hp x s' hm
  have hp : P51_4' s t h := hp
  obtain ⟨w1_0, w2_0, i8, w8_0, w8_1, i9, w9_0, w9_1, w15_0, hl, a1, r1_0, a2, r2_0, a8, g8, l8, r8_0, r8_1, a9, g9, l9, r9_0, r9_1, a15, r15_0, a16, a17, ne8_9⟩ := hp
  unfold m51_3 at hm
  have k5 : loadA h true 3 (.ptr i8 0) = some (.agg [.int .i64 s.t8.Kind, w8_0, w8_1]) := by rw [Heap.load_gen g8 (Nat.le_of_ble_eq_true rfl)]; first | rfl | exact ofc3 _ _ _ _
  have k6 : loadA h true 3 (.ptr i9 0) = some (.agg [.int .i64 s.t9.Kind, w9_0, w9_1]) := by rw [Heap.load_gen g9 (Nat.le_of_ble_eq_true rfl)]; first | rfl | exact ofc3 _ _ _ _
  obtain ⟨z7, hz7, hm⟩ := Option.bind_eq_some_iff.1 hm
  obtain ⟨Fu8, qu8, Hu8⟩ := r2_0
  subst qu8
  have iu8 := Hu8 s.t8 s.t9 _ r8_0 _ r8_1 _ r9_0 _ r9_1 _ hz7
  cases hm
  refine ⟨⟨_, _⟩, by
      simp only [bodyOf, Tryz.f51, Cat, Bool.false_eq_true, e_seq, e_region, e_cond, e_block, ex_skip, ex_exit, ex_ret, o_cons, xops_nil, k_want_none, k_want_false, k_val, k_pan, k_call, k_ret, k_seq, k_seq_exit, k_seq_ret, k_true, k_false, k_block, k_block_exit, k_block_ret, k_loop, k_loop_exit, k_loop_ret, awanted, aoper, evalO, put, Option.getD_some, List.getElem?_set, acallOp, abuiltin, List.map_cons, List.map_nil, Nat.reduceEqDiff, Nat.reduceLT, List.length_set, Option.map_some, Option.bind_some, Option.bind_eq_bind, add_i, sub_i, mul_i, eql_i, neq_i, lss_i, leq_i, gtr_i, geq_i, ofV, ofCell, ↓reduceIte, List.cons_append, List.nil_append, List.append_nil, List.getElem?_toArray, List.getElem?_cons_succ, List.getElem?_cons_zero, e_draw, g_nil, g_cons, g_want, g_skip, g_val, g_call, g_ret, Option.map_none, hl, a1, a2, a8, a9, a15, a16, a17, CP, bq1, bq2, bq3, bq4, ex_tup, k5, TyE.ld65, k6, iu8, aun_not]
      exact rfl, ?_⟩
  show P51_3 _ _
  exact ⟨w1_0, (.fn (.func Fu8) [] [] : AVal), w15_0, by simp [hl], by simp [a1], r1_0, by simp [a2], ⟨Fu8, rfl, Hu8⟩, by simp [a15], r15_0, by simp [a16], by simp [a17], by simp [hl]⟩
theorem R51_4 (pe : Nat → Fr51 → ASt → Prop) (pr : Fr51 → ASt → Prop) : Ref Cp P51_5 (Cat [true, true, false, true, true, true, true, true, false, true, true, false] (bodyOf Tryz.f51)) m51_4 (post P51_4 pe pr) := by
  rintro s ⟨t, h⟩ hp x s' hm
  have hp : P51_5' s t h := hp
  obtain ⟨w1_0, w2_0, i8, w8_0, w8_1, w15_0, hl, a1, r1_0, a2, r2_0, a7, a8, g8, l8, r8_0, r8_1, a15, r15_0, a16, a17⟩ := hp
  unfold m51_4 at hm
  obtain ⟨y27, hy27, hm⟩ := Option.bind_eq_some_iff.1 hm
  obtain ⟨cu28, du28, eu28, iu28, _⟩ := Sl.ix rGroup_p r1_0 hy27
  obtain ⟨bu28_0, bu28_1, rfl, gu28_0, gu28_1⟩ := eu28
  obtain ⟨H29, eH29⟩ : ∃ x : AHeap, x = h.new (.arr [.int .i64 0, .nilSl, .nilSl]) := ⟨_, rfl⟩
  obtain ⟨id30, eid30⟩ : ∃ x : Nat, x = h.next := ⟨_, rfl⟩
  have k31 : H29.get i8 = some (.arr [.int .i64 s.t8.Kind, w8_0, w8_1]) := by rw [eH29, Heap.get_new_lt l8]; exact g8
  have k32 : i8 < H29.next := by rw [eH29, Heap.new_next]; exact Nat.lt_succ_of_lt l8
  have k33 : H29.get id30 = some (.arr [.int .i64 0, .nilSl, .nilSl]) := by rw [eH29, eid30]; exact Heap.get_new_eq
  have k34 : id30 < H29.next := by rw [eH29, eid30, Heap.new_next]; exact Nat.lt_succ_self _
  have k35 : i8 ≠ id30 := by rw [eid30]; exact Nat.ne_of_lt l8
  have k36 : abox h (.agg [.int .i64 0, .nilSl, .nilSl]) = some (.ptr id30 0, H29) := by simp only [abox, eH29, eid30, bx_i, bx_b, bx_s, bx_a, bx_nl, bx_np, bx_ip, bx_ls, cl_i, cl_b, cl_s, cl_a, cl_nl, cl_np, cl_ip, cl_ls, List.all_cons, List.all_nil, Bool.and_self, Bool.and_true, c_i, c_b, c_s, c_nl, c_np, c_ip, c_ls, if_true]
  have ic37 : (bu28_0 : AVal).isCell = true := Sl.isCell gu28_0
  have ic38 : (bu28_1 : AVal).isCell = true := Sl.isCell gu28_1
  obtain ⟨H39, eH39⟩ : ∃ x : AHeap, x = H29.set id30 (some (.arr [.int .i64 y27.Kind, bu28_0, bu28_1])) := ⟨_, rfl⟩
  have k40 : storeA H29 3 (.ptr id30 0) (.agg [.int .i64 y27.Kind, bu28_0, bu28_1]) = some H39 := by rw [eH39]; exact Heap.store_gen k33 (show (.agg [.int .i64 y27.Kind, bu28_0, bu28_1] : AVal).cells = [.int .i64 y27.Kind, bu28_0, bu28_1] by simp only [cl_i, cl_b, cl_s, cl_a, cl_nl, cl_np, cl_ip, cl_ls, ic37, bx_c ic37, cl_c ic37, ic38, bx_c ic38, cl_c ic38]) rfl (by simp only [List.all_cons, List.all_nil, Bool.and_self, Bool.and_true, c_i, c_b, c_s, c_nl, c_np, c_ip, c_ls, ic37, bx_c ic37, cl_c ic37, ic38, bx_c ic38, cl_c ic38]) (Nat.le_of_ble_eq_true rfl) rfl
  have k41 : H39.get i8 = some (.arr [.int .i64 s.t8.Kind, w8_0, w8_1]) := by rw [eH39, Heap.get_set_ne k35]; exact k31
  have k42 : i8 < H39.next := by rw [eH39]; exact k32
  have k43 : H39.get id30 = some (.arr [.int .i64 y27.Kind, bu28_0, bu28_1]) := by rw [eH39]; exact Heap.get_set_eq
  have k44 : id30 < H39.next := by rw [eH39]; exact k34
  cases hm
  refine ⟨⟨_, _⟩, by
      simp only [bodyOf, Tryz.f51, Cat, Bool.false_eq_true, e_seq, e_region, e_cond, e_block, ex_skip, ex_exit, ex_ret, o_cons, xops_nil, k_want_none, k_want_false, k_val, k_pan, k_call, k_ret, k_seq, k_seq_exit, k_seq_ret, k_true, k_false, k_block, k_block_exit, k_block_ret, k_loop, k_loop_exit, k_loop_ret, awanted, aoper, evalO, put, Option.getD_some, List.getElem?_set, acallOp, abuiltin, List.map_cons, List.map_nil, Nat.reduceEqDiff, Nat.reduceLT, List.length_set, Option.map_some, Option.bind_some, Option.bind_eq_bind, add_i, sub_i, mul_i, eql_i, neq_i, lss_i, leq_i, gtr_i, geq_i, ofV, ofCell, ↓reduceIte, List.cons_append, List.nil_append, List.append_nil, List.getElem?_toArray, List.getElem?_cons_succ, List.getElem?_cons_zero, e_draw, g_nil, g_cons, g_want, g_skip, g_val, g_call, g_ret, Option.map_none, hl, a1, a2, a7, a8, a15, a16, a17, CP, bq1, bq2, bq3, bq4, ex_tup, TyE.ix25, iu28, TyE.ld65, ld_ip, ofc3, List.drop_succ_cons, List.drop_zero, List.length_cons, List.length_nil, TyE.ze65, TyE.own_slices_go_42, k36, k40, TyE.st65]
      exact rfl, ?_⟩
  show P51_4 _ _
  exact ⟨w1_0, w2_0, i8, w8_0, w8_1, id30, bu28_0, bu28_1, w15_0, by simp [hl], by simp [a1], r1_0, by simp [a2], r2_0, by simp [a8], k41, k42, r8_0, r8_1, by simp [hl], k43, k44, gu28_0, gu28_1, by simp [a15], r15_0, by simp [a16], by simp [a17], k35⟩
theorem R51_5 (pe : Nat → Fr51 → ASt → Prop) (pr : Fr51 → ASt → Prop) : Ref Cp P51_2 (Cat [true, true, false, true, true, true, true, true, false, true, false] (bodyOf Tryz.f51)) m51_5 (post P51_5 pe pr) := by
  rintro s ⟨t, h⟩ hp x s' hm
  have hp : P51_2' s t h := hp
  obtain ⟨w1_0, w2_0, w15_0, hl, a1, r1_0, a2, r2_0, a15, r15_0, a16, a17⟩ := hp
  unfold m51_5 at hm
  obtain ⟨y58, hy58, hm⟩ := Option.bind_eq_some_iff.1 hm
  obtain ⟨cu59, du59, eu59, iu59, _⟩ := Sl.ix rGroup_p r15_0 hy58
  obtain ⟨bu59_0, bu59_1, rfl, gu59_0, gu59_1⟩ := eu59
  obtain ⟨H60, eH60⟩ : ∃ x : AHeap, x = h.new (.arr [.int .i64 0, .nilSl, .nilSl]) := ⟨_, rfl⟩
  obtain ⟨id61, eid61⟩ : ∃ x : Nat, x = h.next := ⟨_, rfl⟩
  have k62 : H60.get id61 = some (.arr [.int .i64 0, .nilSl, .nilSl]) := by rw [eH60, eid61]; exact Heap.get_new_eq
  have k63 : id61 < H60.next := by rw [eH60, eid61, Heap.new_next]; exact Nat.lt_succ_self _
  have k64 : abox h (.agg [.int .i64 0, .nilSl, .nilSl]) = some (.ptr id61 0, H60) := by simp only [abox, eH60, eid61, bx_i, bx_b, bx_s, bx_a, bx_nl, bx_np, bx_ip, bx_ls, cl_i, cl_b, cl_s, cl_a, cl_nl, cl_np, cl_ip, cl_ls, List.all_cons, List.all_nil, Bool.and_self, Bool.and_true, c_i, c_b, c_s, c_nl, c_np, c_ip, c_ls, if_true]
  have ic65 : (bu59_0 : AVal).isCell = true := Sl.isCell gu59_0
  have ic66 : (bu59_1 : AVal).isCell = true := Sl.isCell gu59_1
  obtain ⟨H67, eH67⟩ : ∃ x : AHeap, x = H60.set id61 (some (.arr [.int .i64 y58.Kind, bu59_0, bu59_1])) := ⟨_, rfl⟩
  have k68 : storeA H60 3 (.ptr id61 0) (.agg [.int .i64 y58.Kind, bu59_0, bu59_1]) = some H67 := by rw [eH67]; exact Heap.store_gen k62 (show (.agg [.int .i64 y58.Kind, bu59_0, bu59_1] : AVal).cells = [.int .i64 y58.Kind, bu59_0, bu59_1] by simp only [cl_i, cl_b, cl_s, cl_a, cl_nl, cl_np, cl_ip, cl_ls, ic65, bx_c ic65, cl_c ic65, ic66, bx_c ic66, cl_c ic66]) rfl (by simp only [List.all_cons, List.all_nil, Bool.and_self, Bool.and_true, c_i, c_b, c_s, c_nl, c_np, c_ip, c_ls, ic65, bx_c ic65, cl_c ic65, ic66, bx_c ic66, cl_c ic66]) (Nat.le_of_ble_eq_true rfl) rfl
  have k69 : H67.get id61 = some (.arr [.int .i64 y58.Kind, bu59_0, bu59_1]) := by rw [eH67]; exact Heap.get_set_eq
  have k70 : id61 < H67.next := by rw [eH67]; exact k63
  cases hm
  refine ⟨⟨_, _⟩, by
      simp only [bodyOf, Tryz.f51, Cat, Bool.false_eq_true, e_seq, e_region, e_cond, e_block, ex_skip, ex_exit, ex_ret, o_cons, xops_nil, k_want_none, k_want_false, k_val, k_pan, k_call, k_ret, k_seq, k_seq_exit, k_seq_ret, k_true, k_false, k_block, k_block_exit, k_block_ret, k_loop, k_loop_exit, k_loop_ret, awanted, aoper, evalO, put, Option.getD_some, List.getElem?_set, acallOp, abuiltin, List.map_cons, List.map_nil, Nat.reduceEqDiff, Nat.reduceLT, List.length_set, Option.map_some, Option.bind_some, Option.bind_eq_bind, add_i, sub_i, mul_i, eql_i, neq_i, lss_i, leq_i, gtr_i, geq_i, ofV, ofCell, ↓reduceIte, List.cons_append, List.nil_append, List.append_nil, List.getElem?_toArray, List.getElem?_cons_succ, List.getElem?_cons_zero, e_draw, g_nil, g_cons, g_want, g_skip, g_val, g_call, g_ret, Option.map_none, hl, a1, a2, a15, a16, a17, CP, bq1, bq2, bq3, bq4, ex_tup, TyE.ix25, iu59, TyE.ld65, ld_ip, ofc3, List.drop_succ_cons, List.drop_zero, List.length_cons, List.length_nil, TyE.ze65, TyE.own_slices_go_41, k64, k68, TyE.st65]
      exact rfl, ?_⟩
  show P51_5 _ _
  exact ⟨w1_0, w2_0, id61, bu59_0, bu59_1, w15_0, by simp [hl], by simp [a1], r1_0, by simp [a2], r2_0, by simp [hl], by simp [hl], k69, k70, gu59_0, gu59_1, by simp [a15], r15_0, by simp [a16], by simp [a17]⟩
theorem R51_6 (pe : Nat → Fr51 → ASt → Prop) (pr : Fr51 → ASt → Prop) : Ref Cp P51_2 (Cat [true, true, false, true, true, true, false] (bodyOf Tryz.f51)) m51_6 (post P51_6 pe pr) := by
  rintro s ⟨t, h⟩ hp x s' hm
  have hp : P51_2' s t h := hp
  obtain ⟨w1_0, w2_0, w15_0, hl, a1, r1_0, a2, r2_0, a15, r15_0, a16, a17⟩ := hp
  unfold m51_6 at hm
  cases hm
  refine ⟨⟨_, _⟩, by
      simp only [bodyOf, Tryz.f51, Cat, Bool.false_eq_true, e_seq, e_region, e_cond, e_block, ex_skip, ex_exit, ex_ret, o_cons, xops_nil, k_want_none, k_want_false, k_val, k_pan, k_call, k_ret, k_seq, k_seq_exit, k_seq_ret, k_true, k_false, k_block, k_block_exit, k_block_ret, k_loop, k_loop_exit, k_loop_ret, awanted, aoper, evalO, put, Option.getD_some, List.getElem?_set, acallOp, abuiltin, List.map_cons, List.map_nil, Nat.reduceEqDiff, Nat.reduceLT, List.length_set, Option.map_some, Option.bind_some, Option.bind_eq_bind, add_i, sub_i, mul_i, eql_i, neq_i, lss_i, leq_i, gtr_i, geq_i, ofV, ofCell, ↓reduceIte, List.cons_append, List.nil_append, List.append_nil, List.getElem?_toArray, List.getElem?_cons_succ, List.getElem?_cons_zero, e_draw, g_nil, g_cons, g_want, g_skip, g_val, g_call, g_ret, Option.map_none, hl, a1, a2, a15, a16, a17, CP, bq1, bq2, bq3, bq4, ex_tup]
      exact rfl, ?_⟩
  show P51_6 _ _
  exact ⟨w1_0, w2_0, w15_0, by simp [hl], by simp [a1], r1_0, by simp [a2], r2_0, by simp [a15], r15_0, by simp [a16], by simp [a17], by simp [hl]⟩
theorem R51_8 (pe : Nat → Fr51 → ASt → Prop) (pr : Fr51 → ASt → Prop) : Ref Cp P51_7 (Cat [true, true, false, false] (bodyOf Tryz.f51)) m51_8 (post P51_2 pe pr) := by
  rintro s ⟨t, h⟩ hp x s' hm
  have hp : P51_7' s t h := hp
  obtain ⟨w0_0, w1_0, w2_0, hl, a0, r0_0, a1, r1_0, a2, r2_0⟩ := hp
  unfold m51_8 at hm
  have lu72 := fun h => Sl.len r0_0 TyE.un25 h
  cases hm
  refine ⟨⟨_, _⟩, by
      simp only [bodyOf, Tryz.f51, Cat, Bool.false_eq_true, e_seq, e_region, e_cond, e_block, ex_skip, ex_exit, ex_ret, o_cons, xops_nil, k_want_none, k_want_false, k_val, k_pan, k_call, k_ret, k_seq, k_seq_exit, k_seq_ret, k_true, k_false, k_block, k_block_exit, k_block_ret, k_loop, k_loop_exit, k_loop_ret, awanted, aoper, evalO, put, Option.getD_some, List.getElem?_set, acallOp, abuiltin, List.map_cons, List.map_nil, Nat.reduceEqDiff, Nat.reduceLT, List.length_set, Option.map_some, Option.bind_some, Option.bind_eq_bind, add_i, sub_i, mul_i, eql_i, neq_i, lss_i, leq_i, gtr_i, geq_i, ofV, ofCell, ↓reduceIte, List.cons_append, List.nil_append, List.append_nil, List.getElem?_toArray, List.getElem?_cons_succ, List.getElem?_cons_zero, e_draw, g_nil, g_cons, g_want, g_skip, g_val, g_call, g_ret, Option.map_none, hl, a0, a1, a2, CP, bq1, bq2, bq3, bq4, ex_tup, lu72]
      exact rfl, ?_⟩
  show P51_2 _ _
  exact ⟨w1_0, w2_0, w0_0, by simp [hl], by simp [a1], r1_0, by simp [a2], r2_0, by simp [hl], r0_0, by simp [hl], by simp [hl]⟩
theorem R51_9 (pe : Nat → Fr51 → ASt → Prop) (pr : Fr51 → ASt → Prop) : Ref Cp P51_0 (Cat [true, false, true, false, false] (bodyOf Tryz.f51)) m51_9 (post P51_1 pe pr) := by
  rintro s ⟨t, h⟩ hp x s' hm
  have hp : P51_0' s t h := hp
  obtain ⟨hl, _⟩ := hp
  unfold m51_9 at hm
  cases hm
  refine ⟨⟨_, _⟩, by
      simp only [bodyOf, Tryz.f51, Cat, Bool.false_eq_true, e_seq, e_region, e_cond, e_block, ex_skip, ex_exit, ex_ret, o_cons, xops_nil, k_want_none, k_want_false, k_val, k_pan, k_call, k_ret, k_seq, k_seq_exit, k_seq_ret, k_true, k_false, k_block, k_block_exit, k_block_ret, k_loop, k_loop_exit, k_loop_ret, awanted, aoper, evalO, put, Option.getD_some, List.getElem?_set, acallOp, abuiltin, List.map_cons, List.map_nil, Nat.reduceEqDiff, Nat.reduceLT, List.length_set, Option.map_some, Option.bind_some, Option.bind_eq_bind, add_i, sub_i, mul_i, eql_i, neq_i, lss_i, leq_i, gtr_i, geq_i, ofV, ofCell, ↓reduceIte, List.cons_append, List.nil_append, List.append_nil, List.getElem?_toArray, List.getElem?_cons_succ, List.getElem?_cons_zero, e_draw, g_nil, g_cons, g_want, g_skip, g_val, g_call, g_ret, Option.map_none, hl, CP, bq1, bq2, bq3, bq4, ex_tup]
      exact rfl, ?_⟩
  show P51_1 _ _
  exact ⟨by simp [hl], by simp [hl]⟩
theorem R51_10 (pe : Nat → Fr51 → ASt → Prop) (pr : Fr51 → ASt → Prop) : Ref Cp P51_7 (Cat [true, false, false] (bodyOf Tryz.f51)) m51_10 (post P51_8 pe pr) := by
  rintro s ⟨t, h⟩ hp x s' hm
  have hp : P51_7' s t h := hp
  obtain ⟨w0_0, w1_0, w2_0, hl, a0, r0_0, a1, r1_0, a2, r2_0⟩ := hp
  unfold m51_10 at hm
  have lu75 := fun h => Sl.len r0_0 TyE.un25 h
  have lu76 := fun h => Sl.len r1_0 TyE.un25 h
  cases hm
  refine ⟨⟨_, _⟩, by
      simp only [bodyOf, Tryz.f51, Cat, Bool.false_eq_true, e_seq, e_region, e_cond, e_block, ex_skip, ex_exit, ex_ret, o_cons, xops_nil, k_want_none, k_want_false, k_val, k_pan, k_call, k_ret, k_seq, k_seq_exit, k_seq_ret, k_true, k_false, k_block, k_block_exit, k_block_ret, k_loop, k_loop_exit, k_loop_ret, awanted, aoper, evalO, put, Option.getD_some, List.getElem?_set, acallOp, abuiltin, List.map_cons, List.map_nil, Nat.reduceEqDiff, Nat.reduceLT, List.length_set, Option.map_some, Option.bind_some, Option.bind_eq_bind, add_i, sub_i, mul_i, eql_i, neq_i, lss_i, leq_i, gtr_i, geq_i, ofV, ofCell, ↓reduceIte, List.cons_append, List.nil_append, List.append_nil, List.getElem?_toArray, List.getElem?_cons_succ, List.getElem?_cons_zero, e_draw, g_nil, g_cons, g_want, g_skip, g_val, g_call, g_ret, Option.map_none, hl, a0, a1, a2, CP, bq1, bq2, bq3, bq4, ex_tup, lu75, lu76]
      exact rfl, ?_⟩
  show P51_8 _ _
  exact ⟨w0_0, w1_0, w2_0, by simp [hl], by simp [a0], r0_0, by simp [a1], r1_0, by simp [a2], r2_0, by simp [hl]⟩
theorem R51_11 (pe : Nat → Fr51 → ASt → Prop) (pr : Fr51 → ASt → Prop) : Ref Cp P51_7 (Cat [false] (bodyOf Tryz.f51)) m51_11 (post P51_7 pe pr) := by
  rintro s ⟨t, h⟩ hp x s' hm
  have hp : P51_7' s t h := hp
  obtain ⟨w0_0, w1_0, w2_0, hl, a0, r0_0, a1, r1_0, a2, r2_0⟩ := hp
  unfold m51_11 at hm
  cases hm
  refine ⟨⟨_, _⟩, by
      simp only [bodyOf, Tryz.f51, Cat, Bool.false_eq_true, e_seq, e_region, e_cond, e_block, ex_skip, ex_exit, ex_ret, o_cons, xops_nil, k_want_none, k_want_false, k_val, k_pan, k_call, k_ret, k_seq, k_seq_exit, k_seq_ret, k_true, k_false, k_block, k_block_exit, k_block_ret, k_loop, k_loop_exit, k_loop_ret, awanted, aoper, evalO, put, Option.getD_some, List.getElem?_set, acallOp, abuiltin, List.map_cons, List.map_nil, Nat.reduceEqDiff, Nat.reduceLT, List.length_set, Option.map_some, Option.bind_some, Option.bind_eq_bind, add_i, sub_i, mul_i, eql_i, neq_i, lss_i, leq_i, gtr_i, geq_i, ofV, ofCell, ↓reduceIte, List.cons_append, List.nil_append, List.append_nil, List.getElem?_toArray, List.getElem?_cons_succ, List.getElem?_cons_zero, e_draw, g_nil, g_cons, g_want, g_skip, g_val, g_call, g_ret, Option.map_none, hl, a0, a1, a2, CP, bq1, bq2, bq3, bq4, ex_tup]
      exact rfl, ?_⟩
  show P51_7 _ _
  exact ⟨w0_0, w1_0, w2_0, by simp [hl], by simp [a0], r0_0, by simp [a1], r1_0, by simp [a2], r2_0⟩
theorem B51 : Ref Cp P51_7 (bodyOf Tryz.f51) (M51) (post P51_1 (fun _ _ _ => False) P51_1) := by
  rw [show bodyOf Tryz.f51 = .seq (Cat [false] (bodyOf Tryz.f51)) (.seq (.seq (Cat [true, false, false] (bodyOf Tryz.f51)) (.cond (.tmp 14) (.seq (Cat [true, false, true, false, false] (bodyOf Tryz.f51)) (.ret)) (.skip))) (.seq (.seq (Cat [true, true, false, false] (bodyOf Tryz.f51)) (.block 0 (.loop (.seq (Cat [true, true, false, true, true, true, false] (bodyOf Tryz.f51)) (.seq (.cond (.tmp 18) (.skip) (.exit 0)) (.seq (.block 1 (.seq (Cat [true, true, false, true, true, true, true, true, false, true, false] (bodyOf Tryz.f51)) (.seq (Cat [true, true, false, true, true, true, true, true, false, true, true, false] (bodyOf Tryz.f51)) (.seq (Cat [true, true, false, true, true, true, true, true, false, true, true, true, false] (bodyOf Tryz.f51)) (.cond (.tmp 30) (.seq (Cat [true, true, false, true, true, true, true, true, false, true, true, true, true, false, false] (bodyOf Tryz.f51)) (.ret)) (.skip)))))) (Cat [true, true, false, true, true, true, true, true, true] (bodyOf Tryz.f51)))))))) (.seq (Cat [true, true, true, false] (bodyOf Tryz.f51)) (.ret)))) from rfl]
  unfold M51
  exact ref_seq (M := P51_7) (R51_11 _ _) (ref_seq (M := P51_7) (ref_seq (M := P51_8) (R51_10 _ _) (ref_cond (P := P51_8) (c := fun s => s.t14) (fun s st hp => by obtain ⟨w0_0, w1_0, w2_0, hl, a0, r0_0, a1, r1_0, a2, r2_0, a14⟩ := (hp : P51_8' s st.tmps st.h); simp only [evalO, a14, Option.getD_some]) (ref_weak (P' := P51_0) (fun s st hp => by obtain ⟨w0_0, w1_0, w2_0, hl, a0, r0_0, a1, r1_0, a2, r2_0, a14⟩ := (hp : P51_8' s st.tmps st.h); exact (⟨hl, trivial⟩ : P51_0' s st.tmps st.h)) (ref_seq (M := P51_1) (R51_9 _ _) (ref_ret (fun s st hp => hp)))) (ref_weak (P' := P51_7) (fun s st hp => by obtain ⟨w0_0, w1_0, w2_0, hl, a0, r0_0, a1, r1_0, a2, r2_0, a14⟩ := (hp : P51_8' s st.tmps st.h); exact (⟨w0_0, w1_0, w2_0, hl, a0, r0_0, a1, r1_0, a2, r2_0⟩ : P51_7' s st.tmps st.h)) (ref_skip (fun s st hp => hp))))) (ref_seq (M := P51_0) (ref_seq (M := P51_2) (R51_8 _ _) (ref_block (ref_loop (P := P51_2) (ref_weak (P' := P51_2) (fun s st hp => hp) (ref_seq (M := P51_6) (R51_6 _ _) (ref_seq (M := P51_2) (ref_cond (P := P51_6) (c := fun s => s.t18) (fun s st hp => by obtain ⟨w1_0, w2_0, w15_0, hl, a1, r1_0, a2, r2_0, a15, r15_0, a16, a17, a18⟩ := (hp : P51_6' s st.tmps st.h); simp only [evalO, a18, Option.getD_some]) (ref_weak (P' := P51_2) (fun s st hp => by obtain ⟨w1_0, w2_0, w15_0, hl, a1, r1_0, a2, r2_0, a15, r15_0, a16, a17, a18⟩ := (hp : P51_6' s st.tmps st.h); exact (⟨w1_0, w2_0, w15_0, hl, a1, r1_0, a2, r2_0, a15, r15_0, a16, a17⟩ : P51_2' s st.tmps st.h)) (ref_skip (fun s st hp => hp))) (ref_weak (P' := P51_0) (fun s st hp => by obtain ⟨w1_0, w2_0, w15_0, hl, a1, r1_0, a2, r2_0, a15, r15_0, a16, a17, a18⟩ := (hp : P51_6' s st.tmps st.h); exact (⟨hl, trivial⟩ : P51_0' s st.tmps st.h)) (ref_exit (fun s st hp => hp)))) (ref_seq (M := P51_2) (ref_block (ref_seq (M := P51_5) (R51_5 _ _) (ref_seq (M := P51_4) (R51_4 _ _) (ref_seq (M := P51_3) (R51_3 _ _) (ref_cond (P := P51_3) (c := fun s => s.t30) (fun s st hp => by obtain ⟨w1_0, w2_0, w15_0, hl, a1, r1_0, a2, r2_0, a15, r15_0, a16, a17, a30⟩ := (hp : P51_3' s st.tmps st.h); simp only [evalO, a30, Option.getD_some]) (ref_weak (P' := P51_0) (fun s st hp => by obtain ⟨w1_0, w2_0, w15_0, hl, a1, r1_0, a2, r2_0, a15, r15_0, a16, a17, a30⟩ := (hp : P51_3' s st.tmps st.h); exact (⟨hl, trivial⟩ : P51_0' s st.tmps st.h)) (ref_seq (M := P51_1) (R51_2 _ _) (ref_ret (fun s st hp => hp)))) (ref_weak (P' := P51_2) (fun s st hp => by obtain ⟨w1_0, w2_0, w15_0, hl, a1, r1_0, a2, r2_0, a15, r15_0, a16, a17, a30⟩ := (hp : P51_3' s st.tmps st.h); exact (⟨w1_0, w2_0, w15_0, hl, a1, r1_0, a2, r2_0, a15, r15_0, a16, a17⟩ : P51_2' s st.tmps st.h)) (ref_skip (fun s st hp => hp)))))))) (R51_1 _ _)))))))) (ref_seq (M := P51_1) (R51_0 _ _) (ref_ret (fun s st hp => hp)))))
noncomputable def G51 (x0 : (List Group)) (x1 : (List Group)) (x2 : (Group → Group → Option Bool)) : Option Bool := match M51 { (default : Fr51) with t0 := x0, t1 := x1, t2 := x2 } with
  | some (.nrm, s) => some s.t6
  | some (.ret, s) => some s.t6
  | _ => none
theorem G51_spec : Spec51 (G51) := by
  intro x0 x1 x2 vx0_0 hvx0_0 vx1_0 hvx1_0 vx2_0 hvx2_0 r hr
  unfold G51 at hr
  cases hm : M51 { (default : Fr51) with t0 := x0, t1 := x1, t2 := x2 } with
  | none => rw [hm] at hr; cases hr
  | some q =>
    obtain ⟨x, s⟩ := q
    rw [hm] at hr
    have hx : x = .nrm ∨ x = .ret := by cases x <;> first | exact .inl rfl | exact .inr rfl | cases hr
    have hr : s.t6 = r := by cases x <;> first | exact Option.some.inj hr | cases hr
    subst hr
    have hp0 : P51_7' ({ (default : Fr51) with t0 := x0, t1 := x1, t2 := x2 }) (slots Tryz.f51 (stripL [vx0_0, vx1_0, vx2_0])) bare := ⟨(strip vx0_0 : AVal), (strip vx1_0 : AVal), (strip vx2_0 : AVal), rfl, rfl, hvx0_0.strip rGroup_p, rfl, hvx1_0.strip rGroup_p, rfl, rFnE1_strip hvx2_0⟩
    obtain ⟨v, hR, hrun⟩ := run_of_ref (C := Cp) (f := 51) (fn := Tryz.f51) Tryz.func51 rfl rfl rfl rfl (args := [vx0_0, vx1_0, vx2_0]) (by simp only [refsL, refs, List.append_nil, hvx0_0.refs rGroup_p, hvx1_0.refs rGroup_p, rFnE1_refs hvx2_0]) (B51) (s0 := { (default : Fr51) with t0 := x0, t1 := x1, t2 := x2 }) hp0 hm hx (R := fun v => v = .bool s.t6) (by
      have key : ∀ st : ASt, P51_1 s st → ∃ vs v, aresults Cp Tryz.f51.results.toList st = some vs ∧ Nrm [] st.h (packRes vs) v ∧ (fun v => v = .bool s.t6) v := by
        intro st hp
        obtain ⟨hl, a6⟩ := (hp : P51_1' s st.tmps st.h)
        exact ⟨[.bool s.t6], _, by simp only [show Tryz.f51.results.toList = [ResultVar.tmp 6] from rfl, aresults, ares1, CP, a6, Option.getD_some], (Nrm.of (w := .bool s.t6) (by simp only [refsL, refs, List.append_nil])), rfl⟩
      intro st hq
      rcases hx with rfl | rfl
      · exact key st hq
      · exact key st hq)
    subst hR
    exact hrun
/-! ### slices.Equal[[]caisson/api.Item,caisson/api.Item] -/
structure Fr50 where
  t0 : (List Item)
  t1 : (List Item)
  t4 : Bool
  t5 : Int
  t10 : Bool
  t12 : Int
  t13 : Int
  t14 : Bool
  t24 : Bool
instance : Inhabited Fr50 := ⟨⟨[], [], false, 0, false, 0, 0, false, false⟩⟩
def P50_0' (s : Fr50) (t : List AVal) (h : AHeap) : Prop := t.length = 26 ∧ True
def P50_0 (s : Fr50) (st : ASt) : Prop := P50_0' s st.tmps st.h
def P50_1' (s : Fr50) (t : List AVal) (h : AHeap) : Prop := t.length = 26 ∧ t[4]? = some (.bool s.t4)
def P50_1 (s : Fr50) (st : ASt) : Prop := P50_1' s st.tmps st.h
def P50_2' (s : Fr50) (t : List AVal) (h : AHeap) : Prop := ∃ w0_0 w1_0, t.length = 26 ∧ t[0]? = some w0_0 ∧ Sl rItem s.t0 w0_0 ∧ t[1]? = some w1_0 ∧ Sl rItem s.t1 w1_0 ∧ t[12]? = some (.int .i64 s.t12) ∧ t[13]? = some (.int .i64 s.t13)
def P50_2 (s : Fr50) (st : ASt) : Prop := P50_2' s st.tmps st.h
def P50_3' (s : Fr50) (t : List AVal) (h : AHeap) : Prop := ∃ w0_0 w1_0, t.length = 26 ∧ t[0]? = some w0_0 ∧ Sl rItem s.t0 w0_0 ∧ t[1]? = some w1_0 ∧ Sl rItem s.t1 w1_0 ∧ t[12]? = some (.int .i64 s.t12) ∧ t[13]? = some (.int .i64 s.t13) ∧ t[24]? = some (.bool s.t24)
def P50_3 (s : Fr50) (st : ASt) : Prop := P50_3' s st.tmps st.h
def P50_4' (s : Fr50) (t : List AVal) (h : AHeap) : Prop := ∃ w0_0 w1_0, t.length = 26 ∧ t[0]? = some w0_0 ∧ Sl rItem s.t0 w0_0 ∧ t[1]? = some w1_0 ∧ Sl rItem s.t1 w1_0 ∧ t[5]? = some (.int .i64 s.t5) ∧ t[12]? = some (.int .i64 s.t12) ∧ t[13]? = some (.int .i64 s.t13)
def P50_4 (s : Fr50) (st : ASt) : Prop := P50_4' s st.tmps st.h
def P50_5' (s : Fr50) (t : List AVal) (h : AHeap) : Prop := ∃ w0_0 w1_0, t.length = 26 ∧ t[0]? = some w0_0 ∧ Sl rItem s.t0 w0_0 ∧ t[1]? = some w1_0 ∧ Sl rItem s.t1 w1_0 ∧ t[12]? = some (.int .i64 s.t12) ∧ t[13]? = some (.int .i64 s.t13) ∧ t[14]? = some (.bool s.t14)
def P50_5 (s : Fr50) (st : ASt) : Prop := P50_5' s st.tmps st.h
def P50_6' (s : Fr50) (t : List AVal) (h : AHeap) : Prop := ∃ w0_0 w1_0, t.length = 26 ∧ t[0]? = some w0_0 ∧ Sl rItem s.t0 w0_0 ∧ t[1]? = some w1_0 ∧ Sl rItem s.t1 w1_0
def P50_6 (s : Fr50) (st : ASt) : Prop := P50_6' s st.tmps st.h
def P50_7' (s : Fr50) (t : List AVal) (h : AHeap) : Prop := ∃ w0_0 w1_0, t.length = 26 ∧ t[0]? = some w0_0 ∧ Sl rItem s.t0 w0_0 ∧ t[1]? = some w1_0 ∧ Sl rItem s.t1 w1_0 ∧ t[10]? = some (.bool s.t10)
def P50_7 (s : Fr50) (st : ASt) : Prop := P50_7' s st.tmps st.h
noncomputable def m50_0 : Mo Fr50 := fun s => some (.nrm, { s with t4 := true })
noncomputable def m50_1 : Mo Fr50 := fun s => some (.nrm, { s with t13 := IntKind.wrap .i64 (s.t13 + 1) })
noncomputable def m50_2 : Mo Fr50 := fun s => some (.nrm, { s with t4 := false })
noncomputable def m50_3 : Mo Fr50 := fun s => (at? s.t0 s.t5).bind fun y1 => (at? s.t1 s.t5).bind fun y3 => some (.nrm, { s with t24 := (!eqItem y1 y3) })
noncomputable def m50_4 : Mo Fr50 := fun s => some (.nrm, { s with t5 := s.t13 })
noncomputable def m50_5 : Mo Fr50 := fun s => some (.nrm, { s with t14 := decide (s.t13 < s.t12) })
noncomputable def L50_6 : Mo Fr50 := seqM (m50_5) (seqM (condM (fun s => s.t14) (skipM) (exitM 0)) (seqM (blockM 1 (seqM (m50_4) (seqM (m50_3) (condM (fun s => s.t24) (seqM (m50_2) (retM)) (skipM))))) (m50_1)))
noncomputable def m50_7 : Mo Fr50 := fun s => some (.nrm, { s with t12 := (s.t0.length : Int), t13 := 0 })
noncomputable def m50_8 : Mo Fr50 := fun s => some (.nrm, { s with t4 := false })
noncomputable def m50_9 : Mo Fr50 := fun s => some (.nrm, { s with t10 := ((s.t0.length : Int) != (s.t1.length : Int)) })
noncomputable def m50_10 : Mo Fr50 := fun s => some (.nrm, s)
noncomputable def M50 : Mo Fr50 := seqM (m50_10) (seqM (seqM (m50_9) (condM (fun s => s.t10) (seqM (m50_8) (retM)) (skipM))) (seqM (seqM (m50_7) (blockM 0 (loopM (L50_6)))) (seqM (m50_0) (retM))))
def Spec50 (f : (List Item) → (List Item) → Option Bool) : Prop := ∀ (x0 : (List Item)) (x1 : (List Item)) (vx0_0 : AVal) (_ : Sl rItem x0 vx0_0) (vx1_0 : AVal) (_ : Sl rItem x1 vx1_0) (r : Bool), f x0 x1 = some r → ∀ h, run Cp 50 [vx0_0, vx1_0] h = some (.ret (.bool r), h)
theorem Spec50_of {f g : (List Item) → (List Item) → Option Bool} (hg : Spec50 g) (h : ∀ x0 x1 r, f x0 x1 = some r → g x0 x1 = some r) : Spec50 f := fun x0 x1 v0_ w0_ v1_ w1_ r hr => hg x0 x1 v0_ w0_ v1_ w1_ r (h x0 x1 r hr)
theorem R50_0 (pe : Nat → Fr50 → ASt → Prop) (pr : Fr50 → ASt → Prop) : Ref Cp P50_0 (Cat [true, true, true, false] (bodyOf Tryz.f50)) m50_0 (post P50_1 pe pr) := by
  rintro s ⟨t, h⟩ hp x s' hm
  have hp : P50_0' s t h := hp
  obtain ⟨hl, _⟩ := hp
  unfold m50_0 at hm
  cases hm
  refine ⟨⟨_, _⟩, by
      simp only [bodyOf, Tryz.f50, Cat, Bool.false_eq_true, e_seq, e_region, e_cond, e_block, ex_skip, ex_exit, ex_ret, o_cons, xops_nil, k_want_none, k_want_false, k_val, k_pan, k_call, k_ret, k_seq, k_seq_exit, k_seq_ret, k_true, k_false, k_block, k_block_exit, k_block_ret, k_loop, k_loop_exit, k_loop_ret, awanted, aoper, evalO, put, Option.getD_some, List.getElem?_set, acallOp, abuiltin, List.map_cons, List.map_nil, Nat.reduceEqDiff, Nat.reduceLT, List.length_set, Option.map_some, Option.bind_some, Option.bind_eq_bind, add_i, sub_i, mul_i, eql_i, neq_i, lss_i, leq_i, gtr_i, geq_i, ofV, ofCell, ↓reduceIte, List.cons_append, List.nil_append, List.append_nil, List.getElem?_toArray, List.getElem?_cons_succ, List.getElem?_cons_zero, e_draw, g_nil, g_cons, g_want, g_skip, g_val, g_call, g_ret, Option.map_none, hl, CP, bq1, bq2, bq3, bq4, ex_tup]
      exact rfl, ?_⟩
  show P50_1 _ _
  exact ⟨by simp [hl], by simp [hl]⟩
theorem R50_1 (pe : Nat → Fr50 → ASt → Prop) (pr : Fr50 → ASt → Prop) : Ref Cp P50_2 (Cat [true, true, false, true, true, true, true, true, true] (bodyOf Tryz.f50)) m50_1 (post P50_2 pe pr) := by
  rintro s ⟨t, h⟩ hp x s' hm
  have hp : P50_2' s t h := hp
  obtain ⟨w0_0, w1_0, hl, a0, r0_0, a1, r1_0, a12, a13⟩ := hp
  unfold m50_1 at hm
  cases hm
  refine ⟨⟨_, _⟩, by
      simp only [bodyOf, Tryz.f50, Cat, Bool.false_eq_true, e_seq, e_region, e_cond, e_block, ex_skip, ex_exit, ex_ret, o_cons, xops_nil, k_want_none, k_want_false, k_val, k_pan, k_call, k_ret, k_seq, k_seq_exit, k_seq_ret, k_true, k_false, k_block, k_block_exit, k_block_ret, k_loop, k_loop_exit, k_loop_ret, awanted, aoper, evalO, put, Option.getD_some, List.getElem?_set, acallOp, abuiltin, List.map_cons, List.map_nil, Nat.reduceEqDiff, Nat.reduceLT, List.length_set, Option.map_some, Option.bind_some, Option.bind_eq_bind, add_i, sub_i, mul_i, eql_i, neq_i, lss_i, leq_i, gtr_i, geq_i, ofV, ofCell, ↓reduceIte, List.cons_append, List.nil_append, List.append_nil, List.getElem?_toArray, List.getElem?_cons_succ, List.getElem?_cons_zero, e_draw, g_nil, g_cons, g_want, g_skip, g_val, g_call, g_ret, Option.map_none, hl, a0, a1, a12, a13, CP, bq1, bq2, bq3, bq4, ex_tup]
      exact rfl, ?_⟩
  show P50_2 _ _
  exact ⟨w0_0, w1_0, by simp [hl], by simp [a0], r0_0, by simp [a1], r1_0, by simp [a12], by simp [hl]⟩
theorem R50_2 (pe : Nat → Fr50 → ASt → Prop) (pr : Fr50 → ASt → Prop) : Ref Cp P50_0 (Cat [true, true, false, true, true, true, true, true, false, true, true, true, false, false] (bodyOf Tryz.f50)) m50_2 (post P50_1 pe pr) := by
  rintro s ⟨t, h⟩ hp x s' hm
  have hp : P50_0' s t h := hp
  obtain ⟨hl, _⟩ := hp
  unfold m50_2 at hm
  cases hm
  refine ⟨⟨_, _⟩, by
      simp only [bodyOf, Tryz.f50, Cat, Bool.false_eq_true, e_seq, e_region, e_cond, e_block, ex_skip, ex_exit, ex_ret, o_cons, xops_nil, k_want_none, k_want_false, k_val, k_pan, k_call, k_ret, k_seq, k_seq_exit, k_seq_ret, k_true, k_false, k_block, k_block_exit, k_block_ret, k_loop, k_loop_exit, k_loop_ret, awanted, aoper, evalO, put, Option.getD_some, List.getElem?_set, acallOp, abuiltin, List.map_cons, List.map_nil, Nat.reduceEqDiff, Nat.reduceLT, List.length_set, Option.map_some, Option.bind_some, Option.bind_eq_bind, add_i, sub_i, mul_i, eql_i, neq_i, lss_i, leq_i, gtr_i, geq_i, ofV, ofCell, ↓reduceIte, List.cons_append, List.nil_append, List.append_nil, List.getElem?_toArray, List.getElem?_cons_succ, List.getElem?_cons_zero, e_draw, g_nil, g_cons, g_want, g_skip, g_val, g_call, g_ret, Option.map_none, hl, CP, bq1, bq2, bq3, bq4, ex_tup]
      exact rfl, ?_⟩
  show P50_1 _ _
  exact ⟨by simp [hl], by simp [hl]⟩
theorem R50_3 (pe : Nat → Fr50 → ASt → Prop) (pr : Fr50 → ASt → Prop) : Ref Cp P50_4 (Cat [true, true, false, true, true, true, true, true, false, true, true, false] (bodyOf Tryz.f50)) m50_3 (post P50_3 pe pr) := by
  rintro s ⟨t, h⟩ hp x s' hm
  have hp : P50_4' s t h := hp
  obtain ⟨w0_0, w1_0, hl, a0, r0_0, a1, r1_0, a5, a12, a13⟩ := hp
  unfold m50_3 at hm
  obtain ⟨y6, hy6, hm⟩ := Option.bind_eq_some_iff.1 hm
  obtain ⟨cu7, du7, eu7, iu7, _⟩ := Sl.ix rItem_p r0_0 hy6
  have eu7 := eu7; unfold rItem at eu7; subst eu7
  obtain ⟨y8, hy8, hm⟩ := Option.bind_eq_some_iff.1 hm
  obtain ⟨cu9, du9, eu9, iu9, _⟩ := Sl.ix rItem_p r1_0 hy8
  have eu9 := eu9; unfold rItem at eu9; subst eu9
  have k10 : ∀ (xo yo : Operand) (h : AHeap), abin Cp .neq 45 xo yo h (.agg [.int .i64 y6.Kind, .str y6.Column]) (.agg [.int .i64 y8.Kind, .str y8.Column]) = some (.bool (!eqItem y6 y8)) := fun xo yo h => TyE.neqs45 xo yo h y6 y8
  cases hm
  refine ⟨⟨_, _⟩, by
      simp only [bodyOf, Tryz.f50, Cat, Bool.false_eq_true, e_seq, e_region, e_cond, e_block, ex_skip, ex_exit, ex_ret, o_cons, xops_nil, k_want_none, k_want_false, k_val, k_pan, k_call, k_ret, k_seq, k_seq_exit, k_seq_ret, k_true, k_false, k_block, k_block_exit, k_block_ret, k_loop, k_loop_exit, k_loop_ret, awanted, aoper, evalO, put, Option.getD_some, List.getElem?_set, acallOp, abuiltin, List.map_cons, List.map_nil, Nat.reduceEqDiff, Nat.reduceLT, List.length_set, Option.map_some, Option.bind_some, Option.bind_eq_bind, add_i, sub_i, mul_i, eql_i, neq_i, lss_i, leq_i, gtr_i, geq_i, ofV, ofCell, ↓reduceIte, List.cons_append, List.nil_append, List.append_nil, List.getElem?_toArray, List.getElem?_cons_succ, List.getElem?_cons_zero, e_draw, g_nil, g_cons, g_want, g_skip, g_val, g_call, g_ret, Option.map_none, hl, a0, a1, a5, a12, a13, CP, bq1, bq2, bq3, bq4, ex_tup, TyE.ix23, iu7, TyE.ld45, ld_ip, ofc2, List.drop_succ_cons, List.drop_zero, List.length_cons, List.length_nil, iu9, k10]
      rw [k_draw _ _ _ (by kernel_rfl)]
      exact rfl, ?_⟩
  show P50_3 _ _
  exact ⟨w0_0, w1_0, by simp [hl], by simp [a0], r0_0, by simp [a1], r1_0, by simp [a12], by simp [a13], by simp [hl]⟩
theorem R50_4 (pe : Nat → Fr50 → ASt → Prop) (pr : Fr50 → ASt → Prop) : Ref Cp P50_2 (Cat [true, true, false, true, true, true, true, true, false, true, false] (bodyOf Tryz.f50)) m50_4 (post P50_4 pe pr) := by
  rintro s ⟨t, h⟩ hp x s' hm
  have hp : P50_2' s t h := hp
  obtain ⟨w0_0, w1_0, hl, a0, r0_0, a1, r1_0, a12, a13⟩ := hp
  unfold m50_4 at hm
  cases hm
  refine ⟨⟨_, _⟩, by
      simp only [bodyOf, Tryz.f50, Cat, Bool.false_eq_true, e_seq, e_region, e_cond, e_block, ex_skip, ex_exit, ex_ret, o_cons, xops_nil, k_want_none, k_want_false, k_val, k_pan, k_call, k_ret, k_seq, k_seq_exit, k_seq_ret, k_true, k_false, k_block, k_block_exit, k_block_ret, k_loop, k_loop_exit, k_loop_ret, awanted, aoper, evalO, put, Option.getD_some, List.getElem?_set, acallOp, abuiltin, List.map_cons, List.map_nil, Nat.reduceEqDiff, Nat.reduceLT, List.length_set, Option.map_some, Option.bind_some, Option.bind_eq_bind, add_i, sub_i, mul_i, eql_i, neq_i, lss_i, leq_i, gtr_i, geq_i, ofV, ofCell, ↓reduceIte, List.cons_append, List.nil_append, List.append_nil, List.getElem?_toArray, List.getElem?_cons_succ, List.getElem?_cons_zero, e_draw, g_nil, g_cons, g_want, g_skip, g_val, g_call, g_ret, Option.map_none, hl, a0, a1, a12, a13, CP, bq1, bq2, bq3, bq4, ex_tup]
      exact rfl, ?_⟩
  show P50_4 _ _
  exact ⟨w0_0, w1_0, by simp [hl], by simp [a0], r0_0, by simp [a1], r1_0, by simp [hl], by simp [a12], by simp [a13]⟩
theorem R50_5 (pe : Nat → Fr50 → ASt → Prop) (pr : Fr50 → ASt → Prop) : Ref Cp P50_2 (Cat [true, true, false, true, true, true, false] (bodyOf Tryz.f50)) m50_5 (post P50_5 pe pr) := by
  rintro s ⟨t, h⟩ hp x s' hm
  have hp : P50_2' s t h := hp
  obtain ⟨w0_0, w1_0, hl, a0, r0_0, a1, r1_0, a12, a13⟩ := hp
  unfold m50_5 at hm
  cases hm
  refine ⟨⟨_, _⟩, by
      simp only [bodyOf, Tryz.f50, Cat, Bool.false_eq_true, e_seq, e_region, e_cond, e_block, ex_skip, ex_exit, ex_ret, o_cons, xops_nil, k_want_none, k_want_false, k_val, k_pan, k_call, k_ret, k_seq, k_seq_exit, k_seq_ret, k_true, k_false, k_block, k_block_exit, k_block_ret, k_loop, k_loop_exit, k_loop_ret, awanted, aoper, evalO, put, Option.getD_some, List.getElem?_set, acallOp, abuiltin, List.map_cons, List.map_nil, Nat.reduceEqDiff, Nat.reduceLT, List.length_set, Option.map_some, Option.bind_some, Option.bind_eq_bind, add_i, sub_i, mul_i, eql_i, neq_i, lss_i, leq_i, gtr_i, geq_i, ofV, ofCell, ↓reduceIte, List.cons_append, List.nil_append, List.append_nil, List.getElem?_toArray, List.getElem?_cons_succ, List.getElem?_cons_zero, e_draw, g_nil, g_cons, g_want, g_skip, g_val, g_call, g_ret, Option.map_none, hl, a0, a1, a12, a13, CP, bq1, bq2, bq3, bq4, ex_tup]
      exact rfl, ?_⟩
  show P50_5 _ _
  exact ⟨w0_0, w1_0, by simp [hl], by simp [a0], r0_0, by simp [a1], r1_0, by simp [a12], by simp [a13], by simp [hl]⟩
theorem R50_7 (pe : Nat → Fr50 → ASt → Prop) (pr : Fr50 → ASt → Prop) : Ref Cp P50_6 (Cat [true, true, false, false] (bodyOf Tryz.f50)) m50_7 (post P50_2 pe pr) := by
  rintro s ⟨t, h⟩ hp x s' hm
  have hp : P50_6' s t h := hp
  obtain ⟨w0_0, w1_0, hl, a0, r0_0, a1, r1_0⟩ := hp
  unfold m50_7 at hm
  have lu12 := fun h => Sl.len r0_0 TyE.un23 h
  cases hm
  refine ⟨⟨_, _⟩, by
      simp only [bodyOf, Tryz.f50, Cat, Bool.false_eq_true, e_seq, e_region, e_cond, e_block, ex_skip, ex_exit, ex_ret, o_cons, xops_nil, k_want_none, k_want_false, k_val, k_pan, k_call, k_ret, k_seq, k_seq_exit, k_seq_ret, k_true, k_false, k_block, k_block_exit, k_block_ret, k_loop, k_loop_exit, k_loop_ret, awanted, aoper, evalO, put, Option.getD_some, List.getElem?_set, acallOp, abuiltin, List.map_cons, List.map_nil, Nat.reduceEqDiff, Nat.reduceLT, List.length_set, Option.map_some, Option.bind_some, Option.bind_eq_bind, add_i, sub_i, mul_i, eql_i, neq_i, lss_i, leq_i, gtr_i, geq_i, ofV, ofCell, ↓reduceIte, List.cons_append, List.nil_append, List.append_nil, List.getElem?_toArray, List.getElem?_cons_succ, List.getElem?_cons_zero, e_draw, g_nil, g_cons, g_want, g_skip, g_val, g_call, g_ret, Option.map_none, hl, a0, a1, CP, bq1, bq2, bq3, bq4, ex_tup, lu12]
      exact rfl, ?_⟩
  show P50_2 _ _
  exact ⟨w0_0, w1_0, by simp [hl], by simp [a0], r0_0, by simp [a1], r1_0, by simp [hl], by simp [hl]⟩
theorem R50_8 (pe : Nat → Fr50 → ASt → Prop) (pr : Fr50 → ASt → Prop) : Ref Cp P50_0 (Cat [true, false, true, false, false] (bodyOf Tryz.f50)) m50_8 (post P50_1 pe pr) := by
  rintro s ⟨t, h⟩ hp x s' hm
  have hp : P50_0' s t h := hp
  obtain ⟨hl, _⟩ := hp
  unfold m50_8 at hm
  cases hm
  refine ⟨⟨_, _⟩, by
      simp only [bodyOf, Tryz.f50, Cat, Bool.false_eq_true, e_seq, e_region, e_cond, e_block, ex_skip, ex_exit, ex_ret, o_cons, xops_nil, k_want_none, k_want_false, k_val, k_pan, k_call, k_ret, k_seq, k_seq_exit, k_seq_ret, k_true, k_false, k_block, k_block_exit, k_block_ret, k_loop, k_loop_exit, k_loop_ret, awanted, aoper, evalO, put, Option.getD_some, List.getElem?_set, acallOp, abuiltin, List.map_cons, List.map_nil, Nat.reduceEqDiff, Nat.reduceLT, List.length_set, Option.map_some, Option.bind_some, Option.bind_eq_bind, add_i, sub_i, mul_i, eql_i, neq_i, lss_i, leq_i, gtr_i, geq_i, ofV, ofCell, ↓reduceIte, List.cons_append, List.nil_append, List.append_nil, List.getElem?_toArray, List.getElem?_cons_succ, List.getElem?_cons_zero, e_draw, g_nil, g_cons, g_want, g_skip, g_val, g_call, g_ret, Option.map_none, hl, CP, bq1, bq2, bq3, bq4, ex_tup]
      exact rfl, ?_⟩
  show P50_1 _ _
  exact ⟨by simp [hl], by simp [hl]⟩
theorem R50_9 (pe : Nat → Fr50 → ASt → Prop) (pr : Fr50 → ASt → Prop) : Ref Cp P50_6 (Cat [true, false, false] (bodyOf Tryz.f50)) m50_9 (post P50_7 pe pr) := by
  rintro s ⟨t, h⟩ hp x s' hm
  have hp : P50_6' s t h := hp
  obtain ⟨w0_0, w1_0, hl, a0, r0_0, a1, r1_0⟩ := hp
  unfold m50_9 at hm
  have lu15 := fun h => Sl.len r0_0 TyE.un23 h
  have lu16 := fun h => Sl.len r1_0 TyE.un23 h
  cases hm
  refine ⟨⟨_, _⟩, by
      simp only [bodyOf, Tryz.f50, Cat, Bool.false_eq_true, e_seq, e_region, e_cond, e_block, ex_skip, ex_exit, ex_ret, o_cons, xops_nil, k_want_none, k_want_false, k_val, k_pan, k_call, k_ret, k_seq, k_seq_exit, k_seq_ret, k_true, k_false, k_block, k_block_exit, k_block_ret, k_loop, k_loop_exit, k_loop_ret, awanted, aoper, evalO, put, Option.getD_some, List.getElem?_set, acallOp, abuiltin, List.map_cons, List.map_nil, Nat.reduceEqDiff, Nat.reduceLT, List.length_set, Option.map_some, Option.bind_some, Option.bind_eq_bind, add_i, sub_i, mul_i, eql_i, neq_i, lss_i, leq_i, gtr_i, geq_i, ofV, ofCell, ↓reduceIte, List.cons_append, List.nil_append, List.append_nil, List.getElem?_toArray, List.getElem?_cons_succ, List.getElem?_cons_zero, e_draw, g_nil, g_cons, g_want, g_skip, g_val, g_call, g_ret, Option.map_none, hl, a0, a1, CP, bq1, bq2, bq3, bq4, ex_tup, lu15, lu16]
      exact rfl, ?_⟩
  show P50_7 _ _
  exact ⟨w0_0, w1_0, by simp [hl], by simp [a0], r0_0, by simp [a1], r1_0, by simp [hl]⟩
theorem R50_10 (pe : Nat → Fr50 → ASt → Prop) (pr : Fr50 → ASt → Prop) : Ref Cp P50_6 (Cat [false] (bodyOf Tryz.f50)) m50_10 (post P50_6 pe pr) := by
  rintro s ⟨t, h⟩ hp x s' hm
  have hp : P50_6' s t h := hp
  obtain ⟨w0_0, w1_0, hl, a0, r0_0, a1, r1_0⟩ := hp
  unfold m50_10 at hm
  cases hm
  refine ⟨⟨_, _⟩, by
      simp only [bodyOf, Tryz.f50, Cat, Bool.false_eq_true, e_seq, e_region, e_cond, e_block, ex_skip, ex_exit, ex_ret, o_cons, xops_nil, k_want_none, k_want_false, k_val, k_pan, k_call, k_ret, k_seq, k_seq_exit, k_seq_ret, k_true, k_false, k_block, k_block_exit, k_block_ret, k_loop, k_loop_exit, k_loop_ret, awanted, aoper, evalO, put, Option.getD_some, List.getElem?_set, acallOp, abuiltin, List.map_cons, List.map_nil, Nat.reduceEqDiff, Nat.reduceLT, List.length_set, Option.map_some, Option.bind_some, Option.bind_eq_bind, add_i, sub_i, mul_i, eql_i, neq_i, lss_i, leq_i, gtr_i, geq_i, ofV, ofCell, ↓reduceIte, List.cons_append, List.nil_append, List.append_nil, List.getElem?_toArray, List.getElem?_cons_succ, List.getElem?_cons_zero, e_draw, g_nil, g_cons, g_want, g_skip, g_val, g_call, g_ret, Option.map_none, hl, a0, a1, CP, bq1, bq2, bq3, bq4, ex_tup]
      exact rfl, ?_⟩
  show P50_6 _ _
  exact ⟨w0_0, w1_0, by simp [hl], by simp [a0], r0_0, by simp [a1], r1_0⟩
theorem B50 : Ref Cp P50_6 (bodyOf Tryz.f50) (M50) (post P50_1 (fun _ _ _ => False) P50_1) := by
  rw [show bodyOf Tryz.f50 = .seq (Cat [false] (bodyOf Tryz.f50)) (.seq (.seq (Cat [true, false, false] (bodyOf Tryz.f50)) (.cond (.tmp 10) (.seq (Cat [true, false, true, false, false] (bodyOf Tryz.f50)) (.ret)) (.skip))) (.seq (.seq (Cat [true, true, false, false] (bodyOf Tryz.f50)) (.block 0 (.loop (.seq (Cat [true, true, false, true, true, true, false] (bodyOf Tryz.f50)) (.seq (.cond (.tmp 14) (.skip) (.exit 0)) (.seq (.block 1 (.seq (Cat [true, true, false, true, true, true, true, true, false, true, false] (bodyOf Tryz.f50)) (.seq (Cat [true, true, false, true, true, true, true, true, false, true, true, false] (bodyOf Tryz.f50)) (.cond (.tmp 24) (.seq (Cat [true, true, false, true, true, true, true, true, false, true, true, true, false, false] (bodyOf Tryz.f50)) (.ret)) (.skip))))) (Cat [true, true, false, true, true, true, true, true, true] (bodyOf Tryz.f50)))))))) (.seq (Cat [true, true, true, false] (bodyOf Tryz.f50)) (.ret)))) from rfl]
  unfold M50
  exact ref_seq (M := P50_6) (R50_10 _ _) (ref_seq (M := P50_6) (ref_seq (M := P50_7) (R50_9 _ _) (ref_cond (P := P50_7) (c := fun s => s.t10) (fun s st hp => by obtain ⟨w0_0, w1_0, hl, a0, r0_0, a1, r1_0, a10⟩ := (hp : P50_7' s st.tmps st.h); simp only [evalO, a10, Option.getD_some]) (ref_weak (P' := P50_0) (fun s st hp => by obtain ⟨w0_0, w1_0, hl, a0, r0_0, a1, r1_0, a10⟩ := (hp : P50_7' s st.tmps st.h); exact (⟨hl, trivial⟩ : P50_0' s st.tmps st.h)) (ref_seq (M := P50_1) (R50_8 _ _) (ref_ret (fun s st hp => hp)))) (ref_weak (P' := P50_6) (fun s st hp => by obtain ⟨w0_0, w1_0, hl, a0, r0_0, a1, r1_0, a10⟩ := (hp : P50_7' s st.tmps st.h); exact (⟨w0_0, w1_0, hl, a0, r0_0, a1, r1_0⟩ : P50_6' s st.tmps st.h)) (ref_skip (fun s st hp => hp))))) (ref_seq (M := P50_0) (ref_seq (M := P50_2) (R50_7 _ _) (ref_block (ref_loop (P := P50_2) (ref_weak (P' := P50_2) (fun s st hp => hp) (ref_seq (M := P50_5) (R50_5 _ _) (ref_seq (M := P50_2) (ref_cond (P := P50_5) (c := fun s => s.t14) (fun s st hp => by obtain ⟨w0_0, w1_0, hl, a0, r0_0, a1, r1_0, a12, a13, a14⟩ := (hp : P50_5' s st.tmps st.h); simp only [evalO, a14, Option.getD_some]) (ref_weak (P' := P50_2) (fun s st hp => by obtain ⟨w0_0, w1_0, hl, a0, r0_0, a1, r1_0, a12, a13, a14⟩ := (hp : P50_5' s st.tmps st.h); exact (⟨w0_0, w1_0, hl, a0, r0_0, a1, r1_0, a12, a13⟩ : P50_2' s st.tmps st.h)) (ref_skip (fun s st hp => hp))) (ref_weak (P' := P50_0) (fun s st hp => by obtain ⟨w0_0, w1_0, hl, a0, r0_0, a1, r1_0, a12, a13, a14⟩ := (hp : P50_5' s st.tmps st.h); exact (⟨hl, trivial⟩ : P50_0' s st.tmps st.h)) (ref_exit (fun s st hp => hp)))) (ref_seq (M := P50_2) (ref_block (ref_seq (M := P50_4) (R50_4 _ _) (ref_seq (M := P50_3) (R50_3 _ _) (ref_cond (P := P50_3) (c := fun s => s.t24) (fun s st hp => by obtain ⟨w0_0, w1_0, hl, a0, r0_0, a1, r1_0, a12, a13, a24⟩ := (hp : P50_3' s st.tmps st.h); simp only [evalO, a24, Option.getD_some]) (ref_weak (P' := P50_0) (fun s st hp => by obtain ⟨w0_0, w1_0, hl, a0, r0_0, a1, r1_0, a12, a13, a24⟩ := (hp : P50_3' s st.tmps st.h); exact (⟨hl, trivial⟩ : P50_0' s st.tmps st.h)) (ref_seq (M := P50_1) (R50_2 _ _) (ref_ret (fun s st hp => hp)))) (ref_weak (P' := P50_2) (fun s st hp => by obtain ⟨w0_0, w1_0, hl, a0, r0_0, a1, r1_0, a12, a13, a24⟩ := (hp : P50_3' s st.tmps st.h); exact (⟨w0_0, w1_0, hl, a0, r0_0, a1, r1_0, a12, a13⟩ : P50_2' s st.tmps st.h)) (ref_skip (fun s st hp => hp))))))) (R50_1 _ _)))))))) (ref_seq (M := P50_1) (R50_0 _ _) (ref_ret (fun s st hp => hp)))))
noncomputable def G50 (x0 : (List Item)) (x1 : (List Item)) : Option Bool := match M50 { (default : Fr50) with t0 := x0, t1 := x1 } with
  | some (.nrm, s) => some s.t4
  | some (.ret, s) => some s.t4
  | _ => none
theorem G50_spec : Spec50 (G50) := by
  intro x0 x1 vx0_0 hvx0_0 vx1_0 hvx1_0 r hr
  unfold G50 at hr
  cases hm : M50 { (default : Fr50) with t0 := x0, t1 := x1 } with
  | none => rw [hm] at hr; cases hr
  | some q =>
    obtain ⟨x, s⟩ := q
    rw [hm] at hr
    have hx : x = .nrm ∨ x = .ret := by cases x <;> first | exact .inl rfl | exact .inr rfl | cases hr
    have hr : s.t4 = r := by cases x <;> first | exact Option.some.inj hr | cases hr
    subst hr
    have hp0 : P50_6' ({ (default : Fr50) with t0 := x0, t1 := x1 }) (slots Tryz.f50 (stripL [vx0_0, vx1_0])) bare := ⟨(strip vx0_0 : AVal), (strip vx1_0 : AVal), rfl, rfl, hvx0_0.strip rItem_p, rfl, hvx1_0.strip rItem_p⟩
    obtain ⟨v, hR, hrun⟩ := run_of_ref (C := Cp) (f := 50) (fn := Tryz.f50) Tryz.func50 rfl rfl rfl rfl (args := [vx0_0, vx1_0]) (by simp only [refsL, refs, List.append_nil, hvx0_0.refs rItem_p, hvx1_0.refs rItem_p]) (B50) (s0 := { (default : Fr50) with t0 := x0, t1 := x1 }) hp0 hm hx (R := fun v => v = .bool s.t4) (by
      have key : ∀ st : ASt, P50_1 s st → ∃ vs v, aresults Cp Tryz.f50.results.toList st = some vs ∧ Nrm [] st.h (packRes vs) v ∧ (fun v => v = .bool s.t4) v := by
        intro st hp
        obtain ⟨hl, a4⟩ := (hp : P50_1' s st.tmps st.h)
        exact ⟨[.bool s.t4], _, by simp only [show Tryz.f50.results.toList = [ResultVar.tmp 4] from rfl, aresults, ares1, CP, a4, Option.getD_some], (Nrm.of (w := .bool s.t4) (by simp only [refsL, refs, List.append_nil])), rfl⟩
      intro st hq
      rcases hx with rfl | rfl
      · exact key st hq
      · exact key st hq)
    subst hR
    exact hrun
end Go.Proofs.Par
