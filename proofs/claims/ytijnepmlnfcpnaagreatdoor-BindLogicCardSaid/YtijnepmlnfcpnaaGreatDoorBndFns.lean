/-
  BIND: functions (printed by wip/tools/tg.py).
-/
import Derived.Test.YtijnepmlnfcpnaaGreatDoorBndTypes
import Derived.Test.YtijnepmlnfcpnaaGreatDoorBndFnsa
set_option linter.unusedVariables false
set_option linter.unusedSimpArgs false
set_option linter.unusedSimpArgs false
set_option linter.unusedVariables false
set_option maxRecDepth 100000
namespace Go.Proofs.Bnd
open Go Go.Am Go.Proofs
/-! ### caisson/bind.leaf[string] -/
structure Fr150 where
  t0 : TestT
  t1 : (List (List UInt8))
  t2 : (List (List UInt8))
  t6 : Bool
  t7 : Bool
  t27 : Bool
instance : Inhabited Fr150 := ⟨⟨default, [], [], false, false, false⟩⟩
def P150_0' (s : Fr150) (t : List AVal) (h : AHeap) : Prop := ∃ w0_0 w1_0 w2_0, t.length = 58 ∧ t[0]? = some w0_0 ∧ rTestT s.t0 [w0_0] ∧ t[1]? = some w1_0 ∧ Sl rS s.t1 w1_0 ∧ t[2]? = some w2_0 ∧ Sl rS s.t2 w2_0
def P150_0 (s : Fr150) (st : ASt) : Prop := P150_0' s st.tmps st.h
def P150_1' (s : Fr150) (t : List AVal) (h : AHeap) : Prop := t.length = 58 ∧ t[6]? = some (.bool s.t6)
def P150_1 (s : Fr150) (st : ASt) : Prop := P150_1' s st.tmps st.h
def P150_2' (s : Fr150) (t : List AVal) (h : AHeap) : Prop := t.length = 58 ∧ True
def P150_2 (s : Fr150) (st : ASt) : Prop := P150_2' s st.tmps st.h
def P150_3' (s : Fr150) (t : List AVal) (h : AHeap) : Prop := ∃ w0_0 w1_0 w2_0, t.length = 58 ∧ t[0]? = some w0_0 ∧ rTestT s.t0 [w0_0] ∧ t[1]? = some w1_0 ∧ Sl rS s.t1 w1_0 ∧ t[2]? = some w2_0 ∧ Sl rS s.t2 w2_0 ∧ t[27]? = some (.bool s.t27)
def P150_3 (s : Fr150) (st : ASt) : Prop := P150_3' s st.tmps st.h
def P150_4' (s : Fr150) (t : List AVal) (h : AHeap) : Prop := ∃ w0_0 w1_0 w2_0, t.length = 58 ∧ t[0]? = some w0_0 ∧ rTestT s.t0 [w0_0] ∧ t[1]? = some w1_0 ∧ Sl rS s.t1 w1_0 ∧ t[2]? = some w2_0 ∧ Sl rS s.t2 w2_0 ∧ t[7]? = some (.bool s.t7)
def P150_4 (s : Fr150) (st : ASt) : Prop := P150_4' s st.tmps st.h
noncomputable def m150_0 : Mo Fr150 := fun s => (s.t0.get).bind fun n1 => (at? s.t1 n1.Index).bind fun y3 => (at? s.t2 0).bind fun y5 => (G199 y3 y5).bind fun z7 => (G197 n1.Op z7).bind fun z9 => some (.nrm, { s with t6 := z9 })
noncomputable def m150_1 : Mo Fr150 := fun s => some (.nrm, { s with t6 := false })
noncomputable def m150_2 : Mo Fr150 := fun s => (s.t0.get).bind fun n21 => (at? s.t1 n21.Index).bind fun y23 => (G105 s.t2 y23).bind fun z25 => some (.nrm, { s with t6 := z25 })
noncomputable def m150_3 : Mo Fr150 := fun s => (s.t0.get).bind fun n33 => some (.nrm, { s with t27 := (n33.Kind == 5) })
noncomputable def m150_4 : Mo Fr150 := fun s => (s.t0.get).bind fun n37 => some (.nrm, { s with t7 := (((decide (n37.Index < 0)) || (decide (n37.Index ≥ (s.t1.length : Int)))) || ((s.t2.length : Int) == 0)) })
noncomputable def m150_5 : Mo Fr150 := fun s => some (.nrm, s)
noncomputable def M150 : Mo Fr150 := seqM (m150_5) (seqM (blockM 0 (seqM (m150_4) (condM (fun s => s.t7) (seqM (m150_1) (retM)) (seqM (m150_3) (condM (fun s => s.t27) (seqM (m150_2) (retM)) (skipM)))))) (seqM (m150_0) (retM)))
def Spec150 (f : TestT → (List (List UInt8)) → (List (List UInt8)) → Option Bool) : Prop := ∀ (x0 : TestT) (x1 : (List (List UInt8))) (x2 : (List (List UInt8))) (vx0_0 : AVal) (_ : rTestT x0 [vx0_0]) (vx1_0 : AVal) (_ : Sl rS x1 vx1_0) (vx2_0 : AVal) (_ : Sl rS x2 vx2_0) (r : Bool), f x0 x1 x2 = some r → ∀ h, run Cb 150 [vx0_0, vx1_0, vx2_0] h = some (.ret (.bool r), h)
theorem Spec150_of {f g : TestT → (List (List UInt8)) → (List (List UInt8)) → Option Bool} (hg : Spec150 g) (h : ∀ x0 x1 x2 r, f x0 x1 x2 = some r → g x0 x1 x2 = some r) : Spec150 f := fun x0 x1 x2 v0_ w0_ v1_ w1_ v2_ w2_ r hr => hg x0 x1 x2 v0_ w0_ v1_ w1_ v2_ w2_ r (h x0 x1 x2 r hr)
theorem R150_0 (pe : Nat → Fr150 → ASt → Prop) (pr : Fr150 → ASt → Prop) : Ref Cb P150_0 (Cat [true, true, false] (bodyOf Tryz.f150)) m150_0 (post P150_1 pe pr) := by
  rintro s ⟨t, h⟩ hp x s' hm
  have hp : P150_0' s t h := hp
  obtain ⟨w0_0, w1_0, w2_0, hl, a0, r0_0, a1, r1_0, a2, r2_0⟩ := hp
  unfold m150_0 at hm
  obtain ⟨n11, hn11, hm⟩ := Option.bind_eq_some_iff.1 hm
  obtain ⟨bu12_0, bu12_1, bu12_2, bu12_3, qu12, gu12_0, gu12_1, gu12_2, gu12_3⟩ := rTestT_get r0_0 hn11
  subst qu12
  obtain ⟨y13, hy13, hm⟩ := Option.bind_eq_some_iff.1 hm
  obtain ⟨cu14, du14, eu14, iu14, _⟩ := Sl.ix rS_p r1_0 hy13
  subst eu14
  obtain ⟨y15, hy15, hm⟩ := Option.bind_eq_some_iff.1 hm
  obtain ⟨cu16, du16, eu16, iu16, _⟩ := Sl.ix rS_p r2_0 hy15
  subst eu16
  obtain ⟨z17, hz17, hm⟩ := Option.bind_eq_some_iff.1 hm
  have iu18 := G199_spec y13 y15  _ hz17
  obtain ⟨z19, hz19, hm⟩ := Option.bind_eq_some_iff.1 hm
  have iu20 := G197_spec n11.Op z17  _ hz19
  cases hm
  refine ⟨⟨_, _⟩, by
      simp only [bodyOf, Tryz.f150, Cat, Bool.false_eq_true, e_seq, e_region, e_cond, e_block, ex_skip, ex_exit, ex_ret, o_cons, xops_nil, k_want_none, k_want_false, k_val, k_pan, k_call, k_ret, k_seq, k_seq_exit, k_seq_ret, k_true, k_false, k_block, k_block_exit, k_block_ret, k_loop, k_loop_exit, k_loop_ret, awanted, aoper, evalO, put, Option.getD_some, List.getElem?_set, acallOp, abuiltin, List.map_cons, List.map_nil, Nat.reduceEqDiff, Nat.reduceLT, List.length_set, Option.map_some, Option.bind_some, Option.bind_eq_bind, add_i, sub_i, mul_i, eql_i, neq_i, lss_i, leq_i, gtr_i, geq_i, ofV, ofCell, ↓reduceIte, List.cons_append, List.nil_append, List.append_nil, List.getElem?_toArray, List.getElem?_cons_succ, List.getElem?_cons_zero, e_draw, g_nil, g_cons, g_want, g_skip, g_val, g_call, g_ret, Option.map_none, hl, a0, a1, a2, CP, bq1, bq2, bq3, bq4, ex_tup, Ty.fa57_5, dropCells, List.drop_succ_cons, List.drop_zero, Ty.ld3, ld_ip, ofc1, List.drop_succ_cons, List.drop_zero, Ty.fa57_4, Ty.ix22, iu14, Ty.ld9, iu16, iu18, iu20]
      rw [k_draw _ _ _ (by kernel_rfl)]
      exact rfl, ?_⟩
  show P150_1 _ _
  exact ⟨by simp [hl], by simp [hl]⟩
theorem R150_1 (pe : Nat → Fr150 → ASt → Prop) (pr : Fr150 → ASt → Prop) : Ref Cb P150_2 (Cat [true, false, true, true, false, false] (bodyOf Tryz.f150)) m150_1 (post P150_1 pe pr) := by
  rintro s ⟨t, h⟩ hp x s' hm
  have hp : P150_2' s t h := hp
  obtain ⟨hl, _⟩ := hp
  unfold m150_1 at hm
  cases hm
  refine ⟨⟨_, _⟩, by
      simp only [bodyOf, Tryz.f150, Cat, Bool.false_eq_true, e_seq, e_region, e_cond, e_block, ex_skip, ex_exit, ex_ret, o_cons, xops_nil, k_want_none, k_want_false, k_val, k_pan, k_call, k_ret, k_seq, k_seq_exit, k_seq_ret, k_true, k_false, k_block, k_block_exit, k_block_ret, k_loop, k_loop_exit, k_loop_ret, awanted, aoper, evalO, put, Option.getD_some, List.getElem?_set, acallOp, abuiltin, List.map_cons, List.map_nil, Nat.reduceEqDiff, Nat.reduceLT, List.length_set, Option.map_some, Option.bind_some, Option.bind_eq_bind, add_i, sub_i, mul_i, eql_i, neq_i, lss_i, leq_i, gtr_i, geq_i, ofV, ofCell, ↓reduceIte, List.cons_append, List.nil_append, List.append_nil, List.getElem?_toArray, List.getElem?_cons_succ, List.getElem?_cons_zero, e_draw, g_nil, g_cons, g_want, g_skip, g_val, g_call, g_ret, Option.map_none, hl, CP, bq1, bq2, bq3, bq4, ex_tup]
      exact rfl, ?_⟩
  show P150_1 _ _
  exact ⟨by simp [hl], by simp [hl]⟩
theorem R150_2 (pe : Nat → Fr150 → ASt → Prop) (pr : Fr150 → ASt → Prop) : Ref Cb P150_0 (Cat [true, false, true, true, true, true, false, false] (bodyOf Tryz.f150)) m150_2 (post P150_1 pe pr) := by
  rintro s ⟨t, h⟩ hp x s' hm
  have hp : P150_0' s t h := hp
  obtain ⟨w0_0, w1_0, w2_0, hl, a0, r0_0, a1, r1_0, a2, r2_0⟩ := hp
  unfold m150_2 at hm
  obtain ⟨n27, hn27, hm⟩ := Option.bind_eq_some_iff.1 hm
  obtain ⟨bu28_0, bu28_1, bu28_2, bu28_3, qu28, gu28_0, gu28_1, gu28_2, gu28_3⟩ := rTestT_get r0_0 hn27
  subst qu28
  obtain ⟨y29, hy29, hm⟩ := Option.bind_eq_some_iff.1 hm
  obtain ⟨cu30, du30, eu30, iu30, _⟩ := Sl.ix rS_p r1_0 hy29
  subst eu30
  obtain ⟨z31, hz31, hm⟩ := Option.bind_eq_some_iff.1 hm
  have iu32 := G105_spec s.t2 y29 _ r2_0 _ hz31
  cases hm
  refine ⟨⟨_, _⟩, by
      simp only [bodyOf, Tryz.f150, Cat, Bool.false_eq_true, e_seq, e_region, e_cond, e_block, ex_skip, ex_exit, ex_ret, o_cons, xops_nil, k_want_none, k_want_false, k_val, k_pan, k_call, k_ret, k_seq, k_seq_exit, k_seq_ret, k_true, k_false, k_block, k_block_exit, k_block_ret, k_loop, k_loop_exit, k_loop_ret, awanted, aoper, evalO, put, Option.getD_some, List.getElem?_set, acallOp, abuiltin, List.map_cons, List.map_nil, Nat.reduceEqDiff, Nat.reduceLT, List.length_set, Option.map_some, Option.bind_some, Option.bind_eq_bind, add_i, sub_i, mul_i, eql_i, neq_i, lss_i, leq_i, gtr_i, geq_i, ofV, ofCell, ↓reduceIte, List.cons_append, List.nil_append, List.append_nil, List.getElem?_toArray, List.getElem?_cons_succ, List.getElem?_cons_zero, e_draw, g_nil, g_cons, g_want, g_skip, g_val, g_call, g_ret, Option.map_none, hl, a0, a1, a2, CP, bq1, bq2, bq3, bq4, ex_tup, Ty.fa57_4, dropCells, List.drop_succ_cons, List.drop_zero, Ty.ld3, ld_ip, ofc1, List.drop_succ_cons, List.drop_zero, Ty.ix22, iu30, Ty.ld9, iu32]
      exact rfl, ?_⟩
  show P150_1 _ _
  exact ⟨by simp [hl], by simp [hl]⟩
theorem R150_3 (pe : Nat → Fr150 → ASt → Prop) (pr : Fr150 → ASt → Prop) : Ref Cb P150_0 (Cat [true, false, true, true, true, false] (bodyOf Tryz.f150)) m150_3 (post P150_3 pe pr) := by
  rintro s ⟨t, h⟩ hp x s' hm
  have hp : P150_0' s t h := hp
  obtain ⟨w0_0, w1_0, w2_0, hl, a0, r0_0, a1, r1_0, a2, r2_0⟩ := hp
  unfold m150_3 at hm
  obtain ⟨n35, hn35, hm⟩ := Option.bind_eq_some_iff.1 hm
  obtain ⟨bu36_0, bu36_1, bu36_2, bu36_3, qu36, gu36_0, gu36_1, gu36_2, gu36_3⟩ := rTestT_get r0_0 hn35
  subst qu36
  cases hm
  refine ⟨⟨_, _⟩, by
      simp only [bodyOf, Tryz.f150, Cat, Bool.false_eq_true, e_seq, e_region, e_cond, e_block, ex_skip, ex_exit, ex_ret, o_cons, xops_nil, k_want_none, k_want_false, k_val, k_pan, k_call, k_ret, k_seq, k_seq_exit, k_seq_ret, k_true, k_false, k_block, k_block_exit, k_block_ret, k_loop, k_loop_exit, k_loop_ret, awanted, aoper, evalO, put, Option.getD_some, List.getElem?_set, acallOp, abuiltin, List.map_cons, List.map_nil, Nat.reduceEqDiff, Nat.reduceLT, List.length_set, Option.map_some, Option.bind_some, Option.bind_eq_bind, add_i, sub_i, mul_i, eql_i, neq_i, lss_i, leq_i, gtr_i, geq_i, ofV, ofCell, ↓reduceIte, List.cons_append, List.nil_append, List.append_nil, List.getElem?_toArray, List.getElem?_cons_succ, List.getElem?_cons_zero, e_draw, g_nil, g_cons, g_want, g_skip, g_val, g_call, g_ret, Option.map_none, hl, a0, a1, a2, CP, bq1, bq2, bq3, bq4, ex_tup, Ty.fa57_0, dropCells, List.drop_succ_cons, List.drop_zero, Ty.ld3, ld_ip, ofc1, List.drop_succ_cons, List.drop_zero]
      exact rfl, ?_⟩
  show P150_3 _ _
  exact ⟨(.iptr [.int .i64 n35.Kind, bu36_0, bu36_1, .bool n35.Meas, .int .i64 n35.Index, .int .i64 n35.Op, bu36_2, bu36_3] : AVal), w1_0, w2_0, by simp [hl], by simp [a0], r0_0, by simp [a1], r1_0, by simp [a2], r2_0, by simp [hl]⟩
theorem R150_4 (pe : Nat → Fr150 → ASt → Prop) (pr : Fr150 → ASt → Prop) : Ref Cb P150_0 (Cat [true, false, true, false] (bodyOf Tryz.f150)) m150_4 (post P150_4 pe pr) := by
  rintro s ⟨t, h⟩ hp x s' hm
  have hp : P150_0' s t h := hp
  obtain ⟨w0_0, w1_0, w2_0, hl, a0, r0_0, a1, r1_0, a2, r2_0⟩ := hp
  unfold m150_4 at hm
  obtain ⟨n41, hn41, hm⟩ := Option.bind_eq_some_iff.1 hm
  obtain ⟨bu42_0, bu42_1, bu42_2, bu42_3, qu42, gu42_0, gu42_1, gu42_2, gu42_3⟩ := rTestT_get r0_0 hn41
  subst qu42
  cases hb43 : decide (n41.Index < 0) with
  | true =>
    all_goals (
      try simp only [hb43, cond_true, cond_false, Option.bind_some, Option.bind_assoc, Bool.not_true, Bool.not_false, Bool.true_and, Bool.false_and, Bool.and_true, Bool.and_false, Bool.true_or, Bool.false_or] at hm
      cases hm
      refine ⟨⟨_, _⟩, by
          simp only [bodyOf, Tryz.f150, Cat, Bool.false_eq_true, e_seq, e_region, e_cond, e_block, ex_skip, ex_exit, ex_ret, o_cons, xops_nil, k_want_none, k_want_false, k_val, k_pan, k_call, k_ret, k_seq, k_seq_exit, k_seq_ret, k_true, k_false, k_block, k_block_exit, k_block_ret, k_loop, k_loop_exit, k_loop_ret, awanted, aoper, evalO, put, Option.getD_some, List.getElem?_set, acallOp, abuiltin, List.map_cons, List.map_nil, Nat.reduceEqDiff, Nat.reduceLT, List.length_set, Option.map_some, Option.bind_some, Option.bind_eq_bind, add_i, sub_i, mul_i, eql_i, neq_i, lss_i, leq_i, gtr_i, geq_i, ofV, ofCell, ↓reduceIte, List.cons_append, List.nil_append, List.append_nil, List.getElem?_toArray, List.getElem?_cons_succ, List.getElem?_cons_zero, e_draw, g_nil, g_cons, g_want, g_skip, g_val, g_call, g_ret, Option.map_none, hl, a0, a1, a2, CP, bq1, bq2, bq3, bq4, ex_tup, Ty.fa57_4, dropCells, List.drop_succ_cons, List.drop_zero, Ty.ld3, ld_ip, ofc1, List.drop_succ_cons, List.drop_zero, hb43]
          exact rfl, ?_⟩
      show P150_4 _ _
      exact ⟨(.iptr [.int .i64 n41.Kind, bu42_0, bu42_1, .bool n41.Meas, .int .i64 n41.Index, .int .i64 n41.Op, bu42_2, bu42_3] : AVal), w1_0, w2_0, by simp [hl], by simp [a0], r0_0, by simp [a1], r1_0, by simp [a2], r2_0, by simp [hl, hb43]⟩)
  | false =>
    all_goals (
      try simp only [hb43, cond_true, cond_false, Option.bind_some, Option.bind_assoc, Bool.not_true, Bool.not_false, Bool.true_and, Bool.false_and, Bool.and_true, Bool.and_false, Bool.true_or, Bool.false_or] at hm
      have lu44 := fun h => Sl.len r1_0 Ty.un22 h
      cases hb45 : decide (n41.Index ≥ (s.t1.length : Int)) with
      | true =>
        all_goals (
          try simp only [hb45, cond_true, cond_false, Option.bind_some, Option.bind_assoc, Bool.not_true, Bool.not_false, Bool.true_and, Bool.false_and, Bool.and_true, Bool.and_false, Bool.true_or, Bool.false_or] at hm
          cases hm
          refine ⟨⟨_, _⟩, by
              simp only [bodyOf, Tryz.f150, Cat, Bool.false_eq_true, e_seq, e_region, e_cond, e_block, ex_skip, ex_exit, ex_ret, o_cons, xops_nil, k_want_none, k_want_false, k_val, k_pan, k_call, k_ret, k_seq, k_seq_exit, k_seq_ret, k_true, k_false, k_block, k_block_exit, k_block_ret, k_loop, k_loop_exit, k_loop_ret, awanted, aoper, evalO, put, Option.getD_some, List.getElem?_set, acallOp, abuiltin, List.map_cons, List.map_nil, Nat.reduceEqDiff, Nat.reduceLT, List.length_set, Option.map_some, Option.bind_some, Option.bind_eq_bind, add_i, sub_i, mul_i, eql_i, neq_i, lss_i, leq_i, gtr_i, geq_i, ofV, ofCell, ↓reduceIte, List.cons_append, List.nil_append, List.append_nil, List.getElem?_toArray, List.getElem?_cons_succ, List.getElem?_cons_zero, e_draw, g_nil, g_cons, g_want, g_skip, g_val, g_call, g_ret, Option.map_none, hl, a0, a1, a2, CP, bq1, bq2, bq3, bq4, ex_tup, Ty.fa57_4, dropCells, List.drop_succ_cons, List.drop_zero, Ty.ld3, ld_ip, ofc1, List.drop_succ_cons, List.drop_zero, lu44, hb43, hb45]
              exact rfl, ?_⟩
          show P150_4 _ _
          exact ⟨(.iptr [.int .i64 n41.Kind, bu42_0, bu42_1, .bool n41.Meas, .int .i64 n41.Index, .int .i64 n41.Op, bu42_2, bu42_3] : AVal), w1_0, w2_0, by simp [hl], by simp [a0], r0_0, by simp [a1], r1_0, by simp [a2], r2_0, by simp [hl, hb43, hb45]⟩)
      | false =>
        all_goals (
          try simp only [hb45, cond_true, cond_false, Option.bind_some, Option.bind_assoc, Bool.not_true, Bool.not_false, Bool.true_and, Bool.false_and, Bool.and_true, Bool.and_false, Bool.true_or, Bool.false_or] at hm
          have lu46 := fun h => Sl.len r2_0 Ty.un22 h
          cases hm
          refine ⟨⟨_, _⟩, by
              simp only [bodyOf, Tryz.f150, Cat, Bool.false_eq_true, e_seq, e_region, e_cond, e_block, ex_skip, ex_exit, ex_ret, o_cons, xops_nil, k_want_none, k_want_false, k_val, k_pan, k_call, k_ret, k_seq, k_seq_exit, k_seq_ret, k_true, k_false, k_block, k_block_exit, k_block_ret, k_loop, k_loop_exit, k_loop_ret, awanted, aoper, evalO, put, Option.getD_some, List.getElem?_set, acallOp, abuiltin, List.map_cons, List.map_nil, Nat.reduceEqDiff, Nat.reduceLT, List.length_set, Option.map_some, Option.bind_some, Option.bind_eq_bind, add_i, sub_i, mul_i, eql_i, neq_i, lss_i, leq_i, gtr_i, geq_i, ofV, ofCell, ↓reduceIte, List.cons_append, List.nil_append, List.append_nil, List.getElem?_toArray, List.getElem?_cons_succ, List.getElem?_cons_zero, e_draw, g_nil, g_cons, g_want, g_skip, g_val, g_call, g_ret, Option.map_none, hl, a0, a1, a2, CP, bq1, bq2, bq3, bq4, ex_tup, Ty.fa57_4, dropCells, List.drop_succ_cons, List.drop_zero, Ty.ld3, ld_ip, ofc1, List.drop_succ_cons, List.drop_zero, lu44, lu46, hb43, hb45]
              exact rfl, ?_⟩
          show P150_4 _ _
          exact ⟨(.iptr [.int .i64 n41.Kind, bu42_0, bu42_1, .bool n41.Meas, .int .i64 n41.Index, .int .i64 n41.Op, bu42_2, bu42_3] : AVal), w1_0, w2_0, by simp [hl], by simp [a0], r0_0, by simp [a1], r1_0, by simp [a2], r2_0, by simp [hl, hb43, hb45]⟩))
theorem R150_5 (pe : Nat → Fr150 → ASt → Prop) (pr : Fr150 → ASt → Prop) : Ref Cb P150_0 (Cat [false] (bodyOf Tryz.f150)) m150_5 (post P150_0 pe pr) := by
  rintro s ⟨t, h⟩ hp x s' hm
  have hp : P150_0' s t h := hp
  obtain ⟨w0_0, w1_0, w2_0, hl, a0, r0_0, a1, r1_0, a2, r2_0⟩ := hp
  unfold m150_5 at hm
  cases hm
  refine ⟨⟨_, _⟩, by
      simp only [bodyOf, Tryz.f150, Cat, Bool.false_eq_true, e_seq, e_region, e_cond, e_block, ex_skip, ex_exit, ex_ret, o_cons, xops_nil, k_want_none, k_want_false, k_val, k_pan, k_call, k_ret, k_seq, k_seq_exit, k_seq_ret, k_true, k_false, k_block, k_block_exit, k_block_ret, k_loop, k_loop_exit, k_loop_ret, awanted, aoper, evalO, put, Option.getD_some, List.getElem?_set, acallOp, abuiltin, List.map_cons, List.map_nil, Nat.reduceEqDiff, Nat.reduceLT, List.length_set, Option.map_some, Option.bind_some, Option.bind_eq_bind, add_i, sub_i, mul_i, eql_i, neq_i, lss_i, leq_i, gtr_i, geq_i, ofV, ofCell, ↓reduceIte, List.cons_append, List.nil_append, List.append_nil, List.getElem?_toArray, List.getElem?_cons_succ, List.getElem?_cons_zero, e_draw, g_nil, g_cons, g_want, g_skip, g_val, g_call, g_ret, Option.map_none, hl, a0, a1, a2, CP, bq1, bq2, bq3, bq4, ex_tup]
      exact rfl, ?_⟩
  show P150_0 _ _
  exact ⟨w0_0, w1_0, w2_0, by simp [hl], by simp [a0], r0_0, by simp [a1], r1_0, by simp [a2], r2_0⟩
theorem B150 : Ref Cb P150_0 (bodyOf Tryz.f150) (M150) (post P150_1 (fun _ _ _ => False) P150_1) := by
  rw [show bodyOf Tryz.f150 = .seq (Cat [false] (bodyOf Tryz.f150)) (.seq (.block 0 (.seq (Cat [true, false, true, false] (bodyOf Tryz.f150)) (.cond (.tmp 7) (.seq (Cat [true, false, true, true, false, false] (bodyOf Tryz.f150)) (.ret)) (.seq (Cat [true, false, true, true, true, false] (bodyOf Tryz.f150)) (.cond (.tmp 27) (.seq (Cat [true, false, true, true, true, true, false, false] (bodyOf Tryz.f150)) (.ret)) (.skip)))))) (.seq (Cat [true, true, false] (bodyOf Tryz.f150)) (.ret))) from rfl]
  unfold M150
  exact ref_seq (M := P150_0) (R150_5 _ _) (ref_seq (M := P150_0) (ref_block (ref_seq (M := P150_4) (R150_4 _ _) (ref_cond (P := P150_4) (c := fun s => s.t7) (fun s st hp => by obtain ⟨w0_0, w1_0, w2_0, hl, a0, r0_0, a1, r1_0, a2, r2_0, a7⟩ := (hp : P150_4' s st.tmps st.h); simp only [evalO, a7, Option.getD_some]) (ref_weak (P' := P150_2) (fun s st hp => by obtain ⟨w0_0, w1_0, w2_0, hl, a0, r0_0, a1, r1_0, a2, r2_0, a7⟩ := (hp : P150_4' s st.tmps st.h); exact (⟨hl, trivial⟩ : P150_2' s st.tmps st.h)) (ref_seq (M := P150_1) (R150_1 _ _) (ref_ret (fun s st hp => hp)))) (ref_weak (P' := P150_0) (fun s st hp => by obtain ⟨w0_0, w1_0, w2_0, hl, a0, r0_0, a1, r1_0, a2, r2_0, a7⟩ := (hp : P150_4' s st.tmps st.h); exact (⟨w0_0, w1_0, w2_0, hl, a0, r0_0, a1, r1_0, a2, r2_0⟩ : P150_0' s st.tmps st.h)) (ref_seq (M := P150_3) (R150_3 _ _) (ref_cond (P := P150_3) (c := fun s => s.t27) (fun s st hp => by obtain ⟨w0_0, w1_0, w2_0, hl, a0, r0_0, a1, r1_0, a2, r2_0, a27⟩ := (hp : P150_3' s st.tmps st.h); simp only [evalO, a27, Option.getD_some]) (ref_weak (P' := P150_0) (fun s st hp => by obtain ⟨w0_0, w1_0, w2_0, hl, a0, r0_0, a1, r1_0, a2, r2_0, a27⟩ := (hp : P150_3' s st.tmps st.h); exact (⟨w0_0, w1_0, w2_0, hl, a0, r0_0, a1, r1_0, a2, r2_0⟩ : P150_0' s st.tmps st.h)) (ref_seq (M := P150_1) (R150_2 _ _) (ref_ret (fun s st hp => hp)))) (ref_weak (P' := P150_0) (fun s st hp => by obtain ⟨w0_0, w1_0, w2_0, hl, a0, r0_0, a1, r1_0, a2, r2_0, a27⟩ := (hp : P150_3' s st.tmps st.h); exact (⟨w0_0, w1_0, w2_0, hl, a0, r0_0, a1, r1_0, a2, r2_0⟩ : P150_0' s st.tmps st.h)) (ref_skip (fun s st hp => hp))))))))) (ref_seq (M := P150_1) (R150_0 _ _) (ref_ret (fun s st hp => hp))))
noncomputable def G150 (x0 : TestT) (x1 : (List (List UInt8))) (x2 : (List (List UInt8))) : Option Bool := match M150 { (default : Fr150) with t0 := x0, t1 := x1, t2 := x2 } with
  | some (.nrm, s) => some s.t6
  | some (.ret, s) => some s.t6
  | _ => none
theorem G150_spec : Spec150 (G150) := by
  intro x0 x1 x2 vx0_0 hvx0_0 vx1_0 hvx1_0 vx2_0 hvx2_0 r hr
  unfold G150 at hr
  cases hm : M150 { (default : Fr150) with t0 := x0, t1 := x1, t2 := x2 } with
  | none => rw [hm] at hr; cases hr
  | some q =>
    obtain ⟨x, s⟩ := q
    rw [hm] at hr
    have hx : x = .nrm ∨ x = .ret := by cases x <;> first | exact .inl rfl | exact .inr rfl | cases hr
    have hr : s.t6 = r := by cases x <;> first | exact Option.some.inj hr | cases hr
    subst hr
    have hp0 : P150_0' ({ (default : Fr150) with t0 := x0, t1 := x1, t2 := x2 }) (slots Tryz.f150 (stripL [vx0_0, vx1_0, vx2_0])) bare := ⟨(strip vx0_0 : AVal), (strip vx1_0 : AVal), (strip vx2_0 : AVal), rfl, rfl, rTestT_p.str _ _ hvx0_0, rfl, hvx1_0.strip rS_p, rfl, hvx2_0.strip rS_p⟩
    obtain ⟨v, hR, hrun⟩ := run_of_ref (C := Cb) (f := 150) (fn := Tryz.f150) Tryz.func150 rfl rfl rfl rfl (args := [vx0_0, vx1_0, vx2_0]) (by simp only [refsL, refs, List.append_nil, refs_one (rTestT_p.ref _ _ hvx0_0), hvx1_0.refs rS_p, hvx2_0.refs rS_p]) (B150) (s0 := { (default : Fr150) with t0 := x0, t1 := x1, t2 := x2 }) hp0 hm hx (R := fun v => v = .bool s.t6) (by
      have key : ∀ st : ASt, P150_1 s st → ∃ vs v, aresults Cb Tryz.f150.results.toList st = some vs ∧ Nrm [] st.h (packRes vs) v ∧ (fun v => v = .bool s.t6) v := by
        intro st hp
        obtain ⟨hl, a6⟩ := (hp : P150_1' s st.tmps st.h)
        exact ⟨[.bool s.t6], _, by simp only [show Tryz.f150.results.toList = [ResultVar.tmp 6] from rfl, aresults, ares1, CP, a6, Option.getD_some], (Nrm.of (w := .bool s.t6) (by simp only [refsL, refs, List.append_nil])), rfl⟩
      intro st hq
      rcases hx with rfl | rfl
      · exact key st hq
      · exact key st hq)
    subst hR
    exact hrun
/-! ### caisson/sets.Of -/
structure Fr41 where
  t0 : (List Int)
  t2 : Int
  t3 : Int
  t5 : Int
  t6 : (List Int)
  t7 : Int
  t8 : Int
  t9 : Bool
  t17 : Bool
instance : Inhabited Fr41 := ⟨⟨[], 0, 0, 0, [], 0, 0, false, false⟩⟩
def P41_0' (s : Fr41) (t : List AVal) (h : AHeap) : Prop := t.length = 24 ∧ t[3]? = some (.int .i64 s.t3)
def P41_0 (s : Fr41) (st : ASt) : Prop := P41_0' s st.tmps st.h
def P41_1' (s : Fr41) (t : List AVal) (h : AHeap) : Prop := t.length = 24 ∧ t[2]? = some (.int .i64 s.t2)
def P41_1 (s : Fr41) (st : ASt) : Prop := P41_1' s st.tmps st.h
def P41_2' (s : Fr41) (t : List AVal) (h : AHeap) : Prop := ∃ w6_0, t.length = 24 ∧ t[3]? = some (.int .i64 s.t3) ∧ t[6]? = some w6_0 ∧ Sl (rI .i64) s.t6 w6_0 ∧ t[7]? = some (.int .i64 s.t7) ∧ t[8]? = some (.int .i64 s.t8)
def P41_2 (s : Fr41) (st : ASt) : Prop := P41_2' s st.tmps st.h
def P41_3' (s : Fr41) (t : List AVal) (h : AHeap) : Prop := ∃ w6_0, t.length = 24 ∧ t[3]? = some (.int .i64 s.t3) ∧ t[5]? = some (.int .i64 s.t5) ∧ t[6]? = some w6_0 ∧ Sl (rI .i64) s.t6 w6_0 ∧ t[7]? = some (.int .i64 s.t7) ∧ t[8]? = some (.int .i64 s.t8)
def P41_3 (s : Fr41) (st : ASt) : Prop := P41_3' s st.tmps st.h
def P41_4' (s : Fr41) (t : List AVal) (h : AHeap) : Prop := ∃ w6_0, t.length = 24 ∧ t[3]? = some (.int .i64 s.t3) ∧ t[5]? = some (.int .i64 s.t5) ∧ t[6]? = some w6_0 ∧ Sl (rI .i64) s.t6 w6_0 ∧ t[7]? = some (.int .i64 s.t7) ∧ t[8]? = some (.int .i64 s.t8) ∧ t[17]? = some (.bool s.t17)
def P41_4 (s : Fr41) (st : ASt) : Prop := P41_4' s st.tmps st.h
def P41_5' (s : Fr41) (t : List AVal) (h : AHeap) : Prop := ∃ w6_0, t.length = 24 ∧ t[3]? = some (.int .i64 s.t3) ∧ t[6]? = some w6_0 ∧ Sl (rI .i64) s.t6 w6_0 ∧ t[7]? = some (.int .i64 s.t7) ∧ t[8]? = some (.int .i64 s.t8) ∧ t[9]? = some (.bool s.t9)
def P41_5 (s : Fr41) (st : ASt) : Prop := P41_5' s st.tmps st.h
def P41_6' (s : Fr41) (t : List AVal) (h : AHeap) : Prop := ∃ w0_0, t.length = 24 ∧ t[0]? = some w0_0 ∧ Sl (rI .i64) s.t0 w0_0 ∧ t[3]? = some (.int .i64 s.t3)
def P41_6 (s : Fr41) (st : ASt) : Prop := P41_6' s st.tmps st.h
def P41_7' (s : Fr41) (t : List AVal) (h : AHeap) : Prop := ∃ w0_0, t.length = 24 ∧ t[0]? = some w0_0 ∧ Sl (rI .i64) s.t0 w0_0
def P41_7 (s : Fr41) (st : ASt) : Prop := P41_7' s st.tmps st.h
noncomputable def m41_0 : Mo Fr41 := fun s => some (.nrm, { s with t2 := s.t3 })
noncomputable def m41_1 : Mo Fr41 := fun s => some (.nrm, { s with t8 := IntKind.wrap .i64 (s.t8 + 1) })
noncomputable def m41_2 : Mo Fr41 := fun s => (shlT .i64 1 s.t5).bind fun z1 => some (.nrm, { s with t3 := bits .or .i64 s.t3 z1 })
noncomputable def m41_3 : Mo Fr41 := fun s => some (.nrm, { s with t17 := ((decide (s.t5 ≥ 0)) && (decide (s.t5 < 6))) })
noncomputable def m41_4 : Mo Fr41 := fun s => (at? s.t6 s.t8).bind fun y6 => some (.nrm, { s with t5 := y6 })
noncomputable def m41_5 : Mo Fr41 := fun s => some (.nrm, { s with t9 := decide (s.t8 < s.t7) })
noncomputable def L41_6 : Mo Fr41 := seqM (m41_5) (seqM (condM (fun s => s.t9) (skipM) (exitM 0)) (seqM (blockM 1 (seqM (m41_4) (seqM (m41_3) (condM (fun s => s.t17) (m41_2) (skipM))))) (m41_1)))
noncomputable def m41_7 : Mo Fr41 := fun s => some (.nrm, { s with t6 := s.t0, t7 := (s.t0.length : Int), t8 := 0 })
noncomputable def m41_8 : Mo Fr41 := fun s => some (.nrm, { s with t3 := 0 })
noncomputable def m41_9 : Mo Fr41 := fun s => some (.nrm, s)
noncomputable def M41 : Mo Fr41 := seqM (m41_9) (seqM (m41_8) (seqM (seqM (m41_7) (blockM 0 (loopM (L41_6)))) (seqM (m41_0) (retM))))
def Spec41 (f : (List Int) → Option Int) : Prop := ∀ (x0 : (List Int)) (vx0_0 : AVal) (_ : Sl (rI .i64) x0 vx0_0) (r : Int), f x0 = some r → ∀ h, run Cb 41 [vx0_0] h = some (.ret (.int .i64 r), h)
theorem Spec41_of {f g : (List Int) → Option Int} (hg : Spec41 g) (h : ∀ x0 r, f x0 = some r → g x0 = some r) : Spec41 f := fun x0 v0_ w0_ r hr => hg x0 v0_ w0_ r (h x0 r hr)
theorem R41_0 (pe : Nat → Fr41 → ASt → Prop) (pr : Fr41 → ASt → Prop) : Ref Cb P41_0 (Cat [true, true, true, false] (bodyOf Tryz.f41)) m41_0 (post P41_1 pe pr) := by
  rintro s ⟨t, h⟩ hp x s' hm
  have hp : P41_0' s t h := hp
  obtain ⟨hl, a3⟩ := hp
  unfold m41_0 at hm
  cases hm
  refine ⟨⟨_, _⟩, by
      simp only [bodyOf, Tryz.f41, Cat, Bool.false_eq_true, e_seq, e_region, e_cond, e_block, ex_skip, ex_exit, ex_ret, o_cons, xops_nil, k_want_none, k_want_false, k_val, k_pan, k_call, k_ret, k_seq, k_seq_exit, k_seq_ret, k_true, k_false, k_block, k_block_exit, k_block_ret, k_loop, k_loop_exit, k_loop_ret, awanted, aoper, evalO, put, Option.getD_some, List.getElem?_set, acallOp, abuiltin, List.map_cons, List.map_nil, Nat.reduceEqDiff, Nat.reduceLT, List.length_set, Option.map_some, Option.bind_some, Option.bind_eq_bind, add_i, sub_i, mul_i, eql_i, neq_i, lss_i, leq_i, gtr_i, geq_i, ofV, ofCell, ↓reduceIte, List.cons_append, List.nil_append, List.append_nil, List.getElem?_toArray, List.getElem?_cons_succ, List.getElem?_cons_zero, e_draw, g_nil, g_cons, g_want, g_skip, g_val, g_call, g_ret, Option.map_none, hl, a3, CP, bq1, bq2, bq3, bq4, ex_tup]
      exact rfl, ?_⟩
  show P41_1 _ _
  exact ⟨by simp [hl], by simp [hl]⟩
theorem R41_1 (pe : Nat → Fr41 → ASt → Prop) (pr : Fr41 → ASt → Prop) : Ref Cb P41_2 (Cat [true, true, false, true, true, true, true, true, true] (bodyOf Tryz.f41)) m41_1 (post P41_2 pe pr) := by
  rintro s ⟨t, h⟩ hp x s' hm
  have hp : P41_2' s t h := hp
  obtain ⟨w6_0, hl, a3, a6, r6_0, a7, a8⟩ := hp
  unfold m41_1 at hm
  cases hm
  refine ⟨⟨_, _⟩, by
      simp only [bodyOf, Tryz.f41, Cat, Bool.false_eq_true, e_seq, e_region, e_cond, e_block, ex_skip, ex_exit, ex_ret, o_cons, xops_nil, k_want_none, k_want_false, k_val, k_pan, k_call, k_ret, k_seq, k_seq_exit, k_seq_ret, k_true, k_false, k_block, k_block_exit, k_block_ret, k_loop, k_loop_exit, k_loop_ret, awanted, aoper, evalO, put, Option.getD_some, List.getElem?_set, acallOp, abuiltin, List.map_cons, List.map_nil, Nat.reduceEqDiff, Nat.reduceLT, List.length_set, Option.map_some, Option.bind_some, Option.bind_eq_bind, add_i, sub_i, mul_i, eql_i, neq_i, lss_i, leq_i, gtr_i, geq_i, ofV, ofCell, ↓reduceIte, List.cons_append, List.nil_append, List.append_nil, List.getElem?_toArray, List.getElem?_cons_succ, List.getElem?_cons_zero, e_draw, g_nil, g_cons, g_want, g_skip, g_val, g_call, g_ret, Option.map_none, hl, a3, a6, a7, a8, CP, bq1, bq2, bq3, bq4, ex_tup]
      exact rfl, ?_⟩
  show P41_2 _ _
  exact ⟨w6_0, by simp [hl], by simp [a3], by simp [a6], r6_0, by simp [a7], by simp [hl]⟩
theorem R41_2 (pe : Nat → Fr41 → ASt → Prop) (pr : Fr41 → ASt → Prop) : Ref Cb P41_3 (Cat [true, true, false, true, true, true, true, true, false, true, true, true, false] (bodyOf Tryz.f41)) m41_2 (post P41_2 pe pr) := by
  rintro s ⟨t, h⟩ hp x s' hm
  have hp : P41_3' s t h := hp
  obtain ⟨w6_0, hl, a3, a5, a6, r6_0, a7, a8⟩ := hp
  unfold m41_2 at hm
  obtain ⟨z3, hz3, hm⟩ := Option.bind_eq_some_iff.1 hm
  have iu4 := shl_v (C := Cb) hz3
  cases hm
  refine ⟨⟨_, _⟩, by
      simp only [bodyOf, Tryz.f41, Cat, Bool.false_eq_true, e_seq, e_region, e_cond, e_block, ex_skip, ex_exit, ex_ret, o_cons, xops_nil, k_want_none, k_want_false, k_val, k_pan, k_call, k_ret, k_seq, k_seq_exit, k_seq_ret, k_true, k_false, k_block, k_block_exit, k_block_ret, k_loop, k_loop_exit, k_loop_ret, awanted, aoper, evalO, put, Option.getD_some, List.getElem?_set, acallOp, abuiltin, List.map_cons, List.map_nil, Nat.reduceEqDiff, Nat.reduceLT, List.length_set, Option.map_some, Option.bind_some, Option.bind_eq_bind, add_i, sub_i, mul_i, eql_i, neq_i, lss_i, leq_i, gtr_i, geq_i, ofV, ofCell, ↓reduceIte, List.cons_append, List.nil_append, List.append_nil, List.getElem?_toArray, List.getElem?_cons_succ, List.getElem?_cons_zero, e_draw, g_nil, g_cons, g_want, g_skip, g_val, g_call, g_ret, Option.map_none, hl, a3, a5, a6, a7, a8, CP, bq1, bq2, bq3, bq4, ex_tup, iu4, Ty.or3]
      exact rfl, ?_⟩
  show P41_2 _ _
  exact ⟨w6_0, by simp [hl], by simp [hl], by simp [a6], r6_0, by simp [a7], by simp [a8]⟩
theorem R41_3 (pe : Nat → Fr41 → ASt → Prop) (pr : Fr41 → ASt → Prop) : Ref Cb P41_3 (Cat [true, true, false, true, true, true, true, true, false, true, true, false] (bodyOf Tryz.f41)) m41_3 (post P41_4 pe pr) := by
  rintro s ⟨t, h⟩ hp x s' hm
  have hp : P41_3' s t h := hp
  obtain ⟨w6_0, hl, a3, a5, a6, r6_0, a7, a8⟩ := hp
  unfold m41_3 at hm
  cases hb5 : decide (s.t5 ≥ 0) with
  | true =>
    all_goals (
      try simp only [hb5, cond_true, cond_false, Option.bind_some, Option.bind_assoc, Bool.not_true, Bool.not_false, Bool.true_and, Bool.false_and, Bool.and_true, Bool.and_false, Bool.true_or, Bool.false_or] at hm
      cases hm
      refine ⟨⟨_, _⟩, by
          simp only [bodyOf, Tryz.f41, Cat, Bool.false_eq_true, e_seq, e_region, e_cond, e_block, ex_skip, ex_exit, ex_ret, o_cons, xops_nil, k_want_none, k_want_false, k_val, k_pan, k_call, k_ret, k_seq, k_seq_exit, k_seq_ret, k_true, k_false, k_block, k_block_exit, k_block_ret, k_loop, k_loop_exit, k_loop_ret, awanted, aoper, evalO, put, Option.getD_some, List.getElem?_set, acallOp, abuiltin, List.map_cons, List.map_nil, Nat.reduceEqDiff, Nat.reduceLT, List.length_set, Option.map_some, Option.bind_some, Option.bind_eq_bind, add_i, sub_i, mul_i, eql_i, neq_i, lss_i, leq_i, gtr_i, geq_i, ofV, ofCell, ↓reduceIte, List.cons_append, List.nil_append, List.append_nil, List.getElem?_toArray, List.getElem?_cons_succ, List.getElem?_cons_zero, e_draw, g_nil, g_cons, g_want, g_skip, g_val, g_call, g_ret, Option.map_none, hl, a3, a5, a6, a7, a8, CP, bq1, bq2, bq3, bq4, ex_tup, hb5]
          exact rfl, ?_⟩
      show P41_4 _ _
      exact ⟨w6_0, by simp [hl], by simp [a3], by simp [a5], by simp [a6], r6_0, by simp [a7], by simp [a8], by simp [hl, hb5]⟩)
  | false =>
    all_goals (
      try simp only [hb5, cond_true, cond_false, Option.bind_some, Option.bind_assoc, Bool.not_true, Bool.not_false, Bool.true_and, Bool.false_and, Bool.and_true, Bool.and_false, Bool.true_or, Bool.false_or] at hm
      cases hm
      refine ⟨⟨_, _⟩, by
          simp only [bodyOf, Tryz.f41, Cat, Bool.false_eq_true, e_seq, e_region, e_cond, e_block, ex_skip, ex_exit, ex_ret, o_cons, xops_nil, k_want_none, k_want_false, k_val, k_pan, k_call, k_ret, k_seq, k_seq_exit, k_seq_ret, k_true, k_false, k_block, k_block_exit, k_block_ret, k_loop, k_loop_exit, k_loop_ret, awanted, aoper, evalO, put, Option.getD_some, List.getElem?_set, acallOp, abuiltin, List.map_cons, List.map_nil, Nat.reduceEqDiff, Nat.reduceLT, List.length_set, Option.map_some, Option.bind_some, Option.bind_eq_bind, add_i, sub_i, mul_i, eql_i, neq_i, lss_i, leq_i, gtr_i, geq_i, ofV, ofCell, ↓reduceIte, List.cons_append, List.nil_append, List.append_nil, List.getElem?_toArray, List.getElem?_cons_succ, List.getElem?_cons_zero, e_draw, g_nil, g_cons, g_want, g_skip, g_val, g_call, g_ret, Option.map_none, hl, a3, a5, a6, a7, a8, CP, bq1, bq2, bq3, bq4, ex_tup, hb5]
          exact rfl, ?_⟩
      show P41_4 _ _
      exact ⟨w6_0, by simp [hl], by simp [a3], by simp [a5], by simp [a6], r6_0, by simp [a7], by simp [a8], by simp [hl, hb5]⟩)
theorem R41_4 (pe : Nat → Fr41 → ASt → Prop) (pr : Fr41 → ASt → Prop) : Ref Cb P41_2 (Cat [true, true, false, true, true, true, true, true, false, true, false] (bodyOf Tryz.f41)) m41_4 (post P41_3 pe pr) := by
  rintro s ⟨t, h⟩ hp x s' hm
  have hp : P41_2' s t h := hp
  obtain ⟨w6_0, hl, a3, a6, r6_0, a7, a8⟩ := hp
  unfold m41_4 at hm
  obtain ⟨y8, hy8, hm⟩ := Option.bind_eq_some_iff.1 hm
  obtain ⟨cu9, du9, eu9, iu9, _⟩ := Sl.ix (rI_p .i64) r6_0 hy8
  subst eu9
  cases hm
  refine ⟨⟨_, _⟩, by
      simp only [bodyOf, Tryz.f41, Cat, Bool.false_eq_true, e_seq, e_region, e_cond, e_block, ex_skip, ex_exit, ex_ret, o_cons, xops_nil, k_want_none, k_want_false, k_val, k_pan, k_call, k_ret, k_seq, k_seq_exit, k_seq_ret, k_true, k_false, k_block, k_block_exit, k_block_ret, k_loop, k_loop_exit, k_loop_ret, awanted, aoper, evalO, put, Option.getD_some, List.getElem?_set, acallOp, abuiltin, List.map_cons, List.map_nil, Nat.reduceEqDiff, Nat.reduceLT, List.length_set, Option.map_some, Option.bind_some, Option.bind_eq_bind, add_i, sub_i, mul_i, eql_i, neq_i, lss_i, leq_i, gtr_i, geq_i, ofV, ofCell, ↓reduceIte, List.cons_append, List.nil_append, List.append_nil, List.getElem?_toArray, List.getElem?_cons_succ, List.getElem?_cons_zero, e_draw, g_nil, g_cons, g_want, g_skip, g_val, g_call, g_ret, Option.map_none, hl, a3, a6, a7, a8, CP, bq1, bq2, bq3, bq4, ex_tup, Ty.ix33, iu9, Ty.ld3, ld_ip, ofc1, List.drop_succ_cons, List.drop_zero]
      exact rfl, ?_⟩
  show P41_3 _ _
  exact ⟨w6_0, by simp [hl], by simp [a3], by simp [hl], by simp [a6], r6_0, by simp [a7], by simp [a8]⟩
theorem R41_5 (pe : Nat → Fr41 → ASt → Prop) (pr : Fr41 → ASt → Prop) : Ref Cb P41_2 (Cat [true, true, false, true, true, true, false] (bodyOf Tryz.f41)) m41_5 (post P41_5 pe pr) := by
  rintro s ⟨t, h⟩ hp x s' hm
  have hp : P41_2' s t h := hp
  obtain ⟨w6_0, hl, a3, a6, r6_0, a7, a8⟩ := hp
  unfold m41_5 at hm
  cases hm
  refine ⟨⟨_, _⟩, by
      simp only [bodyOf, Tryz.f41, Cat, Bool.false_eq_true, e_seq, e_region, e_cond, e_block, ex_skip, ex_exit, ex_ret, o_cons, xops_nil, k_want_none, k_want_false, k_val, k_pan, k_call, k_ret, k_seq, k_seq_exit, k_seq_ret, k_true, k_false, k_block, k_block_exit, k_block_ret, k_loop, k_loop_exit, k_loop_ret, awanted, aoper, evalO, put, Option.getD_some, List.getElem?_set, acallOp, abuiltin, List.map_cons, List.map_nil, Nat.reduceEqDiff, Nat.reduceLT, List.length_set, Option.map_some, Option.bind_some, Option.bind_eq_bind, add_i, sub_i, mul_i, eql_i, neq_i, lss_i, leq_i, gtr_i, geq_i, ofV, ofCell, ↓reduceIte, List.cons_append, List.nil_append, List.append_nil, List.getElem?_toArray, List.getElem?_cons_succ, List.getElem?_cons_zero, e_draw, g_nil, g_cons, g_want, g_skip, g_val, g_call, g_ret, Option.map_none, hl, a3, a6, a7, a8, CP, bq1, bq2, bq3, bq4, ex_tup]
      exact rfl, ?_⟩
  show P41_5 _ _
  exact ⟨w6_0, by simp [hl], by simp [a3], by simp [a6], r6_0, by simp [a7], by simp [a8], by simp [hl]⟩
theorem R41_7 (pe : Nat → Fr41 → ASt → Prop) (pr : Fr41 → ASt → Prop) : Ref Cb P41_6 (Cat [true, true, false, false] (bodyOf Tryz.f41)) m41_7 (post P41_2 pe pr) := by
  rintro s ⟨t, h⟩ hp x s' hm
  have hp : P41_6' s t h := hp
  obtain ⟨w0_0, hl, a0, r0_0, a3⟩ := hp
  unfold m41_7 at hm
  have lu11 := fun h => Sl.len r0_0 Ty.un33 h
  cases hm
  refine ⟨⟨_, _⟩, by
      simp only [bodyOf, Tryz.f41, Cat, Bool.false_eq_true, e_seq, e_region, e_cond, e_block, ex_skip, ex_exit, ex_ret, o_cons, xops_nil, k_want_none, k_want_false, k_val, k_pan, k_call, k_ret, k_seq, k_seq_exit, k_seq_ret, k_true, k_false, k_block, k_block_exit, k_block_ret, k_loop, k_loop_exit, k_loop_ret, awanted, aoper, evalO, put, Option.getD_some, List.getElem?_set, acallOp, abuiltin, List.map_cons, List.map_nil, Nat.reduceEqDiff, Nat.reduceLT, List.length_set, Option.map_some, Option.bind_some, Option.bind_eq_bind, add_i, sub_i, mul_i, eql_i, neq_i, lss_i, leq_i, gtr_i, geq_i, ofV, ofCell, ↓reduceIte, List.cons_append, List.nil_append, List.append_nil, List.getElem?_toArray, List.getElem?_cons_succ, List.getElem?_cons_zero, e_draw, g_nil, g_cons, g_want, g_skip, g_val, g_call, g_ret, Option.map_none, hl, a0, a3, CP, bq1, bq2, bq3, bq4, ex_tup, lu11]
      exact rfl, ?_⟩
  show P41_2 _ _
  exact ⟨w0_0, by simp [hl], by simp [a3], by simp [hl], r0_0, by simp [hl], by simp [hl]⟩
theorem R41_8 (pe : Nat → Fr41 → ASt → Prop) (pr : Fr41 → ASt → Prop) : Ref Cb P41_7 (Cat [true, false] (bodyOf Tryz.f41)) m41_8 (post P41_6 pe pr) := by
  rintro s ⟨t, h⟩ hp x s' hm
  have hp : P41_7' s t h := hp
  obtain ⟨w0_0, hl, a0, r0_0⟩ := hp
  unfold m41_8 at hm
  cases hm
  refine ⟨⟨_, _⟩, by
      simp only [bodyOf, Tryz.f41, Cat, Bool.false_eq_true, e_seq, e_region, e_cond, e_block, ex_skip, ex_exit, ex_ret, o_cons, xops_nil, k_want_none, k_want_false, k_val, k_pan, k_call, k_ret, k_seq, k_seq_exit, k_seq_ret, k_true, k_false, k_block, k_block_exit, k_block_ret, k_loop, k_loop_exit, k_loop_ret, awanted, aoper, evalO, put, Option.getD_some, List.getElem?_set, acallOp, abuiltin, List.map_cons, List.map_nil, Nat.reduceEqDiff, Nat.reduceLT, List.length_set, Option.map_some, Option.bind_some, Option.bind_eq_bind, add_i, sub_i, mul_i, eql_i, neq_i, lss_i, leq_i, gtr_i, geq_i, ofV, ofCell, ↓reduceIte, List.cons_append, List.nil_append, List.append_nil, List.getElem?_toArray, List.getElem?_cons_succ, List.getElem?_cons_zero, e_draw, g_nil, g_cons, g_want, g_skip, g_val, g_call, g_ret, Option.map_none, hl, a0, CP, bq1, bq2, bq3, bq4, ex_tup]
      exact rfl, ?_⟩
  show P41_6 _ _
  exact ⟨w0_0, by simp [hl], by simp [a0], r0_0, by simp [hl]⟩
theorem R41_9 (pe : Nat → Fr41 → ASt → Prop) (pr : Fr41 → ASt → Prop) : Ref Cb P41_7 (Cat [false] (bodyOf Tryz.f41)) m41_9 (post P41_7 pe pr) := by
  rintro s ⟨t, h⟩ hp x s' hm
  have hp : P41_7' s t h := hp
  obtain ⟨w0_0, hl, a0, r0_0⟩ := hp
  unfold m41_9 at hm
  cases hm
  refine ⟨⟨_, _⟩, by
      simp only [bodyOf, Tryz.f41, Cat, Bool.false_eq_true, e_seq, e_region, e_cond, e_block, ex_skip, ex_exit, ex_ret, o_cons, xops_nil, k_want_none, k_want_false, k_val, k_pan, k_call, k_ret, k_seq, k_seq_exit, k_seq_ret, k_true, k_false, k_block, k_block_exit, k_block_ret, k_loop, k_loop_exit, k_loop_ret, awanted, aoper, evalO, put, Option.getD_some, List.getElem?_set, acallOp, abuiltin, List.map_cons, List.map_nil, Nat.reduceEqDiff, Nat.reduceLT, List.length_set, Option.map_some, Option.bind_some, Option.bind_eq_bind, add_i, sub_i, mul_i, eql_i, neq_i, lss_i, leq_i, gtr_i, geq_i, ofV, ofCell, ↓reduceIte, List.cons_append, List.nil_append, List.append_nil, List.getElem?_toArray, List.getElem?_cons_succ, List.getElem?_cons_zero, e_draw, g_nil, g_cons, g_want, g_skip, g_val, g_call, g_ret, Option.map_none, hl, a0, CP, bq1, bq2, bq3, bq4, ex_tup]
      exact rfl, ?_⟩
  show P41_7 _ _
  exact ⟨w0_0, by simp [hl], by simp [a0], r0_0⟩
theorem B41 : Ref Cb P41_7 (bodyOf Tryz.f41) (M41) (post P41_1 (fun _ _ _ => False) P41_1) := by
  rw [show bodyOf Tryz.f41 = .seq (Cat [false] (bodyOf Tryz.f41)) (.seq (Cat [true, false] (bodyOf Tryz.f41)) (.seq (.seq (Cat [true, true, false, false] (bodyOf Tryz.f41)) (.block 0 (.loop (.seq (Cat [true, true, false, true, true, true, false] (bodyOf Tryz.f41)) (.seq (.cond (.tmp 9) (.skip) (.exit 0)) (.seq (.block 1 (.seq (Cat [true, true, false, true, true, true, true, true, false, true, false] (bodyOf Tryz.f41)) (.seq (Cat [true, true, false, true, true, true, true, true, false, true, true, false] (bodyOf Tryz.f41)) (.cond (.tmp 17) (Cat [true, true, false, true, true, true, true, true, false, true, true, true, false] (bodyOf Tryz.f41)) (.skip))))) (Cat [true, true, false, true, true, true, true, true, true] (bodyOf Tryz.f41)))))))) (.seq (Cat [true, true, true, false] (bodyOf Tryz.f41)) (.ret)))) from rfl]
  unfold M41
  exact ref_seq (M := P41_7) (R41_9 _ _) (ref_seq (M := P41_6) (R41_8 _ _) (ref_seq (M := P41_0) (ref_seq (M := P41_2) (R41_7 _ _) (ref_block (ref_loop (P := P41_2) (ref_weak (P' := P41_2) (fun s st hp => hp) (ref_seq (M := P41_5) (R41_5 _ _) (ref_seq (M := P41_2) (ref_cond (P := P41_5) (c := fun s => s.t9) (fun s st hp => by obtain ⟨w6_0, hl, a3, a6, r6_0, a7, a8, a9⟩ := (hp : P41_5' s st.tmps st.h); simp only [evalO, a9, Option.getD_some]) (ref_weak (P' := P41_2) (fun s st hp => by obtain ⟨w6_0, hl, a3, a6, r6_0, a7, a8, a9⟩ := (hp : P41_5' s st.tmps st.h); exact (⟨w6_0, hl, a3, a6, r6_0, a7, a8⟩ : P41_2' s st.tmps st.h)) (ref_skip (fun s st hp => hp))) (ref_weak (P' := P41_0) (fun s st hp => by obtain ⟨w6_0, hl, a3, a6, r6_0, a7, a8, a9⟩ := (hp : P41_5' s st.tmps st.h); exact (⟨hl, a3⟩ : P41_0' s st.tmps st.h)) (ref_exit (fun s st hp => hp)))) (ref_seq (M := P41_2) (ref_block (ref_seq (M := P41_3) (R41_4 _ _) (ref_seq (M := P41_4) (R41_3 _ _) (ref_cond (P := P41_4) (c := fun s => s.t17) (fun s st hp => by obtain ⟨w6_0, hl, a3, a5, a6, r6_0, a7, a8, a17⟩ := (hp : P41_4' s st.tmps st.h); simp only [evalO, a17, Option.getD_some]) (ref_weak (P' := P41_3) (fun s st hp => by obtain ⟨w6_0, hl, a3, a5, a6, r6_0, a7, a8, a17⟩ := (hp : P41_4' s st.tmps st.h); exact (⟨w6_0, hl, a3, a5, a6, r6_0, a7, a8⟩ : P41_3' s st.tmps st.h)) (R41_2 _ _)) (ref_weak (P' := P41_2) (fun s st hp => by obtain ⟨w6_0, hl, a3, a5, a6, r6_0, a7, a8, a17⟩ := (hp : P41_4' s st.tmps st.h); exact (⟨w6_0, hl, a3, a6, r6_0, a7, a8⟩ : P41_2' s st.tmps st.h)) (ref_skip (fun s st hp => hp))))))) (R41_1 _ _)))))))) (ref_seq (M := P41_1) (R41_0 _ _) (ref_ret (fun s st hp => hp)))))
noncomputable def G41 (x0 : (List Int)) : Option Int := match M41 { (default : Fr41) with t0 := x0 } with
  | some (.nrm, s) => some s.t2
  | some (.ret, s) => some s.t2
  | _ => none
theorem G41_spec : Spec41 (G41) := by
  intro x0 vx0_0 hvx0_0 r hr
  unfold G41 at hr
  cases hm : M41 { (default : Fr41) with t0 := x0 } with
  | none => rw [hm] at hr; cases hr
  | some q =>
    obtain ⟨x, s⟩ := q
    rw [hm] at hr
    have hx : x = .nrm ∨ x = .ret := by cases x <;> first | exact .inl rfl | exact .inr rfl | cases hr
    have hr : s.t2 = r := by cases x <;> first | exact Option.some.inj hr | cases hr
    subst hr
    have hp0 : P41_7' ({ (default : Fr41) with t0 := x0 }) (slots Tryz.f41 (stripL [vx0_0])) bare := ⟨(strip vx0_0 : AVal), rfl, rfl, hvx0_0.strip (rI_p .i64)⟩
    obtain ⟨v, hR, hrun⟩ := run_of_ref (C := Cb) (f := 41) (fn := Tryz.f41) Tryz.func41 rfl rfl rfl rfl (args := [vx0_0]) (by simp only [refsL, refs, List.append_nil, hvx0_0.refs (rI_p .i64)]) (B41) (s0 := { (default : Fr41) with t0 := x0 }) hp0 hm hx (R := fun v => v = .int .i64 s.t2) (by
      have key : ∀ st : ASt, P41_1 s st → ∃ vs v, aresults Cb Tryz.f41.results.toList st = some vs ∧ Nrm [] st.h (packRes vs) v ∧ (fun v => v = .int .i64 s.t2) v := by
        intro st hp
        obtain ⟨hl, a2⟩ := (hp : P41_1' s st.tmps st.h)
        exact ⟨[.int .i64 s.t2], _, by simp only [show Tryz.f41.results.toList = [ResultVar.tmp 2] from rfl, aresults, ares1, CP, a2, Option.getD_some], (Nrm.of (w := .int .i64 s.t2) (by simp only [refsL, refs, List.append_nil])), rfl⟩
      intro st hq
      rcases hx with rfl | rfl
      · exact key st hq
      · exact key st hq)
    subst hR
    exact hrun
/-! ### caisson/caissonref12.Nodes -/
structure Fr20 where
  t0 : TestT
  t1 : Int
  t4 : Int
  t5 : Int
  t11 : Bool
instance : Inhabited Fr20 := ⟨⟨default, 0, 0, 0, false⟩⟩
def P20_0' (s : Fr20) (t : List AVal) (h : AHeap) : Prop := ∃ w0_0, t.length = 30 ∧ t[0]? = some w0_0 ∧ rTestT s.t0 [w0_0] ∧ t[1]? = some (.int .i64 s.t1) ∧ t[5]? = some (.int .i64 s.t5)
def P20_0 (s : Fr20) (st : ASt) : Prop := P20_0' s st.tmps st.h
def P20_1' (s : Fr20) (t : List AVal) (h : AHeap) : Prop := t.length = 30 ∧ t[4]? = some (.int .i64 s.t4)
def P20_1 (s : Fr20) (st : ASt) : Prop := P20_1' s st.tmps st.h
def P20_2' (s : Fr20) (t : List AVal) (h : AHeap) : Prop := ∃ w0_0, t.length = 30 ∧ t[0]? = some w0_0 ∧ rTestT s.t0 [w0_0] ∧ t[1]? = some (.int .i64 s.t1)
def P20_2 (s : Fr20) (st : ASt) : Prop := P20_2' s st.tmps st.h
def P20_3' (s : Fr20) (t : List AVal) (h : AHeap) : Prop := t.length = 30 ∧ True
def P20_3 (s : Fr20) (st : ASt) : Prop := P20_3' s st.tmps st.h
def P20_4' (s : Fr20) (t : List AVal) (h : AHeap) : Prop := ∃ w0_0, t.length = 30 ∧ t[0]? = some w0_0 ∧ rTestT s.t0 [w0_0] ∧ t[1]? = some (.int .i64 s.t1) ∧ t[11]? = some (.bool s.t11)
def P20_4 (s : Fr20) (st : ASt) : Prop := P20_4' s st.tmps st.h
noncomputable def m20_0 (rec20 : TestT → Int → Option Int) : Mo Fr20 := fun s => (s.t0.get).bind fun n1 => (rec20 n1.Right (IntKind.wrap .i64 (s.t1 - s.t5))).bind fun z3 => some (.nrm, { s with t4 := IntKind.wrap .i64 (s.t5 + z3) })
noncomputable def m20_1 (rec20 : TestT → Int → Option Int) : Mo Fr20 := fun s => (s.t0.get).bind fun n9 => (rec20 n9.Left (IntKind.wrap .i64 (s.t1 - 1))).bind fun z11 => some (.nrm, { s with t5 := IntKind.wrap .i64 (1 + z11) })
noncomputable def m20_2 (rec20 : TestT → Int → Option Int) : Mo Fr20 := fun s => some (.nrm, { s with t4 := 0 })
noncomputable def m20_3 (rec20 : TestT → Int → Option Int) : Mo Fr20 := fun s => some (.nrm, { s with t11 := (s.t0.isNil || (decide (s.t1 ≤ 0))) })
noncomputable def m20_4 (rec20 : TestT → Int → Option Int) : Mo Fr20 := fun s => some (.nrm, s)
noncomputable def M20 (rec20 : TestT → Int → Option Int) : Mo Fr20 := seqM (m20_4 rec20) (seqM (seqM (m20_3 rec20) (condM (fun s => s.t11) (seqM (m20_2 rec20) (retM)) (skipM))) (seqM (m20_1 rec20) (seqM (m20_0 rec20) (retM))))
def Spec20 (f : TestT → Int → Option Int) : Prop := ∀ (x0 : TestT) (x1 : Int) (vx0_0 : AVal) (_ : rTestT x0 [vx0_0]) (r : Int), f x0 x1 = some r → ∀ h, run Cb 20 [vx0_0, .int .i64 x1] h = some (.ret (.int .i64 r), h)
theorem Spec20_of {f g : TestT → Int → Option Int} (hg : Spec20 g) (h : ∀ x0 x1 r, f x0 x1 = some r → g x0 x1 = some r) : Spec20 f := fun x0 x1 v0_ w0_ r hr => hg x0 x1 v0_ w0_ r (h x0 x1 r hr)
theorem R20_0 {rec20 : TestT → Int → Option Int} (hrec20 : Spec20 rec20) (pe : Nat → Fr20 → ASt → Prop) (pr : Fr20 → ASt → Prop) : Ref Cb P20_0 (Cat [true, true, true, false] (bodyOf Tryz.f20)) (m20_0 rec20) (post P20_1 pe pr) := by
  rintro s ⟨t, h⟩ hp x s' hm
  have hp : P20_0' s t h := hp
  obtain ⟨w0_0, hl, a0, r0_0, a1, a5⟩ := hp
  unfold m20_0 at hm
  obtain ⟨n5, hn5, hm⟩ := Option.bind_eq_some_iff.1 hm
  obtain ⟨bu6_0, bu6_1, bu6_2, bu6_3, qu6, gu6_0, gu6_1, gu6_2, gu6_3⟩ := rTestT_get r0_0 hn5
  subst qu6
  obtain ⟨z7, hz7, hm⟩ := Option.bind_eq_some_iff.1 hm
  have iu8 := hrec20 n5.Right (IntKind.wrap .i64 (s.t1 - s.t5)) _ gu6_1 _ hz7
  cases hm
  refine ⟨⟨_, _⟩, by
      simp only [bodyOf, Tryz.f20, Cat, Bool.false_eq_true, e_seq, e_region, e_cond, e_block, ex_skip, ex_exit, ex_ret, o_cons, xops_nil, k_want_none, k_want_false, k_val, k_pan, k_call, k_ret, k_seq, k_seq_exit, k_seq_ret, k_true, k_false, k_block, k_block_exit, k_block_ret, k_loop, k_loop_exit, k_loop_ret, awanted, aoper, evalO, put, Option.getD_some, List.getElem?_set, acallOp, abuiltin, List.map_cons, List.map_nil, Nat.reduceEqDiff, Nat.reduceLT, List.length_set, Option.map_some, Option.bind_some, Option.bind_eq_bind, add_i, sub_i, mul_i, eql_i, neq_i, lss_i, leq_i, gtr_i, geq_i, ofV, ofCell, ↓reduceIte, List.cons_append, List.nil_append, List.append_nil, List.getElem?_toArray, List.getElem?_cons_succ, List.getElem?_cons_zero, e_draw, g_nil, g_cons, g_want, g_skip, g_val, g_call, g_ret, Option.map_none, hl, a0, a1, a5, CP, bq1, bq2, bq3, bq4, ex_tup, Ty.fa57_2, dropCells, List.drop_succ_cons, List.drop_zero, Ty.ld32, ld_ip, ofc1, List.drop_succ_cons, List.drop_zero, iu8]
      exact rfl, ?_⟩
  show P20_1 _ _
  exact ⟨by simp [hl], by simp [hl]⟩
theorem R20_1 {rec20 : TestT → Int → Option Int} (hrec20 : Spec20 rec20) (pe : Nat → Fr20 → ASt → Prop) (pr : Fr20 → ASt → Prop) : Ref Cb P20_2 (Cat [true, true, false] (bodyOf Tryz.f20)) (m20_1 rec20) (post P20_0 pe pr) := by
  rintro s ⟨t, h⟩ hp x s' hm
  have hp : P20_2' s t h := hp
  obtain ⟨w0_0, hl, a0, r0_0, a1⟩ := hp
  unfold m20_1 at hm
  obtain ⟨n13, hn13, hm⟩ := Option.bind_eq_some_iff.1 hm
  obtain ⟨bu14_0, bu14_1, bu14_2, bu14_3, qu14, gu14_0, gu14_1, gu14_2, gu14_3⟩ := rTestT_get r0_0 hn13
  subst qu14
  obtain ⟨z15, hz15, hm⟩ := Option.bind_eq_some_iff.1 hm
  have iu16 := hrec20 n13.Left (IntKind.wrap .i64 (s.t1 - 1)) _ gu14_0 _ hz15
  cases hm
  refine ⟨⟨_, _⟩, by
      simp only [bodyOf, Tryz.f20, Cat, Bool.false_eq_true, e_seq, e_region, e_cond, e_block, ex_skip, ex_exit, ex_ret, o_cons, xops_nil, k_want_none, k_want_false, k_val, k_pan, k_call, k_ret, k_seq, k_seq_exit, k_seq_ret, k_true, k_false, k_block, k_block_exit, k_block_ret, k_loop, k_loop_exit, k_loop_ret, awanted, aoper, evalO, put, Option.getD_some, List.getElem?_set, acallOp, abuiltin, List.map_cons, List.map_nil, Nat.reduceEqDiff, Nat.reduceLT, List.length_set, Option.map_some, Option.bind_some, Option.bind_eq_bind, add_i, sub_i, mul_i, eql_i, neq_i, lss_i, leq_i, gtr_i, geq_i, ofV, ofCell, ↓reduceIte, List.cons_append, List.nil_append, List.append_nil, List.getElem?_toArray, List.getElem?_cons_succ, List.getElem?_cons_zero, e_draw, g_nil, g_cons, g_want, g_skip, g_val, g_call, g_ret, Option.map_none, hl, a0, a1, CP, bq1, bq2, bq3, bq4, ex_tup, Ty.fa57_1, dropCells, List.drop_succ_cons, List.drop_zero, Ty.ld32, ld_ip, ofc1, List.drop_succ_cons, List.drop_zero, iu16]
      exact rfl, ?_⟩
  show P20_0 _ _
  exact ⟨(.iptr [.int .i64 n13.Kind, bu14_0, bu14_1, .bool n13.Meas, .int .i64 n13.Index, .int .i64 n13.Op, bu14_2, bu14_3] : AVal), by simp [hl], by simp [a0], r0_0, by simp [a1], by simp [hl]⟩
theorem R20_2 {rec20 : TestT → Int → Option Int} (hrec20 : Spec20 rec20) (pe : Nat → Fr20 → ASt → Prop) (pr : Fr20 → ASt → Prop) : Ref Cb P20_3 (Cat [true, false, true, false, false] (bodyOf Tryz.f20)) (m20_2 rec20) (post P20_1 pe pr) := by
  rintro s ⟨t, h⟩ hp x s' hm
  have hp : P20_3' s t h := hp
  obtain ⟨hl, _⟩ := hp
  unfold m20_2 at hm
  cases hm
  refine ⟨⟨_, _⟩, by
      simp only [bodyOf, Tryz.f20, Cat, Bool.false_eq_true, e_seq, e_region, e_cond, e_block, ex_skip, ex_exit, ex_ret, o_cons, xops_nil, k_want_none, k_want_false, k_val, k_pan, k_call, k_ret, k_seq, k_seq_exit, k_seq_ret, k_true, k_false, k_block, k_block_exit, k_block_ret, k_loop, k_loop_exit, k_loop_ret, awanted, aoper, evalO, put, Option.getD_some, List.getElem?_set, acallOp, abuiltin, List.map_cons, List.map_nil, Nat.reduceEqDiff, Nat.reduceLT, List.length_set, Option.map_some, Option.bind_some, Option.bind_eq_bind, add_i, sub_i, mul_i, eql_i, neq_i, lss_i, leq_i, gtr_i, geq_i, ofV, ofCell, ↓reduceIte, List.cons_append, List.nil_append, List.append_nil, List.getElem?_toArray, List.getElem?_cons_succ, List.getElem?_cons_zero, e_draw, g_nil, g_cons, g_want, g_skip, g_val, g_call, g_ret, Option.map_none, hl, CP, bq1, bq2, bq3, bq4, ex_tup]
      exact rfl, ?_⟩
  show P20_1 _ _
  exact ⟨by simp [hl], by simp [hl]⟩
theorem R20_3 {rec20 : TestT → Int → Option Int} (hrec20 : Spec20 rec20) (pe : Nat → Fr20 → ASt → Prop) (pr : Fr20 → ASt → Prop) : Ref Cb P20_2 (Cat [true, false, false] (bodyOf Tryz.f20)) (m20_3 rec20) (post P20_4 pe pr) := by
  rintro s ⟨t, h⟩ hp x s' hm
  have hp : P20_2' s t h := hp
  obtain ⟨w0_0, hl, a0, r0_0, a1⟩ := hp
  unfold m20_3 at hm
  cases hb17 : s.t0.isNil with
  | true =>
    all_goals (
      try simp only [hb17, cond_true, cond_false, Option.bind_some, Option.bind_assoc, Bool.not_true, Bool.not_false, Bool.true_and, Bool.false_and, Bool.and_true, Bool.and_false, Bool.true_or, Bool.false_or] at hm
      obtain ⟨_, qz18⟩ | ⟨qz18, _⟩ := rTestT_nil r0_0
      rotate_left
      · rw [hb17] at qz18; cases qz18
      have z18 : ∀ (xo : Operand) (h : AHeap), abin Cb .eql 32 xo (.const (.pointer none)) h (w0_0) .nilPtr = some (.bool true) := fun xo h => by rw [qz18]; exact Ty.eqn32 xo h
      cases hm
      refine ⟨⟨_, _⟩, by
          simp only [bodyOf, Tryz.f20, Cat, Bool.false_eq_true, e_seq, e_region, e_cond, e_block, ex_skip, ex_exit, ex_ret, o_cons, xops_nil, k_want_none, k_want_false, k_val, k_pan, k_call, k_ret, k_seq, k_seq_exit, k_seq_ret, k_true, k_false, k_block, k_block_exit, k_block_ret, k_loop, k_loop_exit, k_loop_ret, awanted, aoper, evalO, put, Option.getD_some, List.getElem?_set, acallOp, abuiltin, List.map_cons, List.map_nil, Nat.reduceEqDiff, Nat.reduceLT, List.length_set, Option.map_some, Option.bind_some, Option.bind_eq_bind, add_i, sub_i, mul_i, eql_i, neq_i, lss_i, leq_i, gtr_i, geq_i, ofV, ofCell, ↓reduceIte, List.cons_append, List.nil_append, List.append_nil, List.getElem?_toArray, List.getElem?_cons_succ, List.getElem?_cons_zero, e_draw, g_nil, g_cons, g_want, g_skip, g_val, g_call, g_ret, Option.map_none, hl, a0, a1, CP, bq1, bq2, bq3, bq4, ex_tup, z18, hb17]
          exact rfl, ?_⟩
      show P20_4 _ _
      exact ⟨w0_0, by simp [hl], by simp [a0], r0_0, by simp [a1], by simp [hl, hb17]⟩)
  | false =>
    all_goals (
      try simp only [hb17, cond_true, cond_false, Option.bind_some, Option.bind_assoc, Bool.not_true, Bool.not_false, Bool.true_and, Bool.false_and, Bool.and_true, Bool.and_false, Bool.true_or, Bool.false_or] at hm
      obtain ⟨qz19, _⟩ | ⟨_, csz19, qz19⟩ := rTestT_nil r0_0
      · rw [hb17] at qz19; cases qz19
      have z19 : ∀ (xo yo : Operand) (h : AHeap), abin Cb .eql 32 xo yo h (w0_0) .nilPtr = some (.bool false) := fun xo yo h => by rw [qz19]; exact Ty.eqp32 xo yo h _
      clear qz19
      cases hm
      refine ⟨⟨_, _⟩, by
          simp only [bodyOf, Tryz.f20, Cat, Bool.false_eq_true, e_seq, e_region, e_cond, e_block, ex_skip, ex_exit, ex_ret, o_cons, xops_nil, k_want_none, k_want_false, k_val, k_pan, k_call, k_ret, k_seq, k_seq_exit, k_seq_ret, k_true, k_false, k_block, k_block_exit, k_block_ret, k_loop, k_loop_exit, k_loop_ret, awanted, aoper, evalO, put, Option.getD_some, List.getElem?_set, acallOp, abuiltin, List.map_cons, List.map_nil, Nat.reduceEqDiff, Nat.reduceLT, List.length_set, Option.map_some, Option.bind_some, Option.bind_eq_bind, add_i, sub_i, mul_i, eql_i, neq_i, lss_i, leq_i, gtr_i, geq_i, ofV, ofCell, ↓reduceIte, List.cons_append, List.nil_append, List.append_nil, List.getElem?_toArray, List.getElem?_cons_succ, List.getElem?_cons_zero, e_draw, g_nil, g_cons, g_want, g_skip, g_val, g_call, g_ret, Option.map_none, hl, a0, a1, CP, bq1, bq2, bq3, bq4, ex_tup, z19, hb17]
          exact rfl, ?_⟩
      show P20_4 _ _
      exact ⟨w0_0, by simp [hl], by simp [a0], r0_0, by simp [a1], by simp [hl, hb17]⟩)
theorem R20_4 {rec20 : TestT → Int → Option Int} (hrec20 : Spec20 rec20) (pe : Nat → Fr20 → ASt → Prop) (pr : Fr20 → ASt → Prop) : Ref Cb P20_2 (Cat [false] (bodyOf Tryz.f20)) (m20_4 rec20) (post P20_2 pe pr) := by
  rintro s ⟨t, h⟩ hp x s' hm
  have hp : P20_2' s t h := hp
  obtain ⟨w0_0, hl, a0, r0_0, a1⟩ := hp
  unfold m20_4 at hm
  cases hm
  refine ⟨⟨_, _⟩, by
      simp only [bodyOf, Tryz.f20, Cat, Bool.false_eq_true, e_seq, e_region, e_cond, e_block, ex_skip, ex_exit, ex_ret, o_cons, xops_nil, k_want_none, k_want_false, k_val, k_pan, k_call, k_ret, k_seq, k_seq_exit, k_seq_ret, k_true, k_false, k_block, k_block_exit, k_block_ret, k_loop, k_loop_exit, k_loop_ret, awanted, aoper, evalO, put, Option.getD_some, List.getElem?_set, acallOp, abuiltin, List.map_cons, List.map_nil, Nat.reduceEqDiff, Nat.reduceLT, List.length_set, Option.map_some, Option.bind_some, Option.bind_eq_bind, add_i, sub_i, mul_i, eql_i, neq_i, lss_i, leq_i, gtr_i, geq_i, ofV, ofCell, ↓reduceIte, List.cons_append, List.nil_append, List.append_nil, List.getElem?_toArray, List.getElem?_cons_succ, List.getElem?_cons_zero, e_draw, g_nil, g_cons, g_want, g_skip, g_val, g_call, g_ret, Option.map_none, hl, a0, a1, CP, bq1, bq2, bq3, bq4, ex_tup]
      exact rfl, ?_⟩
  show P20_2 _ _
  exact ⟨w0_0, by simp [hl], by simp [a0], r0_0, by simp [a1]⟩
theorem B20 {rec20 : TestT → Int → Option Int} (hrec20 : Spec20 rec20) : Ref Cb P20_2 (bodyOf Tryz.f20) (M20 rec20) (post P20_1 (fun _ _ _ => False) P20_1) := by
  rw [show bodyOf Tryz.f20 = .seq (Cat [false] (bodyOf Tryz.f20)) (.seq (.seq (Cat [true, false, false] (bodyOf Tryz.f20)) (.cond (.tmp 11) (.seq (Cat [true, false, true, false, false] (bodyOf Tryz.f20)) (.ret)) (.skip))) (.seq (Cat [true, true, false] (bodyOf Tryz.f20)) (.seq (Cat [true, true, true, false] (bodyOf Tryz.f20)) (.ret)))) from rfl]
  unfold M20
  exact ref_seq (M := P20_2) (R20_4 hrec20 _ _) (ref_seq (M := P20_2) (ref_seq (M := P20_4) (R20_3 hrec20 _ _) (ref_cond (P := P20_4) (c := fun s => s.t11) (fun s st hp => by obtain ⟨w0_0, hl, a0, r0_0, a1, a11⟩ := (hp : P20_4' s st.tmps st.h); simp only [evalO, a11, Option.getD_some]) (ref_weak (P' := P20_3) (fun s st hp => by obtain ⟨w0_0, hl, a0, r0_0, a1, a11⟩ := (hp : P20_4' s st.tmps st.h); exact (⟨hl, trivial⟩ : P20_3' s st.tmps st.h)) (ref_seq (M := P20_1) (R20_2 hrec20 _ _) (ref_ret (fun s st hp => hp)))) (ref_weak (P' := P20_2) (fun s st hp => by obtain ⟨w0_0, hl, a0, r0_0, a1, a11⟩ := (hp : P20_4' s st.tmps st.h); exact (⟨w0_0, hl, a0, r0_0, a1⟩ : P20_2' s st.tmps st.h)) (ref_skip (fun s st hp => hp))))) (ref_seq (M := P20_0) (R20_1 hrec20 _ _) (ref_seq (M := P20_1) (R20_0 hrec20 _ _) (ref_ret (fun s st hp => hp)))))
noncomputable def G20 (rec20 : TestT → Int → Option Int) (x0 : TestT) (x1 : Int) : Option Int := match M20 rec20 { (default : Fr20) with t0 := x0, t1 := x1 } with
  | some (.nrm, s) => some s.t4
  | some (.ret, s) => some s.t4
  | _ => none
theorem G20_spec {rec20 : TestT → Int → Option Int} (hrec20 : Spec20 rec20) : Spec20 (G20 rec20) := by
  intro x0 x1 vx0_0 hvx0_0 r hr
  unfold G20 at hr
  cases hm : M20 rec20 { (default : Fr20) with t0 := x0, t1 := x1 } with
  | none => rw [hm] at hr; cases hr
  | some q =>
    obtain ⟨x, s⟩ := q
    rw [hm] at hr
    have hx : x = .nrm ∨ x = .ret := by cases x <;> first | exact .inl rfl | exact .inr rfl | cases hr
    have hr : s.t4 = r := by cases x <;> first | exact Option.some.inj hr | cases hr
    subst hr
    have hp0 : P20_2' ({ (default : Fr20) with t0 := x0, t1 := x1 }) (slots Tryz.f20 (stripL [vx0_0, .int .i64 x1])) bare := ⟨(strip vx0_0 : AVal), rfl, rfl, rTestT_p.str _ _ hvx0_0, rfl⟩
    obtain ⟨v, hR, hrun⟩ := run_of_ref (C := Cb) (f := 20) (fn := Tryz.f20) Tryz.func20 rfl rfl rfl rfl (args := [vx0_0, .int .i64 x1]) (by simp only [refsL, refs, List.append_nil, refs_one (rTestT_p.ref _ _ hvx0_0)]) (B20 hrec20) (s0 := { (default : Fr20) with t0 := x0, t1 := x1 }) hp0 hm hx (R := fun v => v = .int .i64 s.t4) (by
      have key : ∀ st : ASt, P20_1 s st → ∃ vs v, aresults Cb Tryz.f20.results.toList st = some vs ∧ Nrm [] st.h (packRes vs) v ∧ (fun v => v = .int .i64 s.t4) v := by
        intro st hp
        obtain ⟨hl, a4⟩ := (hp : P20_1' s st.tmps st.h)
        exact ⟨[.int .i64 s.t4], _, by simp only [show Tryz.f20.results.toList = [ResultVar.tmp 4] from rfl, aresults, ares1, CP, a4, Option.getD_some], (Nrm.of (w := .int .i64 s.t4) (by simp only [refsL, refs, List.append_nil])), rfl⟩
      intro st hq
      rcases hx with rfl | rfl
      · exact key st hq
      · exact key st hq)
    subst hR
    exact hrun
noncomputable def F20 : Nat → TestT → Int → Option Int
  | 0 => fun _ _ => none
  | n + 1 => G20 (F20 n)
theorem F20_spec : ∀ n, Spec20 (F20 n)
  | 0 => fun x0 x1 vx0_0 hvx0_0 r hr => by cases hr
  | n + 1 => G20_spec (F20_spec n)
theorem Spec20_fuel {f : TestT → Int → Option Int} (h : ∀ x0 x1 r, f x0 x1 = some r → ∃ n, F20 n x0 x1 = some r) : Spec20 f := fun x0 x1 vx0_0 hvx0_0 r hr => by
  obtain ⟨n, hn⟩ := h x0 x1 r hr
  exact F20_spec n x0 x1 vx0_0 hvx0_0 r hn
/-! ### caisson/bind.holds -/
structure Fr77 where
  t0 : TestT
  t1 : Fact
  t3 : Fact
  t4 : Bool
  t6 : Bool
  t10 : Int
  t11 : Bool
  t27 : Bool
  t43 : Bool
  t59 : Bool
  t65 : Bool
instance : Inhabited Fr77 := ⟨⟨default, default, default, false, false, 0, false, false, false, false, false⟩⟩
def P77_0' (s : Fr77) (t : List AVal) (h : AHeap) : Prop := t.length = 82 ∧ True
def P77_0 (s : Fr77) (st : ASt) : Prop := P77_0' s st.tmps st.h
def P77_1' (s : Fr77) (t : List AVal) (h : AHeap) : Prop := t.length = 82 ∧ t[4]? = some (.bool s.t4)
def P77_1 (s : Fr77) (st : ASt) : Prop := P77_1' s st.tmps st.h
def P77_2' (s : Fr77) (t : List AVal) (h : AHeap) : Prop := ∃ w0_0 i3 w3_0 w3_1, t.length = 82 ∧ t[0]? = some w0_0 ∧ rTestT s.t0 [w0_0] ∧ t[3]? = some (.ptr i3 0) ∧ h.get i3 = some (.arr [w3_0, w3_1]) ∧ i3 < h.next ∧ Sl rS s.t3.Dims w3_0 ∧ Sl (rI .i64) s.t3.Meas w3_1
def P77_2 (s : Fr77) (st : ASt) : Prop := P77_2' s st.tmps st.h
def P77_3' (s : Fr77) (t : List AVal) (h : AHeap) : Prop := ∃ w0_0 i3 w3_0 w3_1, t.length = 82 ∧ t[0]? = some w0_0 ∧ rTestT s.t0 [w0_0] ∧ t[3]? = some (.ptr i3 0) ∧ h.get i3 = some (.arr [w3_0, w3_1]) ∧ i3 < h.next ∧ Sl rS s.t3.Dims w3_0 ∧ Sl (rI .i64) s.t3.Meas w3_1 ∧ t[65]? = some (.bool s.t65)
def P77_3 (s : Fr77) (st : ASt) : Prop := P77_3' s st.tmps st.h
def P77_4' (s : Fr77) (t : List AVal) (h : AHeap) : Prop := ∃ w0_0 i3 w3_0 w3_1, t.length = 82 ∧ t[0]? = some w0_0 ∧ rTestT s.t0 [w0_0] ∧ t[3]? = some (.ptr i3 0) ∧ h.get i3 = some (.arr [w3_0, w3_1]) ∧ i3 < h.next ∧ Sl rS s.t3.Dims w3_0 ∧ Sl (rI .i64) s.t3.Meas w3_1 ∧ t[59]? = some (.bool s.t59)
def P77_4 (s : Fr77) (st : ASt) : Prop := P77_4' s st.tmps st.h
def P77_5' (s : Fr77) (t : List AVal) (h : AHeap) : Prop := ∃ w0_0 i3 w3_0 w3_1, t.length = 82 ∧ t[0]? = some w0_0 ∧ rTestT s.t0 [w0_0] ∧ t[3]? = some (.ptr i3 0) ∧ h.get i3 = some (.arr [w3_0, w3_1]) ∧ i3 < h.next ∧ Sl rS s.t3.Dims w3_0 ∧ Sl (rI .i64) s.t3.Meas w3_1 ∧ t[10]? = some (.int .i64 s.t10)
def P77_5 (s : Fr77) (st : ASt) : Prop := P77_5' s st.tmps st.h
def P77_6' (s : Fr77) (t : List AVal) (h : AHeap) : Prop := ∃ w0_0 i3 w3_0 w3_1, t.length = 82 ∧ t[0]? = some w0_0 ∧ rTestT s.t0 [w0_0] ∧ t[3]? = some (.ptr i3 0) ∧ h.get i3 = some (.arr [w3_0, w3_1]) ∧ i3 < h.next ∧ Sl rS s.t3.Dims w3_0 ∧ Sl (rI .i64) s.t3.Meas w3_1 ∧ t[10]? = some (.int .i64 s.t10) ∧ t[59]? = some (.bool s.t59)
def P77_6 (s : Fr77) (st : ASt) : Prop := P77_6' s st.tmps st.h
def P77_7' (s : Fr77) (t : List AVal) (h : AHeap) : Prop := ∃ w0_0 i3 w3_0 w3_1, t.length = 82 ∧ t[0]? = some w0_0 ∧ rTestT s.t0 [w0_0] ∧ t[3]? = some (.ptr i3 0) ∧ h.get i3 = some (.arr [w3_0, w3_1]) ∧ i3 < h.next ∧ Sl rS s.t3.Dims w3_0 ∧ Sl (rI .i64) s.t3.Meas w3_1 ∧ t[10]? = some (.int .i64 s.t10) ∧ t[43]? = some (.bool s.t43)
def P77_7 (s : Fr77) (st : ASt) : Prop := P77_7' s st.tmps st.h
def P77_8' (s : Fr77) (t : List AVal) (h : AHeap) : Prop := ∃ w0_0 i3 w3_0 w3_1, t.length = 82 ∧ t[0]? = some w0_0 ∧ rTestT s.t0 [w0_0] ∧ t[3]? = some (.ptr i3 0) ∧ h.get i3 = some (.arr [w3_0, w3_1]) ∧ i3 < h.next ∧ Sl rS s.t3.Dims w3_0 ∧ Sl (rI .i64) s.t3.Meas w3_1 ∧ t[10]? = some (.int .i64 s.t10) ∧ t[27]? = some (.bool s.t27)
def P77_8 (s : Fr77) (st : ASt) : Prop := P77_8' s st.tmps st.h
def P77_9' (s : Fr77) (t : List AVal) (h : AHeap) : Prop := ∃ w0_0 i3 w3_0 w3_1, t.length = 82 ∧ t[0]? = some w0_0 ∧ rTestT s.t0 [w0_0] ∧ t[3]? = some (.ptr i3 0) ∧ h.get i3 = some (.arr [w3_0, w3_1]) ∧ i3 < h.next ∧ Sl rS s.t3.Dims w3_0 ∧ Sl (rI .i64) s.t3.Meas w3_1 ∧ t[10]? = some (.int .i64 s.t10) ∧ t[11]? = some (.bool s.t11)
def P77_9 (s : Fr77) (st : ASt) : Prop := P77_9' s st.tmps st.h
def P77_10' (s : Fr77) (t : List AVal) (h : AHeap) : Prop := ∃ w0_0 i3 w3_0 w3_1, t.length = 82 ∧ t[0]? = some w0_0 ∧ rTestT s.t0 [w0_0] ∧ t[3]? = some (.ptr i3 0) ∧ h.get i3 = some (.arr [w3_0, w3_1]) ∧ i3 < h.next ∧ Sl rS s.t3.Dims w3_0 ∧ Sl (rI .i64) s.t3.Meas w3_1 ∧ t[6]? = some (.bool s.t6)
def P77_10 (s : Fr77) (st : ASt) : Prop := P77_10' s st.tmps st.h
def P77_11' (s : Fr77) (t : List AVal) (h : AHeap) : Prop := ∃ w0_0 w1_0 w1_1, t.length = 82 ∧ t[0]? = some w0_0 ∧ rTestT s.t0 [w0_0] ∧ t[1]? = some (.agg [w1_0, w1_1]) ∧ Sl rS s.t1.Dims w1_0 ∧ Sl (rI .i64) s.t1.Meas w1_1
def P77_11 (s : Fr77) (st : ASt) : Prop := P77_11' s st.tmps st.h
noncomputable def m77_0 (rec77 : TestT → Fact → Option Bool) : Mo Fr77 := fun s => some (.nrm, { s with t4 := false })
noncomputable def m77_1 (rec77 : TestT → Fact → Option Bool) : Mo Fr77 := fun s => (s.t0.get).bind fun n1 => (rec77 n1.Left s.t3).bind fun z4 => (cond z4 ((rec77 n1.Right s.t3).bind fun z7 => some z7) (some false)).bind fun x9 => some (.nrm, { s with t4 := (z4 && x9) })
noncomputable def m77_2 (rec77 : TestT → Fact → Option Bool) : Mo Fr77 := fun s => (s.t0.get).bind fun n19 => (rec77 n19.Left s.t3).bind fun z22 => (cond (!z22) ((rec77 n19.Right s.t3).bind fun z25 => some z25) (some false)).bind fun x27 => some (.nrm, { s with t4 := (z22 || x27) })
noncomputable def m77_3 (rec77 : TestT → Fact → Option Bool) : Mo Fr77 := fun s => (s.t0.get).bind fun n37 => (cond (!n37.Left.isNil) ((rec77 n37.Left s.t3).bind fun z40 => some (!z40)) (some false)).bind fun x42 => some (.nrm, { s with t4 := ((!n37.Left.isNil) && x42) })
noncomputable def m77_4 (rec77 : TestT → Fact → Option Bool) : Mo Fr77 := fun s => (s.t0.get).bind fun n52 => (G150 s.t0 s.t3.Dims n52.Texts).bind fun z54 => some (.nrm, { s with t4 := z54 })
noncomputable def m77_5 (rec77 : TestT → Fact → Option Bool) : Mo Fr77 := fun s => (s.t0.get).bind fun n62 => (G149 s.t0 s.t3.Meas n62.Ints).bind fun z64 => some (.nrm, { s with t4 := z64 })
noncomputable def m77_6 (rec77 : TestT → Fact → Option Bool) : Mo Fr77 := fun s => (s.t0.get).bind fun n71 => some (.nrm, { s with t65 := n71.Meas })
noncomputable def m77_7 (rec77 : TestT → Fact → Option Bool) : Mo Fr77 := fun s => some (.nrm, { s with t59 := (s.t10 == 5) })
noncomputable def m77_8 (rec77 : TestT → Fact → Option Bool) : Mo Fr77 := fun s => some (.nrm, { s with t59 := (s.t10 == 4) })
noncomputable def m77_9 (rec77 : TestT → Fact → Option Bool) : Mo Fr77 := fun s => some (.nrm, { s with t43 := (s.t10 == 3) })
noncomputable def m77_10 (rec77 : TestT → Fact → Option Bool) : Mo Fr77 := fun s => some (.nrm, { s with t27 := (s.t10 == 2) })
noncomputable def m77_11 (rec77 : TestT → Fact → Option Bool) : Mo Fr77 := fun s => some (.nrm, { s with t11 := (s.t10 == 1) })
noncomputable def m77_12 (rec77 : TestT → Fact → Option Bool) : Mo Fr77 := fun s => (s.t0.get).bind fun n75 => some (.nrm, { s with t10 := n75.Kind })
noncomputable def m77_13 (rec77 : TestT → Fact → Option Bool) : Mo Fr77 := fun s => some (.nrm, { s with t4 := false })
noncomputable def m77_14 (rec77 : TestT → Fact → Option Bool) : Mo Fr77 := fun s => some (.nrm, { s with t6 := s.t0.isNil })
noncomputable def m77_15 (rec77 : TestT → Fact → Option Bool) : Mo Fr77 := fun s => some (.nrm, { s with t3 := s.t1 })
noncomputable def M77 (rec77 : TestT → Fact → Option Bool) : Mo Fr77 := seqM (m77_15 rec77) (seqM (seqM (m77_14 rec77) (condM (fun s => s.t6) (seqM (m77_13 rec77) (retM)) (skipM))) (seqM (seqM (m77_12 rec77) (blockM 0 (seqM (m77_11 rec77) (condM (fun s => s.t11) (seqM (m77_1 rec77) (retM)) (seqM (m77_10 rec77) (condM (fun s => s.t27) (seqM (m77_2 rec77) (retM)) (seqM (m77_9 rec77) (condM (fun s => s.t43) (seqM (m77_3 rec77) (retM)) (seqM (seqM (m77_8 rec77) (condM (fun s => s.t59) (skipM) (m77_7 rec77))) (condM (fun s => s.t59) (seqM (seqM (m77_6 rec77) (condM (fun s => s.t65) (seqM (m77_5 rec77) (retM)) (skipM))) (seqM (m77_4 rec77) (retM))) (skipM))))))))))) (seqM (m77_0 rec77) (retM))))
def Spec77 (f : TestT → Fact → Option Bool) : Prop := ∀ (x0 : TestT) (x1 : Fact) (vx0_0 : AVal) (_ : rTestT x0 [vx0_0]) (vx1_0 : AVal) (_ : Sl rS x1.Dims vx1_0) (vx1_1 : AVal) (_ : Sl (rI .i64) x1.Meas vx1_1) (r : Bool), f x0 x1 = some r → ∀ h, run Cb 77 [vx0_0, .agg [vx1_0, vx1_1]] h = some (.ret (.bool r), h)
theorem Spec77_of {f g : TestT → Fact → Option Bool} (hg : Spec77 g) (h : ∀ x0 x1 r, f x0 x1 = some r → g x0 x1 = some r) : Spec77 f := fun x0 x1 v0_ w0_ v1_ w1_ v2_ w2_ r hr => hg x0 x1 v0_ w0_ v1_ w1_ v2_ w2_ r (h x0 x1 r hr)
theorem R77_0 {rec77 : TestT → Fact → Option Bool} (hrec77 : Spec77 rec77) (pe : Nat → Fr77 → ASt → Prop) (pr : Fr77 → ASt → Prop) : Ref Cb P77_0 (Cat [true, true, true, false] (bodyOf Tryz.f77)) (m77_0 rec77) (post P77_1 pe pr) := by
  rintro s ⟨t, h⟩ hp x s' hm
  have hp : P77_0' s t h := hp
  obtain ⟨hl, _⟩ := hp
  unfold m77_0 at hm
  cases hm
  refine ⟨⟨_, _⟩, by
      simp only [bodyOf, Tryz.f77, Cat, Bool.false_eq_true, e_seq, e_region, e_cond, e_block, ex_skip, ex_exit, ex_ret, o_cons, xops_nil, k_want_none, k_want_false, k_val, k_pan, k_call, k_ret, k_seq, k_seq_exit, k_seq_ret, k_true, k_false, k_block, k_block_exit, k_block_ret, k_loop, k_loop_exit, k_loop_ret, awanted, aoper, evalO, put, Option.getD_some, List.getElem?_set, acallOp, abuiltin, List.map_cons, List.map_nil, Nat.reduceEqDiff, Nat.reduceLT, List.length_set, Option.map_some, Option.bind_some, Option.bind_eq_bind, add_i, sub_i, mul_i, eql_i, neq_i, lss_i, leq_i, gtr_i, geq_i, ofV, ofCell, ↓reduceIte, List.cons_append, List.nil_append, List.append_nil, List.getElem?_toArray, List.getElem?_cons_succ, List.getElem?_cons_zero, e_draw, g_nil, g_cons, g_want, g_skip, g_val, g_call, g_ret, Option.map_none, hl, CP, bq1, bq2, bq3, bq4, ex_tup]
      exact rfl, ?_⟩
  show P77_1 _ _
  exact ⟨by simp [hl], by simp [hl]⟩
theorem R77_1 {rec77 : TestT → Fact → Option Bool} (hrec77 : Spec77 rec77) (pe : Nat → Fr77 → ASt → Prop) (pr : Fr77 → ASt → Prop) : Ref Cb P77_2 (Cat [true, true, false, true, true, true, false, false] (bodyOf Tryz.f77)) (m77_1 rec77) (post P77_1 pe pr) := by
  rintro s ⟨t, h⟩ hp x s' hm
  have hp : P77_2' s t h := hp
  obtain ⟨w0_0, i3, w3_0, w3_1, hl, a0, r0_0, a3, g3, l3, r3_0, r3_1⟩ := hp
  unfold m77_1 at hm
  obtain ⟨n10, hn10, hm⟩ := Option.bind_eq_some_iff.1 hm
  obtain ⟨bu11_0, bu11_1, bu11_2, bu11_3, qu11, gu11_0, gu11_1, gu11_2, gu11_3⟩ := rTestT_get r0_0 hn10
  subst qu11
  have k12 : loadA h true 2 (.ptr i3 0) = some (.agg [w3_0, w3_1]) := by rw [Heap.load_gen g3 (Nat.le_of_ble_eq_true rfl)]; first | rfl | exact ofc2 _ _ _
  obtain ⟨z13, hz13, hm⟩ := Option.bind_eq_some_iff.1 hm
  have iu14 := hrec77 n10.Left s.t3 _ gu11_0 _ r3_0 _ r3_1 _ hz13
  have apu14 : apure Cb 77 [bu11_0, .agg [w3_0, w3_1]] = true := apure_of rfl rfl (refs_cons (refs_one (rTestT_p.ref _ _ gu11_0)) (refs_cons (by simp only [refsL, refs, List.append_nil, List.nil_append, r3_0.refs rS_p, r3_1.refs (rI_p .i64)]) rfl))
  cases hb15 : z13 with
  | true =>
    all_goals (
      try simp only [hb15, cond_true, cond_false, Option.bind_some, Option.bind_assoc, Bool.not_true, Bool.not_false, Bool.true_and, Bool.false_and, Bool.and_true, Bool.and_false, Bool.true_or, Bool.false_or] at hm
      have k16 : loadA h true 2 (.ptr i3 0) = some (.agg [w3_0, w3_1]) := by rw [Heap.load_gen g3 (Nat.le_of_ble_eq_true rfl)]; first | rfl | exact ofc2 _ _ _
      obtain ⟨z17, hz17, hm⟩ := Option.bind_eq_some_iff.1 hm
      have iu18 := hrec77 n10.Right s.t3 _ gu11_1 _ r3_0 _ r3_1 _ hz17
      have apu18 : apure Cb 77 [bu11_1, .agg [w3_0, w3_1]] = true := apure_of rfl rfl (refs_cons (refs_one (rTestT_p.ref _ _ gu11_1)) (refs_cons (by simp only [refsL, refs, List.append_nil, List.nil_append, r3_0.refs rS_p, r3_1.refs (rI_p .i64)]) rfl))
      try simp only [cond_true, cond_false, Option.bind_some, Option.bind_assoc, Bool.not_true, Bool.not_false, Bool.true_and, Bool.false_and, Bool.and_true, Bool.and_false, Bool.true_or, Bool.false_or] at hm
      cases hm
      refine ⟨⟨_, _⟩, by
          simp only [bodyOf, Tryz.f77, Cat, Bool.false_eq_true, e_seq, e_region, e_cond, e_block, ex_skip, ex_exit, ex_ret, o_cons, xops_nil, k_want_none, k_want_false, k_val, k_pan, k_call, k_ret, k_seq, k_seq_exit, k_seq_ret, k_true, k_false, k_block, k_block_exit, k_block_ret, k_loop, k_loop_exit, k_loop_ret, awanted, aoper, evalO, put, Option.getD_some, List.getElem?_set, acallOp, abuiltin, List.map_cons, List.map_nil, Nat.reduceEqDiff, Nat.reduceLT, List.length_set, Option.map_some, Option.bind_some, Option.bind_eq_bind, add_i, sub_i, mul_i, eql_i, neq_i, lss_i, leq_i, gtr_i, geq_i, ofV, ofCell, ↓reduceIte, List.cons_append, List.nil_append, List.append_nil, List.getElem?_toArray, List.getElem?_cons_succ, List.getElem?_cons_zero, e_draw, g_nil, g_cons, g_want, g_skip, g_val, g_call, g_ret, Option.map_none, hl, a0, a3, CP, bq1, bq2, bq3, bq4, ex_tup, Ty.fa57_1, dropCells, List.drop_succ_cons, List.drop_zero, Ty.ld32, ld_ip, ofc1, List.drop_succ_cons, List.drop_zero, k12, Ty.ld53, iu14, apu14, if_true, Ty.fa57_2, k16, iu18, apu18, hb15]
          rw [k_draw _ _ _ (by kernel_rfl)]
          exact rfl, ?_⟩
      show P77_1 _ _
      exact ⟨by simp [hl], by simp [hl, hb15]⟩)
  | false =>
    all_goals (
      try simp only [hb15, cond_true, cond_false, Option.bind_some, Option.bind_assoc, Bool.not_true, Bool.not_false, Bool.true_and, Bool.false_and, Bool.and_true, Bool.and_false, Bool.true_or, Bool.false_or] at hm
      cases hm
      refine ⟨⟨_, _⟩, by
          simp only [bodyOf, Tryz.f77, Cat, Bool.false_eq_true, e_seq, e_region, e_cond, e_block, ex_skip, ex_exit, ex_ret, o_cons, xops_nil, k_want_none, k_want_false, k_val, k_pan, k_call, k_ret, k_seq, k_seq_exit, k_seq_ret, k_true, k_false, k_block, k_block_exit, k_block_ret, k_loop, k_loop_exit, k_loop_ret, awanted, aoper, evalO, put, Option.getD_some, List.getElem?_set, acallOp, abuiltin, List.map_cons, List.map_nil, Nat.reduceEqDiff, Nat.reduceLT, List.length_set, Option.map_some, Option.bind_some, Option.bind_eq_bind, add_i, sub_i, mul_i, eql_i, neq_i, lss_i, leq_i, gtr_i, geq_i, ofV, ofCell, ↓reduceIte, List.cons_append, List.nil_append, List.append_nil, List.getElem?_toArray, List.getElem?_cons_succ, List.getElem?_cons_zero, e_draw, g_nil, g_cons, g_want, g_skip, g_val, g_call, g_ret, Option.map_none, hl, a0, a3, CP, bq1, bq2, bq3, bq4, ex_tup, Ty.fa57_1, dropCells, List.drop_succ_cons, List.drop_zero, Ty.ld32, ld_ip, ofc1, List.drop_succ_cons, List.drop_zero, k12, Ty.ld53, iu14, apu14, if_true, hb15]
          rw [k_draw _ _ _ (by kernel_rfl)]
          exact rfl, ?_⟩
      show P77_1 _ _
      exact ⟨by simp [hl], by simp [hl, hb15]⟩)
theorem R77_2 {rec77 : TestT → Fact → Option Bool} (hrec77 : Spec77 rec77) (pe : Nat → Fr77 → ASt → Prop) (pr : Fr77 → ASt → Prop) : Ref Cb P77_2 (Cat [true, true, false, true, true, true, true, true, false, false] (bodyOf Tryz.f77)) (m77_2 rec77) (post P77_1 pe pr) := by
  rintro s ⟨t, h⟩ hp x s' hm
  have hp : P77_2' s t h := hp
  obtain ⟨w0_0, i3, w3_0, w3_1, hl, a0, r0_0, a3, g3, l3, r3_0, r3_1⟩ := hp
  unfold m77_2 at hm
  obtain ⟨n28, hn28, hm⟩ := Option.bind_eq_some_iff.1 hm
  obtain ⟨bu29_0, bu29_1, bu29_2, bu29_3, qu29, gu29_0, gu29_1, gu29_2, gu29_3⟩ := rTestT_get r0_0 hn28
  subst qu29
  have k30 : loadA h true 2 (.ptr i3 0) = some (.agg [w3_0, w3_1]) := by rw [Heap.load_gen g3 (Nat.le_of_ble_eq_true rfl)]; first | rfl | exact ofc2 _ _ _
  obtain ⟨z31, hz31, hm⟩ := Option.bind_eq_some_iff.1 hm
  have iu32 := hrec77 n28.Left s.t3 _ gu29_0 _ r3_0 _ r3_1 _ hz31
  have apu32 : apure Cb 77 [bu29_0, .agg [w3_0, w3_1]] = true := apure_of rfl rfl (refs_cons (refs_one (rTestT_p.ref _ _ gu29_0)) (refs_cons (by simp only [refsL, refs, List.append_nil, List.nil_append, r3_0.refs rS_p, r3_1.refs (rI_p .i64)]) rfl))
  cases hb33 : z31 with
  | true =>
    all_goals (
      try simp only [hb33, cond_true, cond_false, Option.bind_some, Option.bind_assoc, Bool.not_true, Bool.not_false, Bool.true_and, Bool.false_and, Bool.and_true, Bool.and_false, Bool.true_or, Bool.false_or] at hm
      cases hm
      refine ⟨⟨_, _⟩, by
          simp only [bodyOf, Tryz.f77, Cat, Bool.false_eq_true, e_seq, e_region, e_cond, e_block, ex_skip, ex_exit, ex_ret, o_cons, xops_nil, k_want_none, k_want_false, k_val, k_pan, k_call, k_ret, k_seq, k_seq_exit, k_seq_ret, k_true, k_false, k_block, k_block_exit, k_block_ret, k_loop, k_loop_exit, k_loop_ret, awanted, aoper, evalO, put, Option.getD_some, List.getElem?_set, acallOp, abuiltin, List.map_cons, List.map_nil, Nat.reduceEqDiff, Nat.reduceLT, List.length_set, Option.map_some, Option.bind_some, Option.bind_eq_bind, add_i, sub_i, mul_i, eql_i, neq_i, lss_i, leq_i, gtr_i, geq_i, ofV, ofCell, ↓reduceIte, List.cons_append, List.nil_append, List.append_nil, List.getElem?_toArray, List.getElem?_cons_succ, List.getElem?_cons_zero, e_draw, g_nil, g_cons, g_want, g_skip, g_val, g_call, g_ret, Option.map_none, hl, a0, a3, CP, bq1, bq2, bq3, bq4, ex_tup, Ty.fa57_1, dropCells, List.drop_succ_cons, List.drop_zero, Ty.ld32, ld_ip, ofc1, List.drop_succ_cons, List.drop_zero, k30, Ty.ld53, iu32, apu32, if_true, hb33]
          rw [k_draw _ _ _ (by kernel_rfl)]
          exact rfl, ?_⟩
      show P77_1 _ _
      exact ⟨by simp [hl], by simp [hl, hb33]⟩)
  | false =>
    all_goals (
      try simp only [hb33, cond_true, cond_false, Option.bind_some, Option.bind_assoc, Bool.not_true, Bool.not_false, Bool.true_and, Bool.false_and, Bool.and_true, Bool.and_false, Bool.true_or, Bool.false_or] at hm
      have k34 : loadA h true 2 (.ptr i3 0) = some (.agg [w3_0, w3_1]) := by rw [Heap.load_gen g3 (Nat.le_of_ble_eq_true rfl)]; first | rfl | exact ofc2 _ _ _
      obtain ⟨z35, hz35, hm⟩ := Option.bind_eq_some_iff.1 hm
      have iu36 := hrec77 n28.Right s.t3 _ gu29_1 _ r3_0 _ r3_1 _ hz35
      have apu36 : apure Cb 77 [bu29_1, .agg [w3_0, w3_1]] = true := apure_of rfl rfl (refs_cons (refs_one (rTestT_p.ref _ _ gu29_1)) (refs_cons (by simp only [refsL, refs, List.append_nil, List.nil_append, r3_0.refs rS_p, r3_1.refs (rI_p .i64)]) rfl))
      try simp only [cond_true, cond_false, Option.bind_some, Option.bind_assoc, Bool.not_true, Bool.not_false, Bool.true_and, Bool.false_and, Bool.and_true, Bool.and_false, Bool.true_or, Bool.false_or] at hm
      cases hm
      refine ⟨⟨_, _⟩, by
          simp only [bodyOf, Tryz.f77, Cat, Bool.false_eq_true, e_seq, e_region, e_cond, e_block, ex_skip, ex_exit, ex_ret, o_cons, xops_nil, k_want_none, k_want_false, k_val, k_pan, k_call, k_ret, k_seq, k_seq_exit, k_seq_ret, k_true, k_false, k_block, k_block_exit, k_block_ret, k_loop, k_loop_exit, k_loop_ret, awanted, aoper, evalO, put, Option.getD_some, List.getElem?_set, acallOp, abuiltin, List.map_cons, List.map_nil, Nat.reduceEqDiff, Nat.reduceLT, List.length_set, Option.map_some, Option.bind_some, Option.bind_eq_bind, add_i, sub_i, mul_i, eql_i, neq_i, lss_i, leq_i, gtr_i, geq_i, ofV, ofCell, ↓reduceIte, List.cons_append, List.nil_append, List.append_nil, List.getElem?_toArray, List.getElem?_cons_succ, List.getElem?_cons_zero, e_draw, g_nil, g_cons, g_want, g_skip, g_val, g_call, g_ret, Option.map_none, hl, a0, a3, CP, bq1, bq2, bq3, bq4, ex_tup, Ty.fa57_1, dropCells, List.drop_succ_cons, List.drop_zero, Ty.ld32, ld_ip, ofc1, List.drop_succ_cons, List.drop_zero, k30, Ty.ld53, iu32, apu32, if_true, Ty.fa57_2, k34, iu36, apu36, hb33]
          rw [k_draw _ _ _ (by kernel_rfl)]
          exact rfl, ?_⟩
      show P77_1 _ _
      exact ⟨by simp [hl], by simp [hl, hb33]⟩)
theorem R77_3 {rec77 : TestT → Fact → Option Bool} (hrec77 : Spec77 rec77) (pe : Nat → Fr77 → ASt → Prop) (pr : Fr77 → ASt → Prop) : Ref Cb P77_2 (Cat [true, true, false, true, true, true, true, true, true, true, false, false] (bodyOf Tryz.f77)) (m77_3 rec77) (post P77_1 pe pr) := by
  rintro s ⟨t, h⟩ hp x s' hm
  have hp : P77_2' s t h := hp
  obtain ⟨w0_0, i3, w3_0, w3_1, hl, a0, r0_0, a3, g3, l3, r3_0, r3_1⟩ := hp
  unfold m77_3 at hm
  obtain ⟨n43, hn43, hm⟩ := Option.bind_eq_some_iff.1 hm
  obtain ⟨bu44_0, bu44_1, bu44_2, bu44_3, qu44, gu44_0, gu44_1, gu44_2, gu44_3⟩ := rTestT_get r0_0 hn43
  subst qu44
  cases hb45 : n43.Left.isNil with
  | true =>
    all_goals (
      try simp only [hb45, cond_true, cond_false, Option.bind_some, Option.bind_assoc, Bool.not_true, Bool.not_false, Bool.true_and, Bool.false_and, Bool.and_true, Bool.and_false, Bool.true_or, Bool.false_or] at hm
      obtain ⟨_, qz46⟩ | ⟨qz46, _⟩ := rTestT_nil gu44_0
      rotate_left
      · rw [hb45] at qz46; cases qz46
      have z46 : ∀ (xo : Operand) (h : AHeap), abin Cb .neq 32 xo (.const (.pointer none)) h (bu44_0) .nilPtr = some (.bool false) := fun xo h => by rw [qz46]; exact Ty.nen32 xo h
      cases hm
      refine ⟨⟨_, _⟩, by
          simp only [bodyOf, Tryz.f77, Cat, Bool.false_eq_true, e_seq, e_region, e_cond, e_block, ex_skip, ex_exit, ex_ret, o_cons, xops_nil, k_want_none, k_want_false, k_val, k_pan, k_call, k_ret, k_seq, k_seq_exit, k_seq_ret, k_true, k_false, k_block, k_block_exit, k_block_ret, k_loop, k_loop_exit, k_loop_ret, awanted, aoper, evalO, put, Option.getD_some, List.getElem?_set, acallOp, abuiltin, List.map_cons, List.map_nil, Nat.reduceEqDiff, Nat.reduceLT, List.length_set, Option.map_some, Option.bind_some, Option.bind_eq_bind, add_i, sub_i, mul_i, eql_i, neq_i, lss_i, leq_i, gtr_i, geq_i, ofV, ofCell, ↓reduceIte, List.cons_append, List.nil_append, List.append_nil, List.getElem?_toArray, List.getElem?_cons_succ, List.getElem?_cons_zero, e_draw, g_nil, g_cons, g_want, g_skip, g_val, g_call, g_ret, Option.map_none, hl, a0, a3, CP, bq1, bq2, bq3, bq4, ex_tup, Ty.fa57_1, dropCells, List.drop_succ_cons, List.drop_zero, Ty.ld32, ld_ip, ofc1, List.drop_succ_cons, List.drop_zero, z46, hb45]
          rw [k_draw _ _ _ (by kernel_rfl)]
          exact rfl, ?_⟩
      show P77_1 _ _
      exact ⟨by simp [hl], by simp [hl, hb45]⟩)
  | false =>
    all_goals (
      try simp only [hb45, cond_true, cond_false, Option.bind_some, Option.bind_assoc, Bool.not_true, Bool.not_false, Bool.true_and, Bool.false_and, Bool.and_true, Bool.and_false, Bool.true_or, Bool.false_or] at hm
      obtain ⟨qz47, _⟩ | ⟨_, csz47, qz47⟩ := rTestT_nil gu44_0
      · rw [hb45] at qz47; cases qz47
      have z47 : ∀ (xo yo : Operand) (h : AHeap), abin Cb .neq 32 xo yo h (bu44_0) .nilPtr = some (.bool true) := fun xo yo h => by rw [qz47]; exact Ty.nep32 xo yo h _
      clear qz47
      have k48 : loadA h true 2 (.ptr i3 0) = some (.agg [w3_0, w3_1]) := by rw [Heap.load_gen g3 (Nat.le_of_ble_eq_true rfl)]; first | rfl | exact ofc2 _ _ _
      obtain ⟨z49, hz49, hm⟩ := Option.bind_eq_some_iff.1 hm
      have iu50 := hrec77 n43.Left s.t3 _ gu44_0 _ r3_0 _ r3_1 _ hz49
      have apu50 : apure Cb 77 [bu44_0, .agg [w3_0, w3_1]] = true := apure_of rfl rfl (refs_cons (refs_one (rTestT_p.ref _ _ gu44_0)) (refs_cons (by simp only [refsL, refs, List.append_nil, List.nil_append, r3_0.refs rS_p, r3_1.refs (rI_p .i64)]) rfl))
      try simp only [cond_true, cond_false, Option.bind_some, Option.bind_assoc, Bool.not_true, Bool.not_false, Bool.true_and, Bool.false_and, Bool.and_true, Bool.and_false, Bool.true_or, Bool.false_or] at hm
      cases hm
      refine ⟨⟨_, _⟩, by
          simp only [bodyOf, Tryz.f77, Cat, Bool.false_eq_true, e_seq, e_region, e_cond, e_block, ex_skip, ex_exit, ex_ret, o_cons, xops_nil, k_want_none, k_want_false, k_val, k_pan, k_call, k_ret, k_seq, k_seq_exit, k_seq_ret, k_true, k_false, k_block, k_block_exit, k_block_ret, k_loop, k_loop_exit, k_loop_ret, awanted, aoper, evalO, put, Option.getD_some, List.getElem?_set, acallOp, abuiltin, List.map_cons, List.map_nil, Nat.reduceEqDiff, Nat.reduceLT, List.length_set, Option.map_some, Option.bind_some, Option.bind_eq_bind, add_i, sub_i, mul_i, eql_i, neq_i, lss_i, leq_i, gtr_i, geq_i, ofV, ofCell, ↓reduceIte, List.cons_append, List.nil_append, List.append_nil, List.getElem?_toArray, List.getElem?_cons_succ, List.getElem?_cons_zero, e_draw, g_nil, g_cons, g_want, g_skip, g_val, g_call, g_ret, Option.map_none, hl, a0, a3, CP, bq1, bq2, bq3, bq4, ex_tup, Ty.fa57_1, dropCells, List.drop_succ_cons, List.drop_zero, Ty.ld32, ld_ip, ofc1, List.drop_succ_cons, List.drop_zero, z47, k48, Ty.ld53, iu50, apu50, if_true, aun_not, hb45]
          rw [k_draw _ _ _ (by kernel_rfl)]
          exact rfl, ?_⟩
      show P77_1 _ _
      exact ⟨by simp [hl], by simp [hl, hb45]⟩)
theorem R77_4 {rec77 : TestT → Fact → Option Bool} (hrec77 : Spec77 rec77) (pe : Nat → Fr77 → ASt → Prop) (pr : Fr77 → ASt → Prop) : Ref Cb P77_2 (Cat [true, true, false, true, true, true, true, true, true, true, true, true, false, true, false] (bodyOf Tryz.f77)) (m77_4 rec77) (post P77_1 pe pr) := by
  rintro s ⟨t, h⟩ hp x s' hm
  have hp : P77_2' s t h := hp
  obtain ⟨w0_0, i3, w3_0, w3_1, hl, a0, r0_0, a3, g3, l3, r3_0, r3_1⟩ := hp
  unfold m77_4 at hm
  have k56 : loadA h false 1 (.ptr i3 0) = some w3_0 := by rw [Heap.load_gen g3 (Nat.le_of_ble_eq_true rfl)]; first | rfl | exact ofc1 _ _ _
  obtain ⟨n57, hn57, hm⟩ := Option.bind_eq_some_iff.1 hm
  obtain ⟨bu58_0, bu58_1, bu58_2, bu58_3, qu58, gu58_0, gu58_1, gu58_2, gu58_3⟩ := rTestT_get r0_0 hn57
  subst qu58
  obtain ⟨z59, hz59, hm⟩ := Option.bind_eq_some_iff.1 hm
  have iu60 := G150_spec s.t0 s.t3.Dims n57.Texts _ r0_0 _ r3_0 _ gu58_2 _ hz59
  have apu60 : apure Cb 150 [.iptr [.int .i64 n57.Kind, bu58_0, bu58_1, .bool n57.Meas, .int .i64 n57.Index, .int .i64 n57.Op, bu58_2, bu58_3], w3_0, bu58_2] = true := apure_of rfl rfl (refs_cons (refs_one (rTestT_p.ref _ _ r0_0)) (refs_cons (r3_0.refs rS_p) (refs_cons (gu58_2.refs rS_p) rfl)))
  cases hm
  refine ⟨⟨_, _⟩, by
      simp only [bodyOf, Tryz.f77, Cat, Bool.false_eq_true, e_seq, e_region, e_cond, e_block, ex_skip, ex_exit, ex_ret, o_cons, xops_nil, k_want_none, k_want_false, k_val, k_pan, k_call, k_ret, k_seq, k_seq_exit, k_seq_ret, k_true, k_false, k_block, k_block_exit, k_block_ret, k_loop, k_loop_exit, k_loop_ret, awanted, aoper, evalO, put, Option.getD_some, List.getElem?_set, acallOp, abuiltin, List.map_cons, List.map_nil, Nat.reduceEqDiff, Nat.reduceLT, List.length_set, Option.map_some, Option.bind_some, Option.bind_eq_bind, add_i, sub_i, mul_i, eql_i, neq_i, lss_i, leq_i, gtr_i, geq_i, ofV, ofCell, ↓reduceIte, List.cons_append, List.nil_append, List.append_nil, List.getElem?_toArray, List.getElem?_cons_succ, List.getElem?_cons_zero, e_draw, g_nil, g_cons, g_want, g_skip, g_val, g_call, g_ret, Option.map_none, hl, a0, a3, CP, bq1, bq2, bq3, bq4, ex_tup, Ty.fa53_0, dropCells, Nat.zero_add, Nat.reduceAdd, k56, Ty.ld22, Ty.fa57_6, List.drop_succ_cons, List.drop_zero, ld_ip, ofc1, List.drop_succ_cons, List.drop_zero, iu60, apu60, if_true]
      rw [k_draw _ _ _ (by kernel_rfl)]
      exact rfl, ?_⟩
  show P77_1 _ _
  exact ⟨by simp [hl], by simp [hl]⟩
theorem R77_5 {rec77 : TestT → Fact → Option Bool} (hrec77 : Spec77 rec77) (pe : Nat → Fr77 → ASt → Prop) (pr : Fr77 → ASt → Prop) : Ref Cb P77_2 (Cat [true, true, false, true, true, true, true, true, true, true, true, true, false, false, true, false, false] (bodyOf Tryz.f77)) (m77_5 rec77) (post P77_1 pe pr) := by
  rintro s ⟨t, h⟩ hp x s' hm
  have hp : P77_2' s t h := hp
  obtain ⟨w0_0, i3, w3_0, w3_1, hl, a0, r0_0, a3, g3, l3, r3_0, r3_1⟩ := hp
  unfold m77_5 at hm
  have k66 : loadA h false 1 (.ptr i3 1) = some w3_1 := by rw [Heap.load_gen g3 (Nat.le_of_ble_eq_true rfl)]; first | rfl | exact ofc1 _ _ _
  obtain ⟨n67, hn67, hm⟩ := Option.bind_eq_some_iff.1 hm
  obtain ⟨bu68_0, bu68_1, bu68_2, bu68_3, qu68, gu68_0, gu68_1, gu68_2, gu68_3⟩ := rTestT_get r0_0 hn67
  subst qu68
  obtain ⟨z69, hz69, hm⟩ := Option.bind_eq_some_iff.1 hm
  have iu70 := G149_spec s.t0 s.t3.Meas n67.Ints _ r0_0 _ r3_1 _ gu68_3 _ hz69
  have apu70 : apure Cb 149 [.iptr [.int .i64 n67.Kind, bu68_0, bu68_1, .bool n67.Meas, .int .i64 n67.Index, .int .i64 n67.Op, bu68_2, bu68_3], w3_1, bu68_3] = true := apure_of rfl rfl (refs_cons (refs_one (rTestT_p.ref _ _ r0_0)) (refs_cons (r3_1.refs (rI_p .i64)) (refs_cons (gu68_3.refs (rI_p .i64)) rfl)))
  cases hm
  refine ⟨⟨_, _⟩, by
      simp only [bodyOf, Tryz.f77, Cat, Bool.false_eq_true, e_seq, e_region, e_cond, e_block, ex_skip, ex_exit, ex_ret, o_cons, xops_nil, k_want_none, k_want_false, k_val, k_pan, k_call, k_ret, k_seq, k_seq_exit, k_seq_ret, k_true, k_false, k_block, k_block_exit, k_block_ret, k_loop, k_loop_exit, k_loop_ret, awanted, aoper, evalO, put, Option.getD_some, List.getElem?_set, acallOp, abuiltin, List.map_cons, List.map_nil, Nat.reduceEqDiff, Nat.reduceLT, List.length_set, Option.map_some, Option.bind_some, Option.bind_eq_bind, add_i, sub_i, mul_i, eql_i, neq_i, lss_i, leq_i, gtr_i, geq_i, ofV, ofCell, ↓reduceIte, List.cons_append, List.nil_append, List.append_nil, List.getElem?_toArray, List.getElem?_cons_succ, List.getElem?_cons_zero, e_draw, g_nil, g_cons, g_want, g_skip, g_val, g_call, g_ret, Option.map_none, hl, a0, a3, CP, bq1, bq2, bq3, bq4, ex_tup, Ty.fa53_1, dropCells, Nat.zero_add, Nat.reduceAdd, k66, Ty.ld51, Ty.fa57_7, List.drop_succ_cons, List.drop_zero, ld_ip, ofc1, List.drop_succ_cons, List.drop_zero, iu70, apu70, if_true]
      rw [k_draw _ _ _ (by kernel_rfl)]
      exact rfl, ?_⟩
  show P77_1 _ _
  exact ⟨by simp [hl], by simp [hl]⟩
theorem R77_6 {rec77 : TestT → Fact → Option Bool} (hrec77 : Spec77 rec77) (pe : Nat → Fr77 → ASt → Prop) (pr : Fr77 → ASt → Prop) : Ref Cb P77_2 (Cat [true, true, false, true, true, true, true, true, true, true, true, true, false, false, false] (bodyOf Tryz.f77)) (m77_6 rec77) (post P77_3 pe pr) := by
  rintro s ⟨t, h⟩ hp x s' hm
  have hp : P77_2' s t h := hp
  obtain ⟨w0_0, i3, w3_0, w3_1, hl, a0, r0_0, a3, g3, l3, r3_0, r3_1⟩ := hp
  unfold m77_6 at hm
  obtain ⟨n73, hn73, hm⟩ := Option.bind_eq_some_iff.1 hm
  obtain ⟨bu74_0, bu74_1, bu74_2, bu74_3, qu74, gu74_0, gu74_1, gu74_2, gu74_3⟩ := rTestT_get r0_0 hn73
  subst qu74
  cases hm
  refine ⟨⟨_, _⟩, by
      simp only [bodyOf, Tryz.f77, Cat, Bool.false_eq_true, e_seq, e_region, e_cond, e_block, ex_skip, ex_exit, ex_ret, o_cons, xops_nil, k_want_none, k_want_false, k_val, k_pan, k_call, k_ret, k_seq, k_seq_exit, k_seq_ret, k_true, k_false, k_block, k_block_exit, k_block_ret, k_loop, k_loop_exit, k_loop_ret, awanted, aoper, evalO, put, Option.getD_some, List.getElem?_set, acallOp, abuiltin, List.map_cons, List.map_nil, Nat.reduceEqDiff, Nat.reduceLT, List.length_set, Option.map_some, Option.bind_some, Option.bind_eq_bind, add_i, sub_i, mul_i, eql_i, neq_i, lss_i, leq_i, gtr_i, geq_i, ofV, ofCell, ↓reduceIte, List.cons_append, List.nil_append, List.append_nil, List.getElem?_toArray, List.getElem?_cons_succ, List.getElem?_cons_zero, e_draw, g_nil, g_cons, g_want, g_skip, g_val, g_call, g_ret, Option.map_none, hl, a0, a3, CP, bq1, bq2, bq3, bq4, ex_tup, Ty.fa57_3, dropCells, List.drop_succ_cons, List.drop_zero, Ty.ld4, ld_ip, ofc1, List.drop_succ_cons, List.drop_zero]
      exact rfl, ?_⟩
  show P77_3 _ _
  exact ⟨(.iptr [.int .i64 n73.Kind, bu74_0, bu74_1, .bool n73.Meas, .int .i64 n73.Index, .int .i64 n73.Op, bu74_2, bu74_3] : AVal), i3, w3_0, w3_1, by simp [hl], by simp [a0], r0_0, by simp [a3], g3, l3, r3_0, r3_1, by simp [hl]⟩
theorem R77_7 {rec77 : TestT → Fact → Option Bool} (hrec77 : Spec77 rec77) (pe : Nat → Fr77 → ASt → Prop) (pr : Fr77 → ASt → Prop) : Ref Cb P77_5 (Cat [true, true, false, true, true, true, true, true, true, true, true, false, true, true] (bodyOf Tryz.f77)) (m77_7 rec77) (post P77_4 pe pr) := by
  rintro s ⟨t, h⟩ hp x s' hm
  have hp : P77_5' s t h := hp
  obtain ⟨w0_0, i3, w3_0, w3_1, hl, a0, r0_0, a3, g3, l3, r3_0, r3_1, a10⟩ := hp
  unfold m77_7 at hm
  cases hm
  refine ⟨⟨_, _⟩, by
      simp only [bodyOf, Tryz.f77, Cat, Bool.false_eq_true, e_seq, e_region, e_cond, e_block, ex_skip, ex_exit, ex_ret, o_cons, xops_nil, k_want_none, k_want_false, k_val, k_pan, k_call, k_ret, k_seq, k_seq_exit, k_seq_ret, k_true, k_false, k_block, k_block_exit, k_block_ret, k_loop, k_loop_exit, k_loop_ret, awanted, aoper, evalO, put, Option.getD_some, List.getElem?_set, acallOp, abuiltin, List.map_cons, List.map_nil, Nat.reduceEqDiff, Nat.reduceLT, List.length_set, Option.map_some, Option.bind_some, Option.bind_eq_bind, add_i, sub_i, mul_i, eql_i, neq_i, lss_i, leq_i, gtr_i, geq_i, ofV, ofCell, ↓reduceIte, List.cons_append, List.nil_append, List.append_nil, List.getElem?_toArray, List.getElem?_cons_succ, List.getElem?_cons_zero, e_draw, g_nil, g_cons, g_want, g_skip, g_val, g_call, g_ret, Option.map_none, hl, a0, a3, a10, CP, bq1, bq2, bq3, bq4, ex_tup]
      exact rfl, ?_⟩
  show P77_4 _ _
  exact ⟨w0_0, i3, w3_0, w3_1, by simp [hl], by simp [a0], r0_0, by simp [a3], g3, l3, r3_0, r3_1, by simp [hl]⟩
theorem R77_8 {rec77 : TestT → Fact → Option Bool} (hrec77 : Spec77 rec77) (pe : Nat → Fr77 → ASt → Prop) (pr : Fr77 → ASt → Prop) : Ref Cb P77_5 (Cat [true, true, false, true, true, true, true, true, true, true, true, false, false] (bodyOf Tryz.f77)) (m77_8 rec77) (post P77_6 pe pr) := by
  rintro s ⟨t, h⟩ hp x s' hm
  have hp : P77_5' s t h := hp
  obtain ⟨w0_0, i3, w3_0, w3_1, hl, a0, r0_0, a3, g3, l3, r3_0, r3_1, a10⟩ := hp
  unfold m77_8 at hm
  cases hm
  refine ⟨⟨_, _⟩, by
      simp only [bodyOf, Tryz.f77, Cat, Bool.false_eq_true, e_seq, e_region, e_cond, e_block, ex_skip, ex_exit, ex_ret, o_cons, xops_nil, k_want_none, k_want_false, k_val, k_pan, k_call, k_ret, k_seq, k_seq_exit, k_seq_ret, k_true, k_false, k_block, k_block_exit, k_block_ret, k_loop, k_loop_exit, k_loop_ret, awanted, aoper, evalO, put, Option.getD_some, List.getElem?_set, acallOp, abuiltin, List.map_cons, List.map_nil, Nat.reduceEqDiff, Nat.reduceLT, List.length_set, Option.map_some, Option.bind_some, Option.bind_eq_bind, add_i, sub_i, mul_i, eql_i, neq_i, lss_i, leq_i, gtr_i, geq_i, ofV, ofCell, ↓reduceIte, List.cons_append, List.nil_append, List.append_nil, List.getElem?_toArray, List.getElem?_cons_succ, List.getElem?_cons_zero, e_draw, g_nil, g_cons, g_want, g_skip, g_val, g_call, g_ret, Option.map_none, hl, a0, a3, a10, CP, bq1, bq2, bq3, bq4, ex_tup]
      exact rfl, ?_⟩
  show P77_6 _ _
  exact ⟨w0_0, i3, w3_0, w3_1, by simp [hl], by simp [a0], r0_0, by simp [a3], g3, l3, r3_0, r3_1, by simp [a10], by simp [hl]⟩
theorem R77_9 {rec77 : TestT → Fact → Option Bool} (hrec77 : Spec77 rec77) (pe : Nat → Fr77 → ASt → Prop) (pr : Fr77 → ASt → Prop) : Ref Cb P77_5 (Cat [true, true, false, true, true, true, true, true, true, false] (bodyOf Tryz.f77)) (m77_9 rec77) (post P77_7 pe pr) := by
  rintro s ⟨t, h⟩ hp x s' hm
  have hp : P77_5' s t h := hp
  obtain ⟨w0_0, i3, w3_0, w3_1, hl, a0, r0_0, a3, g3, l3, r3_0, r3_1, a10⟩ := hp
  unfold m77_9 at hm
  cases hm
  refine ⟨⟨_, _⟩, by
      simp only [bodyOf, Tryz.f77, Cat, Bool.false_eq_true, e_seq, e_region, e_cond, e_block, ex_skip, ex_exit, ex_ret, o_cons, xops_nil, k_want_none, k_want_false, k_val, k_pan, k_call, k_ret, k_seq, k_seq_exit, k_seq_ret, k_true, k_false, k_block, k_block_exit, k_block_ret, k_loop, k_loop_exit, k_loop_ret, awanted, aoper, evalO, put, Option.getD_some, List.getElem?_set, acallOp, abuiltin, List.map_cons, List.map_nil, Nat.reduceEqDiff, Nat.reduceLT, List.length_set, Option.map_some, Option.bind_some, Option.bind_eq_bind, add_i, sub_i, mul_i, eql_i, neq_i, lss_i, leq_i, gtr_i, geq_i, ofV, ofCell, ↓reduceIte, List.cons_append, List.nil_append, List.append_nil, List.getElem?_toArray, List.getElem?_cons_succ, List.getElem?_cons_zero, e_draw, g_nil, g_cons, g_want, g_skip, g_val, g_call, g_ret, Option.map_none, hl, a0, a3, a10, CP, bq1, bq2, bq3, bq4, ex_tup]
      exact rfl, ?_⟩
  show P77_7 _ _
  exact ⟨w0_0, i3, w3_0, w3_1, by simp [hl], by simp [a0], r0_0, by simp [a3], g3, l3, r3_0, r3_1, by simp [a10], by simp [hl]⟩
theorem R77_10 {rec77 : TestT → Fact → Option Bool} (hrec77 : Spec77 rec77) (pe : Nat → Fr77 → ASt → Prop) (pr : Fr77 → ASt → Prop) : Ref Cb P77_5 (Cat [true, true, false, true, true, true, true, false] (bodyOf Tryz.f77)) (m77_10 rec77) (post P77_8 pe pr) := by
  rintro s ⟨t, h⟩ hp x s' hm
  have hp : P77_5' s t h := hp
  obtain ⟨w0_0, i3, w3_0, w3_1, hl, a0, r0_0, a3, g3, l3, r3_0, r3_1, a10⟩ := hp
  unfold m77_10 at hm
  cases hm
  refine ⟨⟨_, _⟩, by
      simp only [bodyOf, Tryz.f77, Cat, Bool.false_eq_true, e_seq, e_region, e_cond, e_block, ex_skip, ex_exit, ex_ret, o_cons, xops_nil, k_want_none, k_want_false, k_val, k_pan, k_call, k_ret, k_seq, k_seq_exit, k_seq_ret, k_true, k_false, k_block, k_block_exit, k_block_ret, k_loop, k_loop_exit, k_loop_ret, awanted, aoper, evalO, put, Option.getD_some, List.getElem?_set, acallOp, abuiltin, List.map_cons, List.map_nil, Nat.reduceEqDiff, Nat.reduceLT, List.length_set, Option.map_some, Option.bind_some, Option.bind_eq_bind, add_i, sub_i, mul_i, eql_i, neq_i, lss_i, leq_i, gtr_i, geq_i, ofV, ofCell, ↓reduceIte, List.cons_append, List.nil_append, List.append_nil, List.getElem?_toArray, List.getElem?_cons_succ, List.getElem?_cons_zero, e_draw, g_nil, g_cons, g_want, g_skip, g_val, g_call, g_ret, Option.map_none, hl, a0, a3, a10, CP, bq1, bq2, bq3, bq4, ex_tup]
      exact rfl, ?_⟩
  show P77_8 _ _
  exact ⟨w0_0, i3, w3_0, w3_1, by simp [hl], by simp [a0], r0_0, by simp [a3], g3, l3, r3_0, r3_1, by simp [a10], by simp [hl]⟩
theorem R77_11 {rec77 : TestT → Fact → Option Bool} (hrec77 : Spec77 rec77) (pe : Nat → Fr77 → ASt → Prop) (pr : Fr77 → ASt → Prop) : Ref Cb P77_5 (Cat [true, true, false, true, true, false] (bodyOf Tryz.f77)) (m77_11 rec77) (post P77_9 pe pr) := by
  rintro s ⟨t, h⟩ hp x s' hm
  have hp : P77_5' s t h := hp
  obtain ⟨w0_0, i3, w3_0, w3_1, hl, a0, r0_0, a3, g3, l3, r3_0, r3_1, a10⟩ := hp
  unfold m77_11 at hm
  cases hm
  refine ⟨⟨_, _⟩, by
      simp only [bodyOf, Tryz.f77, Cat, Bool.false_eq_true, e_seq, e_region, e_cond, e_block, ex_skip, ex_exit, ex_ret, o_cons, xops_nil, k_want_none, k_want_false, k_val, k_pan, k_call, k_ret, k_seq, k_seq_exit, k_seq_ret, k_true, k_false, k_block, k_block_exit, k_block_ret, k_loop, k_loop_exit, k_loop_ret, awanted, aoper, evalO, put, Option.getD_some, List.getElem?_set, acallOp, abuiltin, List.map_cons, List.map_nil, Nat.reduceEqDiff, Nat.reduceLT, List.length_set, Option.map_some, Option.bind_some, Option.bind_eq_bind, add_i, sub_i, mul_i, eql_i, neq_i, lss_i, leq_i, gtr_i, geq_i, ofV, ofCell, ↓reduceIte, List.cons_append, List.nil_append, List.append_nil, List.getElem?_toArray, List.getElem?_cons_succ, List.getElem?_cons_zero, e_draw, g_nil, g_cons, g_want, g_skip, g_val, g_call, g_ret, Option.map_none, hl, a0, a3, a10, CP, bq1, bq2, bq3, bq4, ex_tup]
      exact rfl, ?_⟩
  show P77_9 _ _
  exact ⟨w0_0, i3, w3_0, w3_1, by simp [hl], by simp [a0], r0_0, by simp [a3], g3, l3, r3_0, r3_1, by simp [a10], by simp [hl]⟩
theorem R77_12 {rec77 : TestT → Fact → Option Bool} (hrec77 : Spec77 rec77) (pe : Nat → Fr77 → ASt → Prop) (pr : Fr77 → ASt → Prop) : Ref Cb P77_2 (Cat [true, true, false, false] (bodyOf Tryz.f77)) (m77_12 rec77) (post P77_5 pe pr) := by
  rintro s ⟨t, h⟩ hp x s' hm
  have hp : P77_2' s t h := hp
  obtain ⟨w0_0, i3, w3_0, w3_1, hl, a0, r0_0, a3, g3, l3, r3_0, r3_1⟩ := hp
  unfold m77_12 at hm
  obtain ⟨n77, hn77, hm⟩ := Option.bind_eq_some_iff.1 hm
  obtain ⟨bu78_0, bu78_1, bu78_2, bu78_3, qu78, gu78_0, gu78_1, gu78_2, gu78_3⟩ := rTestT_get r0_0 hn77
  subst qu78
  cases hm
  refine ⟨⟨_, _⟩, by
      simp only [bodyOf, Tryz.f77, Cat, Bool.false_eq_true, e_seq, e_region, e_cond, e_block, ex_skip, ex_exit, ex_ret, o_cons, xops_nil, k_want_none, k_want_false, k_val, k_pan, k_call, k_ret, k_seq, k_seq_exit, k_seq_ret, k_true, k_false, k_block, k_block_exit, k_block_ret, k_loop, k_loop_exit, k_loop_ret, awanted, aoper, evalO, put, Option.getD_some, List.getElem?_set, acallOp, abuiltin, List.map_cons, List.map_nil, Nat.reduceEqDiff, Nat.reduceLT, List.length_set, Option.map_some, Option.bind_some, Option.bind_eq_bind, add_i, sub_i, mul_i, eql_i, neq_i, lss_i, leq_i, gtr_i, geq_i, ofV, ofCell, ↓reduceIte, List.cons_append, List.nil_append, List.append_nil, List.getElem?_toArray, List.getElem?_cons_succ, List.getElem?_cons_zero, e_draw, g_nil, g_cons, g_want, g_skip, g_val, g_call, g_ret, Option.map_none, hl, a0, a3, CP, bq1, bq2, bq3, bq4, ex_tup, Ty.fa57_0, dropCells, List.drop_succ_cons, List.drop_zero, Ty.ld3, ld_ip, ofc1, List.drop_succ_cons, List.drop_zero]
      exact rfl, ?_⟩
  show P77_5 _ _
  exact ⟨(.iptr [.int .i64 n77.Kind, bu78_0, bu78_1, .bool n77.Meas, .int .i64 n77.Index, .int .i64 n77.Op, bu78_2, bu78_3] : AVal), i3, w3_0, w3_1, by simp [hl], by simp [a0], r0_0, by simp [a3], g3, l3, r3_0, r3_1, by simp [hl]⟩
theorem R77_13 {rec77 : TestT → Fact → Option Bool} (hrec77 : Spec77 rec77) (pe : Nat → Fr77 → ASt → Prop) (pr : Fr77 → ASt → Prop) : Ref Cb P77_0 (Cat [true, false, true, false, false] (bodyOf Tryz.f77)) (m77_13 rec77) (post P77_1 pe pr) := by
  rintro s ⟨t, h⟩ hp x s' hm
  have hp : P77_0' s t h := hp
  obtain ⟨hl, _⟩ := hp
  unfold m77_13 at hm
  cases hm
  refine ⟨⟨_, _⟩, by
      simp only [bodyOf, Tryz.f77, Cat, Bool.false_eq_true, e_seq, e_region, e_cond, e_block, ex_skip, ex_exit, ex_ret, o_cons, xops_nil, k_want_none, k_want_false, k_val, k_pan, k_call, k_ret, k_seq, k_seq_exit, k_seq_ret, k_true, k_false, k_block, k_block_exit, k_block_ret, k_loop, k_loop_exit, k_loop_ret, awanted, aoper, evalO, put, Option.getD_some, List.getElem?_set, acallOp, abuiltin, List.map_cons, List.map_nil, Nat.reduceEqDiff, Nat.reduceLT, List.length_set, Option.map_some, Option.bind_some, Option.bind_eq_bind, add_i, sub_i, mul_i, eql_i, neq_i, lss_i, leq_i, gtr_i, geq_i, ofV, ofCell, ↓reduceIte, List.cons_append, List.nil_append, List.append_nil, List.getElem?_toArray, List.getElem?_cons_succ, List.getElem?_cons_zero, e_draw, g_nil, g_cons, g_want, g_skip, g_val, g_call, g_ret, Option.map_none, hl, CP, bq1, bq2, bq3, bq4, ex_tup]
      exact rfl, ?_⟩
  show P77_1 _ _
  exact ⟨by simp [hl], by simp [hl]⟩
theorem R77_14 {rec77 : TestT → Fact → Option Bool} (hrec77 : Spec77 rec77) (pe : Nat → Fr77 → ASt → Prop) (pr : Fr77 → ASt → Prop) : Ref Cb P77_2 (Cat [true, false, false] (bodyOf Tryz.f77)) (m77_14 rec77) (post P77_10 pe pr) := by
  rintro s ⟨t, h⟩ hp x s' hm
  have hp : P77_2' s t h := hp
  obtain ⟨w0_0, i3, w3_0, w3_1, hl, a0, r0_0, a3, g3, l3, r3_0, r3_1⟩ := hp
  unfold m77_14 at hm
  cases hb79 : s.t0.isNil with
  | true =>
    all_goals (
      try simp only [hb79, cond_true, cond_false, Option.bind_some, Option.bind_assoc, Bool.not_true, Bool.not_false, Bool.true_and, Bool.false_and, Bool.and_true, Bool.and_false, Bool.true_or, Bool.false_or] at hm
      obtain ⟨_, qz80⟩ | ⟨qz80, _⟩ := rTestT_nil r0_0
      rotate_left
      · rw [hb79] at qz80; cases qz80
      have z80 : ∀ (xo : Operand) (h : AHeap), abin Cb .eql 32 xo (.const (.pointer none)) h (w0_0) .nilPtr = some (.bool true) := fun xo h => by rw [qz80]; exact Ty.eqn32 xo h
      cases hm
      refine ⟨⟨_, _⟩, by
          simp only [bodyOf, Tryz.f77, Cat, Bool.false_eq_true, e_seq, e_region, e_cond, e_block, ex_skip, ex_exit, ex_ret, o_cons, xops_nil, k_want_none, k_want_false, k_val, k_pan, k_call, k_ret, k_seq, k_seq_exit, k_seq_ret, k_true, k_false, k_block, k_block_exit, k_block_ret, k_loop, k_loop_exit, k_loop_ret, awanted, aoper, evalO, put, Option.getD_some, List.getElem?_set, acallOp, abuiltin, List.map_cons, List.map_nil, Nat.reduceEqDiff, Nat.reduceLT, List.length_set, Option.map_some, Option.bind_some, Option.bind_eq_bind, add_i, sub_i, mul_i, eql_i, neq_i, lss_i, leq_i, gtr_i, geq_i, ofV, ofCell, ↓reduceIte, List.cons_append, List.nil_append, List.append_nil, List.getElem?_toArray, List.getElem?_cons_succ, List.getElem?_cons_zero, e_draw, g_nil, g_cons, g_want, g_skip, g_val, g_call, g_ret, Option.map_none, hl, a0, a3, CP, bq1, bq2, bq3, bq4, ex_tup, z80, hb79]
          exact rfl, ?_⟩
      show P77_10 _ _
      exact ⟨w0_0, i3, w3_0, w3_1, by simp [hl], by simp [a0], r0_0, by simp [a3], g3, l3, r3_0, r3_1, by simp [hl, hb79]⟩)
  | false =>
    all_goals (
      try simp only [hb79, cond_true, cond_false, Option.bind_some, Option.bind_assoc, Bool.not_true, Bool.not_false, Bool.true_and, Bool.false_and, Bool.and_true, Bool.and_false, Bool.true_or, Bool.false_or] at hm
      obtain ⟨qz81, _⟩ | ⟨_, csz81, qz81⟩ := rTestT_nil r0_0
      · rw [hb79] at qz81; cases qz81
      have z81 : ∀ (xo yo : Operand) (h : AHeap), abin Cb .eql 32 xo yo h (w0_0) .nilPtr = some (.bool false) := fun xo yo h => by rw [qz81]; exact Ty.eqp32 xo yo h _
      clear qz81
      cases hm
      refine ⟨⟨_, _⟩, by
          simp only [bodyOf, Tryz.f77, Cat, Bool.false_eq_true, e_seq, e_region, e_cond, e_block, ex_skip, ex_exit, ex_ret, o_cons, xops_nil, k_want_none, k_want_false, k_val, k_pan, k_call, k_ret, k_seq, k_seq_exit, k_seq_ret, k_true, k_false, k_block, k_block_exit, k_block_ret, k_loop, k_loop_exit, k_loop_ret, awanted, aoper, evalO, put, Option.getD_some, List.getElem?_set, acallOp, abuiltin, List.map_cons, List.map_nil, Nat.reduceEqDiff, Nat.reduceLT, List.length_set, Option.map_some, Option.bind_some, Option.bind_eq_bind, add_i, sub_i, mul_i, eql_i, neq_i, lss_i, leq_i, gtr_i, geq_i, ofV, ofCell, ↓reduceIte, List.cons_append, List.nil_append, List.append_nil, List.getElem?_toArray, List.getElem?_cons_succ, List.getElem?_cons_zero, e_draw, g_nil, g_cons, g_want, g_skip, g_val, g_call, g_ret, Option.map_none, hl, a0, a3, CP, bq1, bq2, bq3, bq4, ex_tup, z81, hb79]
          exact rfl, ?_⟩
      show P77_10 _ _
      exact ⟨w0_0, i3, w3_0, w3_1, by simp [hl], by simp [a0], r0_0, by simp [a3], g3, l3, r3_0, r3_1, by simp [hl, hb79]⟩)
theorem R77_15 {rec77 : TestT → Fact → Option Bool} (hrec77 : Spec77 rec77) (pe : Nat → Fr77 → ASt → Prop) (pr : Fr77 → ASt → Prop) : Ref Cb P77_11 (Cat [false] (bodyOf Tryz.f77)) (m77_15 rec77) (post P77_2 pe pr) := by
  rintro s ⟨t, h⟩ hp x s' hm
  have hp : P77_11' s t h := hp
  obtain ⟨w0_0, w1_0, w1_1, hl, a0, r0_0, a1, r1_0, r1_1⟩ := hp
  unfold m77_15 at hm
  obtain ⟨H89, eH89⟩ : ∃ x : AHeap, x = h.new (.arr [w1_0, w1_1]) := ⟨_, rfl⟩
  obtain ⟨id90, eid90⟩ : ∃ x : Nat, x = h.next := ⟨_, rfl⟩
  have k91 : H89.get id90 = some (.arr [w1_0, w1_1]) := by rw [eH89, eid90]; exact Heap.get_new_eq
  have k92 : id90 < H89.next := by rw [eH89, eid90, Heap.new_next]; exact Nat.lt_succ_self _
  have ic93 : (w1_0 : AVal).isCell = true := Sl.isCell r1_0
  have ic94 : (w1_1 : AVal).isCell = true := Sl.isCell r1_1
  have k95 : abox h (.agg [w1_0, w1_1]) = some (.ptr id90 0, H89) := by simp only [abox, eH89, eid90, bx_i, bx_b, bx_s, bx_a, bx_nl, bx_np, bx_ip, bx_ls, cl_i, cl_b, cl_s, cl_a, cl_nl, cl_np, cl_ip, cl_ls, List.all_cons, List.all_nil, Bool.and_self, Bool.and_true, c_i, c_b, c_s, c_nl, c_np, c_ip, c_ls, if_true, ic93, bx_c ic93, cl_c ic93, ic94, bx_c ic94, cl_c ic94]
  cases hm
  refine ⟨⟨_, _⟩, by
      simp only [bodyOf, Tryz.f77, Cat, Bool.false_eq_true, e_seq, e_region, e_cond, e_block, ex_skip, ex_exit, ex_ret, o_cons, xops_nil, k_want_none, k_want_false, k_val, k_pan, k_call, k_ret, k_seq, k_seq_exit, k_seq_ret, k_true, k_false, k_block, k_block_exit, k_block_ret, k_loop, k_loop_exit, k_loop_ret, awanted, aoper, evalO, put, Option.getD_some, List.getElem?_set, acallOp, abuiltin, List.map_cons, List.map_nil, Nat.reduceEqDiff, Nat.reduceLT, List.length_set, Option.map_some, Option.bind_some, Option.bind_eq_bind, add_i, sub_i, mul_i, eql_i, neq_i, lss_i, leq_i, gtr_i, geq_i, ofV, ofCell, ↓reduceIte, List.cons_append, List.nil_append, List.append_nil, List.getElem?_toArray, List.getElem?_cons_succ, List.getElem?_cons_zero, e_draw, g_nil, g_cons, g_want, g_skip, g_val, g_call, g_ret, Option.map_none, hl, a0, a1, CP, bq1, bq2, bq3, bq4, ex_tup, Ty.nc_bind_go_236, Ty.own_bind_go_236, k95]
      exact rfl, ?_⟩
  show P77_2 _ _
  exact ⟨w0_0, id90, w1_0, w1_1, by simp [hl], by simp [a0], r0_0, by simp [hl], k91, k92, r1_0, r1_1⟩
theorem B77 {rec77 : TestT → Fact → Option Bool} (hrec77 : Spec77 rec77) : Ref Cb P77_11 (bodyOf Tryz.f77) (M77 rec77) (post P77_1 (fun _ _ _ => False) P77_1) := by
  rw [show bodyOf Tryz.f77 = .seq (Cat [false] (bodyOf Tryz.f77)) (.seq (.seq (Cat [true, false, false] (bodyOf Tryz.f77)) (.cond (.tmp 6) (.seq (Cat [true, false, true, false, false] (bodyOf Tryz.f77)) (.ret)) (.skip))) (.seq (.seq (Cat [true, true, false, false] (bodyOf Tryz.f77)) (.block 0 (.seq (Cat [true, true, false, true, true, false] (bodyOf Tryz.f77)) (.cond (.tmp 11) (.seq (Cat [true, true, false, true, true, true, false, false] (bodyOf Tryz.f77)) (.ret)) (.seq (Cat [true, true, false, true, true, true, true, false] (bodyOf Tryz.f77)) (.cond (.tmp 27) (.seq (Cat [true, true, false, true, true, true, true, true, false, false] (bodyOf Tryz.f77)) (.ret)) (.seq (Cat [true, true, false, true, true, true, true, true, true, false] (bodyOf Tryz.f77)) (.cond (.tmp 43) (.seq (Cat [true, true, false, true, true, true, true, true, true, true, false, false] (bodyOf Tryz.f77)) (.ret)) (.seq (.seq (Cat [true, true, false, true, true, true, true, true, true, true, true, false, false] (bodyOf Tryz.f77)) (.cond (.tmp 59) (.skip) (Cat [true, true, false, true, true, true, true, true, true, true, true, false, true, true] (bodyOf Tryz.f77)))) (.cond (.tmp 59) (.seq (.seq (Cat [true, true, false, true, true, true, true, true, true, true, true, true, false, false, false] (bodyOf Tryz.f77)) (.cond (.tmp 65) (.seq (Cat [true, true, false, true, true, true, true, true, true, true, true, true, false, false, true, false, false] (bodyOf Tryz.f77)) (.ret)) (.skip))) (.seq (Cat [true, true, false, true, true, true, true, true, true, true, true, true, false, true, false] (bodyOf Tryz.f77)) (.ret))) (.skip))))))))))) (.seq (Cat [true, true, true, false] (bodyOf Tryz.f77)) (.ret)))) from rfl]
  unfold M77
  exact ref_seq (M := P77_2) (R77_15 hrec77 _ _) (ref_seq (M := P77_2) (ref_seq (M := P77_10) (R77_14 hrec77 _ _) (ref_cond (P := P77_10) (c := fun s => s.t6) (fun s st hp => by obtain ⟨w0_0, i3, w3_0, w3_1, hl, a0, r0_0, a3, g3, l3, r3_0, r3_1, a6⟩ := (hp : P77_10' s st.tmps st.h); simp only [evalO, a6, Option.getD_some]) (ref_weak (P' := P77_0) (fun s st hp => by obtain ⟨w0_0, i3, w3_0, w3_1, hl, a0, r0_0, a3, g3, l3, r3_0, r3_1, a6⟩ := (hp : P77_10' s st.tmps st.h); exact (⟨hl, trivial⟩ : P77_0' s st.tmps st.h)) (ref_seq (M := P77_1) (R77_13 hrec77 _ _) (ref_ret (fun s st hp => hp)))) (ref_weak (P' := P77_2) (fun s st hp => by obtain ⟨w0_0, i3, w3_0, w3_1, hl, a0, r0_0, a3, g3, l3, r3_0, r3_1, a6⟩ := (hp : P77_10' s st.tmps st.h); exact (⟨w0_0, i3, w3_0, w3_1, hl, a0, r0_0, a3, g3, l3, r3_0, r3_1⟩ : P77_2' s st.tmps st.h)) (ref_skip (fun s st hp => hp))))) (ref_seq (M := P77_0) (ref_seq (M := P77_5) (R77_12 hrec77 _ _) (ref_block (ref_seq (M := P77_9) (R77_11 hrec77 _ _) (ref_cond (P := P77_9) (c := fun s => s.t11) (fun s st hp => by obtain ⟨w0_0, i3, w3_0, w3_1, hl, a0, r0_0, a3, g3, l3, r3_0, r3_1, a10, a11⟩ := (hp : P77_9' s st.tmps st.h); simp only [evalO, a11, Option.getD_some]) (ref_weak (P' := P77_2) (fun s st hp => by obtain ⟨w0_0, i3, w3_0, w3_1, hl, a0, r0_0, a3, g3, l3, r3_0, r3_1, a10, a11⟩ := (hp : P77_9' s st.tmps st.h); exact (⟨w0_0, i3, w3_0, w3_1, hl, a0, r0_0, a3, g3, l3, r3_0, r3_1⟩ : P77_2' s st.tmps st.h)) (ref_seq (M := P77_1) (R77_1 hrec77 _ _) (ref_ret (fun s st hp => hp)))) (ref_weak (P' := P77_5) (fun s st hp => by obtain ⟨w0_0, i3, w3_0, w3_1, hl, a0, r0_0, a3, g3, l3, r3_0, r3_1, a10, a11⟩ := (hp : P77_9' s st.tmps st.h); exact (⟨w0_0, i3, w3_0, w3_1, hl, a0, r0_0, a3, g3, l3, r3_0, r3_1, a10⟩ : P77_5' s st.tmps st.h)) (ref_seq (M := P77_8) (R77_10 hrec77 _ _) (ref_cond (P := P77_8) (c := fun s => s.t27) (fun s st hp => by obtain ⟨w0_0, i3, w3_0, w3_1, hl, a0, r0_0, a3, g3, l3, r3_0, r3_1, a10, a27⟩ := (hp : P77_8' s st.tmps st.h); simp only [evalO, a27, Option.getD_some]) (ref_weak (P' := P77_2) (fun s st hp => by obtain ⟨w0_0, i3, w3_0, w3_1, hl, a0, r0_0, a3, g3, l3, r3_0, r3_1, a10, a27⟩ := (hp : P77_8' s st.tmps st.h); exact (⟨w0_0, i3, w3_0, w3_1, hl, a0, r0_0, a3, g3, l3, r3_0, r3_1⟩ : P77_2' s st.tmps st.h)) (ref_seq (M := P77_1) (R77_2 hrec77 _ _) (ref_ret (fun s st hp => hp)))) (ref_weak (P' := P77_5) (fun s st hp => by obtain ⟨w0_0, i3, w3_0, w3_1, hl, a0, r0_0, a3, g3, l3, r3_0, r3_1, a10, a27⟩ := (hp : P77_8' s st.tmps st.h); exact (⟨w0_0, i3, w3_0, w3_1, hl, a0, r0_0, a3, g3, l3, r3_0, r3_1, a10⟩ : P77_5' s st.tmps st.h)) (ref_seq (M := P77_7) (R77_9 hrec77 _ _) (ref_cond (P := P77_7) (c := fun s => s.t43) (fun s st hp => by obtain ⟨w0_0, i3, w3_0, w3_1, hl, a0, r0_0, a3, g3, l3, r3_0, r3_1, a10, a43⟩ := (hp : P77_7' s st.tmps st.h); simp only [evalO, a43, Option.getD_some]) (ref_weak (P' := P77_2) (fun s st hp => by obtain ⟨w0_0, i3, w3_0, w3_1, hl, a0, r0_0, a3, g3, l3, r3_0, r3_1, a10, a43⟩ := (hp : P77_7' s st.tmps st.h); exact (⟨w0_0, i3, w3_0, w3_1, hl, a0, r0_0, a3, g3, l3, r3_0, r3_1⟩ : P77_2' s st.tmps st.h)) (ref_seq (M := P77_1) (R77_3 hrec77 _ _) (ref_ret (fun s st hp => hp)))) (ref_weak (P' := P77_5) (fun s st hp => by obtain ⟨w0_0, i3, w3_0, w3_1, hl, a0, r0_0, a3, g3, l3, r3_0, r3_1, a10, a43⟩ := (hp : P77_7' s st.tmps st.h); exact (⟨w0_0, i3, w3_0, w3_1, hl, a0, r0_0, a3, g3, l3, r3_0, r3_1, a10⟩ : P77_5' s st.tmps st.h)) (ref_seq (M := P77_4) (ref_seq (M := P77_6) (R77_8 hrec77 _ _) (ref_cond (P := P77_6) (c := fun s => s.t59) (fun s st hp => by obtain ⟨w0_0, i3, w3_0, w3_1, hl, a0, r0_0, a3, g3, l3, r3_0, r3_1, a10, a59⟩ := (hp : P77_6' s st.tmps st.h); simp only [evalO, a59, Option.getD_some]) (ref_weak (P' := P77_4) (fun s st hp => by obtain ⟨w0_0, i3, w3_0, w3_1, hl, a0, r0_0, a3, g3, l3, r3_0, r3_1, a10, a59⟩ := (hp : P77_6' s st.tmps st.h); exact (⟨w0_0, i3, w3_0, w3_1, hl, a0, r0_0, a3, g3, l3, r3_0, r3_1, a59⟩ : P77_4' s st.tmps st.h)) (ref_skip (fun s st hp => hp))) (ref_weak (P' := P77_5) (fun s st hp => by obtain ⟨w0_0, i3, w3_0, w3_1, hl, a0, r0_0, a3, g3, l3, r3_0, r3_1, a10, a59⟩ := (hp : P77_6' s st.tmps st.h); exact (⟨w0_0, i3, w3_0, w3_1, hl, a0, r0_0, a3, g3, l3, r3_0, r3_1, a10⟩ : P77_5' s st.tmps st.h)) (R77_7 hrec77 _ _)))) (ref_cond (P := P77_4) (c := fun s => s.t59) (fun s st hp => by obtain ⟨w0_0, i3, w3_0, w3_1, hl, a0, r0_0, a3, g3, l3, r3_0, r3_1, a59⟩ := (hp : P77_4' s st.tmps st.h); simp only [evalO, a59, Option.getD_some]) (ref_weak (P' := P77_2) (fun s st hp => by obtain ⟨w0_0, i3, w3_0, w3_1, hl, a0, r0_0, a3, g3, l3, r3_0, r3_1, a59⟩ := (hp : P77_4' s st.tmps st.h); exact (⟨w0_0, i3, w3_0, w3_1, hl, a0, r0_0, a3, g3, l3, r3_0, r3_1⟩ : P77_2' s st.tmps st.h)) (ref_seq (M := P77_2) (ref_seq (M := P77_3) (R77_6 hrec77 _ _) (ref_cond (P := P77_3) (c := fun s => s.t65) (fun s st hp => by obtain ⟨w0_0, i3, w3_0, w3_1, hl, a0, r0_0, a3, g3, l3, r3_0, r3_1, a65⟩ := (hp : P77_3' s st.tmps st.h); simp only [evalO, a65, Option.getD_some]) (ref_weak (P' := P77_2) (fun s st hp => by obtain ⟨w0_0, i3, w3_0, w3_1, hl, a0, r0_0, a3, g3, l3, r3_0, r3_1, a65⟩ := (hp : P77_3' s st.tmps st.h); exact (⟨w0_0, i3, w3_0, w3_1, hl, a0, r0_0, a3, g3, l3, r3_0, r3_1⟩ : P77_2' s st.tmps st.h)) (ref_seq (M := P77_1) (R77_5 hrec77 _ _) (ref_ret (fun s st hp => hp)))) (ref_weak (P' := P77_2) (fun s st hp => by obtain ⟨w0_0, i3, w3_0, w3_1, hl, a0, r0_0, a3, g3, l3, r3_0, r3_1, a65⟩ := (hp : P77_3' s st.tmps st.h); exact (⟨w0_0, i3, w3_0, w3_1, hl, a0, r0_0, a3, g3, l3, r3_0, r3_1⟩ : P77_2' s st.tmps st.h)) (ref_skip (fun s st hp => hp))))) (ref_seq (M := P77_1) (R77_4 hrec77 _ _) (ref_ret (fun s st hp => hp))))) (ref_weak (P' := P77_0) (fun s st hp => by obtain ⟨w0_0, i3, w3_0, w3_1, hl, a0, r0_0, a3, g3, l3, r3_0, r3_1, a59⟩ := (hp : P77_4' s st.tmps st.h); exact (⟨hl, trivial⟩ : P77_0' s st.tmps st.h)) (ref_skip (fun s st hp => hp)))))))))))))))) (ref_seq (M := P77_1) (R77_0 hrec77 _ _) (ref_ret (fun s st hp => hp)))))
noncomputable def G77 (rec77 : TestT → Fact → Option Bool) (x0 : TestT) (x1 : Fact) : Option Bool := match M77 rec77 { (default : Fr77) with t0 := x0, t1 := x1 } with
  | some (.nrm, s) => some s.t4
  | some (.ret, s) => some s.t4
  | _ => none
theorem G77_spec {rec77 : TestT → Fact → Option Bool} (hrec77 : Spec77 rec77) : Spec77 (G77 rec77) := by
  intro x0 x1 vx0_0 hvx0_0 vx1_0 hvx1_0 vx1_1 hvx1_1 r hr
  unfold G77 at hr
  cases hm : M77 rec77 { (default : Fr77) with t0 := x0, t1 := x1 } with
  | none => rw [hm] at hr; cases hr
  | some q =>
    obtain ⟨x, s⟩ := q
    rw [hm] at hr
    have hx : x = .nrm ∨ x = .ret := by cases x <;> first | exact .inl rfl | exact .inr rfl | cases hr
    have hr : s.t4 = r := by cases x <;> first | exact Option.some.inj hr | cases hr
    subst hr
    have hp0 : P77_11' ({ (default : Fr77) with t0 := x0, t1 := x1 }) (slots Tryz.f77 (stripL [vx0_0, .agg [vx1_0, vx1_1]])) bare := ⟨(strip vx0_0 : AVal), (strip vx1_0 : AVal), (strip vx1_1 : AVal), rfl, rfl, rTestT_p.str _ _ hvx0_0, rfl, hvx1_0.strip rS_p, hvx1_1.strip (rI_p .i64)⟩
    obtain ⟨v, hR, hrun⟩ := run_of_ref (C := Cb) (f := 77) (fn := Tryz.f77) Tryz.func77 rfl rfl rfl rfl (args := [vx0_0, .agg [vx1_0, vx1_1]]) (by simp only [refsL, refs, List.append_nil, refs_one (rTestT_p.ref _ _ hvx0_0), hvx1_0.refs rS_p, hvx1_1.refs (rI_p .i64)]) (B77 hrec77) (s0 := { (default : Fr77) with t0 := x0, t1 := x1 }) hp0 hm hx (R := fun v => v = .bool s.t4) (by
      have key : ∀ st : ASt, P77_1 s st → ∃ vs v, aresults Cb Tryz.f77.results.toList st = some vs ∧ Nrm [] st.h (packRes vs) v ∧ (fun v => v = .bool s.t4) v := by
        intro st hp
        obtain ⟨hl, a4⟩ := (hp : P77_1' s st.tmps st.h)
        exact ⟨[.bool s.t4], _, by simp only [show Tryz.f77.results.toList = [ResultVar.tmp 4] from rfl, aresults, ares1, CP, a4, Option.getD_some], (Nrm.of (w := .bool s.t4) (by simp only [refsL, refs, List.append_nil])), rfl⟩
      intro st hq
      rcases hx with rfl | rfl
      · exact key st hq
      · exact key st hq)
    subst hR
    exact hrun
noncomputable def F77 : Nat → TestT → Fact → Option Bool
  | 0 => fun _ _ => none
  | n + 1 => G77 (F77 n)
theorem F77_spec : ∀ n, Spec77 (F77 n)
  | 0 => fun x0 x1 vx0_0 hvx0_0 vx1_0 hvx1_0 vx1_1 hvx1_1 r hr => by cases hr
  | n + 1 => G77_spec (F77_spec n)
theorem Spec77_fuel {f : TestT → Fact → Option Bool} (h : ∀ x0 x1 r, f x0 x1 = some r → ∃ n, F77 n x0 x1 = some r) : Spec77 f := fun x0 x1 vx0_0 hvx0_0 vx1_0 hvx1_0 vx1_1 hvx1_1 r hr => by
  obtain ⟨n, hn⟩ := h x0 x1 r hr
  exact F77_spec n x0 x1 vx0_0 hvx0_0 vx1_0 hvx1_0 vx1_1 hvx1_1 r hn
/-! ### caisson/bind.reads -/
structure Fr78 where
  t0 : TestT
  t2 : Int
  t3 : Bool
  t4 : Int
  t5 : Bool
  t6 : Int
  t7 : Bool
  t8 : Bool
  t11 : Bool
  t47 : Bool
instance : Inhabited Fr78 := ⟨⟨default, 0, false, 0, false, 0, false, false, false, false⟩⟩
def P78_0' (s : Fr78) (t : List AVal) (h : AHeap) : Prop := ∃ w0_0, t.length = 58 ∧ t[0]? = some w0_0 ∧ rTestT s.t0 [w0_0]
def P78_0 (s : Fr78) (st : ASt) : Prop := P78_0' s st.tmps st.h
def P78_1' (s : Fr78) (t : List AVal) (h : AHeap) : Prop := t.length = 58 ∧ t[2]? = some (.int .i64 s.t2) ∧ t[3]? = some (.bool s.t3)
def P78_1 (s : Fr78) (st : ASt) : Prop := P78_1' s st.tmps st.h
def P78_2' (s : Fr78) (t : List AVal) (h : AHeap) : Prop := t.length = 58 ∧ True
def P78_2 (s : Fr78) (st : ASt) : Prop := P78_2' s st.tmps st.h
def P78_3' (s : Fr78) (t : List AVal) (h : AHeap) : Prop := t.length = 58 ∧ t[4]? = some (.int .i64 s.t4) ∧ t[5]? = some (.bool s.t5) ∧ t[6]? = some (.int .i64 s.t6) ∧ t[7]? = some (.bool s.t7)
def P78_3 (s : Fr78) (st : ASt) : Prop := P78_3' s st.tmps st.h
def P78_4' (s : Fr78) (t : List AVal) (h : AHeap) : Prop := ∃ w0_0, t.length = 58 ∧ t[0]? = some w0_0 ∧ rTestT s.t0 [w0_0] ∧ t[4]? = some (.int .i64 s.t4) ∧ t[5]? = some (.bool s.t5)
def P78_4 (s : Fr78) (st : ASt) : Prop := P78_4' s st.tmps st.h
def P78_5' (s : Fr78) (t : List AVal) (h : AHeap) : Prop := ∃ w0_0, t.length = 58 ∧ t[0]? = some w0_0 ∧ rTestT s.t0 [w0_0] ∧ t[47]? = some (.bool s.t47)
def P78_5 (s : Fr78) (st : ASt) : Prop := P78_5' s st.tmps st.h
def P78_6' (s : Fr78) (t : List AVal) (h : AHeap) : Prop := ∃ w0_0, t.length = 58 ∧ t[0]? = some w0_0 ∧ rTestT s.t0 [w0_0] ∧ t[11]? = some (.bool s.t11)
def P78_6 (s : Fr78) (st : ASt) : Prop := P78_6' s st.tmps st.h
def P78_7' (s : Fr78) (t : List AVal) (h : AHeap) : Prop := ∃ w0_0, t.length = 58 ∧ t[0]? = some w0_0 ∧ rTestT s.t0 [w0_0] ∧ t[8]? = some (.bool s.t8)
def P78_7 (s : Fr78) (st : ASt) : Prop := P78_7' s st.tmps st.h
noncomputable def m78_0 (rec78 : TestT → Option (Int × Bool)) : Mo Fr78 := fun s => (s.t0.get).bind fun n1 => (G41 [n1.Index]).bind fun z7 => some (.nrm, { s with t2 := z7, t3 := false })
noncomputable def m78_1 (rec78 : TestT → Option (Int × Bool)) : Mo Fr78 := fun s => some (.nrm, { s with t2 := 0, t3 := false })
noncomputable def m78_2 (rec78 : TestT → Option (Int × Bool)) : Mo Fr78 := fun s => some (.nrm, { s with t2 := bits .or .i64 s.t4 s.t6, t3 := (s.t5 || s.t7) })
noncomputable def m78_3 (rec78 : TestT → Option (Int × Bool)) : Mo Fr78 := fun s => (s.t0.get).bind fun n18 => (rec78 n18.Right).bind fun z20 => some (.nrm, { s with t6 := z20.1, t7 := z20.2 })
noncomputable def m78_4 (rec78 : TestT → Option (Int × Bool)) : Mo Fr78 := fun s => (s.t0.get).bind fun n26 => (rec78 n26.Left).bind fun z28 => some (.nrm, { s with t4 := z28.1, t5 := z28.2 })
noncomputable def m78_5 (rec78 : TestT → Option (Int × Bool)) : Mo Fr78 := fun s => some (.nrm, { s with t2 := 0, t3 := true })
noncomputable def m78_6 (rec78 : TestT → Option (Int × Bool)) : Mo Fr78 := fun s => (s.t0.get).bind fun n34 => some (.nrm, { s with t47 := n34.Meas })
noncomputable def m78_7 (rec78 : TestT → Option (Int × Bool)) : Mo Fr78 := fun s => (s.t0.get).bind fun n38 => some (.nrm, { s with t11 := ((n38.Kind != 4) && (n38.Kind != 5)) })
noncomputable def m78_8 (rec78 : TestT → Option (Int × Bool)) : Mo Fr78 := fun s => some (.nrm, { s with t8 := s.t0.isNil })
noncomputable def m78_9 (rec78 : TestT → Option (Int × Bool)) : Mo Fr78 := fun s => some (.nrm, s)
noncomputable def M78 (rec78 : TestT → Option (Int × Bool)) : Mo Fr78 := seqM (m78_9 rec78) (seqM (blockM 0 (seqM (m78_8 rec78) (condM (fun s => s.t8) (seqM (m78_1 rec78) (retM)) (seqM (m78_7 rec78) (condM (fun s => s.t11) (seqM (m78_4 rec78) (seqM (m78_3 rec78) (seqM (m78_2 rec78) (retM)))) (seqM (m78_6 rec78) (condM (fun s => s.t47) (seqM (m78_5 rec78) (retM)) (skipM)))))))) (seqM (m78_0 rec78) (retM)))
def Spec78 (f : TestT → Option (Int × Bool)) : Prop := ∀ (x0 : TestT) (vx0_0 : AVal) (_ : rTestT x0 [vx0_0]) (r : (Int × Bool)), f x0 = some r → ∀ h, run Cb 78 [vx0_0] h = some (.ret (.tup [.int .i64 r.1, .bool r.2]), h)
theorem Spec78_of {f g : TestT → Option (Int × Bool)} (hg : Spec78 g) (h : ∀ x0 r, f x0 = some r → g x0 = some r) : Spec78 f := fun x0 v0_ w0_ r hr => hg x0 v0_ w0_ r (h x0 r hr)
theorem R78_0 {rec78 : TestT → Option (Int × Bool)} (hrec78 : Spec78 rec78) (pe : Nat → Fr78 → ASt → Prop) (pr : Fr78 → ASt → Prop) : Ref Cb P78_0 (Cat [true, true, false] (bodyOf Tryz.f78)) (m78_0 rec78) (post P78_1 pe pr) := by
  rintro s ⟨t, h⟩ hp x s' hm
  have hp : P78_0' s t h := hp
  obtain ⟨w0_0, hl, a0, r0_0⟩ := hp
  unfold m78_0 at hm
  obtain ⟨n9, hn9, hm⟩ := Option.bind_eq_some_iff.1 hm
  obtain ⟨bu10_0, bu10_1, bu10_2, bu10_3, qu10, gu10_0, gu10_1, gu10_2, gu10_3⟩ := rTestT_get r0_0 hn9
  subst qu10
  have bd11 : abuildSlice Tryz.prog 33 1 [(0, .int .i64 n9.Index)] = some ([.int .i64 n9.Index], 1) := by kernel_rfl
  have bs12 : Els (rI .i64) [n9.Index] [[.int .i64 n9.Index]] := (Els.cons rfl Els.nil)
  have sl13 : Sl (rI .i64) [n9.Index] (.lst [.int .i64 n9.Index] 1 .full) := Sl.lst .full bs12
  have gr14 : ∀ h, Gr (rI .i64) 1 [n9.Index] (.lst [.int .i64 n9.Index] 1 .full) h := fun h => Gr.full bs12 h
  obtain ⟨z15, hz15, hm⟩ := Option.bind_eq_some_iff.1 hm
  have iu16 := G41_spec [n9.Index] _ sl13 _ hz15
  cases hm
  refine ⟨⟨_, _⟩, by
      simp only [bodyOf, Tryz.f78, Cat, Bool.false_eq_true, e_seq, e_region, e_cond, e_block, ex_skip, ex_exit, ex_ret, o_cons, xops_nil, k_want_none, k_want_false, k_val, k_pan, k_call, k_ret, k_seq, k_seq_exit, k_seq_ret, k_true, k_false, k_block, k_block_exit, k_block_ret, k_loop, k_loop_exit, k_loop_ret, awanted, aoper, evalO, put, Option.getD_some, List.getElem?_set, acallOp, abuiltin, List.map_cons, List.map_nil, Nat.reduceEqDiff, Nat.reduceLT, List.length_set, Option.map_some, Option.bind_some, Option.bind_eq_bind, add_i, sub_i, mul_i, eql_i, neq_i, lss_i, leq_i, gtr_i, geq_i, ofV, ofCell, ↓reduceIte, List.cons_append, List.nil_append, List.append_nil, List.getElem?_toArray, List.getElem?_cons_succ, List.getElem?_cons_zero, e_draw, g_nil, g_cons, g_want, g_skip, g_val, g_call, g_ret, Option.map_none, hl, a0, CP, bq1, bq2, bq3, bq4, ex_tup, Ty.fa57_4, dropCells, List.drop_succ_cons, List.drop_zero, Ty.ld3, ld_ip, ofc1, List.drop_succ_cons, List.drop_zero, bd11, Ty.own_bind_go_270, iu16]
      exact rfl, ?_⟩
  show P78_1 _ _
  exact ⟨by simp [hl], by simp [hl], by simp [hl]⟩
theorem R78_1 {rec78 : TestT → Option (Int × Bool)} (hrec78 : Spec78 rec78) (pe : Nat → Fr78 → ASt → Prop) (pr : Fr78 → ASt → Prop) : Ref Cb P78_2 (Cat [true, false, true, true, false, false] (bodyOf Tryz.f78)) (m78_1 rec78) (post P78_1 pe pr) := by
  rintro s ⟨t, h⟩ hp x s' hm
  have hp : P78_2' s t h := hp
  obtain ⟨hl, _⟩ := hp
  unfold m78_1 at hm
  cases hm
  refine ⟨⟨_, _⟩, by
      simp only [bodyOf, Tryz.f78, Cat, Bool.false_eq_true, e_seq, e_region, e_cond, e_block, ex_skip, ex_exit, ex_ret, o_cons, xops_nil, k_want_none, k_want_false, k_val, k_pan, k_call, k_ret, k_seq, k_seq_exit, k_seq_ret, k_true, k_false, k_block, k_block_exit, k_block_ret, k_loop, k_loop_exit, k_loop_ret, awanted, aoper, evalO, put, Option.getD_some, List.getElem?_set, acallOp, abuiltin, List.map_cons, List.map_nil, Nat.reduceEqDiff, Nat.reduceLT, List.length_set, Option.map_some, Option.bind_some, Option.bind_eq_bind, add_i, sub_i, mul_i, eql_i, neq_i, lss_i, leq_i, gtr_i, geq_i, ofV, ofCell, ↓reduceIte, List.cons_append, List.nil_append, List.append_nil, List.getElem?_toArray, List.getElem?_cons_succ, List.getElem?_cons_zero, e_draw, g_nil, g_cons, g_want, g_skip, g_val, g_call, g_ret, Option.map_none, hl, CP, bq1, bq2, bq3, bq4, ex_tup]
      exact rfl, ?_⟩
  show P78_1 _ _
  exact ⟨by simp [hl], by simp [hl], by simp [hl]⟩
theorem R78_2 {rec78 : TestT → Option (Int × Bool)} (hrec78 : Spec78 rec78) (pe : Nat → Fr78 → ASt → Prop) (pr : Fr78 → ASt → Prop) : Ref Cb P78_3 (Cat [true, false, true, true, true, true, false, true, true, false] (bodyOf Tryz.f78)) (m78_2 rec78) (post P78_1 pe pr) := by
  rintro s ⟨t, h⟩ hp x s' hm
  have hp : P78_3' s t h := hp
  obtain ⟨hl, a4, a5, a6, a7⟩ := hp
  unfold m78_2 at hm
  cases hb17 : s.t5 with
  | true =>
    all_goals (
      try simp only [hb17, cond_true, cond_false, Option.bind_some, Option.bind_assoc, Bool.not_true, Bool.not_false, Bool.true_and, Bool.false_and, Bool.and_true, Bool.and_false, Bool.true_or, Bool.false_or] at hm
      cases hm
      refine ⟨⟨_, _⟩, by
          simp only [bodyOf, Tryz.f78, Cat, Bool.false_eq_true, e_seq, e_region, e_cond, e_block, ex_skip, ex_exit, ex_ret, o_cons, xops_nil, k_want_none, k_want_false, k_val, k_pan, k_call, k_ret, k_seq, k_seq_exit, k_seq_ret, k_true, k_false, k_block, k_block_exit, k_block_ret, k_loop, k_loop_exit, k_loop_ret, awanted, aoper, evalO, put, Option.getD_some, List.getElem?_set, acallOp, abuiltin, List.map_cons, List.map_nil, Nat.reduceEqDiff, Nat.reduceLT, List.length_set, Option.map_some, Option.bind_some, Option.bind_eq_bind, add_i, sub_i, mul_i, eql_i, neq_i, lss_i, leq_i, gtr_i, geq_i, ofV, ofCell, ↓reduceIte, List.cons_append, List.nil_append, List.append_nil, List.getElem?_toArray, List.getElem?_cons_succ, List.getElem?_cons_zero, e_draw, g_nil, g_cons, g_want, g_skip, g_val, g_call, g_ret, Option.map_none, hl, a4, a5, a6, a7, CP, bq1, bq2, bq3, bq4, ex_tup, Ty.or3, hb17]
          exact rfl, ?_⟩
      show P78_1 _ _
      exact ⟨by simp [hl], by simp [hl, hb17], by simp [hl, hb17]⟩)
  | false =>
    all_goals (
      try simp only [hb17, cond_true, cond_false, Option.bind_some, Option.bind_assoc, Bool.not_true, Bool.not_false, Bool.true_and, Bool.false_and, Bool.and_true, Bool.and_false, Bool.true_or, Bool.false_or] at hm
      cases hm
      refine ⟨⟨_, _⟩, by
          simp only [bodyOf, Tryz.f78, Cat, Bool.false_eq_true, e_seq, e_region, e_cond, e_block, ex_skip, ex_exit, ex_ret, o_cons, xops_nil, k_want_none, k_want_false, k_val, k_pan, k_call, k_ret, k_seq, k_seq_exit, k_seq_ret, k_true, k_false, k_block, k_block_exit, k_block_ret, k_loop, k_loop_exit, k_loop_ret, awanted, aoper, evalO, put, Option.getD_some, List.getElem?_set, acallOp, abuiltin, List.map_cons, List.map_nil, Nat.reduceEqDiff, Nat.reduceLT, List.length_set, Option.map_some, Option.bind_some, Option.bind_eq_bind, add_i, sub_i, mul_i, eql_i, neq_i, lss_i, leq_i, gtr_i, geq_i, ofV, ofCell, ↓reduceIte, List.cons_append, List.nil_append, List.append_nil, List.getElem?_toArray, List.getElem?_cons_succ, List.getElem?_cons_zero, e_draw, g_nil, g_cons, g_want, g_skip, g_val, g_call, g_ret, Option.map_none, hl, a4, a5, a6, a7, CP, bq1, bq2, bq3, bq4, ex_tup, Ty.or3, hb17]
          exact rfl, ?_⟩
      show P78_1 _ _
      exact ⟨by simp [hl], by simp [hl, hb17], by simp [hl, hb17]⟩)
theorem R78_3 {rec78 : TestT → Option (Int × Bool)} (hrec78 : Spec78 rec78) (pe : Nat → Fr78 → ASt → Prop) (pr : Fr78 → ASt → Prop) : Ref Cb P78_4 (Cat [true, false, true, true, true, true, false, true, false] (bodyOf Tryz.f78)) (m78_3 rec78) (post P78_3 pe pr) := by
  rintro s ⟨t, h⟩ hp x s' hm
  have hp : P78_4' s t h := hp
  obtain ⟨w0_0, hl, a0, r0_0, a4, a5⟩ := hp
  unfold m78_3 at hm
  obtain ⟨n22, hn22, hm⟩ := Option.bind_eq_some_iff.1 hm
  obtain ⟨bu23_0, bu23_1, bu23_2, bu23_3, qu23, gu23_0, gu23_1, gu23_2, gu23_3⟩ := rTestT_get r0_0 hn22
  subst qu23
  obtain ⟨z24, hz24, hm⟩ := Option.bind_eq_some_iff.1 hm
  have iu25 := hrec78 n22.Right _ gu23_1 _ hz24
  cases hm
  refine ⟨⟨_, _⟩, by
      simp only [bodyOf, Tryz.f78, Cat, Bool.false_eq_true, e_seq, e_region, e_cond, e_block, ex_skip, ex_exit, ex_ret, o_cons, xops_nil, k_want_none, k_want_false, k_val, k_pan, k_call, k_ret, k_seq, k_seq_exit, k_seq_ret, k_true, k_false, k_block, k_block_exit, k_block_ret, k_loop, k_loop_exit, k_loop_ret, awanted, aoper, evalO, put, Option.getD_some, List.getElem?_set, acallOp, abuiltin, List.map_cons, List.map_nil, Nat.reduceEqDiff, Nat.reduceLT, List.length_set, Option.map_some, Option.bind_some, Option.bind_eq_bind, add_i, sub_i, mul_i, eql_i, neq_i, lss_i, leq_i, gtr_i, geq_i, ofV, ofCell, ↓reduceIte, List.cons_append, List.nil_append, List.append_nil, List.getElem?_toArray, List.getElem?_cons_succ, List.getElem?_cons_zero, e_draw, g_nil, g_cons, g_want, g_skip, g_val, g_call, g_ret, Option.map_none, hl, a0, a4, a5, CP, bq1, bq2, bq3, bq4, ex_tup, Ty.fa57_2, dropCells, List.drop_succ_cons, List.drop_zero, Ty.ld32, ld_ip, ofc1, List.drop_succ_cons, List.drop_zero, iu25]
      exact rfl, ?_⟩
  show P78_3 _ _
  exact ⟨by simp [hl], by simp [a4], by simp [a5], by simp [hl], by simp [hl]⟩
theorem R78_4 {rec78 : TestT → Option (Int × Bool)} (hrec78 : Spec78 rec78) (pe : Nat → Fr78 → ASt → Prop) (pr : Fr78 → ASt → Prop) : Ref Cb P78_0 (Cat [true, false, true, true, true, true, false, false] (bodyOf Tryz.f78)) (m78_4 rec78) (post P78_4 pe pr) := by
  rintro s ⟨t, h⟩ hp x s' hm
  have hp : P78_0' s t h := hp
  obtain ⟨w0_0, hl, a0, r0_0⟩ := hp
  unfold m78_4 at hm
  obtain ⟨n30, hn30, hm⟩ := Option.bind_eq_some_iff.1 hm
  obtain ⟨bu31_0, bu31_1, bu31_2, bu31_3, qu31, gu31_0, gu31_1, gu31_2, gu31_3⟩ := rTestT_get r0_0 hn30
  subst qu31
  obtain ⟨z32, hz32, hm⟩ := Option.bind_eq_some_iff.1 hm
  have iu33 := hrec78 n30.Left _ gu31_0 _ hz32
  cases hm
  refine ⟨⟨_, _⟩, by
      simp only [bodyOf, Tryz.f78, Cat, Bool.false_eq_true, e_seq, e_region, e_cond, e_block, ex_skip, ex_exit, ex_ret, o_cons, xops_nil, k_want_none, k_want_false, k_val, k_pan, k_call, k_ret, k_seq, k_seq_exit, k_seq_ret, k_true, k_false, k_block, k_block_exit, k_block_ret, k_loop, k_loop_exit, k_loop_ret, awanted, aoper, evalO, put, Option.getD_some, List.getElem?_set, acallOp, abuiltin, List.map_cons, List.map_nil, Nat.reduceEqDiff, Nat.reduceLT, List.length_set, Option.map_some, Option.bind_some, Option.bind_eq_bind, add_i, sub_i, mul_i, eql_i, neq_i, lss_i, leq_i, gtr_i, geq_i, ofV, ofCell, ↓reduceIte, List.cons_append, List.nil_append, List.append_nil, List.getElem?_toArray, List.getElem?_cons_succ, List.getElem?_cons_zero, e_draw, g_nil, g_cons, g_want, g_skip, g_val, g_call, g_ret, Option.map_none, hl, a0, CP, bq1, bq2, bq3, bq4, ex_tup, Ty.fa57_1, dropCells, List.drop_succ_cons, List.drop_zero, Ty.ld32, ld_ip, ofc1, List.drop_succ_cons, List.drop_zero, iu33]
      exact rfl, ?_⟩
  show P78_4 _ _
  exact ⟨(.iptr [.int .i64 n30.Kind, bu31_0, bu31_1, .bool n30.Meas, .int .i64 n30.Index, .int .i64 n30.Op, bu31_2, bu31_3] : AVal), by simp [hl], by simp [a0], r0_0, by simp [hl], by simp [hl]⟩
theorem R78_5 {rec78 : TestT → Option (Int × Bool)} (hrec78 : Spec78 rec78) (pe : Nat → Fr78 → ASt → Prop) (pr : Fr78 → ASt → Prop) : Ref Cb P78_2 (Cat [true, false, true, true, true, true, true, true, false, false] (bodyOf Tryz.f78)) (m78_5 rec78) (post P78_1 pe pr) := by
  rintro s ⟨t, h⟩ hp x s' hm
  have hp : P78_2' s t h := hp
  obtain ⟨hl, _⟩ := hp
  unfold m78_5 at hm
  cases hm
  refine ⟨⟨_, _⟩, by
      simp only [bodyOf, Tryz.f78, Cat, Bool.false_eq_true, e_seq, e_region, e_cond, e_block, ex_skip, ex_exit, ex_ret, o_cons, xops_nil, k_want_none, k_want_false, k_val, k_pan, k_call, k_ret, k_seq, k_seq_exit, k_seq_ret, k_true, k_false, k_block, k_block_exit, k_block_ret, k_loop, k_loop_exit, k_loop_ret, awanted, aoper, evalO, put, Option.getD_some, List.getElem?_set, acallOp, abuiltin, List.map_cons, List.map_nil, Nat.reduceEqDiff, Nat.reduceLT, List.length_set, Option.map_some, Option.bind_some, Option.bind_eq_bind, add_i, sub_i, mul_i, eql_i, neq_i, lss_i, leq_i, gtr_i, geq_i, ofV, ofCell, ↓reduceIte, List.cons_append, List.nil_append, List.append_nil, List.getElem?_toArray, List.getElem?_cons_succ, List.getElem?_cons_zero, e_draw, g_nil, g_cons, g_want, g_skip, g_val, g_call, g_ret, Option.map_none, hl, CP, bq1, bq2, bq3, bq4, ex_tup]
      exact rfl, ?_⟩
  show P78_1 _ _
  exact ⟨by simp [hl], by simp [hl], by simp [hl]⟩
theorem R78_6 {rec78 : TestT → Option (Int × Bool)} (hrec78 : Spec78 rec78) (pe : Nat → Fr78 → ASt → Prop) (pr : Fr78 → ASt → Prop) : Ref Cb P78_0 (Cat [true, false, true, true, true, true, true, false] (bodyOf Tryz.f78)) (m78_6 rec78) (post P78_5 pe pr) := by
  rintro s ⟨t, h⟩ hp x s' hm
  have hp : P78_0' s t h := hp
  obtain ⟨w0_0, hl, a0, r0_0⟩ := hp
  unfold m78_6 at hm
  obtain ⟨n36, hn36, hm⟩ := Option.bind_eq_some_iff.1 hm
  obtain ⟨bu37_0, bu37_1, bu37_2, bu37_3, qu37, gu37_0, gu37_1, gu37_2, gu37_3⟩ := rTestT_get r0_0 hn36
  subst qu37
  cases hm
  refine ⟨⟨_, _⟩, by
      simp only [bodyOf, Tryz.f78, Cat, Bool.false_eq_true, e_seq, e_region, e_cond, e_block, ex_skip, ex_exit, ex_ret, o_cons, xops_nil, k_want_none, k_want_false, k_val, k_pan, k_call, k_ret, k_seq, k_seq_exit, k_seq_ret, k_true, k_false, k_block, k_block_exit, k_block_ret, k_loop, k_loop_exit, k_loop_ret, awanted, aoper, evalO, put, Option.getD_some, List.getElem?_set, acallOp, abuiltin, List.map_cons, List.map_nil, Nat.reduceEqDiff, Nat.reduceLT, List.length_set, Option.map_some, Option.bind_some, Option.bind_eq_bind, add_i, sub_i, mul_i, eql_i, neq_i, lss_i, leq_i, gtr_i, geq_i, ofV, ofCell, ↓reduceIte, List.cons_append, List.nil_append, List.append_nil, List.getElem?_toArray, List.getElem?_cons_succ, List.getElem?_cons_zero, e_draw, g_nil, g_cons, g_want, g_skip, g_val, g_call, g_ret, Option.map_none, hl, a0, CP, bq1, bq2, bq3, bq4, ex_tup, Ty.fa57_3, dropCells, List.drop_succ_cons, List.drop_zero, Ty.ld4, ld_ip, ofc1, List.drop_succ_cons, List.drop_zero]
      exact rfl, ?_⟩
  show P78_5 _ _
  exact ⟨(.iptr [.int .i64 n36.Kind, bu37_0, bu37_1, .bool n36.Meas, .int .i64 n36.Index, .int .i64 n36.Op, bu37_2, bu37_3] : AVal), by simp [hl], by simp [a0], r0_0, by simp [hl]⟩
theorem R78_7 {rec78 : TestT → Option (Int × Bool)} (hrec78 : Spec78 rec78) (pe : Nat → Fr78 → ASt → Prop) (pr : Fr78 → ASt → Prop) : Ref Cb P78_0 (Cat [true, false, true, true, true, false] (bodyOf Tryz.f78)) (m78_7 rec78) (post P78_6 pe pr) := by
  rintro s ⟨t, h⟩ hp x s' hm
  have hp : P78_0' s t h := hp
  obtain ⟨w0_0, hl, a0, r0_0⟩ := hp
  unfold m78_7 at hm
  obtain ⟨n40, hn40, hm⟩ := Option.bind_eq_some_iff.1 hm
  obtain ⟨bu41_0, bu41_1, bu41_2, bu41_3, qu41, gu41_0, gu41_1, gu41_2, gu41_3⟩ := rTestT_get r0_0 hn40
  subst qu41
  cases hb42 : (n40.Kind != 4) with
  | true =>
    all_goals (
      try simp only [hb42, cond_true, cond_false, Option.bind_some, Option.bind_assoc, Bool.not_true, Bool.not_false, Bool.true_and, Bool.false_and, Bool.and_true, Bool.and_false, Bool.true_or, Bool.false_or] at hm
      cases hm
      refine ⟨⟨_, _⟩, by
          simp only [bodyOf, Tryz.f78, Cat, Bool.false_eq_true, e_seq, e_region, e_cond, e_block, ex_skip, ex_exit, ex_ret, o_cons, xops_nil, k_want_none, k_want_false, k_val, k_pan, k_call, k_ret, k_seq, k_seq_exit, k_seq_ret, k_true, k_false, k_block, k_block_exit, k_block_ret, k_loop, k_loop_exit, k_loop_ret, awanted, aoper, evalO, put, Option.getD_some, List.getElem?_set, acallOp, abuiltin, List.map_cons, List.map_nil, Nat.reduceEqDiff, Nat.reduceLT, List.length_set, Option.map_some, Option.bind_some, Option.bind_eq_bind, add_i, sub_i, mul_i, eql_i, neq_i, lss_i, leq_i, gtr_i, geq_i, ofV, ofCell, ↓reduceIte, List.cons_append, List.nil_append, List.append_nil, List.getElem?_toArray, List.getElem?_cons_succ, List.getElem?_cons_zero, e_draw, g_nil, g_cons, g_want, g_skip, g_val, g_call, g_ret, Option.map_none, hl, a0, CP, bq1, bq2, bq3, bq4, ex_tup, Ty.fa57_0, dropCells, List.drop_succ_cons, List.drop_zero, Ty.ld3, ld_ip, ofc1, List.drop_succ_cons, List.drop_zero, hb42]
          exact rfl, ?_⟩
      show P78_6 _ _
      exact ⟨(.iptr [.int .i64 n40.Kind, bu41_0, bu41_1, .bool n40.Meas, .int .i64 n40.Index, .int .i64 n40.Op, bu41_2, bu41_3] : AVal), by simp [hl], by simp [a0], r0_0, by simp [hl, hb42]⟩)
  | false =>
    all_goals (
      try simp only [hb42, cond_true, cond_false, Option.bind_some, Option.bind_assoc, Bool.not_true, Bool.not_false, Bool.true_and, Bool.false_and, Bool.and_true, Bool.and_false, Bool.true_or, Bool.false_or] at hm
      cases hm
      refine ⟨⟨_, _⟩, by
          simp only [bodyOf, Tryz.f78, Cat, Bool.false_eq_true, e_seq, e_region, e_cond, e_block, ex_skip, ex_exit, ex_ret, o_cons, xops_nil, k_want_none, k_want_false, k_val, k_pan, k_call, k_ret, k_seq, k_seq_exit, k_seq_ret, k_true, k_false, k_block, k_block_exit, k_block_ret, k_loop, k_loop_exit, k_loop_ret, awanted, aoper, evalO, put, Option.getD_some, List.getElem?_set, acallOp, abuiltin, List.map_cons, List.map_nil, Nat.reduceEqDiff, Nat.reduceLT, List.length_set, Option.map_some, Option.bind_some, Option.bind_eq_bind, add_i, sub_i, mul_i, eql_i, neq_i, lss_i, leq_i, gtr_i, geq_i, ofV, ofCell, ↓reduceIte, List.cons_append, List.nil_append, List.append_nil, List.getElem?_toArray, List.getElem?_cons_succ, List.getElem?_cons_zero, e_draw, g_nil, g_cons, g_want, g_skip, g_val, g_call, g_ret, Option.map_none, hl, a0, CP, bq1, bq2, bq3, bq4, ex_tup, Ty.fa57_0, dropCells, List.drop_succ_cons, List.drop_zero, Ty.ld3, ld_ip, ofc1, List.drop_succ_cons, List.drop_zero, hb42]
          exact rfl, ?_⟩
      show P78_6 _ _
      exact ⟨(.iptr [.int .i64 n40.Kind, bu41_0, bu41_1, .bool n40.Meas, .int .i64 n40.Index, .int .i64 n40.Op, bu41_2, bu41_3] : AVal), by simp [hl], by simp [a0], r0_0, by simp [hl, hb42]⟩)
theorem R78_8 {rec78 : TestT → Option (Int × Bool)} (hrec78 : Spec78 rec78) (pe : Nat → Fr78 → ASt → Prop) (pr : Fr78 → ASt → Prop) : Ref Cb P78_0 (Cat [true, false, true, false] (bodyOf Tryz.f78)) (m78_8 rec78) (post P78_7 pe pr) := by
  rintro s ⟨t, h⟩ hp x s' hm
  have hp : P78_0' s t h := hp
  obtain ⟨w0_0, hl, a0, r0_0⟩ := hp
  unfold m78_8 at hm
  cases hb43 : s.t0.isNil with
  | true =>
    all_goals (
      try simp only [hb43, cond_true, cond_false, Option.bind_some, Option.bind_assoc, Bool.not_true, Bool.not_false, Bool.true_and, Bool.false_and, Bool.and_true, Bool.and_false, Bool.true_or, Bool.false_or] at hm
      obtain ⟨_, qz44⟩ | ⟨qz44, _⟩ := rTestT_nil r0_0
      rotate_left
      · rw [hb43] at qz44; cases qz44
      have z44 : ∀ (xo : Operand) (h : AHeap), abin Cb .eql 32 xo (.const (.pointer none)) h (w0_0) .nilPtr = some (.bool true) := fun xo h => by rw [qz44]; exact Ty.eqn32 xo h
      cases hm
      refine ⟨⟨_, _⟩, by
          simp only [bodyOf, Tryz.f78, Cat, Bool.false_eq_true, e_seq, e_region, e_cond, e_block, ex_skip, ex_exit, ex_ret, o_cons, xops_nil, k_want_none, k_want_false, k_val, k_pan, k_call, k_ret, k_seq, k_seq_exit, k_seq_ret, k_true, k_false, k_block, k_block_exit, k_block_ret, k_loop, k_loop_exit, k_loop_ret, awanted, aoper, evalO, put, Option.getD_some, List.getElem?_set, acallOp, abuiltin, List.map_cons, List.map_nil, Nat.reduceEqDiff, Nat.reduceLT, List.length_set, Option.map_some, Option.bind_some, Option.bind_eq_bind, add_i, sub_i, mul_i, eql_i, neq_i, lss_i, leq_i, gtr_i, geq_i, ofV, ofCell, ↓reduceIte, List.cons_append, List.nil_append, List.append_nil, List.getElem?_toArray, List.getElem?_cons_succ, List.getElem?_cons_zero, e_draw, g_nil, g_cons, g_want, g_skip, g_val, g_call, g_ret, Option.map_none, hl, a0, CP, bq1, bq2, bq3, bq4, ex_tup, z44, hb43]
          exact rfl, ?_⟩
      show P78_7 _ _
      exact ⟨w0_0, by simp [hl], by simp [a0], r0_0, by simp [hl, hb43]⟩)
  | false =>
    all_goals (
      try simp only [hb43, cond_true, cond_false, Option.bind_some, Option.bind_assoc, Bool.not_true, Bool.not_false, Bool.true_and, Bool.false_and, Bool.and_true, Bool.and_false, Bool.true_or, Bool.false_or] at hm
      obtain ⟨qz45, _⟩ | ⟨_, csz45, qz45⟩ := rTestT_nil r0_0
      · rw [hb43] at qz45; cases qz45
      have z45 : ∀ (xo yo : Operand) (h : AHeap), abin Cb .eql 32 xo yo h (w0_0) .nilPtr = some (.bool false) := fun xo yo h => by rw [qz45]; exact Ty.eqp32 xo yo h _
      clear qz45
      cases hm
      refine ⟨⟨_, _⟩, by
          simp only [bodyOf, Tryz.f78, Cat, Bool.false_eq_true, e_seq, e_region, e_cond, e_block, ex_skip, ex_exit, ex_ret, o_cons, xops_nil, k_want_none, k_want_false, k_val, k_pan, k_call, k_ret, k_seq, k_seq_exit, k_seq_ret, k_true, k_false, k_block, k_block_exit, k_block_ret, k_loop, k_loop_exit, k_loop_ret, awanted, aoper, evalO, put, Option.getD_some, List.getElem?_set, acallOp, abuiltin, List.map_cons, List.map_nil, Nat.reduceEqDiff, Nat.reduceLT, List.length_set, Option.map_some, Option.bind_some, Option.bind_eq_bind, add_i, sub_i, mul_i, eql_i, neq_i, lss_i, leq_i, gtr_i, geq_i, ofV, ofCell, ↓reduceIte, List.cons_append, List.nil_append, List.append_nil, List.getElem?_toArray, List.getElem?_cons_succ, List.getElem?_cons_zero, e_draw, g_nil, g_cons, g_want, g_skip, g_val, g_call, g_ret, Option.map_none, hl, a0, CP, bq1, bq2, bq3, bq4, ex_tup, z45, hb43]
          exact rfl, ?_⟩
      show P78_7 _ _
      exact ⟨w0_0, by simp [hl], by simp [a0], r0_0, by simp [hl, hb43]⟩)
theorem R78_9 {rec78 : TestT → Option (Int × Bool)} (hrec78 : Spec78 rec78) (pe : Nat → Fr78 → ASt → Prop) (pr : Fr78 → ASt → Prop) : Ref Cb P78_0 (Cat [false] (bodyOf Tryz.f78)) (m78_9 rec78) (post P78_0 pe pr) := by
  rintro s ⟨t, h⟩ hp x s' hm
  have hp : P78_0' s t h := hp
  obtain ⟨w0_0, hl, a0, r0_0⟩ := hp
  unfold m78_9 at hm
  cases hm
  refine ⟨⟨_, _⟩, by
      simp only [bodyOf, Tryz.f78, Cat, Bool.false_eq_true, e_seq, e_region, e_cond, e_block, ex_skip, ex_exit, ex_ret, o_cons, xops_nil, k_want_none, k_want_false, k_val, k_pan, k_call, k_ret, k_seq, k_seq_exit, k_seq_ret, k_true, k_false, k_block, k_block_exit, k_block_ret, k_loop, k_loop_exit, k_loop_ret, awanted, aoper, evalO, put, Option.getD_some, List.getElem?_set, acallOp, abuiltin, List.map_cons, List.map_nil, Nat.reduceEqDiff, Nat.reduceLT, List.length_set, Option.map_some, Option.bind_some, Option.bind_eq_bind, add_i, sub_i, mul_i, eql_i, neq_i, lss_i, leq_i, gtr_i, geq_i, ofV, ofCell, ↓reduceIte, List.cons_append, List.nil_append, List.append_nil, List.getElem?_toArray, List.getElem?_cons_succ, List.getElem?_cons_zero, e_draw, g_nil, g_cons, g_want, g_skip, g_val, g_call, g_ret, Option.map_none, hl, a0, CP, bq1, bq2, bq3, bq4, ex_tup]
      exact rfl, ?_⟩
  show P78_0 _ _
  exact ⟨w0_0, by simp [hl], by simp [a0], r0_0⟩
theorem B78 {rec78 : TestT → Option (Int × Bool)} (hrec78 : Spec78 rec78) : Ref Cb P78_0 (bodyOf Tryz.f78) (M78 rec78) (post P78_1 (fun _ _ _ => False) P78_1) := by
  rw [show bodyOf Tryz.f78 = .seq (Cat [false] (bodyOf Tryz.f78)) (.seq (.block 0 (.seq (Cat [true, false, true, false] (bodyOf Tryz.f78)) (.cond (.tmp 8) (.seq (Cat [true, false, true, true, false, false] (bodyOf Tryz.f78)) (.ret)) (.seq (Cat [true, false, true, true, true, false] (bodyOf Tryz.f78)) (.cond (.tmp 11) (.seq (Cat [true, false, true, true, true, true, false, false] (bodyOf Tryz.f78)) (.seq (Cat [true, false, true, true, true, true, false, true, false] (bodyOf Tryz.f78)) (.seq (Cat [true, false, true, true, true, true, false, true, true, false] (bodyOf Tryz.f78)) (.ret)))) (.seq (Cat [true, false, true, true, true, true, true, false] (bodyOf Tryz.f78)) (.cond (.tmp 47) (.seq (Cat [true, false, true, true, true, true, true, true, false, false] (bodyOf Tryz.f78)) (.ret)) (.skip)))))))) (.seq (Cat [true, true, false] (bodyOf Tryz.f78)) (.ret))) from rfl]
  unfold M78
  exact ref_seq (M := P78_0) (R78_9 hrec78 _ _) (ref_seq (M := P78_0) (ref_block (ref_seq (M := P78_7) (R78_8 hrec78 _ _) (ref_cond (P := P78_7) (c := fun s => s.t8) (fun s st hp => by obtain ⟨w0_0, hl, a0, r0_0, a8⟩ := (hp : P78_7' s st.tmps st.h); simp only [evalO, a8, Option.getD_some]) (ref_weak (P' := P78_2) (fun s st hp => by obtain ⟨w0_0, hl, a0, r0_0, a8⟩ := (hp : P78_7' s st.tmps st.h); exact (⟨hl, trivial⟩ : P78_2' s st.tmps st.h)) (ref_seq (M := P78_1) (R78_1 hrec78 _ _) (ref_ret (fun s st hp => hp)))) (ref_weak (P' := P78_0) (fun s st hp => by obtain ⟨w0_0, hl, a0, r0_0, a8⟩ := (hp : P78_7' s st.tmps st.h); exact (⟨w0_0, hl, a0, r0_0⟩ : P78_0' s st.tmps st.h)) (ref_seq (M := P78_6) (R78_7 hrec78 _ _) (ref_cond (P := P78_6) (c := fun s => s.t11) (fun s st hp => by obtain ⟨w0_0, hl, a0, r0_0, a11⟩ := (hp : P78_6' s st.tmps st.h); simp only [evalO, a11, Option.getD_some]) (ref_weak (P' := P78_0) (fun s st hp => by obtain ⟨w0_0, hl, a0, r0_0, a11⟩ := (hp : P78_6' s st.tmps st.h); exact (⟨w0_0, hl, a0, r0_0⟩ : P78_0' s st.tmps st.h)) (ref_seq (M := P78_4) (R78_4 hrec78 _ _) (ref_seq (M := P78_3) (R78_3 hrec78 _ _) (ref_seq (M := P78_1) (R78_2 hrec78 _ _) (ref_ret (fun s st hp => hp)))))) (ref_weak (P' := P78_0) (fun s st hp => by obtain ⟨w0_0, hl, a0, r0_0, a11⟩ := (hp : P78_6' s st.tmps st.h); exact (⟨w0_0, hl, a0, r0_0⟩ : P78_0' s st.tmps st.h)) (ref_seq (M := P78_5) (R78_6 hrec78 _ _) (ref_cond (P := P78_5) (c := fun s => s.t47) (fun s st hp => by obtain ⟨w0_0, hl, a0, r0_0, a47⟩ := (hp : P78_5' s st.tmps st.h); simp only [evalO, a47, Option.getD_some]) (ref_weak (P' := P78_2) (fun s st hp => by obtain ⟨w0_0, hl, a0, r0_0, a47⟩ := (hp : P78_5' s st.tmps st.h); exact (⟨hl, trivial⟩ : P78_2' s st.tmps st.h)) (ref_seq (M := P78_1) (R78_5 hrec78 _ _) (ref_ret (fun s st hp => hp)))) (ref_weak (P' := P78_0) (fun s st hp => by obtain ⟨w0_0, hl, a0, r0_0, a47⟩ := (hp : P78_5' s st.tmps st.h); exact (⟨w0_0, hl, a0, r0_0⟩ : P78_0' s st.tmps st.h)) (ref_skip (fun s st hp => hp)))))))))))) (ref_seq (M := P78_1) (R78_0 hrec78 _ _) (ref_ret (fun s st hp => hp))))
noncomputable def G78 (rec78 : TestT → Option (Int × Bool)) (x0 : TestT) : Option (Int × Bool) := match M78 rec78 { (default : Fr78) with t0 := x0 } with
  | some (.nrm, s) => some (s.t2, s.t3)
  | some (.ret, s) => some (s.t2, s.t3)
  | _ => none
theorem G78_spec {rec78 : TestT → Option (Int × Bool)} (hrec78 : Spec78 rec78) : Spec78 (G78 rec78) := by
  intro x0 vx0_0 hvx0_0 r hr
  unfold G78 at hr
  cases hm : M78 rec78 { (default : Fr78) with t0 := x0 } with
  | none => rw [hm] at hr; cases hr
  | some q =>
    obtain ⟨x, s⟩ := q
    rw [hm] at hr
    have hx : x = .nrm ∨ x = .ret := by cases x <;> first | exact .inl rfl | exact .inr rfl | cases hr
    have hr : (s.t2, s.t3) = r := by cases x <;> first | exact Option.some.inj hr | cases hr
    subst hr
    have hp0 : P78_0' ({ (default : Fr78) with t0 := x0 }) (slots Tryz.f78 (stripL [vx0_0])) bare := ⟨(strip vx0_0 : AVal), rfl, rfl, rTestT_p.str _ _ hvx0_0⟩
    obtain ⟨v, hR, hrun⟩ := run_of_ref (C := Cb) (f := 78) (fn := Tryz.f78) Tryz.func78 rfl rfl rfl rfl (args := [vx0_0]) (by simp only [refsL, refs, List.append_nil, refs_one (rTestT_p.ref _ _ hvx0_0)]) (B78 hrec78) (s0 := { (default : Fr78) with t0 := x0 }) hp0 hm hx (R := fun v => v = .tup [.int .i64 s.t2, .bool s.t3]) (by
      have key : ∀ st : ASt, P78_1 s st → ∃ vs v, aresults Cb Tryz.f78.results.toList st = some vs ∧ Nrm [] st.h (packRes vs) v ∧ (fun v => v = .tup [.int .i64 s.t2, .bool s.t3]) v := by
        intro st hp
        obtain ⟨hl, a2, a3⟩ := (hp : P78_1' s st.tmps st.h)
        exact ⟨[.int .i64 s.t2, .bool s.t3], _, by simp only [show Tryz.f78.results.toList = [ResultVar.tmp 2, ResultVar.tmp 3] from rfl, aresults, ares1, CP, a2, a3, Option.getD_some], (Nrm.tup (NrmL.cons (Nrm.of (w := .int .i64 s.t2) (by simp only [refsL, refs, List.append_nil])) (NrmL.cons (Nrm.of (w := .bool s.t3) (by simp only [refsL, refs, List.append_nil])) NrmL.nil))), rfl⟩
      intro st hq
      rcases hx with rfl | rfl
      · exact key st hq
      · exact key st hq)
    subst hR
    exact hrun
noncomputable def F78 : Nat → TestT → Option (Int × Bool)
  | 0 => fun _ => none
  | n + 1 => G78 (F78 n)
theorem F78_spec : ∀ n, Spec78 (F78 n)
  | 0 => fun x0 vx0_0 hvx0_0 r hr => by cases hr
  | n + 1 => G78_spec (F78_spec n)
theorem Spec78_fuel {f : TestT → Option (Int × Bool)} (h : ∀ x0 r, f x0 = some r → ∃ n, F78 n x0 = some r) : Spec78 f := fun x0 vx0_0 hvx0_0 r hr => by
  obtain ⟨n, hn⟩ := h x0 r hr
  exact F78_spec n x0 vx0_0 hvx0_0 r hn
end Go.Proofs.Bnd
