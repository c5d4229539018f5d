/-
  PARSE (Sd): functions (printed by wip/tools/tg.py).
-/
import Derived.Test.YthfbbjoaidajfaaGreatDoorParSdTypes
set_option linter.unusedVariables false
set_option linter.unusedSimpArgs false
set_option linter.unusedSimpArgs false
set_option linter.unusedVariables false
set_option maxRecDepth 100000
namespace Go.Proofs.Par
open Go Go.Am Go.Proofs
def S11 : Option Bool := some true
/-! ### caisson/caissonlaw10.awake -/
def Spec11 (f : Option Bool) : Prop := ∀ (r : Bool), f  = some r → ∀ h, run Cp 11 [] h = some (.ret (.bool r), h)
theorem S11_spec : Spec11 S11 := fun r hr h => by cases hr; exact awake_run h
/-! ### caisson/caissonlaw10.ParseSame -/
structure Fr5 where
  t0 : Query
  t1 : Query
  t2 : Query
  t3 : Query
  t4 : Bool
  t5 : Bool
instance : Inhabited Fr5 := ⟨⟨default, default, default, default, false, false⟩⟩
def P5_0' (s : Fr5) (t : List AVal) (h : AHeap) : Prop := ∃ i2 w2_0 w2_1 w2_2 i3 w3_0 w3_1 w3_2, t.length = 26 ∧ t[2]? = some (.ptr i2 0) ∧ h.get i2 = some (.arr [w2_0, .str s.t2.Table, w2_1, .bool s.t2.Grouped, w2_2]) ∧ i2 < h.next ∧ Sl rItem s.t2.Items w2_0 ∧ rCondT s.t2.Where [w2_1] ∧ Sl rGroup s.t2.Groups w2_2 ∧ t[3]? = some (.ptr i3 0) ∧ h.get i3 = some (.arr [w3_0, .str s.t3.Table, w3_1, .bool s.t3.Grouped, w3_2]) ∧ i3 < h.next ∧ Sl rItem s.t3.Items w3_0 ∧ rCondT s.t3.Where [w3_1] ∧ Sl rGroup s.t3.Groups w3_2 ∧ t[5]? = some (.bool s.t5) ∧ i2 ≠ i3
def P5_0 (s : Fr5) (st : ASt) : Prop := P5_0' s st.tmps st.h
def P5_1' (s : Fr5) (t : List AVal) (h : AHeap) : Prop := t.length = 26 ∧ t[4]? = some (.bool s.t4)
def P5_1 (s : Fr5) (st : ASt) : Prop := P5_1' s st.tmps st.h
def P5_2' (s : Fr5) (t : List AVal) (h : AHeap) : Prop := ∃ i2 w2_0 w2_1 w2_2 i3 w3_0 w3_1 w3_2, t.length = 26 ∧ t[2]? = some (.ptr i2 0) ∧ h.get i2 = some (.arr [w2_0, .str s.t2.Table, w2_1, .bool s.t2.Grouped, w2_2]) ∧ i2 < h.next ∧ Sl rItem s.t2.Items w2_0 ∧ rCondT s.t2.Where [w2_1] ∧ Sl rGroup s.t2.Groups w2_2 ∧ t[3]? = some (.ptr i3 0) ∧ h.get i3 = some (.arr [w3_0, .str s.t3.Table, w3_1, .bool s.t3.Grouped, w3_2]) ∧ i3 < h.next ∧ Sl rItem s.t3.Items w3_0 ∧ rCondT s.t3.Where [w3_1] ∧ Sl rGroup s.t3.Groups w3_2 ∧ i2 ≠ i3
def P5_2 (s : Fr5) (st : ASt) : Prop := P5_2' s st.tmps st.h
def P5_3' (s : Fr5) (t : List AVal) (h : AHeap) : Prop := ∃ w0_0 w0_1 w0_2 w1_0 w1_1 w1_2, t.length = 26 ∧ t[0]? = some (.agg [w0_0, .str s.t0.Table, w0_1, .bool s.t0.Grouped, w0_2]) ∧ Sl rItem s.t0.Items w0_0 ∧ rCondT s.t0.Where [w0_1] ∧ Sl rGroup s.t0.Groups w0_2 ∧ t[1]? = some (.agg [w1_0, .str s.t1.Table, w1_1, .bool s.t1.Grouped, w1_2]) ∧ Sl rItem s.t1.Items w1_0 ∧ rCondT s.t1.Where [w1_1] ∧ Sl rGroup s.t1.Groups w1_2
def P5_3 (s : Fr5) (st : ASt) : Prop := P5_3' s st.tmps st.h
noncomputable def m5_0 : Mo Fr5 := fun s => (cond s.t5 ((G19 s.t2 s.t3).bind fun z3 => (G14 s.t2 s.t3).bind fun z7 => some (z3 == z7)) (some false)).bind fun x9 => (cond (s.t5 && x9) ((G19 s.t3 s.t2).bind fun z12 => (G14 s.t3 s.t2).bind fun z16 => some (z12 == z16)) (some false)).bind fun x18 => some (.nrm, { s with t4 := ((s.t5 && x9) && x18) })
noncomputable def m5_1 : Mo Fr5 := fun s => (S11 ).bind fun z37 => some (.nrm, { s with t5 := z37 })
noncomputable def m5_2 : Mo Fr5 := fun s => some (.nrm, { s with t2 := s.t0, t3 := s.t1 })
noncomputable def M5 : Mo Fr5 := seqM (m5_2) (seqM (m5_1) (seqM (m5_0) (retM)))
def Spec5 (f : Query → Query → Option Bool) : Prop := ∀ (x0 : Query) (x1 : Query) (vx0_0 : AVal) (_ : Sl rItem x0.Items vx0_0) (vx0_1 : AVal) (_ : rCondT x0.Where [vx0_1]) (vx0_2 : AVal) (_ : Sl rGroup x0.Groups vx0_2) (vx1_0 : AVal) (_ : Sl rItem x1.Items vx1_0) (vx1_1 : AVal) (_ : rCondT x1.Where [vx1_1]) (vx1_2 : AVal) (_ : Sl rGroup x1.Groups vx1_2) (r : Bool), f x0 x1 = some r → ∀ h, run Cp 5 [.agg [vx0_0, .str x0.Table, vx0_1, .bool x0.Grouped, vx0_2], .agg [vx1_0, .str x1.Table, vx1_1, .bool x1.Grouped, vx1_2]] h = some (.ret (.bool r), h)
theorem Spec5_of {f g : Query → Query → Option Bool} (hg : Spec5 g) (h : ∀ x0 x1 r, f x0 x1 = some r → g x0 x1 = some r) : Spec5 f := fun x0 x1 v0_ w0_ v1_ w1_ v2_ w2_ v3_ w3_ v4_ w4_ v5_ w5_ r hr => hg x0 x1 v0_ w0_ v1_ w1_ v2_ w2_ v3_ w3_ v4_ w4_ v5_ w5_ r (h x0 x1 r hr)
theorem R5_0 (pe : Nat → Fr5 → ASt → Prop) (pr : Fr5 → ASt → Prop) : Ref Cp P5_0 (Cat [true, true, false] (bodyOf Tryz.f5)) m5_0 (post P5_1 pe pr) := by
  rintro s ⟨t, h⟩ hp x s' hm
  have hp : P5_0' s t h := hp
  obtain ⟨i2, w2_0, w2_1, w2_2, i3, w3_0, w3_1, w3_2, hl, a2, g2, l2, r2_0, r2_1, r2_2, a3, g3, l3, r3_0, r3_1, r3_2, a5, ne2_3⟩ := hp
  unfold m5_0 at hm
  cases hb19 : s.t5 with
  | true =>
    all_goals (
      try simp only [hb19, cond_true, cond_false, Option.bind_some, Option.bind_assoc, Bool.not_true, Bool.not_false, Bool.true_and, Bool.false_and, Bool.and_true, Bool.and_false, Bool.true_or, Bool.false_or] at hm
      have k20 : loadA h true 5 (.ptr i2 0) = some (.agg [w2_0, .str s.t2.Table, w2_1, .bool s.t2.Grouped, w2_2]) := by rw [Heap.load_gen g2 (Nat.le_of_ble_eq_true rfl)]; first | rfl | exact ofc5 _ _ _ _ _ _
      have k21 : loadA h true 5 (.ptr i3 0) = some (.agg [w3_0, .str s.t3.Table, w3_1, .bool s.t3.Grouped, w3_2]) := by rw [Heap.load_gen g3 (Nat.le_of_ble_eq_true rfl)]; first | rfl | exact ofc5 _ _ _ _ _ _
      obtain ⟨z22, hz22, hm⟩ := Option.bind_eq_some_iff.1 hm
      have iu23 := G19_spec s.t2 s.t3 _ r2_0 _ r2_1 _ r2_2 _ r3_0 _ r3_1 _ r3_2 _ hz22
      have apu23 : apure Cp 19 [.agg [w2_0, .str s.t2.Table, w2_1, .bool s.t2.Grouped, w2_2], .agg [w3_0, .str s.t3.Table, w3_1, .bool s.t3.Grouped, w3_2]] = true := apure_of rfl rfl (by simp only [refsL, refs, List.append_nil, List.nil_append, r2_0.refs rItem_p, refs_one (rCondT_p.ref _ _ r2_1), r2_2.refs rGroup_p, r3_0.refs rItem_p, refs_one (rCondT_p.ref _ _ r3_1), r3_2.refs rGroup_p])
      have k24 : loadA h true 5 (.ptr i2 0) = some (.agg [w2_0, .str s.t2.Table, w2_1, .bool s.t2.Grouped, w2_2]) := by rw [Heap.load_gen g2 (Nat.le_of_ble_eq_true rfl)]; first | rfl | exact ofc5 _ _ _ _ _ _
      have k25 : loadA h true 5 (.ptr i3 0) = some (.agg [w3_0, .str s.t3.Table, w3_1, .bool s.t3.Grouped, w3_2]) := by rw [Heap.load_gen g3 (Nat.le_of_ble_eq_true rfl)]; first | rfl | exact ofc5 _ _ _ _ _ _
      obtain ⟨z26, hz26, hm⟩ := Option.bind_eq_some_iff.1 hm
      have iu27 := G14_spec s.t2 s.t3 _ r2_0 _ r2_1 _ r2_2 _ r3_0 _ r3_1 _ r3_2 _ hz26
      have apu27 : apure Cp 14 [.agg [w2_0, .str s.t2.Table, w2_1, .bool s.t2.Grouped, w2_2], .agg [w3_0, .str s.t3.Table, w3_1, .bool s.t3.Grouped, w3_2]] = true := apure_of rfl rfl (by simp only [refsL, refs, List.append_nil, List.nil_append, r2_0.refs rItem_p, refs_one (rCondT_p.ref _ _ r2_1), r2_2.refs rGroup_p, r3_0.refs rItem_p, refs_one (rCondT_p.ref _ _ r3_1), r3_2.refs rGroup_p])
      try simp only [cond_true, cond_false, Option.bind_some, Option.bind_assoc, Bool.not_true, Bool.not_false, Bool.true_and, Bool.false_and, Bool.and_true, Bool.and_false, Bool.true_or, Bool.false_or] at hm
      cases hb28 : (z22 == z26) with
      | true =>
        all_goals (
          try simp only [hb28, cond_true, cond_false, Option.bind_some, Option.bind_assoc, Bool.not_true, Bool.not_false, Bool.true_and, Bool.false_and, Bool.and_true, Bool.and_false, Bool.true_or, Bool.false_or] at hm
          have k29 : loadA h true 5 (.ptr i3 0) = some (.agg [w3_0, .str s.t3.Table, w3_1, .bool s.t3.Grouped, w3_2]) := by rw [Heap.load_gen g3 (Nat.le_of_ble_eq_true rfl)]; first | rfl | exact ofc5 _ _ _ _ _ _
          have k30 : loadA h true 5 (.ptr i2 0) = some (.agg [w2_0, .str s.t2.Table, w2_1, .bool s.t2.Grouped, w2_2]) := by rw [Heap.load_gen g2 (Nat.le_of_ble_eq_true rfl)]; first | rfl | exact ofc5 _ _ _ _ _ _
          obtain ⟨z31, hz31, hm⟩ := Option.bind_eq_some_iff.1 hm
          have iu32 := G19_spec s.t3 s.t2 _ r3_0 _ r3_1 _ r3_2 _ r2_0 _ r2_1 _ r2_2 _ hz31
          have apu32 : apure Cp 19 [.agg [w3_0, .str s.t3.Table, w3_1, .bool s.t3.Grouped, w3_2], .agg [w2_0, .str s.t2.Table, w2_1, .bool s.t2.Grouped, w2_2]] = true := apure_of rfl rfl (by simp only [refsL, refs, List.append_nil, List.nil_append, r3_0.refs rItem_p, refs_one (rCondT_p.ref _ _ r3_1), r3_2.refs rGroup_p, r2_0.refs rItem_p, refs_one (rCondT_p.ref _ _ r2_1), r2_2.refs rGroup_p])
          have k33 : loadA h true 5 (.ptr i3 0) = some (.agg [w3_0, .str s.t3.Table, w3_1, .bool s.t3.Grouped, w3_2]) := by rw [Heap.load_gen g3 (Nat.le_of_ble_eq_true rfl)]; first | rfl | exact ofc5 _ _ _ _ _ _
          have k34 : loadA h true 5 (.ptr i2 0) = some (.agg [w2_0, .str s.t2.Table, w2_1, .bool s.t2.Grouped, w2_2]) := by rw [Heap.load_gen g2 (Nat.le_of_ble_eq_true rfl)]; first | rfl | exact ofc5 _ _ _ _ _ _
          obtain ⟨z35, hz35, hm⟩ := Option.bind_eq_some_iff.1 hm
          have iu36 := G14_spec s.t3 s.t2 _ r3_0 _ r3_1 _ r3_2 _ r2_0 _ r2_1 _ r2_2 _ hz35
          have apu36 : apure Cp 14 [.agg [w3_0, .str s.t3.Table, w3_1, .bool s.t3.Grouped, w3_2], .agg [w2_0, .str s.t2.Table, w2_1, .bool s.t2.Grouped, w2_2]] = true := apure_of rfl rfl (by simp only [refsL, refs, List.append_nil, List.nil_append, r3_0.refs rItem_p, refs_one (rCondT_p.ref _ _ r3_1), r3_2.refs rGroup_p, r2_0.refs rItem_p, refs_one (rCondT_p.ref _ _ r2_1), r2_2.refs rGroup_p])
          try simp only [cond_true, cond_false, Option.bind_some, Option.bind_assoc, Bool.not_true, Bool.not_false, Bool.true_and, Bool.false_and, Bool.and_true, Bool.and_false, Bool.true_or, Bool.false_or] at hm
          cases hm
          refine ⟨⟨_, _⟩, by
              simp only [bodyOf, Tryz.f5, Cat, Bool.false_eq_true, e_seq, e_region, e_cond, e_block, ex_skip, ex_exit, ex_ret, o_cons, xops_nil, k_want_none, k_want_false, k_val, k_pan, k_call, k_ret, k_seq, k_seq_exit, k_seq_ret, k_true, k_false, k_block, k_block_exit, k_block_ret, k_loop, k_loop_exit, k_loop_ret, awanted, aoper, evalO, put, Option.getD_some, List.getElem?_set, acallOp, abuiltin, List.map_cons, List.map_nil, Nat.reduceEqDiff, Nat.reduceLT, List.length_set, Option.map_some, Option.bind_some, Option.bind_eq_bind, add_i, sub_i, mul_i, eql_i, neq_i, lss_i, leq_i, gtr_i, geq_i, ofV, ofCell, ↓reduceIte, List.cons_append, List.nil_append, List.append_nil, List.getElem?_toArray, List.getElem?_cons_succ, List.getElem?_cons_zero, e_draw, g_nil, g_cons, g_want, g_skip, g_val, g_call, g_ret, Option.map_none, hl, a2, a3, a5, CP, bq1, bq2, bq3, bq4, ex_tup, k20, TyG.ld27, k21, iu23, apu23, if_true, k24, k25, iu27, apu27, TyG.eqlb4, k29, k30, iu32, apu32, k33, k34, iu36, apu36, hb19, hb28]
              rw [k_draw _ _ _ (by kernel_rfl)]
              exact rfl, ?_⟩
          show P5_1 _ _
          exact ⟨by simp [hl], by simp [hl, hb19, hb28]⟩)
      | false =>
        all_goals (
          try simp only [hb28, cond_true, cond_false, Option.bind_some, Option.bind_assoc, Bool.not_true, Bool.not_false, Bool.true_and, Bool.false_and, Bool.and_true, Bool.and_false, Bool.true_or, Bool.false_or] at hm
          cases hm
          refine ⟨⟨_, _⟩, by
              simp only [bodyOf, Tryz.f5, Cat, Bool.false_eq_true, e_seq, e_region, e_cond, e_block, ex_skip, ex_exit, ex_ret, o_cons, xops_nil, k_want_none, k_want_false, k_val, k_pan, k_call, k_ret, k_seq, k_seq_exit, k_seq_ret, k_true, k_false, k_block, k_block_exit, k_block_ret, k_loop, k_loop_exit, k_loop_ret, awanted, aoper, evalO, put, Option.getD_some, List.getElem?_set, acallOp, abuiltin, List.map_cons, List.map_nil, Nat.reduceEqDiff, Nat.reduceLT, List.length_set, Option.map_some, Option.bind_some, Option.bind_eq_bind, add_i, sub_i, mul_i, eql_i, neq_i, lss_i, leq_i, gtr_i, geq_i, ofV, ofCell, ↓reduceIte, List.cons_append, List.nil_append, List.append_nil, List.getElem?_toArray, List.getElem?_cons_succ, List.getElem?_cons_zero, e_draw, g_nil, g_cons, g_want, g_skip, g_val, g_call, g_ret, Option.map_none, hl, a2, a3, a5, CP, bq1, bq2, bq3, bq4, ex_tup, k20, TyG.ld27, k21, iu23, apu23, if_true, k24, k25, iu27, apu27, TyG.eqlb4, hb19, hb28]
              rw [k_draw _ _ _ (by kernel_rfl)]
              exact rfl, ?_⟩
          show P5_1 _ _
          exact ⟨by simp [hl], by simp [hl, hb19, hb28]⟩))
  | false =>
    all_goals (
      try simp only [hb19, cond_true, cond_false, Option.bind_some, Option.bind_assoc, Bool.not_true, Bool.not_false, Bool.true_and, Bool.false_and, Bool.and_true, Bool.and_false, Bool.true_or, Bool.false_or] at hm
      cases hm
      refine ⟨⟨_, _⟩, by
          simp only [bodyOf, Tryz.f5, Cat, Bool.false_eq_true, e_seq, e_region, e_cond, e_block, ex_skip, ex_exit, ex_ret, o_cons, xops_nil, k_want_none, k_want_false, k_val, k_pan, k_call, k_ret, k_seq, k_seq_exit, k_seq_ret, k_true, k_false, k_block, k_block_exit, k_block_ret, k_loop, k_loop_exit, k_loop_ret, awanted, aoper, evalO, put, Option.getD_some, List.getElem?_set, acallOp, abuiltin, List.map_cons, List.map_nil, Nat.reduceEqDiff, Nat.reduceLT, List.length_set, Option.map_some, Option.bind_some, Option.bind_eq_bind, add_i, sub_i, mul_i, eql_i, neq_i, lss_i, leq_i, gtr_i, geq_i, ofV, ofCell, ↓reduceIte, List.cons_append, List.nil_append, List.append_nil, List.getElem?_toArray, List.getElem?_cons_succ, List.getElem?_cons_zero, e_draw, g_nil, g_cons, g_want, g_skip, g_val, g_call, g_ret, Option.map_none, hl, a2, a3, a5, CP, bq1, bq2, bq3, bq4, ex_tup, hb19]
          rw [k_draw _ _ _ (by kernel_rfl)]
          exact rfl, ?_⟩
      show P5_1 _ _
      exact ⟨by simp [hl], by simp [hl, hb19]⟩)
theorem R5_1 (pe : Nat → Fr5 → ASt → Prop) (pr : Fr5 → ASt → Prop) : Ref Cp P5_2 (Cat [true, false] (bodyOf Tryz.f5)) m5_1 (post P5_0 pe pr) := by
  rintro s ⟨t, h⟩ hp x s' hm
  have hp : P5_2' s t h := hp
  obtain ⟨i2, w2_0, w2_1, w2_2, i3, w3_0, w3_1, w3_2, hl, a2, g2, l2, r2_0, r2_1, r2_2, a3, g3, l3, r3_0, r3_1, r3_2, ne2_3⟩ := hp
  unfold m5_1 at hm
  obtain ⟨z39, hz39, hm⟩ := Option.bind_eq_some_iff.1 hm
  have iu40 := S11_spec   _ hz39
  cases hm
  refine ⟨⟨_, _⟩, by
      simp only [bodyOf, Tryz.f5, Cat, Bool.false_eq_true, e_seq, e_region, e_cond, e_block, ex_skip, ex_exit, ex_ret, o_cons, xops_nil, k_want_none, k_want_false, k_val, k_pan, k_call, k_ret, k_seq, k_seq_exit, k_seq_ret, k_true, k_false, k_block, k_block_exit, k_block_ret, k_loop, k_loop_exit, k_loop_ret, awanted, aoper, evalO, put, Option.getD_some, List.getElem?_set, acallOp, abuiltin, List.map_cons, List.map_nil, Nat.reduceEqDiff, Nat.reduceLT, List.length_set, Option.map_some, Option.bind_some, Option.bind_eq_bind, add_i, sub_i, mul_i, eql_i, neq_i, lss_i, leq_i, gtr_i, geq_i, ofV, ofCell, ↓reduceIte, List.cons_append, List.nil_append, List.append_nil, List.getElem?_toArray, List.getElem?_cons_succ, List.getElem?_cons_zero, e_draw, g_nil, g_cons, g_want, g_skip, g_val, g_call, g_ret, Option.map_none, hl, a2, a3, CP, bq1, bq2, bq3, bq4, ex_tup, iu40]
      exact rfl, ?_⟩
  show P5_0 _ _
  exact ⟨i2, w2_0, w2_1, w2_2, i3, w3_0, w3_1, w3_2, by simp [hl], by simp [a2], g2, l2, r2_0, r2_1, r2_2, by simp [a3], g3, l3, r3_0, r3_1, r3_2, by simp [hl], ne2_3⟩
theorem R5_2 (pe : Nat → Fr5 → ASt → Prop) (pr : Fr5 → ASt → Prop) : Ref Cp P5_3 (Cat [false] (bodyOf Tryz.f5)) m5_2 (post P5_2 pe pr) := by
  rintro s ⟨t, h⟩ hp x s' hm
  have hp : P5_3' s t h := hp
  obtain ⟨w0_0, w0_1, w0_2, w1_0, w1_1, w1_2, hl, a0, r0_0, r0_1, r0_2, a1, r1_0, r1_1, r1_2⟩ := hp
  unfold m5_2 at hm
  obtain ⟨H60, eH60⟩ : ∃ x : AHeap, x = h.new (.arr [w0_0, .str s.t0.Table, w0_1, .bool s.t0.Grouped, w0_2]) := ⟨_, rfl⟩
  obtain ⟨id61, eid61⟩ : ∃ x : Nat, x = h.next := ⟨_, rfl⟩
  have k62 : H60.get id61 = some (.arr [w0_0, .str s.t0.Table, w0_1, .bool s.t0.Grouped, w0_2]) := by rw [eH60, eid61]; exact Heap.get_new_eq
  have k63 : id61 < H60.next := by rw [eH60, eid61, Heap.new_next]; exact Nat.lt_succ_self _
  have ic64 : (w0_0 : AVal).isCell = true := Sl.isCell r0_0
  have ic65 : (w0_1 : AVal).isCell = true := rCondT_cell r0_1
  have ic66 : (w0_2 : AVal).isCell = true := Sl.isCell r0_2
  have k67 : abox h (.agg [w0_0, .str s.t0.Table, w0_1, .bool s.t0.Grouped, w0_2]) = some (.ptr id61 0, H60) := by simp only [abox, eH60, eid61, bx_i, bx_b, bx_s, bx_a, bx_nl, bx_np, bx_ip, bx_ls, cl_i, cl_b, cl_s, cl_a, cl_nl, cl_np, cl_ip, cl_ls, List.all_cons, List.all_nil, Bool.and_self, Bool.and_true, c_i, c_b, c_s, c_nl, c_np, c_ip, c_ls, if_true, ic64, bx_c ic64, cl_c ic64, ic65, bx_c ic65, cl_c ic65, ic66, bx_c ic66, cl_c ic66]
  obtain ⟨H68, eH68⟩ : ∃ x : AHeap, x = H60.new (.arr [w1_0, .str s.t1.Table, w1_1, .bool s.t1.Grouped, w1_2]) := ⟨_, rfl⟩
  obtain ⟨id69, eid69⟩ : ∃ x : Nat, x = H60.next := ⟨_, rfl⟩
  have k70 : H68.get id61 = some (.arr [w0_0, .str s.t0.Table, w0_1, .bool s.t0.Grouped, w0_2]) := by rw [eH68, Heap.get_new_lt k63]; exact k62
  have k71 : id61 < H68.next := by rw [eH68, Heap.new_next]; exact Nat.lt_succ_of_lt k63
  have k72 : H68.get id69 = some (.arr [w1_0, .str s.t1.Table, w1_1, .bool s.t1.Grouped, w1_2]) := by rw [eH68, eid69]; exact Heap.get_new_eq
  have k73 : id69 < H68.next := by rw [eH68, eid69, Heap.new_next]; exact Nat.lt_succ_self _
  have k74 : id61 ≠ id69 := by rw [eid69]; exact Nat.ne_of_lt k63
  have ic75 : (w1_0 : AVal).isCell = true := Sl.isCell r1_0
  have ic76 : (w1_1 : AVal).isCell = true := rCondT_cell r1_1
  have ic77 : (w1_2 : AVal).isCell = true := Sl.isCell r1_2
  have k78 : abox H60 (.agg [w1_0, .str s.t1.Table, w1_1, .bool s.t1.Grouped, w1_2]) = some (.ptr id69 0, H68) := by simp only [abox, eH68, eid69, bx_i, bx_b, bx_s, bx_a, bx_nl, bx_np, bx_ip, bx_ls, cl_i, cl_b, cl_s, cl_a, cl_nl, cl_np, cl_ip, cl_ls, List.all_cons, List.all_nil, Bool.and_self, Bool.and_true, c_i, c_b, c_s, c_nl, c_np, c_ip, c_ls, if_true, ic75, bx_c ic75, cl_c ic75, ic76, bx_c ic76, cl_c ic76, ic77, bx_c ic77, cl_c ic77]
  cases hm
  refine ⟨⟨_, _⟩, by
      simp only [bodyOf, Tryz.f5, Cat, Bool.false_eq_true, e_seq, e_region, e_cond, e_block, ex_skip, ex_exit, ex_ret, o_cons, xops_nil, k_want_none, k_want_false, k_val, k_pan, k_call, k_ret, k_seq, k_seq_exit, k_seq_ret, k_true, k_false, k_block, k_block_exit, k_block_ret, k_loop, k_loop_exit, k_loop_ret, awanted, aoper, evalO, put, Option.getD_some, List.getElem?_set, acallOp, abuiltin, List.map_cons, List.map_nil, Nat.reduceEqDiff, Nat.reduceLT, List.length_set, Option.map_some, Option.bind_some, Option.bind_eq_bind, add_i, sub_i, mul_i, eql_i, neq_i, lss_i, leq_i, gtr_i, geq_i, ofV, ofCell, ↓reduceIte, List.cons_append, List.nil_append, List.append_nil, List.getElem?_toArray, List.getElem?_cons_succ, List.getElem?_cons_zero, e_draw, g_nil, g_cons, g_want, g_skip, g_val, g_call, g_ret, Option.map_none, hl, a0, a1, CP, bq1, bq2, bq3, bq4, ex_tup, TyG.nc_law_go_37, k67, k78]
      exact rfl, ?_⟩
  show P5_2 _ _
  exact ⟨id61, w0_0, w0_1, w0_2, id69, w1_0, w1_1, w1_2, by simp [hl], by simp [hl], k70, k71, r0_0, r0_1, r0_2, by simp [hl], k72, k73, r1_0, r1_1, r1_2, k74⟩
theorem B5 : Ref Cp P5_3 (bodyOf Tryz.f5) (M5) (post P5_1 (fun _ _ _ => False) P5_1) := by
  rw [show bodyOf Tryz.f5 = .seq (Cat [false] (bodyOf Tryz.f5)) (.seq (Cat [true, false] (bodyOf Tryz.f5)) (.seq (Cat [true, true, false] (bodyOf Tryz.f5)) (.ret))) from rfl]
  unfold M5
  exact ref_seq (M := P5_2) (R5_2 _ _) (ref_seq (M := P5_0) (R5_1 _ _) (ref_seq (M := P5_1) (R5_0 _ _) (ref_ret (fun s st hp => hp))))
noncomputable def G5 (x0 : Query) (x1 : Query) : Option Bool := match M5 { (default : Fr5) with t0 := x0, t1 := x1 } with
  | some (.nrm, s) => some s.t4
  | some (.ret, s) => some s.t4
  | _ => none
theorem G5_spec : Spec5 (G5) := by
  intro x0 x1 vx0_0 hvx0_0 vx0_1 hvx0_1 vx0_2 hvx0_2 vx1_0 hvx1_0 vx1_1 hvx1_1 vx1_2 hvx1_2 r hr
  unfold G5 at hr
  cases hm : M5 { (default : Fr5) with t0 := x0, t1 := x1 } with
  | none => rw [hm] at hr; cases hr
  | some q =>
    obtain ⟨x, s⟩ := q
    rw [hm] at hr
    have hx : x = .nrm ∨ x = .ret := by cases x <;> first | exact .inl rfl | exact .inr rfl | cases hr
    have hr : s.t4 = r := by cases x <;> first | exact Option.some.inj hr | cases hr
    subst hr
    have hp0 : P5_3' ({ (default : Fr5) with t0 := x0, t1 := x1 }) (slots Tryz.f5 (stripL [.agg [vx0_0, .str x0.Table, vx0_1, .bool x0.Grouped, vx0_2], .agg [vx1_0, .str x1.Table, vx1_1, .bool x1.Grouped, vx1_2]])) bare := ⟨(strip vx0_0 : AVal), (strip vx0_1 : AVal), (strip vx0_2 : AVal), (strip vx1_0 : AVal), (strip vx1_1 : AVal), (strip vx1_2 : AVal), rfl, rfl, hvx0_0.strip rItem_p, rCondT_p.str _ _ hvx0_1, hvx0_2.strip rGroup_p, rfl, hvx1_0.strip rItem_p, rCondT_p.str _ _ hvx1_1, hvx1_2.strip rGroup_p⟩
    obtain ⟨v, hR, hrun⟩ := run_of_ref (C := Cp) (f := 5) (fn := Tryz.f5) Tryz.func5 rfl rfl rfl rfl (args := [.agg [vx0_0, .str x0.Table, vx0_1, .bool x0.Grouped, vx0_2], .agg [vx1_0, .str x1.Table, vx1_1, .bool x1.Grouped, vx1_2]]) (by simp only [refsL, refs, List.append_nil, hvx0_0.refs rItem_p, refs_one (rCondT_p.ref _ _ hvx0_1), hvx0_2.refs rGroup_p, hvx1_0.refs rItem_p, refs_one (rCondT_p.ref _ _ hvx1_1), hvx1_2.refs rGroup_p]) (B5) (s0 := { (default : Fr5) with t0 := x0, t1 := x1 }) hp0 hm hx (R := fun v => v = .bool s.t4) (by
      have key : ∀ st : ASt, P5_1 s st → ∃ vs v, aresults Cp Tryz.f5.results.toList st = some vs ∧ Nrm [] st.h (packRes vs) v ∧ (fun v => v = .bool s.t4) v := by
        intro st hp
        obtain ⟨hl, a4⟩ := (hp : P5_1' s st.tmps st.h)
        exact ⟨[.bool s.t4], _, by simp only [show Tryz.f5.results.toList = [ResultVar.tmp 4] from rfl, aresults, ares1, CP, a4, Option.getD_some], (Nrm.of (w := .bool s.t4) (by simp only [refsL, refs, List.append_nil])), rfl⟩
      intro st hq
      rcases hx with rfl | rfl
      · exact key st hq
      · exact key st hq)
    subst hR
    exact hrun
end Go.Proofs.Par
