/-
  CUBE: CubeLattice's run.
-/
import Derived.Test.YtgjdlakemaabfaaCubeAllRun
import Derived.Test.YtgjdlakemaabfaaCubeOrder
set_option linter.unusedVariables false
set_option linter.unusedSimpArgs false
set_option linter.unusedSimpArgs false
set_option linter.unusedVariables false
set_option maxRecDepth 100000
namespace Go.Proofs.Cube
open Go Go.Am Go.Proofs Go.RowKit

theorem lev_len (d : Int) : (lev (cntN d) 7).length ≤ 100 := by
  have hk6 := keep_le d
  unfold cntN
  obtain ⟨k, hk⟩ : ∃ k, k = (keepI d).toNat := ⟨_, rfl⟩
  rw [← hk]
  obtain rfl | rfl | rfl | rfl | rfl | rfl | rfl : k = 0 ∨ k = 1 ∨ k = 2 ∨ k = 3 ∨ k = 4 ∨ k = 5 ∨ k = 6 := by omega
  all_goals exact of_decide_eq_true (by kernel_rfl)
theorem IntsC.two {v w : AVal} {xs ys : List Int} (I : IntsC v xs) (J : IntsC w ys) : contBs [v, w] = true := by
  simp [contBs, I.2, J.2]
theorem intsV_c (xs : List Int) : IntsC (intsV xs) xs := by
  refine ⟨ints_V xs, ?_⟩
  cases xs with
  | nil => rfl
  | cons x xs => simp [intsV, contB, contBs, contBs_ints]
theorem sameC {v w : AVal} {xs : List Int} (I : IntsC v xs) (J : IntsC w xs) (h6 : xs.length ≤ 100) (h : AHeap) : run Cf 8 [v, w] h = some (.ret (.bool true), h) := by
  have := same_run I.1 J.1 (I.two J) h6 h
  rw [this, show (xs == xs) = true by simp]
/-- THE LATTICE IS THE DOCUMENT'S. -/
theorem lattice_run (h : AHeap) (a b d : Int) : run Cf 3 [.int .i64 a, .int .i64 b, .int .i64 d] h = some (.ret (.bool true), h) := by
  obtain ⟨a0, ha0⟩ : ∃ a0, a0 = slots Try.f3 [.int .i64 a, .int .i64 b, .int .i64 d] := ⟨_, rfl⟩
  have hl : a0.length = 59 := by rw [ha0]; rfl
  have i0 : a0[0]? = some (.int .i64 a) := by rw [ha0]; rfl
  have i1 : a0[1]? = some (.int .i64 b) := by rw [ha0]; rfl
  have i2 : a0[2]? = some (.int .i64 d) := by rw [ha0]; rfl
  obtain ⟨v1, c1, r1⟩ := all_run d
  obtain ⟨v2, c2, r2⟩ := refAll_run d
  obtain ⟨v4, c4, r4⟩ := refParents_run a d
  obtain ⟨v6, c6, r6⟩ := refChildren_run a
  obtain ⟨v7, c7, r7⟩ := between_run a b
  obtain ⟨v8, c8, r8⟩ := refBetween_run a b
  rw [between_ref] at c7
  have c3 := intsV_c (parents a d)
  have c5 := intsV_c (children a)
  rw [parents_ref] at c3
  rw [children_ref] at c5
  have hlP : (refPar a d).length ≤ 100 := by rw [← parents_ref]; have := parents_len a d; omega
  have hlC : (coll (pC a) 64).length ≤ 100 := by have := coll_len (pC a) 64; omega
  have hlB : (coll (pB a b) 64).length ≤ 100 := by have := coll_len (pB a b) 64; omega
  have s1 := sameC c1 c2 (lev_len d)
  have s3 := sameC c3 c4 hlP
  have s5 := sameC c5 c6 hlC
  have s7 := sameC c7 c8 hlB
  rw [← parents_ref] at s3
  rw [← children_ref] at s5
  have hbody : bodyOf Try.f3 = .seq (Cat [false] (bodyOf Try.f3)) (.seq (Cat [true, false] (bodyOf Try.f3)) (.seq (Cat [true, true, false] (bodyOf Try.f3)) (.seq (Cat [true, true, true, false] (bodyOf Try.f3)) (.seq (Cat [true, true, true, true, false] (bodyOf Try.f3)) (.seq (Cat [true, true, true, true, true, false] (bodyOf Try.f3)) (Cat [true, true, true, true, true, true] (bodyOf Try.f3))))))) := rfl
  have p1 : ∃ t, ex Cf (Cat [false] (bodyOf Try.f3)) ⟨a0, h⟩ = some (.normal, ⟨t, h⟩) ∧ t.length = 59 ∧ t[0]? = some (.int .i64 a) ∧ t[1]? = some (.int .i64 b) ∧ t[2]? = some (.int .i64 d) := by
    simp only [bodyOf, Try.f3, Cat, Bool.false_eq_true, e_seq, e_region, e_cond, e_block, ex_skip, ex_exit, ex_ret, o_cons, xops_nil, k_want_none, k_want_false, k_val, k_pan, k_call, k_ret, k_seq, k_seq_exit, k_seq_ret, k_true, k_false, k_block, k_block_exit, k_block_ret, k_loop, k_loop_exit, k_loop_ret, awanted, aoper, evalO, put, Option.getD_some, List.getElem?_set, acallOp, abuiltin, List.map_cons, List.map_nil, Nat.reduceEqDiff, Nat.reduceLT, List.length_set, Option.map_some, Option.bind_some, Option.bind_eq_bind, add_i, sub_i, mul_i, eql_i, neq_i, lss_i, leq_i, gtr_i, geq_i, ofV, ofCell, ↓reduceIte, List.cons_append, List.nil_append, List.append_nil, List.getElem?_toArray, List.getElem?_cons_succ, List.getElem?_cons_zero, e_draw, g_nil, g_cons, g_want, g_skip, g_val, g_call, g_ret, Option.map_none, hl]
    exact ⟨_, rfl, by simp [hl], by simp [i0], by simp [i1], by simp [i2]⟩
  obtain ⟨t1, e1, l1, t10, t11, t12⟩ := p1
  have p2 : ∃ t, ex Cf (Cat [true, false] (bodyOf Try.f3)) ⟨t1, h⟩ = some (.normal, ⟨t, h⟩) ∧ t.length = 59 ∧ t[0]? = some (.int .i64 a) ∧ t[1]? = some (.int .i64 b) ∧ t[2]? = some (.int .i64 d) ∧ t[7]? = some (.bool true) := by
    simp only [bodyOf, Try.f3, Cat, Bool.false_eq_true, e_seq, e_region, e_cond, e_block, ex_skip, ex_exit, ex_ret, o_cons, xops_nil, k_want_none, k_want_false, k_val, k_pan, k_call, k_ret, k_seq, k_seq_exit, k_seq_ret, k_true, k_false, k_block, k_block_exit, k_block_ret, k_loop, k_loop_exit, k_loop_ret, awanted, aoper, evalO, put, Option.getD_some, List.getElem?_set, acallOp, abuiltin, List.map_cons, List.map_nil, Nat.reduceEqDiff, Nat.reduceLT, List.length_set, Option.map_some, Option.bind_some, Option.bind_eq_bind, add_i, sub_i, mul_i, eql_i, neq_i, lss_i, leq_i, gtr_i, geq_i, ofV, ofCell, ↓reduceIte, List.cons_append, List.nil_append, List.append_nil, List.getElem?_toArray, List.getElem?_cons_succ, List.getElem?_cons_zero, e_draw, g_nil, g_cons, g_want, g_skip, g_val, g_call, g_ret, Option.map_none, l1, awake_run]
    exact ⟨_, rfl, by simp [l1], by simp [t10], by simp [t11], by simp [t12], by simp [l1]⟩
  obtain ⟨t2, e2, l2, t20, t21, t22, t27⟩ := p2
  have p3 : ∃ t, ex Cf (Cat [true, true, false] (bodyOf Try.f3)) ⟨t2, h⟩ = some (.normal, ⟨t, h⟩) ∧ t.length = 59 ∧ t[0]? = some (.int .i64 a) ∧ t[1]? = some (.int .i64 b) ∧ t[2]? = some (.int .i64 d) ∧ t[7]? = some (.bool true) ∧ t[8]? = some (.bool true) := by
    simp only [bodyOf, Try.f3, Cat, Bool.false_eq_true, e_seq, e_region, e_cond, e_block, ex_skip, ex_exit, ex_ret, o_cons, xops_nil, k_want_none, k_want_false, k_val, k_pan, k_call, k_ret, k_seq, k_seq_exit, k_seq_ret, k_true, k_false, k_block, k_block_exit, k_block_ret, k_loop, k_loop_exit, k_loop_ret, awanted, aoper, evalO, put, Option.getD_some, List.getElem?_set, acallOp, abuiltin, List.map_cons, List.map_nil, Nat.reduceEqDiff, Nat.reduceLT, List.length_set, Option.map_some, Option.bind_some, Option.bind_eq_bind, add_i, sub_i, mul_i, eql_i, neq_i, lss_i, leq_i, gtr_i, geq_i, ofV, ofCell, ↓reduceIte, List.cons_append, List.nil_append, List.append_nil, List.getElem?_toArray, List.getElem?_cons_succ, List.getElem?_cons_zero, e_draw, g_nil, g_cons, g_want, g_skip, g_val, g_call, g_ret, Option.map_none, l2, t22, r1, r2, s1]
    exact ⟨_, rfl, by simp [l2], by simp [t20], by simp [t21], by simp [t22], by simp [t27], by simp [l2]⟩
  obtain ⟨t3, e3, l3, t30, t31, t32, t37, t38⟩ := p3
  have p4 : ∃ t, ex Cf (Cat [true, true, true, false] (bodyOf Try.f3)) ⟨t3, h⟩ = some (.normal, ⟨t, h⟩) ∧ t.length = 59 ∧ t[0]? = some (.int .i64 a) ∧ t[1]? = some (.int .i64 b) ∧ t[7]? = some (.bool true) ∧ t[8]? = some (.bool true) ∧ t[9]? = some (.bool true) := by
    simp only [bodyOf, Try.f3, Cat, Bool.false_eq_true, e_seq, e_region, e_cond, e_block, ex_skip, ex_exit, ex_ret, o_cons, xops_nil, k_want_none, k_want_false, k_val, k_pan, k_call, k_ret, k_seq, k_seq_exit, k_seq_ret, k_true, k_false, k_block, k_block_exit, k_block_ret, k_loop, k_loop_exit, k_loop_ret, awanted, aoper, evalO, put, Option.getD_some, List.getElem?_set, acallOp, abuiltin, List.map_cons, List.map_nil, Nat.reduceEqDiff, Nat.reduceLT, List.length_set, Option.map_some, Option.bind_some, Option.bind_eq_bind, add_i, sub_i, mul_i, eql_i, neq_i, lss_i, leq_i, gtr_i, geq_i, ofV, ofCell, ↓reduceIte, List.cons_append, List.nil_append, List.append_nil, List.getElem?_toArray, List.getElem?_cons_succ, List.getElem?_cons_zero, e_draw, g_nil, g_cons, g_want, g_skip, g_val, g_call, g_ret, Option.map_none, l3, t30, t32, parents_run, r4, s3]
    exact ⟨_, rfl, by simp [l3], by simp [t30], by simp [t31], by simp [t37], by simp [t38], by simp [l3]⟩
  obtain ⟨t4, e4, l4, t40, t41, t47, t48, t49⟩ := p4
  have p5 : ∃ t, ex Cf (Cat [true, true, true, true, false] (bodyOf Try.f3)) ⟨t4, h⟩ = some (.normal, ⟨t, h⟩) ∧ t.length = 59 ∧ t[0]? = some (.int .i64 a) ∧ t[1]? = some (.int .i64 b) ∧ t[7]? = some (.bool true) ∧ t[8]? = some (.bool true) ∧ t[9]? = some (.bool true) ∧ t[10]? = some (.bool true) := by
    simp only [bodyOf, Try.f3, Cat, Bool.false_eq_true, e_seq, e_region, e_cond, e_block, ex_skip, ex_exit, ex_ret, o_cons, xops_nil, k_want_none, k_want_false, k_val, k_pan, k_call, k_ret, k_seq, k_seq_exit, k_seq_ret, k_true, k_false, k_block, k_block_exit, k_block_ret, k_loop, k_loop_exit, k_loop_ret, awanted, aoper, evalO, put, Option.getD_some, List.getElem?_set, acallOp, abuiltin, List.map_cons, List.map_nil, Nat.reduceEqDiff, Nat.reduceLT, List.length_set, Option.map_some, Option.bind_some, Option.bind_eq_bind, add_i, sub_i, mul_i, eql_i, neq_i, lss_i, leq_i, gtr_i, geq_i, ofV, ofCell, ↓reduceIte, List.cons_append, List.nil_append, List.append_nil, List.getElem?_toArray, List.getElem?_cons_succ, List.getElem?_cons_zero, e_draw, g_nil, g_cons, g_want, g_skip, g_val, g_call, g_ret, Option.map_none, l4, t40, children_run, r6, s5]
    exact ⟨_, rfl, by simp [l4], by simp [t40], by simp [t41], by simp [t47], by simp [t48], by simp [t49], by simp [l4]⟩
  obtain ⟨t5, e5, l5, t50, t51, t57, t58, t59, t510⟩ := p5
  have p6 : ∃ t, ex Cf (Cat [true, true, true, true, true, false] (bodyOf Try.f3)) ⟨t5, h⟩ = some (.normal, ⟨t, h⟩) ∧ t.length = 59 ∧ t[0]? = some (.int .i64 a) ∧ t[1]? = some (.int .i64 b) ∧ t[7]? = some (.bool true) ∧ t[8]? = some (.bool true) ∧ t[9]? = some (.bool true) ∧ t[10]? = some (.bool true) ∧ t[11]? = some (.bool true) := by
    simp only [bodyOf, Try.f3, Cat, Bool.false_eq_true, e_seq, e_region, e_cond, e_block, ex_skip, ex_exit, ex_ret, o_cons, xops_nil, k_want_none, k_want_false, k_val, k_pan, k_call, k_ret, k_seq, k_seq_exit, k_seq_ret, k_true, k_false, k_block, k_block_exit, k_block_ret, k_loop, k_loop_exit, k_loop_ret, awanted, aoper, evalO, put, Option.getD_some, List.getElem?_set, acallOp, abuiltin, List.map_cons, List.map_nil, Nat.reduceEqDiff, Nat.reduceLT, List.length_set, Option.map_some, Option.bind_some, Option.bind_eq_bind, add_i, sub_i, mul_i, eql_i, neq_i, lss_i, leq_i, gtr_i, geq_i, ofV, ofCell, ↓reduceIte, List.cons_append, List.nil_append, List.append_nil, List.getElem?_toArray, List.getElem?_cons_succ, List.getElem?_cons_zero, e_draw, g_nil, g_cons, g_want, g_skip, g_val, g_call, g_ret, Option.map_none, l5, t50, t51, r7, r8, s7]
    exact ⟨_, rfl, by simp [l5], by simp [t50], by simp [t51], by simp [t57], by simp [t58], by simp [t59], by simp [t510], by simp [l5]⟩
  obtain ⟨t6, e6, l6, t60, t61, t67, t68, t69, t610, t611⟩ := p6
  have p7 : ∃ t, ex Cf (Cat [true, true, true, true, true, true] (bodyOf Try.f3)) ⟨t6, h⟩ = some (.ret, ⟨t, h⟩) ∧ t[6]? = some (.bool true) := by
    simp only [bodyOf, Try.f3, Cat, Bool.false_eq_true, e_seq, e_region, e_cond, e_block, ex_skip, ex_exit, ex_ret, o_cons, xops_nil, k_want_none, k_want_false, k_val, k_pan, k_call, k_ret, k_seq, k_seq_exit, k_seq_ret, k_true, k_false, k_block, k_block_exit, k_block_ret, k_loop, k_loop_exit, k_loop_ret, awanted, aoper, evalO, put, Option.getD_some, List.getElem?_set, acallOp, abuiltin, List.map_cons, List.map_nil, Nat.reduceEqDiff, Nat.reduceLT, List.length_set, Option.map_some, Option.bind_some, Option.bind_eq_bind, add_i, sub_i, mul_i, eql_i, neq_i, lss_i, leq_i, gtr_i, geq_i, ofV, ofCell, ↓reduceIte, List.cons_append, List.nil_append, List.append_nil, List.getElem?_toArray, List.getElem?_cons_succ, List.getElem?_cons_zero, e_draw, g_nil, g_cons, g_want, g_skip, g_val, g_call, g_ret, Option.map_none, l6, t60, t61, t67, t68, t69, t610, t611, eqb, covers_run, refCovers_run, beq_self_eq_true, show ((true : Bool) == true) = true from rfl]
    exact ⟨_, rfl, by simp [l6]⟩
  obtain ⟨t7, e7, t76⟩ := p7
  exact fn_run (fn := Try.f3) (x := .ret) Try.func3 rfl rfl rfl (.inl rfl) (by rw [← ha0, hbody, e_seq, e1, k_seq, e_seq, e2, k_seq, e_seq, e3, k_seq, e_seq, e4, k_seq, e_seq, e5, k_seq, e_seq, e6, k_seq, e7]) (vs := [_]) (by simp only [show Try.f3.results.toList = [ResultVar.tmp 6] from rfl, aresults, ares1, t76]; rfl)
end Go.Proofs.Cube
