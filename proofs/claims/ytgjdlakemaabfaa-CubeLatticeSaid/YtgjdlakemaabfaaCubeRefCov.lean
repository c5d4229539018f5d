/-
  CUBE: the document's Covers is the program's.
-/
import Derived.Test.YtgjdlakemaabfaaCubeRefList
set_option linter.unusedVariables false
set_option linter.unusedSimpArgs false
set_option linter.unusedSimpArgs false
set_option linter.unusedVariables false
set_option maxRecDepth 100000
namespace Go.Proofs.Cube
open Go Go.Am Go.Proofs Go.RowKit

def hasN (x i : Nat) : Bool := ((dims x).map fun i : Nat => (i : Int)).any (· == (i : Int))
def refCov (a b : Nat) (k : Nat) : Bool := (List.range k).all fun i => !hasN b i || hasN a i
theorem refCov_all : ((List.range 64).all fun a => (List.range 64).all fun b => refCov a b 6 == covN a b) = true := by kernel_rfl
theorem refCov_at {a b : Nat} (ha : a < 64) (hb : b < 64) : refCov a b 6 = covN a b := by
  have h := List.all_eq_true.1 refCov_all a (by simpa using ha)
  simpa using List.all_eq_true.1 h b (by simpa using hb)
theorem refCov_succ (a b k : Nat) : refCov a b (k + 1) = (refCov a b k && (!hasN b k || hasN a k)) := by
  unfold refCov
  rw [List.range_succ, List.all_append]
  simp
noncomputable def LV : Code := Cat [true, true, true, true, false, true, true, true] (bodyOf Try.f18)
theorem LV_out (h : AHeap) (tmps : List AVal) (hl : tmps.length = 35) (h7 : tmps[7]? = some (.int .i64 6)) :
    ∃ t : List AVal, ex Cf LV ⟨tmps, h⟩ = some (.exit 0, ⟨t, h⟩) ∧ t.length = 35 := by
  simp only [LV, bodyOf, Try.f18, Cat, Bool.false_eq_true, e_seq, e_region, e_cond, e_block, ex_skip, ex_exit, ex_ret, o_cons, xops_nil, k_want_none, k_want_false, k_val, k_pan, k_call, k_ret, k_seq, k_seq_exit, k_seq_ret, k_true, k_false, k_block, k_block_exit, k_block_ret, k_loop, k_loop_exit, k_loop_ret, awanted, aoper, evalO, put, Option.getD_some, List.getElem?_set, acallOp, abuiltin, List.map_cons, List.map_nil, Nat.reduceEqDiff, Nat.reduceLT, List.length_set, Option.map_some, Option.bind_some, Option.bind_eq_bind, add_i, sub_i, mul_i, eql_i, neq_i, lss_i, leq_i, gtr_i, geq_i, ofV, ofCell, ↓reduceIte, List.cons_append, List.nil_append, List.append_nil, List.getElem?_toArray, List.getElem?_cons_succ, List.getElem?_cons_zero, e_draw, g_nil, g_cons, g_want, g_skip, g_val, g_call, g_ret, Option.map_none, hl, h7, show decide ((6 : Int) < 6) = false from rfl]
  exact ⟨_, rfl, by simp [hl]⟩
theorem LV_in (h : AHeap) (a b : Nat) (ha : a < 64) (hb : b < 64) (i : Nat) (hi : i < 6) (tmps : List AVal) (hl : tmps.length = 35) (h0 : tmps[0]? = some (.int .i64 a)) (h1 : tmps[1]? = some (.int .i64 b)) (h7 : tmps[7]? = some (.int .i64 i)) :
    ((!hasN b i || hasN a i) = false ∧ ∃ t : List AVal, ex Cf LV ⟨tmps, h⟩ = some (.ret, ⟨t, h⟩) ∧ t[4]? = some (.bool false)) ∨ ((!hasN b i || hasN a i) = true ∧ ∃ t : List AVal, ex Cf LV ⟨tmps, h⟩ = some (.normal, ⟨t, h⟩) ∧ t.length = 35 ∧ t[0]? = some (.int .i64 a) ∧ t[1]? = some (.int .i64 b) ∧ t[7]? = some (.int .i64 (i + 1 : Nat))) := by
  have hlt' : decide ((i : Int) < 6) = true := by simp; omega
  have hw : IntKind.i64.wrap ((i : Int) + 1) = ((i + 1 : Nat) : Int) := by rw [wrap64 (by omega) (by omega)]; rfl
  have r1 : run Cf 34 [.int .i64 (b : Int), .int .i64 (i : Int)] h = some (.ret (.bool (hasN b i)), h) := has_run h hb i
  have r2 : run Cf 34 [.int .i64 (a : Int), .int .i64 (i : Int)] h = some (.ret (.bool (hasN a i)), h) := has_run h ha i
  have n1 : aun Cf .not (.bool true) = some (.bool false) := rfl
  have n2 : aun Cf .not (.bool false) = some (.bool true) := rfl
  cases c1 : hasN b i with
  | false =>
    rw [c1] at r1
    refine .inr ⟨rfl, ?_⟩
    cases c2 : hasN a i with
    | false =>
      rw [c2] at r2
      simp only [LV, bodyOf, Try.f18, Cat, Bool.false_eq_true, e_seq, e_region, e_cond, e_block, ex_skip, ex_exit, ex_ret, o_cons, xops_nil, k_want_none, k_want_false, k_val, k_pan, k_call, k_ret, k_seq, k_seq_exit, k_seq_ret, k_true, k_false, k_block, k_block_exit, k_block_ret, k_loop, k_loop_exit, k_loop_ret, awanted, aoper, evalO, put, Option.getD_some, List.getElem?_set, acallOp, abuiltin, List.map_cons, List.map_nil, Nat.reduceEqDiff, Nat.reduceLT, List.length_set, Option.map_some, Option.bind_some, Option.bind_eq_bind, add_i, sub_i, mul_i, eql_i, neq_i, lss_i, leq_i, gtr_i, geq_i, ofV, ofCell, ↓reduceIte, List.cons_append, List.nil_append, List.append_nil, List.getElem?_toArray, List.getElem?_cons_succ, List.getElem?_cons_zero, e_draw, g_nil, g_cons, g_want, g_skip, g_val, g_call, g_ret, Option.map_none, hl, h0, h1, h7, hlt', hw, r1, r2, n1, n2, show ((false : Bool) == true) = false from rfl]
      exact ⟨_, rfl, by simp [hl], by simp [h0], by simp [h1], by simp [hl]⟩
    | true =>
      rw [c2] at r2
      simp only [LV, bodyOf, Try.f18, Cat, Bool.false_eq_true, e_seq, e_region, e_cond, e_block, ex_skip, ex_exit, ex_ret, o_cons, xops_nil, k_want_none, k_want_false, k_val, k_pan, k_call, k_ret, k_seq, k_seq_exit, k_seq_ret, k_true, k_false, k_block, k_block_exit, k_block_ret, k_loop, k_loop_exit, k_loop_ret, awanted, aoper, evalO, put, Option.getD_some, List.getElem?_set, acallOp, abuiltin, List.map_cons, List.map_nil, Nat.reduceEqDiff, Nat.reduceLT, List.length_set, Option.map_some, Option.bind_some, Option.bind_eq_bind, add_i, sub_i, mul_i, eql_i, neq_i, lss_i, leq_i, gtr_i, geq_i, ofV, ofCell, ↓reduceIte, List.cons_append, List.nil_append, List.append_nil, List.getElem?_toArray, List.getElem?_cons_succ, List.getElem?_cons_zero, e_draw, g_nil, g_cons, g_want, g_skip, g_val, g_call, g_ret, Option.map_none, hl, h0, h1, h7, hlt', hw, r1, r2, n1, n2, show ((false : Bool) == true) = false from rfl]
      exact ⟨_, rfl, by simp [hl], by simp [h0], by simp [h1], by simp [hl]⟩
  | true =>
    rw [c1] at r1
    cases c2 : hasN a i with
    | false =>
      rw [c2] at r2
      refine .inl ⟨rfl, ?_⟩
      simp only [LV, bodyOf, Try.f18, Cat, Bool.false_eq_true, e_seq, e_region, e_cond, e_block, ex_skip, ex_exit, ex_ret, o_cons, xops_nil, k_want_none, k_want_false, k_val, k_pan, k_call, k_ret, k_seq, k_seq_exit, k_seq_ret, k_true, k_false, k_block, k_block_exit, k_block_ret, k_loop, k_loop_exit, k_loop_ret, awanted, aoper, evalO, put, Option.getD_some, List.getElem?_set, acallOp, abuiltin, List.map_cons, List.map_nil, Nat.reduceEqDiff, Nat.reduceLT, List.length_set, Option.map_some, Option.bind_some, Option.bind_eq_bind, add_i, sub_i, mul_i, eql_i, neq_i, lss_i, leq_i, gtr_i, geq_i, ofV, ofCell, ↓reduceIte, List.cons_append, List.nil_append, List.append_nil, List.getElem?_toArray, List.getElem?_cons_succ, List.getElem?_cons_zero, e_draw, g_nil, g_cons, g_want, g_skip, g_val, g_call, g_ret, Option.map_none, hl, h0, h1, h7, hlt', hw, r1, r2, n1, n2, show ((true : Bool) == true) = true from rfl]
      exact ⟨_, rfl, by simp [hl]⟩
    | true =>
      rw [c2] at r2
      refine .inr ⟨rfl, ?_⟩
      simp only [LV, bodyOf, Try.f18, Cat, Bool.false_eq_true, e_seq, e_region, e_cond, e_block, ex_skip, ex_exit, ex_ret, o_cons, xops_nil, k_want_none, k_want_false, k_val, k_pan, k_call, k_ret, k_seq, k_seq_exit, k_seq_ret, k_true, k_false, k_block, k_block_exit, k_block_ret, k_loop, k_loop_exit, k_loop_ret, awanted, aoper, evalO, put, Option.getD_some, List.getElem?_set, acallOp, abuiltin, List.map_cons, List.map_nil, Nat.reduceEqDiff, Nat.reduceLT, List.length_set, Option.map_some, Option.bind_some, Option.bind_eq_bind, add_i, sub_i, mul_i, eql_i, neq_i, lss_i, leq_i, gtr_i, geq_i, ofV, ofCell, ↓reduceIte, List.cons_append, List.nil_append, List.append_nil, List.getElem?_toArray, List.getElem?_cons_succ, List.getElem?_cons_zero, e_draw, g_nil, g_cons, g_want, g_skip, g_val, g_call, g_ret, Option.map_none, hl, h0, h1, h7, hlt', hw, r1, r2, n1, n2, show ((true : Bool) == true) = true from rfl]
      exact ⟨_, rfl, by simp [hl], by simp [h0], by simp [h1], by simp [hl]⟩
theorem LV_loop (h : AHeap) (a b : Nat) (ha : a < 64) (hb : b < 64) : ∀ (m i : Nat) (hi : i + m = 6) (hc : refCov a b i = true) (tmps : List AVal) (hl : tmps.length = 35) (h0 : tmps[0]? = some (.int .i64 a)) (h1 : tmps[1]? = some (.int .i64 b)) (h7 : tmps[7]? = some (.int .i64 i)),
    (refCov a b 6 = false ∧ ∃ t : List AVal, ex Cf (.loop LV) ⟨tmps, h⟩ = some (.ret, ⟨t, h⟩) ∧ t[4]? = some (.bool false)) ∨ (refCov a b 6 = true ∧ ∃ t : List AVal, ex Cf (.loop LV) ⟨tmps, h⟩ = some (.exit 0, ⟨t, h⟩) ∧ t.length = 35) := by
  intro m
  induction m with
  | zero =>
    intro i hi hc tmps hl h0 h1 h7
    obtain rfl : i = 6 := by omega
    obtain ⟨t, e, l1⟩ := LV_out h tmps hl h7
    exact .inr ⟨hc, t, by rw [e_loop, e, k_loop_exit], l1⟩
  | succ m ih =>
    intro i hi hc tmps hl h0 h1 h7
    rcases LV_in h a b ha hb i (by omega) tmps hl h0 h1 h7 with ⟨q, t, e, t4⟩ | ⟨q, t, e, l1, t0, t1, t7⟩
    · refine .inl ⟨?_, t, by rw [e_loop, e, k_loop_ret], t4⟩
      have hm : i < 6 := by omega
      by_cases h6 : refCov a b 6 = true
      · exfalso
        have := List.all_eq_true.1 h6 i (by simpa using hm)
        rw [q] at this; cases this
      · simpa using h6
    · rcases ih (i + 1) (by omega) (by rw [refCov_succ, hc, q]; rfl) t l1 t0 t1 t7 with ⟨r, t', e', t4⟩ | ⟨r, t', e', l'⟩
      · exact .inl ⟨r, t', by rw [e_loop, e, k_loop]; exact e', t4⟩
      · exact .inr ⟨r, t', by rw [e_loop, e, k_loop]; exact e', l'⟩
theorem refCovers_run (h : AHeap) (a b : Int) : run Cf 18 [.int .i64 a, .int .i64 b] h = some (.ret (.bool (coversI a b)), h) := by
  obtain ⟨a0, ha0⟩ : ∃ a0, a0 = slots Try.f18 [.int .i64 a, .int .i64 b] := ⟨_, rfl⟩
  have hl : a0.length = 35 := by rw [ha0]; rfl
  have i0 : a0[0]? = some (.int .i64 a) := by rw [ha0]; rfl
  have i1 : a0[1]? = some (.int .i64 b) := by rw [ha0]; rfl
  have hbody : bodyOf Try.f18 = .seq (Cat [false] (bodyOf Try.f18)) (.seq (Cat [true, false] (bodyOf Try.f18)) (.seq (Cat [true, true, false] (bodyOf Try.f18)) (.seq (Cat [true, true, true, false] (bodyOf Try.f18)) (.seq (.seq (Cat [true, true, true, true, false, false] (bodyOf Try.f18)) (.block 0 (.loop LV))) (Cat [true, true, true, true, true] (bodyOf Try.f18)))))) := rfl
  have p1 : ∃ t, ex Cf (Cat [false] (bodyOf Try.f18)) ⟨a0, h⟩ = some (.normal, ⟨t, h⟩) ∧ t.length = 35 ∧ t[0]? = some (.int .i64 a) ∧ t[1]? = some (.int .i64 b) := by
    simp only [bodyOf, Try.f18, Cat, Bool.false_eq_true, e_seq, e_region, e_cond, e_block, ex_skip, ex_exit, ex_ret, o_cons, xops_nil, k_want_none, k_want_false, k_val, k_pan, k_call, k_ret, k_seq, k_seq_exit, k_seq_ret, k_true, k_false, k_block, k_block_exit, k_block_ret, k_loop, k_loop_exit, k_loop_ret, awanted, aoper, evalO, put, Option.getD_some, List.getElem?_set, acallOp, abuiltin, List.map_cons, List.map_nil, Nat.reduceEqDiff, Nat.reduceLT, List.length_set, Option.map_some, Option.bind_some, Option.bind_eq_bind, add_i, sub_i, mul_i, eql_i, neq_i, lss_i, leq_i, gtr_i, geq_i, ofV, ofCell, ↓reduceIte, List.cons_append, List.nil_append, List.append_nil, List.getElem?_toArray, List.getElem?_cons_succ, List.getElem?_cons_zero, e_draw, g_nil, g_cons, g_want, g_skip, g_val, g_call, g_ret, Option.map_none, hl]
    exact ⟨_, rfl, by simp [hl], by simp [i0], by simp [i1]⟩
  obtain ⟨t1, e1, l1, t10, t11⟩ := p1
  have p2 : ∃ t, ex Cf (Cat [true, false] (bodyOf Try.f18)) ⟨t1, h⟩ = some (.normal, ⟨t, h⟩) ∧ t.length = 35 ∧ t[0]? = some (.int .i64 a) ∧ t[1]? = some (.int .i64 b) ∧ t[5]? = some (.bool (isSetB a)) := by
    simp only [bodyOf, Try.f18, Cat, Bool.false_eq_true, e_seq, e_region, e_cond, e_block, ex_skip, ex_exit, ex_ret, o_cons, xops_nil, k_want_none, k_want_false, k_val, k_pan, k_call, k_ret, k_seq, k_seq_exit, k_seq_ret, k_true, k_false, k_block, k_block_exit, k_block_ret, k_loop, k_loop_exit, k_loop_ret, awanted, aoper, evalO, put, Option.getD_some, List.getElem?_set, acallOp, abuiltin, List.map_cons, List.map_nil, Nat.reduceEqDiff, Nat.reduceLT, List.length_set, Option.map_some, Option.bind_some, Option.bind_eq_bind, add_i, sub_i, mul_i, eql_i, neq_i, lss_i, leq_i, gtr_i, geq_i, ofV, ofCell, ↓reduceIte, List.cons_append, List.nil_append, List.append_nil, List.getElem?_toArray, List.getElem?_cons_succ, List.getElem?_cons_zero, e_draw, g_nil, g_cons, g_want, g_skip, g_val, g_call, g_ret, Option.map_none, l1, t10, refIsSet_run]
    exact ⟨_, rfl, by simp [l1], by simp [t10], by simp [t11], by simp [l1]⟩
  obtain ⟨t2, e2, l2, t20, t21, t25⟩ := p2
  have p3 : ∃ t, ex Cf (Cat [true, true, false] (bodyOf Try.f18)) ⟨t2, h⟩ = some (.normal, ⟨t, h⟩) ∧ t.length = 35 ∧ t[0]? = some (.int .i64 a) ∧ t[1]? = some (.int .i64 b) ∧ t[5]? = some (.bool (isSetB a)) ∧ t[6]? = some (.bool (isSetB b)) := by
    simp only [bodyOf, Try.f18, Cat, Bool.false_eq_true, e_seq, e_region, e_cond, e_block, ex_skip, ex_exit, ex_ret, o_cons, xops_nil, k_want_none, k_want_false, k_val, k_pan, k_call, k_ret, k_seq, k_seq_exit, k_seq_ret, k_true, k_false, k_block, k_block_exit, k_block_ret, k_loop, k_loop_exit, k_loop_ret, awanted, aoper, evalO, put, Option.getD_some, List.getElem?_set, acallOp, abuiltin, List.map_cons, List.map_nil, Nat.reduceEqDiff, Nat.reduceLT, List.length_set, Option.map_some, Option.bind_some, Option.bind_eq_bind, add_i, sub_i, mul_i, eql_i, neq_i, lss_i, leq_i, gtr_i, geq_i, ofV, ofCell, ↓reduceIte, List.cons_append, List.nil_append, List.append_nil, List.getElem?_toArray, List.getElem?_cons_succ, List.getElem?_cons_zero, e_draw, g_nil, g_cons, g_want, g_skip, g_val, g_call, g_ret, Option.map_none, l2, t21, refIsSet_run]
    exact ⟨_, rfl, by simp [l2], by simp [t20], by simp [t21], by simp [t25], by simp [l2]⟩
  obtain ⟨t3, e3, l3, t30, t31, t35, t36⟩ := p3
  have n1 : aun Cf .not (.bool true) = some (.bool false) := rfl
  have n2 : aun Cf .not (.bool false) = some (.bool true) := rfl
  by_cases hs : isSetB a = true ∧ isSetB b = true
  · rw [hs.1] at t35; rw [hs.2] at t36
    have hsa := hs.1; have hsb := hs.2
    simp only [isSetB, Bool.and_eq_true, decide_eq_true_eq] at hsa hsb
    obtain ⟨x, rfl⟩ : ∃ x : Nat, a = x := ⟨a.toNat, by omega⟩
    obtain ⟨y, rfl⟩ : ∃ y : Nat, b = y := ⟨b.toNat, by omega⟩
    have hx : x < 64 := by omega
    have hy : y < 64 := by omega
    rw [cov_at hx hy, ← refCov_at hx hy]
    have p4 : ∃ t, ex Cf (Cat [true, true, true, false] (bodyOf Try.f18)) ⟨t3, h⟩ = some (.normal, ⟨t, h⟩) ∧ t.length = 35 ∧ t[0]? = some (.int .i64 x) ∧ t[1]? = some (.int .i64 y) := by
      simp only [bodyOf, Try.f18, Cat, Bool.false_eq_true, e_seq, e_region, e_cond, e_block, ex_skip, ex_exit, ex_ret, o_cons, xops_nil, k_want_none, k_want_false, k_val, k_pan, k_call, k_ret, k_seq, k_seq_exit, k_seq_ret, k_true, k_false, k_block, k_block_exit, k_block_ret, k_loop, k_loop_exit, k_loop_ret, awanted, aoper, evalO, put, Option.getD_some, List.getElem?_set, acallOp, abuiltin, List.map_cons, List.map_nil, Nat.reduceEqDiff, Nat.reduceLT, List.length_set, Option.map_some, Option.bind_some, Option.bind_eq_bind, add_i, sub_i, mul_i, eql_i, neq_i, lss_i, leq_i, gtr_i, geq_i, ofV, ofCell, ↓reduceIte, List.cons_append, List.nil_append, List.append_nil, List.getElem?_toArray, List.getElem?_cons_succ, List.getElem?_cons_zero, e_draw, g_nil, g_cons, g_want, g_skip, g_val, g_call, g_ret, Option.map_none, l3, t35, t36, n1, show ((false : Bool) == false) = true from rfl]
      exact ⟨_, rfl, by simp [l3], by simp [t30], by simp [t31]⟩
    obtain ⟨t4, e4, l4, t40, t41⟩ := p4
    have p5 : ∃ t, ex Cf (Cat [true, true, true, true, false, false] (bodyOf Try.f18)) ⟨t4, h⟩ = some (.normal, ⟨t, h⟩) ∧ t.length = 35 ∧ t[0]? = some (.int .i64 x) ∧ t[1]? = some (.int .i64 y) ∧ t[7]? = some (.int .i64 0) := by
      simp only [bodyOf, Try.f18, Cat, Bool.false_eq_true, e_seq, e_region, e_cond, e_block, ex_skip, ex_exit, ex_ret, o_cons, xops_nil, k_want_none, k_want_false, k_val, k_pan, k_call, k_ret, k_seq, k_seq_exit, k_seq_ret, k_true, k_false, k_block, k_block_exit, k_block_ret, k_loop, k_loop_exit, k_loop_ret, awanted, aoper, evalO, put, Option.getD_some, List.getElem?_set, acallOp, abuiltin, List.map_cons, List.map_nil, Nat.reduceEqDiff, Nat.reduceLT, List.length_set, Option.map_some, Option.bind_some, Option.bind_eq_bind, add_i, sub_i, mul_i, eql_i, neq_i, lss_i, leq_i, gtr_i, geq_i, ofV, ofCell, ↓reduceIte, List.cons_append, List.nil_append, List.append_nil, List.getElem?_toArray, List.getElem?_cons_succ, List.getElem?_cons_zero, e_draw, g_nil, g_cons, g_want, g_skip, g_val, g_call, g_ret, Option.map_none, l4]
      exact ⟨_, rfl, by simp [l4], by simp [t40], by simp [t41], by simp [l4]⟩
    obtain ⟨t5, e5, l5, t50, t51, t57⟩ := p5
    rcases LV_loop h x y hx hy 6 0 rfl rfl t5 l5 t50 t51 t57 with ⟨q, t6, e6, t64⟩ | ⟨q, t6, e6, l6⟩
    · rw [q]
      exact fn_run (fn := Try.f18) (x := .ret) Try.func18 rfl rfl rfl (.inl rfl) (by rw [← ha0, hbody, e_seq, e1, k_seq, e_seq, e2, k_seq, e_seq, e3, k_seq, e_seq, e4, k_seq, e_seq, e_seq, e5, k_seq, e_block, e6, k_block_ret, k_seq_ret]) (vs := [_]) (by simp only [show Try.f18.results.toList = [ResultVar.tmp 4] from rfl, aresults, ares1, t64]; rfl)
    · have p7 : ∃ t, ex Cf (Cat [true, true, true, true, true] (bodyOf Try.f18)) ⟨t6, h⟩ = some (.ret, ⟨t, h⟩) ∧ t[4]? = some (.bool true) := by
        simp only [bodyOf, Try.f18, Cat, Bool.false_eq_true, e_seq, e_region, e_cond, e_block, ex_skip, ex_exit, ex_ret, o_cons, xops_nil, k_want_none, k_want_false, k_val, k_pan, k_call, k_ret, k_seq, k_seq_exit, k_seq_ret, k_true, k_false, k_block, k_block_exit, k_block_ret, k_loop, k_loop_exit, k_loop_ret, awanted, aoper, evalO, put, Option.getD_some, List.getElem?_set, acallOp, abuiltin, List.map_cons, List.map_nil, Nat.reduceEqDiff, Nat.reduceLT, List.length_set, Option.map_some, Option.bind_some, Option.bind_eq_bind, add_i, sub_i, mul_i, eql_i, neq_i, lss_i, leq_i, gtr_i, geq_i, ofV, ofCell, ↓reduceIte, List.cons_append, List.nil_append, List.append_nil, List.getElem?_toArray, List.getElem?_cons_succ, List.getElem?_cons_zero, e_draw, g_nil, g_cons, g_want, g_skip, g_val, g_call, g_ret, Option.map_none, l6]
        exact ⟨_, rfl, by simp [l6]⟩
      obtain ⟨t7, e7, t74⟩ := p7
      rw [q]
      exact fn_run (fn := Try.f18) (x := .ret) Try.func18 rfl rfl rfl (.inl rfl) (by rw [← ha0, hbody, e_seq, e1, k_seq, e_seq, e2, k_seq, e_seq, e3, k_seq, e_seq, e4, k_seq, e_seq, e_seq, e5, k_seq, e_block, e6, k_block_exit, if_pos rfl, k_seq, e7]) (vs := [_]) (by simp only [show Try.f18.results.toList = [ResultVar.tmp 4] from rfl, aresults, ares1, t74]; rfl)
  · have hc : coversI a b = false := by
      unfold coversI
      cases h1 : isSetB a <;> cases h2 : isSetB b <;> first | rfl | exact absurd ⟨h1, h2⟩ hs
    have p4 : ∃ t, ex Cf (Cat [true, true, true, false] (bodyOf Try.f18)) ⟨t3, h⟩ = some (.ret, ⟨t, h⟩) ∧ t[4]? = some (.bool false) := by
      cases h1 : isSetB a with
      | false =>
        rw [h1] at t35
        simp only [bodyOf, Try.f18, Cat, Bool.false_eq_true, e_seq, e_region, e_cond, e_block, ex_skip, ex_exit, ex_ret, o_cons, xops_nil, k_want_none, k_want_false, k_val, k_pan, k_call, k_ret, k_seq, k_seq_exit, k_seq_ret, k_true, k_false, k_block, k_block_exit, k_block_ret, k_loop, k_loop_exit, k_loop_ret, awanted, aoper, evalO, put, Option.getD_some, List.getElem?_set, acallOp, abuiltin, List.map_cons, List.map_nil, Nat.reduceEqDiff, Nat.reduceLT, List.length_set, Option.map_some, Option.bind_some, Option.bind_eq_bind, add_i, sub_i, mul_i, eql_i, neq_i, lss_i, leq_i, gtr_i, geq_i, ofV, ofCell, ↓reduceIte, List.cons_append, List.nil_append, List.append_nil, List.getElem?_toArray, List.getElem?_cons_succ, List.getElem?_cons_zero, e_draw, g_nil, g_cons, g_want, g_skip, g_val, g_call, g_ret, Option.map_none, l3, t35, t36, n1, n2, show ((true : Bool) == false) = false from rfl]
        exact ⟨_, rfl, by simp [l3]⟩
      | true =>
        have h2 : isSetB b = false := Bool.eq_false_iff.2 (fun h2 => hs ⟨h1, h2⟩)
        rw [h1] at t35; rw [h2] at t36
        simp only [bodyOf, Try.f18, Cat, Bool.false_eq_true, e_seq, e_region, e_cond, e_block, ex_skip, ex_exit, ex_ret, o_cons, xops_nil, k_want_none, k_want_false, k_val, k_pan, k_call, k_ret, k_seq, k_seq_exit, k_seq_ret, k_true, k_false, k_block, k_block_exit, k_block_ret, k_loop, k_loop_exit, k_loop_ret, awanted, aoper, evalO, put, Option.getD_some, List.getElem?_set, acallOp, abuiltin, List.map_cons, List.map_nil, Nat.reduceEqDiff, Nat.reduceLT, List.length_set, Option.map_some, Option.bind_some, Option.bind_eq_bind, add_i, sub_i, mul_i, eql_i, neq_i, lss_i, leq_i, gtr_i, geq_i, ofV, ofCell, ↓reduceIte, List.cons_append, List.nil_append, List.append_nil, List.getElem?_toArray, List.getElem?_cons_succ, List.getElem?_cons_zero, e_draw, g_nil, g_cons, g_want, g_skip, g_val, g_call, g_ret, Option.map_none, l3, t35, t36, n1, n2, show ((false : Bool) == false) = true from rfl]
        exact ⟨_, rfl, by simp [l3]⟩
    obtain ⟨t4, e4, t44⟩ := p4
    rw [hc]
    exact fn_run (fn := Try.f18) (x := .ret) Try.func18 rfl rfl rfl (.inl rfl) (by rw [← ha0, hbody, e_seq, e1, k_seq, e_seq, e2, k_seq, e_seq, e3, k_seq, e_seq, e4, k_seq_ret]) (vs := [_]) (by simp only [show Try.f18.results.toList = [ResultVar.tmp 4] from rfl, aresults, ares1, t44]; rfl)
end Go.Proofs.Cube
