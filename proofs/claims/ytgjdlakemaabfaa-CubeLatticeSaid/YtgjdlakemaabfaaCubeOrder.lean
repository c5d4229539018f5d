/-
  CUBE: CubeOrder's run.
-/
import Derived.Test.YtgjdlakemaabfaaCubeOrderLoops
set_option linter.unusedVariables false
set_option linter.unusedSimpArgs false
set_option linter.unusedSimpArgs false
set_option linter.unusedVariables false
set_option maxRecDepth 100000
namespace Go.Proofs.Cube
open Go Go.Am Go.Proofs Go.RowKit

theorem six {i : Nat} (h : i < 6) : i = 0 ∨ i = 1 ∨ i = 2 ∨ i = 3 ∨ i = 4 ∨ i = 5 := by omega
theorem sh1 {i : Nat} (hi : i < 6) (xo yo : Operand) (h : AHeap) : abin Cf .shl 3 xo yo h (.int .i64 1) (.int .u64 (i : Int)) = some (.int .i64 ((2 ^ i : Nat) : Int)) := by
  obtain rfl | rfl | rfl | rfl | rfl | rfl := six hi
  all_goals kernel_rfl
theorem conv6 {i : Nat} (hi : i < 6) (h : AHeap) : aconvert Try.prog h 3 29 (.int .i64 (i : Int)) = some (.int .u64 (i : Int), h) := by
  obtain rfl | rfl | rfl | rfl | rfl | rfl := six hi
  all_goals kernel_rfl
theorem cntL_succ (x y k : Nat) : cntL x y (k + 1) = if bitc x y k then 2 * cntL x y k else cntL x y k := by
  unfold cntL
  rw [List.range_succ, List.foldl_append]
  rfl
theorem cntL_le (x y : Nat) : ∀ k, cntL x y k ≤ 2 ^ k
  | 0 => by simp [cntL]
  | k + 1 => by
    have := cntL_le x y k
    rw [cntL_succ, Nat.pow_succ]
    split <;> omega
noncomputable def LN : Code := Cat (List.replicate 14 true ++ [false, true, true, true]) (bodyOf Try.f4)
theorem LN_out (h : AHeap) (tmps : List AVal) (hl : tmps.length = 138) (h18 : tmps[18]? = some (.int .i64 6)) :
    ∃ t : List AVal, ex Cf LN ⟨tmps, h⟩ = some (.exit 4, ⟨t, h⟩) ∧ t.length = 138 ∧ (∀ j, j < 18 → t[j]? = tmps[j]?) := by
  simp only [LN, bodyOf, Try.f4, Cat, Bool.false_eq_true, e_seq, e_region, e_cond, e_block, ex_skip, ex_exit, ex_ret, o_cons, xops_nil, k_want_none, k_want_false, k_val, k_pan, k_call, k_ret, k_seq, k_seq_exit, k_seq_ret, k_true, k_false, k_block, k_block_exit, k_block_ret, k_loop, k_loop_exit, k_loop_ret, awanted, aoper, evalO, put, Option.getD_some, List.getElem?_set, acallOp, abuiltin, List.map_cons, List.map_nil, Nat.reduceEqDiff, Nat.reduceLT, List.length_set, Option.map_some, Option.bind_some, Option.bind_eq_bind, add_i, sub_i, mul_i, eql_i, neq_i, lss_i, leq_i, gtr_i, geq_i, ofV, ofCell, ↓reduceIte, List.cons_append, List.nil_append, List.append_nil, List.getElem?_toArray, List.getElem?_cons_succ, List.getElem?_cons_zero, e_draw, g_nil, g_cons, g_want, g_skip, g_val, g_call, g_ret, Option.map_none, hl, h18, List.replicate, List.cons_append, List.nil_append, show decide ((6 : Int) < 6) = false from rfl]
  exact ⟨_, rfl, by simp [hl], fun j hj => by repeat rw [List.getElem?_set_ne (by omega)]⟩
theorem LN_in (h : AHeap) (x y : Nat) (hx : x < 64) (hy : y < 64) (i : Nat) (hi : i < 6) (tmps : List AVal) (hl : tmps.length = 138) (h8 : tmps[8]? = some (.int .i64 x)) (h9 : tmps[9]? = some (.int .i64 y)) (h17 : tmps[17]? = some (.int .i64 (cntL x y i : Nat))) (h18 : tmps[18]? = some (.int .i64 i)) :
    ∃ t : List AVal, ex Cf LN ⟨tmps, h⟩ = some (.normal, ⟨t, h⟩) ∧ t.length = 138 ∧ (∀ j, j < 17 → t[j]? = tmps[j]?) ∧ t[17]? = some (.int .i64 (cntL x y (i + 1) : Nat)) ∧ t[18]? = some (.int .i64 (i + 1 : Nat)) := by
  have hlt' : decide ((i : Int) < 6) = true := by simp; omega
  have hw : IntKind.i64.wrap ((i : Int) + 1) = ((i + 1 : Nat) : Int) := by rw [wrap64 (by omega) (by omega)]; rfl
  have hor := or_nat hx hy
  have hb1 := bit_at (or64 hx hy) hi
  have hb2 := bit_at hy hi
  have hb1' : (bits .and .i64 ((x ||| y : Nat) : Int) ((2 ^ i : Nat) : Int) != 0) = (x ||| y).testBit i := by
    rw [bne, hb1, Bool.not_not]
  have hc6 := cntL_le x y i
  have hc7 : 2 ^ i ≤ 64 := by
    obtain rfl | rfl | rfl | rfl | rfl | rfl := six hi
    all_goals decide
  have hm : IntKind.i64.wrap (2 * ((cntL x y i : Nat) : Int)) = ((2 * cntL x y i : Nat) : Int) := by
    rw [wrap64 (by omega) (by omega)]; push_cast; rfl
  cases t1 : (x ||| y).testBit i with
  | false =>
    have hs : cntL x y (i + 1) = cntL x y i := by rw [cntL_succ]; simp [bitc, t1]
    rw [t1] at hb1'
    refine ⟨_, by
      simp only [LN, bodyOf, Try.f4, Cat, Bool.false_eq_true, e_seq, e_region, e_cond, e_block, ex_skip, ex_exit, ex_ret, o_cons, xops_nil, k_want_none, k_want_false, k_val, k_pan, k_call, k_ret, k_seq, k_seq_exit, k_seq_ret, k_true, k_false, k_block, k_block_exit, k_block_ret, k_loop, k_loop_exit, k_loop_ret, awanted, aoper, evalO, put, Option.getD_some, List.getElem?_set, acallOp, abuiltin, List.map_cons, List.map_nil, Nat.reduceEqDiff, Nat.reduceLT, List.length_set, Option.map_some, Option.bind_some, Option.bind_eq_bind, add_i, sub_i, mul_i, eql_i, neq_i, lss_i, leq_i, gtr_i, geq_i, ofV, ofCell, ↓reduceIte, List.cons_append, List.nil_append, List.append_nil, List.getElem?_toArray, List.getElem?_cons_succ, List.getElem?_cons_zero, e_draw, g_nil, g_cons, g_want, g_skip, g_val, g_call, g_ret, Option.map_none, hl, h8, h9, h17, h18, hlt', hw, CP, or_i, and_i, hor, conv6 hi, sh1 hi, hb1', List.replicate, List.cons_append, List.nil_append, show ((false : Bool) == true) = false from rfl]
      exact rfl, by simp [hl], fun j hj => by repeat rw [List.getElem?_set_ne (by omega)], by simp [h17, hs], by simp [hl]⟩
  | true =>
    rw [t1] at hb1'
    cases t2 : y.testBit i with
    | true =>
      have hs : cntL x y (i + 1) = cntL x y i := by rw [cntL_succ]; simp [bitc, t1, t2]
      rw [t2] at hb2
      refine ⟨_, by
        simp only [LN, bodyOf, Try.f4, Cat, Bool.false_eq_true, e_seq, e_region, e_cond, e_block, ex_skip, ex_exit, ex_ret, o_cons, xops_nil, k_want_none, k_want_false, k_val, k_pan, k_call, k_ret, k_seq, k_seq_exit, k_seq_ret, k_true, k_false, k_block, k_block_exit, k_block_ret, k_loop, k_loop_exit, k_loop_ret, awanted, aoper, evalO, put, Option.getD_some, List.getElem?_set, acallOp, abuiltin, List.map_cons, List.map_nil, Nat.reduceEqDiff, Nat.reduceLT, List.length_set, Option.map_some, Option.bind_some, Option.bind_eq_bind, add_i, sub_i, mul_i, eql_i, neq_i, lss_i, leq_i, gtr_i, geq_i, ofV, ofCell, ↓reduceIte, List.cons_append, List.nil_append, List.append_nil, List.getElem?_toArray, List.getElem?_cons_succ, List.getElem?_cons_zero, e_draw, g_nil, g_cons, g_want, g_skip, g_val, g_call, g_ret, Option.map_none, hl, h8, h9, h17, h18, hlt', hw, CP, or_i, and_i, hor, conv6 hi, sh1 hi, hb1', hb2, Bool.not_true, List.replicate, List.cons_append, List.nil_append, show ((true : Bool) == true) = true from rfl]
        exact rfl, by simp [hl], fun j hj => by repeat rw [List.getElem?_set_ne (by omega)], by simp [h17, hs], by simp [hl]⟩
    | false =>
      have hs : cntL x y (i + 1) = 2 * cntL x y i := by rw [cntL_succ]; simp [bitc, t1, t2]
      rw [t2] at hb2
      refine ⟨_, by
        simp only [LN, bodyOf, Try.f4, Cat, Bool.false_eq_true, e_seq, e_region, e_cond, e_block, ex_skip, ex_exit, ex_ret, o_cons, xops_nil, k_want_none, k_want_false, k_val, k_pan, k_call, k_ret, k_seq, k_seq_exit, k_seq_ret, k_true, k_false, k_block, k_block_exit, k_block_ret, k_loop, k_loop_exit, k_loop_ret, awanted, aoper, evalO, put, Option.getD_some, List.getElem?_set, acallOp, abuiltin, List.map_cons, List.map_nil, Nat.reduceEqDiff, Nat.reduceLT, List.length_set, Option.map_some, Option.bind_some, Option.bind_eq_bind, add_i, sub_i, mul_i, eql_i, neq_i, lss_i, leq_i, gtr_i, geq_i, ofV, ofCell, ↓reduceIte, List.cons_append, List.nil_append, List.append_nil, List.getElem?_toArray, List.getElem?_cons_succ, List.getElem?_cons_zero, e_draw, g_nil, g_cons, g_want, g_skip, g_val, g_call, g_ret, Option.map_none, hl, h8, h9, h17, h18, hlt', hw, CP, or_i, and_i, hor, conv6 hi, sh1 hi, hb1', hb2, hm, Bool.not_false, List.replicate, List.cons_append, List.nil_append, show ((true : Bool) == true) = true from rfl]
        exact rfl, by simp [hl], fun j hj => by repeat rw [List.getElem?_set_ne (by omega)], by simp [hl, hs], by simp [hl]⟩
theorem LN_loop (h : AHeap) (x y : Nat) (hx : x < 64) (hy : y < 64) : ∀ (m i : Nat) (hi : i + m = 6) (tmps : List AVal) (hl : tmps.length = 138) (h8 : tmps[8]? = some (.int .i64 x)) (h9 : tmps[9]? = some (.int .i64 y)) (h17 : tmps[17]? = some (.int .i64 (cntL x y i : Nat))) (h18 : tmps[18]? = some (.int .i64 i)),
    ∃ t : List AVal, ex Cf (.loop LN) ⟨tmps, h⟩ = some (.exit 4, ⟨t, h⟩) ∧ t.length = 138 ∧ (∀ j, j < 17 → t[j]? = tmps[j]?) ∧ t[17]? = some (.int .i64 (cntL x y 6 : Nat)) := by
  intro m
  induction m with
  | zero =>
    intro i hi tmps hl h8 h9 h17 h18
    obtain rfl : i = 6 := by omega
    obtain ⟨t, e, l1, k1⟩ := LN_out h tmps hl h18
    exact ⟨t, by rw [e_loop, e, k_loop_exit], l1, fun j hj => k1 j (by omega), by rw [k1 17 (by omega)]; exact h17⟩
  | succ m ih =>
    intro i hi tmps hl h8 h9 h17 h18
    obtain ⟨t1, e1, l1, k1, a1, i1⟩ := LN_in h x y hx hy i (by omega) tmps hl h8 h9 h17 h18
    obtain ⟨t2, e2, l2, k2, a2⟩ := ih (i + 1) (by omega) t1 l1 (by rw [k1 8 (by omega)]; exact h8) (by rw [k1 9 (by omega)]; exact h9) a1 i1
    exact ⟨t2, by rw [e_loop, e1, k_loop]; exact e2, l2, fun j hj => (k2 j hj).trans (k1 j hj), a2⟩

theorem children_run (h : AHeap) (x : Int) : run Cf 13 [.int .i64 x] h = some (.ret (intsV (children x)), h) := run_of (n := 1) (by kernel_rfl)
theorem parents_run (h : AHeap) (x d : Int) : run Cf 11 [.int .i64 x, .int .i64 d] h = some (.ret (intsV (parents x d)), h) := run_of (n := 1) (by kernel_rfl)
theorem turnedL_len (s d : Int) : (turnedL s d).length ≤ 6 := by
  have := List.length_filter_le (on d) (List.range 6)
  simpa [turnedL] using this
theorem children_len (x : Int) : (children x).length ≤ 6 := by
  unfold children
  split
  · rw [List.length_reverse]; exact turnedL_len _ _
  · simp
theorem parents_len (x d : Int) : (parents x d).length ≤ 6 := by
  unfold parents
  split
  · simp
  · exact turnedL_len _ _

/-- the law's body, cut -/
def P4 (n : Nat) : List Bool := List.replicate n true ++ [false]
theorem order_body : bodyOf Try.f4 = .seq (Cat [false] (bodyOf Try.f4)) (.seq (Cat [true, false] (bodyOf Try.f4)) (.seq (Cat [true, true, false] (bodyOf Try.f4)) (.seq (Cat [true, true, true, false] (bodyOf Try.f4)) (.seq (Cat [true, true, true, true, false] (bodyOf Try.f4)) (.seq (Cat [true, true, true, true, true, false] (bodyOf Try.f4)) (.seq (Cat [true, true, true, true, true, true, false] (bodyOf Try.f4)) (.seq (Cat [true, true, true, true, true, true, true, false] (bodyOf Try.f4)) (.seq (Cat [true, true, true, true, true, true, true, true, false] (bodyOf Try.f4)) (.seq (.seq (Cat [true, true, true, true, true, true, true, true, true, false, false] (bodyOf Try.f4)) (.block 0 (.loop LC))) (.seq (Cat [true, true, true, true, true, true, true, true, true, true, false] (bodyOf Try.f4)) (.seq (Cat [true, true, true, true, true, true, true, true, true, true, true, false] (bodyOf Try.f4)) (.seq (.seq (Cat [true, true, true, true, true, true, true, true, true, true, true, true, false, false] (bodyOf Try.f4)) (.block 2 (.loop LP))) (.seq (Cat [true, true, true, true, true, true, true, true, true, true, true, true, true, false] (bodyOf Try.f4)) (.seq (.seq (Cat [true, true, true, true, true, true, true, true, true, true, true, true, true, true, false, false] (bodyOf Try.f4)) (.block 4 (.loop LN))) (Cat [true, true, true, true, true, true, true, true, true, true, true, true, true, true, true] (bodyOf Try.f4)))))))))))))))) := rfl

/-- TO COVER IS AN ORDER. -/
theorem order_run (h : AHeap) (a b c : Int) : run Cf 4 [.int .i64 a, .int .i64 b, .int .i64 c] h = some (.ret (.bool true), h) := by
  obtain ⟨a0, ha0⟩ : ∃ a0, a0 = slots Try.f4 [.int .i64 a, .int .i64 b, .int .i64 c] := ⟨_, rfl⟩
  have hl : a0.length = 138 := by rw [ha0]; rfl
  have i0 : a0[0]? = some (.int .i64 a) := by rw [ha0]; rfl
  have i1 : a0[1]? = some (.int .i64 b) := by rw [ha0]; rfl
  have i2 : a0[2]? = some (.int .i64 c) := by rw [ha0]; rfl
  obtain ⟨x, hx, hxe⟩ := and63 a
  obtain ⟨y, hy, hye⟩ := and63 b
  obtain ⟨z, hz, hze⟩ := and63 c
  have p1 : ∃ t, ex Cf (Cat [false] (bodyOf Try.f4)) ⟨a0, h⟩ = some (.normal, ⟨t, h⟩) ∧ t.length = 138 ∧ t[0]? = some (.int .i64 a) ∧ t[1]? = some (.int .i64 b) ∧ t[2]? = some (.int .i64 c) := by
    simp only [bodyOf, Try.f4, Cat, Bool.false_eq_true, e_seq, e_region, e_cond, e_block, ex_skip, ex_exit, ex_ret, o_cons, xops_nil, k_want_none, k_want_false, k_val, k_pan, k_call, k_ret, k_seq, k_seq_exit, k_seq_ret, k_true, k_false, k_block, k_block_exit, k_block_ret, k_loop, k_loop_exit, k_loop_ret, awanted, aoper, evalO, put, Option.getD_some, List.getElem?_set, acallOp, abuiltin, List.map_cons, List.map_nil, Nat.reduceEqDiff, Nat.reduceLT, List.length_set, Option.map_some, Option.bind_some, Option.bind_eq_bind, add_i, sub_i, mul_i, eql_i, neq_i, lss_i, leq_i, gtr_i, geq_i, ofV, ofCell, ↓reduceIte, List.cons_append, List.nil_append, List.append_nil, List.getElem?_toArray, List.getElem?_cons_succ, List.getElem?_cons_zero, e_draw, g_nil, g_cons, g_want, g_skip, g_val, g_call, g_ret, Option.map_none, hl]
    exact ⟨_, rfl, by simp [hl], by simp [i0], by simp [i1], by simp [i2]⟩
  obtain ⟨t1, e1, l1, t10, t11, t12⟩ := p1
  have p2 : ∃ t, ex Cf (Cat [true, false] (bodyOf Try.f4)) ⟨t1, h⟩ = some (.normal, ⟨t, h⟩) ∧ t.length = 138 ∧ t[0]? = some (.int .i64 a) ∧ t[1]? = some (.int .i64 b) ∧ t[2]? = some (.int .i64 c) ∧ t[7]? = some (.bool true) := by
    simp only [bodyOf, Try.f4, Cat, Bool.false_eq_true, e_seq, e_region, e_cond, e_block, ex_skip, ex_exit, ex_ret, o_cons, xops_nil, k_want_none, k_want_false, k_val, k_pan, k_call, k_ret, k_seq, k_seq_exit, k_seq_ret, k_true, k_false, k_block, k_block_exit, k_block_ret, k_loop, k_loop_exit, k_loop_ret, awanted, aoper, evalO, put, Option.getD_some, List.getElem?_set, acallOp, abuiltin, List.map_cons, List.map_nil, Nat.reduceEqDiff, Nat.reduceLT, List.length_set, Option.map_some, Option.bind_some, Option.bind_eq_bind, add_i, sub_i, mul_i, eql_i, neq_i, lss_i, leq_i, gtr_i, geq_i, ofV, ofCell, ↓reduceIte, List.cons_append, List.nil_append, List.append_nil, List.getElem?_toArray, List.getElem?_cons_succ, List.getElem?_cons_zero, e_draw, g_nil, g_cons, g_want, g_skip, g_val, g_call, g_ret, Option.map_none, l1, awake_run]
    exact ⟨_, rfl, by simp [l1], by simp [t10], by simp [t11], by simp [t12], by simp [l1]⟩
  obtain ⟨t2, e2, l2, t20, t21, t22, t27⟩ := p2
  have p3 : ∃ t, ex Cf (Cat [true, true, false] (bodyOf Try.f4)) ⟨t2, h⟩ = some (.normal, ⟨t, h⟩) ∧ t.length = 138 ∧ t[1]? = some (.int .i64 b) ∧ t[2]? = some (.int .i64 c) ∧ t[7]? = some (.bool true) ∧ t[8]? = some (.int .i64 x) := by
    simp only [bodyOf, Try.f4, Cat, Bool.false_eq_true, e_seq, e_region, e_cond, e_block, ex_skip, ex_exit, ex_ret, o_cons, xops_nil, k_want_none, k_want_false, k_val, k_pan, k_call, k_ret, k_seq, k_seq_exit, k_seq_ret, k_true, k_false, k_block, k_block_exit, k_block_ret, k_loop, k_loop_exit, k_loop_ret, awanted, aoper, evalO, put, Option.getD_some, List.getElem?_set, acallOp, abuiltin, List.map_cons, List.map_nil, Nat.reduceEqDiff, Nat.reduceLT, List.length_set, Option.map_some, Option.bind_some, Option.bind_eq_bind, add_i, sub_i, mul_i, eql_i, neq_i, lss_i, leq_i, gtr_i, geq_i, ofV, ofCell, ↓reduceIte, List.cons_append, List.nil_append, List.append_nil, List.getElem?_toArray, List.getElem?_cons_succ, List.getElem?_cons_zero, e_draw, g_nil, g_cons, g_want, g_skip, g_val, g_call, g_ret, Option.map_none, l2, t20, and_i, hxe]
    exact ⟨_, rfl, by simp [l2], by simp [t21], by simp [t22], by simp [t27], by simp [l2]⟩
  obtain ⟨t3, e3, l3, t31, t32, t37, t38⟩ := p3
  have p4 : ∃ t, ex Cf (Cat [true, true, true, false] (bodyOf Try.f4)) ⟨t3, h⟩ = some (.normal, ⟨t, h⟩) ∧ t.length = 138 ∧ t[2]? = some (.int .i64 c) ∧ t[7]? = some (.bool true) ∧ t[8]? = some (.int .i64 x) ∧ t[9]? = some (.int .i64 y) := by
    simp only [bodyOf, Try.f4, Cat, Bool.false_eq_true, e_seq, e_region, e_cond, e_block, ex_skip, ex_exit, ex_ret, o_cons, xops_nil, k_want_none, k_want_false, k_val, k_pan, k_call, k_ret, k_seq, k_seq_exit, k_seq_ret, k_true, k_false, k_block, k_block_exit, k_block_ret, k_loop, k_loop_exit, k_loop_ret, awanted, aoper, evalO, put, Option.getD_some, List.getElem?_set, acallOp, abuiltin, List.map_cons, List.map_nil, Nat.reduceEqDiff, Nat.reduceLT, List.length_set, Option.map_some, Option.bind_some, Option.bind_eq_bind, add_i, sub_i, mul_i, eql_i, neq_i, lss_i, leq_i, gtr_i, geq_i, ofV, ofCell, ↓reduceIte, List.cons_append, List.nil_append, List.append_nil, List.getElem?_toArray, List.getElem?_cons_succ, List.getElem?_cons_zero, e_draw, g_nil, g_cons, g_want, g_skip, g_val, g_call, g_ret, Option.map_none, l3, t31, and_i, hye]
    exact ⟨_, rfl, by simp [l3], by simp [t32], by simp [t37], by simp [t38], by simp [l3]⟩
  obtain ⟨t4, e4, l4, t42, t47, t48, t49⟩ := p4
  have p5 : ∃ t, ex Cf (Cat [true, true, true, true, false] (bodyOf Try.f4)) ⟨t4, h⟩ = some (.normal, ⟨t, h⟩) ∧ t.length = 138 ∧ t[7]? = some (.bool true) ∧ t[8]? = some (.int .i64 x) ∧ t[9]? = some (.int .i64 y) ∧ t[10]? = some (.int .i64 z) := by
    simp only [bodyOf, Try.f4, Cat, Bool.false_eq_true, e_seq, e_region, e_cond, e_block, ex_skip, ex_exit, ex_ret, o_cons, xops_nil, k_want_none, k_want_false, k_val, k_pan, k_call, k_ret, k_seq, k_seq_exit, k_seq_ret, k_true, k_false, k_block, k_block_exit, k_block_ret, k_loop, k_loop_exit, k_loop_ret, awanted, aoper, evalO, put, Option.getD_some, List.getElem?_set, acallOp, abuiltin, List.map_cons, List.map_nil, Nat.reduceEqDiff, Nat.reduceLT, List.length_set, Option.map_some, Option.bind_some, Option.bind_eq_bind, add_i, sub_i, mul_i, eql_i, neq_i, lss_i, leq_i, gtr_i, geq_i, ofV, ofCell, ↓reduceIte, List.cons_append, List.nil_append, List.append_nil, List.getElem?_toArray, List.getElem?_cons_succ, List.getElem?_cons_zero, e_draw, g_nil, g_cons, g_want, g_skip, g_val, g_call, g_ret, Option.map_none, l4, t42, and_i, hze]
    exact ⟨_, rfl, by simp [l4], by simp [t47], by simp [t48], by simp [t49], by simp [l4]⟩
  obtain ⟨t5, e5, l5, t57, t58, t59, t510⟩ := p5
  have p6 : ∃ t, ex Cf (Cat [true, true, true, true, true, false] (bodyOf Try.f4)) ⟨t5, h⟩ = some (.normal, ⟨t, h⟩) ∧ t.length = 138 ∧ t[7]? = some (.bool true) ∧ t[8]? = some (.int .i64 x) ∧ t[9]? = some (.int .i64 y) := by
    cases c1 : coversI x y with
    | false =>
      simp only [bodyOf, Try.f4, Cat, Bool.false_eq_true, e_seq, e_region, e_cond, e_block, ex_skip, ex_exit, ex_ret, o_cons, xops_nil, k_want_none, k_want_false, k_val, k_pan, k_call, k_ret, k_seq, k_seq_exit, k_seq_ret, k_true, k_false, k_block, k_block_exit, k_block_ret, k_loop, k_loop_exit, k_loop_ret, awanted, aoper, evalO, put, Option.getD_some, List.getElem?_set, acallOp, abuiltin, List.map_cons, List.map_nil, Nat.reduceEqDiff, Nat.reduceLT, List.length_set, Option.map_some, Option.bind_some, Option.bind_eq_bind, add_i, sub_i, mul_i, eql_i, neq_i, lss_i, leq_i, gtr_i, geq_i, ofV, ofCell, ↓reduceIte, List.cons_append, List.nil_append, List.append_nil, List.getElem?_toArray, List.getElem?_cons_succ, List.getElem?_cons_zero, e_draw, g_nil, g_cons, g_want, g_skip, g_val, g_call, g_ret, Option.map_none, l5, t57, t58, t59, t510, covers_run, c1, show ((false : Bool) == true) = false from rfl]
      exact ⟨_, rfl, by simp [l5], by simp [t57], by simp [t58], by simp [t59]⟩
    | true =>
      cases c2 : coversI y z with
      | false =>
        simp only [bodyOf, Try.f4, Cat, Bool.false_eq_true, e_seq, e_region, e_cond, e_block, ex_skip, ex_exit, ex_ret, o_cons, xops_nil, k_want_none, k_want_false, k_val, k_pan, k_call, k_ret, k_seq, k_seq_exit, k_seq_ret, k_true, k_false, k_block, k_block_exit, k_block_ret, k_loop, k_loop_exit, k_loop_ret, awanted, aoper, evalO, put, Option.getD_some, List.getElem?_set, acallOp, abuiltin, List.map_cons, List.map_nil, Nat.reduceEqDiff, Nat.reduceLT, List.length_set, Option.map_some, Option.bind_some, Option.bind_eq_bind, add_i, sub_i, mul_i, eql_i, neq_i, lss_i, leq_i, gtr_i, geq_i, ofV, ofCell, ↓reduceIte, List.cons_append, List.nil_append, List.append_nil, List.getElem?_toArray, List.getElem?_cons_succ, List.getElem?_cons_zero, e_draw, g_nil, g_cons, g_want, g_skip, g_val, g_call, g_ret, Option.map_none, l5, t57, t58, t59, t510, covers_run, c1, c2, show ((true : Bool) == true) = true from rfl, show ((false : Bool) == true) = false from rfl]
        exact ⟨_, rfl, by simp [l5], by simp [t57], by simp [t58], by simp [t59]⟩
      | true =>
        have c3 := cov_trans hx hy hz c1 c2
        simp only [bodyOf, Try.f4, Cat, Bool.false_eq_true, e_seq, e_region, e_cond, e_block, ex_skip, ex_exit, ex_ret, o_cons, xops_nil, k_want_none, k_want_false, k_val, k_pan, k_call, k_ret, k_seq, k_seq_exit, k_seq_ret, k_true, k_false, k_block, k_block_exit, k_block_ret, k_loop, k_loop_exit, k_loop_ret, awanted, aoper, evalO, put, Option.getD_some, List.getElem?_set, acallOp, abuiltin, List.map_cons, List.map_nil, Nat.reduceEqDiff, Nat.reduceLT, List.length_set, Option.map_some, Option.bind_some, Option.bind_eq_bind, add_i, sub_i, mul_i, eql_i, neq_i, lss_i, leq_i, gtr_i, geq_i, ofV, ofCell, ↓reduceIte, List.cons_append, List.nil_append, List.append_nil, List.getElem?_toArray, List.getElem?_cons_succ, List.getElem?_cons_zero, e_draw, g_nil, g_cons, g_want, g_skip, g_val, g_call, g_ret, Option.map_none, l5, t57, t58, t59, t510, covers_run, c1, c2, c3, not_b, Bool.not_true, show ((true : Bool) == true) = true from rfl]
        exact ⟨_, rfl, by simp [l5], by simp [t57], by simp [t58], by simp [t59]⟩
  obtain ⟨t6, e6, l6, t67, t68, t69⟩ := p6
  have hboth := cov_both hx hy
  have hjoin := cov_join hx hy
  have p7 : ∃ t, ex Cf (Cat [true, true, true, true, true, true, false] (bodyOf Try.f4)) ⟨t6, h⟩ = some (.normal, ⟨t, h⟩) ∧ t.length = 138 ∧ t[7]? = some (.bool true) ∧ t[8]? = some (.int .i64 x) ∧ t[9]? = some (.int .i64 y) := by
    cases c1 : coversI x y with
    | false =>
      rw [c1, Bool.false_and] at hboth
      simp only [bodyOf, Try.f4, Cat, Bool.false_eq_true, e_seq, e_region, e_cond, e_block, ex_skip, ex_exit, ex_ret, o_cons, xops_nil, k_want_none, k_want_false, k_val, k_pan, k_call, k_ret, k_seq, k_seq_exit, k_seq_ret, k_true, k_false, k_block, k_block_exit, k_block_ret, k_loop, k_loop_exit, k_loop_ret, awanted, aoper, evalO, put, Option.getD_some, List.getElem?_set, acallOp, abuiltin, List.map_cons, List.map_nil, Nat.reduceEqDiff, Nat.reduceLT, List.length_set, Option.map_some, Option.bind_some, Option.bind_eq_bind, add_i, sub_i, mul_i, eql_i, neq_i, lss_i, leq_i, gtr_i, geq_i, ofV, ofCell, ↓reduceIte, List.cons_append, List.nil_append, List.append_nil, List.getElem?_toArray, List.getElem?_cons_succ, List.getElem?_cons_zero, e_draw, g_nil, g_cons, g_want, g_skip, g_val, g_call, g_ret, Option.map_none, l6, t67, t68, t69, covers_run, c1, ← hboth, neb, or_i, or_nat hx hy, not_b, hjoin, bne_self_eq_false, show ((false : Bool) == true) = false from rfl, show ((false : Bool) == false) = true from rfl]
      exact ⟨_, rfl, by simp [l6], by simp [t67], by simp [t68], by simp [t69]⟩
    | true =>
      rw [c1, Bool.true_and] at hboth
      simp only [bodyOf, Try.f4, Cat, Bool.false_eq_true, e_seq, e_region, e_cond, e_block, ex_skip, ex_exit, ex_ret, o_cons, xops_nil, k_want_none, k_want_false, k_val, k_pan, k_call, k_ret, k_seq, k_seq_exit, k_seq_ret, k_true, k_false, k_block, k_block_exit, k_block_ret, k_loop, k_loop_exit, k_loop_ret, awanted, aoper, evalO, put, Option.getD_some, List.getElem?_set, acallOp, abuiltin, List.map_cons, List.map_nil, Nat.reduceEqDiff, Nat.reduceLT, List.length_set, Option.map_some, Option.bind_some, Option.bind_eq_bind, add_i, sub_i, mul_i, eql_i, neq_i, lss_i, leq_i, gtr_i, geq_i, ofV, ofCell, ↓reduceIte, List.cons_append, List.nil_append, List.append_nil, List.getElem?_toArray, List.getElem?_cons_succ, List.getElem?_cons_zero, e_draw, g_nil, g_cons, g_want, g_skip, g_val, g_call, g_ret, Option.map_none, l6, t67, t68, t69, covers_run, c1, hboth, neb, or_i, or_nat hx hy, not_b, hjoin, bne_self_eq_false, show ((true : Bool) == true) = true from rfl, show ((false : Bool) == false) = true from rfl]
      exact ⟨_, rfl, by simp [l6], by simp [t67], by simp [t68], by simp [t69]⟩
  obtain ⟨t7, e7, l7, t77, t78, t79⟩ := p7
  have p8 : ∃ t, ex Cf (Cat [true, true, true, true, true, true, true, false] (bodyOf Try.f4)) ⟨t7, h⟩ = some (.normal, ⟨t, h⟩) ∧ t.length = 138 ∧ t[7]? = some (.bool true) ∧ t[8]? = some (.int .i64 x) ∧ t[9]? = some (.int .i64 y) ∧ t[11]? = some (.bool false) := by
    simp only [bodyOf, Try.f4, Cat, Bool.false_eq_true, e_seq, e_region, e_cond, e_block, ex_skip, ex_exit, ex_ret, o_cons, xops_nil, k_want_none, k_want_false, k_val, k_pan, k_call, k_ret, k_seq, k_seq_exit, k_seq_ret, k_true, k_false, k_block, k_block_exit, k_block_ret, k_loop, k_loop_exit, k_loop_ret, awanted, aoper, evalO, put, Option.getD_some, List.getElem?_set, acallOp, abuiltin, List.map_cons, List.map_nil, Nat.reduceEqDiff, Nat.reduceLT, List.length_set, Option.map_some, Option.bind_some, Option.bind_eq_bind, add_i, sub_i, mul_i, eql_i, neq_i, lss_i, leq_i, gtr_i, geq_i, ofV, ofCell, ↓reduceIte, List.cons_append, List.nil_append, List.append_nil, List.getElem?_toArray, List.getElem?_cons_succ, List.getElem?_cons_zero, e_draw, g_nil, g_cons, g_want, g_skip, g_val, g_call, g_ret, Option.map_none, l7]
    exact ⟨_, rfl, by simp [l7], by simp [t77], by simp [t78], by simp [t79], by simp [l7]⟩
  obtain ⟨t8, e8, l8, t87, t88, t89, t811⟩ := p8
  have p9 : ∃ t, ex Cf (Cat [true, true, true, true, true, true, true, true, false] (bodyOf Try.f4)) ⟨t8, h⟩ = some (.normal, ⟨t, h⟩) ∧ t.length = 138 ∧ t[7]? = some (.bool true) ∧ t[8]? = some (.int .i64 x) ∧ t[9]? = some (.int .i64 y) ∧ t[11]? = some (.bool false) ∧ t[12]? = some (intsV (children x)) := by
    simp only [bodyOf, Try.f4, Cat, Bool.false_eq_true, e_seq, e_region, e_cond, e_block, ex_skip, ex_exit, ex_ret, o_cons, xops_nil, k_want_none, k_want_false, k_val, k_pan, k_call, k_ret, k_seq, k_seq_exit, k_seq_ret, k_true, k_false, k_block, k_block_exit, k_block_ret, k_loop, k_loop_exit, k_loop_ret, awanted, aoper, evalO, put, Option.getD_some, List.getElem?_set, acallOp, abuiltin, List.map_cons, List.map_nil, Nat.reduceEqDiff, Nat.reduceLT, List.length_set, Option.map_some, Option.bind_some, Option.bind_eq_bind, add_i, sub_i, mul_i, eql_i, neq_i, lss_i, leq_i, gtr_i, geq_i, ofV, ofCell, ↓reduceIte, List.cons_append, List.nil_append, List.append_nil, List.getElem?_toArray, List.getElem?_cons_succ, List.getElem?_cons_zero, e_draw, g_nil, g_cons, g_want, g_skip, g_val, g_call, g_ret, Option.map_none, l8, t88, children_run]
    exact ⟨_, rfl, by simp [l8], by simp [t87], by simp [t88], by simp [t89], by simp [t811], by simp [l8]⟩
  obtain ⟨t9, e9, l9, t97, t98, t99, t911, t912⟩ := p9
  have p10 : ∃ t, ex Cf (Cat [true, true, true, true, true, true, true, true, true, false, false] (bodyOf Try.f4)) ⟨t9, h⟩ = some (.normal, ⟨t, h⟩) ∧ t.length = 138 ∧ t[7]? = some (.bool true) ∧ t[8]? = some (.int .i64 x) ∧ t[9]? = some (.int .i64 y) ∧ t[11]? = some (.bool false) ∧ t[12]? = some (intsV (children x)) ∧ t[13]? = some (.int .i64 0) := by
    simp only [bodyOf, Try.f4, Cat, Bool.false_eq_true, e_seq, e_region, e_cond, e_block, ex_skip, ex_exit, ex_ret, o_cons, xops_nil, k_want_none, k_want_false, k_val, k_pan, k_call, k_ret, k_seq, k_seq_exit, k_seq_ret, k_true, k_false, k_block, k_block_exit, k_block_ret, k_loop, k_loop_exit, k_loop_ret, awanted, aoper, evalO, put, Option.getD_some, List.getElem?_set, acallOp, abuiltin, List.map_cons, List.map_nil, Nat.reduceEqDiff, Nat.reduceLT, List.length_set, Option.map_some, Option.bind_some, Option.bind_eq_bind, add_i, sub_i, mul_i, eql_i, neq_i, lss_i, leq_i, gtr_i, geq_i, ofV, ofCell, ↓reduceIte, List.cons_append, List.nil_append, List.append_nil, List.getElem?_toArray, List.getElem?_cons_succ, List.getElem?_cons_zero, e_draw, g_nil, g_cons, g_want, g_skip, g_val, g_call, g_ret, Option.map_none, l9]
    exact ⟨_, rfl, by simp [l9], by simp [t97], by simp [t98], by simp [t99], by simp [t911], by simp [t912], by simp [l9]⟩
  obtain ⟨s1, g1, m1, s17, s18, s19, s111, s112, s113⟩ := p10
  obtain ⟨s2, g2, m2, k2, s211⟩ := LC_loop h y (intsV (children x)) (children x) [] false (by have := children_len (x : Int); simp; omega) (ints_V _) s1 m1 s19 s111 s112 s113
  have s27 := (k2 7 (by omega)).trans s17
  have s28 := (k2 8 (by omega)).trans s18
  have s29 := (k2 9 (by omega)).trans s19
  rw [Bool.false_or] at s211
  have p11 : ∃ t, ex Cf (Cat [true, true, true, true, true, true, true, true, true, true, false] (bodyOf Try.f4)) ⟨s2, h⟩ = some (.normal, ⟨t, h⟩) ∧ t.length = 138 ∧ t[7]? = some (.bool true) ∧ t[8]? = some (.int .i64 x) ∧ t[9]? = some (.int .i64 y) ∧ t[11]? = some (.bool ((children x).any (· == (y : Int)))) ∧ t[14]? = some (.bool false) := by
    simp only [bodyOf, Try.f4, Cat, Bool.false_eq_true, e_seq, e_region, e_cond, e_block, ex_skip, ex_exit, ex_ret, o_cons, xops_nil, k_want_none, k_want_false, k_val, k_pan, k_call, k_ret, k_seq, k_seq_exit, k_seq_ret, k_true, k_false, k_block, k_block_exit, k_block_ret, k_loop, k_loop_exit, k_loop_ret, awanted, aoper, evalO, put, Option.getD_some, List.getElem?_set, acallOp, abuiltin, List.map_cons, List.map_nil, Nat.reduceEqDiff, Nat.reduceLT, List.length_set, Option.map_some, Option.bind_some, Option.bind_eq_bind, add_i, sub_i, mul_i, eql_i, neq_i, lss_i, leq_i, gtr_i, geq_i, ofV, ofCell, ↓reduceIte, List.cons_append, List.nil_append, List.append_nil, List.getElem?_toArray, List.getElem?_cons_succ, List.getElem?_cons_zero, e_draw, g_nil, g_cons, g_want, g_skip, g_val, g_call, g_ret, Option.map_none, m2]
    exact ⟨_, rfl, by simp [m2], by simp [s27], by simp [s28], by simp [s29], by simp [s211], by simp [m2]⟩
  obtain ⟨s3, g3, m3, s37, s38, s39, s311, s314⟩ := p11
  have p12 : ∃ t, ex Cf (Cat [true, true, true, true, true, true, true, true, true, true, true, false] (bodyOf Try.f4)) ⟨s3, h⟩ = some (.normal, ⟨t, h⟩) ∧ t.length = 138 ∧ t[7]? = some (.bool true) ∧ t[8]? = some (.int .i64 x) ∧ t[9]? = some (.int .i64 y) ∧ t[11]? = some (.bool ((children x).any (· == (y : Int)))) ∧ t[14]? = some (.bool false) ∧ t[15]? = some (intsV (parents y 6)) := by
    simp only [bodyOf, Try.f4, Cat, Bool.false_eq_true, e_seq, e_region, e_cond, e_block, ex_skip, ex_exit, ex_ret, o_cons, xops_nil, k_want_none, k_want_false, k_val, k_pan, k_call, k_ret, k_seq, k_seq_exit, k_seq_ret, k_true, k_false, k_block, k_block_exit, k_block_ret, k_loop, k_loop_exit, k_loop_ret, awanted, aoper, evalO, put, Option.getD_some, List.getElem?_set, acallOp, abuiltin, List.map_cons, List.map_nil, Nat.reduceEqDiff, Nat.reduceLT, List.length_set, Option.map_some, Option.bind_some, Option.bind_eq_bind, add_i, sub_i, mul_i, eql_i, neq_i, lss_i, leq_i, gtr_i, geq_i, ofV, ofCell, ↓reduceIte, List.cons_append, List.nil_append, List.append_nil, List.getElem?_toArray, List.getElem?_cons_succ, List.getElem?_cons_zero, e_draw, g_nil, g_cons, g_want, g_skip, g_val, g_call, g_ret, Option.map_none, m3, s39, parents_run]
    exact ⟨_, rfl, by simp [m3], by simp [s37], by simp [s38], by simp [s39], by simp [s311], by simp [s314], by simp [m3]⟩
  obtain ⟨s4, g4, m4, s47, s48, s49, s411, s414, s415⟩ := p12
  have p13 : ∃ t, ex Cf (Cat [true, true, true, true, true, true, true, true, true, true, true, true, false, false] (bodyOf Try.f4)) ⟨s4, h⟩ = some (.normal, ⟨t, h⟩) ∧ t.length = 138 ∧ t[7]? = some (.bool true) ∧ t[8]? = some (.int .i64 x) ∧ t[9]? = some (.int .i64 y) ∧ t[11]? = some (.bool ((children x).any (· == (y : Int)))) ∧ t[14]? = some (.bool false) ∧ t[15]? = some (intsV (parents y 6)) ∧ t[16]? = some (.int .i64 0) := by
    simp only [bodyOf, Try.f4, Cat, Bool.false_eq_true, e_seq, e_region, e_cond, e_block, ex_skip, ex_exit, ex_ret, o_cons, xops_nil, k_want_none, k_want_false, k_val, k_pan, k_call, k_ret, k_seq, k_seq_exit, k_seq_ret, k_true, k_false, k_block, k_block_exit, k_block_ret, k_loop, k_loop_exit, k_loop_ret, awanted, aoper, evalO, put, Option.getD_some, List.getElem?_set, acallOp, abuiltin, List.map_cons, List.map_nil, Nat.reduceEqDiff, Nat.reduceLT, List.length_set, Option.map_some, Option.bind_some, Option.bind_eq_bind, add_i, sub_i, mul_i, eql_i, neq_i, lss_i, leq_i, gtr_i, geq_i, ofV, ofCell, ↓reduceIte, List.cons_append, List.nil_append, List.append_nil, List.getElem?_toArray, List.getElem?_cons_succ, List.getElem?_cons_zero, e_draw, g_nil, g_cons, g_want, g_skip, g_val, g_call, g_ret, Option.map_none, m4]
    exact ⟨_, rfl, by simp [m4], by simp [s47], by simp [s48], by simp [s49], by simp [s411], by simp [s414], by simp [s415], by simp [m4]⟩
  obtain ⟨s5, g5, m5, s57, s58, s59, s511, s514, s515, s516⟩ := p13
  obtain ⟨s6, g6, m6, k6, s614⟩ := LP_loop h x (intsV (parents y 6)) (parents y 6) [] false (by have := parents_len (y : Int) 6; simp; omega) (ints_V _) s5 m5 s58 s514 s515 s516
  have s67 := (k6 7 (by omega)).trans s57
  have s68 := (k6 8 (by omega)).trans s58
  have s69 := (k6 9 (by omega)).trans s59
  have s611 := (k6 11 (by omega)).trans s511
  rw [Bool.false_or] at s614
  have hcp := child_at hx hy
  rw [← hcp] at s614
  obtain ⟨cb, hcb⟩ : ∃ cb, cb = (children x).any (· == (y : Int)) := ⟨_, rfl⟩
  rw [← hcb] at s611 s614
  have p14 : ∃ t, ex Cf (Cat [true, true, true, true, true, true, true, true, true, true, true, true, true, false] (bodyOf Try.f4)) ⟨s6, h⟩ = some (.normal, ⟨t, h⟩) ∧ t.length = 138 ∧ t[7]? = some (.bool true) ∧ t[8]? = some (.int .i64 x) ∧ t[9]? = some (.int .i64 y) ∧ t[11]? = some (.bool cb) ∧ t[14]? = some (.bool cb) ∧ t[17]? = some (.int .i64 1) := by
    simp only [bodyOf, Try.f4, Cat, Bool.false_eq_true, e_seq, e_region, e_cond, e_block, ex_skip, ex_exit, ex_ret, o_cons, xops_nil, k_want_none, k_want_false, k_val, k_pan, k_call, k_ret, k_seq, k_seq_exit, k_seq_ret, k_true, k_false, k_block, k_block_exit, k_block_ret, k_loop, k_loop_exit, k_loop_ret, awanted, aoper, evalO, put, Option.getD_some, List.getElem?_set, acallOp, abuiltin, List.map_cons, List.map_nil, Nat.reduceEqDiff, Nat.reduceLT, List.length_set, Option.map_some, Option.bind_some, Option.bind_eq_bind, add_i, sub_i, mul_i, eql_i, neq_i, lss_i, leq_i, gtr_i, geq_i, ofV, ofCell, ↓reduceIte, List.cons_append, List.nil_append, List.append_nil, List.getElem?_toArray, List.getElem?_cons_succ, List.getElem?_cons_zero, e_draw, g_nil, g_cons, g_want, g_skip, g_val, g_call, g_ret, Option.map_none, m6]
    exact ⟨_, rfl, by simp [m6], by simp [s67], by simp [s68], by simp [s69], by simp [s611], by simp [s614], by simp [m6]⟩
  obtain ⟨s7, g7, m7, s77, s78, s79, s711, s714, s717⟩ := p14
  have p15 : ∃ t, ex Cf (Cat [true, true, true, true, true, true, true, true, true, true, true, true, true, true, false, false] (bodyOf Try.f4)) ⟨s7, h⟩ = some (.normal, ⟨t, h⟩) ∧ t.length = 138 ∧ t[7]? = some (.bool true) ∧ t[8]? = some (.int .i64 x) ∧ t[9]? = some (.int .i64 y) ∧ t[11]? = some (.bool cb) ∧ t[14]? = some (.bool cb) ∧ t[17]? = some (.int .i64 1) ∧ t[18]? = some (.int .i64 0) := by
    simp only [bodyOf, Try.f4, Cat, Bool.false_eq_true, e_seq, e_region, e_cond, e_block, ex_skip, ex_exit, ex_ret, o_cons, xops_nil, k_want_none, k_want_false, k_val, k_pan, k_call, k_ret, k_seq, k_seq_exit, k_seq_ret, k_true, k_false, k_block, k_block_exit, k_block_ret, k_loop, k_loop_exit, k_loop_ret, awanted, aoper, evalO, put, Option.getD_some, List.getElem?_set, acallOp, abuiltin, List.map_cons, List.map_nil, Nat.reduceEqDiff, Nat.reduceLT, List.length_set, Option.map_some, Option.bind_some, Option.bind_eq_bind, add_i, sub_i, mul_i, eql_i, neq_i, lss_i, leq_i, gtr_i, geq_i, ofV, ofCell, ↓reduceIte, List.cons_append, List.nil_append, List.append_nil, List.getElem?_toArray, List.getElem?_cons_succ, List.getElem?_cons_zero, e_draw, g_nil, g_cons, g_want, g_skip, g_val, g_call, g_ret, Option.map_none, m7]
    exact ⟨_, rfl, by simp [m7], by simp [s77], by simp [s78], by simp [s79], by simp [s711], by simp [s714], by simp [s717], by simp [m7]⟩
  obtain ⟨s8, g8, m8, s87, s88, s89, s811, s814, s817, s818⟩ := p15
  obtain ⟨s9, g9, m9, k9, s917⟩ := LN_loop h x y hx hy 6 0 rfl s8 m8 s88 s89 s817 s818
  have s97 := (k9 7 (by omega)).trans s87
  have s98 := (k9 8 (by omega)).trans s88
  have s99 := (k9 9 (by omega)).trans s89
  have s911 := (k9 11 (by omega)).trans s811
  have s914 := (k9 14 (by omega)).trans s814
  obtain ⟨bv, hI, hbr⟩ := between_run (y : Int) ((x ||| y : Nat) : Int)
  have hlen := hI.1.al h
  rw [cnt_at hx hy] at hlen
  have p16 : ∃ t, ex Cf (Cat [true, true, true, true, true, true, true, true, true, true, true, true, true, true, true] (bodyOf Try.f4)) ⟨s9, h⟩ = some (.ret, ⟨t, h⟩) ∧ t[6]? = some (.bool true) := by
    simp only [bodyOf, Try.f4, Cat, Bool.false_eq_true, e_seq, e_region, e_cond, e_block, ex_skip, ex_exit, ex_ret, o_cons, xops_nil, k_want_none, k_want_false, k_val, k_pan, k_call, k_ret, k_seq, k_seq_exit, k_seq_ret, k_true, k_false, k_block, k_block_exit, k_block_ret, k_loop, k_loop_exit, k_loop_ret, awanted, aoper, evalO, put, Option.getD_some, List.getElem?_set, acallOp, abuiltin, List.map_cons, List.map_nil, Nat.reduceEqDiff, Nat.reduceLT, List.length_set, Option.map_some, Option.bind_some, Option.bind_eq_bind, add_i, sub_i, mul_i, eql_i, neq_i, lss_i, leq_i, gtr_i, geq_i, ofV, ofCell, ↓reduceIte, List.cons_append, List.nil_append, List.append_nil, List.getElem?_toArray, List.getElem?_cons_succ, List.getElem?_cons_zero, e_draw, g_nil, g_cons, g_want, g_skip, g_val, g_call, g_ret, Option.map_none, m9, s97, s98, s99, s911, s914, s917, eqb, CP, or_i, or_nat hx hy, hbr, hlen, beq_self_eq_true, show ((true : Bool) == true) = true from rfl]
    exact ⟨_, rfl, by simp [m9]⟩
  obtain ⟨s10, g10, s106⟩ := p16
  exact fn_run (fn := Try.f4) (x := .ret) Try.func4 rfl rfl rfl (.inl rfl) (by rw [← ha0, order_body, e_seq, e1, k_seq, e_seq, e2, k_seq, e_seq, e3, k_seq, e_seq, e4, k_seq, e_seq, e5, k_seq, e_seq, e6, k_seq, e_seq, e7, k_seq, e_seq, e8, k_seq, e_seq, e9, k_seq, e_seq, e_seq, g1, k_seq, e_block, g2, k_block_exit, if_pos rfl, k_seq, e_seq, g3, k_seq, e_seq, g4, k_seq, e_seq, e_seq, g5, k_seq, e_block, g6, k_block_exit, if_pos rfl, k_seq, e_seq, g7, k_seq, e_seq, e_seq, g8, k_seq, e_block, g9, k_block_exit, if_pos rfl, k_seq, g10]) (vs := [_]) (by simp only [show Try.f4.results.toList = [ResultVar.tmp 6] from rfl, aresults, ares1, s106]; rfl)
end Go.Proofs.Cube
