/-
  CUBE: CubeOrder's walk.
-/
import Derived.Test.YtgjdlakemaabfaaCubeOrderLaw
set_option linter.unusedVariables false
set_option linter.unusedSimpArgs false
set_option linter.unusedSimpArgs false
set_option linter.unusedVariables false
set_option maxRecDepth 100000
namespace Go.Proofs.Cube
open Go Go.Am Go.Proofs Go.RowKit

theorem eqb (xo yo : Operand) (h : AHeap) (a b : Bool) : abin Cf .eql 4 xo yo h (.bool a) (.bool b) = some (.bool (a == b)) := by cases a <;> cases b <;> kernel_rfl
theorem neb (xo yo : Operand) (h : AHeap) (a b : Bool) : abin Cf .neq 4 xo yo h (.bool a) (.bool b) = some (.bool (a != b)) := by cases a <;> cases b <;> kernel_rfl
theorem not_b (b : Bool) : aun Cf .not (.bool b) = some (.bool !b) := rfl

noncomputable def LC : Code := Cat (List.replicate 9 true ++ [false, true, true, true]) (bodyOf Try.f4)
theorem LC_out (h : AHeap) (k n : Nat) (hlt : ¬ k < n) (xs : List Int) (hn : xs.length = n) (lv : AVal) (I : Ints lv xs) (tmps : List AVal) (hl : tmps.length = 138) (hL : tmps[12]? = some lv) (hI : tmps[13]? = some (.int .i64 k)) :
    ∃ t : List AVal, ex Cf LC ⟨tmps, h⟩ = some (.exit 0, ⟨t, h⟩) ∧ t.length = 138 ∧ (∀ j, j < 11 → t[j]? = tmps[j]?) ∧ t[11]? = tmps[11]? := by
  have hlt' : decide ((k : Int) < (n : Int)) = false := by simp; omega
  have hal : alen Try.prog h 24 lv = some (.int .i64 n) := by rw [← hn]; exact I.al h
  simp only [LC, bodyOf, Try.f4, Cat, Bool.false_eq_true, e_seq, e_region, e_cond, e_block, ex_skip, ex_exit, ex_ret, o_cons, xops_nil, k_want_none, k_want_false, k_val, k_pan, k_call, k_ret, k_seq, k_seq_exit, k_seq_ret, k_true, k_false, k_block, k_block_exit, k_block_ret, k_loop, k_loop_exit, k_loop_ret, awanted, aoper, evalO, put, Option.getD_some, List.getElem?_set, acallOp, abuiltin, List.map_cons, List.map_nil, Nat.reduceEqDiff, Nat.reduceLT, List.length_set, Option.map_some, Option.bind_some, Option.bind_eq_bind, add_i, sub_i, mul_i, eql_i, neq_i, lss_i, leq_i, gtr_i, geq_i, ofV, ofCell, ↓reduceIte, List.cons_append, List.nil_append, List.append_nil, List.getElem?_toArray, List.getElem?_cons_succ, List.getElem?_cons_zero, e_draw, g_nil, g_cons, g_want, g_skip, g_val, g_call, g_ret, Option.map_none, hl, hL, hI, hal, CP, hlt', List.replicate, List.cons_append, List.nil_append]
  exact ⟨_, rfl, by simp [hl], fun j hj => by repeat rw [List.getElem?_set_ne (by omega)], by repeat rw [List.getElem?_set_ne (by omega)]⟩
theorem LC_in (h : AHeap) (k : Nat) (xs : List Int) (hx6 : xs.length ≤ 100) (x : Int) (hx : xs[k]? = some x) (y : Int) (b : Bool) (lv : AVal) (I : Ints lv xs) (tmps : List AVal) (hl : tmps.length = 138) (hC : tmps[9]? = some (.int .i64 y)) (hA : tmps[11]? = some (.bool b)) (hL : tmps[12]? = some lv) (hI : tmps[13]? = some (.int .i64 k)) :
    ∃ t : List AVal, ex Cf LC ⟨tmps, h⟩ = some (.normal, ⟨t, h⟩) ∧ t.length = 138 ∧ (∀ j, j < 11 → t[j]? = tmps[j]?) ∧ t[11]? = some (.bool (b || x == y)) ∧ t[12]? = some lv ∧ t[13]? = some (.int .i64 (k + 1 : Nat)) := by
  have hk : k < xs.length := (List.getElem?_eq_some_iff.1 hx).1
  have hlt' : decide ((k : Int) < (xs.length : Int)) = true := by simp; omega
  have hw : IntKind.i64.wrap ((k : Int) + 1) = ((k + 1 : Nat) : Int) := by rw [wrap64 (by omega) (by omega)]; rfl
  have hal : alen Try.prog h 24 lv = some (.int .i64 xs.length) := I.al h
  obtain ⟨a, hix, hld⟩ := I.ix hx
  cases b with
  | true =>
    refine ⟨_, by
      simp only [LC, bodyOf, Try.f4, Cat, Bool.false_eq_true, e_seq, e_region, e_cond, e_block, ex_skip, ex_exit, ex_ret, o_cons, xops_nil, k_want_none, k_want_false, k_val, k_pan, k_call, k_ret, k_seq, k_seq_exit, k_seq_ret, k_true, k_false, k_block, k_block_exit, k_block_ret, k_loop, k_loop_exit, k_loop_ret, awanted, aoper, evalO, put, Option.getD_some, List.getElem?_set, acallOp, abuiltin, List.map_cons, List.map_nil, Nat.reduceEqDiff, Nat.reduceLT, List.length_set, Option.map_some, Option.bind_some, Option.bind_eq_bind, add_i, sub_i, mul_i, eql_i, neq_i, lss_i, leq_i, gtr_i, geq_i, ofV, ofCell, ↓reduceIte, List.cons_append, List.nil_append, List.append_nil, List.getElem?_toArray, List.getElem?_cons_succ, List.getElem?_cons_zero, e_draw, g_nil, g_cons, g_want, g_skip, g_val, g_call, g_ret, Option.map_none, hl, hC, hA, hL, hI, hal, CP, hlt', hw, List.replicate, List.cons_append, List.nil_append, show ((true : Bool) == false) = false from rfl]
      exact rfl, by simp [hl], fun j hj => by repeat rw [List.getElem?_set_ne (by omega)], by simp [hl], by simp [hL], by simp [hl]⟩
  | false =>
    refine ⟨_, by
      simp only [LC, bodyOf, Try.f4, Cat, Bool.false_eq_true, e_seq, e_region, e_cond, e_block, ex_skip, ex_exit, ex_ret, o_cons, xops_nil, k_want_none, k_want_false, k_val, k_pan, k_call, k_ret, k_seq, k_seq_exit, k_seq_ret, k_true, k_false, k_block, k_block_exit, k_block_ret, k_loop, k_loop_exit, k_loop_ret, awanted, aoper, evalO, put, Option.getD_some, List.getElem?_set, acallOp, abuiltin, List.map_cons, List.map_nil, Nat.reduceEqDiff, Nat.reduceLT, List.length_set, Option.map_some, Option.bind_some, Option.bind_eq_bind, add_i, sub_i, mul_i, eql_i, neq_i, lss_i, leq_i, gtr_i, geq_i, ofV, ofCell, ↓reduceIte, List.cons_append, List.nil_append, List.append_nil, List.getElem?_toArray, List.getElem?_cons_succ, List.getElem?_cons_zero, e_draw, g_nil, g_cons, g_want, g_skip, g_val, g_call, g_ret, Option.map_none, hl, hC, hA, hL, hI, hal, CP, hlt', hw, Ty.ix24, hix, Ty.ld3, hld, List.replicate, List.cons_append, List.nil_append, show ((false : Bool) == false) = true from rfl]
      exact rfl, by simp [hl], fun j hj => by repeat rw [List.getElem?_set_ne (by omega)], by simp [hl], by simp [hL], by simp [hl]⟩
theorem LC_loop (h : AHeap) (y : Int) (lv : AVal) : ∀ (rest pre : List Int) (b : Bool) (hx6 : (pre ++ rest).length ≤ 100) (I : Ints lv (pre ++ rest)) (tmps : List AVal) (hl : tmps.length = 138) (hC : tmps[9]? = some (.int .i64 y)) (hA : tmps[11]? = some (.bool b)) (hL : tmps[12]? = some lv) (hI : tmps[13]? = some (.int .i64 pre.length)),
    ∃ t : List AVal, ex Cf (.loop LC) ⟨tmps, h⟩ = some (.exit 0, ⟨t, h⟩) ∧ t.length = 138 ∧ (∀ j, j < 11 → t[j]? = tmps[j]?) ∧ t[11]? = some (.bool (b || rest.any (· == y))) := by
  intro rest
  induction rest with
  | nil =>
    intro pre b hx6 I tmps hl hC hA hL hI
    obtain ⟨t, e, l1, k1, a1⟩ := LC_out h pre.length pre.length (by omega) (pre ++ []) (by simp) lv I tmps hl hL hI
    exact ⟨t, by rw [e_loop, e, k_loop_exit], l1, k1, by rw [a1, hA]; simp⟩
  | cons x rest ih =>
    intro pre b hx6 I tmps hl hC hA hL hI
    obtain ⟨t1, e1, l1, k1, a1, L1, i1⟩ := LC_in h pre.length (pre ++ x :: rest) hx6 x (by simp) y b lv I tmps hl hC hA hL hI
    have happ : pre ++ x :: rest = (pre ++ [x]) ++ rest := by simp
    rw [happ] at hx6 I
    obtain ⟨t2, e2, l2, k2, a2⟩ := ih (pre ++ [x]) (b || x == y) hx6 I t1 l1 (by rw [k1 9 (by omega)]; exact hC) a1 L1 (by simpa using i1)
    exact ⟨t2, by rw [e_loop, e1, k_loop]; exact e2, l2, fun j hj => (k2 j hj).trans (k1 j hj), by rw [a2]; simp [Bool.or_assoc]⟩

noncomputable def LP : Code := Cat (List.replicate 12 true ++ [false, true, true, true]) (bodyOf Try.f4)
theorem LP_out (h : AHeap) (k n : Nat) (hlt : ¬ k < n) (xs : List Int) (hn : xs.length = n) (lv : AVal) (I : Ints lv xs) (tmps : List AVal) (hl : tmps.length = 138) (hL : tmps[15]? = some lv) (hI : tmps[16]? = some (.int .i64 k)) :
    ∃ t : List AVal, ex Cf LP ⟨tmps, h⟩ = some (.exit 2, ⟨t, h⟩) ∧ t.length = 138 ∧ (∀ j, j < 14 → t[j]? = tmps[j]?) ∧ t[14]? = tmps[14]? := by
  have hlt' : decide ((k : Int) < (n : Int)) = false := by simp; omega
  have hal : alen Try.prog h 24 lv = some (.int .i64 n) := by rw [← hn]; exact I.al h
  simp only [LP, bodyOf, Try.f4, Cat, Bool.false_eq_true, e_seq, e_region, e_cond, e_block, ex_skip, ex_exit, ex_ret, o_cons, xops_nil, k_want_none, k_want_false, k_val, k_pan, k_call, k_ret, k_seq, k_seq_exit, k_seq_ret, k_true, k_false, k_block, k_block_exit, k_block_ret, k_loop, k_loop_exit, k_loop_ret, awanted, aoper, evalO, put, Option.getD_some, List.getElem?_set, acallOp, abuiltin, List.map_cons, List.map_nil, Nat.reduceEqDiff, Nat.reduceLT, List.length_set, Option.map_some, Option.bind_some, Option.bind_eq_bind, add_i, sub_i, mul_i, eql_i, neq_i, lss_i, leq_i, gtr_i, geq_i, ofV, ofCell, ↓reduceIte, List.cons_append, List.nil_append, List.append_nil, List.getElem?_toArray, List.getElem?_cons_succ, List.getElem?_cons_zero, e_draw, g_nil, g_cons, g_want, g_skip, g_val, g_call, g_ret, Option.map_none, hl, hL, hI, hal, CP, hlt', List.replicate, List.cons_append, List.nil_append]
  exact ⟨_, rfl, by simp [hl], fun j hj => by repeat rw [List.getElem?_set_ne (by omega)], by repeat rw [List.getElem?_set_ne (by omega)]⟩
theorem LP_in (h : AHeap) (k : Nat) (xs : List Int) (hx6 : xs.length ≤ 100) (x : Int) (hx : xs[k]? = some x) (y : Int) (b : Bool) (lv : AVal) (I : Ints lv xs) (tmps : List AVal) (hl : tmps.length = 138) (hC : tmps[8]? = some (.int .i64 y)) (hA : tmps[14]? = some (.bool b)) (hL : tmps[15]? = some lv) (hI : tmps[16]? = some (.int .i64 k)) :
    ∃ t : List AVal, ex Cf LP ⟨tmps, h⟩ = some (.normal, ⟨t, h⟩) ∧ t.length = 138 ∧ (∀ j, j < 14 → t[j]? = tmps[j]?) ∧ t[14]? = some (.bool (b || x == y)) ∧ t[15]? = some lv ∧ t[16]? = some (.int .i64 (k + 1 : Nat)) := by
  have hk : k < xs.length := (List.getElem?_eq_some_iff.1 hx).1
  have hlt' : decide ((k : Int) < (xs.length : Int)) = true := by simp; omega
  have hw : IntKind.i64.wrap ((k : Int) + 1) = ((k + 1 : Nat) : Int) := by rw [wrap64 (by omega) (by omega)]; rfl
  have hal : alen Try.prog h 24 lv = some (.int .i64 xs.length) := I.al h
  obtain ⟨a, hix, hld⟩ := I.ix hx
  cases b with
  | true =>
    refine ⟨_, by
      simp only [LP, bodyOf, Try.f4, Cat, Bool.false_eq_true, e_seq, e_region, e_cond, e_block, ex_skip, ex_exit, ex_ret, o_cons, xops_nil, k_want_none, k_want_false, k_val, k_pan, k_call, k_ret, k_seq, k_seq_exit, k_seq_ret, k_true, k_false, k_block, k_block_exit, k_block_ret, k_loop, k_loop_exit, k_loop_ret, awanted, aoper, evalO, put, Option.getD_some, List.getElem?_set, acallOp, abuiltin, List.map_cons, List.map_nil, Nat.reduceEqDiff, Nat.reduceLT, List.length_set, Option.map_some, Option.bind_some, Option.bind_eq_bind, add_i, sub_i, mul_i, eql_i, neq_i, lss_i, leq_i, gtr_i, geq_i, ofV, ofCell, ↓reduceIte, List.cons_append, List.nil_append, List.append_nil, List.getElem?_toArray, List.getElem?_cons_succ, List.getElem?_cons_zero, e_draw, g_nil, g_cons, g_want, g_skip, g_val, g_call, g_ret, Option.map_none, hl, hC, hA, hL, hI, hal, CP, hlt', hw, List.replicate, List.cons_append, List.nil_append, show ((true : Bool) == false) = false from rfl]
      exact rfl, by simp [hl], fun j hj => by repeat rw [List.getElem?_set_ne (by omega)], by simp [hl], by simp [hL], by simp [hl]⟩
  | false =>
    refine ⟨_, by
      simp only [LP, bodyOf, Try.f4, Cat, Bool.false_eq_true, e_seq, e_region, e_cond, e_block, ex_skip, ex_exit, ex_ret, o_cons, xops_nil, k_want_none, k_want_false, k_val, k_pan, k_call, k_ret, k_seq, k_seq_exit, k_seq_ret, k_true, k_false, k_block, k_block_exit, k_block_ret, k_loop, k_loop_exit, k_loop_ret, awanted, aoper, evalO, put, Option.getD_some, List.getElem?_set, acallOp, abuiltin, List.map_cons, List.map_nil, Nat.reduceEqDiff, Nat.reduceLT, List.length_set, Option.map_some, Option.bind_some, Option.bind_eq_bind, add_i, sub_i, mul_i, eql_i, neq_i, lss_i, leq_i, gtr_i, geq_i, ofV, ofCell, ↓reduceIte, List.cons_append, List.nil_append, List.append_nil, List.getElem?_toArray, List.getElem?_cons_succ, List.getElem?_cons_zero, e_draw, g_nil, g_cons, g_want, g_skip, g_val, g_call, g_ret, Option.map_none, hl, hC, hA, hL, hI, hal, CP, hlt', hw, Ty.ix24, hix, Ty.ld3, hld, List.replicate, List.cons_append, List.nil_append, show ((false : Bool) == false) = true from rfl]
      exact rfl, by simp [hl], fun j hj => by repeat rw [List.getElem?_set_ne (by omega)], by simp [hl], by simp [hL], by simp [hl]⟩
theorem LP_loop (h : AHeap) (y : Int) (lv : AVal) : ∀ (rest pre : List Int) (b : Bool) (hx6 : (pre ++ rest).length ≤ 100) (I : Ints lv (pre ++ rest)) (tmps : List AVal) (hl : tmps.length = 138) (hC : tmps[8]? = some (.int .i64 y)) (hA : tmps[14]? = some (.bool b)) (hL : tmps[15]? = some lv) (hI : tmps[16]? = some (.int .i64 pre.length)),
    ∃ t : List AVal, ex Cf (.loop LP) ⟨tmps, h⟩ = some (.exit 2, ⟨t, h⟩) ∧ t.length = 138 ∧ (∀ j, j < 14 → t[j]? = tmps[j]?) ∧ t[14]? = some (.bool (b || rest.any (· == y))) := by
  intro rest
  induction rest with
  | nil =>
    intro pre b hx6 I tmps hl hC hA hL hI
    obtain ⟨t, e, l1, k1, a1⟩ := LP_out h pre.length pre.length (by omega) (pre ++ []) (by simp) lv I tmps hl hL hI
    exact ⟨t, by rw [e_loop, e, k_loop_exit], l1, k1, by rw [a1, hA]; simp⟩
  | cons x rest ih =>
    intro pre b hx6 I tmps hl hC hA hL hI
    obtain ⟨t1, e1, l1, k1, a1, L1, i1⟩ := LP_in h pre.length (pre ++ x :: rest) hx6 x (by simp) y b lv I tmps hl hC hA hL hI
    have happ : pre ++ x :: rest = (pre ++ [x]) ++ rest := by simp
    rw [happ] at hx6 I
    obtain ⟨t2, e2, l2, k2, a2⟩ := ih (pre ++ [x]) (b || x == y) hx6 I t1 l1 (by rw [k1 8 (by omega)]; exact hC) a1 L1 (by simpa using i1)
    exact ⟨t2, by rw [e_loop, e1, k_loop]; exact e2, l2, fun j hj => (k2 j hj).trans (k1 j hj), by rw [a2]; simp [Bool.or_assoc]⟩

end Go.Proofs.Cube
