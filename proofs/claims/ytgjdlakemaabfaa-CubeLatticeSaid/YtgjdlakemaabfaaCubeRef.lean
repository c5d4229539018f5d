/-
  CUBE: the document's own: isSet, Covers, keep, count.
-/
import Derived.Test.YtgjdlakemaabfaaCubeOrderLaw
set_option linter.unusedVariables false
set_option linter.unusedSimpArgs false
set_option linter.unusedSimpArgs false
set_option linter.unusedVariables false
set_option maxRecDepth 100000
namespace Go.Proofs.Cube
open Go Go.Am Go.Proofs Go.RowKit

def keepI (d : Int) : Int := if d < 0 then 0 else if d > 6 then 6 else d
theorem keep_run (h : AHeap) (d : Int) : run Cf 43 [.int .i64 d] h = some (.ret (.int .i64 (keepI d)), h) := by
  obtain ⟨a0, ha0⟩ : ∃ a0, a0 = slots Try.f43 [.int .i64 d] := ⟨_, rfl⟩
  have hl : a0.length = 8 := by rw [ha0]; rfl
  have i0 : a0[0]? = some (.int .i64 d) := by rw [ha0]; rfl
  have p : ∃ t, ex Cf (bodyOf Try.f43) ⟨a0, h⟩ = some (.ret, ⟨t, h⟩) ∧ t[2]? = some (.int .i64 (keepI d)) := by
    by_cases c1 : d < 0
    · have c1' : decide (d < 0) = true := by simpa using c1
      simp only [bodyOf, Try.f43, Cat, Bool.false_eq_true, e_seq, e_region, e_cond, e_block, ex_skip, ex_exit, ex_ret, o_cons, xops_nil, k_want_none, k_want_false, k_val, k_pan, k_call, k_ret, k_seq, k_seq_exit, k_seq_ret, k_true, k_false, k_block, k_block_exit, k_block_ret, k_loop, k_loop_exit, k_loop_ret, awanted, aoper, evalO, put, Option.getD_some, List.getElem?_set, acallOp, abuiltin, List.map_cons, List.map_nil, Nat.reduceEqDiff, Nat.reduceLT, List.length_set, Option.map_some, Option.bind_some, Option.bind_eq_bind, add_i, sub_i, mul_i, eql_i, neq_i, lss_i, leq_i, gtr_i, geq_i, ofV, ofCell, ↓reduceIte, List.cons_append, List.nil_append, List.append_nil, List.getElem?_toArray, List.getElem?_cons_succ, List.getElem?_cons_zero, e_draw, g_nil, g_cons, g_want, g_skip, g_val, g_call, g_ret, Option.map_none, hl, i0, c1']
      exact ⟨_, rfl, by simp [hl, keepI, c1]⟩
    · have c1' : decide (d < 0) = false := by simpa using c1
      by_cases c2 : d > 6
      · have c2' : decide (d > 6) = true := by simpa using c2
        simp only [bodyOf, Try.f43, Cat, Bool.false_eq_true, e_seq, e_region, e_cond, e_block, ex_skip, ex_exit, ex_ret, o_cons, xops_nil, k_want_none, k_want_false, k_val, k_pan, k_call, k_ret, k_seq, k_seq_exit, k_seq_ret, k_true, k_false, k_block, k_block_exit, k_block_ret, k_loop, k_loop_exit, k_loop_ret, awanted, aoper, evalO, put, Option.getD_some, List.getElem?_set, acallOp, abuiltin, List.map_cons, List.map_nil, Nat.reduceEqDiff, Nat.reduceLT, List.length_set, Option.map_some, Option.bind_some, Option.bind_eq_bind, add_i, sub_i, mul_i, eql_i, neq_i, lss_i, leq_i, gtr_i, geq_i, ofV, ofCell, ↓reduceIte, List.cons_append, List.nil_append, List.append_nil, List.getElem?_toArray, List.getElem?_cons_succ, List.getElem?_cons_zero, e_draw, g_nil, g_cons, g_want, g_skip, g_val, g_call, g_ret, Option.map_none, hl, i0, c1', c2']
        exact ⟨_, rfl, by simp [hl, keepI, c1, c2]⟩
      · have c2' : decide (d > 6) = false := by simpa using c2
        simp only [bodyOf, Try.f43, Cat, Bool.false_eq_true, e_seq, e_region, e_cond, e_block, ex_skip, ex_exit, ex_ret, o_cons, xops_nil, k_want_none, k_want_false, k_val, k_pan, k_call, k_ret, k_seq, k_seq_exit, k_seq_ret, k_true, k_false, k_block, k_block_exit, k_block_ret, k_loop, k_loop_exit, k_loop_ret, awanted, aoper, evalO, put, Option.getD_some, List.getElem?_set, acallOp, abuiltin, List.map_cons, List.map_nil, Nat.reduceEqDiff, Nat.reduceLT, List.length_set, Option.map_some, Option.bind_some, Option.bind_eq_bind, add_i, sub_i, mul_i, eql_i, neq_i, lss_i, leq_i, gtr_i, geq_i, ofV, ofCell, ↓reduceIte, List.cons_append, List.nil_append, List.append_nil, List.getElem?_toArray, List.getElem?_cons_succ, List.getElem?_cons_zero, e_draw, g_nil, g_cons, g_want, g_skip, g_val, g_call, g_ret, Option.map_none, hl, i0, c1', c2']
        exact ⟨_, rfl, by simp [hl, keepI, c1, c2]⟩
  obtain ⟨t, e, t2⟩ := p
  exact fn_run (fn := Try.f43) (x := .ret) Try.func43 rfl rfl rfl (.inl rfl) (by rw [← ha0]; exact e) (vs := [_]) (by simp only [show Try.f43.results.toList = [ResultVar.tmp 2] from rfl, aresults, ares1, t2]; rfl)
theorem refIsSet_run (h : AHeap) (x : Int) : run Cf 33 [.int .i64 x] h = some (.ret (.bool (isSetB x)), h) := by
  obtain ⟨a0, ha0⟩ : ∃ a0, a0 = slots Try.f33 [.int .i64 x] := ⟨_, rfl⟩
  have hl : a0.length = 9 := by rw [ha0]; rfl
  have i0 : a0[0]? = some (.int .i64 x) := by rw [ha0]; rfl
  have h64 : decide (x < 64) = decide (x ≤ 63) := decide_eq_decide.2 (by omega)
  have p : ∃ t, ex Cf (bodyOf Try.f33) ⟨a0, h⟩ = some (.ret, ⟨t, h⟩) ∧ t[2]? = some (.bool (isSetB x)) := by
    cases h0 : decide (0 ≤ x) with
    | true =>
      have h0' : decide (x ≥ 0) = true := h0
      simp only [bodyOf, Try.f33, Cat, Bool.false_eq_true, e_seq, e_region, e_cond, e_block, ex_skip, ex_exit, ex_ret, o_cons, xops_nil, k_want_none, k_want_false, k_val, k_pan, k_call, k_ret, k_seq, k_seq_exit, k_seq_ret, k_true, k_false, k_block, k_block_exit, k_block_ret, k_loop, k_loop_exit, k_loop_ret, awanted, aoper, evalO, put, Option.getD_some, List.getElem?_set, acallOp, abuiltin, List.map_cons, List.map_nil, Nat.reduceEqDiff, Nat.reduceLT, List.length_set, Option.map_some, Option.bind_some, Option.bind_eq_bind, add_i, sub_i, mul_i, eql_i, neq_i, lss_i, leq_i, gtr_i, geq_i, ofV, ofCell, ↓reduceIte, List.cons_append, List.nil_append, List.append_nil, List.getElem?_toArray, List.getElem?_cons_succ, List.getElem?_cons_zero, e_draw, g_nil, g_cons, g_want, g_skip, g_val, g_call, g_ret, Option.map_none, hl, i0, h0', h64, show ((true : Bool) == true) = true from rfl]
      exact ⟨_, rfl, by simp [hl, isSetB, h0]⟩
    | false =>
      have h0' : decide (x ≥ 0) = false := h0
      simp only [bodyOf, Try.f33, Cat, Bool.false_eq_true, e_seq, e_region, e_cond, e_block, ex_skip, ex_exit, ex_ret, o_cons, xops_nil, k_want_none, k_want_false, k_val, k_pan, k_call, k_ret, k_seq, k_seq_exit, k_seq_ret, k_true, k_false, k_block, k_block_exit, k_block_ret, k_loop, k_loop_exit, k_loop_ret, awanted, aoper, evalO, put, Option.getD_some, List.getElem?_set, acallOp, abuiltin, List.map_cons, List.map_nil, Nat.reduceEqDiff, Nat.reduceLT, List.length_set, Option.map_some, Option.bind_some, Option.bind_eq_bind, add_i, sub_i, mul_i, eql_i, neq_i, lss_i, leq_i, gtr_i, geq_i, ofV, ofCell, ↓reduceIte, List.cons_append, List.nil_append, List.append_nil, List.getElem?_toArray, List.getElem?_cons_succ, List.getElem?_cons_zero, e_draw, g_nil, g_cons, g_want, g_skip, g_val, g_call, g_ret, Option.map_none, hl, i0, h0', show ((false : Bool) == true) = false from rfl]
      exact ⟨_, rfl, by simp [hl, isSetB, h0]⟩
  obtain ⟨t, e, t2⟩ := p
  exact fn_run (fn := Try.f33) (x := .ret) Try.func33 rfl rfl rfl (.inl rfl) (by rw [← ha0]; exact e) (vs := [_]) (by simp only [show Try.f33.results.toList = [ResultVar.tmp 2] from rfl, aresults, ares1, t2]; rfl)

/-! ### count -/
noncomputable def LK : Code := Cat [true, true, false, true, true, true] (bodyOf Try.f28)
theorem LK_out (h : AHeap) (d : Int) (k : Nat) (hk : (k : Int) = keepI d) (tmps : List AVal) (hl : tmps.length = 14) (h0 : tmps[0]? = some (.int .i64 d)) (h4 : tmps[4]? = some (.int .i64 k)) :
    ∃ t : List AVal, ex Cf LK ⟨tmps, h⟩ = some (.exit 0, ⟨t, h⟩) ∧ t.length = 14 ∧ t[3]? = tmps[3]? := by
  have hlt' : decide ((k : Int) < keepI d) = false := by simp; omega
  simp only [LK, bodyOf, Try.f28, Cat, Bool.false_eq_true, e_seq, e_region, e_cond, e_block, ex_skip, ex_exit, ex_ret, o_cons, xops_nil, k_want_none, k_want_false, k_val, k_pan, k_call, k_ret, k_seq, k_seq_exit, k_seq_ret, k_true, k_false, k_block, k_block_exit, k_block_ret, k_loop, k_loop_exit, k_loop_ret, awanted, aoper, evalO, put, Option.getD_some, List.getElem?_set, acallOp, abuiltin, List.map_cons, List.map_nil, Nat.reduceEqDiff, Nat.reduceLT, List.length_set, Option.map_some, Option.bind_some, Option.bind_eq_bind, add_i, sub_i, mul_i, eql_i, neq_i, lss_i, leq_i, gtr_i, geq_i, ofV, ofCell, ↓reduceIte, List.cons_append, List.nil_append, List.append_nil, List.getElem?_toArray, List.getElem?_cons_succ, List.getElem?_cons_zero, e_draw, g_nil, g_cons, g_want, g_skip, g_val, g_call, g_ret, Option.map_none, hl, h0, h4, keep_run, hlt']
  exact ⟨_, rfl, by simp [hl], by repeat rw [List.getElem?_set_ne (by omega)]⟩
theorem keep_le (d : Int) : 0 ≤ keepI d ∧ keepI d ≤ 6 := by unfold keepI; split <;> (try split) <;> omega
theorem LK_in (h : AHeap) (d : Int) (k : Nat) (hk : (k : Int) < keepI d) (tmps : List AVal) (hl : tmps.length = 14) (h0 : tmps[0]? = some (.int .i64 d)) (h3 : tmps[3]? = some (.int .i64 (2 ^ k : Nat))) (h4 : tmps[4]? = some (.int .i64 k)) :
    ∃ t : List AVal, ex Cf LK ⟨tmps, h⟩ = some (.normal, ⟨t, h⟩) ∧ t.length = 14 ∧ t[0]? = some (.int .i64 d) ∧ t[3]? = some (.int .i64 (2 ^ (k + 1) : Nat)) ∧ t[4]? = some (.int .i64 (k + 1 : Nat)) := by
  have hlt' : decide ((k : Int) < keepI d) = true := by simp; omega
  have hk6 : k < 6 := by have := (keep_le d).2; omega
  have hw : IntKind.i64.wrap ((k : Int) + 1) = ((k + 1 : Nat) : Int) := by rw [wrap64 (by omega) (by omega)]; rfl
  have hm : IntKind.i64.wrap (2 * ((2 ^ k : Nat) : Int)) = ((2 ^ (k + 1) : Nat) : Int) := by
    have h1 : (2 ^ k : Nat) < 64 := Nat.pow_lt_pow_right (n := 6) (by omega) hk6
    have h2 : (2 ^ (k + 1) : Nat) = 2 * 2 ^ k := by rw [Nat.pow_succ]; omega
    rw [h2]
    obtain ⟨p, hp⟩ : ∃ p, p = 2 ^ k := ⟨_, rfl⟩
    rw [← hp] at h1 ⊢
    rw [wrap64 (by omega) (by omega)]
    push_cast
    rfl
  refine ⟨_, by
    simp only [LK, bodyOf, Try.f28, Cat, Bool.false_eq_true, e_seq, e_region, e_cond, e_block, ex_skip, ex_exit, ex_ret, o_cons, xops_nil, k_want_none, k_want_false, k_val, k_pan, k_call, k_ret, k_seq, k_seq_exit, k_seq_ret, k_true, k_false, k_block, k_block_exit, k_block_ret, k_loop, k_loop_exit, k_loop_ret, awanted, aoper, evalO, put, Option.getD_some, List.getElem?_set, acallOp, abuiltin, List.map_cons, List.map_nil, Nat.reduceEqDiff, Nat.reduceLT, List.length_set, Option.map_some, Option.bind_some, Option.bind_eq_bind, add_i, sub_i, mul_i, eql_i, neq_i, lss_i, leq_i, gtr_i, geq_i, ofV, ofCell, ↓reduceIte, List.cons_append, List.nil_append, List.append_nil, List.getElem?_toArray, List.getElem?_cons_succ, List.getElem?_cons_zero, e_draw, g_nil, g_cons, g_want, g_skip, g_val, g_call, g_ret, Option.map_none, hl, h0, h3, h4, keep_run, hlt', hw, hm]
    exact rfl, by simp [hl], by simp [h0], by simp [hl], by simp [hl]⟩
theorem LK_loop (h : AHeap) (d : Int) : ∀ (m k : Nat) (hk : ((k + m : Nat) : Int) = keepI d) (tmps : List AVal) (hl : tmps.length = 14) (h0 : tmps[0]? = some (.int .i64 d)) (h3 : tmps[3]? = some (.int .i64 (2 ^ k : Nat))) (h4 : tmps[4]? = some (.int .i64 k)),
    ∃ t : List AVal, ex Cf (.loop LK) ⟨tmps, h⟩ = some (.exit 0, ⟨t, h⟩) ∧ t.length = 14 ∧ t[3]? = some (.int .i64 (2 ^ (k + m) : Nat)) := by
  intro m
  induction m with
  | zero =>
    intro k hk tmps hl h0 h3 h4
    obtain ⟨t, e, l1, k3⟩ := LK_out h d k (by omega) tmps hl h0 h4
    exact ⟨t, by rw [e_loop, e, k_loop_exit], l1, by rw [k3]; exact h3⟩
  | succ m ih =>
    intro k hk tmps hl h0 h3 h4
    obtain ⟨t1, e1, l1, t10, t13, t14⟩ := LK_in h d k (by omega) tmps hl h0 h3 h4
    obtain ⟨t2, e2, l2, t23⟩ := ih (k + 1) (by omega) t1 l1 t10 t13 t14
    exact ⟨t2, by rw [e_loop, e1, k_loop]; exact e2, l2, by rw [t23, show k + 1 + m = k + (m + 1) by omega]⟩
def cntN (d : Int) : Nat := 2 ^ (keepI d).toNat
theorem count_run (h : AHeap) (d : Int) : run Cf 28 [.int .i64 d] h = some (.ret (.int .i64 (cntN d : Nat)), h) := by
  obtain ⟨a0, ha0⟩ : ∃ a0, a0 = slots Try.f28 [.int .i64 d] := ⟨_, rfl⟩
  have hl : a0.length = 14 := by rw [ha0]; rfl
  have i0 : a0[0]? = some (.int .i64 d) := by rw [ha0]; rfl
  have hbody : bodyOf Try.f28 = .seq (Cat [false] (bodyOf Try.f28)) (.seq (Cat [true, false] (bodyOf Try.f28)) (.seq (.seq (Cat [true, true, false, false] (bodyOf Try.f28)) (.block 0 (.loop LK))) (Cat [true, true, true] (bodyOf Try.f28)))) := rfl
  have p1 : ∃ t, ex Cf (Cat [false] (bodyOf Try.f28)) ⟨a0, h⟩ = some (.normal, ⟨t, h⟩) ∧ t.length = 14 ∧ t[0]? = some (.int .i64 d) := by
    simp only [bodyOf, Try.f28, Cat, Bool.false_eq_true, e_seq, e_region, e_cond, e_block, ex_skip, ex_exit, ex_ret, o_cons, xops_nil, k_want_none, k_want_false, k_val, k_pan, k_call, k_ret, k_seq, k_seq_exit, k_seq_ret, k_true, k_false, k_block, k_block_exit, k_block_ret, k_loop, k_loop_exit, k_loop_ret, awanted, aoper, evalO, put, Option.getD_some, List.getElem?_set, acallOp, abuiltin, List.map_cons, List.map_nil, Nat.reduceEqDiff, Nat.reduceLT, List.length_set, Option.map_some, Option.bind_some, Option.bind_eq_bind, add_i, sub_i, mul_i, eql_i, neq_i, lss_i, leq_i, gtr_i, geq_i, ofV, ofCell, ↓reduceIte, List.cons_append, List.nil_append, List.append_nil, List.getElem?_toArray, List.getElem?_cons_succ, List.getElem?_cons_zero, e_draw, g_nil, g_cons, g_want, g_skip, g_val, g_call, g_ret, Option.map_none, hl]
    exact ⟨_, rfl, by simp [hl], by simp [i0]⟩
  obtain ⟨t1, e1, l1, t10⟩ := p1
  have p2 : ∃ t, ex Cf (Cat [true, false] (bodyOf Try.f28)) ⟨t1, h⟩ = some (.normal, ⟨t, h⟩) ∧ t.length = 14 ∧ t[0]? = some (.int .i64 d) ∧ t[3]? = some (.int .i64 1) := by
    simp only [bodyOf, Try.f28, Cat, Bool.false_eq_true, e_seq, e_region, e_cond, e_block, ex_skip, ex_exit, ex_ret, o_cons, xops_nil, k_want_none, k_want_false, k_val, k_pan, k_call, k_ret, k_seq, k_seq_exit, k_seq_ret, k_true, k_false, k_block, k_block_exit, k_block_ret, k_loop, k_loop_exit, k_loop_ret, awanted, aoper, evalO, put, Option.getD_some, List.getElem?_set, acallOp, abuiltin, List.map_cons, List.map_nil, Nat.reduceEqDiff, Nat.reduceLT, List.length_set, Option.map_some, Option.bind_some, Option.bind_eq_bind, add_i, sub_i, mul_i, eql_i, neq_i, lss_i, leq_i, gtr_i, geq_i, ofV, ofCell, ↓reduceIte, List.cons_append, List.nil_append, List.append_nil, List.getElem?_toArray, List.getElem?_cons_succ, List.getElem?_cons_zero, e_draw, g_nil, g_cons, g_want, g_skip, g_val, g_call, g_ret, Option.map_none, l1]
    exact ⟨_, rfl, by simp [l1], by simp [t10], by simp [l1]⟩
  obtain ⟨t2, e2, l2, t20, t23⟩ := p2
  have p3 : ∃ t, ex Cf (Cat [true, true, false, false] (bodyOf Try.f28)) ⟨t2, h⟩ = some (.normal, ⟨t, h⟩) ∧ t.length = 14 ∧ t[0]? = some (.int .i64 d) ∧ t[3]? = some (.int .i64 1) ∧ t[4]? = some (.int .i64 0) := by
    simp only [bodyOf, Try.f28, Cat, Bool.false_eq_true, e_seq, e_region, e_cond, e_block, ex_skip, ex_exit, ex_ret, o_cons, xops_nil, k_want_none, k_want_false, k_val, k_pan, k_call, k_ret, k_seq, k_seq_exit, k_seq_ret, k_true, k_false, k_block, k_block_exit, k_block_ret, k_loop, k_loop_exit, k_loop_ret, awanted, aoper, evalO, put, Option.getD_some, List.getElem?_set, acallOp, abuiltin, List.map_cons, List.map_nil, Nat.reduceEqDiff, Nat.reduceLT, List.length_set, Option.map_some, Option.bind_some, Option.bind_eq_bind, add_i, sub_i, mul_i, eql_i, neq_i, lss_i, leq_i, gtr_i, geq_i, ofV, ofCell, ↓reduceIte, List.cons_append, List.nil_append, List.append_nil, List.getElem?_toArray, List.getElem?_cons_succ, List.getElem?_cons_zero, e_draw, g_nil, g_cons, g_want, g_skip, g_val, g_call, g_ret, Option.map_none, l2]
    exact ⟨_, rfl, by simp [l2], by simp [t20], by simp [t23], by simp [l2]⟩
  obtain ⟨t3, e3, l3, t30, t33, t34⟩ := p3
  obtain ⟨t4, e4, l4, t43⟩ := LK_loop h d (keepI d).toNat 0 (by have := (keep_le d).1; omega) t3 l3 t30 t33 t34
  have p5 : ∃ t, ex Cf (Cat [true, true, true] (bodyOf Try.f28)) ⟨t4, h⟩ = some (.ret, ⟨t, h⟩) ∧ t[2]? = some (.int .i64 (cntN d : Nat)) := by
    rw [Nat.zero_add] at t43
    simp only [bodyOf, Try.f28, Cat, Bool.false_eq_true, e_seq, e_region, e_cond, e_block, ex_skip, ex_exit, ex_ret, o_cons, xops_nil, k_want_none, k_want_false, k_val, k_pan, k_call, k_ret, k_seq, k_seq_exit, k_seq_ret, k_true, k_false, k_block, k_block_exit, k_block_ret, k_loop, k_loop_exit, k_loop_ret, awanted, aoper, evalO, put, Option.getD_some, List.getElem?_set, acallOp, abuiltin, List.map_cons, List.map_nil, Nat.reduceEqDiff, Nat.reduceLT, List.length_set, Option.map_some, Option.bind_some, Option.bind_eq_bind, add_i, sub_i, mul_i, eql_i, neq_i, lss_i, leq_i, gtr_i, geq_i, ofV, ofCell, ↓reduceIte, List.cons_append, List.nil_append, List.append_nil, List.getElem?_toArray, List.getElem?_cons_succ, List.getElem?_cons_zero, e_draw, g_nil, g_cons, g_want, g_skip, g_val, g_call, g_ret, Option.map_none, l4, t43]
    exact ⟨_, rfl, by simp [l4, cntN]⟩
  obtain ⟨t5, e5, t52⟩ := p5
  exact fn_run (fn := Try.f28) (x := .ret) Try.func28 rfl rfl rfl (.inl rfl) (by rw [← ha0, hbody, e_seq, e1, k_seq, e_seq, e2, k_seq, e_seq, e_seq, e3, k_seq, e_block, e4, k_block_exit, if_pos rfl, k_seq, e5]) (vs := [_]) (by simp only [show Try.f28.results.toList = [ResultVar.tmp 2] from rfl, aresults, ares1, t52]; rfl)
end Go.Proofs.Cube
