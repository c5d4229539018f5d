/-
  CUBE: the document's All.
-/
import Derived.Test.YtgjdlakemaabfaaCubeSame
set_option linter.unusedVariables false
set_option linter.unusedSimpArgs false
set_option linter.unusedSimpArgs false
set_option linter.unusedVariables false
set_option maxRecDepth 100000
namespace Go.Proofs.Cube
open Go Go.Am Go.Proofs Go.RowKit

theorem own78 : Cf.own "ref.go:78" = false := by kernel_rfl
theorem app_big {h : AHeap} {v : AVal} {xs : List Int} (A : Acc 1 h v (xs.map (AVal.int .i64)) xs.length) (hb : xs.length ≤ 10000) (k : Int) : ∃ v' h', appendA false h 1 8 v (.lst [.int .i64 k] 1 .full) = some (v', h') ∧ Acc 1 h' v' ((xs ++ [k]).map (AVal.int .i64)) (xs ++ [k]).length := by
  obtain ⟨v', h', hap, A', _⟩ := append_acc (bytes := 8) (m := 1) (new := [.int .i64 k]) (cap := .full) A rfl (by omega) rfl (by omega) (by omega)
  exact ⟨v', h', hap, by simpa using A'⟩
/-- A level: the sets of so many dimensions. -/
def pA (i : Nat) (s : Nat) : Bool := (dims s).length == i
def lev (c : Nat) : Nat → List Int
  | 0 => []
  | i + 1 => coll (pA i) c ++ lev c i
noncomputable def LI2 : Code := Cat [true, true, false, true, true, true, true, false, true, true, true, true] (bodyOf Try.f10)
theorem LI2_out (h : AHeap) (d : Int) (tmps : List AVal) (hl : tmps.length = 26) (h0 : tmps[0]? = some (.int .i64 d)) (h5 : tmps[5]? = some (.int .i64 (cntN d : Nat))) :
    ∃ t : List AVal, ex Cf LI2 ⟨tmps, h⟩ = some (.exit 2, ⟨t, h⟩) ∧ t.length = 26 ∧ ∀ j, j < 5 → t[j]? = tmps[j]? := by
  have hlt' : decide (((cntN d : Nat) : Int) < ((cntN d : Nat) : Int)) = false := by simp
  simp only [LI2, bodyOf, Try.f10, Cat, Bool.false_eq_true, e_seq, e_region, e_cond, e_block, ex_skip, ex_exit, ex_ret, o_cons, xops_nil, k_want_none, k_want_false, k_val, k_pan, k_call, k_ret, k_seq, k_seq_exit, k_seq_ret, k_true, k_false, k_block, k_block_exit, k_block_ret, k_loop, k_loop_exit, k_loop_ret, awanted, aoper, evalO, put, Option.getD_some, List.getElem?_set, acallOp, abuiltin, List.map_cons, List.map_nil, Nat.reduceEqDiff, Nat.reduceLT, List.length_set, Option.map_some, Option.bind_some, Option.bind_eq_bind, add_i, sub_i, mul_i, eql_i, neq_i, lss_i, leq_i, gtr_i, geq_i, ofV, ofCell, ↓reduceIte, List.cons_append, List.nil_append, List.append_nil, List.getElem?_toArray, List.getElem?_cons_succ, List.getElem?_cons_zero, e_draw, g_nil, g_cons, g_want, g_skip, g_val, g_call, g_ret, Option.map_none, hl, h0, h5, count_run, hlt']
  exact ⟨_, rfl, by simp [hl], fun j hj => by repeat rw [List.getElem?_set_ne (by omega)]⟩
theorem LI2_in (h : AHeap) (d : Int) (i k : Nat) (hi : i < 7) (hk : k < cntN d) (lv : AVal) (xs : List Int) (hxs : xs.length ≤ 5000) (A : Acc 1 h lv ((xs ++ coll (pA i) k).map (AVal.int .i64)) (xs ++ coll (pA i) k).length) (tmps : List AVal) (hl : tmps.length = 26) (h0 : tmps[0]? = some (.int .i64 d)) (h3 : tmps[3]? = some lv) (h4 : tmps[4]? = some (.int .i64 i)) (h5 : tmps[5]? = some (.int .i64 k)) :
    ∃ t h' v', ex Cf LI2 ⟨tmps, h⟩ = some (.normal, ⟨t, h'⟩) ∧ t.length = 26 ∧ t[0]? = some (.int .i64 d) ∧ t[3]? = some v' ∧ t[4]? = some (.int .i64 i) ∧ t[5]? = some (.int .i64 (k + 1 : Nat)) ∧ Acc 1 h' v' ((xs ++ coll (pA i) (k + 1)).map (AVal.int .i64)) (xs ++ coll (pA i) (k + 1)).length := by
  have hc64 := cntN_le d
  have hk64 : k < 64 := by omega
  have hlt' : decide ((k : Int) < ((cntN d : Nat) : Int)) = true := by simp; omega
  have hw : IntKind.i64.wrap ((k : Int) + 1) = ((k + 1 : Nat) : Int) := by rw [wrap64 (by omega) (by omega)]; rfl
  have hbl := coll_len (pA i) k
  have l1 := listV_len h k
  have heq : (((dims k).length : Int) == (i : Int)) = ((dims k).length == i) := by
    rw [Bool.eq_iff_iff]; simp only [beq_iff_eq]; omega
  cases c2 : ((dims k).length == i) with
  | false =>
    have hp : pA i k = false := c2
    rw [c2] at heq
    rw [coll_out hp]
    refine ⟨_, h, lv, by
      simp only [LI2, bodyOf, Try.f10, Cat, Bool.false_eq_true, e_seq, e_region, e_cond, e_block, ex_skip, ex_exit, ex_ret, o_cons, xops_nil, k_want_none, k_want_false, k_val, k_pan, k_call, k_ret, k_seq, k_seq_exit, k_seq_ret, k_true, k_false, k_block, k_block_exit, k_block_ret, k_loop, k_loop_exit, k_loop_ret, awanted, aoper, evalO, put, Option.getD_some, List.getElem?_set, acallOp, abuiltin, List.map_cons, List.map_nil, Nat.reduceEqDiff, Nat.reduceLT, List.length_set, Option.map_some, Option.bind_some, Option.bind_eq_bind, add_i, sub_i, mul_i, eql_i, neq_i, lss_i, leq_i, gtr_i, geq_i, ofV, ofCell, ↓reduceIte, List.cons_append, List.nil_append, List.append_nil, List.getElem?_toArray, List.getElem?_cons_succ, List.getElem?_cons_zero, e_draw, g_nil, g_cons, g_want, g_skip, g_val, g_call, g_ret, Option.map_none, hl, h0, h3, h4, h5, count_run, hlt', hw, CP, refList_run h hk64, l1, heq]
      exact rfl, by simp [hl], by simp [h0], by simp [h3], by simp [h4], by simp [hl], A⟩
  | true =>
    have hp : pA i k = true := c2
    rw [c2] at heq
    obtain ⟨v', h', hap, A'⟩ := app_big A (by simp; omega) (k : Int)
    rw [coll_in hp, ← List.append_assoc]
    refine ⟨_, h', v', by
      simp only [LI2, bodyOf, Try.f10, Cat, Bool.false_eq_true, e_seq, e_region, e_cond, e_block, ex_skip, ex_exit, ex_ret, o_cons, xops_nil, k_want_none, k_want_false, k_val, k_pan, k_call, k_ret, k_seq, k_seq_exit, k_seq_ret, k_true, k_false, k_block, k_block_exit, k_block_ret, k_loop, k_loop_exit, k_loop_ret, awanted, aoper, evalO, put, Option.getD_some, List.getElem?_set, acallOp, abuiltin, List.map_cons, List.map_nil, Nat.reduceEqDiff, Nat.reduceLT, List.length_set, Option.map_some, Option.bind_some, Option.bind_eq_bind, add_i, sub_i, mul_i, eql_i, neq_i, lss_i, leq_i, gtr_i, geq_i, ofV, ofCell, ↓reduceIte, List.cons_append, List.nil_append, List.append_nil, List.getElem?_toArray, List.getElem?_cons_succ, List.getElem?_cons_zero, e_draw, g_nil, g_cons, g_want, g_skip, g_val, g_call, g_ret, Option.map_none, hl, h0, h3, h4, h5, count_run, hlt', hw, CP, refList_run h hk64, l1, heq, Ty.bs24_1, own78, Ty.ap24, hap]
      exact rfl, by simp [hl], by simp [h0], by simp [hl], by simp [h4], by simp [hl], A'⟩
theorem LI2_loop (d : Int) (i : Nat) (hi : i < 7) (xs : List Int) (hxs : xs.length ≤ 5000) : ∀ (m k : Nat) (hk : k + m = cntN d) (h : AHeap) (lv : AVal) (A : Acc 1 h lv ((xs ++ coll (pA i) k).map (AVal.int .i64)) (xs ++ coll (pA i) k).length) (tmps : List AVal) (hl : tmps.length = 26) (h0 : tmps[0]? = some (.int .i64 d)) (h3 : tmps[3]? = some lv) (h4 : tmps[4]? = some (.int .i64 i)) (h5 : tmps[5]? = some (.int .i64 k)),
    ∃ (t : List AVal) (h' : AHeap) (v' : AVal), ex Cf (.loop LI2) ⟨tmps, h⟩ = some (.exit 2, ⟨t, h'⟩) ∧ t.length = 26 ∧ t[0]? = some (.int .i64 d) ∧ t[3]? = some v' ∧ t[4]? = some (.int .i64 i) ∧ Acc 1 h' v' ((xs ++ coll (pA i) (cntN d)).map (AVal.int .i64)) (xs ++ coll (pA i) (cntN d)).length := by
  intro m
  induction m with
  | zero =>
    intro k hk h lv A tmps hl h0 h3 h4 h5
    obtain rfl : k = cntN d := by omega
    obtain ⟨t, e, l1, k1⟩ := LI2_out h d tmps hl h0 h5
    exact ⟨t, h, lv, by rw [e_loop, e, k_loop_exit], l1, by rw [k1 0 (by omega)]; exact h0, by rw [k1 3 (by omega)]; exact h3, by rw [k1 4 (by omega)]; exact h4, A⟩
  | succ m ih =>
    intro k hk h lv A tmps hl h0 h3 h4 h5
    obtain ⟨t1, g1, v1, e1, l1, t10, t13, t14, t15, A1⟩ := LI2_in h d i k hi (by omega) lv xs hxs A tmps hl h0 h3 h4 h5
    obtain ⟨t2, g2, v2, e2, q⟩ := ih (k + 1) (by omega) g1 v1 A1 t1 l1 t10 t13 t14 t15
    exact ⟨t2, g2, v2, by rw [e_loop, e1, k_loop]; exact e2, q⟩
noncomputable def LA : Code := Cat [true, true, false, true, true, true] (bodyOf Try.f10)
theorem LA_eq : LA = .seq (Cat [true, true, false, true, true, true, false] (bodyOf Try.f10)) (.seq (.block 1 (.seq (Cat [true, true, false, true, true, true, true, false, true, false] (bodyOf Try.f10)) (.block 2 (.loop LI2)))) (Cat [true, true, false, true, true, true, true, true] (bodyOf Try.f10))) := rfl
theorem LA_out (h : AHeap) (tmps : List AVal) (hl : tmps.length = 26) (h4 : tmps[4]? = some (.int .i64 (-1))) :
    ∃ t : List AVal, ex Cf LA ⟨tmps, h⟩ = some (.exit 0, ⟨t, h⟩) ∧ t.length = 26 ∧ t[3]? = tmps[3]? := by
  simp only [LA, bodyOf, Try.f10, Cat, Bool.false_eq_true, e_seq, e_region, e_cond, e_block, ex_skip, ex_exit, ex_ret, o_cons, xops_nil, k_want_none, k_want_false, k_val, k_pan, k_call, k_ret, k_seq, k_seq_exit, k_seq_ret, k_true, k_false, k_block, k_block_exit, k_block_ret, k_loop, k_loop_exit, k_loop_ret, awanted, aoper, evalO, put, Option.getD_some, List.getElem?_set, acallOp, abuiltin, List.map_cons, List.map_nil, Nat.reduceEqDiff, Nat.reduceLT, List.length_set, Option.map_some, Option.bind_some, Option.bind_eq_bind, add_i, sub_i, mul_i, eql_i, neq_i, lss_i, leq_i, gtr_i, geq_i, ofV, ofCell, ↓reduceIte, List.cons_append, List.nil_append, List.append_nil, List.getElem?_toArray, List.getElem?_cons_succ, List.getElem?_cons_zero, e_draw, g_nil, g_cons, g_want, g_skip, g_val, g_call, g_ret, Option.map_none, hl, h4, show decide ((-1 : Int) ≥ 0) = false from rfl]
  exact ⟨_, rfl, by simp [hl], by simp⟩
theorem LA_in (h : AHeap) (d : Int) (i : Nat) (hi : i < 7) (lv : AVal) (xs : List Int) (hxs : xs.length ≤ 5000) (A : Acc 1 h lv (xs.map (AVal.int .i64)) xs.length) (tmps : List AVal) (hl : tmps.length = 26) (h0 : tmps[0]? = some (.int .i64 d)) (h3 : tmps[3]? = some lv) (h4 : tmps[4]? = some (.int .i64 i)) :
    ∃ (t : List AVal) (h' : AHeap) (v' : AVal), ex Cf LA ⟨tmps, h⟩ = some (.normal, ⟨t, h'⟩) ∧ t.length = 26 ∧ t[0]? = some (.int .i64 d) ∧ t[3]? = some v' ∧ t[4]? = some (.int .i64 ((i : Int) - 1)) ∧ Acc 1 h' v' ((xs ++ coll (pA i) (cntN d)).map (AVal.int .i64)) (xs ++ coll (pA i) (cntN d)).length := by
  have hge : decide ((i : Int) ≥ 0) = true := by simp
  have hw : IntKind.i64.wrap ((i : Int) - 1) = (i : Int) - 1 := wrap64 (by omega) (by omega)
  have p1 : ∃ t, ex Cf (Cat [true, true, false, true, true, true, false] (bodyOf Try.f10)) ⟨tmps, h⟩ = some (.normal, ⟨t, h⟩) ∧ t.length = 26 ∧ t[0]? = some (.int .i64 d) ∧ t[3]? = some lv ∧ t[4]? = some (.int .i64 i) := by
    simp only [bodyOf, Try.f10, Cat, Bool.false_eq_true, e_seq, e_region, e_cond, e_block, ex_skip, ex_exit, ex_ret, o_cons, xops_nil, k_want_none, k_want_false, k_val, k_pan, k_call, k_ret, k_seq, k_seq_exit, k_seq_ret, k_true, k_false, k_block, k_block_exit, k_block_ret, k_loop, k_loop_exit, k_loop_ret, awanted, aoper, evalO, put, Option.getD_some, List.getElem?_set, acallOp, abuiltin, List.map_cons, List.map_nil, Nat.reduceEqDiff, Nat.reduceLT, List.length_set, Option.map_some, Option.bind_some, Option.bind_eq_bind, add_i, sub_i, mul_i, eql_i, neq_i, lss_i, leq_i, gtr_i, geq_i, ofV, ofCell, ↓reduceIte, List.cons_append, List.nil_append, List.append_nil, List.getElem?_toArray, List.getElem?_cons_succ, List.getElem?_cons_zero, e_draw, g_nil, g_cons, g_want, g_skip, g_val, g_call, g_ret, Option.map_none, hl, h4, hge]
    exact ⟨_, rfl, by simp [hl], by simp [h0], by simp [h3], by simp [h4]⟩
  obtain ⟨t1, e1, l1, t10, t13, t14⟩ := p1
  have p2 : ∃ t, ex Cf (Cat [true, true, false, true, true, true, true, false, true, false] (bodyOf Try.f10)) ⟨t1, h⟩ = some (.normal, ⟨t, h⟩) ∧ t.length = 26 ∧ t[0]? = some (.int .i64 d) ∧ t[3]? = some lv ∧ t[4]? = some (.int .i64 i) ∧ t[5]? = some (.int .i64 0) := by
    simp only [bodyOf, Try.f10, Cat, Bool.false_eq_true, e_seq, e_region, e_cond, e_block, ex_skip, ex_exit, ex_ret, o_cons, xops_nil, k_want_none, k_want_false, k_val, k_pan, k_call, k_ret, k_seq, k_seq_exit, k_seq_ret, k_true, k_false, k_block, k_block_exit, k_block_ret, k_loop, k_loop_exit, k_loop_ret, awanted, aoper, evalO, put, Option.getD_some, List.getElem?_set, acallOp, abuiltin, List.map_cons, List.map_nil, Nat.reduceEqDiff, Nat.reduceLT, List.length_set, Option.map_some, Option.bind_some, Option.bind_eq_bind, add_i, sub_i, mul_i, eql_i, neq_i, lss_i, leq_i, gtr_i, geq_i, ofV, ofCell, ↓reduceIte, List.cons_append, List.nil_append, List.append_nil, List.getElem?_toArray, List.getElem?_cons_succ, List.getElem?_cons_zero, e_draw, g_nil, g_cons, g_want, g_skip, g_val, g_call, g_ret, Option.map_none, l1]
    exact ⟨_, rfl, by simp [l1], by simp [t10], by simp [t13], by simp [t14], by simp [l1]⟩
  obtain ⟨t2, e2, l2, t20, t23, t24, t25⟩ := p2
  obtain ⟨t3, h3', v3, e3, l3, t30, t33, t34, A3⟩ := LI2_loop d i hi xs hxs (cntN d) 0 (by omega) h lv (by simpa [coll] using A) t2 l2 t20 t23 t24 t25
  have p4 : ∃ t, ex Cf (Cat [true, true, false, true, true, true, true, true] (bodyOf Try.f10)) ⟨t3, h3'⟩ = some (.normal, ⟨t, h3'⟩) ∧ t.length = 26 ∧ t[0]? = some (.int .i64 d) ∧ t[3]? = some v3 ∧ t[4]? = some (.int .i64 ((i : Int) - 1)) := by
    simp only [bodyOf, Try.f10, Cat, Bool.false_eq_true, e_seq, e_region, e_cond, e_block, ex_skip, ex_exit, ex_ret, o_cons, xops_nil, k_want_none, k_want_false, k_val, k_pan, k_call, k_ret, k_seq, k_seq_exit, k_seq_ret, k_true, k_false, k_block, k_block_exit, k_block_ret, k_loop, k_loop_exit, k_loop_ret, awanted, aoper, evalO, put, Option.getD_some, List.getElem?_set, acallOp, abuiltin, List.map_cons, List.map_nil, Nat.reduceEqDiff, Nat.reduceLT, List.length_set, Option.map_some, Option.bind_some, Option.bind_eq_bind, add_i, sub_i, mul_i, eql_i, neq_i, lss_i, leq_i, gtr_i, geq_i, ofV, ofCell, ↓reduceIte, List.cons_append, List.nil_append, List.append_nil, List.getElem?_toArray, List.getElem?_cons_succ, List.getElem?_cons_zero, e_draw, g_nil, g_cons, g_want, g_skip, g_val, g_call, g_ret, Option.map_none, l3, t34, hw]
    exact ⟨_, rfl, by simp [l3], by simp [t30], by simp [t33], by simp [l3]⟩
  obtain ⟨t4, e4, l4, t40, t43, t44⟩ := p4
  exact ⟨t4, h3', v3, by rw [LA_eq, e_seq, e1, k_seq, e_seq, e_block, e_seq, e2, k_seq, e_block, e3, k_block_exit, if_pos rfl, k_block, k_seq, e4], l4, t40, t43, t44, A3⟩
theorem LA_loop (d : Int) : ∀ (i : Nat) (hi : i ≤ 7) (h : AHeap) (lv : AVal) (xs : List Int) (hxs : xs.length + 64 * i ≤ 5000) (A : Acc 1 h lv (xs.map (AVal.int .i64)) xs.length) (tmps : List AVal) (hl : tmps.length = 26) (h0 : tmps[0]? = some (.int .i64 d)) (h3 : tmps[3]? = some lv) (h4 : tmps[4]? = some (.int .i64 ((i : Int) - 1))),
    ∃ (t : List AVal) (h' : AHeap) (v' : AVal), ex Cf (.loop LA) ⟨tmps, h⟩ = some (.exit 0, ⟨t, h'⟩) ∧ t.length = 26 ∧ t[3]? = some v' ∧ Acc 1 h' v' ((xs ++ lev (cntN d) i).map (AVal.int .i64)) (xs ++ lev (cntN d) i).length := by
  intro i
  induction i with
  | zero =>
    intro hi h lv xs hxs A tmps hl h0 h3 h4
    obtain ⟨t, e, l1, k1⟩ := LA_out h tmps hl h4
    exact ⟨t, h, lv, by rw [e_loop, e, k_loop_exit], l1, by rw [k1]; exact h3, by simpa [lev] using A⟩
  | succ i ih =>
    intro hi h lv xs hxs A tmps hl h0 h3 h4
    have hc := coll_len (pA i) (cntN d)
    have hc64 := cntN_le d
    obtain ⟨t1, g1, v1, e1, l1, t10, t13, t14, A1⟩ := LA_in h d i (by omega) lv xs (by omega) A tmps hl h0 h3 (by rw [h4]; congr 2; omega)
    obtain ⟨t2, g2, v2, e2, l2, t23, A2⟩ := ih (by omega) g1 v1 (xs ++ coll (pA i) (cntN d)) (by simp; omega) A1 t1 l1 t10 t13 t14
    exact ⟨t2, g2, v2, by rw [e_loop, e1, k_loop]; exact e2, l2, t23, by simpa [lev, List.append_assoc] using A2⟩
theorem refAll_run (d : Int) : ∃ v, IntsC v (lev (cntN d) 7) ∧ ∀ h, run Cf 10 [.int .i64 d] h = some (.ret v, h) := by
  obtain ⟨a0, ha0⟩ : ∃ a0, a0 = slots Try.f10 [.int .i64 d] := ⟨_, rfl⟩
  have hl : a0.length = 26 := by rw [ha0]; rfl
  have i0 : a0[0]? = some (.int .i64 d) := by rw [ha0]; rfl
  have hbody : bodyOf Try.f10 = .seq (Cat [false] (bodyOf Try.f10)) (.seq (Cat [true, false] (bodyOf Try.f10)) (.seq (.seq (Cat [true, true, false, false] (bodyOf Try.f10)) (.block 0 (.loop LA))) (Cat [true, true, true] (bodyOf Try.f10)))) := rfl
  have p1 : ∃ t, ex Cf (Cat [false] (bodyOf Try.f10)) ⟨a0, bare⟩ = some (.normal, ⟨t, bare⟩) ∧ t.length = 26 ∧ t[0]? = some (.int .i64 d) := by
    simp only [bodyOf, Try.f10, Cat, Bool.false_eq_true, e_seq, e_region, e_cond, e_block, ex_skip, ex_exit, ex_ret, o_cons, xops_nil, k_want_none, k_want_false, k_val, k_pan, k_call, k_ret, k_seq, k_seq_exit, k_seq_ret, k_true, k_false, k_block, k_block_exit, k_block_ret, k_loop, k_loop_exit, k_loop_ret, awanted, aoper, evalO, put, Option.getD_some, List.getElem?_set, acallOp, abuiltin, List.map_cons, List.map_nil, Nat.reduceEqDiff, Nat.reduceLT, List.length_set, Option.map_some, Option.bind_some, Option.bind_eq_bind, add_i, sub_i, mul_i, eql_i, neq_i, lss_i, leq_i, gtr_i, geq_i, ofV, ofCell, ↓reduceIte, List.cons_append, List.nil_append, List.append_nil, List.getElem?_toArray, List.getElem?_cons_succ, List.getElem?_cons_zero, e_draw, g_nil, g_cons, g_want, g_skip, g_val, g_call, g_ret, Option.map_none, hl]
    exact ⟨_, rfl, by simp [hl], by simp [i0]⟩
  obtain ⟨t1, e1, l1, t10⟩ := p1
  have p2 : ∃ t, ex Cf (Cat [true, false] (bodyOf Try.f10)) ⟨t1, bare⟩ = some (.normal, ⟨t, bare⟩) ∧ t.length = 26 ∧ t[0]? = some (.int .i64 d) ∧ t[3]? = some .nilSl := by
    simp only [bodyOf, Try.f10, Cat, Bool.false_eq_true, e_seq, e_region, e_cond, e_block, ex_skip, ex_exit, ex_ret, o_cons, xops_nil, k_want_none, k_want_false, k_val, k_pan, k_call, k_ret, k_seq, k_seq_exit, k_seq_ret, k_true, k_false, k_block, k_block_exit, k_block_ret, k_loop, k_loop_exit, k_loop_ret, awanted, aoper, evalO, put, Option.getD_some, List.getElem?_set, acallOp, abuiltin, List.map_cons, List.map_nil, Nat.reduceEqDiff, Nat.reduceLT, List.length_set, Option.map_some, Option.bind_some, Option.bind_eq_bind, add_i, sub_i, mul_i, eql_i, neq_i, lss_i, leq_i, gtr_i, geq_i, ofV, ofCell, ↓reduceIte, List.cons_append, List.nil_append, List.append_nil, List.getElem?_toArray, List.getElem?_cons_succ, List.getElem?_cons_zero, e_draw, g_nil, g_cons, g_want, g_skip, g_val, g_call, g_ret, Option.map_none, l1]
    exact ⟨_, rfl, by simp [l1], by simp [t10], by simp [l1]⟩
  obtain ⟨t2, e2, l2, t20, t23⟩ := p2
  have p3 : ∃ t, ex Cf (Cat [true, true, false, false] (bodyOf Try.f10)) ⟨t2, bare⟩ = some (.normal, ⟨t, bare⟩) ∧ t.length = 26 ∧ t[0]? = some (.int .i64 d) ∧ t[3]? = some .nilSl ∧ t[4]? = some (.int .i64 6) := by
    simp only [bodyOf, Try.f10, Cat, Bool.false_eq_true, e_seq, e_region, e_cond, e_block, ex_skip, ex_exit, ex_ret, o_cons, xops_nil, k_want_none, k_want_false, k_val, k_pan, k_call, k_ret, k_seq, k_seq_exit, k_seq_ret, k_true, k_false, k_block, k_block_exit, k_block_ret, k_loop, k_loop_exit, k_loop_ret, awanted, aoper, evalO, put, Option.getD_some, List.getElem?_set, acallOp, abuiltin, List.map_cons, List.map_nil, Nat.reduceEqDiff, Nat.reduceLT, List.length_set, Option.map_some, Option.bind_some, Option.bind_eq_bind, add_i, sub_i, mul_i, eql_i, neq_i, lss_i, leq_i, gtr_i, geq_i, ofV, ofCell, ↓reduceIte, List.cons_append, List.nil_append, List.append_nil, List.getElem?_toArray, List.getElem?_cons_succ, List.getElem?_cons_zero, e_draw, g_nil, g_cons, g_want, g_skip, g_val, g_call, g_ret, Option.map_none, l2]
    exact ⟨_, rfl, by simp [l2], by simp [t20], by simp [t23], by simp [l2]⟩
  obtain ⟨t3, e3, l3, t30, t33, t34⟩ := p3
  obtain ⟨t5, h5, v, e5, l5, t53, A⟩ := LA_loop d 7 (Nat.le_refl _) bare .nilSl [] (by simp) (Acc.nil 1 bare) t3 l3 t30 t33 t34
  rw [List.nil_append] at A
  have p6 : ∃ t, ex Cf (Cat [true, true, true] (bodyOf Try.f10)) ⟨t5, h5⟩ = some (.ret, ⟨t, h5⟩) ∧ t[2]? = some v := by
    simp only [bodyOf, Try.f10, Cat, Bool.false_eq_true, e_seq, e_region, e_cond, e_block, ex_skip, ex_exit, ex_ret, o_cons, xops_nil, k_want_none, k_want_false, k_val, k_pan, k_call, k_ret, k_seq, k_seq_exit, k_seq_ret, k_true, k_false, k_block, k_block_exit, k_block_ret, k_loop, k_loop_exit, k_loop_ret, awanted, aoper, evalO, put, Option.getD_some, List.getElem?_set, acallOp, abuiltin, List.map_cons, List.map_nil, Nat.reduceEqDiff, Nat.reduceLT, List.length_set, Option.map_some, Option.bind_some, Option.bind_eq_bind, add_i, sub_i, mul_i, eql_i, neq_i, lss_i, leq_i, gtr_i, geq_i, ofV, ofCell, ↓reduceIte, List.cons_append, List.nil_append, List.append_nil, List.getElem?_toArray, List.getElem?_cons_succ, List.getElem?_cons_zero, e_draw, g_nil, g_cons, g_want, g_skip, g_val, g_call, g_ret, Option.map_none, l5, t53]
    exact ⟨_, rfl, by simp [l5]⟩
  obtain ⟨t6, e6, t6r⟩ := p6
  obtain ⟨v', hnv, hI⟩ := norm_acc A h5
  exact ⟨v', hI, fun h => fn_runC (fn := Try.f10) (x := .ret) Try.func10 rfl rfl rfl rfl (.inl rfl) (by rw [← ha0, hbody, e_seq, e1, k_seq, e_seq, e2, k_seq, e_seq, e_seq, e3, k_seq, e_block, e5, k_block_exit, if_pos rfl, k_seq, e6]) (vs := [v]) (by simp only [show Try.f10.results.toList = [ResultVar.tmp 2] from rfl, aresults, ares1, t6r]; rfl) hnv h⟩
end Go.Proofs.Cube
