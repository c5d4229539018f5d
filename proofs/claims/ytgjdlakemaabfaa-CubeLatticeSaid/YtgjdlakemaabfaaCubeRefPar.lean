/-
  CUBE: the document's Parents.
-/
import Derived.Test.YtgjdlakemaabfaaCubeRefSets
set_option linter.unusedVariables false
set_option linter.unusedSimpArgs false
set_option linter.unusedSimpArgs false
set_option linter.unusedVariables false
set_option maxRecDepth 100000
namespace Go.Proofs.Cube
open Go Go.Am Go.Proofs Go.RowKit

theorem cntN_le (d : Int) : cntN d ≤ 64 := by
  unfold cntN
  have h1 := (keep_le d).2
  have : (2 ^ (keepI d).toNat : Nat) ≤ 2 ^ 6 := Nat.pow_le_pow_right (by omega) (by omega)
  omega
def pP (a : Int) (s : Nat) : Bool := coversI s a && ((dims s).length == (dims a.toNat).length + 1)
noncomputable def RP : Code := Cat [true, true, false, true, true, true] (bodyOf Try.f12)
theorem RP_out (h : AHeap) (a d : Int) (k : Nat) (hk : k = cntN d ∨ ¬ a < (cntN d : Int)) (hk2 : k ≤ cntN d) (tmps : List AVal) (hl : tmps.length = 39) (h0 : tmps[0]? = some (.int .i64 a)) (h1 : tmps[1]? = some (.int .i64 d)) (h6 : tmps[6]? = some (.int .i64 k)) :
    ∃ t : List AVal, ex Cf RP ⟨tmps, h⟩ = some (.exit 0, ⟨t, h⟩) ∧ t.length = 39 ∧ t[5]? = tmps[5]? := by
  by_cases hlt : (k : Int) < (cntN d : Int)
  · have hlt' : decide ((k : Int) < (cntN d : Int)) = true := by simpa using hlt
    have ha : decide (a < (cntN d : Int)) = false := by simp; omega
    simp only [RP, bodyOf, Try.f12, Cat, Bool.false_eq_true, e_seq, e_region, e_cond, e_block, ex_skip, ex_exit, ex_ret, o_cons, xops_nil, k_want_none, k_want_false, k_val, k_pan, k_call, k_ret, k_seq, k_seq_exit, k_seq_ret, k_true, k_false, k_block, k_block_exit, k_block_ret, k_loop, k_loop_exit, k_loop_ret, awanted, aoper, evalO, put, Option.getD_some, List.getElem?_set, acallOp, abuiltin, List.map_cons, List.map_nil, Nat.reduceEqDiff, Nat.reduceLT, List.length_set, Option.map_some, Option.bind_some, Option.bind_eq_bind, add_i, sub_i, mul_i, eql_i, neq_i, lss_i, leq_i, gtr_i, geq_i, ofV, ofCell, ↓reduceIte, List.cons_append, List.nil_append, List.append_nil, List.getElem?_toArray, List.getElem?_cons_succ, List.getElem?_cons_zero, e_draw, g_nil, g_cons, g_want, g_skip, g_val, g_call, g_ret, Option.map_none, hl, h0, h1, h6, count_run, hlt', ha, show ((true : Bool) == true) = true from rfl]
    exact ⟨_, rfl, by simp [hl], by simp⟩
  · have hlt' : decide ((k : Int) < (cntN d : Int)) = false := by simpa using hlt
    simp only [RP, bodyOf, Try.f12, Cat, Bool.false_eq_true, e_seq, e_region, e_cond, e_block, ex_skip, ex_exit, ex_ret, o_cons, xops_nil, k_want_none, k_want_false, k_val, k_pan, k_call, k_ret, k_seq, k_seq_exit, k_seq_ret, k_true, k_false, k_block, k_block_exit, k_block_ret, k_loop, k_loop_exit, k_loop_ret, awanted, aoper, evalO, put, Option.getD_some, List.getElem?_set, acallOp, abuiltin, List.map_cons, List.map_nil, Nat.reduceEqDiff, Nat.reduceLT, List.length_set, Option.map_some, Option.bind_some, Option.bind_eq_bind, add_i, sub_i, mul_i, eql_i, neq_i, lss_i, leq_i, gtr_i, geq_i, ofV, ofCell, ↓reduceIte, List.cons_append, List.nil_append, List.append_nil, List.getElem?_toArray, List.getElem?_cons_succ, List.getElem?_cons_zero, e_draw, g_nil, g_cons, g_want, g_skip, g_val, g_call, g_ret, Option.map_none, hl, h0, h1, h6, count_run, hlt', show ((false : Bool) == true) = false from rfl]
    exact ⟨_, rfl, by simp [hl], by simp⟩
theorem RP_in (h : AHeap) (a d : Int) (k : Nat) (hk : k < cntN d) (had : a < (cntN d : Int)) (lv : AVal) (A : Acc 1 h lv ((coll (pP a) k).map (AVal.int .i64)) (coll (pP a) k).length) (tmps : List AVal) (hl : tmps.length = 39) (h0 : tmps[0]? = some (.int .i64 a)) (h1 : tmps[1]? = some (.int .i64 d)) (h5 : tmps[5]? = some lv) (h6 : tmps[6]? = some (.int .i64 k)) :
    ∃ t h' v', ex Cf RP ⟨tmps, h⟩ = some (.normal, ⟨t, h'⟩) ∧ t.length = 39 ∧ t[0]? = some (.int .i64 a) ∧ t[1]? = some (.int .i64 d) ∧ t[5]? = some v' ∧ t[6]? = some (.int .i64 (k + 1 : Nat)) ∧ Acc 1 h' v' ((coll (pP a) (k + 1)).map (AVal.int .i64)) (coll (pP a) (k + 1)).length := by
  have hc64 := cntN_le d
  have hk64 : k < 64 := by omega
  have hlt' : decide ((k : Int) < (cntN d : Int)) = true := by simp; omega
  have ha' : decide (a < (cntN d : Int)) = true := by simpa using had
  have hw : IntKind.i64.wrap ((k : Int) + 1) = ((k + 1 : Nat) : Int) := by rw [wrap64 (by omega) (by omega)]; rfl
  have hbl := coll_len (pP a) k
  have out : pP a k = false → Acc 1 h lv ((coll (pP a) (k + 1)).map (AVal.int .i64)) (coll (pP a) (k + 1)).length := fun e => by rw [coll_out e]; exact A
  cases c1 : coversI k a with
  | false =>
    have hp : pP a k = false := by unfold pP; rw [c1]; rfl
    refine ⟨_, h, lv, by
      simp only [RP, bodyOf, Try.f12, Cat, Bool.false_eq_true, e_seq, e_region, e_cond, e_block, ex_skip, ex_exit, ex_ret, o_cons, xops_nil, k_want_none, k_want_false, k_val, k_pan, k_call, k_ret, k_seq, k_seq_exit, k_seq_ret, k_true, k_false, k_block, k_block_exit, k_block_ret, k_loop, k_loop_exit, k_loop_ret, awanted, aoper, evalO, put, Option.getD_some, List.getElem?_set, acallOp, abuiltin, List.map_cons, List.map_nil, Nat.reduceEqDiff, Nat.reduceLT, List.length_set, Option.map_some, Option.bind_some, Option.bind_eq_bind, add_i, sub_i, mul_i, eql_i, neq_i, lss_i, leq_i, gtr_i, geq_i, ofV, ofCell, ↓reduceIte, List.cons_append, List.nil_append, List.append_nil, List.getElem?_toArray, List.getElem?_cons_succ, List.getElem?_cons_zero, e_draw, g_nil, g_cons, g_want, g_skip, g_val, g_call, g_ret, Option.map_none, hl, h0, h1, h5, h6, count_run, hlt', ha', hw, CP, refCovers_run, c1, show ((true : Bool) == true) = true from rfl, show ((false : Bool) == true) = false from rfl]
      exact rfl, by simp [hl], by simp [h0], by simp [h1], by simp [h5], by simp [hl], out hp⟩
  | true =>
    obtain ⟨x, rfl⟩ : ∃ x : Nat, a = x := ⟨a.toNat, by have := (covers_right c1).1; omega⟩
    have hx : x < 64 := by have := (covers_right c1).2; omega
    have l1 := listV_len h k
    have l2 := listV_len h x
    have d1 := dims_len k
    have d2 := dims_len x
    have hw1 : IntKind.i64.wrap (((dims x).length : Int) + 1) = (((dims x).length + 1 : Nat) : Int) := by rw [wrap64 (by omega) (by omega)]; rfl
    have heq : (((dims k).length : Int) == (((dims x).length + 1 : Nat) : Int)) = ((dims k).length == (dims x).length + 1) := by
      rw [Bool.eq_iff_iff]; simp only [beq_iff_eq]; omega
    cases c2 : ((dims k).length == (dims x).length + 1) with
    | false =>
      have hp : pP x k = false := by unfold pP; rw [c1, Int.toNat_natCast, c2]; rfl
      rw [c2] at heq
      refine ⟨_, h, lv, by
        simp only [RP, bodyOf, Try.f12, Cat, Bool.false_eq_true, e_seq, e_region, e_cond, e_block, ex_skip, ex_exit, ex_ret, o_cons, xops_nil, k_want_none, k_want_false, k_val, k_pan, k_call, k_ret, k_seq, k_seq_exit, k_seq_ret, k_true, k_false, k_block, k_block_exit, k_block_ret, k_loop, k_loop_exit, k_loop_ret, awanted, aoper, evalO, put, Option.getD_some, List.getElem?_set, acallOp, abuiltin, List.map_cons, List.map_nil, Nat.reduceEqDiff, Nat.reduceLT, List.length_set, Option.map_some, Option.bind_some, Option.bind_eq_bind, add_i, sub_i, mul_i, eql_i, neq_i, lss_i, leq_i, gtr_i, geq_i, ofV, ofCell, ↓reduceIte, List.cons_append, List.nil_append, List.append_nil, List.getElem?_toArray, List.getElem?_cons_succ, List.getElem?_cons_zero, e_draw, g_nil, g_cons, g_want, g_skip, g_val, g_call, g_ret, Option.map_none, hl, h0, h1, h5, h6, count_run, hlt', ha', hw, CP, refCovers_run, c1, refList_run h hk64, refList_run h hx, l1, l2, hw1, heq, show ((true : Bool) == true) = true from rfl, show ((false : Bool) == true) = false from rfl]
        exact rfl, by simp [hl], by simp [h0], by simp [h1], by simp [h5], by simp [hl], out hp⟩
    | true =>
      have hp : pP x k = true := by unfold pP; rw [c1, Int.toNat_natCast, c2]; rfl
      rw [c2] at heq
      obtain ⟨v', h', hap, A'⟩ := app_int A (by omega) (k : Int)
      rw [coll_in hp]
      refine ⟨_, h', v', by
        simp only [RP, bodyOf, Try.f12, Cat, Bool.false_eq_true, e_seq, e_region, e_cond, e_block, ex_skip, ex_exit, ex_ret, o_cons, xops_nil, k_want_none, k_want_false, k_val, k_pan, k_call, k_ret, k_seq, k_seq_exit, k_seq_ret, k_true, k_false, k_block, k_block_exit, k_block_ret, k_loop, k_loop_exit, k_loop_ret, awanted, aoper, evalO, put, Option.getD_some, List.getElem?_set, acallOp, abuiltin, List.map_cons, List.map_nil, Nat.reduceEqDiff, Nat.reduceLT, List.length_set, Option.map_some, Option.bind_some, Option.bind_eq_bind, add_i, sub_i, mul_i, eql_i, neq_i, lss_i, leq_i, gtr_i, geq_i, ofV, ofCell, ↓reduceIte, List.cons_append, List.nil_append, List.append_nil, List.getElem?_toArray, List.getElem?_cons_succ, List.getElem?_cons_zero, e_draw, g_nil, g_cons, g_want, g_skip, g_val, g_call, g_ret, Option.map_none, hl, h0, h1, h5, h6, count_run, hlt', ha', hw, CP, refCovers_run, c1, refList_run h hk64, refList_run h hx, l1, l2, hw1, heq, Ty.bs24_1, own91, Ty.ap24, hap, show ((true : Bool) == true) = true from rfl, show ((false : Bool) == true) = false from rfl]
        exact rfl, by simp [hl], by simp [h0], by simp [h1], by simp [hl], by simp [hl], A'⟩
theorem RP_loop (a d : Int) (had : a < (cntN d : Int)) : ∀ (m k : Nat) (hk : k + m = cntN d) (h : AHeap) (lv : AVal) (A : Acc 1 h lv ((coll (pP a) k).map (AVal.int .i64)) (coll (pP a) k).length) (tmps : List AVal) (hl : tmps.length = 39) (h0 : tmps[0]? = some (.int .i64 a)) (h1 : tmps[1]? = some (.int .i64 d)) (hL : tmps[5]? = some lv) (hI : tmps[6]? = some (.int .i64 k)),
    ∃ (t : List AVal) (h' : AHeap) (v' : AVal), ex Cf (.loop RP) ⟨tmps, h⟩ = some (.exit 0, ⟨t, h'⟩) ∧ t.length = 39 ∧ t[5]? = some v' ∧ Acc 1 h' v' ((coll (pP a) (cntN d)).map (AVal.int .i64)) (coll (pP a) (cntN d)).length := by
  intro m
  induction m with
  | zero =>
    intro k hk h lv A tmps hl h0 h1 hL hI
    obtain rfl : k = cntN d := by omega
    obtain ⟨t, e, l1, k1⟩ := RP_out h a d (cntN d) (.inl rfl) (Nat.le_refl _) tmps hl h0 h1 hI
    exact ⟨t, h, lv, by rw [e_loop, e, k_loop_exit], l1, by rw [k1]; exact hL, A⟩
  | succ m ih =>
    intro k hk h lv A tmps hl h0 h1 hL hI
    obtain ⟨t1, g1, v1, e1, l1, t10, t11, t1L, t1I, A1⟩ := RP_in h a d k (by omega) had lv A tmps hl h0 h1 hL hI
    obtain ⟨t2, g2, v2, e2, q⟩ := ih (k + 1) (by omega) g1 v1 A1 t1 l1 t10 t11 t1L t1I
    exact ⟨t2, g2, v2, by rw [e_loop, e1, k_loop]; exact e2, q⟩
/-- The document's Parents. -/
def refPar (a d : Int) : List Int := if a < (cntN d : Int) then coll (pP a) (cntN d) else []
theorem refParents_run (a d : Int) : ∃ v, IntsC v (refPar a d) ∧ ∀ h, run Cf 12 [.int .i64 a, .int .i64 d] h = some (.ret v, h) := by
  obtain ⟨a0, ha0⟩ : ∃ a0, a0 = slots Try.f12 [.int .i64 a, .int .i64 d] := ⟨_, rfl⟩
  have hl : a0.length = 39 := by rw [ha0]; rfl
  have i0 : a0[0]? = some (.int .i64 a) := by rw [ha0]; rfl
  have i1 : a0[1]? = some (.int .i64 d) := by rw [ha0]; rfl
  have hbody : bodyOf Try.f12 = .seq (Cat [false] (bodyOf Try.f12)) (.seq (Cat [true, false] (bodyOf Try.f12)) (.seq (.seq (Cat [true, true, false, false] (bodyOf Try.f12)) (.block 0 (.loop RP))) (Cat [true, true, true] (bodyOf Try.f12)))) := rfl
  have p1 : ∃ t, ex Cf (Cat [false] (bodyOf Try.f12)) ⟨a0, bare⟩ = some (.normal, ⟨t, bare⟩) ∧ t.length = 39 ∧ t[0]? = some (.int .i64 a) ∧ t[1]? = some (.int .i64 d) := by
    simp only [bodyOf, Try.f12, Cat, Bool.false_eq_true, e_seq, e_region, e_cond, e_block, ex_skip, ex_exit, ex_ret, o_cons, xops_nil, k_want_none, k_want_false, k_val, k_pan, k_call, k_ret, k_seq, k_seq_exit, k_seq_ret, k_true, k_false, k_block, k_block_exit, k_block_ret, k_loop, k_loop_exit, k_loop_ret, awanted, aoper, evalO, put, Option.getD_some, List.getElem?_set, acallOp, abuiltin, List.map_cons, List.map_nil, Nat.reduceEqDiff, Nat.reduceLT, List.length_set, Option.map_some, Option.bind_some, Option.bind_eq_bind, add_i, sub_i, mul_i, eql_i, neq_i, lss_i, leq_i, gtr_i, geq_i, ofV, ofCell, ↓reduceIte, List.cons_append, List.nil_append, List.append_nil, List.getElem?_toArray, List.getElem?_cons_succ, List.getElem?_cons_zero, e_draw, g_nil, g_cons, g_want, g_skip, g_val, g_call, g_ret, Option.map_none, hl]
    exact ⟨_, rfl, by simp [hl], by simp [i0], by simp [i1]⟩
  obtain ⟨t1, e1, l1, t10, t11⟩ := p1
  have p2 : ∃ t, ex Cf (Cat [true, false] (bodyOf Try.f12)) ⟨t1, bare⟩ = some (.normal, ⟨t, bare⟩) ∧ t.length = 39 ∧ t[0]? = some (.int .i64 a) ∧ t[1]? = some (.int .i64 d) ∧ t[5]? = some .nilSl := by
    simp only [bodyOf, Try.f12, Cat, Bool.false_eq_true, e_seq, e_region, e_cond, e_block, ex_skip, ex_exit, ex_ret, o_cons, xops_nil, k_want_none, k_want_false, k_val, k_pan, k_call, k_ret, k_seq, k_seq_exit, k_seq_ret, k_true, k_false, k_block, k_block_exit, k_block_ret, k_loop, k_loop_exit, k_loop_ret, awanted, aoper, evalO, put, Option.getD_some, List.getElem?_set, acallOp, abuiltin, List.map_cons, List.map_nil, Nat.reduceEqDiff, Nat.reduceLT, List.length_set, Option.map_some, Option.bind_some, Option.bind_eq_bind, add_i, sub_i, mul_i, eql_i, neq_i, lss_i, leq_i, gtr_i, geq_i, ofV, ofCell, ↓reduceIte, List.cons_append, List.nil_append, List.append_nil, List.getElem?_toArray, List.getElem?_cons_succ, List.getElem?_cons_zero, e_draw, g_nil, g_cons, g_want, g_skip, g_val, g_call, g_ret, Option.map_none, l1]
    exact ⟨_, rfl, by simp [l1], by simp [t10], by simp [t11], by simp [l1]⟩
  obtain ⟨t2, e2, l2, t20, t21, t2L⟩ := p2
  have p3 : ∃ t, ex Cf (Cat [true, true, false, false] (bodyOf Try.f12)) ⟨t2, bare⟩ = some (.normal, ⟨t, bare⟩) ∧ t.length = 39 ∧ t[0]? = some (.int .i64 a) ∧ t[1]? = some (.int .i64 d) ∧ t[5]? = some .nilSl ∧ t[6]? = some (.int .i64 0) := by
    simp only [bodyOf, Try.f12, Cat, Bool.false_eq_true, e_seq, e_region, e_cond, e_block, ex_skip, ex_exit, ex_ret, o_cons, xops_nil, k_want_none, k_want_false, k_val, k_pan, k_call, k_ret, k_seq, k_seq_exit, k_seq_ret, k_true, k_false, k_block, k_block_exit, k_block_ret, k_loop, k_loop_exit, k_loop_ret, awanted, aoper, evalO, put, Option.getD_some, List.getElem?_set, acallOp, abuiltin, List.map_cons, List.map_nil, Nat.reduceEqDiff, Nat.reduceLT, List.length_set, Option.map_some, Option.bind_some, Option.bind_eq_bind, add_i, sub_i, mul_i, eql_i, neq_i, lss_i, leq_i, gtr_i, geq_i, ofV, ofCell, ↓reduceIte, List.cons_append, List.nil_append, List.append_nil, List.getElem?_toArray, List.getElem?_cons_succ, List.getElem?_cons_zero, e_draw, g_nil, g_cons, g_want, g_skip, g_val, g_call, g_ret, Option.map_none, l2]
    exact ⟨_, rfl, by simp [l2], by simp [t20], by simp [t21], by simp [t2L], by simp [l2]⟩
  obtain ⟨t3, e3, l3, t30, t31, t3L, t3I⟩ := p3
  have hloop : ∃ (t : List AVal) (h' : AHeap) (v' : AVal), ex Cf (.loop RP) ⟨t3, bare⟩ = some (.exit 0, ⟨t, h'⟩) ∧ t.length = 39 ∧ t[5]? = some v' ∧ Acc 1 h' v' ((refPar a d).map (AVal.int .i64)) (refPar a d).length := by
    by_cases had : a < (cntN d : Int)
    · have := RP_loop a d had (cntN d) 0 (by omega) bare .nilSl (Acc.nil 1 bare) t3 l3 t30 t31 t3L t3I
      unfold refPar
      rw [if_pos had]; exact this
    · obtain ⟨t, e, l, k⟩ := RP_out bare a d 0 (.inr had) (by omega) t3 l3 t30 t31 t3I
      refine ⟨t, bare, .nilSl, by rw [e_loop, e, k_loop_exit], l, by rw [k]; exact t3L, ?_⟩
      unfold refPar
      rw [if_neg had]; exact Acc.nil 1 bare
  obtain ⟨t5, h5, v, e5, l5, t55, A⟩ := hloop
  have p6 : ∃ t, ex Cf (Cat [true, true, true] (bodyOf Try.f12)) ⟨t5, h5⟩ = some (.ret, ⟨t, h5⟩) ∧ t[4]? = some v := by
    simp only [bodyOf, Try.f12, Cat, Bool.false_eq_true, e_seq, e_region, e_cond, e_block, ex_skip, ex_exit, ex_ret, o_cons, xops_nil, k_want_none, k_want_false, k_val, k_pan, k_call, k_ret, k_seq, k_seq_exit, k_seq_ret, k_true, k_false, k_block, k_block_exit, k_block_ret, k_loop, k_loop_exit, k_loop_ret, awanted, aoper, evalO, put, Option.getD_some, List.getElem?_set, acallOp, abuiltin, List.map_cons, List.map_nil, Nat.reduceEqDiff, Nat.reduceLT, List.length_set, Option.map_some, Option.bind_some, Option.bind_eq_bind, add_i, sub_i, mul_i, eql_i, neq_i, lss_i, leq_i, gtr_i, geq_i, ofV, ofCell, ↓reduceIte, List.cons_append, List.nil_append, List.append_nil, List.getElem?_toArray, List.getElem?_cons_succ, List.getElem?_cons_zero, e_draw, g_nil, g_cons, g_want, g_skip, g_val, g_call, g_ret, Option.map_none, l5, t55]
    exact ⟨_, rfl, by simp [l5]⟩
  obtain ⟨t6, e6, t6r⟩ := p6
  obtain ⟨v', hnv, hI⟩ := norm_acc A h5
  exact ⟨v', hI, fun h => fn_runC (fn := Try.f12) (x := .ret) Try.func12 rfl rfl rfl rfl (.inl rfl) (by rw [← ha0, hbody, e_seq, e1, k_seq, e_seq, e2, k_seq, e_seq, e_seq, e3, k_seq, e_block, e5, k_block_exit, if_pos rfl, k_seq, e6]) (vs := [v]) (by simp only [show Try.f12.results.toList = [ResultVar.tmp 4] from rfl, aresults, ares1, t6r]; rfl) hnv h⟩
end Go.Proofs.Cube
