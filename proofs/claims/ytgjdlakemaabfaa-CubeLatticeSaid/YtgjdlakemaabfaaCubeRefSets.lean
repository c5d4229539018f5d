/-
  CUBE: the document's Between, Children and Parents.
-/
import Derived.Test.YtgjdlakemaabfaaCubeRefCov
set_option linter.unusedVariables false
set_option linter.unusedSimpArgs false
set_option linter.unusedSimpArgs false
set_option linter.unusedVariables false
set_option maxRecDepth 100000
namespace Go.Proofs.Cube
open Go Go.Am Go.Proofs Go.RowKit

/-- The numbers below k that are asked for. -/
def coll (p : Nat → Bool) (k : Nat) : List Int := ((List.range k).filter p).map fun s : Nat => (s : Int)
theorem coll_in {p : Nat → Bool} {k : Nat} (h : p k = true) : coll p (k + 1) = coll p k ++ [(k : Int)] := by
  unfold coll
  rw [List.range_succ, List.filter_append, List.filter_cons_of_pos h]
  simp
theorem coll_out {p : Nat → Bool} {k : Nat} (h : p k = false) : coll p (k + 1) = coll p k := by
  unfold coll
  rw [List.range_succ, List.filter_append, List.filter_cons_of_neg (by simp [h])]
  simp
theorem coll_len (p : Nat → Bool) (k : Nat) : (coll p k).length ≤ k := by
  have := List.length_filter_le p (List.range k)
  simpa [coll] using this
theorem listV_len (h : AHeap) (x : Nat) : alen Try.prog h 24 (listV x) = some (.int .i64 (dims x).length) := by
  have := (list_ints x).al h
  simpa using this
theorem dims_len (x : Nat) : (dims x).length ≤ 6 := by
  have := List.length_filter_le (fun i => x.testBit i) (List.range 6)
  simpa [dims] using this
theorem covers_left {a b : Int} (h : coversI a b = true) : 0 ≤ a ∧ a ≤ 63 := by
  unfold coversI isSetB at h
  simp only [Bool.and_eq_true, decide_eq_true_eq] at h
  exact h.1.1
theorem covers_right {a b : Int} (h : coversI a b = true) : 0 ≤ b ∧ b ≤ 63 := by
  unfold coversI isSetB at h
  simp only [Bool.and_eq_true, decide_eq_true_eq] at h
  exact h.1.2
theorem own116 : Cf.own "ref.go:116" = false := by kernel_rfl
theorem own103 : Cf.own "ref.go:103" = false := by kernel_rfl
theorem own91 : Cf.own "ref.go:91" = false := by kernel_rfl
theorem app_int {h : AHeap} {v : AVal} {xs : List Int} (A : Acc 1 h v (xs.map (AVal.int .i64)) xs.length) (hb : xs.length ≤ 64) (k : Int) : ∃ v' h', appendA false h 1 8 v (.lst [.int .i64 k] 1 .full) = some (v', h') ∧ Acc 1 h' v' ((xs ++ [k]).map (AVal.int .i64)) (xs ++ [k]).length := by
  obtain ⟨v', h', hap, A', _⟩ := append_acc (bytes := 8) (m := 1) (new := [.int .i64 k]) (cap := .full) A rfl (by omega) rfl (by omega) (by omega)
  exact ⟨v', h', hap, by simpa using A'⟩

/-! ### Between -/
def pB (low high : Int) (s : Nat) : Bool := coversI s low && coversI high s
noncomputable def RW : Code := Cat [true, true, false, true, true, true] (bodyOf Try.f16)
theorem RW_out (h : AHeap) (tmps : List AVal) (hl : tmps.length = 28) (h6 : tmps[6]? = some (.int .i64 64)) :
    ∃ t : List AVal, ex Cf RW ⟨tmps, h⟩ = some (.exit 0, ⟨t, h⟩) ∧ t.length = 28 ∧ t[5]? = tmps[5]? := by
  simp only [RW, bodyOf, Try.f16, Cat, Bool.false_eq_true, e_seq, e_region, e_cond, e_block, ex_skip, ex_exit, ex_ret, o_cons, xops_nil, k_want_none, k_want_false, k_val, k_pan, k_call, k_ret, k_seq, k_seq_exit, k_seq_ret, k_true, k_false, k_block, k_block_exit, k_block_ret, k_loop, k_loop_exit, k_loop_ret, awanted, aoper, evalO, put, Option.getD_some, List.getElem?_set, acallOp, abuiltin, List.map_cons, List.map_nil, Nat.reduceEqDiff, Nat.reduceLT, List.length_set, Option.map_some, Option.bind_some, Option.bind_eq_bind, add_i, sub_i, mul_i, eql_i, neq_i, lss_i, leq_i, gtr_i, geq_i, ofV, ofCell, ↓reduceIte, List.cons_append, List.nil_append, List.append_nil, List.getElem?_toArray, List.getElem?_cons_succ, List.getElem?_cons_zero, e_draw, g_nil, g_cons, g_want, g_skip, g_val, g_call, g_ret, Option.map_none, hl, h6, show decide ((64 : Int) < 64) = false from rfl]
  exact ⟨_, rfl, by simp [hl], by simp⟩
theorem RW_in (h : AHeap) (low high : Int) (k : Nat) (hk : k < 64) (lv : AVal) (A : Acc 1 h lv ((coll (pB low high) k).map (AVal.int .i64)) (coll (pB low high) k).length) (tmps : List AVal) (hl : tmps.length = 28) (h0 : tmps[0]? = some (.int .i64 low)) (h1 : tmps[1]? = some (.int .i64 high)) (h5 : tmps[5]? = some lv) (h6 : tmps[6]? = some (.int .i64 k)) :
    ∃ t h' v', ex Cf RW ⟨tmps, h⟩ = some (.normal, ⟨t, h'⟩) ∧ t.length = 28 ∧ t[0]? = some (.int .i64 low) ∧ t[1]? = some (.int .i64 high) ∧ t[5]? = some v' ∧ t[6]? = some (.int .i64 (k + 1 : Nat)) ∧ Acc 1 h' v' ((coll (pB low high) (k + 1)).map (AVal.int .i64)) (coll (pB low high) (k + 1)).length := by
  have hlt' : decide ((k : Int) < 64) = true := by simp; omega
  have hw : IntKind.i64.wrap ((k : Int) + 1) = ((k + 1 : Nat) : Int) := by rw [wrap64 (by omega) (by omega)]; rfl
  have hbl := coll_len (pB low high) k
  have out : pB low high k = false → Acc 1 h lv ((coll (pB low high) (k + 1)).map (AVal.int .i64)) (coll (pB low high) (k + 1)).length := fun e => by rw [coll_out e]; exact A
  cases c1 : coversI k low with
  | false =>
    have hp : pB low high k = false := by unfold pB; rw [c1]; rfl
    cases c2 : coversI high k with
    | false =>
      refine ⟨_, h, lv, by
        simp only [RW, bodyOf, Try.f16, Cat, Bool.false_eq_true, e_seq, e_region, e_cond, e_block, ex_skip, ex_exit, ex_ret, o_cons, xops_nil, k_want_none, k_want_false, k_val, k_pan, k_call, k_ret, k_seq, k_seq_exit, k_seq_ret, k_true, k_false, k_block, k_block_exit, k_block_ret, k_loop, k_loop_exit, k_loop_ret, awanted, aoper, evalO, put, Option.getD_some, List.getElem?_set, acallOp, abuiltin, List.map_cons, List.map_nil, Nat.reduceEqDiff, Nat.reduceLT, List.length_set, Option.map_some, Option.bind_some, Option.bind_eq_bind, add_i, sub_i, mul_i, eql_i, neq_i, lss_i, leq_i, gtr_i, geq_i, ofV, ofCell, ↓reduceIte, List.cons_append, List.nil_append, List.append_nil, List.getElem?_toArray, List.getElem?_cons_succ, List.getElem?_cons_zero, e_draw, g_nil, g_cons, g_want, g_skip, g_val, g_call, g_ret, Option.map_none, hl, h0, h1, h5, h6, hlt', hw, CP, refCovers_run, c1, c2, Ty.bs24_1, own116, Ty.ap24, show ((true : Bool) == true) = true from rfl, show ((false : Bool) == true) = false from rfl]
        exact rfl, by simp [hl], by simp [h0], by simp [h1], by simp [h5], by simp [hl], out hp⟩
    | true =>
      refine ⟨_, h, lv, by
        simp only [RW, bodyOf, Try.f16, Cat, Bool.false_eq_true, e_seq, e_region, e_cond, e_block, ex_skip, ex_exit, ex_ret, o_cons, xops_nil, k_want_none, k_want_false, k_val, k_pan, k_call, k_ret, k_seq, k_seq_exit, k_seq_ret, k_true, k_false, k_block, k_block_exit, k_block_ret, k_loop, k_loop_exit, k_loop_ret, awanted, aoper, evalO, put, Option.getD_some, List.getElem?_set, acallOp, abuiltin, List.map_cons, List.map_nil, Nat.reduceEqDiff, Nat.reduceLT, List.length_set, Option.map_some, Option.bind_some, Option.bind_eq_bind, add_i, sub_i, mul_i, eql_i, neq_i, lss_i, leq_i, gtr_i, geq_i, ofV, ofCell, ↓reduceIte, List.cons_append, List.nil_append, List.append_nil, List.getElem?_toArray, List.getElem?_cons_succ, List.getElem?_cons_zero, e_draw, g_nil, g_cons, g_want, g_skip, g_val, g_call, g_ret, Option.map_none, hl, h0, h1, h5, h6, hlt', hw, CP, refCovers_run, c1, c2, Ty.bs24_1, own116, Ty.ap24, show ((true : Bool) == true) = true from rfl, show ((false : Bool) == true) = false from rfl]
        exact rfl, by simp [hl], by simp [h0], by simp [h1], by simp [h5], by simp [hl], out hp⟩
  | true =>
    cases c2 : coversI high k with
    | false =>
      have hp : pB low high k = false := by unfold pB; rw [c1, c2]; rfl
      refine ⟨_, h, lv, by
        simp only [RW, bodyOf, Try.f16, Cat, Bool.false_eq_true, e_seq, e_region, e_cond, e_block, ex_skip, ex_exit, ex_ret, o_cons, xops_nil, k_want_none, k_want_false, k_val, k_pan, k_call, k_ret, k_seq, k_seq_exit, k_seq_ret, k_true, k_false, k_block, k_block_exit, k_block_ret, k_loop, k_loop_exit, k_loop_ret, awanted, aoper, evalO, put, Option.getD_some, List.getElem?_set, acallOp, abuiltin, List.map_cons, List.map_nil, Nat.reduceEqDiff, Nat.reduceLT, List.length_set, Option.map_some, Option.bind_some, Option.bind_eq_bind, add_i, sub_i, mul_i, eql_i, neq_i, lss_i, leq_i, gtr_i, geq_i, ofV, ofCell, ↓reduceIte, List.cons_append, List.nil_append, List.append_nil, List.getElem?_toArray, List.getElem?_cons_succ, List.getElem?_cons_zero, e_draw, g_nil, g_cons, g_want, g_skip, g_val, g_call, g_ret, Option.map_none, hl, h0, h1, h5, h6, hlt', hw, CP, refCovers_run, c1, c2, Ty.bs24_1, own116, Ty.ap24, show ((true : Bool) == true) = true from rfl, show ((false : Bool) == true) = false from rfl]
        exact rfl, by simp [hl], by simp [h0], by simp [h1], by simp [h5], by simp [hl], out hp⟩
    | true =>
      have hp : pB low high k = true := by unfold pB; rw [c1, c2]; rfl
      obtain ⟨v', h', hap, A'⟩ := app_int A (by omega) (k : Int)
      rw [coll_in hp]
      refine ⟨_, h', v', by
        simp only [RW, bodyOf, Try.f16, Cat, Bool.false_eq_true, e_seq, e_region, e_cond, e_block, ex_skip, ex_exit, ex_ret, o_cons, xops_nil, k_want_none, k_want_false, k_val, k_pan, k_call, k_ret, k_seq, k_seq_exit, k_seq_ret, k_true, k_false, k_block, k_block_exit, k_block_ret, k_loop, k_loop_exit, k_loop_ret, awanted, aoper, evalO, put, Option.getD_some, List.getElem?_set, acallOp, abuiltin, List.map_cons, List.map_nil, Nat.reduceEqDiff, Nat.reduceLT, List.length_set, Option.map_some, Option.bind_some, Option.bind_eq_bind, add_i, sub_i, mul_i, eql_i, neq_i, lss_i, leq_i, gtr_i, geq_i, ofV, ofCell, ↓reduceIte, List.cons_append, List.nil_append, List.append_nil, List.getElem?_toArray, List.getElem?_cons_succ, List.getElem?_cons_zero, e_draw, g_nil, g_cons, g_want, g_skip, g_val, g_call, g_ret, Option.map_none, hl, h0, h1, h5, h6, hlt', hw, CP, refCovers_run, c1, c2, Ty.bs24_1, own116, Ty.ap24, hap, show ((true : Bool) == true) = true from rfl, show ((false : Bool) == true) = false from rfl]
        exact rfl, by simp [hl], by simp [h0], by simp [h1], by simp [hl], by simp [hl], A'⟩

theorem RW_loop (low high : Int) : ∀ (m k : Nat) (hk : k + m = 64) (h : AHeap) (lv : AVal) (A : Acc 1 h lv ((coll (pB low high) k).map (AVal.int .i64)) (coll (pB low high) k).length) (tmps : List AVal) (hl : tmps.length = 28) (h0 : tmps[0]? = some (.int .i64 low)) (h1 : tmps[1]? = some (.int .i64 high)) (hL : tmps[5]? = some lv) (hI : tmps[6]? = some (.int .i64 k)),
    ∃ (t : List AVal) (h' : AHeap) (v' : AVal), ex Cf (.loop RW) ⟨tmps, h⟩ = some (.exit 0, ⟨t, h'⟩) ∧ t.length = 28 ∧ t[5]? = some v' ∧ Acc 1 h' v' ((coll (pB low high) 64).map (AVal.int .i64)) (coll (pB low high) 64).length := by
  intro m
  induction m with
  | zero =>
    intro k hk h lv A tmps hl h0 h1 hL hI
    obtain rfl : k = 64 := by omega
    obtain ⟨t, e, l1, k1⟩ := RW_out h tmps hl hI
    exact ⟨t, h, lv, by rw [e_loop, e, k_loop_exit], l1, by rw [k1]; exact hL, A⟩
  | succ m ih =>
    intro k hk h lv A tmps hl h0 h1 hL hI
    obtain ⟨t1, g1, v1, e1, l1, t10, t11, t1L, t1I, A1⟩ := RW_in h low high k (by omega) lv A tmps hl h0 h1 hL hI
    obtain ⟨t2, g2, v2, e2, q⟩ := ih (k + 1) (by omega) g1 v1 A1 t1 l1 t10 t11 t1L t1I
    exact ⟨t2, g2, v2, by rw [e_loop, e1, k_loop]; exact e2, q⟩
theorem refBetween_run (low high : Int) : ∃ v, IntsC v (coll (pB low high) 64) ∧ ∀ h, run Cf 16 [.int .i64 low, .int .i64 high] h = some (.ret v, h) := by
  obtain ⟨a0, ha0⟩ : ∃ a0, a0 = slots Try.f16 [.int .i64 low, .int .i64 high] := ⟨_, rfl⟩
  have hl : a0.length = 28 := by rw [ha0]; rfl
  have i : a0[0]? = some (.int .i64 low) ∧ a0[1]? = some (.int .i64 high) := by rw [ha0]; exact ⟨rfl, rfl⟩
  obtain ⟨t00, t01⟩ := i
  have hbody : bodyOf Try.f16 = .seq (Cat [false] (bodyOf Try.f16)) (.seq (Cat [true, false] (bodyOf Try.f16)) (.seq (.seq (Cat [true, true, false, false] (bodyOf Try.f16)) (.block 0 (.loop RW))) (Cat [true, true, true] (bodyOf Try.f16)))) := rfl
  have p1 : ∃ t, ex Cf (Cat [false] (bodyOf Try.f16)) ⟨a0, bare⟩ = some (.normal, ⟨t, bare⟩) ∧ t.length = 28 ∧ t[0]? = some (.int .i64 low) ∧ t[1]? = some (.int .i64 high) := by
    simp only [bodyOf, Try.f16, Cat, Bool.false_eq_true, e_seq, e_region, e_cond, e_block, ex_skip, ex_exit, ex_ret, o_cons, xops_nil, k_want_none, k_want_false, k_val, k_pan, k_call, k_ret, k_seq, k_seq_exit, k_seq_ret, k_true, k_false, k_block, k_block_exit, k_block_ret, k_loop, k_loop_exit, k_loop_ret, awanted, aoper, evalO, put, Option.getD_some, List.getElem?_set, acallOp, abuiltin, List.map_cons, List.map_nil, Nat.reduceEqDiff, Nat.reduceLT, List.length_set, Option.map_some, Option.bind_some, Option.bind_eq_bind, add_i, sub_i, mul_i, eql_i, neq_i, lss_i, leq_i, gtr_i, geq_i, ofV, ofCell, ↓reduceIte, List.cons_append, List.nil_append, List.append_nil, List.getElem?_toArray, List.getElem?_cons_succ, List.getElem?_cons_zero, e_draw, g_nil, g_cons, g_want, g_skip, g_val, g_call, g_ret, Option.map_none, hl]
    exact ⟨_, rfl, by simp [hl], by simp [t00], by simp [t01]⟩
  obtain ⟨t1, e1, l1, t10, t11⟩ := p1
  have p2 : ∃ t, ex Cf (Cat [true, false] (bodyOf Try.f16)) ⟨t1, bare⟩ = some (.normal, ⟨t, bare⟩) ∧ t.length = 28 ∧ t[0]? = some (.int .i64 low) ∧ t[1]? = some (.int .i64 high) ∧ t[5]? = some .nilSl := by
    simp only [bodyOf, Try.f16, Cat, Bool.false_eq_true, e_seq, e_region, e_cond, e_block, ex_skip, ex_exit, ex_ret, o_cons, xops_nil, k_want_none, k_want_false, k_val, k_pan, k_call, k_ret, k_seq, k_seq_exit, k_seq_ret, k_true, k_false, k_block, k_block_exit, k_block_ret, k_loop, k_loop_exit, k_loop_ret, awanted, aoper, evalO, put, Option.getD_some, List.getElem?_set, acallOp, abuiltin, List.map_cons, List.map_nil, Nat.reduceEqDiff, Nat.reduceLT, List.length_set, Option.map_some, Option.bind_some, Option.bind_eq_bind, add_i, sub_i, mul_i, eql_i, neq_i, lss_i, leq_i, gtr_i, geq_i, ofV, ofCell, ↓reduceIte, List.cons_append, List.nil_append, List.append_nil, List.getElem?_toArray, List.getElem?_cons_succ, List.getElem?_cons_zero, e_draw, g_nil, g_cons, g_want, g_skip, g_val, g_call, g_ret, Option.map_none, l1]
    exact ⟨_, rfl, by simp [l1], by simp [t10], by simp [t11], by simp [l1]⟩
  obtain ⟨t2, e2, l2, t20, t21, t2L⟩ := p2
  have p3 : ∃ t, ex Cf (Cat [true, true, false, false] (bodyOf Try.f16)) ⟨t2, bare⟩ = some (.normal, ⟨t, bare⟩) ∧ t.length = 28 ∧ t[0]? = some (.int .i64 low) ∧ t[1]? = some (.int .i64 high) ∧ t[5]? = some .nilSl ∧ t[6]? = some (.int .i64 0) := by
    simp only [bodyOf, Try.f16, Cat, Bool.false_eq_true, e_seq, e_region, e_cond, e_block, ex_skip, ex_exit, ex_ret, o_cons, xops_nil, k_want_none, k_want_false, k_val, k_pan, k_call, k_ret, k_seq, k_seq_exit, k_seq_ret, k_true, k_false, k_block, k_block_exit, k_block_ret, k_loop, k_loop_exit, k_loop_ret, awanted, aoper, evalO, put, Option.getD_some, List.getElem?_set, acallOp, abuiltin, List.map_cons, List.map_nil, Nat.reduceEqDiff, Nat.reduceLT, List.length_set, Option.map_some, Option.bind_some, Option.bind_eq_bind, add_i, sub_i, mul_i, eql_i, neq_i, lss_i, leq_i, gtr_i, geq_i, ofV, ofCell, ↓reduceIte, List.cons_append, List.nil_append, List.append_nil, List.getElem?_toArray, List.getElem?_cons_succ, List.getElem?_cons_zero, e_draw, g_nil, g_cons, g_want, g_skip, g_val, g_call, g_ret, Option.map_none, l2]
    exact ⟨_, rfl, by simp [l2], by simp [t20], by simp [t21], by simp [t2L], by simp [l2]⟩
  obtain ⟨t3, e3, l3, t30, t31, t3L, t3I⟩ := p3
  obtain ⟨t5, h5, v, e5, l5, t55, A⟩ := RW_loop low high 64 0 rfl bare .nilSl (Acc.nil 1 bare) t3 l3 t30 t31 t3L t3I
  have p6 : ∃ t, ex Cf (Cat [true, true, true] (bodyOf Try.f16)) ⟨t5, h5⟩ = some (.ret, ⟨t, h5⟩) ∧ t[4]? = some v := by
    simp only [bodyOf, Try.f16, Cat, Bool.false_eq_true, e_seq, e_region, e_cond, e_block, ex_skip, ex_exit, ex_ret, o_cons, xops_nil, k_want_none, k_want_false, k_val, k_pan, k_call, k_ret, k_seq, k_seq_exit, k_seq_ret, k_true, k_false, k_block, k_block_exit, k_block_ret, k_loop, k_loop_exit, k_loop_ret, awanted, aoper, evalO, put, Option.getD_some, List.getElem?_set, acallOp, abuiltin, List.map_cons, List.map_nil, Nat.reduceEqDiff, Nat.reduceLT, List.length_set, Option.map_some, Option.bind_some, Option.bind_eq_bind, add_i, sub_i, mul_i, eql_i, neq_i, lss_i, leq_i, gtr_i, geq_i, ofV, ofCell, ↓reduceIte, List.cons_append, List.nil_append, List.append_nil, List.getElem?_toArray, List.getElem?_cons_succ, List.getElem?_cons_zero, e_draw, g_nil, g_cons, g_want, g_skip, g_val, g_call, g_ret, Option.map_none, l5, t55]
    exact ⟨_, rfl, by simp [l5]⟩
  obtain ⟨t6, e6, t6r⟩ := p6
  obtain ⟨v', hnv, hI⟩ := norm_acc A h5
  exact ⟨v', hI, fun h => fn_runC (fn := Try.f16) (x := .ret) Try.func16 rfl rfl rfl rfl (.inl rfl) (by rw [← ha0, hbody, e_seq, e1, k_seq, e_seq, e2, k_seq, e_seq, e_seq, e3, k_seq, e_block, e5, k_block_exit, if_pos rfl, k_seq, e6]) (vs := [v]) (by simp only [show Try.f16.results.toList = [ResultVar.tmp 4] from rfl, aresults, ares1, t6r]; rfl) hnv h⟩

/-! ### Children -/
def pC (a : Int) (s : Nat) : Bool := coversI a s && ((dims s).length + 1 == (dims a.toNat).length)
noncomputable def RC : Code := Cat [true, true, false, true, true, true] (bodyOf Try.f14)
theorem RC_out (h : AHeap) (tmps : List AVal) (hl : tmps.length = 29) (h4 : tmps[4]? = some (.int .i64 64)) :
    ∃ t : List AVal, ex Cf RC ⟨tmps, h⟩ = some (.exit 0, ⟨t, h⟩) ∧ t.length = 29 ∧ t[3]? = tmps[3]? := by
  simp only [RC, bodyOf, Try.f14, Cat, Bool.false_eq_true, e_seq, e_region, e_cond, e_block, ex_skip, ex_exit, ex_ret, o_cons, xops_nil, k_want_none, k_want_false, k_val, k_pan, k_call, k_ret, k_seq, k_seq_exit, k_seq_ret, k_true, k_false, k_block, k_block_exit, k_block_ret, k_loop, k_loop_exit, k_loop_ret, awanted, aoper, evalO, put, Option.getD_some, List.getElem?_set, acallOp, abuiltin, List.map_cons, List.map_nil, Nat.reduceEqDiff, Nat.reduceLT, List.length_set, Option.map_some, Option.bind_some, Option.bind_eq_bind, add_i, sub_i, mul_i, eql_i, neq_i, lss_i, leq_i, gtr_i, geq_i, ofV, ofCell, ↓reduceIte, List.cons_append, List.nil_append, List.append_nil, List.getElem?_toArray, List.getElem?_cons_succ, List.getElem?_cons_zero, e_draw, g_nil, g_cons, g_want, g_skip, g_val, g_call, g_ret, Option.map_none, hl, h4, show decide ((64 : Int) < 64) = false from rfl]
  exact ⟨_, rfl, by simp [hl], by simp⟩
theorem RC_in (h : AHeap) (a : Int) (k : Nat) (hk : k < 64) (lv : AVal) (A : Acc 1 h lv ((coll (pC a) k).map (AVal.int .i64)) (coll (pC a) k).length) (tmps : List AVal) (hl : tmps.length = 29) (h0 : tmps[0]? = some (.int .i64 a)) (h3 : tmps[3]? = some lv) (h4 : tmps[4]? = some (.int .i64 k)) :
    ∃ t h' v', ex Cf RC ⟨tmps, h⟩ = some (.normal, ⟨t, h'⟩) ∧ t.length = 29 ∧ t[0]? = some (.int .i64 a) ∧ t[3]? = some v' ∧ t[4]? = some (.int .i64 (k + 1 : Nat)) ∧ Acc 1 h' v' ((coll (pC a) (k + 1)).map (AVal.int .i64)) (coll (pC a) (k + 1)).length := by
  have hlt' : decide ((k : Int) < 64) = true := by simp; omega
  have hw : IntKind.i64.wrap ((k : Int) + 1) = ((k + 1 : Nat) : Int) := by rw [wrap64 (by omega) (by omega)]; rfl
  have hbl := coll_len (pC a) k
  have out : pC a k = false → Acc 1 h lv ((coll (pC a) (k + 1)).map (AVal.int .i64)) (coll (pC a) (k + 1)).length := fun e => by rw [coll_out e]; exact A
  cases c1 : coversI a k with
  | false =>
    have hp : pC a k = false := by unfold pC; rw [c1]; rfl
    refine ⟨_, h, lv, by
      simp only [RC, bodyOf, Try.f14, Cat, Bool.false_eq_true, e_seq, e_region, e_cond, e_block, ex_skip, ex_exit, ex_ret, o_cons, xops_nil, k_want_none, k_want_false, k_val, k_pan, k_call, k_ret, k_seq, k_seq_exit, k_seq_ret, k_true, k_false, k_block, k_block_exit, k_block_ret, k_loop, k_loop_exit, k_loop_ret, awanted, aoper, evalO, put, Option.getD_some, List.getElem?_set, acallOp, abuiltin, List.map_cons, List.map_nil, Nat.reduceEqDiff, Nat.reduceLT, List.length_set, Option.map_some, Option.bind_some, Option.bind_eq_bind, add_i, sub_i, mul_i, eql_i, neq_i, lss_i, leq_i, gtr_i, geq_i, ofV, ofCell, ↓reduceIte, List.cons_append, List.nil_append, List.append_nil, List.getElem?_toArray, List.getElem?_cons_succ, List.getElem?_cons_zero, e_draw, g_nil, g_cons, g_want, g_skip, g_val, g_call, g_ret, Option.map_none, hl, h0, h3, h4, hlt', hw, CP, refCovers_run, c1, Ty.bs24_1, own103, Ty.ap24, show ((true : Bool) == true) = true from rfl, show ((false : Bool) == true) = false from rfl]
      exact rfl, by simp [hl], by simp [h0], by simp [h3], by simp [hl], out hp⟩
  | true =>
    obtain ⟨x, rfl⟩ : ∃ x : Nat, a = x := ⟨a.toNat, by have := (covers_left c1).1; omega⟩
    have hx : x < 64 := by have := (covers_left c1).2; omega
    have l1 := listV_len h k
    have l2 := listV_len h x
    have d1 := dims_len k
    have d2 := dims_len x
    have hw1 : IntKind.i64.wrap (((dims k).length : Int) + 1) = (((dims k).length + 1 : Nat) : Int) := by rw [wrap64 (by omega) (by omega)]; rfl
    have heq : ((((dims k).length + 1 : Nat) : Int) == ((dims x).length : Int)) = ((dims k).length + 1 == (dims x).length) := by
      rw [Bool.eq_iff_iff]; simp only [beq_iff_eq]; omega
    cases c2 : ((dims k).length + 1 == (dims x).length) with
    | false =>
      have hp : pC x k = false := by unfold pC; rw [c1, Int.toNat_natCast, c2]; rfl
      rw [c2] at heq
      refine ⟨_, h, lv, by
        simp only [RC, bodyOf, Try.f14, Cat, Bool.false_eq_true, e_seq, e_region, e_cond, e_block, ex_skip, ex_exit, ex_ret, o_cons, xops_nil, k_want_none, k_want_false, k_val, k_pan, k_call, k_ret, k_seq, k_seq_exit, k_seq_ret, k_true, k_false, k_block, k_block_exit, k_block_ret, k_loop, k_loop_exit, k_loop_ret, awanted, aoper, evalO, put, Option.getD_some, List.getElem?_set, acallOp, abuiltin, List.map_cons, List.map_nil, Nat.reduceEqDiff, Nat.reduceLT, List.length_set, Option.map_some, Option.bind_some, Option.bind_eq_bind, add_i, sub_i, mul_i, eql_i, neq_i, lss_i, leq_i, gtr_i, geq_i, ofV, ofCell, ↓reduceIte, List.cons_append, List.nil_append, List.append_nil, List.getElem?_toArray, List.getElem?_cons_succ, List.getElem?_cons_zero, e_draw, g_nil, g_cons, g_want, g_skip, g_val, g_call, g_ret, Option.map_none, hl, h0, h3, h4, hlt', hw, CP, refCovers_run, c1, refList_run h hk, refList_run h hx, l1, l2, hw1, heq, Ty.bs24_1, own103, Ty.ap24, show ((true : Bool) == true) = true from rfl, show ((false : Bool) == true) = false from rfl]
        exact rfl, by simp [hl], by simp [h0], by simp [h3], by simp [hl], out hp⟩
    | true =>
      have hp : pC x k = true := by unfold pC; rw [c1, Int.toNat_natCast, c2]; rfl
      rw [c2] at heq
      obtain ⟨v', h', hap, A'⟩ := app_int A (by omega) (k : Int)
      rw [coll_in hp]
      refine ⟨_, h', v', by
        simp only [RC, bodyOf, Try.f14, Cat, Bool.false_eq_true, e_seq, e_region, e_cond, e_block, ex_skip, ex_exit, ex_ret, o_cons, xops_nil, k_want_none, k_want_false, k_val, k_pan, k_call, k_ret, k_seq, k_seq_exit, k_seq_ret, k_true, k_false, k_block, k_block_exit, k_block_ret, k_loop, k_loop_exit, k_loop_ret, awanted, aoper, evalO, put, Option.getD_some, List.getElem?_set, acallOp, abuiltin, List.map_cons, List.map_nil, Nat.reduceEqDiff, Nat.reduceLT, List.length_set, Option.map_some, Option.bind_some, Option.bind_eq_bind, add_i, sub_i, mul_i, eql_i, neq_i, lss_i, leq_i, gtr_i, geq_i, ofV, ofCell, ↓reduceIte, List.cons_append, List.nil_append, List.append_nil, List.getElem?_toArray, List.getElem?_cons_succ, List.getElem?_cons_zero, e_draw, g_nil, g_cons, g_want, g_skip, g_val, g_call, g_ret, Option.map_none, hl, h0, h3, h4, hlt', hw, CP, refCovers_run, c1, refList_run h hk, refList_run h hx, l1, l2, hw1, heq, Ty.bs24_1, own103, Ty.ap24, hap, show ((true : Bool) == true) = true from rfl, show ((false : Bool) == true) = false from rfl]
        exact rfl, by simp [hl], by simp [h0], by simp [hl], by simp [hl], A'⟩

theorem RC_loop (a : Int) : ∀ (m k : Nat) (hk : k + m = 64) (h : AHeap) (lv : AVal) (A : Acc 1 h lv ((coll (pC a) k).map (AVal.int .i64)) (coll (pC a) k).length) (tmps : List AVal) (hl : tmps.length = 29) (h0 : tmps[0]? = some (.int .i64 a)) (hL : tmps[3]? = some lv) (hI : tmps[4]? = some (.int .i64 k)),
    ∃ (t : List AVal) (h' : AHeap) (v' : AVal), ex Cf (.loop RC) ⟨tmps, h⟩ = some (.exit 0, ⟨t, h'⟩) ∧ t.length = 29 ∧ t[3]? = some v' ∧ Acc 1 h' v' ((coll (pC a) 64).map (AVal.int .i64)) (coll (pC a) 64).length := by
  intro m
  induction m with
  | zero =>
    intro k hk h lv A tmps hl h0 hL hI
    obtain rfl : k = 64 := by omega
    obtain ⟨t, e, l1, k1⟩ := RC_out h tmps hl hI
    exact ⟨t, h, lv, by rw [e_loop, e, k_loop_exit], l1, by rw [k1]; exact hL, A⟩
  | succ m ih =>
    intro k hk h lv A tmps hl h0 hL hI
    obtain ⟨t1, g1, v1, e1, l1, t10, t1L, t1I, A1⟩ := RC_in h a k (by omega) lv A tmps hl h0 hL hI
    obtain ⟨t2, g2, v2, e2, q⟩ := ih (k + 1) (by omega) g1 v1 A1 t1 l1 t10 t1L t1I
    exact ⟨t2, g2, v2, by rw [e_loop, e1, k_loop]; exact e2, q⟩
theorem refChildren_run (a : Int) : ∃ v, IntsC v (coll (pC a) 64) ∧ ∀ h, run Cf 14 [.int .i64 a] h = some (.ret v, h) := by
  obtain ⟨a0, ha0⟩ : ∃ a0, a0 = slots Try.f14 [.int .i64 a] := ⟨_, rfl⟩
  have hl : a0.length = 29 := by rw [ha0]; rfl
  have i : a0[0]? = some (.int .i64 a) := by rw [ha0]; exact rfl
  have t00 := i
  have hbody : bodyOf Try.f14 = .seq (Cat [false] (bodyOf Try.f14)) (.seq (Cat [true, false] (bodyOf Try.f14)) (.seq (.seq (Cat [true, true, false, false] (bodyOf Try.f14)) (.block 0 (.loop RC))) (Cat [true, true, true] (bodyOf Try.f14)))) := rfl
  have p1 : ∃ t, ex Cf (Cat [false] (bodyOf Try.f14)) ⟨a0, bare⟩ = some (.normal, ⟨t, bare⟩) ∧ t.length = 29 ∧ t[0]? = some (.int .i64 a) := by
    simp only [bodyOf, Try.f14, Cat, Bool.false_eq_true, e_seq, e_region, e_cond, e_block, ex_skip, ex_exit, ex_ret, o_cons, xops_nil, k_want_none, k_want_false, k_val, k_pan, k_call, k_ret, k_seq, k_seq_exit, k_seq_ret, k_true, k_false, k_block, k_block_exit, k_block_ret, k_loop, k_loop_exit, k_loop_ret, awanted, aoper, evalO, put, Option.getD_some, List.getElem?_set, acallOp, abuiltin, List.map_cons, List.map_nil, Nat.reduceEqDiff, Nat.reduceLT, List.length_set, Option.map_some, Option.bind_some, Option.bind_eq_bind, add_i, sub_i, mul_i, eql_i, neq_i, lss_i, leq_i, gtr_i, geq_i, ofV, ofCell, ↓reduceIte, List.cons_append, List.nil_append, List.append_nil, List.getElem?_toArray, List.getElem?_cons_succ, List.getElem?_cons_zero, e_draw, g_nil, g_cons, g_want, g_skip, g_val, g_call, g_ret, Option.map_none, hl]
    exact ⟨_, rfl, by simp [hl], by simp [t00]⟩
  obtain ⟨t1, e1, l1, t10⟩ := p1
  have p2 : ∃ t, ex Cf (Cat [true, false] (bodyOf Try.f14)) ⟨t1, bare⟩ = some (.normal, ⟨t, bare⟩) ∧ t.length = 29 ∧ t[0]? = some (.int .i64 a) ∧ t[3]? = some .nilSl := by
    simp only [bodyOf, Try.f14, Cat, Bool.false_eq_true, e_seq, e_region, e_cond, e_block, ex_skip, ex_exit, ex_ret, o_cons, xops_nil, k_want_none, k_want_false, k_val, k_pan, k_call, k_ret, k_seq, k_seq_exit, k_seq_ret, k_true, k_false, k_block, k_block_exit, k_block_ret, k_loop, k_loop_exit, k_loop_ret, awanted, aoper, evalO, put, Option.getD_some, List.getElem?_set, acallOp, abuiltin, List.map_cons, List.map_nil, Nat.reduceEqDiff, Nat.reduceLT, List.length_set, Option.map_some, Option.bind_some, Option.bind_eq_bind, add_i, sub_i, mul_i, eql_i, neq_i, lss_i, leq_i, gtr_i, geq_i, ofV, ofCell, ↓reduceIte, List.cons_append, List.nil_append, List.append_nil, List.getElem?_toArray, List.getElem?_cons_succ, List.getElem?_cons_zero, e_draw, g_nil, g_cons, g_want, g_skip, g_val, g_call, g_ret, Option.map_none, l1]
    exact ⟨_, rfl, by simp [l1], by simp [t10], by simp [l1]⟩
  obtain ⟨t2, e2, l2, t20, t2L⟩ := p2
  have p3 : ∃ t, ex Cf (Cat [true, true, false, false] (bodyOf Try.f14)) ⟨t2, bare⟩ = some (.normal, ⟨t, bare⟩) ∧ t.length = 29 ∧ t[0]? = some (.int .i64 a) ∧ t[3]? = some .nilSl ∧ t[4]? = some (.int .i64 0) := by
    simp only [bodyOf, Try.f14, Cat, Bool.false_eq_true, e_seq, e_region, e_cond, e_block, ex_skip, ex_exit, ex_ret, o_cons, xops_nil, k_want_none, k_want_false, k_val, k_pan, k_call, k_ret, k_seq, k_seq_exit, k_seq_ret, k_true, k_false, k_block, k_block_exit, k_block_ret, k_loop, k_loop_exit, k_loop_ret, awanted, aoper, evalO, put, Option.getD_some, List.getElem?_set, acallOp, abuiltin, List.map_cons, List.map_nil, Nat.reduceEqDiff, Nat.reduceLT, List.length_set, Option.map_some, Option.bind_some, Option.bind_eq_bind, add_i, sub_i, mul_i, eql_i, neq_i, lss_i, leq_i, gtr_i, geq_i, ofV, ofCell, ↓reduceIte, List.cons_append, List.nil_append, List.append_nil, List.getElem?_toArray, List.getElem?_cons_succ, List.getElem?_cons_zero, e_draw, g_nil, g_cons, g_want, g_skip, g_val, g_call, g_ret, Option.map_none, l2]
    exact ⟨_, rfl, by simp [l2], by simp [t20], by simp [t2L], by simp [l2]⟩
  obtain ⟨t3, e3, l3, t30, t3L, t3I⟩ := p3
  obtain ⟨t5, h5, v, e5, l5, t55, A⟩ := RC_loop a 64 0 rfl bare .nilSl (Acc.nil 1 bare) t3 l3 t30 t3L t3I
  have p6 : ∃ t, ex Cf (Cat [true, true, true] (bodyOf Try.f14)) ⟨t5, h5⟩ = some (.ret, ⟨t, h5⟩) ∧ t[2]? = some v := by
    simp only [bodyOf, Try.f14, Cat, Bool.false_eq_true, e_seq, e_region, e_cond, e_block, ex_skip, ex_exit, ex_ret, o_cons, xops_nil, k_want_none, k_want_false, k_val, k_pan, k_call, k_ret, k_seq, k_seq_exit, k_seq_ret, k_true, k_false, k_block, k_block_exit, k_block_ret, k_loop, k_loop_exit, k_loop_ret, awanted, aoper, evalO, put, Option.getD_some, List.getElem?_set, acallOp, abuiltin, List.map_cons, List.map_nil, Nat.reduceEqDiff, Nat.reduceLT, List.length_set, Option.map_some, Option.bind_some, Option.bind_eq_bind, add_i, sub_i, mul_i, eql_i, neq_i, lss_i, leq_i, gtr_i, geq_i, ofV, ofCell, ↓reduceIte, List.cons_append, List.nil_append, List.append_nil, List.getElem?_toArray, List.getElem?_cons_succ, List.getElem?_cons_zero, e_draw, g_nil, g_cons, g_want, g_skip, g_val, g_call, g_ret, Option.map_none, l5, t55]
    exact ⟨_, rfl, by simp [l5]⟩
  obtain ⟨t6, e6, t6r⟩ := p6
  obtain ⟨v', hnv, hI⟩ := norm_acc A h5
  exact ⟨v', hI, fun h => fn_runC (fn := Try.f14) (x := .ret) Try.func14 rfl rfl rfl rfl (.inl rfl) (by rw [← ha0, hbody, e_seq, e1, k_seq, e_seq, e2, k_seq, e_seq, e_seq, e3, k_seq, e_block, e5, k_block_exit, if_pos rfl, k_seq, e6]) (vs := [v]) (by simp only [show Try.f14.results.toList = [ResultVar.tmp 2] from rfl, aresults, ares1, t6r]; rfl) hnv h⟩
end Go.Proofs.Cube
