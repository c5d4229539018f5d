/-
  CUBE: the document's list of a set, run for each of the 64 sets (printed by a small program); has; Covers.
-/
import Derived.Test.YtgjdlakemaabfaaCubeRef
set_option linter.unusedVariables false
set_option linter.unusedSimpArgs false
set_option linter.unusedSimpArgs false
set_option linter.unusedVariables false
set_option maxRecDepth 100000
namespace Go.Proofs.Cube
open Go Go.Am Go.Proofs Go.RowKit

def listV (x : Nat) : AVal := match dims x with
  | [] => .nilSl
  | d :: ds => natsV (d :: ds)
theorem rlist0 (h : AHeap) : run Cf 29 [.int .i64 0] h = some (.ret (listV 0), h) := run_of (n := 30) (by kernel_rfl)
theorem rlist1 (h : AHeap) : run Cf 29 [.int .i64 1] h = some (.ret (listV 1), h) := run_of (n := 30) (by kernel_rfl)
theorem rlist2 (h : AHeap) : run Cf 29 [.int .i64 2] h = some (.ret (listV 2), h) := run_of (n := 30) (by kernel_rfl)
theorem rlist3 (h : AHeap) : run Cf 29 [.int .i64 3] h = some (.ret (listV 3), h) := run_of (n := 30) (by kernel_rfl)
theorem rlist4 (h : AHeap) : run Cf 29 [.int .i64 4] h = some (.ret (listV 4), h) := run_of (n := 30) (by kernel_rfl)
theorem rlist5 (h : AHeap) : run Cf 29 [.int .i64 5] h = some (.ret (listV 5), h) := run_of (n := 30) (by kernel_rfl)
theorem rlist6 (h : AHeap) : run Cf 29 [.int .i64 6] h = some (.ret (listV 6), h) := run_of (n := 30) (by kernel_rfl)
theorem rlist7 (h : AHeap) : run Cf 29 [.int .i64 7] h = some (.ret (listV 7), h) := run_of (n := 30) (by kernel_rfl)
theorem rlist8 (h : AHeap) : run Cf 29 [.int .i64 8] h = some (.ret (listV 8), h) := run_of (n := 30) (by kernel_rfl)
theorem rlist9 (h : AHeap) : run Cf 29 [.int .i64 9] h = some (.ret (listV 9), h) := run_of (n := 30) (by kernel_rfl)
theorem rlist10 (h : AHeap) : run Cf 29 [.int .i64 10] h = some (.ret (listV 10), h) := run_of (n := 30) (by kernel_rfl)
theorem rlist11 (h : AHeap) : run Cf 29 [.int .i64 11] h = some (.ret (listV 11), h) := run_of (n := 30) (by kernel_rfl)
theorem rlist12 (h : AHeap) : run Cf 29 [.int .i64 12] h = some (.ret (listV 12), h) := run_of (n := 30) (by kernel_rfl)
theorem rlist13 (h : AHeap) : run Cf 29 [.int .i64 13] h = some (.ret (listV 13), h) := run_of (n := 30) (by kernel_rfl)
theorem rlist14 (h : AHeap) : run Cf 29 [.int .i64 14] h = some (.ret (listV 14), h) := run_of (n := 30) (by kernel_rfl)
theorem rlist15 (h : AHeap) : run Cf 29 [.int .i64 15] h = some (.ret (listV 15), h) := run_of (n := 30) (by kernel_rfl)
theorem rlist16 (h : AHeap) : run Cf 29 [.int .i64 16] h = some (.ret (listV 16), h) := run_of (n := 30) (by kernel_rfl)
theorem rlist17 (h : AHeap) : run Cf 29 [.int .i64 17] h = some (.ret (listV 17), h) := run_of (n := 30) (by kernel_rfl)
theorem rlist18 (h : AHeap) : run Cf 29 [.int .i64 18] h = some (.ret (listV 18), h) := run_of (n := 30) (by kernel_rfl)
theorem rlist19 (h : AHeap) : run Cf 29 [.int .i64 19] h = some (.ret (listV 19), h) := run_of (n := 30) (by kernel_rfl)
theorem rlist20 (h : AHeap) : run Cf 29 [.int .i64 20] h = some (.ret (listV 20), h) := run_of (n := 30) (by kernel_rfl)
theorem rlist21 (h : AHeap) : run Cf 29 [.int .i64 21] h = some (.ret (listV 21), h) := run_of (n := 30) (by kernel_rfl)
theorem rlist22 (h : AHeap) : run Cf 29 [.int .i64 22] h = some (.ret (listV 22), h) := run_of (n := 30) (by kernel_rfl)
theorem rlist23 (h : AHeap) : run Cf 29 [.int .i64 23] h = some (.ret (listV 23), h) := run_of (n := 30) (by kernel_rfl)
theorem rlist24 (h : AHeap) : run Cf 29 [.int .i64 24] h = some (.ret (listV 24), h) := run_of (n := 30) (by kernel_rfl)
theorem rlist25 (h : AHeap) : run Cf 29 [.int .i64 25] h = some (.ret (listV 25), h) := run_of (n := 30) (by kernel_rfl)
theorem rlist26 (h : AHeap) : run Cf 29 [.int .i64 26] h = some (.ret (listV 26), h) := run_of (n := 30) (by kernel_rfl)
theorem rlist27 (h : AHeap) : run Cf 29 [.int .i64 27] h = some (.ret (listV 27), h) := run_of (n := 30) (by kernel_rfl)
theorem rlist28 (h : AHeap) : run Cf 29 [.int .i64 28] h = some (.ret (listV 28), h) := run_of (n := 30) (by kernel_rfl)
theorem rlist29 (h : AHeap) : run Cf 29 [.int .i64 29] h = some (.ret (listV 29), h) := run_of (n := 30) (by kernel_rfl)
theorem rlist30 (h : AHeap) : run Cf 29 [.int .i64 30] h = some (.ret (listV 30), h) := run_of (n := 30) (by kernel_rfl)
theorem rlist31 (h : AHeap) : run Cf 29 [.int .i64 31] h = some (.ret (listV 31), h) := run_of (n := 30) (by kernel_rfl)
theorem rlist32 (h : AHeap) : run Cf 29 [.int .i64 32] h = some (.ret (listV 32), h) := run_of (n := 30) (by kernel_rfl)
theorem rlist33 (h : AHeap) : run Cf 29 [.int .i64 33] h = some (.ret (listV 33), h) := run_of (n := 30) (by kernel_rfl)
theorem rlist34 (h : AHeap) : run Cf 29 [.int .i64 34] h = some (.ret (listV 34), h) := run_of (n := 30) (by kernel_rfl)
theorem rlist35 (h : AHeap) : run Cf 29 [.int .i64 35] h = some (.ret (listV 35), h) := run_of (n := 30) (by kernel_rfl)
theorem rlist36 (h : AHeap) : run Cf 29 [.int .i64 36] h = some (.ret (listV 36), h) := run_of (n := 30) (by kernel_rfl)
theorem rlist37 (h : AHeap) : run Cf 29 [.int .i64 37] h = some (.ret (listV 37), h) := run_of (n := 30) (by kernel_rfl)
theorem rlist38 (h : AHeap) : run Cf 29 [.int .i64 38] h = some (.ret (listV 38), h) := run_of (n := 30) (by kernel_rfl)
theorem rlist39 (h : AHeap) : run Cf 29 [.int .i64 39] h = some (.ret (listV 39), h) := run_of (n := 30) (by kernel_rfl)
theorem rlist40 (h : AHeap) : run Cf 29 [.int .i64 40] h = some (.ret (listV 40), h) := run_of (n := 30) (by kernel_rfl)
theorem rlist41 (h : AHeap) : run Cf 29 [.int .i64 41] h = some (.ret (listV 41), h) := run_of (n := 30) (by kernel_rfl)
theorem rlist42 (h : AHeap) : run Cf 29 [.int .i64 42] h = some (.ret (listV 42), h) := run_of (n := 30) (by kernel_rfl)
theorem rlist43 (h : AHeap) : run Cf 29 [.int .i64 43] h = some (.ret (listV 43), h) := run_of (n := 30) (by kernel_rfl)
theorem rlist44 (h : AHeap) : run Cf 29 [.int .i64 44] h = some (.ret (listV 44), h) := run_of (n := 30) (by kernel_rfl)
theorem rlist45 (h : AHeap) : run Cf 29 [.int .i64 45] h = some (.ret (listV 45), h) := run_of (n := 30) (by kernel_rfl)
theorem rlist46 (h : AHeap) : run Cf 29 [.int .i64 46] h = some (.ret (listV 46), h) := run_of (n := 30) (by kernel_rfl)
theorem rlist47 (h : AHeap) : run Cf 29 [.int .i64 47] h = some (.ret (listV 47), h) := run_of (n := 30) (by kernel_rfl)
theorem rlist48 (h : AHeap) : run Cf 29 [.int .i64 48] h = some (.ret (listV 48), h) := run_of (n := 30) (by kernel_rfl)
theorem rlist49 (h : AHeap) : run Cf 29 [.int .i64 49] h = some (.ret (listV 49), h) := run_of (n := 30) (by kernel_rfl)
theorem rlist50 (h : AHeap) : run Cf 29 [.int .i64 50] h = some (.ret (listV 50), h) := run_of (n := 30) (by kernel_rfl)
theorem rlist51 (h : AHeap) : run Cf 29 [.int .i64 51] h = some (.ret (listV 51), h) := run_of (n := 30) (by kernel_rfl)
theorem rlist52 (h : AHeap) : run Cf 29 [.int .i64 52] h = some (.ret (listV 52), h) := run_of (n := 30) (by kernel_rfl)
theorem rlist53 (h : AHeap) : run Cf 29 [.int .i64 53] h = some (.ret (listV 53), h) := run_of (n := 30) (by kernel_rfl)
theorem rlist54 (h : AHeap) : run Cf 29 [.int .i64 54] h = some (.ret (listV 54), h) := run_of (n := 30) (by kernel_rfl)
theorem rlist55 (h : AHeap) : run Cf 29 [.int .i64 55] h = some (.ret (listV 55), h) := run_of (n := 30) (by kernel_rfl)
theorem rlist56 (h : AHeap) : run Cf 29 [.int .i64 56] h = some (.ret (listV 56), h) := run_of (n := 30) (by kernel_rfl)
theorem rlist57 (h : AHeap) : run Cf 29 [.int .i64 57] h = some (.ret (listV 57), h) := run_of (n := 30) (by kernel_rfl)
theorem rlist58 (h : AHeap) : run Cf 29 [.int .i64 58] h = some (.ret (listV 58), h) := run_of (n := 30) (by kernel_rfl)
theorem rlist59 (h : AHeap) : run Cf 29 [.int .i64 59] h = some (.ret (listV 59), h) := run_of (n := 30) (by kernel_rfl)
theorem rlist60 (h : AHeap) : run Cf 29 [.int .i64 60] h = some (.ret (listV 60), h) := run_of (n := 30) (by kernel_rfl)
theorem rlist61 (h : AHeap) : run Cf 29 [.int .i64 61] h = some (.ret (listV 61), h) := run_of (n := 30) (by kernel_rfl)
theorem rlist62 (h : AHeap) : run Cf 29 [.int .i64 62] h = some (.ret (listV 62), h) := run_of (n := 30) (by kernel_rfl)
theorem rlist63 (h : AHeap) : run Cf 29 [.int .i64 63] h = some (.ret (listV 63), h) := run_of (n := 30) (by kernel_rfl)
theorem refList_run (h : AHeap) : ∀ {x : Nat}, x < 64 → run Cf 29 [.int .i64 x] h = some (.ret (listV x), h)
  | 0, _ => rlist0 h
  | 1, _ => rlist1 h
  | 2, _ => rlist2 h
  | 3, _ => rlist3 h
  | 4, _ => rlist4 h
  | 5, _ => rlist5 h
  | 6, _ => rlist6 h
  | 7, _ => rlist7 h
  | 8, _ => rlist8 h
  | 9, _ => rlist9 h
  | 10, _ => rlist10 h
  | 11, _ => rlist11 h
  | 12, _ => rlist12 h
  | 13, _ => rlist13 h
  | 14, _ => rlist14 h
  | 15, _ => rlist15 h
  | 16, _ => rlist16 h
  | 17, _ => rlist17 h
  | 18, _ => rlist18 h
  | 19, _ => rlist19 h
  | 20, _ => rlist20 h
  | 21, _ => rlist21 h
  | 22, _ => rlist22 h
  | 23, _ => rlist23 h
  | 24, _ => rlist24 h
  | 25, _ => rlist25 h
  | 26, _ => rlist26 h
  | 27, _ => rlist27 h
  | 28, _ => rlist28 h
  | 29, _ => rlist29 h
  | 30, _ => rlist30 h
  | 31, _ => rlist31 h
  | 32, _ => rlist32 h
  | 33, _ => rlist33 h
  | 34, _ => rlist34 h
  | 35, _ => rlist35 h
  | 36, _ => rlist36 h
  | 37, _ => rlist37 h
  | 38, _ => rlist38 h
  | 39, _ => rlist39 h
  | 40, _ => rlist40 h
  | 41, _ => rlist41 h
  | 42, _ => rlist42 h
  | 43, _ => rlist43 h
  | 44, _ => rlist44 h
  | 45, _ => rlist45 h
  | 46, _ => rlist46 h
  | 47, _ => rlist47 h
  | 48, _ => rlist48 h
  | 49, _ => rlist49 h
  | 50, _ => rlist50 h
  | 51, _ => rlist51 h
  | 52, _ => rlist52 h
  | 53, _ => rlist53 h
  | 54, _ => rlist54 h
  | 55, _ => rlist55 h
  | 56, _ => rlist56 h
  | 57, _ => rlist57 h
  | 58, _ => rlist58 h
  | 59, _ => rlist59 h
  | 60, _ => rlist60 h
  | 61, _ => rlist61 h
  | 62, _ => rlist62 h
  | 63, _ => rlist63 h
  | n + 64, hx => absurd hx (by omega)
theorem list_ints (x : Nat) : Ints (listV x) ((dims x).map fun i : Nat => (i : Int)) := by
  unfold listV
  cases hd : dims x with
  | nil => exact .inl ⟨rfl, rfl⟩
  | cons d ds => exact .inr ⟨.unk, by simp [natsV]⟩

noncomputable def LH : Code := Cat [true, true, false, true, true, true] (bodyOf Try.f34)
theorem LH_out (h : AHeap) (k n : Nat) (hlt : ¬ k < n) (xs : List Int) (hn : xs.length = n) (lv : AVal) (I : Ints lv xs) (tmps : List AVal) (hl : tmps.length = 21) (h5 : tmps[5]? = some lv) (h6 : tmps[6]? = some (.int .i64 k)) :
    ∃ t : List AVal, ex Cf LH ⟨tmps, h⟩ = some (.exit 0, ⟨t, h⟩) ∧ t.length = 21 := by
  have hlt' : decide ((k : Int) < (n : Int)) = false := by simp; omega
  have hal : alen Try.prog h 24 lv = some (.int .i64 n) := by rw [← hn]; exact I.al h
  simp only [LH, bodyOf, Try.f34, Cat, Bool.false_eq_true, e_seq, e_region, e_cond, e_block, ex_skip, ex_exit, ex_ret, o_cons, xops_nil, k_want_none, k_want_false, k_val, k_pan, k_call, k_ret, k_seq, k_seq_exit, k_seq_ret, k_true, k_false, k_block, k_block_exit, k_block_ret, k_loop, k_loop_exit, k_loop_ret, awanted, aoper, evalO, put, Option.getD_some, List.getElem?_set, acallOp, abuiltin, List.map_cons, List.map_nil, Nat.reduceEqDiff, Nat.reduceLT, List.length_set, Option.map_some, Option.bind_some, Option.bind_eq_bind, add_i, sub_i, mul_i, eql_i, neq_i, lss_i, leq_i, gtr_i, geq_i, ofV, ofCell, ↓reduceIte, List.cons_append, List.nil_append, List.append_nil, List.getElem?_toArray, List.getElem?_cons_succ, List.getElem?_cons_zero, e_draw, g_nil, g_cons, g_want, g_skip, g_val, g_call, g_ret, Option.map_none, hl, h5, h6, hal, CP, hlt']
  exact ⟨_, rfl, by simp [hl]⟩
theorem LH_in (h : AHeap) (k : Nat) (xs : List Int) (hx6 : xs.length ≤ 100) (x : Int) (hx : xs[k]? = some x) (y : Int) (lv : AVal) (I : Ints lv xs) (tmps : List AVal) (hl : tmps.length = 21) (h1 : tmps[1]? = some (.int .i64 y)) (h5 : tmps[5]? = some lv) (h6 : tmps[6]? = some (.int .i64 k)) :
    (x = y ∧ ∃ t : List AVal, ex Cf LH ⟨tmps, h⟩ = some (.ret, ⟨t, h⟩) ∧ t[4]? = some (.bool true)) ∨ (x ≠ y ∧ ∃ t : List AVal, ex Cf LH ⟨tmps, h⟩ = some (.normal, ⟨t, h⟩) ∧ t.length = 21 ∧ t[1]? = some (.int .i64 y) ∧ t[5]? = some lv ∧ t[6]? = some (.int .i64 (k + 1 : Nat))) := by
  have hk : k < xs.length := (List.getElem?_eq_some_iff.1 hx).1
  have hlt' : decide ((k : Int) < (xs.length : Int)) = true := by simp; omega
  have hw : IntKind.i64.wrap ((k : Int) + 1) = ((k + 1 : Nat) : Int) := by rw [wrap64 (by omega) (by omega)]; rfl
  have hal : alen Try.prog h 24 lv = some (.int .i64 xs.length) := I.al h
  obtain ⟨a, hix, hld⟩ := I.ix hx
  by_cases hxy : x = y
  · left
    have he : (x == y) = true := by simpa using hxy
    refine ⟨hxy, ?_⟩
    simp only [LH, bodyOf, Try.f34, Cat, Bool.false_eq_true, e_seq, e_region, e_cond, e_block, ex_skip, ex_exit, ex_ret, o_cons, xops_nil, k_want_none, k_want_false, k_val, k_pan, k_call, k_ret, k_seq, k_seq_exit, k_seq_ret, k_true, k_false, k_block, k_block_exit, k_block_ret, k_loop, k_loop_exit, k_loop_ret, awanted, aoper, evalO, put, Option.getD_some, List.getElem?_set, acallOp, abuiltin, List.map_cons, List.map_nil, Nat.reduceEqDiff, Nat.reduceLT, List.length_set, Option.map_some, Option.bind_some, Option.bind_eq_bind, add_i, sub_i, mul_i, eql_i, neq_i, lss_i, leq_i, gtr_i, geq_i, ofV, ofCell, ↓reduceIte, List.cons_append, List.nil_append, List.append_nil, List.getElem?_toArray, List.getElem?_cons_succ, List.getElem?_cons_zero, e_draw, g_nil, g_cons, g_want, g_skip, g_val, g_call, g_ret, Option.map_none, hl, h1, h5, h6, hal, CP, hlt', hw, Ty.ix24, hix, Ty.ld3, hld, he]
    exact ⟨_, rfl, by simp [hl]⟩
  · right
    have he : (x == y) = false := by simpa using hxy
    refine ⟨hxy, ?_⟩
    simp only [LH, bodyOf, Try.f34, Cat, Bool.false_eq_true, e_seq, e_region, e_cond, e_block, ex_skip, ex_exit, ex_ret, o_cons, xops_nil, k_want_none, k_want_false, k_val, k_pan, k_call, k_ret, k_seq, k_seq_exit, k_seq_ret, k_true, k_false, k_block, k_block_exit, k_block_ret, k_loop, k_loop_exit, k_loop_ret, awanted, aoper, evalO, put, Option.getD_some, List.getElem?_set, acallOp, abuiltin, List.map_cons, List.map_nil, Nat.reduceEqDiff, Nat.reduceLT, List.length_set, Option.map_some, Option.bind_some, Option.bind_eq_bind, add_i, sub_i, mul_i, eql_i, neq_i, lss_i, leq_i, gtr_i, geq_i, ofV, ofCell, ↓reduceIte, List.cons_append, List.nil_append, List.append_nil, List.getElem?_toArray, List.getElem?_cons_succ, List.getElem?_cons_zero, e_draw, g_nil, g_cons, g_want, g_skip, g_val, g_call, g_ret, Option.map_none, hl, h1, h5, h6, hal, CP, hlt', hw, Ty.ix24, hix, Ty.ld3, hld, he]
    exact ⟨_, rfl, by simp [hl], by simp [h1], by simp [h5], by simp [hl]⟩
theorem LH_loop (h : AHeap) (y : Int) (lv : AVal) : ∀ (rest pre : List Int) (hx6 : (pre ++ rest).length ≤ 100) (I : Ints lv (pre ++ rest)) (tmps : List AVal) (hl : tmps.length = 21) (h1 : tmps[1]? = some (.int .i64 y)) (h5 : tmps[5]? = some lv) (h6 : tmps[6]? = some (.int .i64 pre.length)),
    (rest.any (· == y) = true ∧ ∃ t : List AVal, ex Cf (.loop LH) ⟨tmps, h⟩ = some (.ret, ⟨t, h⟩) ∧ t[4]? = some (.bool true)) ∨ (rest.any (· == y) = false ∧ ∃ t : List AVal, ex Cf (.loop LH) ⟨tmps, h⟩ = some (.exit 0, ⟨t, h⟩) ∧ t.length = 21) := by
  intro rest
  induction rest with
  | nil =>
    intro pre hx6 I tmps hl h1 h5 h6
    obtain ⟨t, e, l1⟩ := LH_out h pre.length pre.length (by omega) (pre ++ []) (by simp) lv I tmps hl h5 h6
    exact .inr ⟨rfl, t, by rw [e_loop, e, k_loop_exit], l1⟩
  | cons x rest ih =>
    intro pre hx6 I tmps hl h1 h5 h6
    rcases LH_in h pre.length (pre ++ x :: rest) hx6 x (by simp) y lv I tmps hl h1 h5 h6 with ⟨hxy, t, e, t4⟩ | ⟨hxy, t, e, l1, t1, t5, t6⟩
    · exact .inl ⟨by simp [hxy], t, by rw [e_loop, e, k_loop_ret], t4⟩
    · have happ : pre ++ x :: rest = (pre ++ [x]) ++ rest := by simp
      rw [happ] at hx6 I
      have hx' : (x == y) = false := by simpa using hxy
      rcases ih (pre ++ [x]) hx6 I t l1 t1 t5 (by simpa using t6) with ⟨q, t', e', t4⟩ | ⟨q, t', e', l'⟩
      · exact .inl ⟨by rw [List.any_cons, q, Bool.or_true], t', by rw [e_loop, e, k_loop]; exact e', t4⟩
      · exact .inr ⟨by rw [List.any_cons, q, hx']; rfl, t', by rw [e_loop, e, k_loop]; exact e', l'⟩
theorem has_run (h : AHeap) {x : Nat} (hx : x < 64) (y : Int) : run Cf 34 [.int .i64 x, .int .i64 y] h = some (.ret (.bool (((dims x).map fun i : Nat => (i : Int)).any (· == y))), h) := by
  obtain ⟨a0, ha0⟩ : ∃ a0, a0 = slots Try.f34 [.int .i64 (x : Int), .int .i64 y] := ⟨_, rfl⟩
  have hl : a0.length = 21 := by rw [ha0]; rfl
  have i0 : a0[0]? = some (.int .i64 x) := by rw [ha0]; rfl
  have i1 : a0[1]? = some (.int .i64 y) := by rw [ha0]; rfl
  have hbody : bodyOf Try.f34 = .seq (Cat [false] (bodyOf Try.f34)) (.seq (Cat [true, false] (bodyOf Try.f34)) (.seq (.seq (Cat [true, true, false, false] (bodyOf Try.f34)) (.block 0 (.loop LH))) (Cat [true, true, true] (bodyOf Try.f34)))) := rfl
  have p1 : ∃ t, ex Cf (Cat [false] (bodyOf Try.f34)) ⟨a0, h⟩ = some (.normal, ⟨t, h⟩) ∧ t.length = 21 ∧ t[0]? = some (.int .i64 x) ∧ t[1]? = some (.int .i64 y) := by
    simp only [bodyOf, Try.f34, Cat, Bool.false_eq_true, e_seq, e_region, e_cond, e_block, ex_skip, ex_exit, ex_ret, o_cons, xops_nil, k_want_none, k_want_false, k_val, k_pan, k_call, k_ret, k_seq, k_seq_exit, k_seq_ret, k_true, k_false, k_block, k_block_exit, k_block_ret, k_loop, k_loop_exit, k_loop_ret, awanted, aoper, evalO, put, Option.getD_some, List.getElem?_set, acallOp, abuiltin, List.map_cons, List.map_nil, Nat.reduceEqDiff, Nat.reduceLT, List.length_set, Option.map_some, Option.bind_some, Option.bind_eq_bind, add_i, sub_i, mul_i, eql_i, neq_i, lss_i, leq_i, gtr_i, geq_i, ofV, ofCell, ↓reduceIte, List.cons_append, List.nil_append, List.append_nil, List.getElem?_toArray, List.getElem?_cons_succ, List.getElem?_cons_zero, e_draw, g_nil, g_cons, g_want, g_skip, g_val, g_call, g_ret, Option.map_none, hl]
    exact ⟨_, rfl, by simp [hl], by simp [i0], by simp [i1]⟩
  obtain ⟨t1, e1, l1, t10, t11⟩ := p1
  have p2 : ∃ t, ex Cf (Cat [true, false] (bodyOf Try.f34)) ⟨t1, h⟩ = some (.normal, ⟨t, h⟩) ∧ t.length = 21 ∧ t[1]? = some (.int .i64 y) ∧ t[5]? = some (listV x) := by
    simp only [bodyOf, Try.f34, Cat, Bool.false_eq_true, e_seq, e_region, e_cond, e_block, ex_skip, ex_exit, ex_ret, o_cons, xops_nil, k_want_none, k_want_false, k_val, k_pan, k_call, k_ret, k_seq, k_seq_exit, k_seq_ret, k_true, k_false, k_block, k_block_exit, k_block_ret, k_loop, k_loop_exit, k_loop_ret, awanted, aoper, evalO, put, Option.getD_some, List.getElem?_set, acallOp, abuiltin, List.map_cons, List.map_nil, Nat.reduceEqDiff, Nat.reduceLT, List.length_set, Option.map_some, Option.bind_some, Option.bind_eq_bind, add_i, sub_i, mul_i, eql_i, neq_i, lss_i, leq_i, gtr_i, geq_i, ofV, ofCell, ↓reduceIte, List.cons_append, List.nil_append, List.append_nil, List.getElem?_toArray, List.getElem?_cons_succ, List.getElem?_cons_zero, e_draw, g_nil, g_cons, g_want, g_skip, g_val, g_call, g_ret, Option.map_none, l1, t10, refList_run h hx]
    exact ⟨_, rfl, by simp [l1], by simp [t11], by simp [l1]⟩
  obtain ⟨t2, e2, l2, t21, t25⟩ := p2
  have p3 : ∃ t, ex Cf (Cat [true, true, false, false] (bodyOf Try.f34)) ⟨t2, h⟩ = some (.normal, ⟨t, h⟩) ∧ t.length = 21 ∧ t[1]? = some (.int .i64 y) ∧ t[5]? = some (listV x) ∧ t[6]? = some (.int .i64 0) := by
    simp only [bodyOf, Try.f34, Cat, Bool.false_eq_true, e_seq, e_region, e_cond, e_block, ex_skip, ex_exit, ex_ret, o_cons, xops_nil, k_want_none, k_want_false, k_val, k_pan, k_call, k_ret, k_seq, k_seq_exit, k_seq_ret, k_true, k_false, k_block, k_block_exit, k_block_ret, k_loop, k_loop_exit, k_loop_ret, awanted, aoper, evalO, put, Option.getD_some, List.getElem?_set, acallOp, abuiltin, List.map_cons, List.map_nil, Nat.reduceEqDiff, Nat.reduceLT, List.length_set, Option.map_some, Option.bind_some, Option.bind_eq_bind, add_i, sub_i, mul_i, eql_i, neq_i, lss_i, leq_i, gtr_i, geq_i, ofV, ofCell, ↓reduceIte, List.cons_append, List.nil_append, List.append_nil, List.getElem?_toArray, List.getElem?_cons_succ, List.getElem?_cons_zero, e_draw, g_nil, g_cons, g_want, g_skip, g_val, g_call, g_ret, Option.map_none, l2]
    exact ⟨_, rfl, by simp [l2], by simp [t21], by simp [t25], by simp [l2]⟩
  obtain ⟨t3, e3, l3, t31, t35, t36⟩ := p3
  have hdl : (dims x).length ≤ 6 := by
    have := List.length_filter_le (fun i => x.testBit i) (List.range 6)
    simpa [dims] using this
  rcases LH_loop h y (listV x) ((dims x).map fun i : Nat => (i : Int)) [] (by simp; omega) (list_ints x) t3 l3 t31 t35 t36 with ⟨q, t4, e4, t44⟩ | ⟨q, t4, e4, l4⟩
  · rw [q]
    exact fn_run (fn := Try.f34) (x := .ret) Try.func34 rfl rfl rfl (.inl rfl) (by rw [← ha0, hbody, e_seq, e1, k_seq, e_seq, e2, k_seq, e_seq, e_seq, e3, k_seq, e_block, e4, k_block_ret, k_seq_ret]) (vs := [_]) (by simp only [show Try.f34.results.toList = [ResultVar.tmp 4] from rfl, aresults, ares1, t44]; rfl)
  · have p5 : ∃ t, ex Cf (Cat [true, true, true] (bodyOf Try.f34)) ⟨t4, h⟩ = some (.ret, ⟨t, h⟩) ∧ t[4]? = some (.bool false) := by
      simp only [bodyOf, Try.f34, Cat, Bool.false_eq_true, e_seq, e_region, e_cond, e_block, ex_skip, ex_exit, ex_ret, o_cons, xops_nil, k_want_none, k_want_false, k_val, k_pan, k_call, k_ret, k_seq, k_seq_exit, k_seq_ret, k_true, k_false, k_block, k_block_exit, k_block_ret, k_loop, k_loop_exit, k_loop_ret, awanted, aoper, evalO, put, Option.getD_some, List.getElem?_set, acallOp, abuiltin, List.map_cons, List.map_nil, Nat.reduceEqDiff, Nat.reduceLT, List.length_set, Option.map_some, Option.bind_some, Option.bind_eq_bind, add_i, sub_i, mul_i, eql_i, neq_i, lss_i, leq_i, gtr_i, geq_i, ofV, ofCell, ↓reduceIte, List.cons_append, List.nil_append, List.append_nil, List.getElem?_toArray, List.getElem?_cons_succ, List.getElem?_cons_zero, e_draw, g_nil, g_cons, g_want, g_skip, g_val, g_call, g_ret, Option.map_none, l4]
      exact ⟨_, rfl, by simp [l4]⟩
    obtain ⟨t5, e5, t54⟩ := p5
    rw [q]
    exact fn_run (fn := Try.f34) (x := .ret) Try.func34 rfl rfl rfl (.inl rfl) (by rw [← ha0, hbody, e_seq, e1, k_seq, e_seq, e2, k_seq, e_seq, e_seq, e3, k_seq, e_block, e4, k_block_exit, if_pos rfl, k_seq, e5]) (vs := [_]) (by simp only [show Try.f34.results.toList = [ResultVar.tmp 4] from rfl, aresults, ares1, t54]; rfl)
end Go.Proofs.Cube
