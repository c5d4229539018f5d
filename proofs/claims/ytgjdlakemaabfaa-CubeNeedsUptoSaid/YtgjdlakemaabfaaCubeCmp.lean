/-
  CUBE: the order in which All sorts: by how many dimensions, most first.
-/
import Derived.Test.YtgjdlakemaabfaaCubeSort
import Derived.Test.YtgjdlakemaabfaaAmLimit
set_option linter.unusedVariables false
set_option linter.unusedSimpArgs false
set_option linter.unusedSimpArgs false
set_option linter.unusedVariables false
set_option maxRecDepth 100000
namespace Go.Proofs.Cube
open Go Go.Am Go.Proofs Go.RowKit

def pc (n : Nat) : Nat := ((List.range 6).filter fun i => n.testBit i).length
theorem size0 (h : AHeap) : run C0 27 [.int .i64 0] h = some (.ret (.int .i64 (pc 0 : Nat)), h) := run_of (n := 20) (by kernel_rfl)
theorem size1 (h : AHeap) : run C0 27 [.int .i64 1] h = some (.ret (.int .i64 (pc 1 : Nat)), h) := run_of (n := 20) (by kernel_rfl)
theorem size2 (h : AHeap) : run C0 27 [.int .i64 2] h = some (.ret (.int .i64 (pc 2 : Nat)), h) := run_of (n := 20) (by kernel_rfl)
theorem size3 (h : AHeap) : run C0 27 [.int .i64 3] h = some (.ret (.int .i64 (pc 3 : Nat)), h) := run_of (n := 20) (by kernel_rfl)
theorem size4 (h : AHeap) : run C0 27 [.int .i64 4] h = some (.ret (.int .i64 (pc 4 : Nat)), h) := run_of (n := 20) (by kernel_rfl)
theorem size5 (h : AHeap) : run C0 27 [.int .i64 5] h = some (.ret (.int .i64 (pc 5 : Nat)), h) := run_of (n := 20) (by kernel_rfl)
theorem size6 (h : AHeap) : run C0 27 [.int .i64 6] h = some (.ret (.int .i64 (pc 6 : Nat)), h) := run_of (n := 20) (by kernel_rfl)
theorem size7 (h : AHeap) : run C0 27 [.int .i64 7] h = some (.ret (.int .i64 (pc 7 : Nat)), h) := run_of (n := 20) (by kernel_rfl)
theorem size8 (h : AHeap) : run C0 27 [.int .i64 8] h = some (.ret (.int .i64 (pc 8 : Nat)), h) := run_of (n := 20) (by kernel_rfl)
theorem size9 (h : AHeap) : run C0 27 [.int .i64 9] h = some (.ret (.int .i64 (pc 9 : Nat)), h) := run_of (n := 20) (by kernel_rfl)
theorem size10 (h : AHeap) : run C0 27 [.int .i64 10] h = some (.ret (.int .i64 (pc 10 : Nat)), h) := run_of (n := 20) (by kernel_rfl)
theorem size11 (h : AHeap) : run C0 27 [.int .i64 11] h = some (.ret (.int .i64 (pc 11 : Nat)), h) := run_of (n := 20) (by kernel_rfl)
theorem size12 (h : AHeap) : run C0 27 [.int .i64 12] h = some (.ret (.int .i64 (pc 12 : Nat)), h) := run_of (n := 20) (by kernel_rfl)
theorem size13 (h : AHeap) : run C0 27 [.int .i64 13] h = some (.ret (.int .i64 (pc 13 : Nat)), h) := run_of (n := 20) (by kernel_rfl)
theorem size14 (h : AHeap) : run C0 27 [.int .i64 14] h = some (.ret (.int .i64 (pc 14 : Nat)), h) := run_of (n := 20) (by kernel_rfl)
theorem size15 (h : AHeap) : run C0 27 [.int .i64 15] h = some (.ret (.int .i64 (pc 15 : Nat)), h) := run_of (n := 20) (by kernel_rfl)
theorem size16 (h : AHeap) : run C0 27 [.int .i64 16] h = some (.ret (.int .i64 (pc 16 : Nat)), h) := run_of (n := 20) (by kernel_rfl)
theorem size17 (h : AHeap) : run C0 27 [.int .i64 17] h = some (.ret (.int .i64 (pc 17 : Nat)), h) := run_of (n := 20) (by kernel_rfl)
theorem size18 (h : AHeap) : run C0 27 [.int .i64 18] h = some (.ret (.int .i64 (pc 18 : Nat)), h) := run_of (n := 20) (by kernel_rfl)
theorem size19 (h : AHeap) : run C0 27 [.int .i64 19] h = some (.ret (.int .i64 (pc 19 : Nat)), h) := run_of (n := 20) (by kernel_rfl)
theorem size20 (h : AHeap) : run C0 27 [.int .i64 20] h = some (.ret (.int .i64 (pc 20 : Nat)), h) := run_of (n := 20) (by kernel_rfl)
theorem size21 (h : AHeap) : run C0 27 [.int .i64 21] h = some (.ret (.int .i64 (pc 21 : Nat)), h) := run_of (n := 20) (by kernel_rfl)
theorem size22 (h : AHeap) : run C0 27 [.int .i64 22] h = some (.ret (.int .i64 (pc 22 : Nat)), h) := run_of (n := 20) (by kernel_rfl)
theorem size23 (h : AHeap) : run C0 27 [.int .i64 23] h = some (.ret (.int .i64 (pc 23 : Nat)), h) := run_of (n := 20) (by kernel_rfl)
theorem size24 (h : AHeap) : run C0 27 [.int .i64 24] h = some (.ret (.int .i64 (pc 24 : Nat)), h) := run_of (n := 20) (by kernel_rfl)
theorem size25 (h : AHeap) : run C0 27 [.int .i64 25] h = some (.ret (.int .i64 (pc 25 : Nat)), h) := run_of (n := 20) (by kernel_rfl)
theorem size26 (h : AHeap) : run C0 27 [.int .i64 26] h = some (.ret (.int .i64 (pc 26 : Nat)), h) := run_of (n := 20) (by kernel_rfl)
theorem size27 (h : AHeap) : run C0 27 [.int .i64 27] h = some (.ret (.int .i64 (pc 27 : Nat)), h) := run_of (n := 20) (by kernel_rfl)
theorem size28 (h : AHeap) : run C0 27 [.int .i64 28] h = some (.ret (.int .i64 (pc 28 : Nat)), h) := run_of (n := 20) (by kernel_rfl)
theorem size29 (h : AHeap) : run C0 27 [.int .i64 29] h = some (.ret (.int .i64 (pc 29 : Nat)), h) := run_of (n := 20) (by kernel_rfl)
theorem size30 (h : AHeap) : run C0 27 [.int .i64 30] h = some (.ret (.int .i64 (pc 30 : Nat)), h) := run_of (n := 20) (by kernel_rfl)
theorem size31 (h : AHeap) : run C0 27 [.int .i64 31] h = some (.ret (.int .i64 (pc 31 : Nat)), h) := run_of (n := 20) (by kernel_rfl)
theorem size32 (h : AHeap) : run C0 27 [.int .i64 32] h = some (.ret (.int .i64 (pc 32 : Nat)), h) := run_of (n := 20) (by kernel_rfl)
theorem size33 (h : AHeap) : run C0 27 [.int .i64 33] h = some (.ret (.int .i64 (pc 33 : Nat)), h) := run_of (n := 20) (by kernel_rfl)
theorem size34 (h : AHeap) : run C0 27 [.int .i64 34] h = some (.ret (.int .i64 (pc 34 : Nat)), h) := run_of (n := 20) (by kernel_rfl)
theorem size35 (h : AHeap) : run C0 27 [.int .i64 35] h = some (.ret (.int .i64 (pc 35 : Nat)), h) := run_of (n := 20) (by kernel_rfl)
theorem size36 (h : AHeap) : run C0 27 [.int .i64 36] h = some (.ret (.int .i64 (pc 36 : Nat)), h) := run_of (n := 20) (by kernel_rfl)
theorem size37 (h : AHeap) : run C0 27 [.int .i64 37] h = some (.ret (.int .i64 (pc 37 : Nat)), h) := run_of (n := 20) (by kernel_rfl)
theorem size38 (h : AHeap) : run C0 27 [.int .i64 38] h = some (.ret (.int .i64 (pc 38 : Nat)), h) := run_of (n := 20) (by kernel_rfl)
theorem size39 (h : AHeap) : run C0 27 [.int .i64 39] h = some (.ret (.int .i64 (pc 39 : Nat)), h) := run_of (n := 20) (by kernel_rfl)
theorem size40 (h : AHeap) : run C0 27 [.int .i64 40] h = some (.ret (.int .i64 (pc 40 : Nat)), h) := run_of (n := 20) (by kernel_rfl)
theorem size41 (h : AHeap) : run C0 27 [.int .i64 41] h = some (.ret (.int .i64 (pc 41 : Nat)), h) := run_of (n := 20) (by kernel_rfl)
theorem size42 (h : AHeap) : run C0 27 [.int .i64 42] h = some (.ret (.int .i64 (pc 42 : Nat)), h) := run_of (n := 20) (by kernel_rfl)
theorem size43 (h : AHeap) : run C0 27 [.int .i64 43] h = some (.ret (.int .i64 (pc 43 : Nat)), h) := run_of (n := 20) (by kernel_rfl)
theorem size44 (h : AHeap) : run C0 27 [.int .i64 44] h = some (.ret (.int .i64 (pc 44 : Nat)), h) := run_of (n := 20) (by kernel_rfl)
theorem size45 (h : AHeap) : run C0 27 [.int .i64 45] h = some (.ret (.int .i64 (pc 45 : Nat)), h) := run_of (n := 20) (by kernel_rfl)
theorem size46 (h : AHeap) : run C0 27 [.int .i64 46] h = some (.ret (.int .i64 (pc 46 : Nat)), h) := run_of (n := 20) (by kernel_rfl)
theorem size47 (h : AHeap) : run C0 27 [.int .i64 47] h = some (.ret (.int .i64 (pc 47 : Nat)), h) := run_of (n := 20) (by kernel_rfl)
theorem size48 (h : AHeap) : run C0 27 [.int .i64 48] h = some (.ret (.int .i64 (pc 48 : Nat)), h) := run_of (n := 20) (by kernel_rfl)
theorem size49 (h : AHeap) : run C0 27 [.int .i64 49] h = some (.ret (.int .i64 (pc 49 : Nat)), h) := run_of (n := 20) (by kernel_rfl)
theorem size50 (h : AHeap) : run C0 27 [.int .i64 50] h = some (.ret (.int .i64 (pc 50 : Nat)), h) := run_of (n := 20) (by kernel_rfl)
theorem size51 (h : AHeap) : run C0 27 [.int .i64 51] h = some (.ret (.int .i64 (pc 51 : Nat)), h) := run_of (n := 20) (by kernel_rfl)
theorem size52 (h : AHeap) : run C0 27 [.int .i64 52] h = some (.ret (.int .i64 (pc 52 : Nat)), h) := run_of (n := 20) (by kernel_rfl)
theorem size53 (h : AHeap) : run C0 27 [.int .i64 53] h = some (.ret (.int .i64 (pc 53 : Nat)), h) := run_of (n := 20) (by kernel_rfl)
theorem size54 (h : AHeap) : run C0 27 [.int .i64 54] h = some (.ret (.int .i64 (pc 54 : Nat)), h) := run_of (n := 20) (by kernel_rfl)
theorem size55 (h : AHeap) : run C0 27 [.int .i64 55] h = some (.ret (.int .i64 (pc 55 : Nat)), h) := run_of (n := 20) (by kernel_rfl)
theorem size56 (h : AHeap) : run C0 27 [.int .i64 56] h = some (.ret (.int .i64 (pc 56 : Nat)), h) := run_of (n := 20) (by kernel_rfl)
theorem size57 (h : AHeap) : run C0 27 [.int .i64 57] h = some (.ret (.int .i64 (pc 57 : Nat)), h) := run_of (n := 20) (by kernel_rfl)
theorem size58 (h : AHeap) : run C0 27 [.int .i64 58] h = some (.ret (.int .i64 (pc 58 : Nat)), h) := run_of (n := 20) (by kernel_rfl)
theorem size59 (h : AHeap) : run C0 27 [.int .i64 59] h = some (.ret (.int .i64 (pc 59 : Nat)), h) := run_of (n := 20) (by kernel_rfl)
theorem size60 (h : AHeap) : run C0 27 [.int .i64 60] h = some (.ret (.int .i64 (pc 60 : Nat)), h) := run_of (n := 20) (by kernel_rfl)
theorem size61 (h : AHeap) : run C0 27 [.int .i64 61] h = some (.ret (.int .i64 (pc 61 : Nat)), h) := run_of (n := 20) (by kernel_rfl)
theorem size62 (h : AHeap) : run C0 27 [.int .i64 62] h = some (.ret (.int .i64 (pc 62 : Nat)), h) := run_of (n := 20) (by kernel_rfl)
theorem size63 (h : AHeap) : run C0 27 [.int .i64 63] h = some (.ret (.int .i64 (pc 63 : Nat)), h) := run_of (n := 20) (by kernel_rfl)
theorem size_run (h : AHeap) : ∀ {n : Nat}, n < 64 → run C0 27 [.int .i64 n] h = some (.ret (.int .i64 (pc n : Nat)), h)
  | 0, _ => size0 h
  | 1, _ => size1 h
  | 2, _ => size2 h
  | 3, _ => size3 h
  | 4, _ => size4 h
  | 5, _ => size5 h
  | 6, _ => size6 h
  | 7, _ => size7 h
  | 8, _ => size8 h
  | 9, _ => size9 h
  | 10, _ => size10 h
  | 11, _ => size11 h
  | 12, _ => size12 h
  | 13, _ => size13 h
  | 14, _ => size14 h
  | 15, _ => size15 h
  | 16, _ => size16 h
  | 17, _ => size17 h
  | 18, _ => size18 h
  | 19, _ => size19 h
  | 20, _ => size20 h
  | 21, _ => size21 h
  | 22, _ => size22 h
  | 23, _ => size23 h
  | 24, _ => size24 h
  | 25, _ => size25 h
  | 26, _ => size26 h
  | 27, _ => size27 h
  | 28, _ => size28 h
  | 29, _ => size29 h
  | 30, _ => size30 h
  | 31, _ => size31 h
  | 32, _ => size32 h
  | 33, _ => size33 h
  | 34, _ => size34 h
  | 35, _ => size35 h
  | 36, _ => size36 h
  | 37, _ => size37 h
  | 38, _ => size38 h
  | 39, _ => size39 h
  | 40, _ => size40 h
  | 41, _ => size41 h
  | 42, _ => size42 h
  | 43, _ => size43 h
  | 44, _ => size44 h
  | 45, _ => size45 h
  | 46, _ => size46 h
  | 47, _ => size47 h
  | 48, _ => size48 h
  | 49, _ => size49 h
  | 50, _ => size50 h
  | 51, _ => size51 h
  | 52, _ => size52 h
  | 53, _ => size53 h
  | 54, _ => size54 h
  | 55, _ => size55 h
  | 56, _ => size56 h
  | 57, _ => size57 h
  | 58, _ => size58 h
  | 59, _ => size59 h
  | 60, _ => size60 h
  | 61, _ => size61 h
  | 62, _ => size62 h
  | 63, _ => size63 h
  | n + 64, hx => absurd hx (by omega)
theorem nan_run (h : AHeap) (x : Int) : run C0 41 [.int .i64 x] h = some (.ret (.bool false), h) := by
  obtain ⟨a0, ha0⟩ : ∃ a0, a0 = slots Try.f41 [.int .i64 x] := ⟨_, rfl⟩
  have hl : a0.length = 6 := by rw [ha0]; rfl
  have i0 : a0[0]? = some (.int .i64 x) := by rw [ha0]; rfl
  have p : ∃ t, ex C0 (bodyOf Try.f41) ⟨a0, h⟩ = some (.ret, ⟨t, h⟩) ∧ t[2]? = some (.bool false) := by
    simp only [bodyOf, Try.f41, Cat, Bool.false_eq_true, e_seq, e_region, e_cond, e_block, ex_skip, ex_exit, ex_ret, o_cons, xops_nil, k_want_none, k_want_false, k_val, k_pan, k_call, k_ret, k_seq, k_seq_exit, k_seq_ret, k_true, k_false, k_block, k_block_exit, k_block_ret, k_loop, k_loop_exit, k_loop_ret, awanted, aoper, evalO, put, Option.getD_some, List.getElem?_set, acallOp, abuiltin, List.map_cons, List.map_nil, Nat.reduceEqDiff, Nat.reduceLT, List.length_set, Option.map_some, Option.bind_some, Option.bind_eq_bind, add_i, sub_i, mul_i, eql_i, neq_i, lss_i, leq_i, gtr_i, geq_i, ofV, ofCell, ↓reduceIte, List.cons_append, List.nil_append, List.append_nil, List.getElem?_toArray, List.getElem?_cons_succ, List.getElem?_cons_zero, e_draw, g_nil, g_cons, g_want, g_skip, g_val, g_call, g_ret, Option.map_none, hl, i0, bne_self_eq_false]
    exact ⟨_, rfl, by simp [hl]⟩
  obtain ⟨t, e, t2⟩ := p
  exact fn_run (fn := Try.f41) (x := .ret) Try.func41 rfl rfl rfl (.inl rfl) (by rw [← ha0]; exact e) (vs := [_]) (by simp only [show Try.f41.results.toList = [ResultVar.tmp 2] from rfl, aresults, ares1, t2]; rfl)
def cmpI (a b : Int) : Int := if a < b then -1 else if a > b then 1 else 0
theorem cmp_run (h : AHeap) (a b : Int) : run C0 26 [.int .i64 a, .int .i64 b] h = some (.ret (.int .i64 (cmpI a b)), h) := by
  obtain ⟨a0, ha0⟩ : ∃ a0, a0 = slots Try.f26 [.int .i64 a, .int .i64 b] := ⟨_, rfl⟩
  have hl : a0.length = 20 := by rw [ha0]; rfl
  have i0 : a0[0]? = some (.int .i64 a) := by rw [ha0]; rfl
  have i1 : a0[1]? = some (.int .i64 b) := by rw [ha0]; rfl
  have p : ∃ t, ex C0 (bodyOf Try.f26) ⟨a0, h⟩ = some (.ret, ⟨t, h⟩) ∧ t[4]? = some (.int .i64 (cmpI a b)) := by
    by_cases c1 : a < b
    · have c1' : decide (a < b) = true := by simpa using c1
      simp only [bodyOf, Try.f26, Cat, Bool.false_eq_true, e_seq, e_region, e_cond, e_block, ex_skip, ex_exit, ex_ret, o_cons, xops_nil, k_want_none, k_want_false, k_val, k_pan, k_call, k_ret, k_seq, k_seq_exit, k_seq_ret, k_true, k_false, k_block, k_block_exit, k_block_ret, k_loop, k_loop_exit, k_loop_ret, awanted, aoper, evalO, put, Option.getD_some, List.getElem?_set, acallOp, abuiltin, List.map_cons, List.map_nil, Nat.reduceEqDiff, Nat.reduceLT, List.length_set, Option.map_some, Option.bind_some, Option.bind_eq_bind, add_i, sub_i, mul_i, eql_i, neq_i, lss_i, leq_i, gtr_i, geq_i, ofV, ofCell, ↓reduceIte, List.cons_append, List.nil_append, List.append_nil, List.getElem?_toArray, List.getElem?_cons_succ, List.getElem?_cons_zero, e_draw, g_nil, g_cons, g_want, g_skip, g_val, g_call, g_ret, Option.map_none, hl, i0, i1, nan_run, c1']
      exact ⟨_, rfl, by simp [hl, cmpI, c1]⟩
    · have c1' : decide (a < b) = false := by simpa using c1
      by_cases c2 : a > b
      · have c2' : decide (a > b) = true := by simpa using c2
        simp only [bodyOf, Try.f26, Cat, Bool.false_eq_true, e_seq, e_region, e_cond, e_block, ex_skip, ex_exit, ex_ret, o_cons, xops_nil, k_want_none, k_want_false, k_val, k_pan, k_call, k_ret, k_seq, k_seq_exit, k_seq_ret, k_true, k_false, k_block, k_block_exit, k_block_ret, k_loop, k_loop_exit, k_loop_ret, awanted, aoper, evalO, put, Option.getD_some, List.getElem?_set, acallOp, abuiltin, List.map_cons, List.map_nil, Nat.reduceEqDiff, Nat.reduceLT, List.length_set, Option.map_some, Option.bind_some, Option.bind_eq_bind, add_i, sub_i, mul_i, eql_i, neq_i, lss_i, leq_i, gtr_i, geq_i, ofV, ofCell, ↓reduceIte, List.cons_append, List.nil_append, List.append_nil, List.getElem?_toArray, List.getElem?_cons_succ, List.getElem?_cons_zero, e_draw, g_nil, g_cons, g_want, g_skip, g_val, g_call, g_ret, Option.map_none, hl, i0, i1, nan_run, c1', c2']
        exact ⟨_, rfl, by simp [hl, cmpI, c1, c2]⟩
      · have c2' : decide (a > b) = false := by simpa using c2
        simp only [bodyOf, Try.f26, Cat, Bool.false_eq_true, e_seq, e_region, e_cond, e_block, ex_skip, ex_exit, ex_ret, o_cons, xops_nil, k_want_none, k_want_false, k_val, k_pan, k_call, k_ret, k_seq, k_seq_exit, k_seq_ret, k_true, k_false, k_block, k_block_exit, k_block_ret, k_loop, k_loop_exit, k_loop_ret, awanted, aoper, evalO, put, Option.getD_some, List.getElem?_set, acallOp, abuiltin, List.map_cons, List.map_nil, Nat.reduceEqDiff, Nat.reduceLT, List.length_set, Option.map_some, Option.bind_some, Option.bind_eq_bind, add_i, sub_i, mul_i, eql_i, neq_i, lss_i, leq_i, gtr_i, geq_i, ofV, ofCell, ↓reduceIte, List.cons_append, List.nil_append, List.append_nil, List.getElem?_toArray, List.getElem?_cons_succ, List.getElem?_cons_zero, e_draw, g_nil, g_cons, g_want, g_skip, g_val, g_call, g_ret, Option.map_none, hl, i0, i1, nan_run, c1', c2']
        exact ⟨_, rfl, by simp [hl, cmpI, c1, c2]⟩
  obtain ⟨t, e, t4⟩ := p
  exact fn_run (fn := Try.f26) (x := .ret) Try.func26 rfl rfl rfl (.inl rfl) (by rw [← ha0]; exact e) (vs := [_]) (by simp only [show Try.f26.results.toList = [ResultVar.tmp 4] from rfl, aresults, ares1, t4]; rfl)
theorem more_run (h : AHeap) {a b : Nat} (ha : a < 64) (hb : b < 64) : run C0 25 [.int .i64 a, .int .i64 b] h = some (.ret (.int .i64 (cmpI (pc b : Nat) (pc a : Nat))), h) := by
  obtain ⟨a0, ha0⟩ : ∃ a0, a0 = slots Try.f25 [.int .i64 (a : Int), .int .i64 (b : Int)] := ⟨_, rfl⟩
  have hl : a0.length = 10 := by rw [ha0]; rfl
  have i0 : a0[0]? = some (.int .i64 a) := by rw [ha0]; rfl
  have i1 : a0[1]? = some (.int .i64 b) := by rw [ha0]; rfl
  have p : ∃ t, ex C0 (bodyOf Try.f25) ⟨a0, h⟩ = some (.ret, ⟨t, h⟩) ∧ t[4]? = some (.int .i64 (cmpI (pc b : Nat) (pc a : Nat))) := by
    simp only [bodyOf, Try.f25, Cat, Bool.false_eq_true, e_seq, e_region, e_cond, e_block, ex_skip, ex_exit, ex_ret, o_cons, xops_nil, k_want_none, k_want_false, k_val, k_pan, k_call, k_ret, k_seq, k_seq_exit, k_seq_ret, k_true, k_false, k_block, k_block_exit, k_block_ret, k_loop, k_loop_exit, k_loop_ret, awanted, aoper, evalO, put, Option.getD_some, List.getElem?_set, acallOp, abuiltin, List.map_cons, List.map_nil, Nat.reduceEqDiff, Nat.reduceLT, List.length_set, Option.map_some, Option.bind_some, Option.bind_eq_bind, add_i, sub_i, mul_i, eql_i, neq_i, lss_i, leq_i, gtr_i, geq_i, ofV, ofCell, ↓reduceIte, List.cons_append, List.nil_append, List.append_nil, List.getElem?_toArray, List.getElem?_cons_succ, List.getElem?_cons_zero, e_draw, g_nil, g_cons, g_want, g_skip, g_val, g_call, g_ret, Option.map_none, hl, i0, i1, size_run h ha, size_run h hb, cmp_run]
    exact ⟨_, rfl, by simp [hl]⟩
  obtain ⟨t, e, t4⟩ := p
  exact fn_run (fn := Try.f25) (x := .ret) Try.func25 rfl rfl rfl (.inl rfl) (by rw [← ha0]; exact e) (vs := [_]) (by simp only [show Try.f25.results.toList = [ResultVar.tmp 4] from rfl, aresults, ares1, t4]; rfl)

def sum25 : List AVal → Option AVal
  | [.int .i64 a, .int .i64 b] => if (0 ≤ a ∧ a < 64) ∧ (0 ≤ b ∧ b < 64) then some (.int .i64 (cmpI (pc b.toNat : Nat) (pc a.toNat : Nat))) else none
  | _ => none
theorem calls25 {a b : Nat} (ha : a < 64) (hb : b < 64) {B : Nat} {h : AHeap} {g : G} (I : Am.Inv B h g) : Calls Try.prog 25 #[.int .i64 a, .int .i64 b] g.w (ResOk B h g h (.ret (.int .i64 (cmpI (pc b : Nat) (pc a : Nat))))) := by
  obtain ⟨n, hn⟩ := of_run (more_run h ha hb)
  cases n with
  | zero => simp [arun] at hn
  | succ n => exact call_calls (C := C0) names mixed summ0 (f := 25) (fn := Try.f25) rfl rfl rfl rfl I (fun gi cells hg => by cases hg) (.cons (.int _ _) (.cons (.int _ _) .nil)) hn
end Go.Proofs.Cube
