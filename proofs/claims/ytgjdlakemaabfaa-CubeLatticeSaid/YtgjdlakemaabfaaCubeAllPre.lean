/-
  CUBE: the program's All, up to its loop.
-/
import Derived.Test.YtgjdlakemaabfaaCubeRefAll
set_option linter.unusedVariables false
set_option linter.unusedSimpArgs false
set_option linter.unusedSimpArgs false
set_option linter.unusedVariables false
set_option maxRecDepth 100000
namespace Go.Proofs.Cube
open Go Go.Am Go.Proofs Go.RowKit

theorem min6 {d : Int} {k : Nat} (hk : keepI d = (k : Int)) (h : AHeap) : abuiltin Cf false .min [3, 3] h [(if (0 : Int) > d then AVal.int .i64 0 else AVal.int .i64 d), .int .i64 6] = some (.int .i64 k, h) := by
  unfold keepI at hk
  split at hk
  · rw [if_pos (by omega)]
    obtain rfl : k = 0 := by omega
    rfl
  · split at hk
    · rw [if_neg (by omega)]
      obtain rfl : k = 6 := by omega
      simp only [abuiltin, foldMax, max2A, Option.bind_eq_bind, Option.bind_some, Option.map_some]
      rw [if_neg (by simp), if_pos (by omega)]; rfl
    · rw [if_neg (by omega)]
      simp only [abuiltin, foldMax, max2A, Option.bind_eq_bind, Option.bind_some, Option.map_some]
      rw [if_neg (by simp), if_neg (by omega), hk]
theorem max0 (d : Int) (h : AHeap) : abuiltin Cf false .max [3, 3] h [.int .i64 d, .int .i64 0] = some ((if (0 : Int) > d then AVal.int .i64 0 else AVal.int .i64 d), h) := by
  simp only [abuiltin, foldMax, max2A, Option.bind_eq_bind, Option.bind_some, Option.map_some, if_true]
  split <;> rfl
theorem below_run (h : AHeap) {d : Int} {k : Nat} (hk : keepI d = (k : Int)) : run Cf 23 [.int .i64 d] h = some (.ret (.int .i64 ((2 : Int) ^ k - 1)), h) := by
  obtain ⟨a0, ha0⟩ : ∃ a0, a0 = slots Try.f23 [.int .i64 d] := ⟨_, rfl⟩
  have hl : a0.length = 8 := by rw [ha0]; rfl
  have i0 : a0[0]? = some (.int .i64 d) := by rw [ha0]; rfl
  have hk6 := keep_le d
  have hsh : ∀ (xo yo : Operand), abin Cf .shl 3 xo yo h (.int .i64 1) (.int .i64 (k : Int)) = some (.int .i64 ((2 : Int) ^ k)) := by
    intro xo yo
    obtain rfl | rfl | rfl | rfl | rfl | rfl | rfl : k = 0 ∨ k = 1 ∨ k = 2 ∨ k = 3 ∨ k = 4 ∨ k = 5 ∨ k = 6 := by omega
    all_goals kernel_rfl
  have hw : IntKind.i64.wrap ((2 : Int) ^ k - 1) = (2 : Int) ^ k - 1 := by
    obtain rfl | rfl | rfl | rfl | rfl | rfl | rfl : k = 0 ∨ k = 1 ∨ k = 2 ∨ k = 3 ∨ k = 4 ∨ k = 5 ∨ k = 6 := by omega
    all_goals rfl
  have own37 : Cf.own "cube.go:37" = false := by kernel_rfl
  have p : ∃ t, ex Cf (bodyOf Try.f23) ⟨a0, h⟩ = some (.ret, ⟨t, h⟩) ∧ t[2]? = some (.int .i64 ((2 : Int) ^ k - 1)) := by
    have mn := fun own => show abuiltin Cf own .min [3, 3] h [(if (0 : Int) > d then AVal.int .i64 0 else AVal.int .i64 d), .int .i64 6] = some (.int .i64 k, h) from min6 hk h
    have mx := fun own => show abuiltin Cf own .max [3, 3] h [.int .i64 d, .int .i64 0] = some ((if (0 : Int) > d then AVal.int .i64 0 else AVal.int .i64 d), h) from max0 d h
    have e1 : ∃ v, v = (if (0 : Int) > d then AVal.int .i64 0 else AVal.int .i64 d) := ⟨_, rfl⟩
    obtain ⟨v, hv⟩ := e1
    rw [← hv] at mn mx
    have mn' : foldMax false v [.int .i64 6] = some (.int .i64 k) := by
      have := mn false
      simp only [abuiltin, Option.map_eq_some_iff] at this
      obtain ⟨a, ha, hb⟩ := this
      cases hb; exact ha
    have mx' : foldMax true (.int .i64 d) [.int .i64 0] = some v := by
      have := mx false
      simp only [abuiltin, Option.map_eq_some_iff] at this
      obtain ⟨a, ha, hb⟩ := this
      cases hb; exact ha
    simp only [bodyOf, Try.f23, Cat, Bool.false_eq_true, e_seq, e_region, e_cond, e_block, ex_skip, ex_exit, ex_ret, o_cons, xops_nil, k_want_none, k_want_false, k_val, k_pan, k_call, k_ret, k_seq, k_seq_exit, k_seq_ret, k_true, k_false, k_block, k_block_exit, k_block_ret, k_loop, k_loop_exit, k_loop_ret, awanted, aoper, evalO, put, Option.getD_some, List.getElem?_set, acallOp, abuiltin, List.map_cons, List.map_nil, Nat.reduceEqDiff, Nat.reduceLT, List.length_set, Option.map_some, Option.bind_some, Option.bind_eq_bind, add_i, sub_i, mul_i, eql_i, neq_i, lss_i, leq_i, gtr_i, geq_i, ofV, ofCell, ↓reduceIte, List.cons_append, List.nil_append, List.append_nil, List.getElem?_toArray, List.getElem?_cons_succ, List.getElem?_cons_zero, e_draw, g_nil, g_cons, g_want, g_skip, g_val, g_call, g_ret, Option.map_none, hl, i0, own37, mx', mn', hsh, hw]
    exact ⟨_, rfl, by simp [hl]⟩
  obtain ⟨t, e, t2⟩ := p
  exact fn_run (fn := Try.f23) (x := .ret) Try.func23 rfl rfl rfl (.inl rfl) (by rw [← ha0]; exact e) (vs := [_]) (by simp only [show Try.f23.results.toList = [ResultVar.tmp 2] from rfl, aresults, ares1, t2]; rfl)

/-- the state ahead of All's loop -/
def S9 (d : Int) (n : Nat) : ASt := ⟨[.int .i64 d, .top, .nilSl, .sl 0 0 1 0 n false, .top, .int .i64 d, .int .i64 ((n : Int) - 1), .int .i64 n, .sl 0 0 1 0 n false, .int .i64 d, .int .i64 ((n : Int) - 1), .int .i64 n, .int .i64 0, .top, .top, .top, .top, .top, .top, .top, .top, .top, .top], ⟨fun j => if j = 0 then some (.arr (zerosA [.int .i64 0] n)) else none, 1⟩⟩
theorem own41 : Cf.own "cube.go:41" = true := by kernel_rfl
def H9 (n : Nat) : AHeap := ⟨fun j => if j = 0 then some (.arr (zerosA [.int .i64 0] n)) else none, 1⟩
theorem mk9 (ev : Operand → AVal) (n : Nat) (hn : n ≤ 64) (a b : Operand) (ha : ev a = .int .i64 0) (hb : ev b = .int .i64 (n : Int)) {dst ty after} :
    aoper Cf ev bare { dst := dst, op := .makeSlice 24 a b, type := ty, pos := "cube.go:41", after := after, guard := none } = some (.val (.sl 0 0 1 0 n false) (H9 n)) := by
  simp only [aoper, ha, hb]
  rw [show Cf.P.underlying 24 = some (.slice 3) from rfl]
  simp only
  obtain ⟨i, hi, h1, h2⟩ : ∃ i, Cf.P.info? 3 = some i ∧ i.size = 1 ∧ i.bytes = 8 := ⟨_, rfl, rfl, rfl⟩
  rw [hi, show zeroA Cf.P 3 = some (.int .i64 0) by kernel_rfl]
  simp only [Option.bind_eq_bind, Option.bind_some, h1, h2, own41]
  rw [if_pos ⟨by omega, by omega, by omega, by omega, rfl, by decide⟩, if_neg (by simp)]
  rfl
theorem pre_run (d : Int) {k : Nat} (hkk : keepI d = (k : Int)) (hk6 : k ≤ 6) : ∃ s0, ex Cf (Cat [false] (bodyOf Try.f9)) ⟨slots Try.f9 [.int .i64 d], bare⟩ = some (.normal, s0) ∧ ∃ s1, ex Cf (Cat [true, false] (bodyOf Try.f9)) s0 = some (.normal, s1) ∧ ex Cf (Cat [true, true, false, false] (bodyOf Try.f9)) s1 = some (.normal, S9 d (2 ^ k)) := by
  have hb := fun h => below_run h hkk
  have hw : IntKind.i64.wrap ((2 : Int) ^ k - 1 + 1) = ((2 ^ k : Nat) : Int) := by
    obtain rfl | rfl | rfl | rfl | rfl | rfl | rfl : k = 0 ∨ k = 1 ∨ k = 2 ∨ k = 3 ∨ k = 4 ∨ k = 5 ∨ k = 6 := by omega
    all_goals rfl
  have hp : (2 : Int) ^ k - 1 = ((2 ^ k : Nat) : Int) - 1 := by push_cast; rfl
  have hn : 2 ^ k ≤ 64 := Nat.pow_le_pow_right (n := 2) (by decide) hk6
  rw [hp] at hb hw
  obtain ⟨n, hnn⟩ : ∃ n, n = 2 ^ k := ⟨_, rfl⟩
  rw [← hnn] at hb hw hn ⊢
  have e0 : slots Try.f9 [.int .i64 d] = [.int .i64 d, .top, .top, .top, .top, .top, .top, .top, .top, .top, .top, .top, .top, .top, .top, .top, .top, .top, .top, .top, .top, .top, .top] := rfl
  rw [e0]
  refine ⟨⟨[.int .i64 d, .top, .nilSl, .top, .top, .top, .top, .top, .top, .top, .top, .top, .top, .top, .top, .top, .top, .top, .top, .top, .top, .top, .top], bare⟩, ?_, ⟨[.int .i64 d, .top, .nilSl, .sl 0 0 1 0 n false, .top, .int .i64 d, .int .i64 ((n : Int) - 1), .int .i64 n, .sl 0 0 1 0 n false, .top, .top, .top, .top, .top, .top, .top, .top, .top, .top, .top, .top, .top, .top], H9 n⟩, ?_, ?_⟩
  · simp only [bodyOf, Try.f9, Cat, Bool.false_eq_true, e_seq, e_region, e_cond, e_block, ex_skip, ex_exit, ex_ret, o_cons, xops_nil, k_want_none, k_want_false, k_val, k_pan, k_call, k_ret, k_seq, k_seq_exit, k_seq_ret, k_true, k_false, k_block, k_block_exit, k_block_ret, k_loop, k_loop_exit, k_loop_ret, awanted, aoper, evalO, put, Option.getD_some, List.getElem?_set, acallOp, abuiltin, List.map_cons, List.map_nil, Nat.reduceEqDiff, Nat.reduceLT, List.length_set, Option.map_some, Option.bind_some, Option.bind_eq_bind, add_i, sub_i, mul_i, eql_i, neq_i, lss_i, leq_i, gtr_i, geq_i, ofV, ofCell, ↓reduceIte, List.cons_append, List.nil_append, List.append_nil, List.getElem?_toArray, List.getElem?_cons_succ, List.getElem?_cons_zero, e_draw, g_nil, g_cons, g_want, g_skip, g_val, g_call, g_ret, Option.map_none, List.set_cons_succ, List.set_cons_zero]
  · have mk := mk9 (evalO Cf [.int .i64 d, .top, .nilSl, .top, .top, .int .i64 d, .int .i64 ((n : Int) - 1), .int .i64 n, .top, .top, .top, .top, .top, .top, .top, .top, .top, .top, .top, .top, .top, .top, .top]) n hn (.const (.int .i64 0)) (.tmp 7) rfl rfl (dst := some 8) (ty := 24) (after := #[{ on := 2, ground := Ground.data }])
    simp only [bodyOf, Try.f9, Cat, Bool.false_eq_true, e_seq, e_region, e_cond, e_block, ex_skip, ex_exit, ex_ret, o_cons, xops_nil, k_want_none, k_want_false, k_val, k_pan, k_call, k_ret, k_seq, k_seq_exit, k_seq_ret, k_true, k_false, k_block, k_block_exit, k_block_ret, k_loop, k_loop_exit, k_loop_ret, awanted, aoper, evalO, put, Option.getD_some, List.getElem?_set, acallOp, abuiltin, List.map_cons, List.map_nil, Nat.reduceEqDiff, Nat.reduceLT, List.length_set, Option.map_some, Option.bind_some, Option.bind_eq_bind, add_i, sub_i, mul_i, eql_i, neq_i, lss_i, leq_i, gtr_i, geq_i, ofV, ofCell, ↓reduceIte, List.cons_append, List.nil_append, List.append_nil, List.getElem?_toArray, List.getElem?_cons_succ, List.getElem?_cons_zero, e_draw, g_nil, g_cons, g_want, g_skip, g_val, g_call, g_ret, Option.map_none, hb, hw, List.set_cons_succ, List.set_cons_zero]
    refine (congrArg (stepK Cf _ _ _ _) mk).trans ?_
    simp only [Bool.false_eq_true, e_seq, e_region, e_cond, e_block, ex_skip, ex_exit, ex_ret, o_cons, xops_nil, k_want_none, k_want_false, k_val, k_pan, k_call, k_ret, k_seq, k_seq_exit, k_seq_ret, k_true, k_false, k_block, k_block_exit, k_block_ret, k_loop, k_loop_exit, k_loop_ret, awanted, aoper, evalO, put, Option.getD_some, List.getElem?_set, acallOp, abuiltin, List.map_cons, List.map_nil, Nat.reduceEqDiff, Nat.reduceLT, List.length_set, Option.map_some, Option.bind_some, Option.bind_eq_bind, add_i, sub_i, mul_i, eql_i, neq_i, lss_i, leq_i, gtr_i, geq_i, ofV, ofCell, ↓reduceIte, List.cons_append, List.nil_append, List.append_nil, List.getElem?_toArray, List.getElem?_cons_succ, List.getElem?_cons_zero, e_draw, g_nil, g_cons, g_want, g_skip, g_val, g_call, g_ret, Option.map_none, List.set_cons_succ, List.set_cons_zero]
  · simp only [bodyOf, Try.f9, Cat, Bool.false_eq_true, e_seq, e_region, e_cond, e_block, ex_skip, ex_exit, ex_ret, o_cons, xops_nil, k_want_none, k_want_false, k_val, k_pan, k_call, k_ret, k_seq, k_seq_exit, k_seq_ret, k_true, k_false, k_block, k_block_exit, k_block_ret, k_loop, k_loop_exit, k_loop_ret, awanted, aoper, evalO, put, Option.getD_some, List.getElem?_set, acallOp, abuiltin, List.map_cons, List.map_nil, Nat.reduceEqDiff, Nat.reduceLT, List.length_set, Option.map_some, Option.bind_some, Option.bind_eq_bind, add_i, sub_i, mul_i, eql_i, neq_i, lss_i, leq_i, gtr_i, geq_i, ofV, ofCell, ↓reduceIte, List.cons_append, List.nil_append, List.append_nil, List.getElem?_toArray, List.getElem?_cons_succ, List.getElem?_cons_zero, e_draw, g_nil, g_cons, g_want, g_skip, g_val, g_call, g_ret, Option.map_none, hb, hw, List.set_cons_succ, List.set_cons_zero]
    rfl
end Go.Proofs.Cube
