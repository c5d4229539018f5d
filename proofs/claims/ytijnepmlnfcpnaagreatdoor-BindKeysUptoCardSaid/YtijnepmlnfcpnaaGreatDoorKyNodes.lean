/-
  PLAN: how many nodes a test has, or more than there may be (bind.nodes: a closure that calls itself).
-/
import Derived.Test.YtijnepmlnfcpnaaGreatDoorKyFns
set_option linter.unusedVariables false
set_option linter.unusedSimpArgs false
set_option linter.unusedSimpArgs false
set_option linter.unusedVariables false
set_option maxRecDepth 100000
namespace Go.Proofs.Ky
open Go Go.Am Go.Proofs

def walkN : TestT → Nat → Nat
  | .nil, n => n
  | .mk _ l r _ _ _ _ _, n => if n > 4096 then n else walkN r (walkN l (n + 1))
theorem walk_le : ∀ (x : TestT) (n : Nat), n ≤ 4097 → walkN x n ≤ 4097
  | .nil, n, h => h
  | .mk _ l r _ _ _ _ _, n, h => by
    unfold walkN
    split
    · exact h
    · exact walk_le r _ (walk_le l _ (by omega))
theorem own_b : Cl.own "bind.go:192" = false ∧ Cl.own "bind.go:193" = false ∧ Cl.own "bind.go:194" = false := by refine ⟨?_, ?_, ?_⟩ <;> kernel_rfl
namespace Uy
theorem ld3 (h : AHeap) (p : AVal) : aload Tryz.prog h 3 p = loadA h false 1 p := by kernel_rfl
theorem st3 (h : AHeap) (p v : AVal) : astore Tryz.prog h 3 p v = storeA h 1 p v := by kernel_rfl
theorem ld70 (h : AHeap) (p : AVal) : aload Tryz.prog h 129 p = loadA h false 1 p := by kernel_rfl
theorem st70 (h : AHeap) (p v : AVal) : astore Tryz.prog h 129 p v = storeA h 1 p v := by kernel_rfl
theorem ld34 (h : AHeap) (p : AVal) : aload Tryz.prog h 32 p = loadA h false 1 p := by kernel_rfl
theorem fa1 (p : AVal) : afieldAddr Tryz.prog 57 p 1 = dropCells 1 p := by kernel_rfl
theorem fa2 (p : AVal) : afieldAddr Tryz.prog 57 p 2 = dropCells 2 p := by kernel_rfl
theorem eqn (xo : Operand) (h : AHeap) : abin Cl .eql 32 xo (.const (.pointer none)) h .nilPtr .nilPtr = some (.bool true) := by kernel_rfl
theorem eqp (xo yo : Operand) (h : AHeap) (c : List AVal) : abin Cl .eql 32 xo yo h (.iptr c) .nilPtr = some (.bool false) := by kernel_rfl
theorem z3 : zeroA Tryz.prog 3 = some (.int .i64 0) := by kernel_rfl
theorem z70 : zeroA Tryz.prog 129 = some .nilFn := by kernel_rfl
end Uy
theorem set_set (h : AHeap) (a : Nat) (x y : Option ABlk) : (h.set a x).set a y = h.set a y := by
  unfold AHeap.set
  simp only [AHeap.mk.injEq, and_true]
  funext j
  split <;> rfl
theorem nil_call (a b : Nat) (n : Nat) (h : AHeap) (ha : h.get a = some (.arr [.int .i64 n])) : run Cl 142 [.nilPtr, .ptr a 0, .ptr b 0] h = some (.ret (.tup []), h) := by
  obtain ⟨a0, ha0⟩ : ∃ a0, a0 = slots Tryz.f142 [.nilPtr, .ptr a 0, .ptr b 0] := ⟨_, rfl⟩
  have hl : a0.length = 24 := by rw [ha0]; rfl
  have i0 : a0[0]? = some .nilPtr := by rw [ha0]; rfl
  have p : ∃ t, ex Cl (bodyOf Tryz.f142) ⟨a0, h⟩ = some (.ret, ⟨t, h⟩) := by
    simp only [bodyOf, Tryz.f142, Cat, Bool.false_eq_true, e_seq, e_region, e_cond, e_block, ex_skip, ex_exit, ex_ret, o_cons, xops_nil, k_want_none, k_want_false, k_val, k_pan, k_call, k_ret, k_seq, k_seq_exit, k_seq_ret, k_true, k_false, k_block, k_block_exit, k_block_ret, k_loop, k_loop_exit, k_loop_ret, awanted, aoper, evalO, put, Option.getD_some, List.getElem?_set, acallOp, abuiltin, List.map_cons, List.map_nil, Nat.reduceEqDiff, Nat.reduceLT, List.length_set, Option.map_some, Option.bind_some, Option.bind_eq_bind, add_i, sub_i, mul_i, eql_i, neq_i, lss_i, leq_i, gtr_i, geq_i, ofV, ofCell, ↓reduceIte, List.cons_append, List.nil_append, List.append_nil, List.getElem?_toArray, List.getElem?_cons_succ, List.getElem?_cons_zero, e_draw, g_nil, g_cons, g_want, g_skip, g_val, g_call, g_ret, Option.map_none, hl, i0, CP, Uy.eqn, bq1, bq2, bq3, bq4]
    exact ⟨_, rfl⟩
  obtain ⟨t, e⟩ := p
  exact fn_run (fn := Tryz.f142) (x := .ret) Tryz.func142 rfl rfl rfl (.inl rfl) (by rw [← ha0]; exact e) (vs := []) rfl
theorem walk_run : ∀ (x : TestT) (v : AVal) (hx : rTestT x [v]) (n : Nat) (hn : n ≤ 4097) (h : AHeap) (a b : Nat) (hab : a ≠ b) (ha : h.get a = some (.arr [.int .i64 n])) (hb : h.get b = some (.arr [.fn (.func 142) [] [.ptr a 0, .ptr b 0]])),
    run Cl 142 [v, .ptr a 0, .ptr b 0] h = some (.ret (.tup []), h.set a (some (.arr [.int .i64 (walkN x n : Nat)]))) := by
  intro x
  induction x with
  | nil =>
    intro v hx n hn h a b hab ha hb
    cases hx
    rw [show walkN .nil n = n from rfl, Heap.set_same ha]
    exact nil_call a b n h ha
  | mk k l r m i o ts is ihl ihr =>
    intro v hx n hn h a b hab ha hb
    obtain ⟨vl, vr, vt, vi, hv, hl0, hr0, ht0, hi0⟩ := hx
    cases hv
    obtain ⟨a0, ha0⟩ : ∃ a0, a0 = slots Tryz.f142 [.iptr [.int .i64 k, vl, vr, .bool m, .int .i64 i, .int .i64 o, vt, vi], .ptr a 0, .ptr b 0] := ⟨_, rfl⟩
    have hl : a0.length = 24 := by rw [ha0]; rfl
    have i0 : a0[0]? = some (.iptr [.int .i64 k, vl, vr, .bool m, .int .i64 i, .int .i64 o, vt, vi]) := by rw [ha0]; rfl
    have i1 : a0[1]? = some (.ptr a 0) := by rw [ha0]; rfl
    have i2 : a0[2]? = some (.ptr b 0) := by rw [ha0]; rfl
    have lda : loadA h false 1 (.ptr a 0) = some (.int .i64 n) := Heap.load_at ha rfl
    have ldb : loadA h false 1 (.ptr b 0) = some (.fn (.func 142) [] [.ptr a 0, .ptr b 0]) := Heap.load_at hb rfl
    unfold walkN
    by_cases hc : n > 4096
    · rw [if_pos hc, Heap.set_same ha]
      have hg : decide ((n : Int) > 4096) = true := by simp; omega
      have p : ∃ t, ex Cl (bodyOf Tryz.f142) ⟨a0, h⟩ = some (.ret, ⟨t, h⟩) := by
        simp only [bodyOf, Tryz.f142, Cat, Bool.false_eq_true, e_seq, e_region, e_cond, e_block, ex_skip, ex_exit, ex_ret, o_cons, xops_nil, k_want_none, k_want_false, k_val, k_pan, k_call, k_ret, k_seq, k_seq_exit, k_seq_ret, k_true, k_false, k_block, k_block_exit, k_block_ret, k_loop, k_loop_exit, k_loop_ret, awanted, aoper, evalO, put, Option.getD_some, List.getElem?_set, acallOp, abuiltin, List.map_cons, List.map_nil, Nat.reduceEqDiff, Nat.reduceLT, List.length_set, Option.map_some, Option.bind_some, Option.bind_eq_bind, add_i, sub_i, mul_i, eql_i, neq_i, lss_i, leq_i, gtr_i, geq_i, ofV, ofCell, ↓reduceIte, List.cons_append, List.nil_append, List.append_nil, List.getElem?_toArray, List.getElem?_cons_succ, List.getElem?_cons_zero, e_draw, g_nil, g_cons, g_want, g_skip, g_val, g_call, g_ret, Option.map_none, hl, i0, i1, CP, Uy.eqp, Uy.ld3, lda, hg, bq1, bq2, bq3, bq4]
        exact ⟨_, rfl⟩
      obtain ⟨t, e⟩ := p
      exact fn_run (fn := Tryz.f142) (x := .ret) Tryz.func142 rfl rfl rfl (.inl rfl) (by rw [← ha0]; exact e) (vs := []) rfl
    · rw [if_neg hc]
      have hg : decide ((n : Int) > 4096) = false := by simp; omega
      have hw : IntKind.i64.wrap ((n : Int) + 1) = ((n + 1 : Nat) : Int) := by rw [wrap64 (by omega) (by omega)]; rfl
      have sta : storeA h 1 (.ptr a 0) (.int .i64 ((n + 1 : Nat) : Int)) = some (h.set a (some (.arr [.int .i64 ((n + 1 : Nat) : Int)]))) := Heap.store_at ha rfl (by simp)
      have hb1 : (h.set a (some (.arr [.int .i64 ((n + 1 : Nat) : Int)]))).get b = some (.arr [.fn (.func 142) [] [.ptr a 0, .ptr b 0]]) := by rw [Heap.get_set_ne (Ne.symm hab)]; exact hb
      have ha1 : (h.set a (some (.arr [.int .i64 ((n + 1 : Nat) : Int)]))).get a = some (.arr [.int .i64 ((n + 1 : Nat) : Int)]) := Heap.get_set_eq
      have r1 := ihl vl hl0 (n + 1) (by omega) _ a b hab ha1 hb1
      rw [set_set] at r1
      have hl1 := walk_le l (n + 1) (by omega)
      obtain ⟨n1, hn1⟩ : ∃ n1, n1 = walkN l (n + 1) := ⟨_, rfl⟩
      rw [← hn1] at r1 hl1 ⊢
      have hb2 : (h.set a (some (.arr [.int .i64 (n1 : Int)]))).get b = some (.arr [.fn (.func 142) [] [.ptr a 0, .ptr b 0]]) := by rw [Heap.get_set_ne (Ne.symm hab)]; exact hb
      have ha2 : (h.set a (some (.arr [.int .i64 (n1 : Int)]))).get a = some (.arr [.int .i64 (n1 : Int)]) := Heap.get_set_eq
      have r2 := ihr vr hr0 n1 hl1 _ a b hab ha2 hb2
      rw [set_set] at r2
      have ldb1 := Heap.load_at (off := 0) hb1 rfl
      have ldb2 := Heap.load_at (off := 0) hb2 rfl
      have p : ∃ t, ex Cl (bodyOf Tryz.f142) ⟨a0, h⟩ = some (.normal, ⟨t, h.set a (some (.arr [.int .i64 (walkN r n1 : Nat)]))⟩) := by
        simp only [bodyOf, Tryz.f142, Cat, Bool.false_eq_true, e_seq, e_region, e_cond, e_block, ex_skip, ex_exit, ex_ret, o_cons, xops_nil, k_want_none, k_want_false, k_val, k_pan, k_call, k_ret, k_seq, k_seq_exit, k_seq_ret, k_true, k_false, k_block, k_block_exit, k_block_ret, k_loop, k_loop_exit, k_loop_ret, awanted, aoper, evalO, put, Option.getD_some, List.getElem?_set, acallOp, abuiltin, List.map_cons, List.map_nil, Nat.reduceEqDiff, Nat.reduceLT, List.length_set, Option.map_some, Option.bind_some, Option.bind_eq_bind, add_i, sub_i, mul_i, eql_i, neq_i, lss_i, leq_i, gtr_i, geq_i, ofV, ofCell, ↓reduceIte, List.cons_append, List.nil_append, List.append_nil, List.getElem?_toArray, List.getElem?_cons_succ, List.getElem?_cons_zero, e_draw, g_nil, g_cons, g_want, g_skip, g_val, g_call, g_ret, Option.map_none, hl, i0, i1, i2, CP, Uy.eqp, Uy.ld3, Uy.st3, Uy.ld70, Uy.ld34, Uy.fa1, Uy.fa2, lda, sta, hg, hw, bq1, bq2, bq3, bq4, ldb1, dropCells, List.drop_succ_cons, List.drop_zero, ld_ip, ofc1, r1]
        rw [k_draw _ _ _ (by kernel_rfl)]
        simp only [Bool.false_eq_true, e_seq, e_region, e_cond, e_block, ex_skip, ex_exit, ex_ret, o_cons, xops_nil, k_want_none, k_want_false, k_val, k_pan, k_call, k_ret, k_seq, k_seq_exit, k_seq_ret, k_true, k_false, k_block, k_block_exit, k_block_ret, k_loop, k_loop_exit, k_loop_ret, awanted, aoper, evalO, put, Option.getD_some, List.getElem?_set, acallOp, abuiltin, List.map_cons, List.map_nil, Nat.reduceEqDiff, Nat.reduceLT, List.length_set, Option.map_some, Option.bind_some, Option.bind_eq_bind, add_i, sub_i, mul_i, eql_i, neq_i, lss_i, leq_i, gtr_i, geq_i, ofV, ofCell, ↓reduceIte, List.cons_append, List.nil_append, List.append_nil, List.getElem?_toArray, List.getElem?_cons_succ, List.getElem?_cons_zero, e_draw, g_nil, g_cons, g_want, g_skip, g_val, g_call, g_ret, Option.map_none, hl, i0, i1, i2, CP, Uy.ld70, Uy.ld34, Uy.fa1, Uy.fa2, ldb2, dropCells, List.drop_succ_cons, List.drop_zero, ld_ip, ofc1, r2]
        rw [k_draw _ _ _ (by kernel_rfl)]
        exact ⟨_, rfl⟩
      obtain ⟨t, e⟩ := p
      exact fn_run (fn := Tryz.f142) (x := .normal) Tryz.func142 rfl rfl rfl (.inr rfl) (by rw [← ha0]; exact e) (vs := []) rfl
def S66 (x : TestT) : Option Int := some (walkN x 0 : Nat)
theorem S66_spec : Spec66 S66 := by
  intro x v hx r hr h
  cases hr
  have href : refsL [v] = [] := rTestT_p.ref _ _ hx
  rw [run_stripped (fn := Tryz.f66) Tryz.func66 rfl rfl rfl [v] href h rfl]
  have hx1 : rTestT x [strip v] := rTestT_p.str _ _ hx
  obtain ⟨w, hw⟩ : ∃ w, w = strip v := ⟨_, rfl⟩
  rw [show stripL [v] = [w] by rw [hw]; rfl]
  rw [← hw] at hx1
  obtain ⟨a0, ha0⟩ : ∃ a0, a0 = slots Tryz.f66 [w] := ⟨_, rfl⟩
  have hl : a0.length = 10 := by rw [ha0]; rfl
  have i0 : a0[0]? = some w := by rw [ha0]; rfl
  obtain ⟨h1, hh1⟩ : ∃ h1, h1 = ((((bare.new (.arr [.int .i64 0])).set 0 (some (.arr [.int .i64 0]))).new (.arr [.nilFn])).set 1 (some (.arr [.fn (.func 142) [] [.ptr 0 0, .ptr 1 0]]))) := ⟨_, rfl⟩
  have g0 : h1.get 0 = some (.arr [.int .i64 0]) := by rw [hh1]; rfl
  have g1 : h1.get 1 = some (.arr [.fn (.func 142) [] [.ptr 0 0, .ptr 1 0]]) := by rw [hh1]; rfl
  have r := walk_run x w hx1 0 (by omega) h1 0 1 (by decide) g0 g1
  have ldb := Heap.load_at (off := 0) g1 rfl
  have ld0 : loadA (h1.set 0 (some (.arr [.int .i64 (walkN x 0 : Nat)]))) false 1 (.ptr 0 0) = some (.int .i64 (walkN x 0 : Nat)) := Heap.load_at Heap.get_set_eq rfl
  have st1 : storeA (bare.new (.arr [.int .i64 0])) 1 (.ptr 0 0) (.int .i64 0) = some ((bare.new (.arr [.int .i64 0])).set 0 (some (.arr [.int .i64 0]))) := rfl
  have st2 : storeA (((bare.new (.arr [.int .i64 0])).set 0 (some (.arr [.int .i64 0]))).new (.arr [.nilFn])) 1 (.ptr 1 0) (.fn (.func 142) [] [.ptr 0 0, .ptr 1 0]) = some h1 := by rw [hh1]; rfl
  have p : ∃ t h', ex Cl (bodyOf Tryz.f66) ⟨a0, bare⟩ = some (.ret, ⟨t, h'⟩) ∧ t[2]? = some (.int .i64 (walkN x 0 : Nat)) := by
    simp only [bodyOf, Tryz.f66, Cat, Bool.false_eq_true, e_seq, e_region, e_cond, e_block, ex_skip, ex_exit, ex_ret, o_cons, xops_nil, k_want_none, k_want_false, k_val, k_pan, k_call, k_ret, k_seq, k_seq_exit, k_seq_ret, k_true, k_false, k_block, k_block_exit, k_block_ret, k_loop, k_loop_exit, k_loop_ret, awanted, aoper, evalO, put, Option.getD_some, List.getElem?_set, acallOp, abuiltin, List.map_cons, List.map_nil, Nat.reduceEqDiff, Nat.reduceLT, List.length_set, Option.map_some, Option.bind_some, Option.bind_eq_bind, add_i, sub_i, mul_i, eql_i, neq_i, lss_i, leq_i, gtr_i, geq_i, ofV, ofCell, ↓reduceIte, List.cons_append, List.nil_append, List.append_nil, List.getElem?_toArray, List.getElem?_cons_succ, List.getElem?_cons_zero, e_draw, g_nil, g_cons, g_want, g_skip, g_val, g_call, g_ret, Option.map_none, hl, i0, CP, Uy.z3, Uy.z70, own_b.1, own_b.2.1, own_b.2.2, Bool.false_eq_true, abox, bx_i, AVal.boxable, AVal.isCell, if_true, cl_i, AVal.cells, Uy.st3, Uy.st70, Uy.ld70, Uy.ld3, show bare.next = 0 from rfl, Heap.new_next, Heap.set_next, st1, st2, ldb, r, ld0]
    exact ⟨_, _, rfl, by simp [hl]⟩
  obtain ⟨t, h', e, t2⟩ := p
  exact fn_runC (fn := Tryz.f66) (x := .ret) Tryz.func66 rfl rfl rfl (by rw [hw]; exact stripL_cont [v] href) (.inl rfl) (by rw [← ha0]; exact e) (vs := [_]) (by simp only [show Tryz.f66.results.toList = [ResultVar.tmp 2] from rfl, aresults, ares1, t2]; rfl) rfl h
def S75 (n : Int) : Option (List UInt8) := if -9223372036854775808 ≤ n ∧ n ≤ 9223372036854775807 then some (Lib.itoa n) else none
theorem S75_spec : Spec75 S75 := by
  intro n r hr h
  unfold S75 at hr
  split at hr
  case isFalse => cases hr
  rename_i hc
  cases hr
  refine run_of (n := 1) ?_
  simp only [arun, show Cl.summ 75 = some sum75 from rfl]
  rw [show norms (fun x => false) AHeap.empty depth [AVal.int .i64 n] = some [AVal.int .i64 n] from normL_cont _ _ _ rfl]
  simp only [sum75, hc, and_self, if_true, Option.map_some]
def S147 (n b : Int) : Option (List UInt8) := if b = 10 ∧ -9223372036854775808 ≤ n ∧ n ≤ 9223372036854775807 then some (Lib.itoa n) else none
theorem S147_spec : Spec147 S147 := by
  intro n b r hr h
  unfold S147 at hr
  split at hr
  case isFalse => cases hr
  rename_i hc
  obtain ⟨rfl, hc⟩ := hc
  cases hr
  refine run_of (n := 1) ?_
  simp only [arun, show Cl.summ 147 = some sum147 from rfl]
  rw [show norms (fun x => false) AHeap.empty depth [AVal.int .i64 n, AVal.int .i64 10] = some [AVal.int .i64 n, AVal.int .i64 10] from normL_cont _ _ _ rfl]
  simp only [sum147, hc, and_self, if_true, Option.map_some]
end Go.Proofs.Ky
