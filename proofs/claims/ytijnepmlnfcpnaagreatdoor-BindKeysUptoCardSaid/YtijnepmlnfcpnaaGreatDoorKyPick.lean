/-
  KEYS: the closure that tells a pick.
-/
import Derived.Test.YtijnepmlnfcpnaaGreatDoorKyTest
set_option linter.unusedVariables false
set_option linter.unusedSimpArgs false
set_option linter.unusedSimpArgs false
set_option linter.unusedVariables false
set_option maxRecDepth 100000
namespace Go.Proofs.Ky
open Go Go.Am Go.Proofs

namespace Bx
theorem f630 (p : AVal) : afieldAddr Tryz.prog 63 p 0 = dropCells 0 p := by kernel_rfl
theorem f631 (p : AVal) : afieldAddr Tryz.prog 63 p 1 = dropCells 1 p := by kernel_rfl
theorem cb321 : Cl.cbox "bind.go:321" = true := by kernel_rfl
end Bx
theorem pick_run (b i : Nat) (hib : i ≠ b) (l : List UInt8) (p : Pick) (hk : V64 p.Kind) (hx : V64 p.Index) (hlen : l.length + (keyPick p).length ≤ 140737488355328) (h : AHeap) (hi : h.get i = some (.arr [.ptr b 0])) (hin : i < h.next) (hno : ∀ c n, h.get b ≠ some (.arr [c, .sl i 0 1 n n true])) (H : Bld b l h) :
    ∃ h', run Cl 68 [.agg [.int .i64 p.Kind, .int .i64 p.Index], .ptr i 0] h = some (.ret (.tup []), h') ∧ Bld b (l ++ keyPick p) h' ∧ Keep b h h' := by
  have hkp : keyPick p = keyN p.Kind ++ keyN p.Index := rfl
  rw [hkp, List.length_append] at hlen
  obtain ⟨h1, e1, H1, K1⟩ := num_run b l p.Kind hk (by omega) h H
  obtain ⟨gi, _, gn⟩ := K1.2 i hin hib hno
  have hi1 := gi.trans hi
  obtain ⟨h2, e2, H2, K2⟩ := num_run b (l ++ keyN p.Kind) p.Index hx (by rw [List.length_append]; omega) h1 H1
  obtain ⟨a0, ha0⟩ : ∃ a0, a0 = slots Tryz.f68 [.agg [.int .i64 p.Kind, .int .i64 p.Index], .ptr i 0] := ⟨_, rfl⟩
  have hl : a0.length = 11 := by rw [ha0]; rfl
  have i0 : a0[0]? = some (.agg [.int .i64 p.Kind, .int .i64 p.Index]) := by rw [ha0]; rfl
  have i1 : a0[1]? = some (.ptr i 0) := by rw [ha0]; rfl
  have ld : loadA h false 1 (.ptr i 0) = some (.ptr b 0) := Heap.load_at hi rfl
  have ld1 : loadA h1 false 1 (.ptr i 0) = some (.ptr b 0) := Heap.load_at hi1 rfl
  have pp : ∃ t, ex Cl (bodyOf Tryz.f68) ⟨a0, h⟩ = some (.normal, ⟨t, h2⟩) := by
    simp only [bodyOf, Tryz.f68, Cat, Bool.false_eq_true, e_seq, e_region, e_cond, e_block, ex_skip, ex_exit, ex_ret, o_cons, xops_nil, k_want_none, k_want_false, k_val, k_pan, k_call, k_ret, k_seq, k_seq_exit, k_seq_ret, k_true, k_false, k_block, k_block_exit, k_block_ret, k_loop, k_loop_exit, k_loop_ret, awanted, aoper, evalO, put, Option.getD_some, List.getElem?_set, acallOp, abuiltin, List.map_cons, List.map_nil, Nat.reduceEqDiff, Nat.reduceLT, List.length_set, Option.map_some, Option.bind_some, Option.bind_eq_bind, add_i, sub_i, mul_i, eql_i, neq_i, lss_i, leq_i, gtr_i, geq_i, ofV, ofCell, ↓reduceIte, List.cons_append, List.nil_append, List.append_nil, List.getElem?_toArray, List.getElem?_cons_succ, List.getElem?_cons_zero, e_draw, g_nil, g_cons, g_want, g_skip, g_val, g_call, g_ret, Option.map_none, hl, i0, i1, CP, Bx.cb321, bx_a, cl_a, bx_i, cl_i, c_i, List.all_cons, List.all_nil, Bool.and_self, Bool.and_true, Bx.ld116, ld, ld1, Bx.f630, Bx.f631, Bx.ldi, dropCells, List.drop_succ_cons, List.drop_zero, ld_ip, ofc1, e1, e2]
    exact ⟨_, rfl⟩
  obtain ⟨t, e⟩ := pp
  refine ⟨h2, fn_run (fn := Tryz.f68) (x := .normal) Tryz.func68 rfl rfl rfl (.inr rfl) (by rw [← ha0]; exact e) (vs := []) rfl, ?_, K1.trans K2⟩
  rw [hkp, ← List.append_assoc]; exact H2
end Go.Proofs.Ky
