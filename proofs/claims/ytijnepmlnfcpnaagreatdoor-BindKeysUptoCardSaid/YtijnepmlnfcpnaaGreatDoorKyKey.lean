/-
  KEYS: what Key tells.
-/
import Derived.Test.YtijnepmlnfcpnaaGreatDoorKyTest2
set_option linter.unusedVariables false
set_option linter.unusedSimpArgs false
set_option linter.unusedSimpArgs false
set_option linter.unusedVariables false
set_option maxRecDepth 100000
namespace Go.Proofs.Ky
open Go Go.Am Go.Proofs

namespace Bx
theorem f35_0 (p : AVal) : afieldAddr Tryz.prog 35 p 0 = dropCells 0 p := by kernel_rfl
theorem f35_1 (p : AVal) : afieldAddr Tryz.prog 35 p 1 = dropCells 1 p := by kernel_rfl
theorem f35_2 (p : AVal) : afieldAddr Tryz.prog 35 p 2 = dropCells 2 p := by kernel_rfl
theorem f35_3 (p : AVal) : afieldAddr Tryz.prog 35 p 3 = dropCells 3 p := by kernel_rfl
theorem ld31 (h : AHeap) (p : AVal) : aload Tryz.prog h 31 p = loadA h false 1 p := by kernel_rfl
theorem ld33 (h : AHeap) (p : AVal) : aload Tryz.prog h 33 p = loadA h false 1 p := by kernel_rfl
theorem st116 (h : AHeap) (p v : AVal) : astore Tryz.prog h 116 p v = storeA h 1 p v := by kernel_rfl
theorem cb316 : Cl.cbox "bind.go:316" = true := by kernel_rfl
theorem cb320 : Cl.cbox "bind.go:320" = false := by kernel_rfl
theorem ow320 : Cl.own "bind.go:320" = true := by kernel_rfl
theorem bd122 : abuild Tryz.prog 122 [] = some (.agg [.nilPtr, .nilSl]) := by kernel_rfl
theorem z116 : zeroA Tryz.prog 116 = some .nilPtr := by kernel_rfl
theorem abw (h : AHeap) : abox h (.agg [.nilPtr, .nilSl]) = some (.ptr h.next 0, h.new (.arr [.nilPtr, .nilSl])) := rfl
theorem abn (h : AHeap) : abox h .nilPtr = some (.ptr h.next 0, h.new (.arr [.nilPtr])) := rfl
end Bx
/-- the heap of Key, ahead of its first piece -/
def heap0 : AHeap := bare.new (.arr [.nilPtr, .nilSl])
def heapM : AHeap := heap0.mark 0 (122, true)
def heapN : AHeap := (heapM.new (.arr [.nilPtr])).mark 1 (116, true)
def heap1 : AHeap := heapN.set 1 (some (.arr [.ptr 0 0]))
def KOk (b : Bound) : Prop := OkB b ∧ (keyB b).length ≤ 140737488355328
open Classical in
noncomputable def S17 (b : Bound) : Option (List UInt8) := if walkN b.Where 0 > 4096 then some [] else if KOk b then some (keyB b) else none
theorem str_nrm (s : List UInt8) (h : AHeap) : normRes (fun _ => false) h depth (.ret (packRes [.str s])) = some (.ret (.str s)) := rfl
theorem S17_spec : Spec17 S17 := by
  intro x v0 hv0 v1 hv1 v2 hv2 v3 hv3 r hr h
  have href : refsL [.agg [v0, v1, v2, v3]] = [] := by
    have g0 := (rSl_p rPick_p).ref _ _ ⟨_, rfl, hv0⟩
    have g1 := (rSl_p rS_p).ref _ _ ⟨_, rfl, hv1⟩
    have g2 := rTestT_p.ref _ _ hv2
    have g3 := (rSl_p (rI_p .i64)).ref _ _ ⟨_, rfl, hv3⟩
    simp only [refsL, refs, List.append_nil] at g0 g1 g2 g3 ⊢
    simp only [g0, g1, g2, g3, List.append_nil]
  rw [run_stripped (fn := Tryz.f17) Tryz.func17 rfl rfl rfl [.agg [v0, v1, v2, v3]] href h rfl]
  have hc := stripL_cont [.agg [v0, v1, v2, v3]] href
  have hw0 := hv0.strip rPick_p
  have hw1 := hv1.strip rS_p
  have hw2 : rTestT x.Where [strip v2] := rTestT_p.str _ _ hv2
  have hw3 := hv3.strip (rI_p .i64)
  rw [show stripL [.agg [v0, v1, v2, v3]] = [.agg [strip v0, strip v1, strip v2, strip v3]] from rfl] at hc ⊢
  obtain ⟨w0, e0⟩ : ∃ w, w = strip v0 := ⟨_, rfl⟩
  obtain ⟨w1, e1⟩ : ∃ w, w = strip v1 := ⟨_, rfl⟩
  obtain ⟨w2, e2⟩ : ∃ w, w = strip v2 := ⟨_, rfl⟩
  obtain ⟨w3, e3⟩ : ∃ w, w = strip v3 := ⟨_, rfl⟩
  rw [← e0, ← e1, ← e2, ← e3] at hc ⊢
  rw [← e0] at hw0
  rw [← e1] at hw1
  rw [← e2] at hw2
  rw [← e3] at hw3
  have b0 := hw0.isCell
  have b1 := hw1.isCell
  have b2 := rTestT_cell hw2
  have b3 := hw3.isCell
  obtain ⟨a0, ha0⟩ : ∃ a0, a0 = slots Tryz.f17 [.agg [w0, w1, w2, w3]] := ⟨_, rfl⟩
  have hl : a0.length = 35 := by rw [ha0]; rfl
  have i0 : a0[0]? = some (.agg [w0, w1, w2, w3]) := by rw [ha0]; rfl
  have rn := fun h => S66_spec x.Where w2 hw2 _ rfl h
  have bx : (AVal.agg [w0, w1, w2, w3]).boxable = true := by simp only [AVal.boxable, List.all_cons, List.all_nil, b0, b1, b2, b3, Bool.and_self, Bool.and_true]
  have cl : (AVal.agg [w0, w1, w2, w3]).cells = [w0, w1, w2, w3] := rfl
  unfold S17 at hr
  by_cases hn : walkN x.Where 0 > 4096
  · rw [if_pos hn] at hr
    cases hr
    have hg : decide (((walkN x.Where 0 : Nat) : Int) > 4096) = true := by simp; omega
    have p : ∃ t, ex Cl (bodyOf Tryz.f17) ⟨a0, bare⟩ = some (.ret, ⟨t, bare⟩) ∧ t[2]? = some (.str []) := by
      simp only [bodyOf, Tryz.f17, Cat, Bool.false_eq_true, e_seq, e_region, e_cond, e_block, ex_skip, ex_exit, ex_ret, o_cons, xops_nil, k_want_none, k_want_false, k_val, k_pan, k_call, k_ret, k_seq, k_seq_exit, k_seq_ret, k_true, k_false, k_block, k_block_exit, k_block_ret, k_loop, k_loop_exit, k_loop_ret, awanted, aoper, evalO, put, Option.getD_some, List.getElem?_set, acallOp, abuiltin, List.map_cons, List.map_nil, Nat.reduceEqDiff, Nat.reduceLT, List.length_set, Option.map_some, Option.bind_some, Option.bind_eq_bind, add_i, sub_i, mul_i, eql_i, neq_i, lss_i, leq_i, gtr_i, geq_i, ofV, ofCell, ↓reduceIte, List.cons_append, List.nil_append, List.append_nil, List.getElem?_toArray, List.getElem?_cons_succ, List.getElem?_cons_zero, e_draw, g_nil, g_cons, g_want, g_skip, g_val, g_call, g_ret, Option.map_none, hl, i0, CP, Bx.cb316, bx, cl, Bx.f35_2, Bx.ld32, dropCells, List.drop_succ_cons, List.drop_zero, ld_ip, ofc1, rn, hg]
      exact ⟨_, rfl, by simp [hl]⟩
    obtain ⟨t, e, t2⟩ := p
    exact fn_runC (fn := Tryz.f17) (x := .ret) Tryz.func17 rfl rfl rfl hc (.inl rfl) (by rw [← ha0]; exact e) (vs := [_]) (by simp only [show Tryz.f17.results.toList = [ResultVar.tmp 2] from rfl, aresults, ares1, t2]; rfl) rfl h
  · rw [if_neg hn] at hr
    by_cases hk : KOk x
    · rw [if_pos hk] at hr
      cases hr
      have hg : decide (((walkN x.Where 0 : Nat) : Int) > 4096) = false := by simp; omega
      obtain ⟨⟨⟨lp, vp⟩, ln, ⟨ls, vs⟩, ow⟩, hlen⟩ := hk
      simp only [keyB, List.length_append] at hlen
      have g0 : heap1.get 1 = some (.arr [.ptr 0 0]) := rfl
      have n0 : 1 < heap1.next := by decide
      have H0 : Bld 0 [] heap1 := ⟨by decide, rfl, .inl ⟨rfl, rfl⟩⟩
      have no0 : ∀ c n, heap1.get 0 ≠ some (.arr [c, .sl 1 0 1 n n true]) := fun c n e => by
        rw [show heap1.get 0 = some (.arr [.nilPtr, .nilSl]) from rfl] at e
        simp at e
      obtain ⟨h1, r1, H1, K1⟩ := each67 0 1 (by decide) [] x.Picks w0 hw0 vp lp (by simp only [List.length_nil]; omega) heap1 H0 g0 n0 no0
      obtain ⟨gi1, _, no1⟩ := K1.2 1 n0 (by decide) no0
      have g1 := gi1.trans g0
      have n1 := Nat.lt_of_lt_of_le n0 K1.1
      obtain ⟨h2, r2, H2, K2⟩ := each70 0 _ x.Names w1 hw1 ln (by simp only [List.length_append, List.length_nil]; omega) h1 H1
      obtain ⟨gi2, _, no2⟩ := K2.2 1 n1 (by decide) no1
      have g2 := gi2.trans g1
      have n2 := Nat.lt_of_lt_of_le n1 K2.1
      obtain ⟨h3, r3, H3, K3⟩ := each72 0 _ x.Sets w3 hw3 vs ls (by simp only [List.length_append, List.length_nil]; omega) h2 H2
      obtain ⟨gi3, _, no3⟩ := K3.2 1 n2 (by decide) no2
      have g3 := gi3.trans g2
      have n3 := Nat.lt_of_lt_of_le n2 K3.1
      obtain ⟨h4, r4, H4, K4⟩ := test_run x.Where w2 hw2 ow 0 _ (by simp only [List.length_append, List.length_nil]; omega) h3 H3
      obtain ⟨gi4, _, no4⟩ := K4.2 1 n3 (by decide) no3
      have g4 := gi4.trans g3
      obtain ⟨h5, r5⟩ := str_run 0 _ (by simp only [List.length_append, List.length_nil]; omega) h4 H4
      have hkb : ([] ++ keyEach keyPick x.Picks ++ keyEach keyText x.Names ++ keyEach keyN x.Sets ++ keyTest x.Where) = keyB x := by simp [keyB]
      rw [hkb] at r5
      have l0 : loadA heap1 false 1 (.ptr 1 0) = some (.ptr 0 0) := Heap.load_at g0 rfl
      have l1 : loadA h1 false 1 (.ptr 1 0) = some (.ptr 0 0) := Heap.load_at g1 rfl
      have l2 : loadA h2 false 1 (.ptr 1 0) = some (.ptr 0 0) := Heap.load_at g2 rfl
      have l3 : loadA h3 false 1 (.ptr 1 0) = some (.ptr 0 0) := Heap.load_at g3 rfl
      have l4 : loadA h4 false 1 (.ptr 1 0) = some (.ptr 0 0) := Heap.load_at g4 rfl
      have hm : (bare.new (.arr [.nilPtr, .nilSl])).mark 0 (122, true) = heapM := rfl
      have hm2 : (heapM.new (.arr [.nilPtr])).mark 1 (116, true) = heapN := rfl
      have s1 : storeA heapN 1 (.ptr 1 0) (.ptr 0 0) = some heap1 := rfl
      have p : ∃ t, ex Cl (bodyOf Tryz.f17) ⟨a0, bare⟩ = some (.ret, ⟨t, h5⟩) ∧ t[2]? = some (.str (keyB x)) := by
        simp only [bodyOf, Tryz.f17, Cat, Bool.false_eq_true, e_seq, e_region, e_cond, e_block, ex_skip, ex_exit, ex_ret, o_cons, xops_nil, k_want_none, k_want_false, k_val, k_pan, k_call, k_ret, k_seq, k_seq_exit, k_seq_ret, k_true, k_false, k_block, k_block_exit, k_block_ret, k_loop, k_loop_exit, k_loop_ret, awanted, aoper, evalO, put, Option.getD_some, List.getElem?_set, acallOp, abuiltin, List.map_cons, List.map_nil, Nat.reduceEqDiff, Nat.reduceLT, List.length_set, Option.map_some, Option.bind_some, Option.bind_eq_bind, add_i, sub_i, mul_i, eql_i, neq_i, lss_i, leq_i, gtr_i, geq_i, ofV, ofCell, ↓reduceIte, List.cons_append, List.nil_append, List.append_nil, List.getElem?_toArray, List.getElem?_cons_succ, List.getElem?_cons_zero, e_draw, g_nil, g_cons, g_want, g_skip, g_val, g_call, g_ret, Option.map_none, hl, i0, CP, Bx.cb316, bx, cl, Bx.f35_0, Bx.f35_1, Bx.f35_2, Bx.f35_3, Bx.ld31, Bx.ld22, Bx.ld33, Bx.ld32, dropCells, List.drop_succ_cons, List.drop_zero, ld_ip, ofc1, rn, hg, Bx.bd122, Bx.cb320, Bx.ow320, Bx.abw, hm, hm2, Bx.z116, Bx.abn, show bare.next = 0 from rfl, show heapM.next = 1 from rfl, Bx.st116, s1, Bx.ld116, l0, l1, l2, l3, l4, r1, r2, r3, r4, r5, Bx.fb0, Nat.add_zero]
        exact ⟨_, rfl, by simp [hl]⟩
      obtain ⟨t, e, t2⟩ := p
      exact fn_runC (fn := Tryz.f17) (x := .ret) Tryz.func17 rfl rfl rfl hc (.inl rfl) (by rw [← ha0]; exact e) (vs := [_]) (by simp only [show Tryz.f17.results.toList = [ResultVar.tmp 2] from rfl, aresults, ares1, t2]; rfl) rfl h
    · rw [if_neg hk] at hr; cases hr
end Go.Proofs.Ky
