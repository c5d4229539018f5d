/-
  PARSE (Sa): functions (printed by wip/tools/tg.py).
-/
import Derived.Test.YthfbbjoaidajfaaGreatDoorParSaTypes
set_option linter.unusedVariables false
set_option linter.unusedSimpArgs false
set_option linter.unusedSimpArgs false
set_option linter.unusedVariables false
set_option maxRecDepth 100000
namespace Go.Proofs.Par
open Go Go.Am Go.Proofs
/-! ### caisson/caissonref10.sameCond -/
structure Fr31 where
  st : Left
  t0 : CondT
  t1 : CondT
  t6 : Bool
  t7 : Int
  t8 : Bool
  t14 : Bool
  t25 : Bool
  t76 : Bool
  t83 : Bool
  t100 : Bool
instance : Inhabited Fr31 := ⟨⟨default, default, default, false, 0, false, false, false, false, false, false⟩⟩
def P31_0' (d0 : Nat) (s : Fr31) (t : List AVal) (h : AHeap) : Prop := ∃ w0_0 w1_0, t.length = 124 ∧ h.get d0 = some (.arr [.int .i64 s.st.n]) ∧ d0 < h.next ∧ t[0]? = some w0_0 ∧ rCondT s.t0 [w0_0] ∧ t[1]? = some w1_0 ∧ rCondT s.t1 [w1_0] ∧ t[2]? = some (.ptr d0 0) ∧ t[8]? = some (.bool s.t8)
def P31_0 (d0 : Nat) (s : Fr31) (st : ASt) : Prop := P31_0' d0 s st.tmps st.h
def P31_1' (d0 : Nat) (s : Fr31) (t : List AVal) (h : AHeap) : Prop := t.length = 124 ∧ h.get d0 = some (.arr [.int .i64 s.st.n]) ∧ d0 < h.next ∧ t[6]? = some (.bool s.t6)
def P31_1 (d0 : Nat) (s : Fr31) (st : ASt) : Prop := P31_1' d0 s st.tmps st.h
def P31_2' (d0 : Nat) (s : Fr31) (t : List AVal) (h : AHeap) : Prop := ∃ w0_0 w1_0, t.length = 124 ∧ h.get d0 = some (.arr [.int .i64 s.st.n]) ∧ d0 < h.next ∧ t[0]? = some w0_0 ∧ rCondT s.t0 [w0_0] ∧ t[1]? = some w1_0 ∧ rCondT s.t1 [w1_0] ∧ t[2]? = some (.ptr d0 0)
def P31_2 (d0 : Nat) (s : Fr31) (st : ASt) : Prop := P31_2' d0 s st.tmps st.h
def P31_3' (d0 : Nat) (s : Fr31) (t : List AVal) (h : AHeap) : Prop := ∃ w0_0 w1_0, t.length = 124 ∧ h.get d0 = some (.arr [.int .i64 s.st.n]) ∧ d0 < h.next ∧ t[0]? = some w0_0 ∧ rCondT s.t0 [w0_0] ∧ t[1]? = some w1_0 ∧ rCondT s.t1 [w1_0] ∧ t[2]? = some (.ptr d0 0) ∧ t[7]? = some (.int .i64 s.t7)
def P31_3 (d0 : Nat) (s : Fr31) (st : ASt) : Prop := P31_3' d0 s st.tmps st.h
def P31_4' (d0 : Nat) (s : Fr31) (t : List AVal) (h : AHeap) : Prop := t.length = 124 ∧ h.get d0 = some (.arr [.int .i64 s.st.n]) ∧ d0 < h.next
def P31_4 (d0 : Nat) (s : Fr31) (st : ASt) : Prop := P31_4' d0 s st.tmps st.h
def P31_5' (d0 : Nat) (s : Fr31) (t : List AVal) (h : AHeap) : Prop := ∃ w0_0 w1_0, t.length = 124 ∧ h.get d0 = some (.arr [.int .i64 s.st.n]) ∧ d0 < h.next ∧ t[0]? = some w0_0 ∧ rCondT s.t0 [w0_0] ∧ t[1]? = some w1_0 ∧ rCondT s.t1 [w1_0] ∧ t[2]? = some (.ptr d0 0) ∧ t[7]? = some (.int .i64 s.t7) ∧ t[100]? = some (.bool s.t100)
def P31_5 (d0 : Nat) (s : Fr31) (st : ASt) : Prop := P31_5' d0 s st.tmps st.h
def P31_6' (d0 : Nat) (s : Fr31) (t : List AVal) (h : AHeap) : Prop := ∃ w0_0 w1_0, t.length = 124 ∧ h.get d0 = some (.arr [.int .i64 s.st.n]) ∧ d0 < h.next ∧ t[0]? = some w0_0 ∧ rCondT s.t0 [w0_0] ∧ t[1]? = some w1_0 ∧ rCondT s.t1 [w1_0] ∧ t[2]? = some (.ptr d0 0) ∧ t[7]? = some (.int .i64 s.t7) ∧ t[83]? = some (.bool s.t83)
def P31_6 (d0 : Nat) (s : Fr31) (st : ASt) : Prop := P31_6' d0 s st.tmps st.h
def P31_7' (d0 : Nat) (s : Fr31) (t : List AVal) (h : AHeap) : Prop := ∃ w0_0 w1_0, t.length = 124 ∧ h.get d0 = some (.arr [.int .i64 s.st.n]) ∧ d0 < h.next ∧ t[0]? = some w0_0 ∧ rCondT s.t0 [w0_0] ∧ t[1]? = some w1_0 ∧ rCondT s.t1 [w1_0] ∧ t[2]? = some (.ptr d0 0) ∧ t[76]? = some (.bool s.t76)
def P31_7 (d0 : Nat) (s : Fr31) (st : ASt) : Prop := P31_7' d0 s st.tmps st.h
def P31_8' (d0 : Nat) (s : Fr31) (t : List AVal) (h : AHeap) : Prop := ∃ w0_0 w1_0, t.length = 124 ∧ h.get d0 = some (.arr [.int .i64 s.st.n]) ∧ d0 < h.next ∧ t[0]? = some w0_0 ∧ rCondT s.t0 [w0_0] ∧ t[1]? = some w1_0 ∧ rCondT s.t1 [w1_0] ∧ t[2]? = some (.ptr d0 0) ∧ t[25]? = some (.bool s.t25)
def P31_8 (d0 : Nat) (s : Fr31) (st : ASt) : Prop := P31_8' d0 s st.tmps st.h
def P31_9' (d0 : Nat) (s : Fr31) (t : List AVal) (h : AHeap) : Prop := ∃ w0_0 w1_0, t.length = 124 ∧ h.get d0 = some (.arr [.int .i64 s.st.n]) ∧ d0 < h.next ∧ t[0]? = some w0_0 ∧ rCondT s.t0 [w0_0] ∧ t[1]? = some w1_0 ∧ rCondT s.t1 [w1_0]
def P31_9 (d0 : Nat) (s : Fr31) (st : ASt) : Prop := P31_9' d0 s st.tmps st.h
def P31_10' (d0 : Nat) (s : Fr31) (t : List AVal) (h : AHeap) : Prop := ∃ w0_0 w1_0, t.length = 124 ∧ h.get d0 = some (.arr [.int .i64 s.st.n]) ∧ d0 < h.next ∧ t[0]? = some w0_0 ∧ rCondT s.t0 [w0_0] ∧ t[1]? = some w1_0 ∧ rCondT s.t1 [w1_0] ∧ t[2]? = some (.ptr d0 0) ∧ t[14]? = some (.bool s.t14)
def P31_10 (d0 : Nat) (s : Fr31) (st : ASt) : Prop := P31_10' d0 s st.tmps st.h
noncomputable def m31_0 (rec31 : Left → CondT → CondT → Option (Left × Bool)) : Mo Fr31 := fun s => cond s.t8 ((s.t0.get).bind fun n10 => (s.t1.get).bind fun n12 => (rec31 s.st n10.Right n12.Right).bind fun z14 => some (.nrm, { s with st := z14.1, t6 := z14.2 })) (some (.nrm, { s with t6 := false }))
noncomputable def m31_1 (rec31 : Left → CondT → CondT → Option (Left × Bool)) : Mo Fr31 := fun s => (s.t0.get).bind fun n29 => (s.t1.get).bind fun n31 => (rec31 s.st n29.Left n31.Left).bind fun z33 => some (.nrm, { s with st := z33.1, t8 := z33.2 })
noncomputable def m31_2 (rec31 : Left → CondT → CondT → Option (Left × Bool)) : Mo Fr31 := fun s => some (.nrm, { s with t7 := IntKind.wrap .i64 (s.t7 + 1) })
noncomputable def m31_3 (rec31 : Left → CondT → CondT → Option (Left × Bool)) : Mo Fr31 := fun s => some (.nrm, { s with t6 := false })
noncomputable def m31_4 (rec31 : Left → CondT → CondT → Option (Left × Bool)) : Mo Fr31 := fun s => (s.t0.get).bind fun n47 => (at? n47.Values s.t7).bind fun y49 => (s.t1.get).bind fun n51 => (at? n51.Values s.t7).bind fun y53 => some (.nrm, { s with t100 := (!eqValue y49 y53) })
noncomputable def m31_5 (rec31 : Left → CondT → CondT → Option (Left × Bool)) : Mo Fr31 := fun s => (s.t0.get).bind fun n65 => some (.nrm, { s with t83 := decide (s.t7 < (n65.Values.length : Int)) })
noncomputable def L31_6 (rec31 : Left → CondT → CondT → Option (Left × Bool)) : Mo Fr31 := seqM (seqM (m31_5 rec31) (condM (fun s => s.t83) (skipM) (exitM 0))) (seqM (blockM 1 (seqM (m31_4 rec31) (condM (fun s => s.t100) (seqM (m31_3 rec31) (retM)) (skipM)))) (m31_2 rec31))
noncomputable def m31_7 (rec31 : Left → CondT → CondT → Option (Left × Bool)) : Mo Fr31 := fun s => some (.nrm, { s with t7 := 0 })
noncomputable def m31_8 (rec31 : Left → CondT → CondT → Option (Left × Bool)) : Mo Fr31 := fun s => some (.nrm, { s with t6 := false })
noncomputable def m31_9 (rec31 : Left → CondT → CondT → Option (Left × Bool)) : Mo Fr31 := fun s => (s.t0.get).bind fun n71 => (s.t1.get).bind fun n73 => some (.nrm, { s with t76 := ((((n71.Kind != n73.Kind) || (!(n71.Column == n73.Column))) || (n71.Op != n73.Op)) || ((n71.Values.length : Int) != (n73.Values.length : Int))) })
noncomputable def m31_10 (rec31 : Left → CondT → CondT → Option (Left × Bool)) : Mo Fr31 := fun s => some (.nrm, { s with st := { n := IntKind.wrap .i64 (s.st.n - 1) } })
noncomputable def m31_11 (rec31 : Left → CondT → CondT → Option (Left × Bool)) : Mo Fr31 := fun s => some (.nrm, { s with t6 := false })
noncomputable def m31_12 (rec31 : Left → CondT → CondT → Option (Left × Bool)) : Mo Fr31 := fun s => some (.nrm, { s with t25 := (s.st.n == 0) })
noncomputable def m31_13 (rec31 : Left → CondT → CondT → Option (Left × Bool)) : Mo Fr31 := fun s => some (.nrm, { s with t6 := (s.t0.isNil && s.t1.isNil) })
noncomputable def m31_14 (rec31 : Left → CondT → CondT → Option (Left × Bool)) : Mo Fr31 := fun s => some (.nrm, { s with t14 := (s.t0.isNil || s.t1.isNil) })
noncomputable def m31_15 (rec31 : Left → CondT → CondT → Option (Left × Bool)) : Mo Fr31 := fun s => some (.nrm, s)
noncomputable def M31 (rec31 : Left → CondT → CondT → Option (Left × Bool)) : Mo Fr31 := seqM (m31_15 rec31) (seqM (seqM (m31_14 rec31) (condM (fun s => s.t14) (seqM (m31_13 rec31) (retM)) (skipM))) (seqM (seqM (m31_12 rec31) (condM (fun s => s.t25) (seqM (m31_11 rec31) (retM)) (skipM))) (seqM (m31_10 rec31) (seqM (seqM (m31_9 rec31) (condM (fun s => s.t76) (seqM (m31_8 rec31) (retM)) (skipM))) (seqM (seqM (m31_7 rec31) (blockM 0 (loopM (L31_6 rec31)))) (seqM (m31_1 rec31) (seqM (m31_0 rec31) (retM))))))))
def Spec31 (f : Left → CondT → CondT → Option (Left × Bool)) : Prop := ∀ (st0 : Left) (x0 : CondT) (x1 : CondT) (hp : AHeap) (d0 : Nat) (vx0_0 : AVal) (_ : rCondT x0 [vx0_0]) (vx1_0 : AVal) (_ : rCondT x1 [vx1_0]) (_ : hp.get d0 = some (.arr [.int .i64 st0.n])) (r : (Left × Bool)), f st0 x0 x1 = some r → run Cp 31 [vx0_0, vx1_0, .ptr d0 0] hp = some (.ret (.bool r.2), hp.set d0 (some (.arr [.int .i64 r.1.n])))
theorem Spec31_of {f g : Left → CondT → CondT → Option (Left × Bool)} (hg : Spec31 g) (h : ∀ st0 x0 x1 r, f st0 x0 x1 = some r → g st0 x0 x1 = some r) : Spec31 f := fun st0 x0 x1 h0 d0 v0_ w0_ v1_ w1_ g_ r hr => hg st0 x0 x1 h0 d0 v0_ w0_ v1_ w1_ g_ r (h st0 x0 x1 r hr)
theorem R31_0 (d0 : Nat) {rec31 : Left → CondT → CondT → Option (Left × Bool)} (hrec31 : Spec31 rec31) (pe : Nat → Fr31 → ASt → Prop) (pr : Fr31 → ASt → Prop) : Ref Cp (P31_0 d0) (Cat [true, true, true, true, true, true, true, false] (bodyOf Tryz.f31)) (m31_0 rec31) (post (P31_1 d0) pe pr) := by
  rintro s ⟨t, h⟩ hp x s' hm
  have hp : P31_0' d0 s t h := hp
  obtain ⟨w0_0, w1_0, hl, gst, lst, a0, r0_0, a1, r1_0, a2, a8⟩ := hp
  unfold m31_0 at hm
  cases hb19 : s.t8 with
  | true =>
    all_goals (
      try simp only [hb19, cond_true, cond_false, Option.bind_some, Option.bind_assoc, Bool.not_true, Bool.not_false, Bool.true_and, Bool.false_and, Bool.and_true, Bool.and_false, Bool.true_or, Bool.false_or] at hm
      obtain ⟨n20, hn20, hm⟩ := Option.bind_eq_some_iff.1 hm
      obtain ⟨bu21_0, bu21_1, bu21_2, qu21, gu21_0, gu21_1, gu21_2⟩ := rCondT_get r0_0 hn20
      subst qu21
      obtain ⟨n22, hn22, hm⟩ := Option.bind_eq_some_iff.1 hm
      obtain ⟨bu23_0, bu23_1, bu23_2, qu23, gu23_0, gu23_1, gu23_2⟩ := rCondT_get r1_0 hn22
      subst qu23
      obtain ⟨z24, hz24, hm⟩ := Option.bind_eq_some_iff.1 hm
      have iu25 := hrec31 s.st n20.Right n22.Right h d0 _ gu21_1 _ gu23_1 gst _ hz24
      obtain ⟨H26, eH26⟩ : ∃ x : AHeap, x = h.set d0 (some (.arr [.int .i64 z24.1.n])) := ⟨_, rfl⟩
      rw [← eH26] at iu25
      have k27 : H26.get d0 = some (.arr [.int .i64 z24.1.n]) := by rw [eH26]; exact Heap.get_set_eq
      have k28 : d0 < H26.next := by rw [eH26]; exact lst
      cases hm
      refine ⟨⟨_, _⟩, by
          simp only [bodyOf, Tryz.f31, Cat, Bool.false_eq_true, e_seq, e_region, e_cond, e_block, ex_skip, ex_exit, ex_ret, o_cons, xops_nil, k_want_none, k_want_false, k_val, k_pan, k_call, k_ret, k_seq, k_seq_exit, k_seq_ret, k_true, k_false, k_block, k_block_exit, k_block_ret, k_loop, k_loop_exit, k_loop_ret, awanted, aoper, evalO, put, Option.getD_some, List.getElem?_set, acallOp, abuiltin, List.map_cons, List.map_nil, Nat.reduceEqDiff, Nat.reduceLT, List.length_set, Option.map_some, Option.bind_some, Option.bind_eq_bind, add_i, sub_i, mul_i, eql_i, neq_i, lss_i, leq_i, gtr_i, geq_i, ofV, ofCell, ↓reduceIte, List.cons_append, List.nil_append, List.append_nil, List.getElem?_toArray, List.getElem?_cons_succ, List.getElem?_cons_zero, e_draw, g_nil, g_cons, g_want, g_skip, g_val, g_call, g_ret, Option.map_none, hl, a0, a1, a2, a8, CP, bq1, bq2, bq3, bq4, ex_tup, Ty.fa50_2, dropCells, List.drop_succ_cons, List.drop_zero, Ty.ld24, ld_ip, ofc1, List.drop_succ_cons, List.drop_zero, iu25, hb19]
          rw [k_draw _ _ _ (by kernel_rfl)]
          exact rfl, ?_⟩
      show (P31_1 d0) _ _
      exact ⟨by simp [hl], k27, k28, by simp [hl, hb19]⟩)
  | false =>
    all_goals (
      try simp only [hb19, cond_true, cond_false, Option.bind_some, Option.bind_assoc, Bool.not_true, Bool.not_false, Bool.true_and, Bool.false_and, Bool.and_true, Bool.and_false, Bool.true_or, Bool.false_or] at hm
      cases hm
      refine ⟨⟨_, _⟩, by
          simp only [bodyOf, Tryz.f31, Cat, Bool.false_eq_true, e_seq, e_region, e_cond, e_block, ex_skip, ex_exit, ex_ret, o_cons, xops_nil, k_want_none, k_want_false, k_val, k_pan, k_call, k_ret, k_seq, k_seq_exit, k_seq_ret, k_true, k_false, k_block, k_block_exit, k_block_ret, k_loop, k_loop_exit, k_loop_ret, awanted, aoper, evalO, put, Option.getD_some, List.getElem?_set, acallOp, abuiltin, List.map_cons, List.map_nil, Nat.reduceEqDiff, Nat.reduceLT, List.length_set, Option.map_some, Option.bind_some, Option.bind_eq_bind, add_i, sub_i, mul_i, eql_i, neq_i, lss_i, leq_i, gtr_i, geq_i, ofV, ofCell, ↓reduceIte, List.cons_append, List.nil_append, List.append_nil, List.getElem?_toArray, List.getElem?_cons_succ, List.getElem?_cons_zero, e_draw, g_nil, g_cons, g_want, g_skip, g_val, g_call, g_ret, Option.map_none, hl, a0, a1, a2, a8, CP, bq1, bq2, bq3, bq4, ex_tup, hb19]
          rw [k_draw _ _ _ (by kernel_rfl)]
          exact rfl, ?_⟩
      show (P31_1 d0) _ _
      exact ⟨by simp [hl], gst, lst, by simp [hl, hb19]⟩)
theorem R31_1 (d0 : Nat) {rec31 : Left → CondT → CondT → Option (Left × Bool)} (hrec31 : Spec31 rec31) (pe : Nat → Fr31 → ASt → Prop) (pr : Fr31 → ASt → Prop) : Ref Cp (P31_2 d0) (Cat [true, true, true, true, true, true, false] (bodyOf Tryz.f31)) (m31_1 rec31) (post (P31_0 d0) pe pr) := by
  rintro s ⟨t, h⟩ hp x s' hm
  have hp : P31_2' d0 s t h := hp
  obtain ⟨w0_0, w1_0, hl, gst, lst, a0, r0_0, a1, r1_0, a2⟩ := hp
  unfold m31_1 at hm
  obtain ⟨n38, hn38, hm⟩ := Option.bind_eq_some_iff.1 hm
  obtain ⟨bu39_0, bu39_1, bu39_2, qu39, gu39_0, gu39_1, gu39_2⟩ := rCondT_get r0_0 hn38
  subst qu39
  obtain ⟨n40, hn40, hm⟩ := Option.bind_eq_some_iff.1 hm
  obtain ⟨bu41_0, bu41_1, bu41_2, qu41, gu41_0, gu41_1, gu41_2⟩ := rCondT_get r1_0 hn40
  subst qu41
  obtain ⟨z42, hz42, hm⟩ := Option.bind_eq_some_iff.1 hm
  have iu43 := hrec31 s.st n38.Left n40.Left h d0 _ gu39_0 _ gu41_0 gst _ hz42
  obtain ⟨H44, eH44⟩ : ∃ x : AHeap, x = h.set d0 (some (.arr [.int .i64 z42.1.n])) := ⟨_, rfl⟩
  rw [← eH44] at iu43
  have k45 : H44.get d0 = some (.arr [.int .i64 z42.1.n]) := by rw [eH44]; exact Heap.get_set_eq
  have k46 : d0 < H44.next := by rw [eH44]; exact lst
  cases hm
  refine ⟨⟨_, _⟩, by
      simp only [bodyOf, Tryz.f31, Cat, Bool.false_eq_true, e_seq, e_region, e_cond, e_block, ex_skip, ex_exit, ex_ret, o_cons, xops_nil, k_want_none, k_want_false, k_val, k_pan, k_call, k_ret, k_seq, k_seq_exit, k_seq_ret, k_true, k_false, k_block, k_block_exit, k_block_ret, k_loop, k_loop_exit, k_loop_ret, awanted, aoper, evalO, put, Option.getD_some, List.getElem?_set, acallOp, abuiltin, List.map_cons, List.map_nil, Nat.reduceEqDiff, Nat.reduceLT, List.length_set, Option.map_some, Option.bind_some, Option.bind_eq_bind, add_i, sub_i, mul_i, eql_i, neq_i, lss_i, leq_i, gtr_i, geq_i, ofV, ofCell, ↓reduceIte, List.cons_append, List.nil_append, List.append_nil, List.getElem?_toArray, List.getElem?_cons_succ, List.getElem?_cons_zero, e_draw, g_nil, g_cons, g_want, g_skip, g_val, g_call, g_ret, Option.map_none, hl, a0, a1, a2, CP, bq1, bq2, bq3, bq4, ex_tup, Ty.fa50_1, dropCells, List.drop_succ_cons, List.drop_zero, Ty.ld24, ld_ip, ofc1, List.drop_succ_cons, List.drop_zero, iu43]
      rw [k_draw _ _ _ (by kernel_rfl)]
      exact rfl, ?_⟩
  show (P31_0 d0) _ _
  exact ⟨(.iptr [.int .i64 n38.Kind, bu39_0, bu39_1, .str n38.Column, .int .i64 n38.Op, bu39_2] : AVal), (.iptr [.int .i64 n40.Kind, bu41_0, bu41_1, .str n40.Column, .int .i64 n40.Op, bu41_2] : AVal), by simp [hl], k45, k46, by simp [a0], r0_0, by simp [a1], r1_0, by simp [a2], by simp [hl]⟩
theorem R31_2 (d0 : Nat) {rec31 : Left → CondT → CondT → Option (Left × Bool)} (hrec31 : Spec31 rec31) (pe : Nat → Fr31 → ASt → Prop) (pr : Fr31 → ASt → Prop) : Ref Cp (P31_3 d0) (Cat [true, true, true, true, true, false, true, true, true, true, true] (bodyOf Tryz.f31)) (m31_2 rec31) (post (P31_3 d0) pe pr) := by
  rintro s ⟨t, h⟩ hp x s' hm
  have hp : P31_3' d0 s t h := hp
  obtain ⟨w0_0, w1_0, hl, gst, lst, a0, r0_0, a1, r1_0, a2, a7⟩ := hp
  unfold m31_2 at hm
  cases hm
  refine ⟨⟨_, _⟩, by
      simp only [bodyOf, Tryz.f31, Cat, Bool.false_eq_true, e_seq, e_region, e_cond, e_block, ex_skip, ex_exit, ex_ret, o_cons, xops_nil, k_want_none, k_want_false, k_val, k_pan, k_call, k_ret, k_seq, k_seq_exit, k_seq_ret, k_true, k_false, k_block, k_block_exit, k_block_ret, k_loop, k_loop_exit, k_loop_ret, awanted, aoper, evalO, put, Option.getD_some, List.getElem?_set, acallOp, abuiltin, List.map_cons, List.map_nil, Nat.reduceEqDiff, Nat.reduceLT, List.length_set, Option.map_some, Option.bind_some, Option.bind_eq_bind, add_i, sub_i, mul_i, eql_i, neq_i, lss_i, leq_i, gtr_i, geq_i, ofV, ofCell, ↓reduceIte, List.cons_append, List.nil_append, List.append_nil, List.getElem?_toArray, List.getElem?_cons_succ, List.getElem?_cons_zero, e_draw, g_nil, g_cons, g_want, g_skip, g_val, g_call, g_ret, Option.map_none, hl, a0, a1, a2, a7, CP, bq1, bq2, bq3, bq4, ex_tup]
      exact rfl, ?_⟩
  show (P31_3 d0) _ _
  exact ⟨w0_0, w1_0, by simp [hl], gst, lst, by simp [a0], r0_0, by simp [a1], r1_0, by simp [a2], by simp [hl]⟩
theorem R31_3 (d0 : Nat) {rec31 : Left → CondT → CondT → Option (Left × Bool)} (hrec31 : Spec31 rec31) (pe : Nat → Fr31 → ASt → Prop) (pr : Fr31 → ASt → Prop) : Ref Cp (P31_4 d0) (Cat [true, true, true, true, true, false, true, true, true, true, false, true, true, false, false] (bodyOf Tryz.f31)) (m31_3 rec31) (post (P31_1 d0) pe pr) := by
  rintro s ⟨t, h⟩ hp x s' hm
  have hp : P31_4' d0 s t h := hp
  obtain ⟨hl, gst, lst⟩ := hp
  unfold m31_3 at hm
  cases hm
  refine ⟨⟨_, _⟩, by
      simp only [bodyOf, Tryz.f31, Cat, Bool.false_eq_true, e_seq, e_region, e_cond, e_block, ex_skip, ex_exit, ex_ret, o_cons, xops_nil, k_want_none, k_want_false, k_val, k_pan, k_call, k_ret, k_seq, k_seq_exit, k_seq_ret, k_true, k_false, k_block, k_block_exit, k_block_ret, k_loop, k_loop_exit, k_loop_ret, awanted, aoper, evalO, put, Option.getD_some, List.getElem?_set, acallOp, abuiltin, List.map_cons, List.map_nil, Nat.reduceEqDiff, Nat.reduceLT, List.length_set, Option.map_some, Option.bind_some, Option.bind_eq_bind, add_i, sub_i, mul_i, eql_i, neq_i, lss_i, leq_i, gtr_i, geq_i, ofV, ofCell, ↓reduceIte, List.cons_append, List.nil_append, List.append_nil, List.getElem?_toArray, List.getElem?_cons_succ, List.getElem?_cons_zero, e_draw, g_nil, g_cons, g_want, g_skip, g_val, g_call, g_ret, Option.map_none, hl, CP, bq1, bq2, bq3, bq4, ex_tup]
      exact rfl, ?_⟩
  show (P31_1 d0) _ _
  exact ⟨by simp [hl], gst, lst, by simp [hl]⟩
theorem R31_4 (d0 : Nat) {rec31 : Left → CondT → CondT → Option (Left × Bool)} (hrec31 : Spec31 rec31) (pe : Nat → Fr31 → ASt → Prop) (pr : Fr31 → ASt → Prop) : Ref Cp (P31_3 d0) (Cat [true, true, true, true, true, false, true, true, true, true, false, true, false] (bodyOf Tryz.f31)) (m31_4 rec31) (post (P31_5 d0) pe pr) := by
  rintro s ⟨t, h⟩ hp x s' hm
  have hp : P31_3' d0 s t h := hp
  obtain ⟨w0_0, w1_0, hl, gst, lst, a0, r0_0, a1, r1_0, a2, a7⟩ := hp
  unfold m31_4 at hm
  obtain ⟨n56, hn56, hm⟩ := Option.bind_eq_some_iff.1 hm
  obtain ⟨bu57_0, bu57_1, bu57_2, qu57, gu57_0, gu57_1, gu57_2⟩ := rCondT_get r0_0 hn56
  subst qu57
  obtain ⟨y58, hy58, hm⟩ := Option.bind_eq_some_iff.1 hm
  obtain ⟨cu59, du59, eu59, iu59, _⟩ := Sl.ix rValue_p gu57_2 hy58
  have eu59 := eu59; unfold rValue at eu59; subst eu59
  obtain ⟨n60, hn60, hm⟩ := Option.bind_eq_some_iff.1 hm
  obtain ⟨bu61_0, bu61_1, bu61_2, qu61, gu61_0, gu61_1, gu61_2⟩ := rCondT_get r1_0 hn60
  subst qu61
  obtain ⟨y62, hy62, hm⟩ := Option.bind_eq_some_iff.1 hm
  obtain ⟨cu63, du63, eu63, iu63, _⟩ := Sl.ix rValue_p gu61_2 hy62
  have eu63 := eu63; unfold rValue at eu63; subst eu63
  have k64 : ∀ (xo yo : Operand) (h : AHeap), abin Cp .neq 47 xo yo h (.agg [.bool y58.IsText, .str y58.Text, .int .i64 y58.Int]) (.agg [.bool y62.IsText, .str y62.Text, .int .i64 y62.Int]) = some (.bool (!eqValue y58 y62)) := fun xo yo h => Ty.neqs47 xo yo h y58 y62
  cases hm
  refine ⟨⟨_, _⟩, by
      simp only [bodyOf, Tryz.f31, Cat, Bool.false_eq_true, e_seq, e_region, e_cond, e_block, ex_skip, ex_exit, ex_ret, o_cons, xops_nil, k_want_none, k_want_false, k_val, k_pan, k_call, k_ret, k_seq, k_seq_exit, k_seq_ret, k_true, k_false, k_block, k_block_exit, k_block_ret, k_loop, k_loop_exit, k_loop_ret, awanted, aoper, evalO, put, Option.getD_some, List.getElem?_set, acallOp, abuiltin, List.map_cons, List.map_nil, Nat.reduceEqDiff, Nat.reduceLT, List.length_set, Option.map_some, Option.bind_some, Option.bind_eq_bind, add_i, sub_i, mul_i, eql_i, neq_i, lss_i, leq_i, gtr_i, geq_i, ofV, ofCell, ↓reduceIte, List.cons_append, List.nil_append, List.append_nil, List.getElem?_toArray, List.getElem?_cons_succ, List.getElem?_cons_zero, e_draw, g_nil, g_cons, g_want, g_skip, g_val, g_call, g_ret, Option.map_none, hl, a0, a1, a2, a7, CP, bq1, bq2, bq3, bq4, ex_tup, Ty.fa50_5, dropCells, List.drop_succ_cons, List.drop_zero, Ty.ld48, ld_ip, ofc1, List.drop_succ_cons, List.drop_zero, Ty.ix48, iu59, Ty.ld47, ofc3, List.drop_succ_cons, List.drop_zero, List.length_cons, List.length_nil, iu63, k64]
      rw [k_draw _ _ _ (by kernel_rfl)]
      exact rfl, ?_⟩
  show (P31_5 d0) _ _
  exact ⟨(.iptr [.int .i64 n56.Kind, bu57_0, bu57_1, .str n56.Column, .int .i64 n56.Op, bu57_2] : AVal), (.iptr [.int .i64 n60.Kind, bu61_0, bu61_1, .str n60.Column, .int .i64 n60.Op, bu61_2] : AVal), by simp [hl], gst, lst, by simp [a0], r0_0, by simp [a1], r1_0, by simp [a2], by simp [a7], by simp [hl]⟩
theorem R31_5 (d0 : Nat) {rec31 : Left → CondT → CondT → Option (Left × Bool)} (hrec31 : Spec31 rec31) (pe : Nat → Fr31 → ASt → Prop) (pr : Fr31 → ASt → Prop) : Ref Cp (P31_3 d0) (Cat [true, true, true, true, true, false, true, true, true, false, false] (bodyOf Tryz.f31)) (m31_5 rec31) (post (P31_6 d0) pe pr) := by
  rintro s ⟨t, h⟩ hp x s' hm
  have hp : P31_3' d0 s t h := hp
  obtain ⟨w0_0, w1_0, hl, gst, lst, a0, r0_0, a1, r1_0, a2, a7⟩ := hp
  unfold m31_5 at hm
  obtain ⟨n68, hn68, hm⟩ := Option.bind_eq_some_iff.1 hm
  obtain ⟨bu69_0, bu69_1, bu69_2, qu69, gu69_0, gu69_1, gu69_2⟩ := rCondT_get r0_0 hn68
  subst qu69
  have lu70 := fun h => Sl.len gu69_2 Ty.un48 h
  cases hm
  refine ⟨⟨_, _⟩, by
      simp only [bodyOf, Tryz.f31, Cat, Bool.false_eq_true, e_seq, e_region, e_cond, e_block, ex_skip, ex_exit, ex_ret, o_cons, xops_nil, k_want_none, k_want_false, k_val, k_pan, k_call, k_ret, k_seq, k_seq_exit, k_seq_ret, k_true, k_false, k_block, k_block_exit, k_block_ret, k_loop, k_loop_exit, k_loop_ret, awanted, aoper, evalO, put, Option.getD_some, List.getElem?_set, acallOp, abuiltin, List.map_cons, List.map_nil, Nat.reduceEqDiff, Nat.reduceLT, List.length_set, Option.map_some, Option.bind_some, Option.bind_eq_bind, add_i, sub_i, mul_i, eql_i, neq_i, lss_i, leq_i, gtr_i, geq_i, ofV, ofCell, ↓reduceIte, List.cons_append, List.nil_append, List.append_nil, List.getElem?_toArray, List.getElem?_cons_succ, List.getElem?_cons_zero, e_draw, g_nil, g_cons, g_want, g_skip, g_val, g_call, g_ret, Option.map_none, hl, a0, a1, a2, a7, CP, bq1, bq2, bq3, bq4, ex_tup, Ty.fa50_5, dropCells, List.drop_succ_cons, List.drop_zero, Ty.ld48, ld_ip, ofc1, List.drop_succ_cons, List.drop_zero, lu70]
      exact rfl, ?_⟩
  show (P31_6 d0) _ _
  exact ⟨(.iptr [.int .i64 n68.Kind, bu69_0, bu69_1, .str n68.Column, .int .i64 n68.Op, bu69_2] : AVal), w1_0, by simp [hl], gst, lst, by simp [a0], r0_0, by simp [a1], r1_0, by simp [a2], by simp [a7], by simp [hl]⟩
theorem R31_7 (d0 : Nat) {rec31 : Left → CondT → CondT → Option (Left × Bool)} (hrec31 : Spec31 rec31) (pe : Nat → Fr31 → ASt → Prop) (pr : Fr31 → ASt → Prop) : Ref Cp (P31_2 d0) (Cat [true, true, true, true, true, false, false] (bodyOf Tryz.f31)) (m31_7 rec31) (post (P31_3 d0) pe pr) := by
  rintro s ⟨t, h⟩ hp x s' hm
  have hp : P31_2' d0 s t h := hp
  obtain ⟨w0_0, w1_0, hl, gst, lst, a0, r0_0, a1, r1_0, a2⟩ := hp
  unfold m31_7 at hm
  cases hm
  refine ⟨⟨_, _⟩, by
      simp only [bodyOf, Tryz.f31, Cat, Bool.false_eq_true, e_seq, e_region, e_cond, e_block, ex_skip, ex_exit, ex_ret, o_cons, xops_nil, k_want_none, k_want_false, k_val, k_pan, k_call, k_ret, k_seq, k_seq_exit, k_seq_ret, k_true, k_false, k_block, k_block_exit, k_block_ret, k_loop, k_loop_exit, k_loop_ret, awanted, aoper, evalO, put, Option.getD_some, List.getElem?_set, acallOp, abuiltin, List.map_cons, List.map_nil, Nat.reduceEqDiff, Nat.reduceLT, List.length_set, Option.map_some, Option.bind_some, Option.bind_eq_bind, add_i, sub_i, mul_i, eql_i, neq_i, lss_i, leq_i, gtr_i, geq_i, ofV, ofCell, ↓reduceIte, List.cons_append, List.nil_append, List.append_nil, List.getElem?_toArray, List.getElem?_cons_succ, List.getElem?_cons_zero, e_draw, g_nil, g_cons, g_want, g_skip, g_val, g_call, g_ret, Option.map_none, hl, a0, a1, a2, CP, bq1, bq2, bq3, bq4, ex_tup]
      exact rfl, ?_⟩
  show (P31_3 d0) _ _
  exact ⟨w0_0, w1_0, by simp [hl], gst, lst, by simp [a0], r0_0, by simp [a1], r1_0, by simp [a2], by simp [hl]⟩
theorem R31_8 (d0 : Nat) {rec31 : Left → CondT → CondT → Option (Left × Bool)} (hrec31 : Spec31 rec31) (pe : Nat → Fr31 → ASt → Prop) (pr : Fr31 → ASt → Prop) : Ref Cp (P31_4 d0) (Cat [true, true, true, true, false, true, false, false] (bodyOf Tryz.f31)) (m31_8 rec31) (post (P31_1 d0) pe pr) := by
  rintro s ⟨t, h⟩ hp x s' hm
  have hp : P31_4' d0 s t h := hp
  obtain ⟨hl, gst, lst⟩ := hp
  unfold m31_8 at hm
  cases hm
  refine ⟨⟨_, _⟩, by
      simp only [bodyOf, Tryz.f31, Cat, Bool.false_eq_true, e_seq, e_region, e_cond, e_block, ex_skip, ex_exit, ex_ret, o_cons, xops_nil, k_want_none, k_want_false, k_val, k_pan, k_call, k_ret, k_seq, k_seq_exit, k_seq_ret, k_true, k_false, k_block, k_block_exit, k_block_ret, k_loop, k_loop_exit, k_loop_ret, awanted, aoper, evalO, put, Option.getD_some, List.getElem?_set, acallOp, abuiltin, List.map_cons, List.map_nil, Nat.reduceEqDiff, Nat.reduceLT, List.length_set, Option.map_some, Option.bind_some, Option.bind_eq_bind, add_i, sub_i, mul_i, eql_i, neq_i, lss_i, leq_i, gtr_i, geq_i, ofV, ofCell, ↓reduceIte, List.cons_append, List.nil_append, List.append_nil, List.getElem?_toArray, List.getElem?_cons_succ, List.getElem?_cons_zero, e_draw, g_nil, g_cons, g_want, g_skip, g_val, g_call, g_ret, Option.map_none, hl, CP, bq1, bq2, bq3, bq4, ex_tup]
      exact rfl, ?_⟩
  show (P31_1 d0) _ _
  exact ⟨by simp [hl], gst, lst, by simp [hl]⟩
theorem R31_9 (d0 : Nat) {rec31 : Left → CondT → CondT → Option (Left × Bool)} (hrec31 : Spec31 rec31) (pe : Nat → Fr31 → ASt → Prop) (pr : Fr31 → ASt → Prop) : Ref Cp (P31_2 d0) (Cat [true, true, true, true, false, false] (bodyOf Tryz.f31)) (m31_9 rec31) (post (P31_7 d0) pe pr) := by
  rintro s ⟨t, h⟩ hp x s' hm
  have hp : P31_2' d0 s t h := hp
  obtain ⟨w0_0, w1_0, hl, gst, lst, a0, r0_0, a1, r1_0, a2⟩ := hp
  unfold m31_9 at hm
  obtain ⟨n77, hn77, hm⟩ := Option.bind_eq_some_iff.1 hm
  obtain ⟨bu78_0, bu78_1, bu78_2, qu78, gu78_0, gu78_1, gu78_2⟩ := rCondT_get r0_0 hn77
  subst qu78
  obtain ⟨n79, hn79, hm⟩ := Option.bind_eq_some_iff.1 hm
  obtain ⟨bu80_0, bu80_1, bu80_2, qu80, gu80_0, gu80_1, gu80_2⟩ := rCondT_get r1_0 hn79
  subst qu80
  cases hb81 : (n77.Kind != n79.Kind) with
  | true =>
    all_goals (
      try simp only [hb81, cond_true, cond_false, Option.bind_some, Option.bind_assoc, Bool.not_true, Bool.not_false, Bool.true_and, Bool.false_and, Bool.and_true, Bool.and_false, Bool.true_or, Bool.false_or] at hm
      cases hm
      refine ⟨⟨_, _⟩, by
          simp only [bodyOf, Tryz.f31, Cat, Bool.false_eq_true, e_seq, e_region, e_cond, e_block, ex_skip, ex_exit, ex_ret, o_cons, xops_nil, k_want_none, k_want_false, k_val, k_pan, k_call, k_ret, k_seq, k_seq_exit, k_seq_ret, k_true, k_false, k_block, k_block_exit, k_block_ret, k_loop, k_loop_exit, k_loop_ret, awanted, aoper, evalO, put, Option.getD_some, List.getElem?_set, acallOp, abuiltin, List.map_cons, List.map_nil, Nat.reduceEqDiff, Nat.reduceLT, List.length_set, Option.map_some, Option.bind_some, Option.bind_eq_bind, add_i, sub_i, mul_i, eql_i, neq_i, lss_i, leq_i, gtr_i, geq_i, ofV, ofCell, ↓reduceIte, List.cons_append, List.nil_append, List.append_nil, List.getElem?_toArray, List.getElem?_cons_succ, List.getElem?_cons_zero, e_draw, g_nil, g_cons, g_want, g_skip, g_val, g_call, g_ret, Option.map_none, hl, a0, a1, a2, CP, bq1, bq2, bq3, bq4, ex_tup, List.append_eq, Ty.fa50_0, dropCells, List.drop_succ_cons, List.drop_zero, Ty.ld3, ld_ip, ofc1, List.drop_succ_cons, List.drop_zero, hb81]
          rw [k_draw _ _ _ (by kernel_rfl)]
          exact rfl, ?_⟩
      show (P31_7 d0) _ _
      exact ⟨(.iptr [.int .i64 n77.Kind, bu78_0, bu78_1, .str n77.Column, .int .i64 n77.Op, bu78_2] : AVal), (.iptr [.int .i64 n79.Kind, bu80_0, bu80_1, .str n79.Column, .int .i64 n79.Op, bu80_2] : AVal), by simp [hl], gst, lst, by simp [a0], r0_0, by simp [a1], r1_0, by simp [a2], by simp [hl, hb81]⟩)
  | false =>
    all_goals (
      try simp only [hb81, cond_true, cond_false, Option.bind_some, Option.bind_assoc, Bool.not_true, Bool.not_false, Bool.true_and, Bool.false_and, Bool.and_true, Bool.and_false, Bool.true_or, Bool.false_or] at hm
      cases hb82 : (!(n77.Column == n79.Column)) with
      | true =>
        all_goals (
          try simp only [hb82, cond_true, cond_false, Option.bind_some, Option.bind_assoc, Bool.not_true, Bool.not_false, Bool.true_and, Bool.false_and, Bool.and_true, Bool.and_false, Bool.true_or, Bool.false_or] at hm
          cases hm
          refine ⟨⟨_, _⟩, by
              simp only [bodyOf, Tryz.f31, Cat, Bool.false_eq_true, e_seq, e_region, e_cond, e_block, ex_skip, ex_exit, ex_ret, o_cons, xops_nil, k_want_none, k_want_false, k_val, k_pan, k_call, k_ret, k_seq, k_seq_exit, k_seq_ret, k_true, k_false, k_block, k_block_exit, k_block_ret, k_loop, k_loop_exit, k_loop_ret, awanted, aoper, evalO, put, Option.getD_some, List.getElem?_set, acallOp, abuiltin, List.map_cons, List.map_nil, Nat.reduceEqDiff, Nat.reduceLT, List.length_set, Option.map_some, Option.bind_some, Option.bind_eq_bind, add_i, sub_i, mul_i, eql_i, neq_i, lss_i, leq_i, gtr_i, geq_i, ofV, ofCell, ↓reduceIte, List.cons_append, List.nil_append, List.append_nil, List.getElem?_toArray, List.getElem?_cons_succ, List.getElem?_cons_zero, e_draw, g_nil, g_cons, g_want, g_skip, g_val, g_call, g_ret, Option.map_none, hl, a0, a1, a2, CP, bq1, bq2, bq3, bq4, ex_tup, List.append_eq, Ty.fa50_0, dropCells, List.drop_succ_cons, List.drop_zero, Ty.ld3, ld_ip, ofc1, List.drop_succ_cons, List.drop_zero, Ty.fa50_3, Ty.ld9, neq_s, hb81, hb82]
              rw [k_draw _ _ _ (by kernel_rfl)]
              exact rfl, ?_⟩
          show (P31_7 d0) _ _
          exact ⟨(.iptr [.int .i64 n77.Kind, bu78_0, bu78_1, .str n77.Column, .int .i64 n77.Op, bu78_2] : AVal), (.iptr [.int .i64 n79.Kind, bu80_0, bu80_1, .str n79.Column, .int .i64 n79.Op, bu80_2] : AVal), by simp [hl], gst, lst, by simp [a0], r0_0, by simp [a1], r1_0, by simp [a2], by simp [hl, hb81, hb82]⟩)
      | false =>
        all_goals (
          try simp only [hb82, cond_true, cond_false, Option.bind_some, Option.bind_assoc, Bool.not_true, Bool.not_false, Bool.true_and, Bool.false_and, Bool.and_true, Bool.and_false, Bool.true_or, Bool.false_or] at hm
          cases hb83 : (n77.Op != n79.Op) with
          | true =>
            all_goals (
              try simp only [hb83, cond_true, cond_false, Option.bind_some, Option.bind_assoc, Bool.not_true, Bool.not_false, Bool.true_and, Bool.false_and, Bool.and_true, Bool.and_false, Bool.true_or, Bool.false_or] at hm
              cases hm
              refine ⟨⟨_, _⟩, by
                  simp only [bodyOf, Tryz.f31, Cat, Bool.false_eq_true, e_seq, e_region, e_cond, e_block, ex_skip, ex_exit, ex_ret, o_cons, xops_nil, k_want_none, k_want_false, k_val, k_pan, k_call, k_ret, k_seq, k_seq_exit, k_seq_ret, k_true, k_false, k_block, k_block_exit, k_block_ret, k_loop, k_loop_exit, k_loop_ret, awanted, aoper, evalO, put, Option.getD_some, List.getElem?_set, acallOp, abuiltin, List.map_cons, List.map_nil, Nat.reduceEqDiff, Nat.reduceLT, List.length_set, Option.map_some, Option.bind_some, Option.bind_eq_bind, add_i, sub_i, mul_i, eql_i, neq_i, lss_i, leq_i, gtr_i, geq_i, ofV, ofCell, ↓reduceIte, List.cons_append, List.nil_append, List.append_nil, List.getElem?_toArray, List.getElem?_cons_succ, List.getElem?_cons_zero, e_draw, g_nil, g_cons, g_want, g_skip, g_val, g_call, g_ret, Option.map_none, hl, a0, a1, a2, CP, bq1, bq2, bq3, bq4, ex_tup, List.append_eq, Ty.fa50_0, dropCells, List.drop_succ_cons, List.drop_zero, Ty.ld3, ld_ip, ofc1, List.drop_succ_cons, List.drop_zero, Ty.fa50_3, Ty.ld9, neq_s, Ty.fa50_4, hb81, hb82, hb83]
                  rw [k_draw _ _ _ (by kernel_rfl)]
                  exact rfl, ?_⟩
              show (P31_7 d0) _ _
              exact ⟨(.iptr [.int .i64 n77.Kind, bu78_0, bu78_1, .str n77.Column, .int .i64 n77.Op, bu78_2] : AVal), (.iptr [.int .i64 n79.Kind, bu80_0, bu80_1, .str n79.Column, .int .i64 n79.Op, bu80_2] : AVal), by simp [hl], gst, lst, by simp [a0], r0_0, by simp [a1], r1_0, by simp [a2], by simp [hl, hb81, hb82, hb83]⟩)
          | false =>
            all_goals (
              try simp only [hb83, cond_true, cond_false, Option.bind_some, Option.bind_assoc, Bool.not_true, Bool.not_false, Bool.true_and, Bool.false_and, Bool.and_true, Bool.and_false, Bool.true_or, Bool.false_or] at hm
              have lu84 := fun h => Sl.len gu78_2 Ty.un48 h
              have lu85 := fun h => Sl.len gu80_2 Ty.un48 h
              cases hm
              refine ⟨⟨_, _⟩, by
                  simp only [bodyOf, Tryz.f31, Cat, Bool.false_eq_true, e_seq, e_region, e_cond, e_block, ex_skip, ex_exit, ex_ret, o_cons, xops_nil, k_want_none, k_want_false, k_val, k_pan, k_call, k_ret, k_seq, k_seq_exit, k_seq_ret, k_true, k_false, k_block, k_block_exit, k_block_ret, k_loop, k_loop_exit, k_loop_ret, awanted, aoper, evalO, put, Option.getD_some, List.getElem?_set, acallOp, abuiltin, List.map_cons, List.map_nil, Nat.reduceEqDiff, Nat.reduceLT, List.length_set, Option.map_some, Option.bind_some, Option.bind_eq_bind, add_i, sub_i, mul_i, eql_i, neq_i, lss_i, leq_i, gtr_i, geq_i, ofV, ofCell, ↓reduceIte, List.cons_append, List.nil_append, List.append_nil, List.getElem?_toArray, List.getElem?_cons_succ, List.getElem?_cons_zero, e_draw, g_nil, g_cons, g_want, g_skip, g_val, g_call, g_ret, Option.map_none, hl, a0, a1, a2, CP, bq1, bq2, bq3, bq4, ex_tup, List.append_eq, Ty.fa50_0, dropCells, List.drop_succ_cons, List.drop_zero, Ty.ld3, ld_ip, ofc1, List.drop_succ_cons, List.drop_zero, Ty.fa50_3, Ty.ld9, neq_s, Ty.fa50_4, Ty.fa50_5, Ty.ld48, lu84, lu85, hb81, hb82, hb83]
                  rw [k_draw _ _ _ (by kernel_rfl)]
                  exact rfl, ?_⟩
              show (P31_7 d0) _ _
              exact ⟨(.iptr [.int .i64 n77.Kind, bu78_0, bu78_1, .str n77.Column, .int .i64 n77.Op, bu78_2] : AVal), (.iptr [.int .i64 n79.Kind, bu80_0, bu80_1, .str n79.Column, .int .i64 n79.Op, bu80_2] : AVal), by simp [hl], gst, lst, by simp [a0], r0_0, by simp [a1], r1_0, by simp [a2], by simp [hl, hb81, hb82, hb83]⟩)))
theorem R31_10 (d0 : Nat) {rec31 : Left → CondT → CondT → Option (Left × Bool)} (hrec31 : Spec31 rec31) (pe : Nat → Fr31 → ASt → Prop) (pr : Fr31 → ASt → Prop) : Ref Cp (P31_2 d0) (Cat [true, true, true, false] (bodyOf Tryz.f31)) (m31_10 rec31) (post (P31_2 d0) pe pr) := by
  rintro s ⟨t, h⟩ hp x s' hm
  have hp : P31_2' d0 s t h := hp
  obtain ⟨w0_0, w1_0, hl, gst, lst, a0, r0_0, a1, r1_0, a2⟩ := hp
  unfold m31_10 at hm
  have k91 : loadA h false 1 (.ptr d0 0) = some (.int .i64 s.st.n) := by rw [Heap.load_gen gst (Nat.le_of_ble_eq_true rfl)]; first | rfl | exact ofc1 _ _ _
  obtain ⟨H92, eH92⟩ : ∃ x : AHeap, x = h.set d0 (some (.arr [.int .i64 (IntKind.wrap .i64 (s.st.n - 1))])) := ⟨_, rfl⟩
  have k93 : storeA h 1 (.ptr d0 0) (.int .i64 (IntKind.wrap .i64 (s.st.n - 1))) = some H92 := by rw [eH92]; exact Heap.store_gen gst (show (.int .i64 (IntKind.wrap .i64 (s.st.n - 1)) : AVal).cells = [.int .i64 (IntKind.wrap .i64 (s.st.n - 1))] by simp only [cl_i, cl_b, cl_s, cl_a, cl_nl, cl_np, cl_ip, cl_ls]) rfl (by simp only [List.all_cons, List.all_nil, Bool.and_self, Bool.and_true, c_i, c_b, c_s, c_nl, c_np, c_ip, c_ls]) (Nat.le_of_ble_eq_true rfl) rfl
  have k94 : H92.get d0 = some (.arr [.int .i64 (IntKind.wrap .i64 (s.st.n - 1))]) := by rw [eH92]; exact Heap.get_set_eq
  have k95 : d0 < H92.next := by rw [eH92]; exact lst
  cases hm
  refine ⟨⟨_, _⟩, by
      simp only [bodyOf, Tryz.f31, Cat, Bool.false_eq_true, e_seq, e_region, e_cond, e_block, ex_skip, ex_exit, ex_ret, o_cons, xops_nil, k_want_none, k_want_false, k_val, k_pan, k_call, k_ret, k_seq, k_seq_exit, k_seq_ret, k_true, k_false, k_block, k_block_exit, k_block_ret, k_loop, k_loop_exit, k_loop_ret, awanted, aoper, evalO, put, Option.getD_some, List.getElem?_set, acallOp, abuiltin, List.map_cons, List.map_nil, Nat.reduceEqDiff, Nat.reduceLT, List.length_set, Option.map_some, Option.bind_some, Option.bind_eq_bind, add_i, sub_i, mul_i, eql_i, neq_i, lss_i, leq_i, gtr_i, geq_i, ofV, ofCell, ↓reduceIte, List.cons_append, List.nil_append, List.append_nil, List.getElem?_toArray, List.getElem?_cons_succ, List.getElem?_cons_zero, e_draw, g_nil, g_cons, g_want, g_skip, g_val, g_call, g_ret, Option.map_none, hl, a0, a1, a2, CP, bq1, bq2, bq3, bq4, ex_tup, Ty.fa69_0, dropCells, Nat.zero_add, Nat.reduceAdd, k91, Ty.ld3, k93, Ty.st3]
      exact rfl, ?_⟩
  show (P31_2 d0) _ _
  exact ⟨w0_0, w1_0, by simp [hl], k94, k95, by simp [a0], r0_0, by simp [a1], r1_0, by simp [a2]⟩
theorem R31_11 (d0 : Nat) {rec31 : Left → CondT → CondT → Option (Left × Bool)} (hrec31 : Spec31 rec31) (pe : Nat → Fr31 → ASt → Prop) (pr : Fr31 → ASt → Prop) : Ref Cp (P31_4 d0) (Cat [true, true, false, true, false, false] (bodyOf Tryz.f31)) (m31_11 rec31) (post (P31_1 d0) pe pr) := by
  rintro s ⟨t, h⟩ hp x s' hm
  have hp : P31_4' d0 s t h := hp
  obtain ⟨hl, gst, lst⟩ := hp
  unfold m31_11 at hm
  cases hm
  refine ⟨⟨_, _⟩, by
      simp only [bodyOf, Tryz.f31, Cat, Bool.false_eq_true, e_seq, e_region, e_cond, e_block, ex_skip, ex_exit, ex_ret, o_cons, xops_nil, k_want_none, k_want_false, k_val, k_pan, k_call, k_ret, k_seq, k_seq_exit, k_seq_ret, k_true, k_false, k_block, k_block_exit, k_block_ret, k_loop, k_loop_exit, k_loop_ret, awanted, aoper, evalO, put, Option.getD_some, List.getElem?_set, acallOp, abuiltin, List.map_cons, List.map_nil, Nat.reduceEqDiff, Nat.reduceLT, List.length_set, Option.map_some, Option.bind_some, Option.bind_eq_bind, add_i, sub_i, mul_i, eql_i, neq_i, lss_i, leq_i, gtr_i, geq_i, ofV, ofCell, ↓reduceIte, List.cons_append, List.nil_append, List.append_nil, List.getElem?_toArray, List.getElem?_cons_succ, List.getElem?_cons_zero, e_draw, g_nil, g_cons, g_want, g_skip, g_val, g_call, g_ret, Option.map_none, hl, CP, bq1, bq2, bq3, bq4, ex_tup]
      exact rfl, ?_⟩
  show (P31_1 d0) _ _
  exact ⟨by simp [hl], gst, lst, by simp [hl]⟩
theorem R31_12 (d0 : Nat) {rec31 : Left → CondT → CondT → Option (Left × Bool)} (hrec31 : Spec31 rec31) (pe : Nat → Fr31 → ASt → Prop) (pr : Fr31 → ASt → Prop) : Ref Cp (P31_2 d0) (Cat [true, true, false, false] (bodyOf Tryz.f31)) (m31_12 rec31) (post (P31_8 d0) pe pr) := by
  rintro s ⟨t, h⟩ hp x s' hm
  have hp : P31_2' d0 s t h := hp
  obtain ⟨w0_0, w1_0, hl, gst, lst, a0, r0_0, a1, r1_0, a2⟩ := hp
  unfold m31_12 at hm
  have k97 : loadA h false 1 (.ptr d0 0) = some (.int .i64 s.st.n) := by rw [Heap.load_gen gst (Nat.le_of_ble_eq_true rfl)]; first | rfl | exact ofc1 _ _ _
  cases hm
  refine ⟨⟨_, _⟩, by
      simp only [bodyOf, Tryz.f31, Cat, Bool.false_eq_true, e_seq, e_region, e_cond, e_block, ex_skip, ex_exit, ex_ret, o_cons, xops_nil, k_want_none, k_want_false, k_val, k_pan, k_call, k_ret, k_seq, k_seq_exit, k_seq_ret, k_true, k_false, k_block, k_block_exit, k_block_ret, k_loop, k_loop_exit, k_loop_ret, awanted, aoper, evalO, put, Option.getD_some, List.getElem?_set, acallOp, abuiltin, List.map_cons, List.map_nil, Nat.reduceEqDiff, Nat.reduceLT, List.length_set, Option.map_some, Option.bind_some, Option.bind_eq_bind, add_i, sub_i, mul_i, eql_i, neq_i, lss_i, leq_i, gtr_i, geq_i, ofV, ofCell, ↓reduceIte, List.cons_append, List.nil_append, List.append_nil, List.getElem?_toArray, List.getElem?_cons_succ, List.getElem?_cons_zero, e_draw, g_nil, g_cons, g_want, g_skip, g_val, g_call, g_ret, Option.map_none, hl, a0, a1, a2, CP, bq1, bq2, bq3, bq4, ex_tup, Ty.fa69_0, dropCells, Nat.zero_add, Nat.reduceAdd, k97, Ty.ld3]
      exact rfl, ?_⟩
  show (P31_8 d0) _ _
  exact ⟨w0_0, w1_0, by simp [hl], gst, lst, by simp [a0], r0_0, by simp [a1], r1_0, by simp [a2], by simp [hl]⟩
theorem R31_13 (d0 : Nat) {rec31 : Left → CondT → CondT → Option (Left × Bool)} (hrec31 : Spec31 rec31) (pe : Nat → Fr31 → ASt → Prop) (pr : Fr31 → ASt → Prop) : Ref Cp (P31_9 d0) (Cat [true, false, true, false, false] (bodyOf Tryz.f31)) (m31_13 rec31) (post (P31_1 d0) pe pr) := by
  rintro s ⟨t, h⟩ hp x s' hm
  have hp : P31_9' d0 s t h := hp
  obtain ⟨w0_0, w1_0, hl, gst, lst, a0, r0_0, a1, r1_0⟩ := hp
  unfold m31_13 at hm
  cases hb98 : s.t0.isNil with
  | true =>
    all_goals (
      try simp only [hb98, cond_true, cond_false, Option.bind_some, Option.bind_assoc, Bool.not_true, Bool.not_false, Bool.true_and, Bool.false_and, Bool.and_true, Bool.and_false, Bool.true_or, Bool.false_or] at hm
      obtain ⟨_, qz99⟩ | ⟨qz99, _⟩ := rCondT_nil r0_0
      rotate_left
      · rw [hb98] at qz99; cases qz99
      have z99 : ∀ (xo : Operand) (h : AHeap), abin Cp .eql 24 xo (.const (.pointer none)) h (w0_0) .nilPtr = some (.bool true) := fun xo h => by rw [qz99]; exact Ty.eqn24 xo h
      cases hb100 : s.t1.isNil with
      | true =>
        all_goals (
          try simp only [hb100, cond_true, cond_false, Option.bind_some, Option.bind_assoc, Bool.not_true, Bool.not_false, Bool.true_and, Bool.false_and, Bool.and_true, Bool.and_false, Bool.true_or, Bool.false_or] at hm
          obtain ⟨_, qz101⟩ | ⟨qz101, _⟩ := rCondT_nil r1_0
          rotate_left
          · rw [hb100] at qz101; cases qz101
          have z101 : ∀ (xo : Operand) (h : AHeap), abin Cp .eql 24 xo (.const (.pointer none)) h (w1_0) .nilPtr = some (.bool true) := fun xo h => by rw [qz101]; exact Ty.eqn24 xo h
          cases hm
          refine ⟨⟨_, _⟩, by
              simp only [bodyOf, Tryz.f31, Cat, Bool.false_eq_true, e_seq, e_region, e_cond, e_block, ex_skip, ex_exit, ex_ret, o_cons, xops_nil, k_want_none, k_want_false, k_val, k_pan, k_call, k_ret, k_seq, k_seq_exit, k_seq_ret, k_true, k_false, k_block, k_block_exit, k_block_ret, k_loop, k_loop_exit, k_loop_ret, awanted, aoper, evalO, put, Option.getD_some, List.getElem?_set, acallOp, abuiltin, List.map_cons, List.map_nil, Nat.reduceEqDiff, Nat.reduceLT, List.length_set, Option.map_some, Option.bind_some, Option.bind_eq_bind, add_i, sub_i, mul_i, eql_i, neq_i, lss_i, leq_i, gtr_i, geq_i, ofV, ofCell, ↓reduceIte, List.cons_append, List.nil_append, List.append_nil, List.getElem?_toArray, List.getElem?_cons_succ, List.getElem?_cons_zero, e_draw, g_nil, g_cons, g_want, g_skip, g_val, g_call, g_ret, Option.map_none, hl, a0, a1, CP, bq1, bq2, bq3, bq4, ex_tup, z99, z101, hb98, hb100]
              exact rfl, ?_⟩
          show (P31_1 d0) _ _
          exact ⟨by simp [hl], gst, lst, by simp [hl, hb98, hb100]⟩)
      | false =>
        all_goals (
          try simp only [hb100, cond_true, cond_false, Option.bind_some, Option.bind_assoc, Bool.not_true, Bool.not_false, Bool.true_and, Bool.false_and, Bool.and_true, Bool.and_false, Bool.true_or, Bool.false_or] at hm
          obtain ⟨qz102, _⟩ | ⟨_, csz102, qz102⟩ := rCondT_nil r1_0
          · rw [hb100] at qz102; cases qz102
          have z102 : ∀ (xo yo : Operand) (h : AHeap), abin Cp .eql 24 xo yo h (w1_0) .nilPtr = some (.bool false) := fun xo yo h => by rw [qz102]; exact Ty.eqp24 xo yo h _
          clear qz102
          cases hm
          refine ⟨⟨_, _⟩, by
              simp only [bodyOf, Tryz.f31, Cat, Bool.false_eq_true, e_seq, e_region, e_cond, e_block, ex_skip, ex_exit, ex_ret, o_cons, xops_nil, k_want_none, k_want_false, k_val, k_pan, k_call, k_ret, k_seq, k_seq_exit, k_seq_ret, k_true, k_false, k_block, k_block_exit, k_block_ret, k_loop, k_loop_exit, k_loop_ret, awanted, aoper, evalO, put, Option.getD_some, List.getElem?_set, acallOp, abuiltin, List.map_cons, List.map_nil, Nat.reduceEqDiff, Nat.reduceLT, List.length_set, Option.map_some, Option.bind_some, Option.bind_eq_bind, add_i, sub_i, mul_i, eql_i, neq_i, lss_i, leq_i, gtr_i, geq_i, ofV, ofCell, ↓reduceIte, List.cons_append, List.nil_append, List.append_nil, List.getElem?_toArray, List.getElem?_cons_succ, List.getElem?_cons_zero, e_draw, g_nil, g_cons, g_want, g_skip, g_val, g_call, g_ret, Option.map_none, hl, a0, a1, CP, bq1, bq2, bq3, bq4, ex_tup, z99, z102, hb98, hb100]
              exact rfl, ?_⟩
          show (P31_1 d0) _ _
          exact ⟨by simp [hl], gst, lst, by simp [hl, hb98, hb100]⟩))
  | false =>
    all_goals (
      try simp only [hb98, cond_true, cond_false, Option.bind_some, Option.bind_assoc, Bool.not_true, Bool.not_false, Bool.true_and, Bool.false_and, Bool.and_true, Bool.and_false, Bool.true_or, Bool.false_or] at hm
      obtain ⟨qz103, _⟩ | ⟨_, csz103, qz103⟩ := rCondT_nil r0_0
      · rw [hb98] at qz103; cases qz103
      have z103 : ∀ (xo yo : Operand) (h : AHeap), abin Cp .eql 24 xo yo h (w0_0) .nilPtr = some (.bool false) := fun xo yo h => by rw [qz103]; exact Ty.eqp24 xo yo h _
      clear qz103
      cases hm
      refine ⟨⟨_, _⟩, by
          simp only [bodyOf, Tryz.f31, Cat, Bool.false_eq_true, e_seq, e_region, e_cond, e_block, ex_skip, ex_exit, ex_ret, o_cons, xops_nil, k_want_none, k_want_false, k_val, k_pan, k_call, k_ret, k_seq, k_seq_exit, k_seq_ret, k_true, k_false, k_block, k_block_exit, k_block_ret, k_loop, k_loop_exit, k_loop_ret, awanted, aoper, evalO, put, Option.getD_some, List.getElem?_set, acallOp, abuiltin, List.map_cons, List.map_nil, Nat.reduceEqDiff, Nat.reduceLT, List.length_set, Option.map_some, Option.bind_some, Option.bind_eq_bind, add_i, sub_i, mul_i, eql_i, neq_i, lss_i, leq_i, gtr_i, geq_i, ofV, ofCell, ↓reduceIte, List.cons_append, List.nil_append, List.append_nil, List.getElem?_toArray, List.getElem?_cons_succ, List.getElem?_cons_zero, e_draw, g_nil, g_cons, g_want, g_skip, g_val, g_call, g_ret, Option.map_none, hl, a0, a1, CP, bq1, bq2, bq3, bq4, ex_tup, z103, hb98]
          exact rfl, ?_⟩
      show (P31_1 d0) _ _
      exact ⟨by simp [hl], gst, lst, by simp [hl, hb98]⟩)
theorem R31_14 (d0 : Nat) {rec31 : Left → CondT → CondT → Option (Left × Bool)} (hrec31 : Spec31 rec31) (pe : Nat → Fr31 → ASt → Prop) (pr : Fr31 → ASt → Prop) : Ref Cp (P31_2 d0) (Cat [true, false, false] (bodyOf Tryz.f31)) (m31_14 rec31) (post (P31_10 d0) pe pr) := by
  rintro s ⟨t, h⟩ hp x s' hm
  have hp : P31_2' d0 s t h := hp
  obtain ⟨w0_0, w1_0, hl, gst, lst, a0, r0_0, a1, r1_0, a2⟩ := hp
  unfold m31_14 at hm
  cases hb104 : s.t0.isNil with
  | true =>
    all_goals (
      try simp only [hb104, cond_true, cond_false, Option.bind_some, Option.bind_assoc, Bool.not_true, Bool.not_false, Bool.true_and, Bool.false_and, Bool.and_true, Bool.and_false, Bool.true_or, Bool.false_or] at hm
      obtain ⟨_, qz105⟩ | ⟨qz105, _⟩ := rCondT_nil r0_0
      rotate_left
      · rw [hb104] at qz105; cases qz105
      have z105 : ∀ (xo : Operand) (h : AHeap), abin Cp .eql 24 xo (.const (.pointer none)) h (w0_0) .nilPtr = some (.bool true) := fun xo h => by rw [qz105]; exact Ty.eqn24 xo h
      cases hm
      refine ⟨⟨_, _⟩, by
          simp only [bodyOf, Tryz.f31, Cat, Bool.false_eq_true, e_seq, e_region, e_cond, e_block, ex_skip, ex_exit, ex_ret, o_cons, xops_nil, k_want_none, k_want_false, k_val, k_pan, k_call, k_ret, k_seq, k_seq_exit, k_seq_ret, k_true, k_false, k_block, k_block_exit, k_block_ret, k_loop, k_loop_exit, k_loop_ret, awanted, aoper, evalO, put, Option.getD_some, List.getElem?_set, acallOp, abuiltin, List.map_cons, List.map_nil, Nat.reduceEqDiff, Nat.reduceLT, List.length_set, Option.map_some, Option.bind_some, Option.bind_eq_bind, add_i, sub_i, mul_i, eql_i, neq_i, lss_i, leq_i, gtr_i, geq_i, ofV, ofCell, ↓reduceIte, List.cons_append, List.nil_append, List.append_nil, List.getElem?_toArray, List.getElem?_cons_succ, List.getElem?_cons_zero, e_draw, g_nil, g_cons, g_want, g_skip, g_val, g_call, g_ret, Option.map_none, hl, a0, a1, a2, CP, bq1, bq2, bq3, bq4, ex_tup, z105, hb104]
          exact rfl, ?_⟩
      show (P31_10 d0) _ _
      exact ⟨w0_0, w1_0, by simp [hl], gst, lst, by simp [a0], r0_0, by simp [a1], r1_0, by simp [a2], by simp [hl, hb104]⟩)
  | false =>
    all_goals (
      try simp only [hb104, cond_true, cond_false, Option.bind_some, Option.bind_assoc, Bool.not_true, Bool.not_false, Bool.true_and, Bool.false_and, Bool.and_true, Bool.and_false, Bool.true_or, Bool.false_or] at hm
      obtain ⟨qz106, _⟩ | ⟨_, csz106, qz106⟩ := rCondT_nil r0_0
      · rw [hb104] at qz106; cases qz106
      have z106 : ∀ (xo yo : Operand) (h : AHeap), abin Cp .eql 24 xo yo h (w0_0) .nilPtr = some (.bool false) := fun xo yo h => by rw [qz106]; exact Ty.eqp24 xo yo h _
      clear qz106
      cases hb107 : s.t1.isNil with
      | true =>
        all_goals (
          try simp only [hb107, cond_true, cond_false, Option.bind_some, Option.bind_assoc, Bool.not_true, Bool.not_false, Bool.true_and, Bool.false_and, Bool.and_true, Bool.and_false, Bool.true_or, Bool.false_or] at hm
          obtain ⟨_, qz108⟩ | ⟨qz108, _⟩ := rCondT_nil r1_0
          rotate_left
          · rw [hb107] at qz108; cases qz108
          have z108 : ∀ (xo : Operand) (h : AHeap), abin Cp .eql 24 xo (.const (.pointer none)) h (w1_0) .nilPtr = some (.bool true) := fun xo h => by rw [qz108]; exact Ty.eqn24 xo h
          cases hm
          refine ⟨⟨_, _⟩, by
              simp only [bodyOf, Tryz.f31, Cat, Bool.false_eq_true, e_seq, e_region, e_cond, e_block, ex_skip, ex_exit, ex_ret, o_cons, xops_nil, k_want_none, k_want_false, k_val, k_pan, k_call, k_ret, k_seq, k_seq_exit, k_seq_ret, k_true, k_false, k_block, k_block_exit, k_block_ret, k_loop, k_loop_exit, k_loop_ret, awanted, aoper, evalO, put, Option.getD_some, List.getElem?_set, acallOp, abuiltin, List.map_cons, List.map_nil, Nat.reduceEqDiff, Nat.reduceLT, List.length_set, Option.map_some, Option.bind_some, Option.bind_eq_bind, add_i, sub_i, mul_i, eql_i, neq_i, lss_i, leq_i, gtr_i, geq_i, ofV, ofCell, ↓reduceIte, List.cons_append, List.nil_append, List.append_nil, List.getElem?_toArray, List.getElem?_cons_succ, List.getElem?_cons_zero, e_draw, g_nil, g_cons, g_want, g_skip, g_val, g_call, g_ret, Option.map_none, hl, a0, a1, a2, CP, bq1, bq2, bq3, bq4, ex_tup, z106, z108, hb104, hb107]
              exact rfl, ?_⟩
          show (P31_10 d0) _ _
          exact ⟨w0_0, w1_0, by simp [hl], gst, lst, by simp [a0], r0_0, by simp [a1], r1_0, by simp [a2], by simp [hl, hb104, hb107]⟩)
      | false =>
        all_goals (
          try simp only [hb107, cond_true, cond_false, Option.bind_some, Option.bind_assoc, Bool.not_true, Bool.not_false, Bool.true_and, Bool.false_and, Bool.and_true, Bool.and_false, Bool.true_or, Bool.false_or] at hm
          obtain ⟨qz109, _⟩ | ⟨_, csz109, qz109⟩ := rCondT_nil r1_0
          · rw [hb107] at qz109; cases qz109
          have z109 : ∀ (xo yo : Operand) (h : AHeap), abin Cp .eql 24 xo yo h (w1_0) .nilPtr = some (.bool false) := fun xo yo h => by rw [qz109]; exact Ty.eqp24 xo yo h _
          clear qz109
          cases hm
          refine ⟨⟨_, _⟩, by
              simp only [bodyOf, Tryz.f31, Cat, Bool.false_eq_true, e_seq, e_region, e_cond, e_block, ex_skip, ex_exit, ex_ret, o_cons, xops_nil, k_want_none, k_want_false, k_val, k_pan, k_call, k_ret, k_seq, k_seq_exit, k_seq_ret, k_true, k_false, k_block, k_block_exit, k_block_ret, k_loop, k_loop_exit, k_loop_ret, awanted, aoper, evalO, put, Option.getD_some, List.getElem?_set, acallOp, abuiltin, List.map_cons, List.map_nil, Nat.reduceEqDiff, Nat.reduceLT, List.length_set, Option.map_some, Option.bind_some, Option.bind_eq_bind, add_i, sub_i, mul_i, eql_i, neq_i, lss_i, leq_i, gtr_i, geq_i, ofV, ofCell, ↓reduceIte, List.cons_append, List.nil_append, List.append_nil, List.getElem?_toArray, List.getElem?_cons_succ, List.getElem?_cons_zero, e_draw, g_nil, g_cons, g_want, g_skip, g_val, g_call, g_ret, Option.map_none, hl, a0, a1, a2, CP, bq1, bq2, bq3, bq4, ex_tup, z106, z109, hb104, hb107]
              exact rfl, ?_⟩
          show (P31_10 d0) _ _
          exact ⟨w0_0, w1_0, by simp [hl], gst, lst, by simp [a0], r0_0, by simp [a1], r1_0, by simp [a2], by simp [hl, hb104, hb107]⟩))
theorem R31_15 (d0 : Nat) {rec31 : Left → CondT → CondT → Option (Left × Bool)} (hrec31 : Spec31 rec31) (pe : Nat → Fr31 → ASt → Prop) (pr : Fr31 → ASt → Prop) : Ref Cp (P31_2 d0) (Cat [false] (bodyOf Tryz.f31)) (m31_15 rec31) (post (P31_2 d0) pe pr) := by
  rintro s ⟨t, h⟩ hp x s' hm
  have hp : P31_2' d0 s t h := hp
  obtain ⟨w0_0, w1_0, hl, gst, lst, a0, r0_0, a1, r1_0, a2⟩ := hp
  unfold m31_15 at hm
  cases hm
  refine ⟨⟨_, _⟩, by
      simp only [bodyOf, Tryz.f31, Cat, Bool.false_eq_true, e_seq, e_region, e_cond, e_block, ex_skip, ex_exit, ex_ret, o_cons, xops_nil, k_want_none, k_want_false, k_val, k_pan, k_call, k_ret, k_seq, k_seq_exit, k_seq_ret, k_true, k_false, k_block, k_block_exit, k_block_ret, k_loop, k_loop_exit, k_loop_ret, awanted, aoper, evalO, put, Option.getD_some, List.getElem?_set, acallOp, abuiltin, List.map_cons, List.map_nil, Nat.reduceEqDiff, Nat.reduceLT, List.length_set, Option.map_some, Option.bind_some, Option.bind_eq_bind, add_i, sub_i, mul_i, eql_i, neq_i, lss_i, leq_i, gtr_i, geq_i, ofV, ofCell, ↓reduceIte, List.cons_append, List.nil_append, List.append_nil, List.getElem?_toArray, List.getElem?_cons_succ, List.getElem?_cons_zero, e_draw, g_nil, g_cons, g_want, g_skip, g_val, g_call, g_ret, Option.map_none, hl, a0, a1, a2, CP, bq1, bq2, bq3, bq4, ex_tup]
      exact rfl, ?_⟩
  show (P31_2 d0) _ _
  exact ⟨w0_0, w1_0, by simp [hl], gst, lst, by simp [a0], r0_0, by simp [a1], r1_0, by simp [a2]⟩
theorem B31 (d0 : Nat) {rec31 : Left → CondT → CondT → Option (Left × Bool)} (hrec31 : Spec31 rec31) : Ref Cp (P31_2 d0) (bodyOf Tryz.f31) (M31 rec31) (post (P31_1 d0) (fun _ _ _ => False) (P31_1 d0)) := by
  rw [show bodyOf Tryz.f31 = .seq (Cat [false] (bodyOf Tryz.f31)) (.seq (.seq (Cat [true, false, false] (bodyOf Tryz.f31)) (.cond (.tmp 14) (.seq (Cat [true, false, true, false, false] (bodyOf Tryz.f31)) (.ret)) (.skip))) (.seq (.seq (Cat [true, true, false, false] (bodyOf Tryz.f31)) (.cond (.tmp 25) (.seq (Cat [true, true, false, true, false, false] (bodyOf Tryz.f31)) (.ret)) (.skip))) (.seq (Cat [true, true, true, false] (bodyOf Tryz.f31)) (.seq (.seq (Cat [true, true, true, true, false, false] (bodyOf Tryz.f31)) (.cond (.tmp 76) (.seq (Cat [true, true, true, true, false, true, false, false] (bodyOf Tryz.f31)) (.ret)) (.skip))) (.seq (.seq (Cat [true, true, true, true, true, false, false] (bodyOf Tryz.f31)) (.block 0 (.loop (.seq (.seq (Cat [true, true, true, true, true, false, true, true, true, false, false] (bodyOf Tryz.f31)) (.cond (.tmp 83) (.skip) (.exit 0))) (.seq (.block 1 (.seq (Cat [true, true, true, true, true, false, true, true, true, true, false, true, false] (bodyOf Tryz.f31)) (.cond (.tmp 100) (.seq (Cat [true, true, true, true, true, false, true, true, true, true, false, true, true, false, false] (bodyOf Tryz.f31)) (.ret)) (.skip)))) (Cat [true, true, true, true, true, false, true, true, true, true, true] (bodyOf Tryz.f31))))))) (.seq (Cat [true, true, true, true, true, true, false] (bodyOf Tryz.f31)) (.seq (Cat [true, true, true, true, true, true, true, false] (bodyOf Tryz.f31)) (.ret)))))))) from rfl]
  unfold M31
  exact ref_seq (M := (P31_2 d0)) (R31_15 d0 hrec31 _ _) (ref_seq (M := (P31_2 d0)) (ref_seq (M := (P31_10 d0)) (R31_14 d0 hrec31 _ _) (ref_cond (P := (P31_10 d0)) (c := fun s => s.t14) (fun s st hp => by obtain ⟨w0_0, w1_0, hl, gst, lst, a0, r0_0, a1, r1_0, a2, a14⟩ := (hp : P31_10' d0 s st.tmps st.h); simp only [evalO, a14, Option.getD_some]) (ref_weak (P' := (P31_9 d0)) (fun s st hp => by obtain ⟨w0_0, w1_0, hl, gst, lst, a0, r0_0, a1, r1_0, a2, a14⟩ := (hp : P31_10' d0 s st.tmps st.h); exact (⟨w0_0, w1_0, hl, gst, lst, a0, r0_0, a1, r1_0⟩ : P31_9' d0 s st.tmps st.h)) (ref_seq (M := (P31_1 d0)) (R31_13 d0 hrec31 _ _) (ref_ret (fun s st hp => hp)))) (ref_weak (P' := (P31_2 d0)) (fun s st hp => by obtain ⟨w0_0, w1_0, hl, gst, lst, a0, r0_0, a1, r1_0, a2, a14⟩ := (hp : P31_10' d0 s st.tmps st.h); exact (⟨w0_0, w1_0, hl, gst, lst, a0, r0_0, a1, r1_0, a2⟩ : P31_2' d0 s st.tmps st.h)) (ref_skip (fun s st hp => hp))))) (ref_seq (M := (P31_2 d0)) (ref_seq (M := (P31_8 d0)) (R31_12 d0 hrec31 _ _) (ref_cond (P := (P31_8 d0)) (c := fun s => s.t25) (fun s st hp => by obtain ⟨w0_0, w1_0, hl, gst, lst, a0, r0_0, a1, r1_0, a2, a25⟩ := (hp : P31_8' d0 s st.tmps st.h); simp only [evalO, a25, Option.getD_some]) (ref_weak (P' := (P31_4 d0)) (fun s st hp => by obtain ⟨w0_0, w1_0, hl, gst, lst, a0, r0_0, a1, r1_0, a2, a25⟩ := (hp : P31_8' d0 s st.tmps st.h); exact (⟨hl, gst, lst⟩ : P31_4' d0 s st.tmps st.h)) (ref_seq (M := (P31_1 d0)) (R31_11 d0 hrec31 _ _) (ref_ret (fun s st hp => hp)))) (ref_weak (P' := (P31_2 d0)) (fun s st hp => by obtain ⟨w0_0, w1_0, hl, gst, lst, a0, r0_0, a1, r1_0, a2, a25⟩ := (hp : P31_8' d0 s st.tmps st.h); exact (⟨w0_0, w1_0, hl, gst, lst, a0, r0_0, a1, r1_0, a2⟩ : P31_2' d0 s st.tmps st.h)) (ref_skip (fun s st hp => hp))))) (ref_seq (M := (P31_2 d0)) (R31_10 d0 hrec31 _ _) (ref_seq (M := (P31_2 d0)) (ref_seq (M := (P31_7 d0)) (R31_9 d0 hrec31 _ _) (ref_cond (P := (P31_7 d0)) (c := fun s => s.t76) (fun s st hp => by obtain ⟨w0_0, w1_0, hl, gst, lst, a0, r0_0, a1, r1_0, a2, a76⟩ := (hp : P31_7' d0 s st.tmps st.h); simp only [evalO, a76, Option.getD_some]) (ref_weak (P' := (P31_4 d0)) (fun s st hp => by obtain ⟨w0_0, w1_0, hl, gst, lst, a0, r0_0, a1, r1_0, a2, a76⟩ := (hp : P31_7' d0 s st.tmps st.h); exact (⟨hl, gst, lst⟩ : P31_4' d0 s st.tmps st.h)) (ref_seq (M := (P31_1 d0)) (R31_8 d0 hrec31 _ _) (ref_ret (fun s st hp => hp)))) (ref_weak (P' := (P31_2 d0)) (fun s st hp => by obtain ⟨w0_0, w1_0, hl, gst, lst, a0, r0_0, a1, r1_0, a2, a76⟩ := (hp : P31_7' d0 s st.tmps st.h); exact (⟨w0_0, w1_0, hl, gst, lst, a0, r0_0, a1, r1_0, a2⟩ : P31_2' d0 s st.tmps st.h)) (ref_skip (fun s st hp => hp))))) (ref_seq (M := (P31_2 d0)) (ref_seq (M := (P31_3 d0)) (R31_7 d0 hrec31 _ _) (ref_block (ref_loop (P := (P31_3 d0)) (ref_weak (P' := (P31_3 d0)) (fun s st hp => hp) (ref_seq (M := (P31_3 d0)) (ref_seq (M := (P31_6 d0)) (R31_5 d0 hrec31 _ _) (ref_cond (P := (P31_6 d0)) (c := fun s => s.t83) (fun s st hp => by obtain ⟨w0_0, w1_0, hl, gst, lst, a0, r0_0, a1, r1_0, a2, a7, a83⟩ := (hp : P31_6' d0 s st.tmps st.h); simp only [evalO, a83, Option.getD_some]) (ref_weak (P' := (P31_3 d0)) (fun s st hp => by obtain ⟨w0_0, w1_0, hl, gst, lst, a0, r0_0, a1, r1_0, a2, a7, a83⟩ := (hp : P31_6' d0 s st.tmps st.h); exact (⟨w0_0, w1_0, hl, gst, lst, a0, r0_0, a1, r1_0, a2, a7⟩ : P31_3' d0 s st.tmps st.h)) (ref_skip (fun s st hp => hp))) (ref_weak (P' := (P31_2 d0)) (fun s st hp => by obtain ⟨w0_0, w1_0, hl, gst, lst, a0, r0_0, a1, r1_0, a2, a7, a83⟩ := (hp : P31_6' d0 s st.tmps st.h); exact (⟨w0_0, w1_0, hl, gst, lst, a0, r0_0, a1, r1_0, a2⟩ : P31_2' d0 s st.tmps st.h)) (ref_exit (fun s st hp => hp))))) (ref_seq (M := (P31_3 d0)) (ref_block (ref_seq (M := (P31_5 d0)) (R31_4 d0 hrec31 _ _) (ref_cond (P := (P31_5 d0)) (c := fun s => s.t100) (fun s st hp => by obtain ⟨w0_0, w1_0, hl, gst, lst, a0, r0_0, a1, r1_0, a2, a7, a100⟩ := (hp : P31_5' d0 s st.tmps st.h); simp only [evalO, a100, Option.getD_some]) (ref_weak (P' := (P31_4 d0)) (fun s st hp => by obtain ⟨w0_0, w1_0, hl, gst, lst, a0, r0_0, a1, r1_0, a2, a7, a100⟩ := (hp : P31_5' d0 s st.tmps st.h); exact (⟨hl, gst, lst⟩ : P31_4' d0 s st.tmps st.h)) (ref_seq (M := (P31_1 d0)) (R31_3 d0 hrec31 _ _) (ref_ret (fun s st hp => hp)))) (ref_weak (P' := (P31_3 d0)) (fun s st hp => by obtain ⟨w0_0, w1_0, hl, gst, lst, a0, r0_0, a1, r1_0, a2, a7, a100⟩ := (hp : P31_5' d0 s st.tmps st.h); exact (⟨w0_0, w1_0, hl, gst, lst, a0, r0_0, a1, r1_0, a2, a7⟩ : P31_3' d0 s st.tmps st.h)) (ref_skip (fun s st hp => hp)))))) (R31_2 d0 hrec31 _ _))))))) (ref_seq (M := (P31_0 d0)) (R31_1 d0 hrec31 _ _) (ref_seq (M := (P31_1 d0)) (R31_0 d0 hrec31 _ _) (ref_ret (fun s st hp => hp)))))))))
noncomputable def G31 (rec31 : Left → CondT → CondT → Option (Left × Bool)) (st0 : Left) (x0 : CondT) (x1 : CondT) : Option (Left × Bool) := match M31 rec31 { (default : Fr31) with st := st0, t0 := x0, t1 := x1 } with
  | some (.nrm, s) => some (s.st, s.t6)
  | some (.ret, s) => some (s.st, s.t6)
  | _ => none
theorem G31_spec {rec31 : Left → CondT → CondT → Option (Left × Bool)} (hrec31 : Spec31 rec31) : Spec31 (G31 rec31) := by
  intro st0 x0 x1 hp d0 vx0_0 hvx0_0 vx1_0 hvx1_0 hget0 r hr
  unfold G31 at hr
  cases hm : M31 rec31 { (default : Fr31) with st := st0, t0 := x0, t1 := x1 } with
  | none => rw [hm] at hr; cases hr
  | some q =>
    obtain ⟨x, s⟩ := q
    rw [hm] at hr
    have hx : x = .nrm ∨ x = .ret := by cases x <;> first | exact .inl rfl | exact .inr rfl | cases hr
    have hr : (s.st, s.t6) = r := by cases x <;> first | exact Option.some.inj hr | cases hr
    subst hr
    have hp0 : P31_2' d0 ({ (default : Fr31) with st := st0, t0 := x0, t1 := x1 }) (slots Tryz.f31 (stripL [vx0_0, vx1_0, .ptr d0 0])) (one d0 (stripL [.int .i64 st0.n])) := ⟨(strip vx0_0 : AVal), (strip vx1_0 : AVal), rfl, one_get _ _, one_lt _ _, rfl, rCondT_p.str _ _ hvx0_0, rfl, rCondT_p.str _ _ hvx1_0, rfl⟩
    obtain ⟨v, cs, hR, hrun⟩ := run_of_refS (C := Cp) (f := 31) (fn := Tryz.f31) Tryz.func31 rfl rfl rfl rfl (args := [vx0_0, vx1_0, .ptr d0 0]) hget0 (by simp only [refsL, refs, List.append_nil]) (by simp only [refsL, refs, List.append_nil, List.nil_append, refs_one (rCondT_p.ref _ _ hvx0_0), refs_one (rCondT_p.ref _ _ hvx1_0)]; exact dedup1 _) (B31 d0 hrec31) (s0 := { (default : Fr31) with st := st0, t0 := x0, t1 := x1 }) hp0 hm hx (R := fun v cs => v = .bool s.t6 ∧ cs = [.int .i64 s.st.n]) (by
      have key : ∀ st : ASt, (P31_1 d0) s st → ∃ vs v cs, aresults Cp Tryz.f31.results.toList st = some vs ∧ Nrm [d0] st.h (packRes vs) v ∧ st.h.get d0 = some (.arr cs) ∧ refsL cs = [] ∧ (fun v cs => v = .bool s.t6 ∧ cs = [.int .i64 s.st.n]) v (stripL cs) := by
        intro st hp
        obtain ⟨hl, gst, lst, a6⟩ := (hp : P31_1' d0 s st.tmps st.h)
        exact ⟨[.bool s.t6], _, _, by simp only [show Tryz.f31.results.toList = [ResultVar.tmp 6] from rfl, aresults, ares1, CP, a6, Option.getD_some], (Nrm.of (w := .bool s.t6) (by simp only [refsL, refs, List.append_nil])), gst, by simp only [refsL, refs, List.append_nil], ⟨rfl, rfl⟩⟩
      intro st hq
      rcases hx with rfl | rfl
      · exact key st hq
      · exact key st hq)
    obtain ⟨hv, hc⟩ := hR
    exact by rw [hrun, hv, hc]
noncomputable def F31 : Nat → Left → CondT → CondT → Option (Left × Bool)
  | 0 => fun _ _ _ => none
  | n + 1 => G31 (F31 n)
theorem F31_spec : ∀ n, Spec31 (F31 n)
  | 0 => fun st0 x0 x1 hp d0 vx0_0 hvx0_0 vx1_0 hvx1_0 hget0 r hr => by cases hr
  | n + 1 => G31_spec (F31_spec n)
theorem Spec31_fuel {f : Left → CondT → CondT → Option (Left × Bool)} (h : ∀ st0 x0 x1 r, f st0 x0 x1 = some r → ∃ n, F31 n st0 x0 x1 = some r) : Spec31 f := fun st0 x0 x1 hp d0 vx0_0 hvx0_0 vx1_0 hvx1_0 hget0 r hr => by
  obtain ⟨n, hn⟩ := h st0 x0 x1 r hr
  exact F31_spec n st0 x0 x1 hp d0 vx0_0 hvx0_0 vx1_0 hvx1_0 hget0 r hn
/-! ### caisson/caissonref10.sameNames -/
structure Fr82 where
  t0 : (List (List UInt8))
  t1 : (List (List UInt8))
  t4 : Bool
  t5 : Int
  t10 : Bool
  t14 : Bool
  t25 : Bool
instance : Inhabited Fr82 := ⟨⟨[], [], false, 0, false, false, false⟩⟩
def P82_0' (s : Fr82) (t : List AVal) (h : AHeap) : Prop := t.length = 26 ∧ True
def P82_0 (s : Fr82) (st : ASt) : Prop := P82_0' s st.tmps st.h
def P82_1' (s : Fr82) (t : List AVal) (h : AHeap) : Prop := t.length = 26 ∧ t[4]? = some (.bool s.t4)
def P82_1 (s : Fr82) (st : ASt) : Prop := P82_1' s st.tmps st.h
def P82_2' (s : Fr82) (t : List AVal) (h : AHeap) : Prop := ∃ w0_0 w1_0, t.length = 26 ∧ t[0]? = some w0_0 ∧ Sl rS s.t0 w0_0 ∧ t[1]? = some w1_0 ∧ Sl rS s.t1 w1_0 ∧ t[5]? = some (.int .i64 s.t5)
def P82_2 (s : Fr82) (st : ASt) : Prop := P82_2' s st.tmps st.h
def P82_3' (s : Fr82) (t : List AVal) (h : AHeap) : Prop := ∃ w0_0 w1_0, t.length = 26 ∧ t[0]? = some w0_0 ∧ Sl rS s.t0 w0_0 ∧ t[1]? = some w1_0 ∧ Sl rS s.t1 w1_0 ∧ t[5]? = some (.int .i64 s.t5) ∧ t[25]? = some (.bool s.t25)
def P82_3 (s : Fr82) (st : ASt) : Prop := P82_3' s st.tmps st.h
def P82_4' (s : Fr82) (t : List AVal) (h : AHeap) : Prop := ∃ w0_0 w1_0, t.length = 26 ∧ t[0]? = some w0_0 ∧ Sl rS s.t0 w0_0 ∧ t[1]? = some w1_0 ∧ Sl rS s.t1 w1_0 ∧ t[5]? = some (.int .i64 s.t5) ∧ t[14]? = some (.bool s.t14)
def P82_4 (s : Fr82) (st : ASt) : Prop := P82_4' s st.tmps st.h
def P82_5' (s : Fr82) (t : List AVal) (h : AHeap) : Prop := ∃ w0_0 w1_0, t.length = 26 ∧ t[0]? = some w0_0 ∧ Sl rS s.t0 w0_0 ∧ t[1]? = some w1_0 ∧ Sl rS s.t1 w1_0
def P82_5 (s : Fr82) (st : ASt) : Prop := P82_5' s st.tmps st.h
def P82_6' (s : Fr82) (t : List AVal) (h : AHeap) : Prop := ∃ w0_0 w1_0, t.length = 26 ∧ t[0]? = some w0_0 ∧ Sl rS s.t0 w0_0 ∧ t[1]? = some w1_0 ∧ Sl rS s.t1 w1_0 ∧ t[10]? = some (.bool s.t10)
def P82_6 (s : Fr82) (st : ASt) : Prop := P82_6' s st.tmps st.h
noncomputable def m82_0 : Mo Fr82 := fun s => some (.nrm, { s with t4 := true })
noncomputable def m82_1 : Mo Fr82 := fun s => some (.nrm, { s with t5 := IntKind.wrap .i64 (s.t5 + 1) })
noncomputable def m82_2 : Mo Fr82 := fun s => some (.nrm, { s with t4 := false })
noncomputable def m82_3 : Mo Fr82 := fun s => (at? s.t0 s.t5).bind fun y1 => (at? s.t1 s.t5).bind fun y3 => some (.nrm, { s with t25 := (!(y1 == y3)) })
noncomputable def m82_4 : Mo Fr82 := fun s => some (.nrm, { s with t14 := decide (s.t5 < (s.t0.length : Int)) })
noncomputable def L82_5 : Mo Fr82 := seqM (seqM (m82_4) (condM (fun s => s.t14) (skipM) (exitM 0))) (seqM (blockM 1 (seqM (m82_3) (condM (fun s => s.t25) (seqM (m82_2) (retM)) (skipM)))) (m82_1))
noncomputable def m82_6 : Mo Fr82 := fun s => some (.nrm, { s with t5 := 0 })
noncomputable def m82_7 : Mo Fr82 := fun s => some (.nrm, { s with t4 := false })
noncomputable def m82_8 : Mo Fr82 := fun s => some (.nrm, { s with t10 := ((s.t0.length : Int) != (s.t1.length : Int)) })
noncomputable def m82_9 : Mo Fr82 := fun s => some (.nrm, s)
noncomputable def M82 : Mo Fr82 := seqM (m82_9) (seqM (seqM (m82_8) (condM (fun s => s.t10) (seqM (m82_7) (retM)) (skipM))) (seqM (seqM (m82_6) (blockM 0 (loopM (L82_5)))) (seqM (m82_0) (retM))))
def Spec82 (f : (List (List UInt8)) → (List (List UInt8)) → Option Bool) : Prop := ∀ (x0 : (List (List UInt8))) (x1 : (List (List UInt8))) (vx0_0 : AVal) (_ : Sl rS x0 vx0_0) (vx1_0 : AVal) (_ : Sl rS x1 vx1_0) (r : Bool), f x0 x1 = some r → ∀ h, run Cp 82 [vx0_0, vx1_0] h = some (.ret (.bool r), h)
theorem Spec82_of {f g : (List (List UInt8)) → (List (List UInt8)) → Option Bool} (hg : Spec82 g) (h : ∀ x0 x1 r, f x0 x1 = some r → g x0 x1 = some r) : Spec82 f := fun x0 x1 v0_ w0_ v1_ w1_ r hr => hg x0 x1 v0_ w0_ v1_ w1_ r (h x0 x1 r hr)
theorem R82_0 (pe : Nat → Fr82 → ASt → Prop) (pr : Fr82 → ASt → Prop) : Ref Cp P82_0 (Cat [true, true, true, false] (bodyOf Tryz.f82)) m82_0 (post P82_1 pe pr) := by
  rintro s ⟨t, h⟩ hp x s' hm
  have hp : P82_0' s t h := hp
  obtain ⟨hl, _⟩ := hp
  unfold m82_0 at hm
  cases hm
  refine ⟨⟨_, _⟩, by
      simp only [bodyOf, Tryz.f82, Cat, Bool.false_eq_true, e_seq, e_region, e_cond, e_block, ex_skip, ex_exit, ex_ret, o_cons, xops_nil, k_want_none, k_want_false, k_val, k_pan, k_call, k_ret, k_seq, k_seq_exit, k_seq_ret, k_true, k_false, k_block, k_block_exit, k_block_ret, k_loop, k_loop_exit, k_loop_ret, awanted, aoper, evalO, put, Option.getD_some, List.getElem?_set, acallOp, abuiltin, List.map_cons, List.map_nil, Nat.reduceEqDiff, Nat.reduceLT, List.length_set, Option.map_some, Option.bind_some, Option.bind_eq_bind, add_i, sub_i, mul_i, eql_i, neq_i, lss_i, leq_i, gtr_i, geq_i, ofV, ofCell, ↓reduceIte, List.cons_append, List.nil_append, List.append_nil, List.getElem?_toArray, List.getElem?_cons_succ, List.getElem?_cons_zero, e_draw, g_nil, g_cons, g_want, g_skip, g_val, g_call, g_ret, Option.map_none, hl, CP, bq1, bq2, bq3, bq4, ex_tup]
      exact rfl, ?_⟩
  show P82_1 _ _
  exact ⟨by simp [hl], by simp [hl]⟩
theorem R82_1 (pe : Nat → Fr82 → ASt → Prop) (pr : Fr82 → ASt → Prop) : Ref Cp P82_2 (Cat [true, true, false, true, true, true, true, true] (bodyOf Tryz.f82)) m82_1 (post P82_2 pe pr) := by
  rintro s ⟨t, h⟩ hp x s' hm
  have hp : P82_2' s t h := hp
  obtain ⟨w0_0, w1_0, hl, a0, r0_0, a1, r1_0, a5⟩ := hp
  unfold m82_1 at hm
  cases hm
  refine ⟨⟨_, _⟩, by
      simp only [bodyOf, Tryz.f82, Cat, Bool.false_eq_true, e_seq, e_region, e_cond, e_block, ex_skip, ex_exit, ex_ret, o_cons, xops_nil, k_want_none, k_want_false, k_val, k_pan, k_call, k_ret, k_seq, k_seq_exit, k_seq_ret, k_true, k_false, k_block, k_block_exit, k_block_ret, k_loop, k_loop_exit, k_loop_ret, awanted, aoper, evalO, put, Option.getD_some, List.getElem?_set, acallOp, abuiltin, List.map_cons, List.map_nil, Nat.reduceEqDiff, Nat.reduceLT, List.length_set, Option.map_some, Option.bind_some, Option.bind_eq_bind, add_i, sub_i, mul_i, eql_i, neq_i, lss_i, leq_i, gtr_i, geq_i, ofV, ofCell, ↓reduceIte, List.cons_append, List.nil_append, List.append_nil, List.getElem?_toArray, List.getElem?_cons_succ, List.getElem?_cons_zero, e_draw, g_nil, g_cons, g_want, g_skip, g_val, g_call, g_ret, Option.map_none, hl, a0, a1, a5, CP, bq1, bq2, bq3, bq4, ex_tup]
      exact rfl, ?_⟩
  show P82_2 _ _
  exact ⟨w0_0, w1_0, by simp [hl], by simp [a0], r0_0, by simp [a1], r1_0, by simp [hl]⟩
theorem R82_2 (pe : Nat → Fr82 → ASt → Prop) (pr : Fr82 → ASt → Prop) : Ref Cp P82_0 (Cat [true, true, false, true, true, true, true, false, true, true, false, false] (bodyOf Tryz.f82)) m82_2 (post P82_1 pe pr) := by
  rintro s ⟨t, h⟩ hp x s' hm
  have hp : P82_0' s t h := hp
  obtain ⟨hl, _⟩ := hp
  unfold m82_2 at hm
  cases hm
  refine ⟨⟨_, _⟩, by
      simp only [bodyOf, Tryz.f82, Cat, Bool.false_eq_true, e_seq, e_region, e_cond, e_block, ex_skip, ex_exit, ex_ret, o_cons, xops_nil, k_want_none, k_want_false, k_val, k_pan, k_call, k_ret, k_seq, k_seq_exit, k_seq_ret, k_true, k_false, k_block, k_block_exit, k_block_ret, k_loop, k_loop_exit, k_loop_ret, awanted, aoper, evalO, put, Option.getD_some, List.getElem?_set, acallOp, abuiltin, List.map_cons, List.map_nil, Nat.reduceEqDiff, Nat.reduceLT, List.length_set, Option.map_some, Option.bind_some, Option.bind_eq_bind, add_i, sub_i, mul_i, eql_i, neq_i, lss_i, leq_i, gtr_i, geq_i, ofV, ofCell, ↓reduceIte, List.cons_append, List.nil_append, List.append_nil, List.getElem?_toArray, List.getElem?_cons_succ, List.getElem?_cons_zero, e_draw, g_nil, g_cons, g_want, g_skip, g_val, g_call, g_ret, Option.map_none, hl, CP, bq1, bq2, bq3, bq4, ex_tup]
      exact rfl, ?_⟩
  show P82_1 _ _
  exact ⟨by simp [hl], by simp [hl]⟩
theorem R82_3 (pe : Nat → Fr82 → ASt → Prop) (pr : Fr82 → ASt → Prop) : Ref Cp P82_2 (Cat [true, true, false, true, true, true, true, false, true, false] (bodyOf Tryz.f82)) m82_3 (post P82_3 pe pr) := by
  rintro s ⟨t, h⟩ hp x s' hm
  have hp : P82_2' s t h := hp
  obtain ⟨w0_0, w1_0, hl, a0, r0_0, a1, r1_0, a5⟩ := hp
  unfold m82_3 at hm
  obtain ⟨y5, hy5, hm⟩ := Option.bind_eq_some_iff.1 hm
  obtain ⟨cu6, du6, eu6, iu6, _⟩ := Sl.ix rS_p r0_0 hy5
  subst eu6
  obtain ⟨y7, hy7, hm⟩ := Option.bind_eq_some_iff.1 hm
  obtain ⟨cu8, du8, eu8, iu8, _⟩ := Sl.ix rS_p r1_0 hy7
  subst eu8
  cases hm
  refine ⟨⟨_, _⟩, by
      simp only [bodyOf, Tryz.f82, Cat, Bool.false_eq_true, e_seq, e_region, e_cond, e_block, ex_skip, ex_exit, ex_ret, o_cons, xops_nil, k_want_none, k_want_false, k_val, k_pan, k_call, k_ret, k_seq, k_seq_exit, k_seq_ret, k_true, k_false, k_block, k_block_exit, k_block_ret, k_loop, k_loop_exit, k_loop_ret, awanted, aoper, evalO, put, Option.getD_some, List.getElem?_set, acallOp, abuiltin, List.map_cons, List.map_nil, Nat.reduceEqDiff, Nat.reduceLT, List.length_set, Option.map_some, Option.bind_some, Option.bind_eq_bind, add_i, sub_i, mul_i, eql_i, neq_i, lss_i, leq_i, gtr_i, geq_i, ofV, ofCell, ↓reduceIte, List.cons_append, List.nil_append, List.append_nil, List.getElem?_toArray, List.getElem?_cons_succ, List.getElem?_cons_zero, e_draw, g_nil, g_cons, g_want, g_skip, g_val, g_call, g_ret, Option.map_none, hl, a0, a1, a5, CP, bq1, bq2, bq3, bq4, ex_tup, Ty.ix52, iu6, Ty.ld9, ld_ip, ofc1, List.drop_succ_cons, List.drop_zero, iu8, neq_s]
      rw [k_draw _ _ _ (by kernel_rfl)]
      exact rfl, ?_⟩
  show P82_3 _ _
  exact ⟨w0_0, w1_0, by simp [hl], by simp [a0], r0_0, by simp [a1], r1_0, by simp [a5], by simp [hl]⟩
theorem R82_4 (pe : Nat → Fr82 → ASt → Prop) (pr : Fr82 → ASt → Prop) : Ref Cp P82_2 (Cat [true, true, false, true, true, true, false, false] (bodyOf Tryz.f82)) m82_4 (post P82_4 pe pr) := by
  rintro s ⟨t, h⟩ hp x s' hm
  have hp : P82_2' s t h := hp
  obtain ⟨w0_0, w1_0, hl, a0, r0_0, a1, r1_0, a5⟩ := hp
  unfold m82_4 at hm
  have lu10 := fun h => Sl.len r0_0 Ty.un52 h
  cases hm
  refine ⟨⟨_, _⟩, by
      simp only [bodyOf, Tryz.f82, Cat, Bool.false_eq_true, e_seq, e_region, e_cond, e_block, ex_skip, ex_exit, ex_ret, o_cons, xops_nil, k_want_none, k_want_false, k_val, k_pan, k_call, k_ret, k_seq, k_seq_exit, k_seq_ret, k_true, k_false, k_block, k_block_exit, k_block_ret, k_loop, k_loop_exit, k_loop_ret, awanted, aoper, evalO, put, Option.getD_some, List.getElem?_set, acallOp, abuiltin, List.map_cons, List.map_nil, Nat.reduceEqDiff, Nat.reduceLT, List.length_set, Option.map_some, Option.bind_some, Option.bind_eq_bind, add_i, sub_i, mul_i, eql_i, neq_i, lss_i, leq_i, gtr_i, geq_i, ofV, ofCell, ↓reduceIte, List.cons_append, List.nil_append, List.append_nil, List.getElem?_toArray, List.getElem?_cons_succ, List.getElem?_cons_zero, e_draw, g_nil, g_cons, g_want, g_skip, g_val, g_call, g_ret, Option.map_none, hl, a0, a1, a5, CP, bq1, bq2, bq3, bq4, ex_tup, lu10]
      exact rfl, ?_⟩
  show P82_4 _ _
  exact ⟨w0_0, w1_0, by simp [hl], by simp [a0], r0_0, by simp [a1], r1_0, by simp [a5], by simp [hl]⟩
theorem R82_6 (pe : Nat → Fr82 → ASt → Prop) (pr : Fr82 → ASt → Prop) : Ref Cp P82_5 (Cat [true, true, false, false] (bodyOf Tryz.f82)) m82_6 (post P82_2 pe pr) := by
  rintro s ⟨t, h⟩ hp x s' hm
  have hp : P82_5' s t h := hp
  obtain ⟨w0_0, w1_0, hl, a0, r0_0, a1, r1_0⟩ := hp
  unfold m82_6 at hm
  cases hm
  refine ⟨⟨_, _⟩, by
      simp only [bodyOf, Tryz.f82, Cat, Bool.false_eq_true, e_seq, e_region, e_cond, e_block, ex_skip, ex_exit, ex_ret, o_cons, xops_nil, k_want_none, k_want_false, k_val, k_pan, k_call, k_ret, k_seq, k_seq_exit, k_seq_ret, k_true, k_false, k_block, k_block_exit, k_block_ret, k_loop, k_loop_exit, k_loop_ret, awanted, aoper, evalO, put, Option.getD_some, List.getElem?_set, acallOp, abuiltin, List.map_cons, List.map_nil, Nat.reduceEqDiff, Nat.reduceLT, List.length_set, Option.map_some, Option.bind_some, Option.bind_eq_bind, add_i, sub_i, mul_i, eql_i, neq_i, lss_i, leq_i, gtr_i, geq_i, ofV, ofCell, ↓reduceIte, List.cons_append, List.nil_append, List.append_nil, List.getElem?_toArray, List.getElem?_cons_succ, List.getElem?_cons_zero, e_draw, g_nil, g_cons, g_want, g_skip, g_val, g_call, g_ret, Option.map_none, hl, a0, a1, CP, bq1, bq2, bq3, bq4, ex_tup]
      exact rfl, ?_⟩
  show P82_2 _ _
  exact ⟨w0_0, w1_0, by simp [hl], by simp [a0], r0_0, by simp [a1], r1_0, by simp [hl]⟩
theorem R82_7 (pe : Nat → Fr82 → ASt → Prop) (pr : Fr82 → ASt → Prop) : Ref Cp P82_0 (Cat [true, false, true, false, false] (bodyOf Tryz.f82)) m82_7 (post P82_1 pe pr) := by
  rintro s ⟨t, h⟩ hp x s' hm
  have hp : P82_0' s t h := hp
  obtain ⟨hl, _⟩ := hp
  unfold m82_7 at hm
  cases hm
  refine ⟨⟨_, _⟩, by
      simp only [bodyOf, Tryz.f82, Cat, Bool.false_eq_true, e_seq, e_region, e_cond, e_block, ex_skip, ex_exit, ex_ret, o_cons, xops_nil, k_want_none, k_want_false, k_val, k_pan, k_call, k_ret, k_seq, k_seq_exit, k_seq_ret, k_true, k_false, k_block, k_block_exit, k_block_ret, k_loop, k_loop_exit, k_loop_ret, awanted, aoper, evalO, put, Option.getD_some, List.getElem?_set, acallOp, abuiltin, List.map_cons, List.map_nil, Nat.reduceEqDiff, Nat.reduceLT, List.length_set, Option.map_some, Option.bind_some, Option.bind_eq_bind, add_i, sub_i, mul_i, eql_i, neq_i, lss_i, leq_i, gtr_i, geq_i, ofV, ofCell, ↓reduceIte, List.cons_append, List.nil_append, List.append_nil, List.getElem?_toArray, List.getElem?_cons_succ, List.getElem?_cons_zero, e_draw, g_nil, g_cons, g_want, g_skip, g_val, g_call, g_ret, Option.map_none, hl, CP, bq1, bq2, bq3, bq4, ex_tup]
      exact rfl, ?_⟩
  show P82_1 _ _
  exact ⟨by simp [hl], by simp [hl]⟩
theorem R82_8 (pe : Nat → Fr82 → ASt → Prop) (pr : Fr82 → ASt → Prop) : Ref Cp P82_5 (Cat [true, false, false] (bodyOf Tryz.f82)) m82_8 (post P82_6 pe pr) := by
  rintro s ⟨t, h⟩ hp x s' hm
  have hp : P82_5' s t h := hp
  obtain ⟨w0_0, w1_0, hl, a0, r0_0, a1, r1_0⟩ := hp
  unfold m82_8 at hm
  have lu13 := fun h => Sl.len r0_0 Ty.un52 h
  have lu14 := fun h => Sl.len r1_0 Ty.un52 h
  cases hm
  refine ⟨⟨_, _⟩, by
      simp only [bodyOf, Tryz.f82, Cat, Bool.false_eq_true, e_seq, e_region, e_cond, e_block, ex_skip, ex_exit, ex_ret, o_cons, xops_nil, k_want_none, k_want_false, k_val, k_pan, k_call, k_ret, k_seq, k_seq_exit, k_seq_ret, k_true, k_false, k_block, k_block_exit, k_block_ret, k_loop, k_loop_exit, k_loop_ret, awanted, aoper, evalO, put, Option.getD_some, List.getElem?_set, acallOp, abuiltin, List.map_cons, List.map_nil, Nat.reduceEqDiff, Nat.reduceLT, List.length_set, Option.map_some, Option.bind_some, Option.bind_eq_bind, add_i, sub_i, mul_i, eql_i, neq_i, lss_i, leq_i, gtr_i, geq_i, ofV, ofCell, ↓reduceIte, List.cons_append, List.nil_append, List.append_nil, List.getElem?_toArray, List.getElem?_cons_succ, List.getElem?_cons_zero, e_draw, g_nil, g_cons, g_want, g_skip, g_val, g_call, g_ret, Option.map_none, hl, a0, a1, CP, bq1, bq2, bq3, bq4, ex_tup, lu13, lu14]
      exact rfl, ?_⟩
  show P82_6 _ _
  exact ⟨w0_0, w1_0, by simp [hl], by simp [a0], r0_0, by simp [a1], r1_0, by simp [hl]⟩
theorem R82_9 (pe : Nat → Fr82 → ASt → Prop) (pr : Fr82 → ASt → Prop) : Ref Cp P82_5 (Cat [false] (bodyOf Tryz.f82)) m82_9 (post P82_5 pe pr) := by
  rintro s ⟨t, h⟩ hp x s' hm
  have hp : P82_5' s t h := hp
  obtain ⟨w0_0, w1_0, hl, a0, r0_0, a1, r1_0⟩ := hp
  unfold m82_9 at hm
  cases hm
  refine ⟨⟨_, _⟩, by
      simp only [bodyOf, Tryz.f82, Cat, Bool.false_eq_true, e_seq, e_region, e_cond, e_block, ex_skip, ex_exit, ex_ret, o_cons, xops_nil, k_want_none, k_want_false, k_val, k_pan, k_call, k_ret, k_seq, k_seq_exit, k_seq_ret, k_true, k_false, k_block, k_block_exit, k_block_ret, k_loop, k_loop_exit, k_loop_ret, awanted, aoper, evalO, put, Option.getD_some, List.getElem?_set, acallOp, abuiltin, List.map_cons, List.map_nil, Nat.reduceEqDiff, Nat.reduceLT, List.length_set, Option.map_some, Option.bind_some, Option.bind_eq_bind, add_i, sub_i, mul_i, eql_i, neq_i, lss_i, leq_i, gtr_i, geq_i, ofV, ofCell, ↓reduceIte, List.cons_append, List.nil_append, List.append_nil, List.getElem?_toArray, List.getElem?_cons_succ, List.getElem?_cons_zero, e_draw, g_nil, g_cons, g_want, g_skip, g_val, g_call, g_ret, Option.map_none, hl, a0, a1, CP, bq1, bq2, bq3, bq4, ex_tup]
      exact rfl, ?_⟩
  show P82_5 _ _
  exact ⟨w0_0, w1_0, by simp [hl], by simp [a0], r0_0, by simp [a1], r1_0⟩
theorem B82 : Ref Cp P82_5 (bodyOf Tryz.f82) (M82) (post P82_1 (fun _ _ _ => False) P82_1) := by
  rw [show bodyOf Tryz.f82 = .seq (Cat [false] (bodyOf Tryz.f82)) (.seq (.seq (Cat [true, false, false] (bodyOf Tryz.f82)) (.cond (.tmp 10) (.seq (Cat [true, false, true, false, false] (bodyOf Tryz.f82)) (.ret)) (.skip))) (.seq (.seq (Cat [true, true, false, false] (bodyOf Tryz.f82)) (.block 0 (.loop (.seq (.seq (Cat [true, true, false, true, true, true, false, false] (bodyOf Tryz.f82)) (.cond (.tmp 14) (.skip) (.exit 0))) (.seq (.block 1 (.seq (Cat [true, true, false, true, true, true, true, false, true, false] (bodyOf Tryz.f82)) (.cond (.tmp 25) (.seq (Cat [true, true, false, true, true, true, true, false, true, true, false, false] (bodyOf Tryz.f82)) (.ret)) (.skip)))) (Cat [true, true, false, true, true, true, true, true] (bodyOf Tryz.f82))))))) (.seq (Cat [true, true, true, false] (bodyOf Tryz.f82)) (.ret)))) from rfl]
  unfold M82
  exact ref_seq (M := P82_5) (R82_9 _ _) (ref_seq (M := P82_5) (ref_seq (M := P82_6) (R82_8 _ _) (ref_cond (P := P82_6) (c := fun s => s.t10) (fun s st hp => by obtain ⟨w0_0, w1_0, hl, a0, r0_0, a1, r1_0, a10⟩ := (hp : P82_6' s st.tmps st.h); simp only [evalO, a10, Option.getD_some]) (ref_weak (P' := P82_0) (fun s st hp => by obtain ⟨w0_0, w1_0, hl, a0, r0_0, a1, r1_0, a10⟩ := (hp : P82_6' s st.tmps st.h); exact (⟨hl, trivial⟩ : P82_0' s st.tmps st.h)) (ref_seq (M := P82_1) (R82_7 _ _) (ref_ret (fun s st hp => hp)))) (ref_weak (P' := P82_5) (fun s st hp => by obtain ⟨w0_0, w1_0, hl, a0, r0_0, a1, r1_0, a10⟩ := (hp : P82_6' s st.tmps st.h); exact (⟨w0_0, w1_0, hl, a0, r0_0, a1, r1_0⟩ : P82_5' s st.tmps st.h)) (ref_skip (fun s st hp => hp))))) (ref_seq (M := P82_0) (ref_seq (M := P82_2) (R82_6 _ _) (ref_block (ref_loop (P := P82_2) (ref_weak (P' := P82_2) (fun s st hp => hp) (ref_seq (M := P82_2) (ref_seq (M := P82_4) (R82_4 _ _) (ref_cond (P := P82_4) (c := fun s => s.t14) (fun s st hp => by obtain ⟨w0_0, w1_0, hl, a0, r0_0, a1, r1_0, a5, a14⟩ := (hp : P82_4' s st.tmps st.h); simp only [evalO, a14, Option.getD_some]) (ref_weak (P' := P82_2) (fun s st hp => by obtain ⟨w0_0, w1_0, hl, a0, r0_0, a1, r1_0, a5, a14⟩ := (hp : P82_4' s st.tmps st.h); exact (⟨w0_0, w1_0, hl, a0, r0_0, a1, r1_0, a5⟩ : P82_2' s st.tmps st.h)) (ref_skip (fun s st hp => hp))) (ref_weak (P' := P82_0) (fun s st hp => by obtain ⟨w0_0, w1_0, hl, a0, r0_0, a1, r1_0, a5, a14⟩ := (hp : P82_4' s st.tmps st.h); exact (⟨hl, trivial⟩ : P82_0' s st.tmps st.h)) (ref_exit (fun s st hp => hp))))) (ref_seq (M := P82_2) (ref_block (ref_seq (M := P82_3) (R82_3 _ _) (ref_cond (P := P82_3) (c := fun s => s.t25) (fun s st hp => by obtain ⟨w0_0, w1_0, hl, a0, r0_0, a1, r1_0, a5, a25⟩ := (hp : P82_3' s st.tmps st.h); simp only [evalO, a25, Option.getD_some]) (ref_weak (P' := P82_0) (fun s st hp => by obtain ⟨w0_0, w1_0, hl, a0, r0_0, a1, r1_0, a5, a25⟩ := (hp : P82_3' s st.tmps st.h); exact (⟨hl, trivial⟩ : P82_0' s st.tmps st.h)) (ref_seq (M := P82_1) (R82_2 _ _) (ref_ret (fun s st hp => hp)))) (ref_weak (P' := P82_2) (fun s st hp => by obtain ⟨w0_0, w1_0, hl, a0, r0_0, a1, r1_0, a5, a25⟩ := (hp : P82_3' s st.tmps st.h); exact (⟨w0_0, w1_0, hl, a0, r0_0, a1, r1_0, a5⟩ : P82_2' s st.tmps st.h)) (ref_skip (fun s st hp => hp)))))) (R82_1 _ _))))))) (ref_seq (M := P82_1) (R82_0 _ _) (ref_ret (fun s st hp => hp)))))
noncomputable def G82 (x0 : (List (List UInt8))) (x1 : (List (List UInt8))) : Option Bool := match M82 { (default : Fr82) with t0 := x0, t1 := x1 } with
  | some (.nrm, s) => some s.t4
  | some (.ret, s) => some s.t4
  | _ => none
theorem G82_spec : Spec82 (G82) := by
  intro x0 x1 vx0_0 hvx0_0 vx1_0 hvx1_0 r hr
  unfold G82 at hr
  cases hm : M82 { (default : Fr82) with t0 := x0, t1 := x1 } with
  | none => rw [hm] at hr; cases hr
  | some q =>
    obtain ⟨x, s⟩ := q
    rw [hm] at hr
    have hx : x = .nrm ∨ x = .ret := by cases x <;> first | exact .inl rfl | exact .inr rfl | cases hr
    have hr : s.t4 = r := by cases x <;> first | exact Option.some.inj hr | cases hr
    subst hr
    have hp0 : P82_5' ({ (default : Fr82) with t0 := x0, t1 := x1 }) (slots Tryz.f82 (stripL [vx0_0, vx1_0])) bare := ⟨(strip vx0_0 : AVal), (strip vx1_0 : AVal), rfl, rfl, hvx0_0.strip rS_p, rfl, hvx1_0.strip rS_p⟩
    obtain ⟨v, hR, hrun⟩ := run_of_ref (C := Cp) (f := 82) (fn := Tryz.f82) Tryz.func82 rfl rfl rfl rfl (args := [vx0_0, vx1_0]) (by simp only [refsL, refs, List.append_nil, hvx0_0.refs rS_p, hvx1_0.refs rS_p]) (B82) (s0 := { (default : Fr82) with t0 := x0, t1 := x1 }) hp0 hm hx (R := fun v => v = .bool s.t4) (by
      have key : ∀ st : ASt, P82_1 s st → ∃ vs v, aresults Cp Tryz.f82.results.toList st = some vs ∧ Nrm [] st.h (packRes vs) v ∧ (fun v => v = .bool s.t4) v := by
        intro st hp
        obtain ⟨hl, a4⟩ := (hp : P82_1' s st.tmps st.h)
        exact ⟨[.bool s.t4], _, by simp only [show Tryz.f82.results.toList = [ResultVar.tmp 4] from rfl, aresults, ares1, CP, a4, Option.getD_some], (Nrm.of (w := .bool s.t4) (by simp only [refsL, refs, List.append_nil])), rfl⟩
      intro st hq
      rcases hx with rfl | rfl
      · exact key st hq
      · exact key st hq)
    subst hR
    exact hrun
/-! ### caisson/caissonref10.sameGroup -/
structure Fr30 where
  t0 : Group
  t1 : Group
  t2 : Group
  t3 : Group
  t4 : Bool
  t5 : Bool
  t6 : Int
  t7 : Bool
  t30 : Bool
  t35 : Bool
  t50 : Bool
instance : Inhabited Fr30 := ⟨⟨default, default, default, default, false, false, 0, false, false, false, false⟩⟩
def P30_0' (s : Fr30) (t : List AVal) (h : AHeap) : Prop := t.length = 51 ∧ True
def P30_0 (s : Fr30) (st : ASt) : Prop := P30_0' s st.tmps st.h
def P30_1' (s : Fr30) (t : List AVal) (h : AHeap) : Prop := t.length = 51 ∧ t[4]? = some (.bool s.t4)
def P30_1 (s : Fr30) (st : ASt) : Prop := P30_1' s st.tmps st.h
def P30_2' (s : Fr30) (t : List AVal) (h : AHeap) : Prop := ∃ i2 w2_0 w2_1 i3 w3_0 w3_1, t.length = 51 ∧ t[2]? = some (.ptr i2 0) ∧ h.get i2 = some (.arr [.int .i64 s.t2.Kind, w2_0, w2_1]) ∧ i2 < h.next ∧ Sl rS s.t2.Columns w2_0 ∧ Sl (rSl rS) s.t2.Sets w2_1 ∧ t[3]? = some (.ptr i3 0) ∧ h.get i3 = some (.arr [.int .i64 s.t3.Kind, w3_0, w3_1]) ∧ i3 < h.next ∧ Sl rS s.t3.Columns w3_0 ∧ Sl (rSl rS) s.t3.Sets w3_1 ∧ t[6]? = some (.int .i64 s.t6) ∧ i2 ≠ i3
def P30_2 (s : Fr30) (st : ASt) : Prop := P30_2' s st.tmps st.h
def P30_3' (s : Fr30) (t : List AVal) (h : AHeap) : Prop := ∃ i2 w2_0 w2_1 i3 w3_0 w3_1, t.length = 51 ∧ t[2]? = some (.ptr i2 0) ∧ h.get i2 = some (.arr [.int .i64 s.t2.Kind, w2_0, w2_1]) ∧ i2 < h.next ∧ Sl rS s.t2.Columns w2_0 ∧ Sl (rSl rS) s.t2.Sets w2_1 ∧ t[3]? = some (.ptr i3 0) ∧ h.get i3 = some (.arr [.int .i64 s.t3.Kind, w3_0, w3_1]) ∧ i3 < h.next ∧ Sl rS s.t3.Columns w3_0 ∧ Sl (rSl rS) s.t3.Sets w3_1 ∧ t[6]? = some (.int .i64 s.t6) ∧ t[50]? = some (.bool s.t50) ∧ i2 ≠ i3
def P30_3 (s : Fr30) (st : ASt) : Prop := P30_3' s st.tmps st.h
def P30_4' (s : Fr30) (t : List AVal) (h : AHeap) : Prop := ∃ i2 w2_0 w2_1 i3 w3_0 w3_1, t.length = 51 ∧ t[2]? = some (.ptr i2 0) ∧ h.get i2 = some (.arr [.int .i64 s.t2.Kind, w2_0, w2_1]) ∧ i2 < h.next ∧ Sl rS s.t2.Columns w2_0 ∧ Sl (rSl rS) s.t2.Sets w2_1 ∧ t[3]? = some (.ptr i3 0) ∧ h.get i3 = some (.arr [.int .i64 s.t3.Kind, w3_0, w3_1]) ∧ i3 < h.next ∧ Sl rS s.t3.Columns w3_0 ∧ Sl (rSl rS) s.t3.Sets w3_1 ∧ t[6]? = some (.int .i64 s.t6) ∧ t[7]? = some (.bool s.t7) ∧ i2 ≠ i3
def P30_4 (s : Fr30) (st : ASt) : Prop := P30_4' s st.tmps st.h
def P30_5' (s : Fr30) (t : List AVal) (h : AHeap) : Prop := ∃ i2 w2_0 w2_1 i3 w3_0 w3_1, t.length = 51 ∧ t[2]? = some (.ptr i2 0) ∧ h.get i2 = some (.arr [.int .i64 s.t2.Kind, w2_0, w2_1]) ∧ i2 < h.next ∧ Sl rS s.t2.Columns w2_0 ∧ Sl (rSl rS) s.t2.Sets w2_1 ∧ t[3]? = some (.ptr i3 0) ∧ h.get i3 = some (.arr [.int .i64 s.t3.Kind, w3_0, w3_1]) ∧ i3 < h.next ∧ Sl rS s.t3.Columns w3_0 ∧ Sl (rSl rS) s.t3.Sets w3_1 ∧ t[6]? = some (.int .i64 s.t6) ∧ t[35]? = some (.bool s.t35) ∧ i2 ≠ i3
def P30_5 (s : Fr30) (st : ASt) : Prop := P30_5' s st.tmps st.h
def P30_6' (s : Fr30) (t : List AVal) (h : AHeap) : Prop := ∃ i2 w2_0 w2_1 i3 w3_0 w3_1, t.length = 51 ∧ t[2]? = some (.ptr i2 0) ∧ h.get i2 = some (.arr [.int .i64 s.t2.Kind, w2_0, w2_1]) ∧ i2 < h.next ∧ Sl rS s.t2.Columns w2_0 ∧ Sl (rSl rS) s.t2.Sets w2_1 ∧ t[3]? = some (.ptr i3 0) ∧ h.get i3 = some (.arr [.int .i64 s.t3.Kind, w3_0, w3_1]) ∧ i3 < h.next ∧ Sl rS s.t3.Columns w3_0 ∧ Sl (rSl rS) s.t3.Sets w3_1 ∧ i2 ≠ i3
def P30_6 (s : Fr30) (st : ASt) : Prop := P30_6' s st.tmps st.h
def P30_7' (s : Fr30) (t : List AVal) (h : AHeap) : Prop := ∃ i2 w2_0 w2_1 i3 w3_0 w3_1, t.length = 51 ∧ t[2]? = some (.ptr i2 0) ∧ h.get i2 = some (.arr [.int .i64 s.t2.Kind, w2_0, w2_1]) ∧ i2 < h.next ∧ Sl rS s.t2.Columns w2_0 ∧ Sl (rSl rS) s.t2.Sets w2_1 ∧ t[3]? = some (.ptr i3 0) ∧ h.get i3 = some (.arr [.int .i64 s.t3.Kind, w3_0, w3_1]) ∧ i3 < h.next ∧ Sl rS s.t3.Columns w3_0 ∧ Sl (rSl rS) s.t3.Sets w3_1 ∧ t[30]? = some (.bool s.t30) ∧ i2 ≠ i3
def P30_7 (s : Fr30) (st : ASt) : Prop := P30_7' s st.tmps st.h
def P30_8' (s : Fr30) (t : List AVal) (h : AHeap) : Prop := ∃ i2 w2_0 w2_1 i3 w3_0 w3_1, t.length = 51 ∧ t[2]? = some (.ptr i2 0) ∧ h.get i2 = some (.arr [.int .i64 s.t2.Kind, w2_0, w2_1]) ∧ i2 < h.next ∧ Sl rS s.t2.Columns w2_0 ∧ Sl (rSl rS) s.t2.Sets w2_1 ∧ t[3]? = some (.ptr i3 0) ∧ h.get i3 = some (.arr [.int .i64 s.t3.Kind, w3_0, w3_1]) ∧ i3 < h.next ∧ Sl rS s.t3.Columns w3_0 ∧ Sl (rSl rS) s.t3.Sets w3_1 ∧ t[5]? = some (.bool s.t5) ∧ i2 ≠ i3
def P30_8 (s : Fr30) (st : ASt) : Prop := P30_8' s st.tmps st.h
def P30_9' (s : Fr30) (t : List AVal) (h : AHeap) : Prop := ∃ w0_0 w0_1 w1_0 w1_1, t.length = 51 ∧ t[0]? = some (.agg [.int .i64 s.t0.Kind, w0_0, w0_1]) ∧ Sl rS s.t0.Columns w0_0 ∧ Sl (rSl rS) s.t0.Sets w0_1 ∧ t[1]? = some (.agg [.int .i64 s.t1.Kind, w1_0, w1_1]) ∧ Sl rS s.t1.Columns w1_0 ∧ Sl (rSl rS) s.t1.Sets w1_1
def P30_9 (s : Fr30) (st : ASt) : Prop := P30_9' s st.tmps st.h
noncomputable def m30_0 : Mo Fr30 := fun s => some (.nrm, { s with t4 := true })
noncomputable def m30_1 : Mo Fr30 := fun s => some (.nrm, { s with t6 := IntKind.wrap .i64 (s.t6 + 1) })
noncomputable def m30_2 : Mo Fr30 := fun s => some (.nrm, { s with t4 := false })
noncomputable def m30_3 : Mo Fr30 := fun s => some (.nrm, { s with t50 := (!s.t7) })
noncomputable def m30_4 : Mo Fr30 := fun s => (at? s.t2.Sets s.t6).bind fun y2 => (at? s.t3.Sets s.t6).bind fun y5 => (G82 y2 y5).bind fun z7 => some (.nrm, { s with t7 := z7 })
noncomputable def m30_5 : Mo Fr30 := fun s => some (.nrm, { s with t35 := decide (s.t6 < (s.t2.Sets.length : Int)) })
noncomputable def L30_6 : Mo Fr30 := seqM (seqM (m30_5) (condM (fun s => s.t35) (skipM) (exitM 0))) (seqM (blockM 1 (seqM (m30_4) (seqM (m30_3) (condM (fun s => s.t50) (seqM (m30_2) (retM)) (skipM))))) (m30_1))
noncomputable def m30_7 : Mo Fr30 := fun s => some (.nrm, { s with t6 := 0 })
noncomputable def m30_8 : Mo Fr30 := fun s => some (.nrm, { s with t4 := false })
noncomputable def m30_9 : Mo Fr30 := fun s => some (.nrm, { s with t30 := (((!s.t5) || (s.t2.Kind != s.t3.Kind)) || ((s.t2.Sets.length : Int) != (s.t3.Sets.length : Int))) })
noncomputable def m30_10 : Mo Fr30 := fun s => (G82 s.t2.Columns s.t3.Columns).bind fun z37 => some (.nrm, { s with t5 := z37 })
noncomputable def m30_11 : Mo Fr30 := fun s => some (.nrm, { s with t2 := s.t0, t3 := s.t1 })
noncomputable def M30 : Mo Fr30 := seqM (m30_11) (seqM (m30_10) (seqM (seqM (m30_9) (condM (fun s => s.t30) (seqM (m30_8) (retM)) (skipM))) (seqM (seqM (m30_7) (blockM 0 (loopM (L30_6)))) (seqM (m30_0) (retM)))))
def Spec30 (f : Group → Group → Option Bool) : Prop := ∀ (x0 : Group) (x1 : Group) (vx0_0 : AVal) (_ : Sl rS x0.Columns vx0_0) (vx0_1 : AVal) (_ : Sl (rSl rS) x0.Sets vx0_1) (vx1_0 : AVal) (_ : Sl rS x1.Columns vx1_0) (vx1_1 : AVal) (_ : Sl (rSl rS) x1.Sets vx1_1) (r : Bool), f x0 x1 = some r → ∀ h, run Cp 30 [.agg [.int .i64 x0.Kind, vx0_0, vx0_1], .agg [.int .i64 x1.Kind, vx1_0, vx1_1]] h = some (.ret (.bool r), h)
theorem Spec30_of {f g : Group → Group → Option Bool} (hg : Spec30 g) (h : ∀ x0 x1 r, f x0 x1 = some r → g x0 x1 = some r) : Spec30 f := fun x0 x1 v0_ w0_ v1_ w1_ v2_ w2_ v3_ w3_ r hr => hg x0 x1 v0_ w0_ v1_ w1_ v2_ w2_ v3_ w3_ r (h x0 x1 r hr)
theorem R30_0 (pe : Nat → Fr30 → ASt → Prop) (pr : Fr30 → ASt → Prop) : Ref Cp P30_0 (Cat [true, true, true, true, false] (bodyOf Tryz.f30)) m30_0 (post P30_1 pe pr) := by
  rintro s ⟨t, h⟩ hp x s' hm
  have hp : P30_0' s t h := hp
  obtain ⟨hl, _⟩ := hp
  unfold m30_0 at hm
  cases hm
  refine ⟨⟨_, _⟩, by
      simp only [bodyOf, Tryz.f30, Cat, Bool.false_eq_true, e_seq, e_region, e_cond, e_block, ex_skip, ex_exit, ex_ret, o_cons, xops_nil, k_want_none, k_want_false, k_val, k_pan, k_call, k_ret, k_seq, k_seq_exit, k_seq_ret, k_true, k_false, k_block, k_block_exit, k_block_ret, k_loop, k_loop_exit, k_loop_ret, awanted, aoper, evalO, put, Option.getD_some, List.getElem?_set, acallOp, abuiltin, List.map_cons, List.map_nil, Nat.reduceEqDiff, Nat.reduceLT, List.length_set, Option.map_some, Option.bind_some, Option.bind_eq_bind, add_i, sub_i, mul_i, eql_i, neq_i, lss_i, leq_i, gtr_i, geq_i, ofV, ofCell, ↓reduceIte, List.cons_append, List.nil_append, List.append_nil, List.getElem?_toArray, List.getElem?_cons_succ, List.getElem?_cons_zero, e_draw, g_nil, g_cons, g_want, g_skip, g_val, g_call, g_ret, Option.map_none, hl, CP, bq1, bq2, bq3, bq4, ex_tup]
      exact rfl, ?_⟩
  show P30_1 _ _
  exact ⟨by simp [hl], by simp [hl]⟩
theorem R30_1 (pe : Nat → Fr30 → ASt → Prop) (pr : Fr30 → ASt → Prop) : Ref Cp P30_2 (Cat [true, true, true, false, true, true, true, true, true] (bodyOf Tryz.f30)) m30_1 (post P30_2 pe pr) := by
  rintro s ⟨t, h⟩ hp x s' hm
  have hp : P30_2' s t h := hp
  obtain ⟨i2, w2_0, w2_1, i3, w3_0, w3_1, hl, a2, g2, l2, r2_0, r2_1, a3, g3, l3, r3_0, r3_1, a6, ne2_3⟩ := hp
  unfold m30_1 at hm
  cases hm
  refine ⟨⟨_, _⟩, by
      simp only [bodyOf, Tryz.f30, Cat, Bool.false_eq_true, e_seq, e_region, e_cond, e_block, ex_skip, ex_exit, ex_ret, o_cons, xops_nil, k_want_none, k_want_false, k_val, k_pan, k_call, k_ret, k_seq, k_seq_exit, k_seq_ret, k_true, k_false, k_block, k_block_exit, k_block_ret, k_loop, k_loop_exit, k_loop_ret, awanted, aoper, evalO, put, Option.getD_some, List.getElem?_set, acallOp, abuiltin, List.map_cons, List.map_nil, Nat.reduceEqDiff, Nat.reduceLT, List.length_set, Option.map_some, Option.bind_some, Option.bind_eq_bind, add_i, sub_i, mul_i, eql_i, neq_i, lss_i, leq_i, gtr_i, geq_i, ofV, ofCell, ↓reduceIte, List.cons_append, List.nil_append, List.append_nil, List.getElem?_toArray, List.getElem?_cons_succ, List.getElem?_cons_zero, e_draw, g_nil, g_cons, g_want, g_skip, g_val, g_call, g_ret, Option.map_none, hl, a2, a3, a6, CP, bq1, bq2, bq3, bq4, ex_tup]
      exact rfl, ?_⟩
  show P30_2 _ _
  exact ⟨i2, w2_0, w2_1, i3, w3_0, w3_1, by simp [hl], by simp [a2], g2, l2, r2_0, r2_1, by simp [a3], g3, l3, r3_0, r3_1, by simp [hl], ne2_3⟩
theorem R30_2 (pe : Nat → Fr30 → ASt → Prop) (pr : Fr30 → ASt → Prop) : Ref Cp P30_0 (Cat [true, true, true, false, true, true, true, true, false, true, true, true, false, false] (bodyOf Tryz.f30)) m30_2 (post P30_1 pe pr) := by
  rintro s ⟨t, h⟩ hp x s' hm
  have hp : P30_0' s t h := hp
  obtain ⟨hl, _⟩ := hp
  unfold m30_2 at hm
  cases hm
  refine ⟨⟨_, _⟩, by
      simp only [bodyOf, Tryz.f30, Cat, Bool.false_eq_true, e_seq, e_region, e_cond, e_block, ex_skip, ex_exit, ex_ret, o_cons, xops_nil, k_want_none, k_want_false, k_val, k_pan, k_call, k_ret, k_seq, k_seq_exit, k_seq_ret, k_true, k_false, k_block, k_block_exit, k_block_ret, k_loop, k_loop_exit, k_loop_ret, awanted, aoper, evalO, put, Option.getD_some, List.getElem?_set, acallOp, abuiltin, List.map_cons, List.map_nil, Nat.reduceEqDiff, Nat.reduceLT, List.length_set, Option.map_some, Option.bind_some, Option.bind_eq_bind, add_i, sub_i, mul_i, eql_i, neq_i, lss_i, leq_i, gtr_i, geq_i, ofV, ofCell, ↓reduceIte, List.cons_append, List.nil_append, List.append_nil, List.getElem?_toArray, List.getElem?_cons_succ, List.getElem?_cons_zero, e_draw, g_nil, g_cons, g_want, g_skip, g_val, g_call, g_ret, Option.map_none, hl, CP, bq1, bq2, bq3, bq4, ex_tup]
      exact rfl, ?_⟩
  show P30_1 _ _
  exact ⟨by simp [hl], by simp [hl]⟩
theorem R30_3 (pe : Nat → Fr30 → ASt → Prop) (pr : Fr30 → ASt → Prop) : Ref Cp P30_4 (Cat [true, true, true, false, true, true, true, true, false, true, true, false] (bodyOf Tryz.f30)) m30_3 (post P30_3 pe pr) := by
  rintro s ⟨t, h⟩ hp x s' hm
  have hp : P30_4' s t h := hp
  obtain ⟨i2, w2_0, w2_1, i3, w3_0, w3_1, hl, a2, g2, l2, r2_0, r2_1, a3, g3, l3, r3_0, r3_1, a6, a7, ne2_3⟩ := hp
  unfold m30_3 at hm
  cases hm
  refine ⟨⟨_, _⟩, by
      simp only [bodyOf, Tryz.f30, Cat, Bool.false_eq_true, e_seq, e_region, e_cond, e_block, ex_skip, ex_exit, ex_ret, o_cons, xops_nil, k_want_none, k_want_false, k_val, k_pan, k_call, k_ret, k_seq, k_seq_exit, k_seq_ret, k_true, k_false, k_block, k_block_exit, k_block_ret, k_loop, k_loop_exit, k_loop_ret, awanted, aoper, evalO, put, Option.getD_some, List.getElem?_set, acallOp, abuiltin, List.map_cons, List.map_nil, Nat.reduceEqDiff, Nat.reduceLT, List.length_set, Option.map_some, Option.bind_some, Option.bind_eq_bind, add_i, sub_i, mul_i, eql_i, neq_i, lss_i, leq_i, gtr_i, geq_i, ofV, ofCell, ↓reduceIte, List.cons_append, List.nil_append, List.append_nil, List.getElem?_toArray, List.getElem?_cons_succ, List.getElem?_cons_zero, e_draw, g_nil, g_cons, g_want, g_skip, g_val, g_call, g_ret, Option.map_none, hl, a2, a3, a6, a7, CP, bq1, bq2, bq3, bq4, ex_tup, aun_not]
      exact rfl, ?_⟩
  show P30_3 _ _
  exact ⟨i2, w2_0, w2_1, i3, w3_0, w3_1, by simp [hl], by simp [a2], g2, l2, r2_0, r2_1, by simp [a3], g3, l3, r3_0, r3_1, by simp [a6], by simp [hl], ne2_3⟩
theorem R30_4 (pe : Nat → Fr30 → ASt → Prop) (pr : Fr30 → ASt → Prop) : Ref Cp P30_2 (Cat [true, true, true, false, true, true, true, true, false, true, false] (bodyOf Tryz.f30)) m30_4 (post P30_4 pe pr) := by
  rintro s ⟨t, h⟩ hp x s' hm
  have hp : P30_2' s t h := hp
  obtain ⟨i2, w2_0, w2_1, i3, w3_0, w3_1, hl, a2, g2, l2, r2_0, r2_1, a3, g3, l3, r3_0, r3_1, a6, ne2_3⟩ := hp
  unfold m30_4 at hm
  have k9 : loadA h false 1 (.ptr i2 2) = some w2_1 := by rw [Heap.load_gen g2 (Nat.le_of_ble_eq_true rfl)]; first | rfl | exact ofc1 _ _ _
  obtain ⟨y10, hy10, hm⟩ := Option.bind_eq_some_iff.1 hm
  obtain ⟨cu11, du11, eu11, iu11, _⟩ := Sl.ix (rSl_p rS_p) r2_1 hy10
  obtain ⟨bu11_0, rfl, gu11_0⟩ := eu11
  have k12 : loadA h false 1 (.ptr i3 2) = some w3_1 := by rw [Heap.load_gen g3 (Nat.le_of_ble_eq_true rfl)]; first | rfl | exact ofc1 _ _ _
  obtain ⟨y13, hy13, hm⟩ := Option.bind_eq_some_iff.1 hm
  obtain ⟨cu14, du14, eu14, iu14, _⟩ := Sl.ix (rSl_p rS_p) r3_1 hy13
  obtain ⟨bu14_0, rfl, gu14_0⟩ := eu14
  obtain ⟨z15, hz15, hm⟩ := Option.bind_eq_some_iff.1 hm
  have iu16 := G82_spec y10 y13 _ gu11_0 _ gu14_0 _ hz15
  have apu16 : apure Cp 82 [bu11_0, bu14_0] = true := apure_of rfl rfl (by simp only [refsL, refs, List.append_nil, List.nil_append, gu11_0.refs rS_p, gu14_0.refs rS_p])
  cases hm
  refine ⟨⟨_, _⟩, by
      simp only [bodyOf, Tryz.f30, Cat, Bool.false_eq_true, e_seq, e_region, e_cond, e_block, ex_skip, ex_exit, ex_ret, o_cons, xops_nil, k_want_none, k_want_false, k_val, k_pan, k_call, k_ret, k_seq, k_seq_exit, k_seq_ret, k_true, k_false, k_block, k_block_exit, k_block_ret, k_loop, k_loop_exit, k_loop_ret, awanted, aoper, evalO, put, Option.getD_some, List.getElem?_set, acallOp, abuiltin, List.map_cons, List.map_nil, Nat.reduceEqDiff, Nat.reduceLT, List.length_set, Option.map_some, Option.bind_some, Option.bind_eq_bind, add_i, sub_i, mul_i, eql_i, neq_i, lss_i, leq_i, gtr_i, geq_i, ofV, ofCell, ↓reduceIte, List.cons_append, List.nil_append, List.append_nil, List.getElem?_toArray, List.getElem?_cons_succ, List.getElem?_cons_zero, e_draw, g_nil, g_cons, g_want, g_skip, g_val, g_call, g_ret, Option.map_none, hl, a2, a3, a6, CP, bq1, bq2, bq3, bq4, ex_tup, Ty.fa65_2, dropCells, Nat.zero_add, Nat.reduceAdd, k9, Ty.ld63, Ty.ix63, iu11, Ty.ld52, ld_ip, ofc1, List.drop_succ_cons, List.drop_zero, k12, iu14, iu16, apu16, if_true]
      rw [k_draw _ _ _ (by kernel_rfl)]
      exact rfl, ?_⟩
  show P30_4 _ _
  exact ⟨i2, w2_0, w2_1, i3, w3_0, w3_1, by simp [hl], by simp [a2], g2, l2, r2_0, r2_1, by simp [a3], g3, l3, r3_0, r3_1, by simp [a6], by simp [hl], ne2_3⟩
theorem R30_5 (pe : Nat → Fr30 → ASt → Prop) (pr : Fr30 → ASt → Prop) : Ref Cp P30_2 (Cat [true, true, true, false, true, true, true, false, false] (bodyOf Tryz.f30)) m30_5 (post P30_5 pe pr) := by
  rintro s ⟨t, h⟩ hp x s' hm
  have hp : P30_2' s t h := hp
  obtain ⟨i2, w2_0, w2_1, i3, w3_0, w3_1, hl, a2, g2, l2, r2_0, r2_1, a3, g3, l3, r3_0, r3_1, a6, ne2_3⟩ := hp
  unfold m30_5 at hm
  have k19 : loadA h false 1 (.ptr i2 2) = some w2_1 := by rw [Heap.load_gen g2 (Nat.le_of_ble_eq_true rfl)]; first | rfl | exact ofc1 _ _ _
  have lu20 := fun h => Sl.len r2_1 Ty.un63 h
  cases hm
  refine ⟨⟨_, _⟩, by
      simp only [bodyOf, Tryz.f30, Cat, Bool.false_eq_true, e_seq, e_region, e_cond, e_block, ex_skip, ex_exit, ex_ret, o_cons, xops_nil, k_want_none, k_want_false, k_val, k_pan, k_call, k_ret, k_seq, k_seq_exit, k_seq_ret, k_true, k_false, k_block, k_block_exit, k_block_ret, k_loop, k_loop_exit, k_loop_ret, awanted, aoper, evalO, put, Option.getD_some, List.getElem?_set, acallOp, abuiltin, List.map_cons, List.map_nil, Nat.reduceEqDiff, Nat.reduceLT, List.length_set, Option.map_some, Option.bind_some, Option.bind_eq_bind, add_i, sub_i, mul_i, eql_i, neq_i, lss_i, leq_i, gtr_i, geq_i, ofV, ofCell, ↓reduceIte, List.cons_append, List.nil_append, List.append_nil, List.getElem?_toArray, List.getElem?_cons_succ, List.getElem?_cons_zero, e_draw, g_nil, g_cons, g_want, g_skip, g_val, g_call, g_ret, Option.map_none, hl, a2, a3, a6, CP, bq1, bq2, bq3, bq4, ex_tup, Ty.fa65_2, dropCells, Nat.zero_add, Nat.reduceAdd, k19, Ty.ld63, lu20]
      exact rfl, ?_⟩
  show P30_5 _ _
  exact ⟨i2, w2_0, w2_1, i3, w3_0, w3_1, by simp [hl], by simp [a2], g2, l2, r2_0, r2_1, by simp [a3], g3, l3, r3_0, r3_1, by simp [a6], by simp [hl], ne2_3⟩
theorem R30_7 (pe : Nat → Fr30 → ASt → Prop) (pr : Fr30 → ASt → Prop) : Ref Cp P30_6 (Cat [true, true, true, false, false] (bodyOf Tryz.f30)) m30_7 (post P30_2 pe pr) := by
  rintro s ⟨t, h⟩ hp x s' hm
  have hp : P30_6' s t h := hp
  obtain ⟨i2, w2_0, w2_1, i3, w3_0, w3_1, hl, a2, g2, l2, r2_0, r2_1, a3, g3, l3, r3_0, r3_1, ne2_3⟩ := hp
  unfold m30_7 at hm
  cases hm
  refine ⟨⟨_, _⟩, by
      simp only [bodyOf, Tryz.f30, Cat, Bool.false_eq_true, e_seq, e_region, e_cond, e_block, ex_skip, ex_exit, ex_ret, o_cons, xops_nil, k_want_none, k_want_false, k_val, k_pan, k_call, k_ret, k_seq, k_seq_exit, k_seq_ret, k_true, k_false, k_block, k_block_exit, k_block_ret, k_loop, k_loop_exit, k_loop_ret, awanted, aoper, evalO, put, Option.getD_some, List.getElem?_set, acallOp, abuiltin, List.map_cons, List.map_nil, Nat.reduceEqDiff, Nat.reduceLT, List.length_set, Option.map_some, Option.bind_some, Option.bind_eq_bind, add_i, sub_i, mul_i, eql_i, neq_i, lss_i, leq_i, gtr_i, geq_i, ofV, ofCell, ↓reduceIte, List.cons_append, List.nil_append, List.append_nil, List.getElem?_toArray, List.getElem?_cons_succ, List.getElem?_cons_zero, e_draw, g_nil, g_cons, g_want, g_skip, g_val, g_call, g_ret, Option.map_none, hl, a2, a3, CP, bq1, bq2, bq3, bq4, ex_tup]
      exact rfl, ?_⟩
  show P30_2 _ _
  exact ⟨i2, w2_0, w2_1, i3, w3_0, w3_1, by simp [hl], by simp [a2], g2, l2, r2_0, r2_1, by simp [a3], g3, l3, r3_0, r3_1, by simp [hl], ne2_3⟩
theorem R30_8 (pe : Nat → Fr30 → ASt → Prop) (pr : Fr30 → ASt → Prop) : Ref Cp P30_0 (Cat [true, true, false, true, false, false] (bodyOf Tryz.f30)) m30_8 (post P30_1 pe pr) := by
  rintro s ⟨t, h⟩ hp x s' hm
  have hp : P30_0' s t h := hp
  obtain ⟨hl, _⟩ := hp
  unfold m30_8 at hm
  cases hm
  refine ⟨⟨_, _⟩, by
      simp only [bodyOf, Tryz.f30, Cat, Bool.false_eq_true, e_seq, e_region, e_cond, e_block, ex_skip, ex_exit, ex_ret, o_cons, xops_nil, k_want_none, k_want_false, k_val, k_pan, k_call, k_ret, k_seq, k_seq_exit, k_seq_ret, k_true, k_false, k_block, k_block_exit, k_block_ret, k_loop, k_loop_exit, k_loop_ret, awanted, aoper, evalO, put, Option.getD_some, List.getElem?_set, acallOp, abuiltin, List.map_cons, List.map_nil, Nat.reduceEqDiff, Nat.reduceLT, List.length_set, Option.map_some, Option.bind_some, Option.bind_eq_bind, add_i, sub_i, mul_i, eql_i, neq_i, lss_i, leq_i, gtr_i, geq_i, ofV, ofCell, ↓reduceIte, List.cons_append, List.nil_append, List.append_nil, List.getElem?_toArray, List.getElem?_cons_succ, List.getElem?_cons_zero, e_draw, g_nil, g_cons, g_want, g_skip, g_val, g_call, g_ret, Option.map_none, hl, CP, bq1, bq2, bq3, bq4, ex_tup]
      exact rfl, ?_⟩
  show P30_1 _ _
  exact ⟨by simp [hl], by simp [hl]⟩
theorem R30_9 (pe : Nat → Fr30 → ASt → Prop) (pr : Fr30 → ASt → Prop) : Ref Cp P30_8 (Cat [true, true, false, false] (bodyOf Tryz.f30)) m30_9 (post P30_7 pe pr) := by
  rintro s ⟨t, h⟩ hp x s' hm
  have hp : P30_8' s t h := hp
  obtain ⟨i2, w2_0, w2_1, i3, w3_0, w3_1, hl, a2, g2, l2, r2_0, r2_1, a3, g3, l3, r3_0, r3_1, a5, ne2_3⟩ := hp
  unfold m30_9 at hm
  cases hb27 : (!s.t5) with
  | true =>
    all_goals (
      try simp only [hb27, cond_true, cond_false, Option.bind_some, Option.bind_assoc, Bool.not_true, Bool.not_false, Bool.true_and, Bool.false_and, Bool.and_true, Bool.and_false, Bool.true_or, Bool.false_or] at hm
      cases hm
      refine ⟨⟨_, _⟩, by
          simp only [bodyOf, Tryz.f30, Cat, Bool.false_eq_true, e_seq, e_region, e_cond, e_block, ex_skip, ex_exit, ex_ret, o_cons, xops_nil, k_want_none, k_want_false, k_val, k_pan, k_call, k_ret, k_seq, k_seq_exit, k_seq_ret, k_true, k_false, k_block, k_block_exit, k_block_ret, k_loop, k_loop_exit, k_loop_ret, awanted, aoper, evalO, put, Option.getD_some, List.getElem?_set, acallOp, abuiltin, List.map_cons, List.map_nil, Nat.reduceEqDiff, Nat.reduceLT, List.length_set, Option.map_some, Option.bind_some, Option.bind_eq_bind, add_i, sub_i, mul_i, eql_i, neq_i, lss_i, leq_i, gtr_i, geq_i, ofV, ofCell, ↓reduceIte, List.cons_append, List.nil_append, List.append_nil, List.getElem?_toArray, List.getElem?_cons_succ, List.getElem?_cons_zero, e_draw, g_nil, g_cons, g_want, g_skip, g_val, g_call, g_ret, Option.map_none, hl, a2, a3, a5, CP, bq1, bq2, bq3, bq4, ex_tup, aun_not, hb27]
          exact rfl, ?_⟩
      show P30_7 _ _
      exact ⟨i2, w2_0, w2_1, i3, w3_0, w3_1, by simp [hl], by simp [a2], g2, l2, r2_0, r2_1, by simp [a3], g3, l3, r3_0, r3_1, by simp [hl, hb27], ne2_3⟩)
  | false =>
    all_goals (
      try simp only [hb27, cond_true, cond_false, Option.bind_some, Option.bind_assoc, Bool.not_true, Bool.not_false, Bool.true_and, Bool.false_and, Bool.and_true, Bool.and_false, Bool.true_or, Bool.false_or] at hm
      have k28 : loadA h false 1 (.ptr i2 0) = some (.int .i64 s.t2.Kind) := by rw [Heap.load_gen g2 (Nat.le_of_ble_eq_true rfl)]; first | rfl | exact ofc1 _ _ _
      have k29 : loadA h false 1 (.ptr i3 0) = some (.int .i64 s.t3.Kind) := by rw [Heap.load_gen g3 (Nat.le_of_ble_eq_true rfl)]; first | rfl | exact ofc1 _ _ _
      cases hb30 : (s.t2.Kind != s.t3.Kind) with
      | true =>
        all_goals (
          try simp only [hb30, cond_true, cond_false, Option.bind_some, Option.bind_assoc, Bool.not_true, Bool.not_false, Bool.true_and, Bool.false_and, Bool.and_true, Bool.and_false, Bool.true_or, Bool.false_or] at hm
          cases hm
          refine ⟨⟨_, _⟩, by
              simp only [bodyOf, Tryz.f30, Cat, Bool.false_eq_true, e_seq, e_region, e_cond, e_block, ex_skip, ex_exit, ex_ret, o_cons, xops_nil, k_want_none, k_want_false, k_val, k_pan, k_call, k_ret, k_seq, k_seq_exit, k_seq_ret, k_true, k_false, k_block, k_block_exit, k_block_ret, k_loop, k_loop_exit, k_loop_ret, awanted, aoper, evalO, put, Option.getD_some, List.getElem?_set, acallOp, abuiltin, List.map_cons, List.map_nil, Nat.reduceEqDiff, Nat.reduceLT, List.length_set, Option.map_some, Option.bind_some, Option.bind_eq_bind, add_i, sub_i, mul_i, eql_i, neq_i, lss_i, leq_i, gtr_i, geq_i, ofV, ofCell, ↓reduceIte, List.cons_append, List.nil_append, List.append_nil, List.getElem?_toArray, List.getElem?_cons_succ, List.getElem?_cons_zero, e_draw, g_nil, g_cons, g_want, g_skip, g_val, g_call, g_ret, Option.map_none, hl, a2, a3, a5, CP, bq1, bq2, bq3, bq4, ex_tup, aun_not, Ty.fa65_0, dropCells, Nat.zero_add, Nat.reduceAdd, k28, Ty.ld3, k29, hb27, hb30]
              exact rfl, ?_⟩
          show P30_7 _ _
          exact ⟨i2, w2_0, w2_1, i3, w3_0, w3_1, by simp [hl], by simp [a2], g2, l2, r2_0, r2_1, by simp [a3], g3, l3, r3_0, r3_1, by simp [hl, hb27, hb30], ne2_3⟩)
      | false =>
        all_goals (
          try simp only [hb30, cond_true, cond_false, Option.bind_some, Option.bind_assoc, Bool.not_true, Bool.not_false, Bool.true_and, Bool.false_and, Bool.and_true, Bool.and_false, Bool.true_or, Bool.false_or] at hm
          have k31 : loadA h false 1 (.ptr i2 2) = some w2_1 := by rw [Heap.load_gen g2 (Nat.le_of_ble_eq_true rfl)]; first | rfl | exact ofc1 _ _ _
          have lu32 := fun h => Sl.len r2_1 Ty.un63 h
          have k33 : loadA h false 1 (.ptr i3 2) = some w3_1 := by rw [Heap.load_gen g3 (Nat.le_of_ble_eq_true rfl)]; first | rfl | exact ofc1 _ _ _
          have lu34 := fun h => Sl.len r3_1 Ty.un63 h
          cases hm
          refine ⟨⟨_, _⟩, by
              simp only [bodyOf, Tryz.f30, Cat, Bool.false_eq_true, e_seq, e_region, e_cond, e_block, ex_skip, ex_exit, ex_ret, o_cons, xops_nil, k_want_none, k_want_false, k_val, k_pan, k_call, k_ret, k_seq, k_seq_exit, k_seq_ret, k_true, k_false, k_block, k_block_exit, k_block_ret, k_loop, k_loop_exit, k_loop_ret, awanted, aoper, evalO, put, Option.getD_some, List.getElem?_set, acallOp, abuiltin, List.map_cons, List.map_nil, Nat.reduceEqDiff, Nat.reduceLT, List.length_set, Option.map_some, Option.bind_some, Option.bind_eq_bind, add_i, sub_i, mul_i, eql_i, neq_i, lss_i, leq_i, gtr_i, geq_i, ofV, ofCell, ↓reduceIte, List.cons_append, List.nil_append, List.append_nil, List.getElem?_toArray, List.getElem?_cons_succ, List.getElem?_cons_zero, e_draw, g_nil, g_cons, g_want, g_skip, g_val, g_call, g_ret, Option.map_none, hl, a2, a3, a5, CP, bq1, bq2, bq3, bq4, ex_tup, aun_not, Ty.fa65_0, dropCells, Nat.zero_add, Nat.reduceAdd, k28, Ty.ld3, k29, Ty.fa65_2, k31, Ty.ld63, lu32, k33, lu34, hb27, hb30]
              exact rfl, ?_⟩
          show P30_7 _ _
          exact ⟨i2, w2_0, w2_1, i3, w3_0, w3_1, by simp [hl], by simp [a2], g2, l2, r2_0, r2_1, by simp [a3], g3, l3, r3_0, r3_1, by simp [hl, hb27, hb30], ne2_3⟩))
theorem R30_10 (pe : Nat → Fr30 → ASt → Prop) (pr : Fr30 → ASt → Prop) : Ref Cp P30_6 (Cat [true, false] (bodyOf Tryz.f30)) m30_10 (post P30_8 pe pr) := by
  rintro s ⟨t, h⟩ hp x s' hm
  have hp : P30_6' s t h := hp
  obtain ⟨i2, w2_0, w2_1, i3, w3_0, w3_1, hl, a2, g2, l2, r2_0, r2_1, a3, g3, l3, r3_0, r3_1, ne2_3⟩ := hp
  unfold m30_10 at hm
  have k39 : loadA h false 1 (.ptr i2 1) = some w2_0 := by rw [Heap.load_gen g2 (Nat.le_of_ble_eq_true rfl)]; first | rfl | exact ofc1 _ _ _
  have k40 : loadA h false 1 (.ptr i3 1) = some w3_0 := by rw [Heap.load_gen g3 (Nat.le_of_ble_eq_true rfl)]; first | rfl | exact ofc1 _ _ _
  obtain ⟨z41, hz41, hm⟩ := Option.bind_eq_some_iff.1 hm
  have iu42 := G82_spec s.t2.Columns s.t3.Columns _ r2_0 _ r3_0 _ hz41
  cases hm
  refine ⟨⟨_, _⟩, by
      simp only [bodyOf, Tryz.f30, Cat, Bool.false_eq_true, e_seq, e_region, e_cond, e_block, ex_skip, ex_exit, ex_ret, o_cons, xops_nil, k_want_none, k_want_false, k_val, k_pan, k_call, k_ret, k_seq, k_seq_exit, k_seq_ret, k_true, k_false, k_block, k_block_exit, k_block_ret, k_loop, k_loop_exit, k_loop_ret, awanted, aoper, evalO, put, Option.getD_some, List.getElem?_set, acallOp, abuiltin, List.map_cons, List.map_nil, Nat.reduceEqDiff, Nat.reduceLT, List.length_set, Option.map_some, Option.bind_some, Option.bind_eq_bind, add_i, sub_i, mul_i, eql_i, neq_i, lss_i, leq_i, gtr_i, geq_i, ofV, ofCell, ↓reduceIte, List.cons_append, List.nil_append, List.append_nil, List.getElem?_toArray, List.getElem?_cons_succ, List.getElem?_cons_zero, e_draw, g_nil, g_cons, g_want, g_skip, g_val, g_call, g_ret, Option.map_none, hl, a2, a3, CP, bq1, bq2, bq3, bq4, ex_tup, Ty.fa65_1, dropCells, Nat.zero_add, Nat.reduceAdd, k39, Ty.ld52, k40, iu42]
      exact rfl, ?_⟩
  show P30_8 _ _
  exact ⟨i2, w2_0, w2_1, i3, w3_0, w3_1, by simp [hl], by simp [a2], g2, l2, r2_0, r2_1, by simp [a3], g3, l3, r3_0, r3_1, by simp [hl], ne2_3⟩
theorem R30_11 (pe : Nat → Fr30 → ASt → Prop) (pr : Fr30 → ASt → Prop) : Ref Cp P30_9 (Cat [false] (bodyOf Tryz.f30)) m30_11 (post P30_6 pe pr) := by
  rintro s ⟨t, h⟩ hp x s' hm
  have hp : P30_9' s t h := hp
  obtain ⟨w0_0, w0_1, w1_0, w1_1, hl, a0, r0_0, r0_1, a1, r1_0, r1_1⟩ := hp
  unfold m30_11 at hm
  obtain ⟨H60, eH60⟩ : ∃ x : AHeap, x = h.new (.arr [.int .i64 s.t0.Kind, w0_0, w0_1]) := ⟨_, rfl⟩
  obtain ⟨id61, eid61⟩ : ∃ x : Nat, x = h.next := ⟨_, rfl⟩
  have k62 : H60.get id61 = some (.arr [.int .i64 s.t0.Kind, w0_0, w0_1]) := by rw [eH60, eid61]; exact Heap.get_new_eq
  have k63 : id61 < H60.next := by rw [eH60, eid61, Heap.new_next]; exact Nat.lt_succ_self _
  have ic64 : (w0_0 : AVal).isCell = true := Sl.isCell r0_0
  have ic65 : (w0_1 : AVal).isCell = true := Sl.isCell r0_1
  have k66 : abox h (.agg [.int .i64 s.t0.Kind, w0_0, w0_1]) = some (.ptr id61 0, H60) := by simp only [abox, eH60, eid61, bx_i, bx_b, bx_s, bx_a, bx_nl, bx_np, bx_ip, bx_ls, cl_i, cl_b, cl_s, cl_a, cl_nl, cl_np, cl_ip, cl_ls, List.all_cons, List.all_nil, Bool.and_self, Bool.and_true, c_i, c_b, c_s, c_nl, c_np, c_ip, c_ls, if_true, ic64, bx_c ic64, cl_c ic64, ic65, bx_c ic65, cl_c ic65]
  obtain ⟨H67, eH67⟩ : ∃ x : AHeap, x = H60.new (.arr [.int .i64 s.t1.Kind, w1_0, w1_1]) := ⟨_, rfl⟩
  obtain ⟨id68, eid68⟩ : ∃ x : Nat, x = H60.next := ⟨_, rfl⟩
  have k69 : H67.get id61 = some (.arr [.int .i64 s.t0.Kind, w0_0, w0_1]) := by rw [eH67, Heap.get_new_lt k63]; exact k62
  have k70 : id61 < H67.next := by rw [eH67, Heap.new_next]; exact Nat.lt_succ_of_lt k63
  have k71 : H67.get id68 = some (.arr [.int .i64 s.t1.Kind, w1_0, w1_1]) := by rw [eH67, eid68]; exact Heap.get_new_eq
  have k72 : id68 < H67.next := by rw [eH67, eid68, Heap.new_next]; exact Nat.lt_succ_self _
  have k73 : id61 ≠ id68 := by rw [eid68]; exact Nat.ne_of_lt k63
  have ic74 : (w1_0 : AVal).isCell = true := Sl.isCell r1_0
  have ic75 : (w1_1 : AVal).isCell = true := Sl.isCell r1_1
  have k76 : abox H60 (.agg [.int .i64 s.t1.Kind, w1_0, w1_1]) = some (.ptr id68 0, H67) := by simp only [abox, eH67, eid68, bx_i, bx_b, bx_s, bx_a, bx_nl, bx_np, bx_ip, bx_ls, cl_i, cl_b, cl_s, cl_a, cl_nl, cl_np, cl_ip, cl_ls, List.all_cons, List.all_nil, Bool.and_self, Bool.and_true, c_i, c_b, c_s, c_nl, c_np, c_ip, c_ls, if_true, ic74, bx_c ic74, cl_c ic74, ic75, bx_c ic75, cl_c ic75]
  cases hm
  refine ⟨⟨_, _⟩, by
      simp only [bodyOf, Tryz.f30, Cat, Bool.false_eq_true, e_seq, e_region, e_cond, e_block, ex_skip, ex_exit, ex_ret, o_cons, xops_nil, k_want_none, k_want_false, k_val, k_pan, k_call, k_ret, k_seq, k_seq_exit, k_seq_ret, k_true, k_false, k_block, k_block_exit, k_block_ret, k_loop, k_loop_exit, k_loop_ret, awanted, aoper, evalO, put, Option.getD_some, List.getElem?_set, acallOp, abuiltin, List.map_cons, List.map_nil, Nat.reduceEqDiff, Nat.reduceLT, List.length_set, Option.map_some, Option.bind_some, Option.bind_eq_bind, add_i, sub_i, mul_i, eql_i, neq_i, lss_i, leq_i, gtr_i, geq_i, ofV, ofCell, ↓reduceIte, List.cons_append, List.nil_append, List.append_nil, List.getElem?_toArray, List.getElem?_cons_succ, List.getElem?_cons_zero, e_draw, g_nil, g_cons, g_want, g_skip, g_val, g_call, g_ret, Option.map_none, hl, a0, a1, CP, bq1, bq2, bq3, bq4, ex_tup, Ty.nc_ref_go_566, k66, k76]
      exact rfl, ?_⟩
  show P30_6 _ _
  exact ⟨id61, w0_0, w0_1, id68, w1_0, w1_1, by simp [hl], by simp [hl], k69, k70, r0_0, r0_1, by simp [hl], k71, k72, r1_0, r1_1, k73⟩
theorem B30 : Ref Cp P30_9 (bodyOf Tryz.f30) (M30) (post P30_1 (fun _ _ _ => False) P30_1) := by
  rw [show bodyOf Tryz.f30 = .seq (Cat [false] (bodyOf Tryz.f30)) (.seq (Cat [true, false] (bodyOf Tryz.f30)) (.seq (.seq (Cat [true, true, false, false] (bodyOf Tryz.f30)) (.cond (.tmp 30) (.seq (Cat [true, true, false, true, false, false] (bodyOf Tryz.f30)) (.ret)) (.skip))) (.seq (.seq (Cat [true, true, true, false, false] (bodyOf Tryz.f30)) (.block 0 (.loop (.seq (.seq (Cat [true, true, true, false, true, true, true, false, false] (bodyOf Tryz.f30)) (.cond (.tmp 35) (.skip) (.exit 0))) (.seq (.block 1 (.seq (Cat [true, true, true, false, true, true, true, true, false, true, false] (bodyOf Tryz.f30)) (.seq (Cat [true, true, true, false, true, true, true, true, false, true, true, false] (bodyOf Tryz.f30)) (.cond (.tmp 50) (.seq (Cat [true, true, true, false, true, true, true, true, false, true, true, true, false, false] (bodyOf Tryz.f30)) (.ret)) (.skip))))) (Cat [true, true, true, false, true, true, true, true, true] (bodyOf Tryz.f30))))))) (.seq (Cat [true, true, true, true, false] (bodyOf Tryz.f30)) (.ret))))) from rfl]
  unfold M30
  exact ref_seq (M := P30_6) (R30_11 _ _) (ref_seq (M := P30_8) (R30_10 _ _) (ref_seq (M := P30_6) (ref_seq (M := P30_7) (R30_9 _ _) (ref_cond (P := P30_7) (c := fun s => s.t30) (fun s st hp => by obtain ⟨i2, w2_0, w2_1, i3, w3_0, w3_1, hl, a2, g2, l2, r2_0, r2_1, a3, g3, l3, r3_0, r3_1, a30, ne2_3⟩ := (hp : P30_7' s st.tmps st.h); simp only [evalO, a30, Option.getD_some]) (ref_weak (P' := P30_0) (fun s st hp => by obtain ⟨i2, w2_0, w2_1, i3, w3_0, w3_1, hl, a2, g2, l2, r2_0, r2_1, a3, g3, l3, r3_0, r3_1, a30, ne2_3⟩ := (hp : P30_7' s st.tmps st.h); exact (⟨hl, trivial⟩ : P30_0' s st.tmps st.h)) (ref_seq (M := P30_1) (R30_8 _ _) (ref_ret (fun s st hp => hp)))) (ref_weak (P' := P30_6) (fun s st hp => by obtain ⟨i2, w2_0, w2_1, i3, w3_0, w3_1, hl, a2, g2, l2, r2_0, r2_1, a3, g3, l3, r3_0, r3_1, a30, ne2_3⟩ := (hp : P30_7' s st.tmps st.h); exact (⟨i2, w2_0, w2_1, i3, w3_0, w3_1, hl, a2, g2, l2, r2_0, r2_1, a3, g3, l3, r3_0, r3_1, ne2_3⟩ : P30_6' s st.tmps st.h)) (ref_skip (fun s st hp => hp))))) (ref_seq (M := P30_0) (ref_seq (M := P30_2) (R30_7 _ _) (ref_block (ref_loop (P := P30_2) (ref_weak (P' := P30_2) (fun s st hp => hp) (ref_seq (M := P30_2) (ref_seq (M := P30_5) (R30_5 _ _) (ref_cond (P := P30_5) (c := fun s => s.t35) (fun s st hp => by obtain ⟨i2, w2_0, w2_1, i3, w3_0, w3_1, hl, a2, g2, l2, r2_0, r2_1, a3, g3, l3, r3_0, r3_1, a6, a35, ne2_3⟩ := (hp : P30_5' s st.tmps st.h); simp only [evalO, a35, Option.getD_some]) (ref_weak (P' := P30_2) (fun s st hp => by obtain ⟨i2, w2_0, w2_1, i3, w3_0, w3_1, hl, a2, g2, l2, r2_0, r2_1, a3, g3, l3, r3_0, r3_1, a6, a35, ne2_3⟩ := (hp : P30_5' s st.tmps st.h); exact (⟨i2, w2_0, w2_1, i3, w3_0, w3_1, hl, a2, g2, l2, r2_0, r2_1, a3, g3, l3, r3_0, r3_1, a6, ne2_3⟩ : P30_2' s st.tmps st.h)) (ref_skip (fun s st hp => hp))) (ref_weak (P' := P30_0) (fun s st hp => by obtain ⟨i2, w2_0, w2_1, i3, w3_0, w3_1, hl, a2, g2, l2, r2_0, r2_1, a3, g3, l3, r3_0, r3_1, a6, a35, ne2_3⟩ := (hp : P30_5' s st.tmps st.h); exact (⟨hl, trivial⟩ : P30_0' s st.tmps st.h)) (ref_exit (fun s st hp => hp))))) (ref_seq (M := P30_2) (ref_block (ref_seq (M := P30_4) (R30_4 _ _) (ref_seq (M := P30_3) (R30_3 _ _) (ref_cond (P := P30_3) (c := fun s => s.t50) (fun s st hp => by obtain ⟨i2, w2_0, w2_1, i3, w3_0, w3_1, hl, a2, g2, l2, r2_0, r2_1, a3, g3, l3, r3_0, r3_1, a6, a50, ne2_3⟩ := (hp : P30_3' s st.tmps st.h); simp only [evalO, a50, Option.getD_some]) (ref_weak (P' := P30_0) (fun s st hp => by obtain ⟨i2, w2_0, w2_1, i3, w3_0, w3_1, hl, a2, g2, l2, r2_0, r2_1, a3, g3, l3, r3_0, r3_1, a6, a50, ne2_3⟩ := (hp : P30_3' s st.tmps st.h); exact (⟨hl, trivial⟩ : P30_0' s st.tmps st.h)) (ref_seq (M := P30_1) (R30_2 _ _) (ref_ret (fun s st hp => hp)))) (ref_weak (P' := P30_2) (fun s st hp => by obtain ⟨i2, w2_0, w2_1, i3, w3_0, w3_1, hl, a2, g2, l2, r2_0, r2_1, a3, g3, l3, r3_0, r3_1, a6, a50, ne2_3⟩ := (hp : P30_3' s st.tmps st.h); exact (⟨i2, w2_0, w2_1, i3, w3_0, w3_1, hl, a2, g2, l2, r2_0, r2_1, a3, g3, l3, r3_0, r3_1, a6, ne2_3⟩ : P30_2' s st.tmps st.h)) (ref_skip (fun s st hp => hp))))))) (R30_1 _ _))))))) (ref_seq (M := P30_1) (R30_0 _ _) (ref_ret (fun s st hp => hp))))))
noncomputable def G30 (x0 : Group) (x1 : Group) : Option Bool := match M30 { (default : Fr30) with t0 := x0, t1 := x1 } with
  | some (.nrm, s) => some s.t4
  | some (.ret, s) => some s.t4
  | _ => none
theorem G30_spec : Spec30 (G30) := by
  intro x0 x1 vx0_0 hvx0_0 vx0_1 hvx0_1 vx1_0 hvx1_0 vx1_1 hvx1_1 r hr
  unfold G30 at hr
  cases hm : M30 { (default : Fr30) with t0 := x0, t1 := x1 } with
  | none => rw [hm] at hr; cases hr
  | some q =>
    obtain ⟨x, s⟩ := q
    rw [hm] at hr
    have hx : x = .nrm ∨ x = .ret := by cases x <;> first | exact .inl rfl | exact .inr rfl | cases hr
    have hr : s.t4 = r := by cases x <;> first | exact Option.some.inj hr | cases hr
    subst hr
    have hp0 : P30_9' ({ (default : Fr30) with t0 := x0, t1 := x1 }) (slots Tryz.f30 (stripL [.agg [.int .i64 x0.Kind, vx0_0, vx0_1], .agg [.int .i64 x1.Kind, vx1_0, vx1_1]])) bare := ⟨(strip vx0_0 : AVal), (strip vx0_1 : AVal), (strip vx1_0 : AVal), (strip vx1_1 : AVal), rfl, rfl, hvx0_0.strip rS_p, hvx0_1.strip (rSl_p rS_p), rfl, hvx1_0.strip rS_p, hvx1_1.strip (rSl_p rS_p)⟩
    obtain ⟨v, hR, hrun⟩ := run_of_ref (C := Cp) (f := 30) (fn := Tryz.f30) Tryz.func30 rfl rfl rfl rfl (args := [.agg [.int .i64 x0.Kind, vx0_0, vx0_1], .agg [.int .i64 x1.Kind, vx1_0, vx1_1]]) (by simp only [refsL, refs, List.append_nil, hvx0_0.refs rS_p, hvx0_1.refs (rSl_p rS_p), hvx1_0.refs rS_p, hvx1_1.refs (rSl_p rS_p)]) (B30) (s0 := { (default : Fr30) with t0 := x0, t1 := x1 }) hp0 hm hx (R := fun v => v = .bool s.t4) (by
      have key : ∀ st : ASt, P30_1 s st → ∃ vs v, aresults Cp Tryz.f30.results.toList st = some vs ∧ Nrm [] st.h (packRes vs) v ∧ (fun v => v = .bool s.t4) v := by
        intro st hp
        obtain ⟨hl, a4⟩ := (hp : P30_1' s st.tmps st.h)
        exact ⟨[.bool s.t4], _, by simp only [show Tryz.f30.results.toList = [ResultVar.tmp 4] from rfl, aresults, ares1, CP, a4, Option.getD_some], (Nrm.of (w := .bool s.t4) (by simp only [refsL, refs, List.append_nil])), rfl⟩
      intro st hq
      rcases hx with rfl | rfl
      · exact key st hq
      · exact key st hq)
    subst hR
    exact hrun
/-! ### caisson/caissonref10.Same -/
structure Fr14 where
  t0 : Query
  t1 : Query
  t2 : Query
  t3 : Query
  t4 : Bool
  t5 : Int
  t6 : Int
  t7 : Bool
  t37 : Bool
  t42 : Bool
  t55 : Bool
  t60 : Bool
  t75 : Bool
instance : Inhabited Fr14 := ⟨⟨default, default, default, default, false, 0, 0, false, false, false, false, false, false⟩⟩
def P14_0' (s : Fr14) (t : List AVal) (h : AHeap) : Prop := ∃ i2 w2_0 w2_1 w2_2 i3 w3_0 w3_1 w3_2, t.length = 83 ∧ t[2]? = some (.ptr i2 0) ∧ h.get i2 = some (.arr [w2_0, .str s.t2.Table, w2_1, .bool s.t2.Grouped, w2_2]) ∧ i2 < h.next ∧ Sl rItem s.t2.Items w2_0 ∧ rCondT s.t2.Where [w2_1] ∧ Sl rGroup s.t2.Groups w2_2 ∧ t[3]? = some (.ptr i3 0) ∧ h.get i3 = some (.arr [w3_0, .str s.t3.Table, w3_1, .bool s.t3.Grouped, w3_2]) ∧ i3 < h.next ∧ Sl rItem s.t3.Items w3_0 ∧ rCondT s.t3.Where [w3_1] ∧ Sl rGroup s.t3.Groups w3_2 ∧ i2 ≠ i3
def P14_0 (s : Fr14) (st : ASt) : Prop := P14_0' s st.tmps st.h
def P14_1' (s : Fr14) (t : List AVal) (h : AHeap) : Prop := t.length = 83 ∧ t[4]? = some (.bool s.t4)
def P14_1 (s : Fr14) (st : ASt) : Prop := P14_1' s st.tmps st.h
def P14_2' (s : Fr14) (t : List AVal) (h : AHeap) : Prop := ∃ i2 w2_0 w2_1 w2_2 i3 w3_0 w3_1 w3_2, t.length = 83 ∧ t[2]? = some (.ptr i2 0) ∧ h.get i2 = some (.arr [w2_0, .str s.t2.Table, w2_1, .bool s.t2.Grouped, w2_2]) ∧ i2 < h.next ∧ Sl rItem s.t2.Items w2_0 ∧ rCondT s.t2.Where [w2_1] ∧ Sl rGroup s.t2.Groups w2_2 ∧ t[3]? = some (.ptr i3 0) ∧ h.get i3 = some (.arr [w3_0, .str s.t3.Table, w3_1, .bool s.t3.Grouped, w3_2]) ∧ i3 < h.next ∧ Sl rItem s.t3.Items w3_0 ∧ rCondT s.t3.Where [w3_1] ∧ Sl rGroup s.t3.Groups w3_2 ∧ t[6]? = some (.int .i64 s.t6) ∧ i2 ≠ i3
def P14_2 (s : Fr14) (st : ASt) : Prop := P14_2' s st.tmps st.h
def P14_3' (s : Fr14) (t : List AVal) (h : AHeap) : Prop := t.length = 83 ∧ True
def P14_3 (s : Fr14) (st : ASt) : Prop := P14_3' s st.tmps st.h
def P14_4' (s : Fr14) (t : List AVal) (h : AHeap) : Prop := ∃ i2 w2_0 w2_1 w2_2 i3 w3_0 w3_1 w3_2, t.length = 83 ∧ t[2]? = some (.ptr i2 0) ∧ h.get i2 = some (.arr [w2_0, .str s.t2.Table, w2_1, .bool s.t2.Grouped, w2_2]) ∧ i2 < h.next ∧ Sl rItem s.t2.Items w2_0 ∧ rCondT s.t2.Where [w2_1] ∧ Sl rGroup s.t2.Groups w2_2 ∧ t[3]? = some (.ptr i3 0) ∧ h.get i3 = some (.arr [w3_0, .str s.t3.Table, w3_1, .bool s.t3.Grouped, w3_2]) ∧ i3 < h.next ∧ Sl rItem s.t3.Items w3_0 ∧ rCondT s.t3.Where [w3_1] ∧ Sl rGroup s.t3.Groups w3_2 ∧ t[6]? = some (.int .i64 s.t6) ∧ t[75]? = some (.bool s.t75) ∧ i2 ≠ i3
def P14_4 (s : Fr14) (st : ASt) : Prop := P14_4' s st.tmps st.h
def P14_5' (s : Fr14) (t : List AVal) (h : AHeap) : Prop := ∃ i2 w2_0 w2_1 w2_2 i3 w3_0 w3_1 w3_2, t.length = 83 ∧ t[2]? = some (.ptr i2 0) ∧ h.get i2 = some (.arr [w2_0, .str s.t2.Table, w2_1, .bool s.t2.Grouped, w2_2]) ∧ i2 < h.next ∧ Sl rItem s.t2.Items w2_0 ∧ rCondT s.t2.Where [w2_1] ∧ Sl rGroup s.t2.Groups w2_2 ∧ t[3]? = some (.ptr i3 0) ∧ h.get i3 = some (.arr [w3_0, .str s.t3.Table, w3_1, .bool s.t3.Grouped, w3_2]) ∧ i3 < h.next ∧ Sl rItem s.t3.Items w3_0 ∧ rCondT s.t3.Where [w3_1] ∧ Sl rGroup s.t3.Groups w3_2 ∧ t[6]? = some (.int .i64 s.t6) ∧ t[7]? = some (.bool s.t7) ∧ i2 ≠ i3
def P14_5 (s : Fr14) (st : ASt) : Prop := P14_5' s st.tmps st.h
def P14_6' (s : Fr14) (t : List AVal) (h : AHeap) : Prop := ∃ i2 w2_0 w2_1 w2_2 i3 w3_0 w3_1 w3_2, t.length = 83 ∧ t[2]? = some (.ptr i2 0) ∧ h.get i2 = some (.arr [w2_0, .str s.t2.Table, w2_1, .bool s.t2.Grouped, w2_2]) ∧ i2 < h.next ∧ Sl rItem s.t2.Items w2_0 ∧ rCondT s.t2.Where [w2_1] ∧ Sl rGroup s.t2.Groups w2_2 ∧ t[3]? = some (.ptr i3 0) ∧ h.get i3 = some (.arr [w3_0, .str s.t3.Table, w3_1, .bool s.t3.Grouped, w3_2]) ∧ i3 < h.next ∧ Sl rItem s.t3.Items w3_0 ∧ rCondT s.t3.Where [w3_1] ∧ Sl rGroup s.t3.Groups w3_2 ∧ t[6]? = some (.int .i64 s.t6) ∧ t[60]? = some (.bool s.t60) ∧ i2 ≠ i3
def P14_6 (s : Fr14) (st : ASt) : Prop := P14_6' s st.tmps st.h
def P14_7' (s : Fr14) (t : List AVal) (h : AHeap) : Prop := ∃ i2 w2_0 w2_1 w2_2 i3 w3_0 w3_1 w3_2, t.length = 83 ∧ t[2]? = some (.ptr i2 0) ∧ h.get i2 = some (.arr [w2_0, .str s.t2.Table, w2_1, .bool s.t2.Grouped, w2_2]) ∧ i2 < h.next ∧ Sl rItem s.t2.Items w2_0 ∧ rCondT s.t2.Where [w2_1] ∧ Sl rGroup s.t2.Groups w2_2 ∧ t[3]? = some (.ptr i3 0) ∧ h.get i3 = some (.arr [w3_0, .str s.t3.Table, w3_1, .bool s.t3.Grouped, w3_2]) ∧ i3 < h.next ∧ Sl rItem s.t3.Items w3_0 ∧ rCondT s.t3.Where [w3_1] ∧ Sl rGroup s.t3.Groups w3_2 ∧ t[5]? = some (.int .i64 s.t5) ∧ i2 ≠ i3
def P14_7 (s : Fr14) (st : ASt) : Prop := P14_7' s st.tmps st.h
def P14_8' (s : Fr14) (t : List AVal) (h : AHeap) : Prop := ∃ i2 w2_0 w2_1 w2_2 i3 w3_0 w3_1 w3_2, t.length = 83 ∧ t[2]? = some (.ptr i2 0) ∧ h.get i2 = some (.arr [w2_0, .str s.t2.Table, w2_1, .bool s.t2.Grouped, w2_2]) ∧ i2 < h.next ∧ Sl rItem s.t2.Items w2_0 ∧ rCondT s.t2.Where [w2_1] ∧ Sl rGroup s.t2.Groups w2_2 ∧ t[3]? = some (.ptr i3 0) ∧ h.get i3 = some (.arr [w3_0, .str s.t3.Table, w3_1, .bool s.t3.Grouped, w3_2]) ∧ i3 < h.next ∧ Sl rItem s.t3.Items w3_0 ∧ rCondT s.t3.Where [w3_1] ∧ Sl rGroup s.t3.Groups w3_2 ∧ t[5]? = some (.int .i64 s.t5) ∧ t[55]? = some (.bool s.t55) ∧ i2 ≠ i3
def P14_8 (s : Fr14) (st : ASt) : Prop := P14_8' s st.tmps st.h
def P14_9' (s : Fr14) (t : List AVal) (h : AHeap) : Prop := ∃ i2 w2_0 w2_1 w2_2 i3 w3_0 w3_1 w3_2, t.length = 83 ∧ t[2]? = some (.ptr i2 0) ∧ h.get i2 = some (.arr [w2_0, .str s.t2.Table, w2_1, .bool s.t2.Grouped, w2_2]) ∧ i2 < h.next ∧ Sl rItem s.t2.Items w2_0 ∧ rCondT s.t2.Where [w2_1] ∧ Sl rGroup s.t2.Groups w2_2 ∧ t[3]? = some (.ptr i3 0) ∧ h.get i3 = some (.arr [w3_0, .str s.t3.Table, w3_1, .bool s.t3.Grouped, w3_2]) ∧ i3 < h.next ∧ Sl rItem s.t3.Items w3_0 ∧ rCondT s.t3.Where [w3_1] ∧ Sl rGroup s.t3.Groups w3_2 ∧ t[5]? = some (.int .i64 s.t5) ∧ t[42]? = some (.bool s.t42) ∧ i2 ≠ i3
def P14_9 (s : Fr14) (st : ASt) : Prop := P14_9' s st.tmps st.h
def P14_10' (s : Fr14) (t : List AVal) (h : AHeap) : Prop := ∃ i2 w2_0 w2_1 w2_2 i3 w3_0 w3_1 w3_2, t.length = 83 ∧ t[2]? = some (.ptr i2 0) ∧ h.get i2 = some (.arr [w2_0, .str s.t2.Table, w2_1, .bool s.t2.Grouped, w2_2]) ∧ i2 < h.next ∧ Sl rItem s.t2.Items w2_0 ∧ rCondT s.t2.Where [w2_1] ∧ Sl rGroup s.t2.Groups w2_2 ∧ t[3]? = some (.ptr i3 0) ∧ h.get i3 = some (.arr [w3_0, .str s.t3.Table, w3_1, .bool s.t3.Grouped, w3_2]) ∧ i3 < h.next ∧ Sl rItem s.t3.Items w3_0 ∧ rCondT s.t3.Where [w3_1] ∧ Sl rGroup s.t3.Groups w3_2 ∧ t[37]? = some (.bool s.t37) ∧ i2 ≠ i3
def P14_10 (s : Fr14) (st : ASt) : Prop := P14_10' s st.tmps st.h
def P14_11' (s : Fr14) (t : List AVal) (h : AHeap) : Prop := ∃ w0_0 w0_1 w0_2 w1_0 w1_1 w1_2, t.length = 83 ∧ t[0]? = some (.agg [w0_0, .str s.t0.Table, w0_1, .bool s.t0.Grouped, w0_2]) ∧ Sl rItem s.t0.Items w0_0 ∧ rCondT s.t0.Where [w0_1] ∧ Sl rGroup s.t0.Groups w0_2 ∧ t[1]? = some (.agg [w1_0, .str s.t1.Table, w1_1, .bool s.t1.Grouped, w1_2]) ∧ Sl rItem s.t1.Items w1_0 ∧ rCondT s.t1.Where [w1_1] ∧ Sl rGroup s.t1.Groups w1_2
def P14_11 (s : Fr14) (st : ASt) : Prop := P14_11' s st.tmps st.h
noncomputable def m14_0 : Mo Fr14 := fun s => (F31 5000 ({ n := 4096 }) s.t2.Where s.t3.Where).bind fun z15 => some (.nrm, { s with t4 := z15.2 })
noncomputable def m14_1 : Mo Fr14 := fun s => some (.nrm, { s with t6 := IntKind.wrap .i64 (s.t6 + 1) })
noncomputable def m14_2 : Mo Fr14 := fun s => some (.nrm, { s with t4 := false })
noncomputable def m14_3 : Mo Fr14 := fun s => some (.nrm, { s with t75 := (!s.t7) })
noncomputable def m14_4 : Mo Fr14 := fun s => (at? s.t2.Groups s.t6).bind fun y48 => (at? s.t3.Groups s.t6).bind fun y51 => (G30 y48 y51).bind fun z53 => some (.nrm, { s with t7 := z53 })
noncomputable def m14_5 : Mo Fr14 := fun s => some (.nrm, { s with t60 := decide (s.t6 < (s.t2.Groups.length : Int)) })
noncomputable def L14_6 : Mo Fr14 := seqM (seqM (m14_5) (condM (fun s => s.t60) (skipM) (exitM 2))) (seqM (blockM 3 (seqM (m14_4) (seqM (m14_3) (condM (fun s => s.t75) (seqM (m14_2) (retM)) (skipM))))) (m14_1))
noncomputable def m14_7 : Mo Fr14 := fun s => some (.nrm, { s with t6 := 0 })
noncomputable def m14_8 : Mo Fr14 := fun s => some (.nrm, { s with t5 := IntKind.wrap .i64 (s.t5 + 1) })
noncomputable def m14_9 : Mo Fr14 := fun s => some (.nrm, { s with t4 := false })
noncomputable def m14_10 : Mo Fr14 := fun s => (at? s.t2.Items s.t5).bind fun y68 => (at? s.t3.Items s.t5).bind fun y71 => some (.nrm, { s with t55 := (!eqItem y68 y71) })
noncomputable def m14_11 : Mo Fr14 := fun s => some (.nrm, { s with t42 := decide (s.t5 < (s.t2.Items.length : Int)) })
noncomputable def L14_12 : Mo Fr14 := seqM (seqM (m14_11) (condM (fun s => s.t42) (skipM) (exitM 0))) (seqM (blockM 1 (seqM (m14_10) (condM (fun s => s.t55) (seqM (m14_9) (retM)) (skipM)))) (m14_8))
noncomputable def m14_13 : Mo Fr14 := fun s => some (.nrm, { s with t5 := 0 })
noncomputable def m14_14 : Mo Fr14 := fun s => some (.nrm, { s with t4 := false })
noncomputable def m14_15 : Mo Fr14 := fun s => some (.nrm, { s with t37 := ((((!(s.t2.Table == s.t3.Table)) || (s.t2.Grouped != s.t3.Grouped)) || ((s.t2.Items.length : Int) != (s.t3.Items.length : Int))) || ((s.t2.Groups.length : Int) != (s.t3.Groups.length : Int))) })
noncomputable def m14_16 : Mo Fr14 := fun s => some (.nrm, { s with t2 := s.t0, t3 := s.t1 })
noncomputable def M14 : Mo Fr14 := seqM (m14_16) (seqM (seqM (m14_15) (condM (fun s => s.t37) (seqM (m14_14) (retM)) (skipM))) (seqM (seqM (m14_13) (blockM 0 (loopM (L14_12)))) (seqM (seqM (m14_7) (blockM 2 (loopM (L14_6)))) (seqM (m14_0) (retM)))))
def Spec14 (f : Query → Query → Option Bool) : Prop := ∀ (x0 : Query) (x1 : Query) (vx0_0 : AVal) (_ : Sl rItem x0.Items vx0_0) (vx0_1 : AVal) (_ : rCondT x0.Where [vx0_1]) (vx0_2 : AVal) (_ : Sl rGroup x0.Groups vx0_2) (vx1_0 : AVal) (_ : Sl rItem x1.Items vx1_0) (vx1_1 : AVal) (_ : rCondT x1.Where [vx1_1]) (vx1_2 : AVal) (_ : Sl rGroup x1.Groups vx1_2) (r : Bool), f x0 x1 = some r → ∀ h, run Cp 14 [.agg [vx0_0, .str x0.Table, vx0_1, .bool x0.Grouped, vx0_2], .agg [vx1_0, .str x1.Table, vx1_1, .bool x1.Grouped, vx1_2]] h = some (.ret (.bool r), h)
theorem Spec14_of {f g : Query → Query → Option Bool} (hg : Spec14 g) (h : ∀ x0 x1 r, f x0 x1 = some r → g x0 x1 = some r) : Spec14 f := fun x0 x1 v0_ w0_ v1_ w1_ v2_ w2_ v3_ w3_ v4_ w4_ v5_ w5_ r hr => hg x0 x1 v0_ w0_ v1_ w1_ v2_ w2_ v3_ w3_ v4_ w4_ v5_ w5_ r (h x0 x1 r hr)
theorem R14_0 (pe : Nat → Fr14 → ASt → Prop) (pr : Fr14 → ASt → Prop) : Ref Cp P14_0 (Cat [true, true, true, true, false] (bodyOf Tryz.f14)) m14_0 (post P14_1 pe pr) := by
  rintro s ⟨t, h⟩ hp x s' hm
  have hp : P14_0' s t h := hp
  obtain ⟨i2, w2_0, w2_1, w2_2, i3, w3_0, w3_1, w3_2, hl, a2, g2, l2, r2_0, r2_1, r2_2, a3, g3, l3, r3_0, r3_1, r3_2, ne2_3⟩ := hp
  unfold m14_0 at hm
  have k24 : loadA h false 1 (.ptr i2 2) = some w2_1 := by rw [Heap.load_gen g2 (Nat.le_of_ble_eq_true rfl)]; first | rfl | exact ofc1 _ _ _
  have k25 : loadA h false 1 (.ptr i3 2) = some w3_1 := by rw [Heap.load_gen g3 (Nat.le_of_ble_eq_true rfl)]; first | rfl | exact ofc1 _ _ _
  have bd26 : abuild Tryz.prog 69 [(0, .int .i64 4096)] = some (.agg [.int .i64 4096]) := by simp only [Ty.bu69, List.getElem?_toArray, fillA, c_i, c_b, c_s, c_nl, c_np, c_ip, c_ls, bx_i, bx_b, bx_s, bx_a, bx_nl, bx_np, bx_ip, bx_ls, cl_i, cl_b, cl_s, cl_a, cl_nl, cl_np, cl_ip, cl_ls, List.all_cons, List.all_nil, List.length_cons, List.length_nil, Bool.and_self, Bool.and_true, setRange, List.set_cons_zero, List.set_cons_succ, Option.bind_eq_bind, Option.bind_some, Nat.zero_add, Nat.reduceAdd, and_self, Nat.reduceLeDiff, if_true, and_true, true_and, Nat.le_refl, Nat.zero_le, List.getElem?_cons_zero, List.getElem?_cons_succ, Option.map_some]
  obtain ⟨H27, eH27⟩ : ∃ x : AHeap, x = h.new (.arr [.int .i64 4096]) := ⟨_, rfl⟩
  obtain ⟨id28, eid28⟩ : ∃ x : Nat, x = h.next := ⟨_, rfl⟩
  have k29 : H27.get i2 = some (.arr [w2_0, .str s.t2.Table, w2_1, .bool s.t2.Grouped, w2_2]) := by rw [eH27, Heap.get_new_lt l2]; exact g2
  have k30 : i2 < H27.next := by rw [eH27, Heap.new_next]; exact Nat.lt_succ_of_lt l2
  have k31 : H27.get i3 = some (.arr [w3_0, .str s.t3.Table, w3_1, .bool s.t3.Grouped, w3_2]) := by rw [eH27, Heap.get_new_lt l3]; exact g3
  have k32 : i3 < H27.next := by rw [eH27, Heap.new_next]; exact Nat.lt_succ_of_lt l3
  have k33 : H27.get id28 = some (.arr [.int .i64 4096]) := by rw [eH27, eid28]; exact Heap.get_new_eq
  have k34 : id28 < H27.next := by rw [eH27, eid28, Heap.new_next]; exact Nat.lt_succ_self _
  have k35 : i2 ≠ id28 := by rw [eid28]; exact Nat.ne_of_lt l2
  have k36 : i3 ≠ id28 := by rw [eid28]; exact Nat.ne_of_lt l3
  have k37 : abox h (.agg [.int .i64 4096]) = some (.ptr id28 0, H27) := by simp only [abox, eH27, eid28, bx_i, bx_b, bx_s, bx_a, bx_nl, bx_np, bx_ip, bx_ls, cl_i, cl_b, cl_s, cl_a, cl_nl, cl_np, cl_ip, cl_ls, List.all_cons, List.all_nil, Bool.and_self, Bool.and_true, c_i, c_b, c_s, c_nl, c_np, c_ip, c_ls, if_true]
  obtain ⟨z38, hz38, hm⟩ := Option.bind_eq_some_iff.1 hm
  have iu39 := (F31_spec 5000) ({ n := 4096 }) s.t2.Where s.t3.Where H27 id28 _ r2_1 _ r3_1 k33 _ hz38
  obtain ⟨H40, eH40⟩ : ∃ x : AHeap, x = H27.set id28 (some (.arr [.int .i64 z38.1.n])) := ⟨_, rfl⟩
  rw [← eH40] at iu39
  have k41 : H40.get i2 = some (.arr [w2_0, .str s.t2.Table, w2_1, .bool s.t2.Grouped, w2_2]) := by rw [eH40, Heap.get_set_ne k35]; exact k29
  have k42 : i2 < H40.next := by rw [eH40]; exact k30
  have k43 : H40.get i3 = some (.arr [w3_0, .str s.t3.Table, w3_1, .bool s.t3.Grouped, w3_2]) := by rw [eH40, Heap.get_set_ne k36]; exact k31
  have k44 : i3 < H40.next := by rw [eH40]; exact k32
  have k45 : H40.get id28 = some (.arr [.int .i64 z38.1.n]) := by rw [eH40]; exact Heap.get_set_eq
  have k46 : id28 < H40.next := by rw [eH40]; exact k34
  cases hm
  refine ⟨⟨_, _⟩, by
      simp only [bodyOf, Tryz.f14, Cat, Bool.false_eq_true, e_seq, e_region, e_cond, e_block, ex_skip, ex_exit, ex_ret, o_cons, xops_nil, k_want_none, k_want_false, k_val, k_pan, k_call, k_ret, k_seq, k_seq_exit, k_seq_ret, k_true, k_false, k_block, k_block_exit, k_block_ret, k_loop, k_loop_exit, k_loop_ret, awanted, aoper, evalO, put, Option.getD_some, List.getElem?_set, acallOp, abuiltin, List.map_cons, List.map_nil, Nat.reduceEqDiff, Nat.reduceLT, List.length_set, Option.map_some, Option.bind_some, Option.bind_eq_bind, add_i, sub_i, mul_i, eql_i, neq_i, lss_i, leq_i, gtr_i, geq_i, ofV, ofCell, ↓reduceIte, List.cons_append, List.nil_append, List.append_nil, List.getElem?_toArray, List.getElem?_cons_succ, List.getElem?_cons_zero, e_draw, g_nil, g_cons, g_want, g_skip, g_val, g_call, g_ret, Option.map_none, hl, a2, a3, CP, bq1, bq2, bq3, bq4, ex_tup, Ty.fa27_2, dropCells, Nat.zero_add, Nat.reduceAdd, k24, Ty.ld24, k25, bd26, Ty.nc_ref_go_596, k37, iu39]
      exact rfl, ?_⟩
  show P14_1 _ _
  exact ⟨by simp [hl], by simp [hl]⟩
theorem R14_1 (pe : Nat → Fr14 → ASt → Prop) (pr : Fr14 → ASt → Prop) : Ref Cp P14_2 (Cat [true, true, true, false, true, true, true, true, true] (bodyOf Tryz.f14)) m14_1 (post P14_2 pe pr) := by
  rintro s ⟨t, h⟩ hp x s' hm
  have hp : P14_2' s t h := hp
  obtain ⟨i2, w2_0, w2_1, w2_2, i3, w3_0, w3_1, w3_2, hl, a2, g2, l2, r2_0, r2_1, r2_2, a3, g3, l3, r3_0, r3_1, r3_2, a6, ne2_3⟩ := hp
  unfold m14_1 at hm
  cases hm
  refine ⟨⟨_, _⟩, by
      simp only [bodyOf, Tryz.f14, Cat, Bool.false_eq_true, e_seq, e_region, e_cond, e_block, ex_skip, ex_exit, ex_ret, o_cons, xops_nil, k_want_none, k_want_false, k_val, k_pan, k_call, k_ret, k_seq, k_seq_exit, k_seq_ret, k_true, k_false, k_block, k_block_exit, k_block_ret, k_loop, k_loop_exit, k_loop_ret, awanted, aoper, evalO, put, Option.getD_some, List.getElem?_set, acallOp, abuiltin, List.map_cons, List.map_nil, Nat.reduceEqDiff, Nat.reduceLT, List.length_set, Option.map_some, Option.bind_some, Option.bind_eq_bind, add_i, sub_i, mul_i, eql_i, neq_i, lss_i, leq_i, gtr_i, geq_i, ofV, ofCell, ↓reduceIte, List.cons_append, List.nil_append, List.append_nil, List.getElem?_toArray, List.getElem?_cons_succ, List.getElem?_cons_zero, e_draw, g_nil, g_cons, g_want, g_skip, g_val, g_call, g_ret, Option.map_none, hl, a2, a3, a6, CP, bq1, bq2, bq3, bq4, ex_tup]
      exact rfl, ?_⟩
  show P14_2 _ _
  exact ⟨i2, w2_0, w2_1, w2_2, i3, w3_0, w3_1, w3_2, by simp [hl], by simp [a2], g2, l2, r2_0, r2_1, r2_2, by simp [a3], g3, l3, r3_0, r3_1, r3_2, by simp [hl], ne2_3⟩
theorem R14_2 (pe : Nat → Fr14 → ASt → Prop) (pr : Fr14 → ASt → Prop) : Ref Cp P14_3 (Cat [true, true, true, false, true, true, true, true, false, true, true, true, false, false] (bodyOf Tryz.f14)) m14_2 (post P14_1 pe pr) := by
  rintro s ⟨t, h⟩ hp x s' hm
  have hp : P14_3' s t h := hp
  obtain ⟨hl, _⟩ := hp
  unfold m14_2 at hm
  cases hm
  refine ⟨⟨_, _⟩, by
      simp only [bodyOf, Tryz.f14, Cat, Bool.false_eq_true, e_seq, e_region, e_cond, e_block, ex_skip, ex_exit, ex_ret, o_cons, xops_nil, k_want_none, k_want_false, k_val, k_pan, k_call, k_ret, k_seq, k_seq_exit, k_seq_ret, k_true, k_false, k_block, k_block_exit, k_block_ret, k_loop, k_loop_exit, k_loop_ret, awanted, aoper, evalO, put, Option.getD_some, List.getElem?_set, acallOp, abuiltin, List.map_cons, List.map_nil, Nat.reduceEqDiff, Nat.reduceLT, List.length_set, Option.map_some, Option.bind_some, Option.bind_eq_bind, add_i, sub_i, mul_i, eql_i, neq_i, lss_i, leq_i, gtr_i, geq_i, ofV, ofCell, ↓reduceIte, List.cons_append, List.nil_append, List.append_nil, List.getElem?_toArray, List.getElem?_cons_succ, List.getElem?_cons_zero, e_draw, g_nil, g_cons, g_want, g_skip, g_val, g_call, g_ret, Option.map_none, hl, CP, bq1, bq2, bq3, bq4, ex_tup]
      exact rfl, ?_⟩
  show P14_1 _ _
  exact ⟨by simp [hl], by simp [hl]⟩
theorem R14_3 (pe : Nat → Fr14 → ASt → Prop) (pr : Fr14 → ASt → Prop) : Ref Cp P14_5 (Cat [true, true, true, false, true, true, true, true, false, true, true, false] (bodyOf Tryz.f14)) m14_3 (post P14_4 pe pr) := by
  rintro s ⟨t, h⟩ hp x s' hm
  have hp : P14_5' s t h := hp
  obtain ⟨i2, w2_0, w2_1, w2_2, i3, w3_0, w3_1, w3_2, hl, a2, g2, l2, r2_0, r2_1, r2_2, a3, g3, l3, r3_0, r3_1, r3_2, a6, a7, ne2_3⟩ := hp
  unfold m14_3 at hm
  cases hm
  refine ⟨⟨_, _⟩, by
      simp only [bodyOf, Tryz.f14, Cat, Bool.false_eq_true, e_seq, e_region, e_cond, e_block, ex_skip, ex_exit, ex_ret, o_cons, xops_nil, k_want_none, k_want_false, k_val, k_pan, k_call, k_ret, k_seq, k_seq_exit, k_seq_ret, k_true, k_false, k_block, k_block_exit, k_block_ret, k_loop, k_loop_exit, k_loop_ret, awanted, aoper, evalO, put, Option.getD_some, List.getElem?_set, acallOp, abuiltin, List.map_cons, List.map_nil, Nat.reduceEqDiff, Nat.reduceLT, List.length_set, Option.map_some, Option.bind_some, Option.bind_eq_bind, add_i, sub_i, mul_i, eql_i, neq_i, lss_i, leq_i, gtr_i, geq_i, ofV, ofCell, ↓reduceIte, List.cons_append, List.nil_append, List.append_nil, List.getElem?_toArray, List.getElem?_cons_succ, List.getElem?_cons_zero, e_draw, g_nil, g_cons, g_want, g_skip, g_val, g_call, g_ret, Option.map_none, hl, a2, a3, a6, a7, CP, bq1, bq2, bq3, bq4, ex_tup, aun_not]
      exact rfl, ?_⟩
  show P14_4 _ _
  exact ⟨i2, w2_0, w2_1, w2_2, i3, w3_0, w3_1, w3_2, by simp [hl], by simp [a2], g2, l2, r2_0, r2_1, r2_2, by simp [a3], g3, l3, r3_0, r3_1, r3_2, by simp [a6], by simp [hl], ne2_3⟩
theorem R14_4 (pe : Nat → Fr14 → ASt → Prop) (pr : Fr14 → ASt → Prop) : Ref Cp P14_2 (Cat [true, true, true, false, true, true, true, true, false, true, false] (bodyOf Tryz.f14)) m14_4 (post P14_5 pe pr) := by
  rintro s ⟨t, h⟩ hp x s' hm
  have hp : P14_2' s t h := hp
  obtain ⟨i2, w2_0, w2_1, w2_2, i3, w3_0, w3_1, w3_2, hl, a2, g2, l2, r2_0, r2_1, r2_2, a3, g3, l3, r3_0, r3_1, r3_2, a6, ne2_3⟩ := hp
  unfold m14_4 at hm
  have k55 : loadA h false 1 (.ptr i2 4) = some w2_2 := by rw [Heap.load_gen g2 (Nat.le_of_ble_eq_true rfl)]; first | rfl | exact ofc1 _ _ _
  obtain ⟨y56, hy56, hm⟩ := Option.bind_eq_some_iff.1 hm
  obtain ⟨cu57, du57, eu57, iu57, _⟩ := Sl.ix rGroup_p r2_2 hy56
  obtain ⟨bu57_0, bu57_1, rfl, gu57_0, gu57_1⟩ := eu57
  have k58 : loadA h false 1 (.ptr i3 4) = some w3_2 := by rw [Heap.load_gen g3 (Nat.le_of_ble_eq_true rfl)]; first | rfl | exact ofc1 _ _ _
  obtain ⟨y59, hy59, hm⟩ := Option.bind_eq_some_iff.1 hm
  obtain ⟨cu60, du60, eu60, iu60, _⟩ := Sl.ix rGroup_p r3_2 hy59
  obtain ⟨bu60_0, bu60_1, rfl, gu60_0, gu60_1⟩ := eu60
  obtain ⟨z61, hz61, hm⟩ := Option.bind_eq_some_iff.1 hm
  have iu62 := G30_spec y56 y59 _ gu57_0 _ gu57_1 _ gu60_0 _ gu60_1 _ hz61
  have apu62 : apure Cp 30 [.agg [.int .i64 y56.Kind, bu57_0, bu57_1], .agg [.int .i64 y59.Kind, bu60_0, bu60_1]] = true := apure_of rfl rfl (by simp only [refsL, refs, List.append_nil, List.nil_append, gu57_0.refs rS_p, gu57_1.refs (rSl_p rS_p), gu60_0.refs rS_p, gu60_1.refs (rSl_p rS_p)])
  cases hm
  refine ⟨⟨_, _⟩, by
      simp only [bodyOf, Tryz.f14, Cat, Bool.false_eq_true, e_seq, e_region, e_cond, e_block, ex_skip, ex_exit, ex_ret, o_cons, xops_nil, k_want_none, k_want_false, k_val, k_pan, k_call, k_ret, k_seq, k_seq_exit, k_seq_ret, k_true, k_false, k_block, k_block_exit, k_block_ret, k_loop, k_loop_exit, k_loop_ret, awanted, aoper, evalO, put, Option.getD_some, List.getElem?_set, acallOp, abuiltin, List.map_cons, List.map_nil, Nat.reduceEqDiff, Nat.reduceLT, List.length_set, Option.map_some, Option.bind_some, Option.bind_eq_bind, add_i, sub_i, mul_i, eql_i, neq_i, lss_i, leq_i, gtr_i, geq_i, ofV, ofCell, ↓reduceIte, List.cons_append, List.nil_append, List.append_nil, List.getElem?_toArray, List.getElem?_cons_succ, List.getElem?_cons_zero, e_draw, g_nil, g_cons, g_want, g_skip, g_val, g_call, g_ret, Option.map_none, hl, a2, a3, a6, CP, bq1, bq2, bq3, bq4, ex_tup, Ty.fa27_4, dropCells, Nat.zero_add, Nat.reduceAdd, k55, Ty.ld25, Ty.ix25, iu57, Ty.ld65, ld_ip, ofc3, List.drop_succ_cons, List.drop_zero, List.length_cons, List.length_nil, k58, iu60, iu62, apu62, if_true]
      rw [k_draw _ _ _ (by kernel_rfl)]
      exact rfl, ?_⟩
  show P14_5 _ _
  exact ⟨i2, w2_0, w2_1, w2_2, i3, w3_0, w3_1, w3_2, by simp [hl], by simp [a2], g2, l2, r2_0, r2_1, r2_2, by simp [a3], g3, l3, r3_0, r3_1, r3_2, by simp [a6], by simp [hl], ne2_3⟩
theorem R14_5 (pe : Nat → Fr14 → ASt → Prop) (pr : Fr14 → ASt → Prop) : Ref Cp P14_2 (Cat [true, true, true, false, true, true, true, false, false] (bodyOf Tryz.f14)) m14_5 (post P14_6 pe pr) := by
  rintro s ⟨t, h⟩ hp x s' hm
  have hp : P14_2' s t h := hp
  obtain ⟨i2, w2_0, w2_1, w2_2, i3, w3_0, w3_1, w3_2, hl, a2, g2, l2, r2_0, r2_1, r2_2, a3, g3, l3, r3_0, r3_1, r3_2, a6, ne2_3⟩ := hp
  unfold m14_5 at hm
  have k65 : loadA h false 1 (.ptr i2 4) = some w2_2 := by rw [Heap.load_gen g2 (Nat.le_of_ble_eq_true rfl)]; first | rfl | exact ofc1 _ _ _
  have lu66 := fun h => Sl.len r2_2 Ty.un25 h
  cases hm
  refine ⟨⟨_, _⟩, by
      simp only [bodyOf, Tryz.f14, Cat, Bool.false_eq_true, e_seq, e_region, e_cond, e_block, ex_skip, ex_exit, ex_ret, o_cons, xops_nil, k_want_none, k_want_false, k_val, k_pan, k_call, k_ret, k_seq, k_seq_exit, k_seq_ret, k_true, k_false, k_block, k_block_exit, k_block_ret, k_loop, k_loop_exit, k_loop_ret, awanted, aoper, evalO, put, Option.getD_some, List.getElem?_set, acallOp, abuiltin, List.map_cons, List.map_nil, Nat.reduceEqDiff, Nat.reduceLT, List.length_set, Option.map_some, Option.bind_some, Option.bind_eq_bind, add_i, sub_i, mul_i, eql_i, neq_i, lss_i, leq_i, gtr_i, geq_i, ofV, ofCell, ↓reduceIte, List.cons_append, List.nil_append, List.append_nil, List.getElem?_toArray, List.getElem?_cons_succ, List.getElem?_cons_zero, e_draw, g_nil, g_cons, g_want, g_skip, g_val, g_call, g_ret, Option.map_none, hl, a2, a3, a6, CP, bq1, bq2, bq3, bq4, ex_tup, Ty.fa27_4, dropCells, Nat.zero_add, Nat.reduceAdd, k65, Ty.ld25, lu66]
      exact rfl, ?_⟩
  show P14_6 _ _
  exact ⟨i2, w2_0, w2_1, w2_2, i3, w3_0, w3_1, w3_2, by simp [hl], by simp [a2], g2, l2, r2_0, r2_1, r2_2, by simp [a3], g3, l3, r3_0, r3_1, r3_2, by simp [a6], by simp [hl], ne2_3⟩
theorem R14_7 (pe : Nat → Fr14 → ASt → Prop) (pr : Fr14 → ASt → Prop) : Ref Cp P14_0 (Cat [true, true, true, false, false] (bodyOf Tryz.f14)) m14_7 (post P14_2 pe pr) := by
  rintro s ⟨t, h⟩ hp x s' hm
  have hp : P14_0' s t h := hp
  obtain ⟨i2, w2_0, w2_1, w2_2, i3, w3_0, w3_1, w3_2, hl, a2, g2, l2, r2_0, r2_1, r2_2, a3, g3, l3, r3_0, r3_1, r3_2, ne2_3⟩ := hp
  unfold m14_7 at hm
  cases hm
  refine ⟨⟨_, _⟩, by
      simp only [bodyOf, Tryz.f14, Cat, Bool.false_eq_true, e_seq, e_region, e_cond, e_block, ex_skip, ex_exit, ex_ret, o_cons, xops_nil, k_want_none, k_want_false, k_val, k_pan, k_call, k_ret, k_seq, k_seq_exit, k_seq_ret, k_true, k_false, k_block, k_block_exit, k_block_ret, k_loop, k_loop_exit, k_loop_ret, awanted, aoper, evalO, put, Option.getD_some, List.getElem?_set, acallOp, abuiltin, List.map_cons, List.map_nil, Nat.reduceEqDiff, Nat.reduceLT, List.length_set, Option.map_some, Option.bind_some, Option.bind_eq_bind, add_i, sub_i, mul_i, eql_i, neq_i, lss_i, leq_i, gtr_i, geq_i, ofV, ofCell, ↓reduceIte, List.cons_append, List.nil_append, List.append_nil, List.getElem?_toArray, List.getElem?_cons_succ, List.getElem?_cons_zero, e_draw, g_nil, g_cons, g_want, g_skip, g_val, g_call, g_ret, Option.map_none, hl, a2, a3, CP, bq1, bq2, bq3, bq4, ex_tup]
      exact rfl, ?_⟩
  show P14_2 _ _
  exact ⟨i2, w2_0, w2_1, w2_2, i3, w3_0, w3_1, w3_2, by simp [hl], by simp [a2], g2, l2, r2_0, r2_1, r2_2, by simp [a3], g3, l3, r3_0, r3_1, r3_2, by simp [hl], ne2_3⟩
theorem R14_8 (pe : Nat → Fr14 → ASt → Prop) (pr : Fr14 → ASt → Prop) : Ref Cp P14_7 (Cat [true, true, false, true, true, true, true, true] (bodyOf Tryz.f14)) m14_8 (post P14_7 pe pr) := by
  rintro s ⟨t, h⟩ hp x s' hm
  have hp : P14_7' s t h := hp
  obtain ⟨i2, w2_0, w2_1, w2_2, i3, w3_0, w3_1, w3_2, hl, a2, g2, l2, r2_0, r2_1, r2_2, a3, g3, l3, r3_0, r3_1, r3_2, a5, ne2_3⟩ := hp
  unfold m14_8 at hm
  cases hm
  refine ⟨⟨_, _⟩, by
      simp only [bodyOf, Tryz.f14, Cat, Bool.false_eq_true, e_seq, e_region, e_cond, e_block, ex_skip, ex_exit, ex_ret, o_cons, xops_nil, k_want_none, k_want_false, k_val, k_pan, k_call, k_ret, k_seq, k_seq_exit, k_seq_ret, k_true, k_false, k_block, k_block_exit, k_block_ret, k_loop, k_loop_exit, k_loop_ret, awanted, aoper, evalO, put, Option.getD_some, List.getElem?_set, acallOp, abuiltin, List.map_cons, List.map_nil, Nat.reduceEqDiff, Nat.reduceLT, List.length_set, Option.map_some, Option.bind_some, Option.bind_eq_bind, add_i, sub_i, mul_i, eql_i, neq_i, lss_i, leq_i, gtr_i, geq_i, ofV, ofCell, ↓reduceIte, List.cons_append, List.nil_append, List.append_nil, List.getElem?_toArray, List.getElem?_cons_succ, List.getElem?_cons_zero, e_draw, g_nil, g_cons, g_want, g_skip, g_val, g_call, g_ret, Option.map_none, hl, a2, a3, a5, CP, bq1, bq2, bq3, bq4, ex_tup]
      exact rfl, ?_⟩
  show P14_7 _ _
  exact ⟨i2, w2_0, w2_1, w2_2, i3, w3_0, w3_1, w3_2, by simp [hl], by simp [a2], g2, l2, r2_0, r2_1, r2_2, by simp [a3], g3, l3, r3_0, r3_1, r3_2, by simp [hl], ne2_3⟩
theorem R14_9 (pe : Nat → Fr14 → ASt → Prop) (pr : Fr14 → ASt → Prop) : Ref Cp P14_3 (Cat [true, true, false, true, true, true, true, false, true, true, false, false] (bodyOf Tryz.f14)) m14_9 (post P14_1 pe pr) := by
  rintro s ⟨t, h⟩ hp x s' hm
  have hp : P14_3' s t h := hp
  obtain ⟨hl, _⟩ := hp
  unfold m14_9 at hm
  cases hm
  refine ⟨⟨_, _⟩, by
      simp only [bodyOf, Tryz.f14, Cat, Bool.false_eq_true, e_seq, e_region, e_cond, e_block, ex_skip, ex_exit, ex_ret, o_cons, xops_nil, k_want_none, k_want_false, k_val, k_pan, k_call, k_ret, k_seq, k_seq_exit, k_seq_ret, k_true, k_false, k_block, k_block_exit, k_block_ret, k_loop, k_loop_exit, k_loop_ret, awanted, aoper, evalO, put, Option.getD_some, List.getElem?_set, acallOp, abuiltin, List.map_cons, List.map_nil, Nat.reduceEqDiff, Nat.reduceLT, List.length_set, Option.map_some, Option.bind_some, Option.bind_eq_bind, add_i, sub_i, mul_i, eql_i, neq_i, lss_i, leq_i, gtr_i, geq_i, ofV, ofCell, ↓reduceIte, List.cons_append, List.nil_append, List.append_nil, List.getElem?_toArray, List.getElem?_cons_succ, List.getElem?_cons_zero, e_draw, g_nil, g_cons, g_want, g_skip, g_val, g_call, g_ret, Option.map_none, hl, CP, bq1, bq2, bq3, bq4, ex_tup]
      exact rfl, ?_⟩
  show P14_1 _ _
  exact ⟨by simp [hl], by simp [hl]⟩
theorem R14_10 (pe : Nat → Fr14 → ASt → Prop) (pr : Fr14 → ASt → Prop) : Ref Cp P14_7 (Cat [true, true, false, true, true, true, true, false, true, false] (bodyOf Tryz.f14)) m14_10 (post P14_8 pe pr) := by
  rintro s ⟨t, h⟩ hp x s' hm
  have hp : P14_7' s t h := hp
  obtain ⟨i2, w2_0, w2_1, w2_2, i3, w3_0, w3_1, w3_2, hl, a2, g2, l2, r2_0, r2_1, r2_2, a3, g3, l3, r3_0, r3_1, r3_2, a5, ne2_3⟩ := hp
  unfold m14_10 at hm
  have k74 : loadA h false 1 (.ptr i2 0) = some w2_0 := by rw [Heap.load_gen g2 (Nat.le_of_ble_eq_true rfl)]; first | rfl | exact ofc1 _ _ _
  obtain ⟨y75, hy75, hm⟩ := Option.bind_eq_some_iff.1 hm
  obtain ⟨cu76, du76, eu76, iu76, _⟩ := Sl.ix rItem_p r2_0 hy75
  have eu76 := eu76; unfold rItem at eu76; subst eu76
  have k77 : loadA h false 1 (.ptr i3 0) = some w3_0 := by rw [Heap.load_gen g3 (Nat.le_of_ble_eq_true rfl)]; first | rfl | exact ofc1 _ _ _
  obtain ⟨y78, hy78, hm⟩ := Option.bind_eq_some_iff.1 hm
  obtain ⟨cu79, du79, eu79, iu79, _⟩ := Sl.ix rItem_p r3_0 hy78
  have eu79 := eu79; unfold rItem at eu79; subst eu79
  have k80 : ∀ (xo yo : Operand) (h : AHeap), abin Cp .neq 45 xo yo h (.agg [.int .i64 y75.Kind, .str y75.Column]) (.agg [.int .i64 y78.Kind, .str y78.Column]) = some (.bool (!eqItem y75 y78)) := fun xo yo h => Ty.neqs45 xo yo h y75 y78
  cases hm
  refine ⟨⟨_, _⟩, by
      simp only [bodyOf, Tryz.f14, Cat, Bool.false_eq_true, e_seq, e_region, e_cond, e_block, ex_skip, ex_exit, ex_ret, o_cons, xops_nil, k_want_none, k_want_false, k_val, k_pan, k_call, k_ret, k_seq, k_seq_exit, k_seq_ret, k_true, k_false, k_block, k_block_exit, k_block_ret, k_loop, k_loop_exit, k_loop_ret, awanted, aoper, evalO, put, Option.getD_some, List.getElem?_set, acallOp, abuiltin, List.map_cons, List.map_nil, Nat.reduceEqDiff, Nat.reduceLT, List.length_set, Option.map_some, Option.bind_some, Option.bind_eq_bind, add_i, sub_i, mul_i, eql_i, neq_i, lss_i, leq_i, gtr_i, geq_i, ofV, ofCell, ↓reduceIte, List.cons_append, List.nil_append, List.append_nil, List.getElem?_toArray, List.getElem?_cons_succ, List.getElem?_cons_zero, e_draw, g_nil, g_cons, g_want, g_skip, g_val, g_call, g_ret, Option.map_none, hl, a2, a3, a5, CP, bq1, bq2, bq3, bq4, ex_tup, Ty.fa27_0, dropCells, Nat.zero_add, Nat.reduceAdd, k74, Ty.ld23, Ty.ix23, iu76, Ty.ld45, ld_ip, ofc2, List.drop_succ_cons, List.drop_zero, List.length_cons, List.length_nil, k77, iu79, k80]
      rw [k_draw _ _ _ (by kernel_rfl)]
      exact rfl, ?_⟩
  show P14_8 _ _
  exact ⟨i2, w2_0, w2_1, w2_2, i3, w3_0, w3_1, w3_2, by simp [hl], by simp [a2], g2, l2, r2_0, r2_1, r2_2, by simp [a3], g3, l3, r3_0, r3_1, r3_2, by simp [a5], by simp [hl], ne2_3⟩
theorem R14_11 (pe : Nat → Fr14 → ASt → Prop) (pr : Fr14 → ASt → Prop) : Ref Cp P14_7 (Cat [true, true, false, true, true, true, false, false] (bodyOf Tryz.f14)) m14_11 (post P14_9 pe pr) := by
  rintro s ⟨t, h⟩ hp x s' hm
  have hp : P14_7' s t h := hp
  obtain ⟨i2, w2_0, w2_1, w2_2, i3, w3_0, w3_1, w3_2, hl, a2, g2, l2, r2_0, r2_1, r2_2, a3, g3, l3, r3_0, r3_1, r3_2, a5, ne2_3⟩ := hp
  unfold m14_11 at hm
  have k83 : loadA h false 1 (.ptr i2 0) = some w2_0 := by rw [Heap.load_gen g2 (Nat.le_of_ble_eq_true rfl)]; first | rfl | exact ofc1 _ _ _
  have lu84 := fun h => Sl.len r2_0 Ty.un23 h
  cases hm
  refine ⟨⟨_, _⟩, by
      simp only [bodyOf, Tryz.f14, Cat, Bool.false_eq_true, e_seq, e_region, e_cond, e_block, ex_skip, ex_exit, ex_ret, o_cons, xops_nil, k_want_none, k_want_false, k_val, k_pan, k_call, k_ret, k_seq, k_seq_exit, k_seq_ret, k_true, k_false, k_block, k_block_exit, k_block_ret, k_loop, k_loop_exit, k_loop_ret, awanted, aoper, evalO, put, Option.getD_some, List.getElem?_set, acallOp, abuiltin, List.map_cons, List.map_nil, Nat.reduceEqDiff, Nat.reduceLT, List.length_set, Option.map_some, Option.bind_some, Option.bind_eq_bind, add_i, sub_i, mul_i, eql_i, neq_i, lss_i, leq_i, gtr_i, geq_i, ofV, ofCell, ↓reduceIte, List.cons_append, List.nil_append, List.append_nil, List.getElem?_toArray, List.getElem?_cons_succ, List.getElem?_cons_zero, e_draw, g_nil, g_cons, g_want, g_skip, g_val, g_call, g_ret, Option.map_none, hl, a2, a3, a5, CP, bq1, bq2, bq3, bq4, ex_tup, Ty.fa27_0, dropCells, Nat.zero_add, Nat.reduceAdd, k83, Ty.ld23, lu84]
      exact rfl, ?_⟩
  show P14_9 _ _
  exact ⟨i2, w2_0, w2_1, w2_2, i3, w3_0, w3_1, w3_2, by simp [hl], by simp [a2], g2, l2, r2_0, r2_1, r2_2, by simp [a3], g3, l3, r3_0, r3_1, r3_2, by simp [a5], by simp [hl], ne2_3⟩
theorem R14_13 (pe : Nat → Fr14 → ASt → Prop) (pr : Fr14 → ASt → Prop) : Ref Cp P14_0 (Cat [true, true, false, false] (bodyOf Tryz.f14)) m14_13 (post P14_7 pe pr) := by
  rintro s ⟨t, h⟩ hp x s' hm
  have hp : P14_0' s t h := hp
  obtain ⟨i2, w2_0, w2_1, w2_2, i3, w3_0, w3_1, w3_2, hl, a2, g2, l2, r2_0, r2_1, r2_2, a3, g3, l3, r3_0, r3_1, r3_2, ne2_3⟩ := hp
  unfold m14_13 at hm
  cases hm
  refine ⟨⟨_, _⟩, by
      simp only [bodyOf, Tryz.f14, Cat, Bool.false_eq_true, e_seq, e_region, e_cond, e_block, ex_skip, ex_exit, ex_ret, o_cons, xops_nil, k_want_none, k_want_false, k_val, k_pan, k_call, k_ret, k_seq, k_seq_exit, k_seq_ret, k_true, k_false, k_block, k_block_exit, k_block_ret, k_loop, k_loop_exit, k_loop_ret, awanted, aoper, evalO, put, Option.getD_some, List.getElem?_set, acallOp, abuiltin, List.map_cons, List.map_nil, Nat.reduceEqDiff, Nat.reduceLT, List.length_set, Option.map_some, Option.bind_some, Option.bind_eq_bind, add_i, sub_i, mul_i, eql_i, neq_i, lss_i, leq_i, gtr_i, geq_i, ofV, ofCell, ↓reduceIte, List.cons_append, List.nil_append, List.append_nil, List.getElem?_toArray, List.getElem?_cons_succ, List.getElem?_cons_zero, e_draw, g_nil, g_cons, g_want, g_skip, g_val, g_call, g_ret, Option.map_none, hl, a2, a3, CP, bq1, bq2, bq3, bq4, ex_tup]
      exact rfl, ?_⟩
  show P14_7 _ _
  exact ⟨i2, w2_0, w2_1, w2_2, i3, w3_0, w3_1, w3_2, by simp [hl], by simp [a2], g2, l2, r2_0, r2_1, r2_2, by simp [a3], g3, l3, r3_0, r3_1, r3_2, by simp [hl], ne2_3⟩
theorem R14_14 (pe : Nat → Fr14 → ASt → Prop) (pr : Fr14 → ASt → Prop) : Ref Cp P14_3 (Cat [true, false, true, false, false] (bodyOf Tryz.f14)) m14_14 (post P14_1 pe pr) := by
  rintro s ⟨t, h⟩ hp x s' hm
  have hp : P14_3' s t h := hp
  obtain ⟨hl, _⟩ := hp
  unfold m14_14 at hm
  cases hm
  refine ⟨⟨_, _⟩, by
      simp only [bodyOf, Tryz.f14, Cat, Bool.false_eq_true, e_seq, e_region, e_cond, e_block, ex_skip, ex_exit, ex_ret, o_cons, xops_nil, k_want_none, k_want_false, k_val, k_pan, k_call, k_ret, k_seq, k_seq_exit, k_seq_ret, k_true, k_false, k_block, k_block_exit, k_block_ret, k_loop, k_loop_exit, k_loop_ret, awanted, aoper, evalO, put, Option.getD_some, List.getElem?_set, acallOp, abuiltin, List.map_cons, List.map_nil, Nat.reduceEqDiff, Nat.reduceLT, List.length_set, Option.map_some, Option.bind_some, Option.bind_eq_bind, add_i, sub_i, mul_i, eql_i, neq_i, lss_i, leq_i, gtr_i, geq_i, ofV, ofCell, ↓reduceIte, List.cons_append, List.nil_append, List.append_nil, List.getElem?_toArray, List.getElem?_cons_succ, List.getElem?_cons_zero, e_draw, g_nil, g_cons, g_want, g_skip, g_val, g_call, g_ret, Option.map_none, hl, CP, bq1, bq2, bq3, bq4, ex_tup]
      exact rfl, ?_⟩
  show P14_1 _ _
  exact ⟨by simp [hl], by simp [hl]⟩
theorem R14_15 (pe : Nat → Fr14 → ASt → Prop) (pr : Fr14 → ASt → Prop) : Ref Cp P14_0 (Cat [true, false, false] (bodyOf Tryz.f14)) m14_15 (post P14_10 pe pr) := by
  rintro s ⟨t, h⟩ hp x s' hm
  have hp : P14_0' s t h := hp
  obtain ⟨i2, w2_0, w2_1, w2_2, i3, w3_0, w3_1, w3_2, hl, a2, g2, l2, r2_0, r2_1, r2_2, a3, g3, l3, r3_0, r3_1, r3_2, ne2_3⟩ := hp
  unfold m14_15 at hm
  have k97 : loadA h false 1 (.ptr i2 1) = some (.str s.t2.Table) := by rw [Heap.load_gen g2 (Nat.le_of_ble_eq_true rfl)]; first | rfl | exact ofc1 _ _ _
  have k98 : loadA h false 1 (.ptr i3 1) = some (.str s.t3.Table) := by rw [Heap.load_gen g3 (Nat.le_of_ble_eq_true rfl)]; first | rfl | exact ofc1 _ _ _
  cases hb99 : (!(s.t2.Table == s.t3.Table)) with
  | true =>
    all_goals (
      try simp only [hb99, cond_true, cond_false, Option.bind_some, Option.bind_assoc, Bool.not_true, Bool.not_false, Bool.true_and, Bool.false_and, Bool.and_true, Bool.and_false, Bool.true_or, Bool.false_or] at hm
      cases hm
      refine ⟨⟨_, _⟩, by
          simp only [bodyOf, Tryz.f14, Cat, Bool.false_eq_true, e_seq, e_region, e_cond, e_block, ex_skip, ex_exit, ex_ret, o_cons, xops_nil, k_want_none, k_want_false, k_val, k_pan, k_call, k_ret, k_seq, k_seq_exit, k_seq_ret, k_true, k_false, k_block, k_block_exit, k_block_ret, k_loop, k_loop_exit, k_loop_ret, awanted, aoper, evalO, put, Option.getD_some, List.getElem?_set, acallOp, abuiltin, List.map_cons, List.map_nil, Nat.reduceEqDiff, Nat.reduceLT, List.length_set, Option.map_some, Option.bind_some, Option.bind_eq_bind, add_i, sub_i, mul_i, eql_i, neq_i, lss_i, leq_i, gtr_i, geq_i, ofV, ofCell, ↓reduceIte, List.cons_append, List.nil_append, List.append_nil, List.getElem?_toArray, List.getElem?_cons_succ, List.getElem?_cons_zero, e_draw, g_nil, g_cons, g_want, g_skip, g_val, g_call, g_ret, Option.map_none, hl, a2, a3, CP, bq1, bq2, bq3, bq4, ex_tup, Ty.fa27_1, dropCells, Nat.zero_add, Nat.reduceAdd, k97, Ty.ld9, k98, neq_s, hb99]
          exact rfl, ?_⟩
      show P14_10 _ _
      exact ⟨i2, w2_0, w2_1, w2_2, i3, w3_0, w3_1, w3_2, by simp [hl], by simp [a2], g2, l2, r2_0, r2_1, r2_2, by simp [a3], g3, l3, r3_0, r3_1, r3_2, by simp [hl, hb99], ne2_3⟩)
  | false =>
    all_goals (
      try simp only [hb99, cond_true, cond_false, Option.bind_some, Option.bind_assoc, Bool.not_true, Bool.not_false, Bool.true_and, Bool.false_and, Bool.and_true, Bool.and_false, Bool.true_or, Bool.false_or] at hm
      have k100 : loadA h false 1 (.ptr i2 3) = some (.bool s.t2.Grouped) := by rw [Heap.load_gen g2 (Nat.le_of_ble_eq_true rfl)]; first | rfl | exact ofc1 _ _ _
      have k101 : loadA h false 1 (.ptr i3 3) = some (.bool s.t3.Grouped) := by rw [Heap.load_gen g3 (Nat.le_of_ble_eq_true rfl)]; first | rfl | exact ofc1 _ _ _
      cases hb102 : (s.t2.Grouped != s.t3.Grouped) with
      | true =>
        all_goals (
          try simp only [hb102, cond_true, cond_false, Option.bind_some, Option.bind_assoc, Bool.not_true, Bool.not_false, Bool.true_and, Bool.false_and, Bool.and_true, Bool.and_false, Bool.true_or, Bool.false_or] at hm
          cases hm
          refine ⟨⟨_, _⟩, by
              simp only [bodyOf, Tryz.f14, Cat, Bool.false_eq_true, e_seq, e_region, e_cond, e_block, ex_skip, ex_exit, ex_ret, o_cons, xops_nil, k_want_none, k_want_false, k_val, k_pan, k_call, k_ret, k_seq, k_seq_exit, k_seq_ret, k_true, k_false, k_block, k_block_exit, k_block_ret, k_loop, k_loop_exit, k_loop_ret, awanted, aoper, evalO, put, Option.getD_some, List.getElem?_set, acallOp, abuiltin, List.map_cons, List.map_nil, Nat.reduceEqDiff, Nat.reduceLT, List.length_set, Option.map_some, Option.bind_some, Option.bind_eq_bind, add_i, sub_i, mul_i, eql_i, neq_i, lss_i, leq_i, gtr_i, geq_i, ofV, ofCell, ↓reduceIte, List.cons_append, List.nil_append, List.append_nil, List.getElem?_toArray, List.getElem?_cons_succ, List.getElem?_cons_zero, e_draw, g_nil, g_cons, g_want, g_skip, g_val, g_call, g_ret, Option.map_none, hl, a2, a3, CP, bq1, bq2, bq3, bq4, ex_tup, Ty.fa27_1, dropCells, Nat.zero_add, Nat.reduceAdd, k97, Ty.ld9, k98, neq_s, Ty.fa27_3, k100, Ty.ld4, k101, Ty.neqb4, hb99, hb102]
              exact rfl, ?_⟩
          show P14_10 _ _
          exact ⟨i2, w2_0, w2_1, w2_2, i3, w3_0, w3_1, w3_2, by simp [hl], by simp [a2], g2, l2, r2_0, r2_1, r2_2, by simp [a3], g3, l3, r3_0, r3_1, r3_2, by simp [hl, hb99, hb102], ne2_3⟩)
      | false =>
        all_goals (
          try simp only [hb102, cond_true, cond_false, Option.bind_some, Option.bind_assoc, Bool.not_true, Bool.not_false, Bool.true_and, Bool.false_and, Bool.and_true, Bool.and_false, Bool.true_or, Bool.false_or] at hm
          have k103 : loadA h false 1 (.ptr i2 0) = some w2_0 := by rw [Heap.load_gen g2 (Nat.le_of_ble_eq_true rfl)]; first | rfl | exact ofc1 _ _ _
          have lu104 := fun h => Sl.len r2_0 Ty.un23 h
          have k105 : loadA h false 1 (.ptr i3 0) = some w3_0 := by rw [Heap.load_gen g3 (Nat.le_of_ble_eq_true rfl)]; first | rfl | exact ofc1 _ _ _
          have lu106 := fun h => Sl.len r3_0 Ty.un23 h
          cases hb107 : ((s.t2.Items.length : Int) != (s.t3.Items.length : Int)) with
          | true =>
            all_goals (
              try simp only [hb107, cond_true, cond_false, Option.bind_some, Option.bind_assoc, Bool.not_true, Bool.not_false, Bool.true_and, Bool.false_and, Bool.and_true, Bool.and_false, Bool.true_or, Bool.false_or] at hm
              cases hm
              refine ⟨⟨_, _⟩, by
                  simp only [bodyOf, Tryz.f14, Cat, Bool.false_eq_true, e_seq, e_region, e_cond, e_block, ex_skip, ex_exit, ex_ret, o_cons, xops_nil, k_want_none, k_want_false, k_val, k_pan, k_call, k_ret, k_seq, k_seq_exit, k_seq_ret, k_true, k_false, k_block, k_block_exit, k_block_ret, k_loop, k_loop_exit, k_loop_ret, awanted, aoper, evalO, put, Option.getD_some, List.getElem?_set, acallOp, abuiltin, List.map_cons, List.map_nil, Nat.reduceEqDiff, Nat.reduceLT, List.length_set, Option.map_some, Option.bind_some, Option.bind_eq_bind, add_i, sub_i, mul_i, eql_i, neq_i, lss_i, leq_i, gtr_i, geq_i, ofV, ofCell, ↓reduceIte, List.cons_append, List.nil_append, List.append_nil, List.getElem?_toArray, List.getElem?_cons_succ, List.getElem?_cons_zero, e_draw, g_nil, g_cons, g_want, g_skip, g_val, g_call, g_ret, Option.map_none, hl, a2, a3, CP, bq1, bq2, bq3, bq4, ex_tup, Ty.fa27_1, dropCells, Nat.zero_add, Nat.reduceAdd, k97, Ty.ld9, k98, neq_s, Ty.fa27_3, k100, Ty.ld4, k101, Ty.neqb4, Ty.fa27_0, k103, Ty.ld23, lu104, k105, lu106, hb99, hb102, hb107]
                  exact rfl, ?_⟩
              show P14_10 _ _
              exact ⟨i2, w2_0, w2_1, w2_2, i3, w3_0, w3_1, w3_2, by simp [hl], by simp [a2], g2, l2, r2_0, r2_1, r2_2, by simp [a3], g3, l3, r3_0, r3_1, r3_2, by simp [hl, hb99, hb102, hb107], ne2_3⟩)
          | false =>
            all_goals (
              try simp only [hb107, cond_true, cond_false, Option.bind_some, Option.bind_assoc, Bool.not_true, Bool.not_false, Bool.true_and, Bool.false_and, Bool.and_true, Bool.and_false, Bool.true_or, Bool.false_or] at hm
              have k108 : loadA h false 1 (.ptr i2 4) = some w2_2 := by rw [Heap.load_gen g2 (Nat.le_of_ble_eq_true rfl)]; first | rfl | exact ofc1 _ _ _
              have lu109 := fun h => Sl.len r2_2 Ty.un25 h
              have k110 : loadA h false 1 (.ptr i3 4) = some w3_2 := by rw [Heap.load_gen g3 (Nat.le_of_ble_eq_true rfl)]; first | rfl | exact ofc1 _ _ _
              have lu111 := fun h => Sl.len r3_2 Ty.un25 h
              cases hm
              refine ⟨⟨_, _⟩, by
                  simp only [bodyOf, Tryz.f14, Cat, Bool.false_eq_true, e_seq, e_region, e_cond, e_block, ex_skip, ex_exit, ex_ret, o_cons, xops_nil, k_want_none, k_want_false, k_val, k_pan, k_call, k_ret, k_seq, k_seq_exit, k_seq_ret, k_true, k_false, k_block, k_block_exit, k_block_ret, k_loop, k_loop_exit, k_loop_ret, awanted, aoper, evalO, put, Option.getD_some, List.getElem?_set, acallOp, abuiltin, List.map_cons, List.map_nil, Nat.reduceEqDiff, Nat.reduceLT, List.length_set, Option.map_some, Option.bind_some, Option.bind_eq_bind, add_i, sub_i, mul_i, eql_i, neq_i, lss_i, leq_i, gtr_i, geq_i, ofV, ofCell, ↓reduceIte, List.cons_append, List.nil_append, List.append_nil, List.getElem?_toArray, List.getElem?_cons_succ, List.getElem?_cons_zero, e_draw, g_nil, g_cons, g_want, g_skip, g_val, g_call, g_ret, Option.map_none, hl, a2, a3, CP, bq1, bq2, bq3, bq4, ex_tup, Ty.fa27_1, dropCells, Nat.zero_add, Nat.reduceAdd, k97, Ty.ld9, k98, neq_s, Ty.fa27_3, k100, Ty.ld4, k101, Ty.neqb4, Ty.fa27_0, k103, Ty.ld23, lu104, k105, lu106, Ty.fa27_4, k108, Ty.ld25, lu109, k110, lu111, hb99, hb102, hb107]
                  exact rfl, ?_⟩
              show P14_10 _ _
              exact ⟨i2, w2_0, w2_1, w2_2, i3, w3_0, w3_1, w3_2, by simp [hl], by simp [a2], g2, l2, r2_0, r2_1, r2_2, by simp [a3], g3, l3, r3_0, r3_1, r3_2, by simp [hl, hb99, hb102, hb107], ne2_3⟩)))
theorem R14_16 (pe : Nat → Fr14 → ASt → Prop) (pr : Fr14 → ASt → Prop) : Ref Cp P14_11 (Cat [false] (bodyOf Tryz.f14)) m14_16 (post P14_0 pe pr) := by
  rintro s ⟨t, h⟩ hp x s' hm
  have hp : P14_11' s t h := hp
  obtain ⟨w0_0, w0_1, w0_2, w1_0, w1_1, w1_2, hl, a0, r0_0, r0_1, r0_2, a1, r1_0, r1_1, r1_2⟩ := hp
  unfold m14_16 at hm
  obtain ⟨H131, eH131⟩ : ∃ x : AHeap, x = h.new (.arr [w0_0, .str s.t0.Table, w0_1, .bool s.t0.Grouped, w0_2]) := ⟨_, rfl⟩
  obtain ⟨id132, eid132⟩ : ∃ x : Nat, x = h.next := ⟨_, rfl⟩
  have k133 : H131.get id132 = some (.arr [w0_0, .str s.t0.Table, w0_1, .bool s.t0.Grouped, w0_2]) := by rw [eH131, eid132]; exact Heap.get_new_eq
  have k134 : id132 < H131.next := by rw [eH131, eid132, Heap.new_next]; exact Nat.lt_succ_self _
  have ic135 : (w0_0 : AVal).isCell = true := Sl.isCell r0_0
  have ic136 : (w0_1 : AVal).isCell = true := rCondT_cell r0_1
  have ic137 : (w0_2 : AVal).isCell = true := Sl.isCell r0_2
  have k138 : abox h (.agg [w0_0, .str s.t0.Table, w0_1, .bool s.t0.Grouped, w0_2]) = some (.ptr id132 0, H131) := by simp only [abox, eH131, eid132, bx_i, bx_b, bx_s, bx_a, bx_nl, bx_np, bx_ip, bx_ls, cl_i, cl_b, cl_s, cl_a, cl_nl, cl_np, cl_ip, cl_ls, List.all_cons, List.all_nil, Bool.and_self, Bool.and_true, c_i, c_b, c_s, c_nl, c_np, c_ip, c_ls, if_true, ic135, bx_c ic135, cl_c ic135, ic136, bx_c ic136, cl_c ic136, ic137, bx_c ic137, cl_c ic137]
  obtain ⟨H139, eH139⟩ : ∃ x : AHeap, x = H131.new (.arr [w1_0, .str s.t1.Table, w1_1, .bool s.t1.Grouped, w1_2]) := ⟨_, rfl⟩
  obtain ⟨id140, eid140⟩ : ∃ x : Nat, x = H131.next := ⟨_, rfl⟩
  have k141 : H139.get id132 = some (.arr [w0_0, .str s.t0.Table, w0_1, .bool s.t0.Grouped, w0_2]) := by rw [eH139, Heap.get_new_lt k134]; exact k133
  have k142 : id132 < H139.next := by rw [eH139, Heap.new_next]; exact Nat.lt_succ_of_lt k134
  have k143 : H139.get id140 = some (.arr [w1_0, .str s.t1.Table, w1_1, .bool s.t1.Grouped, w1_2]) := by rw [eH139, eid140]; exact Heap.get_new_eq
  have k144 : id140 < H139.next := by rw [eH139, eid140, Heap.new_next]; exact Nat.lt_succ_self _
  have k145 : id132 ≠ id140 := by rw [eid140]; exact Nat.ne_of_lt k134
  have ic146 : (w1_0 : AVal).isCell = true := Sl.isCell r1_0
  have ic147 : (w1_1 : AVal).isCell = true := rCondT_cell r1_1
  have ic148 : (w1_2 : AVal).isCell = true := Sl.isCell r1_2
  have k149 : abox H131 (.agg [w1_0, .str s.t1.Table, w1_1, .bool s.t1.Grouped, w1_2]) = some (.ptr id140 0, H139) := by simp only [abox, eH139, eid140, bx_i, bx_b, bx_s, bx_a, bx_nl, bx_np, bx_ip, bx_ls, cl_i, cl_b, cl_s, cl_a, cl_nl, cl_np, cl_ip, cl_ls, List.all_cons, List.all_nil, Bool.and_self, Bool.and_true, c_i, c_b, c_s, c_nl, c_np, c_ip, c_ls, if_true, ic146, bx_c ic146, cl_c ic146, ic147, bx_c ic147, cl_c ic147, ic148, bx_c ic148, cl_c ic148]
  cases hm
  refine ⟨⟨_, _⟩, by
      simp only [bodyOf, Tryz.f14, Cat, Bool.false_eq_true, e_seq, e_region, e_cond, e_block, ex_skip, ex_exit, ex_ret, o_cons, xops_nil, k_want_none, k_want_false, k_val, k_pan, k_call, k_ret, k_seq, k_seq_exit, k_seq_ret, k_true, k_false, k_block, k_block_exit, k_block_ret, k_loop, k_loop_exit, k_loop_ret, awanted, aoper, evalO, put, Option.getD_some, List.getElem?_set, acallOp, abuiltin, List.map_cons, List.map_nil, Nat.reduceEqDiff, Nat.reduceLT, List.length_set, Option.map_some, Option.bind_some, Option.bind_eq_bind, add_i, sub_i, mul_i, eql_i, neq_i, lss_i, leq_i, gtr_i, geq_i, ofV, ofCell, ↓reduceIte, List.cons_append, List.nil_append, List.append_nil, List.getElem?_toArray, List.getElem?_cons_succ, List.getElem?_cons_zero, e_draw, g_nil, g_cons, g_want, g_skip, g_val, g_call, g_ret, Option.map_none, hl, a0, a1, CP, bq1, bq2, bq3, bq4, ex_tup, Ty.nc_ref_go_581, k138, k149]
      exact rfl, ?_⟩
  show P14_0 _ _
  exact ⟨id132, w0_0, w0_1, w0_2, id140, w1_0, w1_1, w1_2, by simp [hl], by simp [hl], k141, k142, r0_0, r0_1, r0_2, by simp [hl], k143, k144, r1_0, r1_1, r1_2, k145⟩
theorem B14 : Ref Cp P14_11 (bodyOf Tryz.f14) (M14) (post P14_1 (fun _ _ _ => False) P14_1) := by
  rw [show bodyOf Tryz.f14 = .seq (Cat [false] (bodyOf Tryz.f14)) (.seq (.seq (Cat [true, false, false] (bodyOf Tryz.f14)) (.cond (.tmp 37) (.seq (Cat [true, false, true, false, false] (bodyOf Tryz.f14)) (.ret)) (.skip))) (.seq (.seq (Cat [true, true, false, false] (bodyOf Tryz.f14)) (.block 0 (.loop (.seq (.seq (Cat [true, true, false, true, true, true, false, false] (bodyOf Tryz.f14)) (.cond (.tmp 42) (.skip) (.exit 0))) (.seq (.block 1 (.seq (Cat [true, true, false, true, true, true, true, false, true, false] (bodyOf Tryz.f14)) (.cond (.tmp 55) (.seq (Cat [true, true, false, true, true, true, true, false, true, true, false, false] (bodyOf Tryz.f14)) (.ret)) (.skip)))) (Cat [true, true, false, true, true, true, true, true] (bodyOf Tryz.f14))))))) (.seq (.seq (Cat [true, true, true, false, false] (bodyOf Tryz.f14)) (.block 2 (.loop (.seq (.seq (Cat [true, true, true, false, true, true, true, false, false] (bodyOf Tryz.f14)) (.cond (.tmp 60) (.skip) (.exit 2))) (.seq (.block 3 (.seq (Cat [true, true, true, false, true, true, true, true, false, true, false] (bodyOf Tryz.f14)) (.seq (Cat [true, true, true, false, true, true, true, true, false, true, true, false] (bodyOf Tryz.f14)) (.cond (.tmp 75) (.seq (Cat [true, true, true, false, true, true, true, true, false, true, true, true, false, false] (bodyOf Tryz.f14)) (.ret)) (.skip))))) (Cat [true, true, true, false, true, true, true, true, true] (bodyOf Tryz.f14))))))) (.seq (Cat [true, true, true, true, false] (bodyOf Tryz.f14)) (.ret))))) from rfl]
  unfold M14
  exact ref_seq (M := P14_0) (R14_16 _ _) (ref_seq (M := P14_0) (ref_seq (M := P14_10) (R14_15 _ _) (ref_cond (P := P14_10) (c := fun s => s.t37) (fun s st hp => by obtain ⟨i2, w2_0, w2_1, w2_2, i3, w3_0, w3_1, w3_2, hl, a2, g2, l2, r2_0, r2_1, r2_2, a3, g3, l3, r3_0, r3_1, r3_2, a37, ne2_3⟩ := (hp : P14_10' s st.tmps st.h); simp only [evalO, a37, Option.getD_some]) (ref_weak (P' := P14_3) (fun s st hp => by obtain ⟨i2, w2_0, w2_1, w2_2, i3, w3_0, w3_1, w3_2, hl, a2, g2, l2, r2_0, r2_1, r2_2, a3, g3, l3, r3_0, r3_1, r3_2, a37, ne2_3⟩ := (hp : P14_10' s st.tmps st.h); exact (⟨hl, trivial⟩ : P14_3' s st.tmps st.h)) (ref_seq (M := P14_1) (R14_14 _ _) (ref_ret (fun s st hp => hp)))) (ref_weak (P' := P14_0) (fun s st hp => by obtain ⟨i2, w2_0, w2_1, w2_2, i3, w3_0, w3_1, w3_2, hl, a2, g2, l2, r2_0, r2_1, r2_2, a3, g3, l3, r3_0, r3_1, r3_2, a37, ne2_3⟩ := (hp : P14_10' s st.tmps st.h); exact (⟨i2, w2_0, w2_1, w2_2, i3, w3_0, w3_1, w3_2, hl, a2, g2, l2, r2_0, r2_1, r2_2, a3, g3, l3, r3_0, r3_1, r3_2, ne2_3⟩ : P14_0' s st.tmps st.h)) (ref_skip (fun s st hp => hp))))) (ref_seq (M := P14_0) (ref_seq (M := P14_7) (R14_13 _ _) (ref_block (ref_loop (P := P14_7) (ref_weak (P' := P14_7) (fun s st hp => hp) (ref_seq (M := P14_7) (ref_seq (M := P14_9) (R14_11 _ _) (ref_cond (P := P14_9) (c := fun s => s.t42) (fun s st hp => by obtain ⟨i2, w2_0, w2_1, w2_2, i3, w3_0, w3_1, w3_2, hl, a2, g2, l2, r2_0, r2_1, r2_2, a3, g3, l3, r3_0, r3_1, r3_2, a5, a42, ne2_3⟩ := (hp : P14_9' s st.tmps st.h); simp only [evalO, a42, Option.getD_some]) (ref_weak (P' := P14_7) (fun s st hp => by obtain ⟨i2, w2_0, w2_1, w2_2, i3, w3_0, w3_1, w3_2, hl, a2, g2, l2, r2_0, r2_1, r2_2, a3, g3, l3, r3_0, r3_1, r3_2, a5, a42, ne2_3⟩ := (hp : P14_9' s st.tmps st.h); exact (⟨i2, w2_0, w2_1, w2_2, i3, w3_0, w3_1, w3_2, hl, a2, g2, l2, r2_0, r2_1, r2_2, a3, g3, l3, r3_0, r3_1, r3_2, a5, ne2_3⟩ : P14_7' s st.tmps st.h)) (ref_skip (fun s st hp => hp))) (ref_weak (P' := P14_0) (fun s st hp => by obtain ⟨i2, w2_0, w2_1, w2_2, i3, w3_0, w3_1, w3_2, hl, a2, g2, l2, r2_0, r2_1, r2_2, a3, g3, l3, r3_0, r3_1, r3_2, a5, a42, ne2_3⟩ := (hp : P14_9' s st.tmps st.h); exact (⟨i2, w2_0, w2_1, w2_2, i3, w3_0, w3_1, w3_2, hl, a2, g2, l2, r2_0, r2_1, r2_2, a3, g3, l3, r3_0, r3_1, r3_2, ne2_3⟩ : P14_0' s st.tmps st.h)) (ref_exit (fun s st hp => hp))))) (ref_seq (M := P14_7) (ref_block (ref_seq (M := P14_8) (R14_10 _ _) (ref_cond (P := P14_8) (c := fun s => s.t55) (fun s st hp => by obtain ⟨i2, w2_0, w2_1, w2_2, i3, w3_0, w3_1, w3_2, hl, a2, g2, l2, r2_0, r2_1, r2_2, a3, g3, l3, r3_0, r3_1, r3_2, a5, a55, ne2_3⟩ := (hp : P14_8' s st.tmps st.h); simp only [evalO, a55, Option.getD_some]) (ref_weak (P' := P14_3) (fun s st hp => by obtain ⟨i2, w2_0, w2_1, w2_2, i3, w3_0, w3_1, w3_2, hl, a2, g2, l2, r2_0, r2_1, r2_2, a3, g3, l3, r3_0, r3_1, r3_2, a5, a55, ne2_3⟩ := (hp : P14_8' s st.tmps st.h); exact (⟨hl, trivial⟩ : P14_3' s st.tmps st.h)) (ref_seq (M := P14_1) (R14_9 _ _) (ref_ret (fun s st hp => hp)))) (ref_weak (P' := P14_7) (fun s st hp => by obtain ⟨i2, w2_0, w2_1, w2_2, i3, w3_0, w3_1, w3_2, hl, a2, g2, l2, r2_0, r2_1, r2_2, a3, g3, l3, r3_0, r3_1, r3_2, a5, a55, ne2_3⟩ := (hp : P14_8' s st.tmps st.h); exact (⟨i2, w2_0, w2_1, w2_2, i3, w3_0, w3_1, w3_2, hl, a2, g2, l2, r2_0, r2_1, r2_2, a3, g3, l3, r3_0, r3_1, r3_2, a5, ne2_3⟩ : P14_7' s st.tmps st.h)) (ref_skip (fun s st hp => hp)))))) (R14_8 _ _))))))) (ref_seq (M := P14_0) (ref_seq (M := P14_2) (R14_7 _ _) (ref_block (ref_loop (P := P14_2) (ref_weak (P' := P14_2) (fun s st hp => hp) (ref_seq (M := P14_2) (ref_seq (M := P14_6) (R14_5 _ _) (ref_cond (P := P14_6) (c := fun s => s.t60) (fun s st hp => by obtain ⟨i2, w2_0, w2_1, w2_2, i3, w3_0, w3_1, w3_2, hl, a2, g2, l2, r2_0, r2_1, r2_2, a3, g3, l3, r3_0, r3_1, r3_2, a6, a60, ne2_3⟩ := (hp : P14_6' s st.tmps st.h); simp only [evalO, a60, Option.getD_some]) (ref_weak (P' := P14_2) (fun s st hp => by obtain ⟨i2, w2_0, w2_1, w2_2, i3, w3_0, w3_1, w3_2, hl, a2, g2, l2, r2_0, r2_1, r2_2, a3, g3, l3, r3_0, r3_1, r3_2, a6, a60, ne2_3⟩ := (hp : P14_6' s st.tmps st.h); exact (⟨i2, w2_0, w2_1, w2_2, i3, w3_0, w3_1, w3_2, hl, a2, g2, l2, r2_0, r2_1, r2_2, a3, g3, l3, r3_0, r3_1, r3_2, a6, ne2_3⟩ : P14_2' s st.tmps st.h)) (ref_skip (fun s st hp => hp))) (ref_weak (P' := P14_0) (fun s st hp => by obtain ⟨i2, w2_0, w2_1, w2_2, i3, w3_0, w3_1, w3_2, hl, a2, g2, l2, r2_0, r2_1, r2_2, a3, g3, l3, r3_0, r3_1, r3_2, a6, a60, ne2_3⟩ := (hp : P14_6' s st.tmps st.h); exact (⟨i2, w2_0, w2_1, w2_2, i3, w3_0, w3_1, w3_2, hl, a2, g2, l2, r2_0, r2_1, r2_2, a3, g3, l3, r3_0, r3_1, r3_2, ne2_3⟩ : P14_0' s st.tmps st.h)) (ref_exit (fun s st hp => hp))))) (ref_seq (M := P14_2) (ref_block (ref_seq (M := P14_5) (R14_4 _ _) (ref_seq (M := P14_4) (R14_3 _ _) (ref_cond (P := P14_4) (c := fun s => s.t75) (fun s st hp => by obtain ⟨i2, w2_0, w2_1, w2_2, i3, w3_0, w3_1, w3_2, hl, a2, g2, l2, r2_0, r2_1, r2_2, a3, g3, l3, r3_0, r3_1, r3_2, a6, a75, ne2_3⟩ := (hp : P14_4' s st.tmps st.h); simp only [evalO, a75, Option.getD_some]) (ref_weak (P' := P14_3) (fun s st hp => by obtain ⟨i2, w2_0, w2_1, w2_2, i3, w3_0, w3_1, w3_2, hl, a2, g2, l2, r2_0, r2_1, r2_2, a3, g3, l3, r3_0, r3_1, r3_2, a6, a75, ne2_3⟩ := (hp : P14_4' s st.tmps st.h); exact (⟨hl, trivial⟩ : P14_3' s st.tmps st.h)) (ref_seq (M := P14_1) (R14_2 _ _) (ref_ret (fun s st hp => hp)))) (ref_weak (P' := P14_2) (fun s st hp => by obtain ⟨i2, w2_0, w2_1, w2_2, i3, w3_0, w3_1, w3_2, hl, a2, g2, l2, r2_0, r2_1, r2_2, a3, g3, l3, r3_0, r3_1, r3_2, a6, a75, ne2_3⟩ := (hp : P14_4' s st.tmps st.h); exact (⟨i2, w2_0, w2_1, w2_2, i3, w3_0, w3_1, w3_2, hl, a2, g2, l2, r2_0, r2_1, r2_2, a3, g3, l3, r3_0, r3_1, r3_2, a6, ne2_3⟩ : P14_2' s st.tmps st.h)) (ref_skip (fun s st hp => hp))))))) (R14_1 _ _))))))) (ref_seq (M := P14_1) (R14_0 _ _) (ref_ret (fun s st hp => hp))))))
noncomputable def G14 (x0 : Query) (x1 : Query) : Option Bool := match M14 { (default : Fr14) with t0 := x0, t1 := x1 } with
  | some (.nrm, s) => some s.t4
  | some (.ret, s) => some s.t4
  | _ => none
theorem G14_spec : Spec14 (G14) := by
  intro x0 x1 vx0_0 hvx0_0 vx0_1 hvx0_1 vx0_2 hvx0_2 vx1_0 hvx1_0 vx1_1 hvx1_1 vx1_2 hvx1_2 r hr
  unfold G14 at hr
  cases hm : M14 { (default : Fr14) with t0 := x0, t1 := x1 } with
  | none => rw [hm] at hr; cases hr
  | some q =>
    obtain ⟨x, s⟩ := q
    rw [hm] at hr
    have hx : x = .nrm ∨ x = .ret := by cases x <;> first | exact .inl rfl | exact .inr rfl | cases hr
    have hr : s.t4 = r := by cases x <;> first | exact Option.some.inj hr | cases hr
    subst hr
    have hp0 : P14_11' ({ (default : Fr14) with t0 := x0, t1 := x1 }) (slots Tryz.f14 (stripL [.agg [vx0_0, .str x0.Table, vx0_1, .bool x0.Grouped, vx0_2], .agg [vx1_0, .str x1.Table, vx1_1, .bool x1.Grouped, vx1_2]])) bare := ⟨(strip vx0_0 : AVal), (strip vx0_1 : AVal), (strip vx0_2 : AVal), (strip vx1_0 : AVal), (strip vx1_1 : AVal), (strip vx1_2 : AVal), rfl, rfl, hvx0_0.strip rItem_p, rCondT_p.str _ _ hvx0_1, hvx0_2.strip rGroup_p, rfl, hvx1_0.strip rItem_p, rCondT_p.str _ _ hvx1_1, hvx1_2.strip rGroup_p⟩
    obtain ⟨v, hR, hrun⟩ := run_of_ref (C := Cp) (f := 14) (fn := Tryz.f14) Tryz.func14 rfl rfl rfl rfl (args := [.agg [vx0_0, .str x0.Table, vx0_1, .bool x0.Grouped, vx0_2], .agg [vx1_0, .str x1.Table, vx1_1, .bool x1.Grouped, vx1_2]]) (by simp only [refsL, refs, List.append_nil, hvx0_0.refs rItem_p, refs_one (rCondT_p.ref _ _ hvx0_1), hvx0_2.refs rGroup_p, hvx1_0.refs rItem_p, refs_one (rCondT_p.ref _ _ hvx1_1), hvx1_2.refs rGroup_p]) (B14) (s0 := { (default : Fr14) with t0 := x0, t1 := x1 }) hp0 hm hx (R := fun v => v = .bool s.t4) (by
      have key : ∀ st : ASt, P14_1 s st → ∃ vs v, aresults Cp Tryz.f14.results.toList st = some vs ∧ Nrm [] st.h (packRes vs) v ∧ (fun v => v = .bool s.t4) v := by
        intro st hp
        obtain ⟨hl, a4⟩ := (hp : P14_1' s st.tmps st.h)
        exact ⟨[.bool s.t4], _, by simp only [show Tryz.f14.results.toList = [ResultVar.tmp 4] from rfl, aresults, ares1, CP, a4, Option.getD_some], (Nrm.of (w := .bool s.t4) (by simp only [refsL, refs, List.append_nil])), rfl⟩
      intro st hq
      rcases hx with rfl | rfl
      · exact key st hq
      · exact key st hq)
    subst hR
    exact hrun
end Go.Proofs.Par
