/-
  BIND (B): functions (printed by wip/tools/tg.py).
-/
import Derived.Test.YtijnepmlnfcpnaaGreatDoorBndBTypes
set_option linter.unusedVariables false
set_option linter.unusedSimpArgs false
set_option linter.unusedSimpArgs false
set_option linter.unusedVariables false
set_option maxRecDepth 100000
namespace Go.Proofs.Bnd
open Go Go.Am Go.Proofs
/-! ### caisson/bind.Holds -/
structure Fr21 where
  t0 : TestT
  t1 : Fact
  t3 : Fact
  t4 : Bool
instance : Inhabited Fr21 := ⟨⟨default, default, default, false⟩⟩
def P21_0' (s : Fr21) (t : List AVal) (h : AHeap) : Prop := ∃ w0_0 i3 w3_0 w3_1, t.length = 13 ∧ t[0]? = some w0_0 ∧ rTestT s.t0 [w0_0] ∧ t[3]? = some (.ptr i3 0) ∧ h.get i3 = some (.arr [w3_0, w3_1]) ∧ i3 < h.next ∧ Sl rS s.t3.Dims w3_0 ∧ Sl (rI .i64) s.t3.Meas w3_1
def P21_0 (s : Fr21) (st : ASt) : Prop := P21_0' s st.tmps st.h
def P21_1' (s : Fr21) (t : List AVal) (h : AHeap) : Prop := t.length = 13 ∧ t[4]? = some (.bool s.t4)
def P21_1 (s : Fr21) (st : ASt) : Prop := P21_1' s st.tmps st.h
def P21_2' (s : Fr21) (t : List AVal) (h : AHeap) : Prop := ∃ w0_0 w1_0 w1_1, t.length = 13 ∧ t[0]? = some w0_0 ∧ rTestT s.t0 [w0_0] ∧ t[1]? = some (.agg [w1_0, w1_1]) ∧ Sl rS s.t1.Dims w1_0 ∧ Sl (rI .i64) s.t1.Meas w1_1
def P21_2 (s : Fr21) (st : ASt) : Prop := P21_2' s st.tmps st.h
noncomputable def m21_0 : Mo Fr21 := fun s => (S66 s.t0).bind fun z1 => (cond (decide (z1 ≤ 4096)) ((F77 5000 s.t0 s.t3).bind fun z4 => some z4) (some false)).bind fun x6 => some (.nrm, { s with t4 := ((decide (z1 ≤ 4096)) && x6) })
noncomputable def m21_1 : Mo Fr21 := fun s => some (.nrm, { s with t3 := s.t1 })
noncomputable def M21 : Mo Fr21 := seqM (m21_1) (seqM (m21_0) (retM))
def Spec21 (f : TestT → Fact → Option Bool) : Prop := ∀ (x0 : TestT) (x1 : Fact) (vx0_0 : AVal) (_ : rTestT x0 [vx0_0]) (vx1_0 : AVal) (_ : Sl rS x1.Dims vx1_0) (vx1_1 : AVal) (_ : Sl (rI .i64) x1.Meas vx1_1) (r : Bool), f x0 x1 = some r → ∀ h, run Cb 21 [vx0_0, .agg [vx1_0, vx1_1]] h = some (.ret (.bool r), h)
theorem Spec21_of {f g : TestT → Fact → Option Bool} (hg : Spec21 g) (h : ∀ x0 x1 r, f x0 x1 = some r → g x0 x1 = some r) : Spec21 f := fun x0 x1 v0_ w0_ v1_ w1_ v2_ w2_ r hr => hg x0 x1 v0_ w0_ v1_ w1_ v2_ w2_ r (h x0 x1 r hr)
theorem R21_0 (pe : Nat → Fr21 → ASt → Prop) (pr : Fr21 → ASt → Prop) : Ref Cb P21_0 (Cat [true, false] (bodyOf Tryz.f21)) m21_0 (post P21_1 pe pr) := by
  rintro s ⟨t, h⟩ hp x s' hm
  have hp : P21_0' s t h := hp
  obtain ⟨w0_0, i3, w3_0, w3_1, hl, a0, r0_0, a3, g3, l3, r3_0, r3_1⟩ := hp
  unfold m21_0 at hm
  obtain ⟨z7, hz7, hm⟩ := Option.bind_eq_some_iff.1 hm
  have iu8 := S66_spec s.t0 _ r0_0 _ hz7
  cases hb9 : decide (z7 ≤ 4096) with
  | true =>
    all_goals (
      try simp only [hb9, cond_true, cond_false, Option.bind_some, Option.bind_assoc, Bool.not_true, Bool.not_false, Bool.true_and, Bool.false_and, Bool.and_true, Bool.and_false, Bool.true_or, Bool.false_or] at hm
      have k10 : loadA h true 2 (.ptr i3 0) = some (.agg [w3_0, w3_1]) := by rw [Heap.load_gen g3 (Nat.le_of_ble_eq_true rfl)]; first | rfl | exact ofc2 _ _ _
      obtain ⟨z11, hz11, hm⟩ := Option.bind_eq_some_iff.1 hm
      have iu12 := (F77_spec 5000) s.t0 s.t3 _ r0_0 _ r3_0 _ r3_1 _ hz11
      try simp only [cond_true, cond_false, Option.bind_some, Option.bind_assoc, Bool.not_true, Bool.not_false, Bool.true_and, Bool.false_and, Bool.and_true, Bool.and_false, Bool.true_or, Bool.false_or] at hm
      cases hm
      refine ⟨⟨_, _⟩, by
          simp only [bodyOf, Tryz.f21, Cat, Bool.false_eq_true, e_seq, e_region, e_cond, e_block, ex_skip, ex_exit, ex_ret, o_cons, xops_nil, k_want_none, k_want_false, k_val, k_pan, k_call, k_ret, k_seq, k_seq_exit, k_seq_ret, k_true, k_false, k_block, k_block_exit, k_block_ret, k_loop, k_loop_exit, k_loop_ret, awanted, aoper, evalO, put, Option.getD_some, List.getElem?_set, acallOp, abuiltin, List.map_cons, List.map_nil, Nat.reduceEqDiff, Nat.reduceLT, List.length_set, Option.map_some, Option.bind_some, Option.bind_eq_bind, add_i, sub_i, mul_i, eql_i, neq_i, lss_i, leq_i, gtr_i, geq_i, ofV, ofCell, ↓reduceIte, List.cons_append, List.nil_append, List.append_nil, List.getElem?_toArray, List.getElem?_cons_succ, List.getElem?_cons_zero, e_draw, g_nil, g_cons, g_want, g_skip, g_val, g_call, g_ret, Option.map_none, hl, a0, a3, CP, bq1, bq2, bq3, bq4, ex_tup, iu8, k10, TyB.ld53, iu12, hb9]
          exact rfl, ?_⟩
      show P21_1 _ _
      exact ⟨by simp [hl], by simp [hl, hb9]⟩)
  | false =>
    all_goals (
      try simp only [hb9, cond_true, cond_false, Option.bind_some, Option.bind_assoc, Bool.not_true, Bool.not_false, Bool.true_and, Bool.false_and, Bool.and_true, Bool.and_false, Bool.true_or, Bool.false_or] at hm
      cases hm
      refine ⟨⟨_, _⟩, by
          simp only [bodyOf, Tryz.f21, Cat, Bool.false_eq_true, e_seq, e_region, e_cond, e_block, ex_skip, ex_exit, ex_ret, o_cons, xops_nil, k_want_none, k_want_false, k_val, k_pan, k_call, k_ret, k_seq, k_seq_exit, k_seq_ret, k_true, k_false, k_block, k_block_exit, k_block_ret, k_loop, k_loop_exit, k_loop_ret, awanted, aoper, evalO, put, Option.getD_some, List.getElem?_set, acallOp, abuiltin, List.map_cons, List.map_nil, Nat.reduceEqDiff, Nat.reduceLT, List.length_set, Option.map_some, Option.bind_some, Option.bind_eq_bind, add_i, sub_i, mul_i, eql_i, neq_i, lss_i, leq_i, gtr_i, geq_i, ofV, ofCell, ↓reduceIte, List.cons_append, List.nil_append, List.append_nil, List.getElem?_toArray, List.getElem?_cons_succ, List.getElem?_cons_zero, e_draw, g_nil, g_cons, g_want, g_skip, g_val, g_call, g_ret, Option.map_none, hl, a0, a3, CP, bq1, bq2, bq3, bq4, ex_tup, iu8, hb9]
          exact rfl, ?_⟩
      show P21_1 _ _
      exact ⟨by simp [hl], by simp [hl, hb9]⟩)
theorem R21_1 (pe : Nat → Fr21 → ASt → Prop) (pr : Fr21 → ASt → Prop) : Ref Cb P21_2 (Cat [false] (bodyOf Tryz.f21)) m21_1 (post P21_0 pe pr) := by
  rintro s ⟨t, h⟩ hp x s' hm
  have hp : P21_2' s t h := hp
  obtain ⟨w0_0, w1_0, w1_1, hl, a0, r0_0, a1, r1_0, r1_1⟩ := hp
  unfold m21_1 at hm
  obtain ⟨H20, eH20⟩ : ∃ x : AHeap, x = h.new (.arr [w1_0, w1_1]) := ⟨_, rfl⟩
  obtain ⟨id21, eid21⟩ : ∃ x : Nat, x = h.next := ⟨_, rfl⟩
  have k22 : H20.get id21 = some (.arr [w1_0, w1_1]) := by rw [eH20, eid21]; exact Heap.get_new_eq
  have k23 : id21 < H20.next := by rw [eH20, eid21, Heap.new_next]; exact Nat.lt_succ_self _
  have ic24 : (w1_0 : AVal).isCell = true := Sl.isCell r1_0
  have ic25 : (w1_1 : AVal).isCell = true := Sl.isCell r1_1
  have k26 : abox h (.agg [w1_0, w1_1]) = some (.ptr id21 0, H20) := by simp only [abox, eH20, eid21, bx_i, bx_b, bx_s, bx_a, bx_nl, bx_np, bx_ip, bx_ls, cl_i, cl_b, cl_s, cl_a, cl_nl, cl_np, cl_ip, cl_ls, List.all_cons, List.all_nil, Bool.and_self, Bool.and_true, c_i, c_b, c_s, c_nl, c_np, c_ip, c_ls, if_true, ic24, bx_c ic24, cl_c ic24, ic25, bx_c ic25, cl_c ic25]
  cases hm
  refine ⟨⟨_, _⟩, by
      simp only [bodyOf, Tryz.f21, Cat, Bool.false_eq_true, e_seq, e_region, e_cond, e_block, ex_skip, ex_exit, ex_ret, o_cons, xops_nil, k_want_none, k_want_false, k_val, k_pan, k_call, k_ret, k_seq, k_seq_exit, k_seq_ret, k_true, k_false, k_block, k_block_exit, k_block_ret, k_loop, k_loop_exit, k_loop_ret, awanted, aoper, evalO, put, Option.getD_some, List.getElem?_set, acallOp, abuiltin, List.map_cons, List.map_nil, Nat.reduceEqDiff, Nat.reduceLT, List.length_set, Option.map_some, Option.bind_some, Option.bind_eq_bind, add_i, sub_i, mul_i, eql_i, neq_i, lss_i, leq_i, gtr_i, geq_i, ofV, ofCell, ↓reduceIte, List.cons_append, List.nil_append, List.append_nil, List.getElem?_toArray, List.getElem?_cons_succ, List.getElem?_cons_zero, e_draw, g_nil, g_cons, g_want, g_skip, g_val, g_call, g_ret, Option.map_none, hl, a0, a1, CP, bq1, bq2, bq3, bq4, ex_tup, TyB.nc_bind_go_257, TyB.own_bind_go_257, k26]
      exact rfl, ?_⟩
  show P21_0 _ _
  exact ⟨w0_0, id21, w1_0, w1_1, by simp [hl], by simp [a0], r0_0, by simp [hl], k22, k23, r1_0, r1_1⟩
theorem B21 : Ref Cb P21_2 (bodyOf Tryz.f21) (M21) (post P21_1 (fun _ _ _ => False) P21_1) := by
  rw [show bodyOf Tryz.f21 = .seq (Cat [false] (bodyOf Tryz.f21)) (.seq (Cat [true, false] (bodyOf Tryz.f21)) (.ret)) from rfl]
  unfold M21
  exact ref_seq (M := P21_0) (R21_1 _ _) (ref_seq (M := P21_1) (R21_0 _ _) (ref_ret (fun s st hp => hp)))
noncomputable def G21 (x0 : TestT) (x1 : Fact) : Option Bool := match M21 { (default : Fr21) with t0 := x0, t1 := x1 } with
  | some (.nrm, s) => some s.t4
  | some (.ret, s) => some s.t4
  | _ => none
theorem G21_spec : Spec21 (G21) := by
  intro x0 x1 vx0_0 hvx0_0 vx1_0 hvx1_0 vx1_1 hvx1_1 r hr
  unfold G21 at hr
  cases hm : M21 { (default : Fr21) with t0 := x0, t1 := x1 } with
  | none => rw [hm] at hr; cases hr
  | some q =>
    obtain ⟨x, s⟩ := q
    rw [hm] at hr
    have hx : x = .nrm ∨ x = .ret := by cases x <;> first | exact .inl rfl | exact .inr rfl | cases hr
    have hr : s.t4 = r := by cases x <;> first | exact Option.some.inj hr | cases hr
    subst hr
    have hp0 : P21_2' ({ (default : Fr21) with t0 := x0, t1 := x1 }) (slots Tryz.f21 (stripL [vx0_0, .agg [vx1_0, vx1_1]])) bare := ⟨(strip vx0_0 : AVal), (strip vx1_0 : AVal), (strip vx1_1 : AVal), rfl, rfl, rTestT_p.str _ _ hvx0_0, rfl, hvx1_0.strip rS_p, hvx1_1.strip (rI_p .i64)⟩
    obtain ⟨v, hR, hrun⟩ := run_of_ref (C := Cb) (f := 21) (fn := Tryz.f21) Tryz.func21 rfl rfl rfl rfl (args := [vx0_0, .agg [vx1_0, vx1_1]]) (by simp only [refsL, refs, List.append_nil, refs_one (rTestT_p.ref _ _ hvx0_0), hvx1_0.refs rS_p, hvx1_1.refs (rI_p .i64)]) (B21) (s0 := { (default : Fr21) with t0 := x0, t1 := x1 }) hp0 hm hx (R := fun v => v = .bool s.t4) (by
      have key : ∀ st : ASt, P21_1 s st → ∃ vs v, aresults Cb Tryz.f21.results.toList st = some vs ∧ Nrm [] st.h (packRes vs) v ∧ (fun v => v = .bool s.t4) v := by
        intro st hp
        obtain ⟨hl, a4⟩ := (hp : P21_1' s st.tmps st.h)
        exact ⟨[.bool s.t4], _, by simp only [show Tryz.f21.results.toList = [ResultVar.tmp 4] from rfl, aresults, ares1, CP, a4, Option.getD_some], (Nrm.of (w := .bool s.t4) (by simp only [refsL, refs, List.append_nil])), rfl⟩
      intro st hq
      rcases hx with rfl | rfl
      · exact key st hq
      · exact key st hq)
    subst hR
    exact hrun
/-! ### caisson/bind.Reads -/
structure Fr22 where
  t0 : TestT
  t2 : Int
  t3 : Bool
  t6 : Bool
instance : Inhabited Fr22 := ⟨⟨default, 0, false, false⟩⟩
def P22_0' (s : Fr22) (t : List AVal) (h : AHeap) : Prop := ∃ w0_0, t.length = 11 ∧ t[0]? = some w0_0 ∧ rTestT s.t0 [w0_0]
def P22_0 (s : Fr22) (st : ASt) : Prop := P22_0' s st.tmps st.h
def P22_1' (s : Fr22) (t : List AVal) (h : AHeap) : Prop := t.length = 11 ∧ t[2]? = some (.int .i64 s.t2) ∧ t[3]? = some (.bool s.t3)
def P22_1 (s : Fr22) (st : ASt) : Prop := P22_1' s st.tmps st.h
def P22_2' (s : Fr22) (t : List AVal) (h : AHeap) : Prop := t.length = 11 ∧ True
def P22_2 (s : Fr22) (st : ASt) : Prop := P22_2' s st.tmps st.h
def P22_3' (s : Fr22) (t : List AVal) (h : AHeap) : Prop := ∃ w0_0, t.length = 11 ∧ t[0]? = some w0_0 ∧ rTestT s.t0 [w0_0] ∧ t[6]? = some (.bool s.t6)
def P22_3 (s : Fr22) (st : ASt) : Prop := P22_3' s st.tmps st.h
noncomputable def m22_0 : Mo Fr22 := fun s => (F78 5000 s.t0).bind fun z1 => some (.nrm, { s with t2 := z1.1, t3 := z1.2 })
noncomputable def m22_1 : Mo Fr22 := fun s => some (.nrm, { s with t2 := 63, t3 := true })
noncomputable def m22_2 : Mo Fr22 := fun s => (S66 s.t0).bind fun z5 => some (.nrm, { s with t6 := decide (z5 > 4096) })
noncomputable def m22_3 : Mo Fr22 := fun s => some (.nrm, s)
noncomputable def M22 : Mo Fr22 := seqM (m22_3) (seqM (seqM (m22_2) (condM (fun s => s.t6) (seqM (m22_1) (retM)) (skipM))) (seqM (m22_0) (retM)))
def Spec22 (f : TestT → Option (Int × Bool)) : Prop := ∀ (x0 : TestT) (vx0_0 : AVal) (_ : rTestT x0 [vx0_0]) (r : (Int × Bool)), f x0 = some r → ∀ h, run Cb 22 [vx0_0] h = some (.ret (.tup [.int .i64 r.1, .bool r.2]), h)
theorem Spec22_of {f g : TestT → Option (Int × Bool)} (hg : Spec22 g) (h : ∀ x0 r, f x0 = some r → g x0 = some r) : Spec22 f := fun x0 v0_ w0_ r hr => hg x0 v0_ w0_ r (h x0 r hr)
theorem R22_0 (pe : Nat → Fr22 → ASt → Prop) (pr : Fr22 → ASt → Prop) : Ref Cb P22_0 (Cat [true, true, false] (bodyOf Tryz.f22)) m22_0 (post P22_1 pe pr) := by
  rintro s ⟨t, h⟩ hp x s' hm
  have hp : P22_0' s t h := hp
  obtain ⟨w0_0, hl, a0, r0_0⟩ := hp
  unfold m22_0 at hm
  obtain ⟨z3, hz3, hm⟩ := Option.bind_eq_some_iff.1 hm
  have iu4 := (F78_spec 5000) s.t0 _ r0_0 _ hz3
  cases hm
  refine ⟨⟨_, _⟩, by
      simp only [bodyOf, Tryz.f22, Cat, Bool.false_eq_true, e_seq, e_region, e_cond, e_block, ex_skip, ex_exit, ex_ret, o_cons, xops_nil, k_want_none, k_want_false, k_val, k_pan, k_call, k_ret, k_seq, k_seq_exit, k_seq_ret, k_true, k_false, k_block, k_block_exit, k_block_ret, k_loop, k_loop_exit, k_loop_ret, awanted, aoper, evalO, put, Option.getD_some, List.getElem?_set, acallOp, abuiltin, List.map_cons, List.map_nil, Nat.reduceEqDiff, Nat.reduceLT, List.length_set, Option.map_some, Option.bind_some, Option.bind_eq_bind, add_i, sub_i, mul_i, eql_i, neq_i, lss_i, leq_i, gtr_i, geq_i, ofV, ofCell, ↓reduceIte, List.cons_append, List.nil_append, List.append_nil, List.getElem?_toArray, List.getElem?_cons_succ, List.getElem?_cons_zero, e_draw, g_nil, g_cons, g_want, g_skip, g_val, g_call, g_ret, Option.map_none, hl, a0, CP, bq1, bq2, bq3, bq4, ex_tup, iu4]
      exact rfl, ?_⟩
  show P22_1 _ _
  exact ⟨by simp [hl], by simp [hl], by simp [hl]⟩
theorem R22_1 (pe : Nat → Fr22 → ASt → Prop) (pr : Fr22 → ASt → Prop) : Ref Cb P22_2 (Cat [true, false, true, false, false] (bodyOf Tryz.f22)) m22_1 (post P22_1 pe pr) := by
  rintro s ⟨t, h⟩ hp x s' hm
  have hp : P22_2' s t h := hp
  obtain ⟨hl, _⟩ := hp
  unfold m22_1 at hm
  cases hm
  refine ⟨⟨_, _⟩, by
      simp only [bodyOf, Tryz.f22, Cat, Bool.false_eq_true, e_seq, e_region, e_cond, e_block, ex_skip, ex_exit, ex_ret, o_cons, xops_nil, k_want_none, k_want_false, k_val, k_pan, k_call, k_ret, k_seq, k_seq_exit, k_seq_ret, k_true, k_false, k_block, k_block_exit, k_block_ret, k_loop, k_loop_exit, k_loop_ret, awanted, aoper, evalO, put, Option.getD_some, List.getElem?_set, acallOp, abuiltin, List.map_cons, List.map_nil, Nat.reduceEqDiff, Nat.reduceLT, List.length_set, Option.map_some, Option.bind_some, Option.bind_eq_bind, add_i, sub_i, mul_i, eql_i, neq_i, lss_i, leq_i, gtr_i, geq_i, ofV, ofCell, ↓reduceIte, List.cons_append, List.nil_append, List.append_nil, List.getElem?_toArray, List.getElem?_cons_succ, List.getElem?_cons_zero, e_draw, g_nil, g_cons, g_want, g_skip, g_val, g_call, g_ret, Option.map_none, hl, CP, bq1, bq2, bq3, bq4, ex_tup]
      exact rfl, ?_⟩
  show P22_1 _ _
  exact ⟨by simp [hl], by simp [hl], by simp [hl]⟩
theorem R22_2 (pe : Nat → Fr22 → ASt → Prop) (pr : Fr22 → ASt → Prop) : Ref Cb P22_0 (Cat [true, false, false] (bodyOf Tryz.f22)) m22_2 (post P22_3 pe pr) := by
  rintro s ⟨t, h⟩ hp x s' hm
  have hp : P22_0' s t h := hp
  obtain ⟨w0_0, hl, a0, r0_0⟩ := hp
  unfold m22_2 at hm
  obtain ⟨z7, hz7, hm⟩ := Option.bind_eq_some_iff.1 hm
  have iu8 := S66_spec s.t0 _ r0_0 _ hz7
  cases hm
  refine ⟨⟨_, _⟩, by
      simp only [bodyOf, Tryz.f22, Cat, Bool.false_eq_true, e_seq, e_region, e_cond, e_block, ex_skip, ex_exit, ex_ret, o_cons, xops_nil, k_want_none, k_want_false, k_val, k_pan, k_call, k_ret, k_seq, k_seq_exit, k_seq_ret, k_true, k_false, k_block, k_block_exit, k_block_ret, k_loop, k_loop_exit, k_loop_ret, awanted, aoper, evalO, put, Option.getD_some, List.getElem?_set, acallOp, abuiltin, List.map_cons, List.map_nil, Nat.reduceEqDiff, Nat.reduceLT, List.length_set, Option.map_some, Option.bind_some, Option.bind_eq_bind, add_i, sub_i, mul_i, eql_i, neq_i, lss_i, leq_i, gtr_i, geq_i, ofV, ofCell, ↓reduceIte, List.cons_append, List.nil_append, List.append_nil, List.getElem?_toArray, List.getElem?_cons_succ, List.getElem?_cons_zero, e_draw, g_nil, g_cons, g_want, g_skip, g_val, g_call, g_ret, Option.map_none, hl, a0, CP, bq1, bq2, bq3, bq4, ex_tup, iu8]
      exact rfl, ?_⟩
  show P22_3 _ _
  exact ⟨w0_0, by simp [hl], by simp [a0], r0_0, by simp [hl]⟩
theorem R22_3 (pe : Nat → Fr22 → ASt → Prop) (pr : Fr22 → ASt → Prop) : Ref Cb P22_0 (Cat [false] (bodyOf Tryz.f22)) m22_3 (post P22_0 pe pr) := by
  rintro s ⟨t, h⟩ hp x s' hm
  have hp : P22_0' s t h := hp
  obtain ⟨w0_0, hl, a0, r0_0⟩ := hp
  unfold m22_3 at hm
  cases hm
  refine ⟨⟨_, _⟩, by
      simp only [bodyOf, Tryz.f22, Cat, Bool.false_eq_true, e_seq, e_region, e_cond, e_block, ex_skip, ex_exit, ex_ret, o_cons, xops_nil, k_want_none, k_want_false, k_val, k_pan, k_call, k_ret, k_seq, k_seq_exit, k_seq_ret, k_true, k_false, k_block, k_block_exit, k_block_ret, k_loop, k_loop_exit, k_loop_ret, awanted, aoper, evalO, put, Option.getD_some, List.getElem?_set, acallOp, abuiltin, List.map_cons, List.map_nil, Nat.reduceEqDiff, Nat.reduceLT, List.length_set, Option.map_some, Option.bind_some, Option.bind_eq_bind, add_i, sub_i, mul_i, eql_i, neq_i, lss_i, leq_i, gtr_i, geq_i, ofV, ofCell, ↓reduceIte, List.cons_append, List.nil_append, List.append_nil, List.getElem?_toArray, List.getElem?_cons_succ, List.getElem?_cons_zero, e_draw, g_nil, g_cons, g_want, g_skip, g_val, g_call, g_ret, Option.map_none, hl, a0, CP, bq1, bq2, bq3, bq4, ex_tup]
      exact rfl, ?_⟩
  show P22_0 _ _
  exact ⟨w0_0, by simp [hl], by simp [a0], r0_0⟩
theorem B22 : Ref Cb P22_0 (bodyOf Tryz.f22) (M22) (post P22_1 (fun _ _ _ => False) P22_1) := by
  rw [show bodyOf Tryz.f22 = .seq (Cat [false] (bodyOf Tryz.f22)) (.seq (.seq (Cat [true, false, false] (bodyOf Tryz.f22)) (.cond (.tmp 6) (.seq (Cat [true, false, true, false, false] (bodyOf Tryz.f22)) (.ret)) (.skip))) (.seq (Cat [true, true, false] (bodyOf Tryz.f22)) (.ret))) from rfl]
  unfold M22
  exact ref_seq (M := P22_0) (R22_3 _ _) (ref_seq (M := P22_0) (ref_seq (M := P22_3) (R22_2 _ _) (ref_cond (P := P22_3) (c := fun s => s.t6) (fun s st hp => by obtain ⟨w0_0, hl, a0, r0_0, a6⟩ := (hp : P22_3' s st.tmps st.h); simp only [evalO, a6, Option.getD_some]) (ref_weak (P' := P22_2) (fun s st hp => by obtain ⟨w0_0, hl, a0, r0_0, a6⟩ := (hp : P22_3' s st.tmps st.h); exact (⟨hl, trivial⟩ : P22_2' s st.tmps st.h)) (ref_seq (M := P22_1) (R22_1 _ _) (ref_ret (fun s st hp => hp)))) (ref_weak (P' := P22_0) (fun s st hp => by obtain ⟨w0_0, hl, a0, r0_0, a6⟩ := (hp : P22_3' s st.tmps st.h); exact (⟨w0_0, hl, a0, r0_0⟩ : P22_0' s st.tmps st.h)) (ref_skip (fun s st hp => hp))))) (ref_seq (M := P22_1) (R22_0 _ _) (ref_ret (fun s st hp => hp))))
noncomputable def G22 (x0 : TestT) : Option (Int × Bool) := match M22 { (default : Fr22) with t0 := x0 } with
  | some (.nrm, s) => some (s.t2, s.t3)
  | some (.ret, s) => some (s.t2, s.t3)
  | _ => none
theorem G22_spec : Spec22 (G22) := by
  intro x0 vx0_0 hvx0_0 r hr
  unfold G22 at hr
  cases hm : M22 { (default : Fr22) with t0 := x0 } with
  | none => rw [hm] at hr; cases hr
  | some q =>
    obtain ⟨x, s⟩ := q
    rw [hm] at hr
    have hx : x = .nrm ∨ x = .ret := by cases x <;> first | exact .inl rfl | exact .inr rfl | cases hr
    have hr : (s.t2, s.t3) = r := by cases x <;> first | exact Option.some.inj hr | cases hr
    subst hr
    have hp0 : P22_0' ({ (default : Fr22) with t0 := x0 }) (slots Tryz.f22 (stripL [vx0_0])) bare := ⟨(strip vx0_0 : AVal), rfl, rfl, rTestT_p.str _ _ hvx0_0⟩
    obtain ⟨v, hR, hrun⟩ := run_of_ref (C := Cb) (f := 22) (fn := Tryz.f22) Tryz.func22 rfl rfl rfl rfl (args := [vx0_0]) (by simp only [refsL, refs, List.append_nil, refs_one (rTestT_p.ref _ _ hvx0_0)]) (B22) (s0 := { (default : Fr22) with t0 := x0 }) hp0 hm hx (R := fun v => v = .tup [.int .i64 s.t2, .bool s.t3]) (by
      have key : ∀ st : ASt, P22_1 s st → ∃ vs v, aresults Cb Tryz.f22.results.toList st = some vs ∧ Nrm [] st.h (packRes vs) v ∧ (fun v => v = .tup [.int .i64 s.t2, .bool s.t3]) v := by
        intro st hp
        obtain ⟨hl, a2, a3⟩ := (hp : P22_1' s st.tmps st.h)
        exact ⟨[.int .i64 s.t2, .bool s.t3], _, by simp only [show Tryz.f22.results.toList = [ResultVar.tmp 2, ResultVar.tmp 3] from rfl, aresults, ares1, CP, a2, a3, Option.getD_some], (Nrm.tup (NrmL.cons (Nrm.of (w := .int .i64 s.t2) (by simp only [refsL, refs, List.append_nil])) (NrmL.cons (Nrm.of (w := .bool s.t3) (by simp only [refsL, refs, List.append_nil])) NrmL.nil))), rfl⟩
      intro st hq
      rcases hx with rfl | rfl
      · exact key st hq
      · exact key st hq)
    subst hR
    exact hrun
/-! ### caisson/caissonlaw12.awake -/
def Spec9 (f : Option Bool) : Prop := ∀ (r : Bool), f  = some r → ∀ h, run Cb 9 [] h = some (.ret (.bool r), h)
def S9 : Option Bool := some true
theorem S9_spec : Spec9 S9 := fun r hr h => by cases hr; exact awake_run h
/-! ### caisson/caissonlaw12.BindLogic -/
structure Fr6 where
  t0 : Bound
  t1 : Bound
  t2 : Fact
  t3 : Bound
  t4 : Bound
  t5 : Fact
  t6 : Bool
  t7 : Bool
  t8 : TestT
  t9 : TestT
  t10 : Bool
  t11 : Bool
  t12 : TestT
  t13 : TestT
  t14 : TestT
  t15 : TestT
  t16 : Bool
  t17 : Bool
  t18 : Int
  t19 : Bool
  t20 : Int
  t21 : Bool
  t22 : Int
  t23 : Bool
  t44 : Bool
instance : Inhabited Fr6 := ⟨⟨default, default, default, default, default, default, false, false, default, default, false, false, default, default, default, default, false, false, 0, false, 0, false, 0, false, false⟩⟩
def P6_0' (s : Fr6) (t : List AVal) (h : AHeap) : Prop := t.length = 150 ∧ t[7]? = some (.bool s.t7) ∧ t[16]? = some (.bool s.t16) ∧ t[17]? = some (.bool s.t17) ∧ t[18]? = some (.int .i64 s.t18) ∧ t[19]? = some (.bool s.t19) ∧ t[20]? = some (.int .i64 s.t20) ∧ t[21]? = some (.bool s.t21) ∧ t[22]? = some (.int .i64 s.t22) ∧ t[23]? = some (.bool s.t23)
def P6_0 (s : Fr6) (st : ASt) : Prop := P6_0' s st.tmps st.h
def P6_1' (s : Fr6) (t : List AVal) (h : AHeap) : Prop := t.length = 150 ∧ t[6]? = some (.bool s.t6)
def P6_1 (s : Fr6) (st : ASt) : Prop := P6_1' s st.tmps st.h
def P6_2' (s : Fr6) (t : List AVal) (h : AHeap) : Prop := ∃ w9_0, t.length = 150 ∧ t[7]? = some (.bool s.t7) ∧ t[9]? = some w9_0 ∧ rTestT s.t9 [w9_0] ∧ t[16]? = some (.bool s.t16) ∧ t[17]? = some (.bool s.t17) ∧ t[18]? = some (.int .i64 s.t18) ∧ t[19]? = some (.bool s.t19) ∧ t[20]? = some (.int .i64 s.t20) ∧ t[21]? = some (.bool s.t21)
def P6_2 (s : Fr6) (st : ASt) : Prop := P6_2' s st.tmps st.h
def P6_3' (s : Fr6) (t : List AVal) (h : AHeap) : Prop := ∃ w8_0 w9_0, t.length = 150 ∧ t[7]? = some (.bool s.t7) ∧ t[8]? = some w8_0 ∧ rTestT s.t8 [w8_0] ∧ t[9]? = some w9_0 ∧ rTestT s.t9 [w9_0] ∧ t[16]? = some (.bool s.t16) ∧ t[17]? = some (.bool s.t17) ∧ t[18]? = some (.int .i64 s.t18) ∧ t[19]? = some (.bool s.t19)
def P6_3 (s : Fr6) (st : ASt) : Prop := P6_3' s st.tmps st.h
def P6_4' (s : Fr6) (t : List AVal) (h : AHeap) : Prop := ∃ w8_0 w9_0 w14_0, t.length = 150 ∧ t[7]? = some (.bool s.t7) ∧ t[8]? = some w8_0 ∧ rTestT s.t8 [w8_0] ∧ t[9]? = some w9_0 ∧ rTestT s.t9 [w9_0] ∧ t[14]? = some w14_0 ∧ rTestT s.t14 [w14_0] ∧ t[16]? = some (.bool s.t16) ∧ t[17]? = some (.bool s.t17)
def P6_4 (s : Fr6) (st : ASt) : Prop := P6_4' s st.tmps st.h
def P6_5' (s : Fr6) (t : List AVal) (h : AHeap) : Prop := ∃ i5 w5_0 w5_1 w8_0 w9_0 w12_0 w13_0 w14_0, t.length = 150 ∧ t[5]? = some (.ptr i5 0) ∧ h.get i5 = some (.arr [w5_0, w5_1]) ∧ i5 < h.next ∧ Sl rS s.t5.Dims w5_0 ∧ Sl (rI .i64) s.t5.Meas w5_1 ∧ t[7]? = some (.bool s.t7) ∧ t[8]? = some w8_0 ∧ rTestT s.t8 [w8_0] ∧ t[9]? = some w9_0 ∧ rTestT s.t9 [w9_0] ∧ t[12]? = some w12_0 ∧ rTestT s.t12 [w12_0] ∧ t[13]? = some w13_0 ∧ rTestT s.t13 [w13_0] ∧ t[14]? = some w14_0 ∧ rTestT s.t14 [w14_0] ∧ t[16]? = some (.bool s.t16)
def P6_5 (s : Fr6) (st : ASt) : Prop := P6_5' s st.tmps st.h
def P6_6' (s : Fr6) (t : List AVal) (h : AHeap) : Prop := ∃ i5 w5_0 w5_1 w8_0 w9_0 w12_0 w13_0 w14_0 w15_0, t.length = 150 ∧ t[5]? = some (.ptr i5 0) ∧ h.get i5 = some (.arr [w5_0, w5_1]) ∧ i5 < h.next ∧ Sl rS s.t5.Dims w5_0 ∧ Sl (rI .i64) s.t5.Meas w5_1 ∧ t[7]? = some (.bool s.t7) ∧ t[8]? = some w8_0 ∧ rTestT s.t8 [w8_0] ∧ t[9]? = some w9_0 ∧ rTestT s.t9 [w9_0] ∧ t[10]? = some (.bool s.t10) ∧ t[11]? = some (.bool s.t11) ∧ t[12]? = some w12_0 ∧ rTestT s.t12 [w12_0] ∧ t[13]? = some w13_0 ∧ rTestT s.t13 [w13_0] ∧ t[14]? = some w14_0 ∧ rTestT s.t14 [w14_0] ∧ t[15]? = some w15_0 ∧ rTestT s.t15 [w15_0]
def P6_6 (s : Fr6) (st : ASt) : Prop := P6_6' s st.tmps st.h
def P6_7' (s : Fr6) (t : List AVal) (h : AHeap) : Prop := ∃ i5 w5_0 w5_1 w8_0 w9_0 w12_0 w13_0 w14_0, t.length = 150 ∧ t[5]? = some (.ptr i5 0) ∧ h.get i5 = some (.arr [w5_0, w5_1]) ∧ i5 < h.next ∧ Sl rS s.t5.Dims w5_0 ∧ Sl (rI .i64) s.t5.Meas w5_1 ∧ t[7]? = some (.bool s.t7) ∧ t[8]? = some w8_0 ∧ rTestT s.t8 [w8_0] ∧ t[9]? = some w9_0 ∧ rTestT s.t9 [w9_0] ∧ t[10]? = some (.bool s.t10) ∧ t[11]? = some (.bool s.t11) ∧ t[12]? = some w12_0 ∧ rTestT s.t12 [w12_0] ∧ t[13]? = some w13_0 ∧ rTestT s.t13 [w13_0] ∧ t[14]? = some w14_0 ∧ rTestT s.t14 [w14_0]
def P6_7 (s : Fr6) (st : ASt) : Prop := P6_7' s st.tmps st.h
def P6_8' (s : Fr6) (t : List AVal) (h : AHeap) : Prop := ∃ i5 w5_0 w5_1 w8_0 w9_0 w12_0 w13_0, t.length = 150 ∧ t[5]? = some (.ptr i5 0) ∧ h.get i5 = some (.arr [w5_0, w5_1]) ∧ i5 < h.next ∧ Sl rS s.t5.Dims w5_0 ∧ Sl (rI .i64) s.t5.Meas w5_1 ∧ t[7]? = some (.bool s.t7) ∧ t[8]? = some w8_0 ∧ rTestT s.t8 [w8_0] ∧ t[9]? = some w9_0 ∧ rTestT s.t9 [w9_0] ∧ t[10]? = some (.bool s.t10) ∧ t[11]? = some (.bool s.t11) ∧ t[12]? = some w12_0 ∧ rTestT s.t12 [w12_0] ∧ t[13]? = some w13_0 ∧ rTestT s.t13 [w13_0]
def P6_8 (s : Fr6) (st : ASt) : Prop := P6_8' s st.tmps st.h
def P6_9' (s : Fr6) (t : List AVal) (h : AHeap) : Prop := ∃ i5 w5_0 w5_1 w8_0 w9_0 w12_0, t.length = 150 ∧ t[5]? = some (.ptr i5 0) ∧ h.get i5 = some (.arr [w5_0, w5_1]) ∧ i5 < h.next ∧ Sl rS s.t5.Dims w5_0 ∧ Sl (rI .i64) s.t5.Meas w5_1 ∧ t[7]? = some (.bool s.t7) ∧ t[8]? = some w8_0 ∧ rTestT s.t8 [w8_0] ∧ t[9]? = some w9_0 ∧ rTestT s.t9 [w9_0] ∧ t[10]? = some (.bool s.t10) ∧ t[11]? = some (.bool s.t11) ∧ t[12]? = some w12_0 ∧ rTestT s.t12 [w12_0]
def P6_9 (s : Fr6) (st : ASt) : Prop := P6_9' s st.tmps st.h
def P6_10' (s : Fr6) (t : List AVal) (h : AHeap) : Prop := ∃ i5 w5_0 w5_1 w8_0 w9_0, t.length = 150 ∧ t[5]? = some (.ptr i5 0) ∧ h.get i5 = some (.arr [w5_0, w5_1]) ∧ i5 < h.next ∧ Sl rS s.t5.Dims w5_0 ∧ Sl (rI .i64) s.t5.Meas w5_1 ∧ t[7]? = some (.bool s.t7) ∧ t[8]? = some w8_0 ∧ rTestT s.t8 [w8_0] ∧ t[9]? = some w9_0 ∧ rTestT s.t9 [w9_0] ∧ t[10]? = some (.bool s.t10) ∧ t[11]? = some (.bool s.t11)
def P6_10 (s : Fr6) (st : ASt) : Prop := P6_10' s st.tmps st.h
def P6_11' (s : Fr6) (t : List AVal) (h : AHeap) : Prop := ∃ i5 w5_0 w5_1 w8_0 w9_0, t.length = 150 ∧ t[5]? = some (.ptr i5 0) ∧ h.get i5 = some (.arr [w5_0, w5_1]) ∧ i5 < h.next ∧ Sl rS s.t5.Dims w5_0 ∧ Sl (rI .i64) s.t5.Meas w5_1 ∧ t[7]? = some (.bool s.t7) ∧ t[8]? = some w8_0 ∧ rTestT s.t8 [w8_0] ∧ t[9]? = some w9_0 ∧ rTestT s.t9 [w9_0] ∧ t[10]? = some (.bool s.t10)
def P6_11 (s : Fr6) (st : ASt) : Prop := P6_11' s st.tmps st.h
def P6_12' (s : Fr6) (t : List AVal) (h : AHeap) : Prop := ∃ i5 w5_0 w5_1 w8_0 w9_0, t.length = 150 ∧ t[5]? = some (.ptr i5 0) ∧ h.get i5 = some (.arr [w5_0, w5_1]) ∧ i5 < h.next ∧ Sl rS s.t5.Dims w5_0 ∧ Sl (rI .i64) s.t5.Meas w5_1 ∧ t[7]? = some (.bool s.t7) ∧ t[8]? = some w8_0 ∧ rTestT s.t8 [w8_0] ∧ t[9]? = some w9_0 ∧ rTestT s.t9 [w9_0]
def P6_12 (s : Fr6) (st : ASt) : Prop := P6_12' s st.tmps st.h
def P6_13' (s : Fr6) (t : List AVal) (h : AHeap) : Prop := t.length = 150 ∧ t[7]? = some (.bool s.t7)
def P6_13 (s : Fr6) (st : ASt) : Prop := P6_13' s st.tmps st.h
def P6_14' (s : Fr6) (t : List AVal) (h : AHeap) : Prop := ∃ i5 w5_0 w5_1 w8_0 w9_0, t.length = 150 ∧ t[5]? = some (.ptr i5 0) ∧ h.get i5 = some (.arr [w5_0, w5_1]) ∧ i5 < h.next ∧ Sl rS s.t5.Dims w5_0 ∧ Sl (rI .i64) s.t5.Meas w5_1 ∧ t[7]? = some (.bool s.t7) ∧ t[8]? = some w8_0 ∧ rTestT s.t8 [w8_0] ∧ t[9]? = some w9_0 ∧ rTestT s.t9 [w9_0] ∧ t[44]? = some (.bool s.t44)
def P6_14 (s : Fr6) (st : ASt) : Prop := P6_14' s st.tmps st.h
def P6_15' (s : Fr6) (t : List AVal) (h : AHeap) : Prop := ∃ i4 w4_0 w4_1 w4_2 w4_3 i5 w5_0 w5_1 w8_0, t.length = 150 ∧ t[4]? = some (.ptr i4 0) ∧ h.get i4 = some (.arr [w4_0, w4_1, w4_2, w4_3]) ∧ i4 < h.next ∧ Sl rPick s.t4.Picks w4_0 ∧ Sl rS s.t4.Names w4_1 ∧ rTestT s.t4.Where [w4_2] ∧ Sl (rI .i64) s.t4.Sets w4_3 ∧ t[5]? = some (.ptr i5 0) ∧ h.get i5 = some (.arr [w5_0, w5_1]) ∧ i5 < h.next ∧ Sl rS s.t5.Dims w5_0 ∧ Sl (rI .i64) s.t5.Meas w5_1 ∧ t[7]? = some (.bool s.t7) ∧ t[8]? = some w8_0 ∧ rTestT s.t8 [w8_0] ∧ i4 ≠ i5
def P6_15 (s : Fr6) (st : ASt) : Prop := P6_15' s st.tmps st.h
def P6_16' (s : Fr6) (t : List AVal) (h : AHeap) : Prop := ∃ i3 w3_0 w3_1 w3_2 w3_3 i4 w4_0 w4_1 w4_2 w4_3 i5 w5_0 w5_1, t.length = 150 ∧ t[3]? = some (.ptr i3 0) ∧ h.get i3 = some (.arr [w3_0, w3_1, w3_2, w3_3]) ∧ i3 < h.next ∧ Sl rPick s.t3.Picks w3_0 ∧ Sl rS s.t3.Names w3_1 ∧ rTestT s.t3.Where [w3_2] ∧ Sl (rI .i64) s.t3.Sets w3_3 ∧ t[4]? = some (.ptr i4 0) ∧ h.get i4 = some (.arr [w4_0, w4_1, w4_2, w4_3]) ∧ i4 < h.next ∧ Sl rPick s.t4.Picks w4_0 ∧ Sl rS s.t4.Names w4_1 ∧ rTestT s.t4.Where [w4_2] ∧ Sl (rI .i64) s.t4.Sets w4_3 ∧ t[5]? = some (.ptr i5 0) ∧ h.get i5 = some (.arr [w5_0, w5_1]) ∧ i5 < h.next ∧ Sl rS s.t5.Dims w5_0 ∧ Sl (rI .i64) s.t5.Meas w5_1 ∧ t[7]? = some (.bool s.t7) ∧ i3 ≠ i4 ∧ i3 ≠ i5 ∧ i4 ≠ i5
def P6_16 (s : Fr6) (st : ASt) : Prop := P6_16' s st.tmps st.h
def P6_17' (s : Fr6) (t : List AVal) (h : AHeap) : Prop := ∃ i3 w3_0 w3_1 w3_2 w3_3 i4 w4_0 w4_1 w4_2 w4_3 i5 w5_0 w5_1, t.length = 150 ∧ t[3]? = some (.ptr i3 0) ∧ h.get i3 = some (.arr [w3_0, w3_1, w3_2, w3_3]) ∧ i3 < h.next ∧ Sl rPick s.t3.Picks w3_0 ∧ Sl rS s.t3.Names w3_1 ∧ rTestT s.t3.Where [w3_2] ∧ Sl (rI .i64) s.t3.Sets w3_3 ∧ t[4]? = some (.ptr i4 0) ∧ h.get i4 = some (.arr [w4_0, w4_1, w4_2, w4_3]) ∧ i4 < h.next ∧ Sl rPick s.t4.Picks w4_0 ∧ Sl rS s.t4.Names w4_1 ∧ rTestT s.t4.Where [w4_2] ∧ Sl (rI .i64) s.t4.Sets w4_3 ∧ t[5]? = some (.ptr i5 0) ∧ h.get i5 = some (.arr [w5_0, w5_1]) ∧ i5 < h.next ∧ Sl rS s.t5.Dims w5_0 ∧ Sl (rI .i64) s.t5.Meas w5_1 ∧ i3 ≠ i4 ∧ i3 ≠ i5 ∧ i4 ≠ i5
def P6_17 (s : Fr6) (st : ASt) : Prop := P6_17' s st.tmps st.h
def P6_18' (s : Fr6) (t : List AVal) (h : AHeap) : Prop := ∃ w0_0 w0_1 w0_2 w0_3 w1_0 w1_1 w1_2 w1_3 w2_0 w2_1, t.length = 150 ∧ t[0]? = some (.agg [w0_0, w0_1, w0_2, w0_3]) ∧ Sl rPick s.t0.Picks w0_0 ∧ Sl rS s.t0.Names w0_1 ∧ rTestT s.t0.Where [w0_2] ∧ Sl (rI .i64) s.t0.Sets w0_3 ∧ t[1]? = some (.agg [w1_0, w1_1, w1_2, w1_3]) ∧ Sl rPick s.t1.Picks w1_0 ∧ Sl rS s.t1.Names w1_1 ∧ rTestT s.t1.Where [w1_2] ∧ Sl (rI .i64) s.t1.Sets w1_3 ∧ t[2]? = some (.agg [w2_0, w2_1]) ∧ Sl rS s.t2.Dims w2_0 ∧ Sl (rI .i64) s.t2.Meas w2_1
def P6_18 (s : Fr6) (st : ASt) : Prop := P6_18' s st.tmps st.h
noncomputable def m6_0 : Mo Fr6 := fun s => some (.nrm, { s with t6 := ((((s.t7 && s.t16) && s.t17) && (s.t18 == (bits .or .i64 s.t20 s.t22))) && (s.t19 == (s.t21 || s.t23))) })
noncomputable def m6_1 : Mo Fr6 := fun s => (G22 s.t9).bind fun z6 => some (.nrm, { s with t22 := z6.1, t23 := z6.2 })
noncomputable def m6_2 : Mo Fr6 := fun s => (G22 s.t8).bind fun z10 => some (.nrm, { s with t20 := z10.1, t21 := z10.2 })
noncomputable def m6_3 : Mo Fr6 := fun s => (G22 s.t14).bind fun z14 => some (.nrm, { s with t18 := z14.1, t19 := z14.2 })
noncomputable def m6_4 : Mo Fr6 := fun s => (G21 (TestT.mk 3 s.t14 TestT.nil false 0 0 [] []) s.t5).bind fun z23 => (G21 (TestT.mk 2 s.t12 s.t13 false 0 0 [] []) s.t5).bind fun z32 => some (.nrm, { s with t17 := (z23 == z32) })
noncomputable def m6_5 : Mo Fr6 := fun s => (G21 s.t12 s.t5).bind fun z51 => (cond (z51 == (!s.t10)) ((G21 s.t14 s.t5).bind fun z54 => some (z54 == (s.t10 && s.t11))) (some false)).bind fun x56 => (cond ((z51 == (!s.t10)) && x56) ((G21 s.t15 s.t5).bind fun z58 => some (z58 == (s.t10 || s.t11))) (some false)).bind fun x60 => (cond (((z51 == (!s.t10)) && x56) && x60) ((G21 (TestT.mk 3 s.t12 TestT.nil false 0 0 [] []) s.t5).bind fun z66 => some (z66 == s.t10)) (some false)).bind fun x68 => some (.nrm, { s with t16 := ((((z51 == (!s.t10)) && x56) && x60) && x68) })
noncomputable def m6_6 : Mo Fr6 := fun s => some (.nrm, { s with t15 := (TestT.mk 2 s.t8 s.t9 false 0 0 [] []) })
noncomputable def m6_7 : Mo Fr6 := fun s => some (.nrm, { s with t14 := (TestT.mk 1 s.t8 s.t9 false 0 0 [] []) })
noncomputable def m6_8 : Mo Fr6 := fun s => some (.nrm, { s with t13 := (TestT.mk 3 s.t9 TestT.nil false 0 0 [] []) })
noncomputable def m6_9 : Mo Fr6 := fun s => some (.nrm, { s with t12 := (TestT.mk 3 s.t8 TestT.nil false 0 0 [] []) })
noncomputable def m6_10 : Mo Fr6 := fun s => (G21 s.t9 s.t5).bind fun z144 => some (.nrm, { s with t11 := z144 })
noncomputable def m6_11 : Mo Fr6 := fun s => (G21 s.t8 s.t5).bind fun z150 => some (.nrm, { s with t10 := z150 })
noncomputable def m6_12 : Mo Fr6 := fun s => some (.nrm, { s with t6 := s.t7 })
noncomputable def m6_13 : Mo Fr6 := fun s => (cond (!(s.t8.isNil || s.t9.isNil)) ((F20 5000 s.t8 900).bind fun z155 => some (decide (z155 ≥ 900))) (some false)).bind fun x157 => (cond (!((s.t8.isNil || s.t9.isNil) || x157)) ((F20 5000 s.t9 900).bind fun z158 => some (decide (z158 ≥ 900))) (some false)).bind fun x160 => some (.nrm, { s with t44 := (((s.t8.isNil || s.t9.isNil) || x157) || x160) })
noncomputable def m6_14 : Mo Fr6 := fun s => some (.nrm, { s with t9 := s.t4.Where })
noncomputable def m6_15 : Mo Fr6 := fun s => some (.nrm, { s with t8 := s.t3.Where })
noncomputable def m6_16 : Mo Fr6 := fun s => (S9 ).bind fun z176 => some (.nrm, { s with t7 := z176 })
noncomputable def m6_17 : Mo Fr6 := fun s => some (.nrm, { s with t3 := s.t0, t4 := s.t1, t5 := s.t2 })
noncomputable def M6 : Mo Fr6 := seqM (m6_17) (seqM (m6_16) (seqM (m6_15) (seqM (m6_14) (seqM (seqM (m6_13) (condM (fun s => s.t44) (seqM (m6_12) (retM)) (skipM))) (seqM (m6_11) (seqM (m6_10) (seqM (m6_9) (seqM (m6_8) (seqM (m6_7) (seqM (m6_6) (seqM (m6_5) (seqM (m6_4) (seqM (m6_3) (seqM (m6_2) (seqM (m6_1) (seqM (m6_0) (retM)))))))))))))))))
def Spec6 (f : Bound → Bound → Fact → Option Bool) : Prop := ∀ (x0 : Bound) (x1 : Bound) (x2 : Fact) (vx0_0 : AVal) (_ : Sl rPick x0.Picks vx0_0) (vx0_1 : AVal) (_ : Sl rS x0.Names vx0_1) (vx0_2 : AVal) (_ : rTestT x0.Where [vx0_2]) (vx0_3 : AVal) (_ : Sl (rI .i64) x0.Sets vx0_3) (vx1_0 : AVal) (_ : Sl rPick x1.Picks vx1_0) (vx1_1 : AVal) (_ : Sl rS x1.Names vx1_1) (vx1_2 : AVal) (_ : rTestT x1.Where [vx1_2]) (vx1_3 : AVal) (_ : Sl (rI .i64) x1.Sets vx1_3) (vx2_0 : AVal) (_ : Sl rS x2.Dims vx2_0) (vx2_1 : AVal) (_ : Sl (rI .i64) x2.Meas vx2_1) (r : Bool), f x0 x1 x2 = some r → ∀ h, run Cb 6 [.agg [vx0_0, vx0_1, vx0_2, vx0_3], .agg [vx1_0, vx1_1, vx1_2, vx1_3], .agg [vx2_0, vx2_1]] h = some (.ret (.bool r), h)
theorem Spec6_of {f g : Bound → Bound → Fact → Option Bool} (hg : Spec6 g) (h : ∀ x0 x1 x2 r, f x0 x1 x2 = some r → g x0 x1 x2 = some r) : Spec6 f := fun x0 x1 x2 v0_ w0_ v1_ w1_ v2_ w2_ v3_ w3_ v4_ w4_ v5_ w5_ v6_ w6_ v7_ w7_ v8_ w8_ v9_ w9_ r hr => hg x0 x1 x2 v0_ w0_ v1_ w1_ v2_ w2_ v3_ w3_ v4_ w4_ v5_ w5_ v6_ w6_ v7_ w7_ v8_ w8_ v9_ w9_ r (h x0 x1 x2 r hr)
theorem R6_0 (pe : Nat → Fr6 → ASt → Prop) (pr : Fr6 → ASt → Prop) : Ref Cb P6_0 (Cat [true, true, true, true, true, true, true, true, true, true, true, true, true, true, true, true, false] (bodyOf Tryz.f6)) m6_0 (post P6_1 pe pr) := by
  rintro s ⟨t, h⟩ hp x s' hm
  have hp : P6_0' s t h := hp
  obtain ⟨hl, a7, a16, a17, a18, a19, a20, a21, a22, a23⟩ := hp
  unfold m6_0 at hm
  cases hb1 : s.t7 with
  | true =>
    all_goals (
      try simp only [hb1, cond_true, cond_false, Option.bind_some, Option.bind_assoc, Bool.not_true, Bool.not_false, Bool.true_and, Bool.false_and, Bool.and_true, Bool.and_false, Bool.true_or, Bool.false_or] at hm
      cases hb2 : s.t16 with
      | true =>
        all_goals (
          try simp only [hb2, cond_true, cond_false, Option.bind_some, Option.bind_assoc, Bool.not_true, Bool.not_false, Bool.true_and, Bool.false_and, Bool.and_true, Bool.and_false, Bool.true_or, Bool.false_or] at hm
          cases hb3 : s.t17 with
          | true =>
            all_goals (
              try simp only [hb3, cond_true, cond_false, Option.bind_some, Option.bind_assoc, Bool.not_true, Bool.not_false, Bool.true_and, Bool.false_and, Bool.and_true, Bool.and_false, Bool.true_or, Bool.false_or] at hm
              cases hb4 : (s.t18 == (bits .or .i64 s.t20 s.t22)) with
              | true =>
                all_goals (
                  try simp only [hb4, cond_true, cond_false, Option.bind_some, Option.bind_assoc, Bool.not_true, Bool.not_false, Bool.true_and, Bool.false_and, Bool.and_true, Bool.and_false, Bool.true_or, Bool.false_or] at hm
                  cases hb5 : s.t21 with
                  | true =>
                    all_goals (
                      try simp only [hb5, cond_true, cond_false, Option.bind_some, Option.bind_assoc, Bool.not_true, Bool.not_false, Bool.true_and, Bool.false_and, Bool.and_true, Bool.and_false, Bool.true_or, Bool.false_or] at hm
                      cases hm
                      refine ⟨⟨_, _⟩, by
                          simp only [bodyOf, Tryz.f6, Cat, Bool.false_eq_true, e_seq, e_region, e_cond, e_block, ex_skip, ex_exit, ex_ret, o_cons, xops_nil, k_want_none, k_want_false, k_val, k_pan, k_call, k_ret, k_seq, k_seq_exit, k_seq_ret, k_true, k_false, k_block, k_block_exit, k_block_ret, k_loop, k_loop_exit, k_loop_ret, awanted, aoper, evalO, put, Option.getD_some, List.getElem?_set, acallOp, abuiltin, List.map_cons, List.map_nil, Nat.reduceEqDiff, Nat.reduceLT, List.length_set, Option.map_some, Option.bind_some, Option.bind_eq_bind, add_i, sub_i, mul_i, eql_i, neq_i, lss_i, leq_i, gtr_i, geq_i, ofV, ofCell, ↓reduceIte, List.cons_append, List.nil_append, List.append_nil, List.getElem?_toArray, List.getElem?_cons_succ, List.getElem?_cons_zero, e_draw, g_nil, g_cons, g_want, g_skip, g_val, g_call, g_ret, Option.map_none, hl, a7, a16, a17, a18, a19, a20, a21, a22, a23, CP, bq1, bq2, bq3, bq4, ex_tup, TyB.or3, TyB.eqlb4, hb1, hb2, hb3, hb4, hb5]
                          exact rfl, ?_⟩
                      show P6_1 _ _
                      exact ⟨by simp [hl], by simp [hl, hb1, hb2, hb3, hb4, hb5]⟩)
                  | false =>
                    all_goals (
                      try simp only [hb5, cond_true, cond_false, Option.bind_some, Option.bind_assoc, Bool.not_true, Bool.not_false, Bool.true_and, Bool.false_and, Bool.and_true, Bool.and_false, Bool.true_or, Bool.false_or] at hm
                      cases hm
                      refine ⟨⟨_, _⟩, by
                          simp only [bodyOf, Tryz.f6, Cat, Bool.false_eq_true, e_seq, e_region, e_cond, e_block, ex_skip, ex_exit, ex_ret, o_cons, xops_nil, k_want_none, k_want_false, k_val, k_pan, k_call, k_ret, k_seq, k_seq_exit, k_seq_ret, k_true, k_false, k_block, k_block_exit, k_block_ret, k_loop, k_loop_exit, k_loop_ret, awanted, aoper, evalO, put, Option.getD_some, List.getElem?_set, acallOp, abuiltin, List.map_cons, List.map_nil, Nat.reduceEqDiff, Nat.reduceLT, List.length_set, Option.map_some, Option.bind_some, Option.bind_eq_bind, add_i, sub_i, mul_i, eql_i, neq_i, lss_i, leq_i, gtr_i, geq_i, ofV, ofCell, ↓reduceIte, List.cons_append, List.nil_append, List.append_nil, List.getElem?_toArray, List.getElem?_cons_succ, List.getElem?_cons_zero, e_draw, g_nil, g_cons, g_want, g_skip, g_val, g_call, g_ret, Option.map_none, hl, a7, a16, a17, a18, a19, a20, a21, a22, a23, CP, bq1, bq2, bq3, bq4, ex_tup, TyB.or3, TyB.eqlb4, hb1, hb2, hb3, hb4, hb5]
                          exact rfl, ?_⟩
                      show P6_1 _ _
                      exact ⟨by simp [hl], by simp [hl, hb1, hb2, hb3, hb4, hb5]⟩))
              | false =>
                all_goals (
                  try simp only [hb4, cond_true, cond_false, Option.bind_some, Option.bind_assoc, Bool.not_true, Bool.not_false, Bool.true_and, Bool.false_and, Bool.and_true, Bool.and_false, Bool.true_or, Bool.false_or] at hm
                  cases hm
                  refine ⟨⟨_, _⟩, by
                      simp only [bodyOf, Tryz.f6, Cat, Bool.false_eq_true, e_seq, e_region, e_cond, e_block, ex_skip, ex_exit, ex_ret, o_cons, xops_nil, k_want_none, k_want_false, k_val, k_pan, k_call, k_ret, k_seq, k_seq_exit, k_seq_ret, k_true, k_false, k_block, k_block_exit, k_block_ret, k_loop, k_loop_exit, k_loop_ret, awanted, aoper, evalO, put, Option.getD_some, List.getElem?_set, acallOp, abuiltin, List.map_cons, List.map_nil, Nat.reduceEqDiff, Nat.reduceLT, List.length_set, Option.map_some, Option.bind_some, Option.bind_eq_bind, add_i, sub_i, mul_i, eql_i, neq_i, lss_i, leq_i, gtr_i, geq_i, ofV, ofCell, ↓reduceIte, List.cons_append, List.nil_append, List.append_nil, List.getElem?_toArray, List.getElem?_cons_succ, List.getElem?_cons_zero, e_draw, g_nil, g_cons, g_want, g_skip, g_val, g_call, g_ret, Option.map_none, hl, a7, a16, a17, a18, a19, a20, a21, a22, a23, CP, bq1, bq2, bq3, bq4, ex_tup, TyB.or3, hb1, hb2, hb3, hb4]
                      exact rfl, ?_⟩
                  show P6_1 _ _
                  exact ⟨by simp [hl], by simp [hl, hb1, hb2, hb3, hb4]⟩))
          | false =>
            all_goals (
              try simp only [hb3, cond_true, cond_false, Option.bind_some, Option.bind_assoc, Bool.not_true, Bool.not_false, Bool.true_and, Bool.false_and, Bool.and_true, Bool.and_false, Bool.true_or, Bool.false_or] at hm
              cases hm
              refine ⟨⟨_, _⟩, by
                  simp only [bodyOf, Tryz.f6, Cat, Bool.false_eq_true, e_seq, e_region, e_cond, e_block, ex_skip, ex_exit, ex_ret, o_cons, xops_nil, k_want_none, k_want_false, k_val, k_pan, k_call, k_ret, k_seq, k_seq_exit, k_seq_ret, k_true, k_false, k_block, k_block_exit, k_block_ret, k_loop, k_loop_exit, k_loop_ret, awanted, aoper, evalO, put, Option.getD_some, List.getElem?_set, acallOp, abuiltin, List.map_cons, List.map_nil, Nat.reduceEqDiff, Nat.reduceLT, List.length_set, Option.map_some, Option.bind_some, Option.bind_eq_bind, add_i, sub_i, mul_i, eql_i, neq_i, lss_i, leq_i, gtr_i, geq_i, ofV, ofCell, ↓reduceIte, List.cons_append, List.nil_append, List.append_nil, List.getElem?_toArray, List.getElem?_cons_succ, List.getElem?_cons_zero, e_draw, g_nil, g_cons, g_want, g_skip, g_val, g_call, g_ret, Option.map_none, hl, a7, a16, a17, a18, a19, a20, a21, a22, a23, CP, bq1, bq2, bq3, bq4, ex_tup, hb1, hb2, hb3]
                  exact rfl, ?_⟩
              show P6_1 _ _
              exact ⟨by simp [hl], by simp [hl, hb1, hb2, hb3]⟩))
      | false =>
        all_goals (
          try simp only [hb2, cond_true, cond_false, Option.bind_some, Option.bind_assoc, Bool.not_true, Bool.not_false, Bool.true_and, Bool.false_and, Bool.and_true, Bool.and_false, Bool.true_or, Bool.false_or] at hm
          cases hm
          refine ⟨⟨_, _⟩, by
              simp only [bodyOf, Tryz.f6, Cat, Bool.false_eq_true, e_seq, e_region, e_cond, e_block, ex_skip, ex_exit, ex_ret, o_cons, xops_nil, k_want_none, k_want_false, k_val, k_pan, k_call, k_ret, k_seq, k_seq_exit, k_seq_ret, k_true, k_false, k_block, k_block_exit, k_block_ret, k_loop, k_loop_exit, k_loop_ret, awanted, aoper, evalO, put, Option.getD_some, List.getElem?_set, acallOp, abuiltin, List.map_cons, List.map_nil, Nat.reduceEqDiff, Nat.reduceLT, List.length_set, Option.map_some, Option.bind_some, Option.bind_eq_bind, add_i, sub_i, mul_i, eql_i, neq_i, lss_i, leq_i, gtr_i, geq_i, ofV, ofCell, ↓reduceIte, List.cons_append, List.nil_append, List.append_nil, List.getElem?_toArray, List.getElem?_cons_succ, List.getElem?_cons_zero, e_draw, g_nil, g_cons, g_want, g_skip, g_val, g_call, g_ret, Option.map_none, hl, a7, a16, a17, a18, a19, a20, a21, a22, a23, CP, bq1, bq2, bq3, bq4, ex_tup, hb1, hb2]
              exact rfl, ?_⟩
          show P6_1 _ _
          exact ⟨by simp [hl], by simp [hl, hb1, hb2]⟩))
  | false =>
    all_goals (
      try simp only [hb1, cond_true, cond_false, Option.bind_some, Option.bind_assoc, Bool.not_true, Bool.not_false, Bool.true_and, Bool.false_and, Bool.and_true, Bool.and_false, Bool.true_or, Bool.false_or] at hm
      cases hm
      refine ⟨⟨_, _⟩, by
          simp only [bodyOf, Tryz.f6, Cat, Bool.false_eq_true, e_seq, e_region, e_cond, e_block, ex_skip, ex_exit, ex_ret, o_cons, xops_nil, k_want_none, k_want_false, k_val, k_pan, k_call, k_ret, k_seq, k_seq_exit, k_seq_ret, k_true, k_false, k_block, k_block_exit, k_block_ret, k_loop, k_loop_exit, k_loop_ret, awanted, aoper, evalO, put, Option.getD_some, List.getElem?_set, acallOp, abuiltin, List.map_cons, List.map_nil, Nat.reduceEqDiff, Nat.reduceLT, List.length_set, Option.map_some, Option.bind_some, Option.bind_eq_bind, add_i, sub_i, mul_i, eql_i, neq_i, lss_i, leq_i, gtr_i, geq_i, ofV, ofCell, ↓reduceIte, List.cons_append, List.nil_append, List.append_nil, List.getElem?_toArray, List.getElem?_cons_succ, List.getElem?_cons_zero, e_draw, g_nil, g_cons, g_want, g_skip, g_val, g_call, g_ret, Option.map_none, hl, a7, a16, a17, a18, a19, a20, a21, a22, a23, CP, bq1, bq2, bq3, bq4, ex_tup, hb1]
          exact rfl, ?_⟩
      show P6_1 _ _
      exact ⟨by simp [hl], by simp [hl, hb1]⟩)
theorem R6_1 (pe : Nat → Fr6 → ASt → Prop) (pr : Fr6 → ASt → Prop) : Ref Cb P6_2 (Cat [true, true, true, true, true, true, true, true, true, true, true, true, true, true, true, false] (bodyOf Tryz.f6)) m6_1 (post P6_0 pe pr) := by
  rintro s ⟨t, h⟩ hp x s' hm
  have hp : P6_2' s t h := hp
  obtain ⟨w9_0, hl, a7, a9, r9_0, a16, a17, a18, a19, a20, a21⟩ := hp
  unfold m6_1 at hm
  obtain ⟨z8, hz8, hm⟩ := Option.bind_eq_some_iff.1 hm
  have iu9 := G22_spec s.t9 _ r9_0 _ hz8
  cases hm
  refine ⟨⟨_, _⟩, by
      simp only [bodyOf, Tryz.f6, Cat, Bool.false_eq_true, e_seq, e_region, e_cond, e_block, ex_skip, ex_exit, ex_ret, o_cons, xops_nil, k_want_none, k_want_false, k_val, k_pan, k_call, k_ret, k_seq, k_seq_exit, k_seq_ret, k_true, k_false, k_block, k_block_exit, k_block_ret, k_loop, k_loop_exit, k_loop_ret, awanted, aoper, evalO, put, Option.getD_some, List.getElem?_set, acallOp, abuiltin, List.map_cons, List.map_nil, Nat.reduceEqDiff, Nat.reduceLT, List.length_set, Option.map_some, Option.bind_some, Option.bind_eq_bind, add_i, sub_i, mul_i, eql_i, neq_i, lss_i, leq_i, gtr_i, geq_i, ofV, ofCell, ↓reduceIte, List.cons_append, List.nil_append, List.append_nil, List.getElem?_toArray, List.getElem?_cons_succ, List.getElem?_cons_zero, e_draw, g_nil, g_cons, g_want, g_skip, g_val, g_call, g_ret, Option.map_none, hl, a7, a9, a16, a17, a18, a19, a20, a21, CP, bq1, bq2, bq3, bq4, ex_tup, iu9]
      exact rfl, ?_⟩
  show P6_0 _ _
  exact ⟨by simp [hl], by simp [a7], by simp [a16], by simp [a17], by simp [a18], by simp [a19], by simp [a20], by simp [a21], by simp [hl], by simp [hl]⟩
theorem R6_2 (pe : Nat → Fr6 → ASt → Prop) (pr : Fr6 → ASt → Prop) : Ref Cb P6_3 (Cat [true, true, true, true, true, true, true, true, true, true, true, true, true, true, false] (bodyOf Tryz.f6)) m6_2 (post P6_2 pe pr) := by
  rintro s ⟨t, h⟩ hp x s' hm
  have hp : P6_3' s t h := hp
  obtain ⟨w8_0, w9_0, hl, a7, a8, r8_0, a9, r9_0, a16, a17, a18, a19⟩ := hp
  unfold m6_2 at hm
  obtain ⟨z12, hz12, hm⟩ := Option.bind_eq_some_iff.1 hm
  have iu13 := G22_spec s.t8 _ r8_0 _ hz12
  cases hm
  refine ⟨⟨_, _⟩, by
      simp only [bodyOf, Tryz.f6, Cat, Bool.false_eq_true, e_seq, e_region, e_cond, e_block, ex_skip, ex_exit, ex_ret, o_cons, xops_nil, k_want_none, k_want_false, k_val, k_pan, k_call, k_ret, k_seq, k_seq_exit, k_seq_ret, k_true, k_false, k_block, k_block_exit, k_block_ret, k_loop, k_loop_exit, k_loop_ret, awanted, aoper, evalO, put, Option.getD_some, List.getElem?_set, acallOp, abuiltin, List.map_cons, List.map_nil, Nat.reduceEqDiff, Nat.reduceLT, List.length_set, Option.map_some, Option.bind_some, Option.bind_eq_bind, add_i, sub_i, mul_i, eql_i, neq_i, lss_i, leq_i, gtr_i, geq_i, ofV, ofCell, ↓reduceIte, List.cons_append, List.nil_append, List.append_nil, List.getElem?_toArray, List.getElem?_cons_succ, List.getElem?_cons_zero, e_draw, g_nil, g_cons, g_want, g_skip, g_val, g_call, g_ret, Option.map_none, hl, a7, a8, a9, a16, a17, a18, a19, CP, bq1, bq2, bq3, bq4, ex_tup, iu13]
      exact rfl, ?_⟩
  show P6_2 _ _
  exact ⟨w9_0, by simp [hl], by simp [a7], by simp [a9], r9_0, by simp [a16], by simp [a17], by simp [a18], by simp [a19], by simp [hl], by simp [hl]⟩
theorem R6_3 (pe : Nat → Fr6 → ASt → Prop) (pr : Fr6 → ASt → Prop) : Ref Cb P6_4 (Cat [true, true, true, true, true, true, true, true, true, true, true, true, true, false] (bodyOf Tryz.f6)) m6_3 (post P6_3 pe pr) := by
  rintro s ⟨t, h⟩ hp x s' hm
  have hp : P6_4' s t h := hp
  obtain ⟨w8_0, w9_0, w14_0, hl, a7, a8, r8_0, a9, r9_0, a14, r14_0, a16, a17⟩ := hp
  unfold m6_3 at hm
  obtain ⟨z16, hz16, hm⟩ := Option.bind_eq_some_iff.1 hm
  have iu17 := G22_spec s.t14 _ r14_0 _ hz16
  cases hm
  refine ⟨⟨_, _⟩, by
      simp only [bodyOf, Tryz.f6, Cat, Bool.false_eq_true, e_seq, e_region, e_cond, e_block, ex_skip, ex_exit, ex_ret, o_cons, xops_nil, k_want_none, k_want_false, k_val, k_pan, k_call, k_ret, k_seq, k_seq_exit, k_seq_ret, k_true, k_false, k_block, k_block_exit, k_block_ret, k_loop, k_loop_exit, k_loop_ret, awanted, aoper, evalO, put, Option.getD_some, List.getElem?_set, acallOp, abuiltin, List.map_cons, List.map_nil, Nat.reduceEqDiff, Nat.reduceLT, List.length_set, Option.map_some, Option.bind_some, Option.bind_eq_bind, add_i, sub_i, mul_i, eql_i, neq_i, lss_i, leq_i, gtr_i, geq_i, ofV, ofCell, ↓reduceIte, List.cons_append, List.nil_append, List.append_nil, List.getElem?_toArray, List.getElem?_cons_succ, List.getElem?_cons_zero, e_draw, g_nil, g_cons, g_want, g_skip, g_val, g_call, g_ret, Option.map_none, hl, a7, a8, a9, a14, a16, a17, CP, bq1, bq2, bq3, bq4, ex_tup, iu17]
      exact rfl, ?_⟩
  show P6_3 _ _
  exact ⟨w8_0, w9_0, by simp [hl], by simp [a7], by simp [a8], r8_0, by simp [a9], r9_0, by simp [a16], by simp [a17], by simp [hl], by simp [hl]⟩
theorem R6_4 (pe : Nat → Fr6 → ASt → Prop) (pr : Fr6 → ASt → Prop) : Ref Cb P6_5 (Cat [true, true, true, true, true, true, true, true, true, true, true, true, false] (bodyOf Tryz.f6)) m6_4 (post P6_4 pe pr) := by
  rintro s ⟨t, h⟩ hp x s' hm
  have hp : P6_5' s t h := hp
  obtain ⟨i5, w5_0, w5_1, w8_0, w9_0, w12_0, w13_0, w14_0, hl, a5, g5, l5, r5_0, r5_1, a7, a8, r8_0, a9, r9_0, a12, r12_0, a13, r13_0, a14, r14_0, a16⟩ := hp
  unfold m6_4 at hm
  have ic35 : (w14_0 : AVal).isCell = true := rTestT_cell r14_0
  have bd34 : abuild Tryz.prog 57 [(0, .int .i64 3), (1, w14_0)] = some (.agg [.int .i64 3, w14_0, .nilPtr, .bool false, .int .i64 0, .int .i64 0, .nilSl, .nilSl]) := by simp only [TyB.bu57, List.getElem?_toArray, fillA, c_i, c_b, c_s, c_nl, c_np, c_ip, c_ls, bx_i, bx_b, bx_s, bx_a, bx_nl, bx_np, bx_ip, bx_ls, cl_i, cl_b, cl_s, cl_a, cl_nl, cl_np, cl_ip, cl_ls, List.all_cons, List.all_nil, List.length_cons, List.length_nil, Bool.and_self, Bool.and_true, setRange, List.set_cons_zero, List.set_cons_succ, Option.bind_eq_bind, Option.bind_some, Nat.zero_add, Nat.reduceAdd, and_self, Nat.reduceLeDiff, if_true, and_true, true_and, Nat.le_refl, Nat.zero_le, List.getElem?_cons_zero, List.getElem?_cons_succ, Option.map_some, ic35, bx_c ic35, cl_c ic35]
  have ic36 : (w14_0 : AVal).isCell = true := rTestT_cell r14_0
  have k37 : rTestT (TestT.mk 3 s.t14 TestT.nil false 0 0 [] []) [.iptr [.int .i64 3, w14_0, .nilPtr, .bool false, .int .i64 0, .int .i64 0, .nilSl, .nilSl]] := ⟨w14_0, .nilPtr, .nilSl, .nilSl, rfl, r14_0, rfl, Sl.nil, Sl.nil⟩
  have k38 : loadA h true 2 (.ptr i5 0) = some (.agg [w5_0, w5_1]) := by rw [Heap.load_gen g5 (Nat.le_of_ble_eq_true rfl)]; first | rfl | exact ofc2 _ _ _
  obtain ⟨z39, hz39, hm⟩ := Option.bind_eq_some_iff.1 hm
  have iu40 := G21_spec (TestT.mk 3 s.t14 TestT.nil false 0 0 [] []) s.t5 _ k37 _ r5_0 _ r5_1 _ hz39
  have apu40 : apure Cb 21 [.iptr [.int .i64 3, w14_0, .nilPtr, .bool false, .int .i64 0, .int .i64 0, .nilSl, .nilSl], .agg [w5_0, w5_1]] = true := apure_of rfl rfl (refs_cons (refs_one (rTestT_p.ref _ _ k37)) (refs_cons (by simp only [refsL, refs, List.append_nil, List.nil_append, r5_0.refs rS_p, r5_1.refs (rI_p .i64)]) rfl))
  have ic42 : (w12_0 : AVal).isCell = true := rTestT_cell r12_0
  have ic43 : (w13_0 : AVal).isCell = true := rTestT_cell r13_0
  have bd41 : abuild Tryz.prog 57 [(0, .int .i64 2), (1, w12_0), (2, w13_0)] = some (.agg [.int .i64 2, w12_0, w13_0, .bool false, .int .i64 0, .int .i64 0, .nilSl, .nilSl]) := by simp only [TyB.bu57, List.getElem?_toArray, fillA, c_i, c_b, c_s, c_nl, c_np, c_ip, c_ls, bx_i, bx_b, bx_s, bx_a, bx_nl, bx_np, bx_ip, bx_ls, cl_i, cl_b, cl_s, cl_a, cl_nl, cl_np, cl_ip, cl_ls, List.all_cons, List.all_nil, List.length_cons, List.length_nil, Bool.and_self, Bool.and_true, setRange, List.set_cons_zero, List.set_cons_succ, Option.bind_eq_bind, Option.bind_some, Nat.zero_add, Nat.reduceAdd, and_self, Nat.reduceLeDiff, if_true, and_true, true_and, Nat.le_refl, Nat.zero_le, List.getElem?_cons_zero, List.getElem?_cons_succ, Option.map_some, ic42, bx_c ic42, cl_c ic42, ic43, bx_c ic43, cl_c ic43]
  have ic44 : (w12_0 : AVal).isCell = true := rTestT_cell r12_0
  have ic45 : (w13_0 : AVal).isCell = true := rTestT_cell r13_0
  have k46 : rTestT (TestT.mk 2 s.t12 s.t13 false 0 0 [] []) [.iptr [.int .i64 2, w12_0, w13_0, .bool false, .int .i64 0, .int .i64 0, .nilSl, .nilSl]] := ⟨w12_0, w13_0, .nilSl, .nilSl, rfl, r12_0, r13_0, Sl.nil, Sl.nil⟩
  have k47 : loadA h true 2 (.ptr i5 0) = some (.agg [w5_0, w5_1]) := by rw [Heap.load_gen g5 (Nat.le_of_ble_eq_true rfl)]; first | rfl | exact ofc2 _ _ _
  obtain ⟨z48, hz48, hm⟩ := Option.bind_eq_some_iff.1 hm
  have iu49 := G21_spec (TestT.mk 2 s.t12 s.t13 false 0 0 [] []) s.t5 _ k46 _ r5_0 _ r5_1 _ hz48
  have apu49 : apure Cb 21 [.iptr [.int .i64 2, w12_0, w13_0, .bool false, .int .i64 0, .int .i64 0, .nilSl, .nilSl], .agg [w5_0, w5_1]] = true := apure_of rfl rfl (refs_cons (refs_one (rTestT_p.ref _ _ k46)) (refs_cons (by simp only [refsL, refs, List.append_nil, List.nil_append, r5_0.refs rS_p, r5_1.refs (rI_p .i64)]) rfl))
  cases hm
  refine ⟨⟨_, _⟩, by
      simp only [bodyOf, Tryz.f6, Cat, Bool.false_eq_true, e_seq, e_region, e_cond, e_block, ex_skip, ex_exit, ex_ret, o_cons, xops_nil, k_want_none, k_want_false, k_val, k_pan, k_call, k_ret, k_seq, k_seq_exit, k_seq_ret, k_true, k_false, k_block, k_block_exit, k_block_ret, k_loop, k_loop_exit, k_loop_ret, awanted, aoper, evalO, put, Option.getD_some, List.getElem?_set, acallOp, abuiltin, List.map_cons, List.map_nil, Nat.reduceEqDiff, Nat.reduceLT, List.length_set, Option.map_some, Option.bind_some, Option.bind_eq_bind, add_i, sub_i, mul_i, eql_i, neq_i, lss_i, leq_i, gtr_i, geq_i, ofV, ofCell, ↓reduceIte, List.cons_append, List.nil_append, List.append_nil, List.getElem?_toArray, List.getElem?_cons_succ, List.getElem?_cons_zero, e_draw, g_nil, g_cons, g_want, g_skip, g_val, g_call, g_ret, Option.map_none, hl, a5, a7, a8, a9, a12, a13, a14, a16, CP, bq1, bq2, bq3, bq4, ex_tup, bd34, TyB.cb_parse_go_148, TyB.cb_parse_go_143, TyB.cb_parse_go_130, TyB.cb_ref_go_74, TyB.cb_ref_go_93, TyB.cb_law_go_119, TyB.cb_law_go_120, TyB.cb_law_go_121, TyB.cb_law_go_122, TyB.cb_law_go_123, TyB.cb_law_go_124, ic36, bx_c ic36, cl_c ic36, bx_a, cl_a, List.all_cons, List.all_nil, Bool.and_self, Bool.and_true, c_i, c_b, c_s, c_nl, c_np, c_ip, c_ls, k38, TyB.ld53, iu40, apu40, if_true, bd41, ic44, bx_c ic44, cl_c ic44, ic45, bx_c ic45, cl_c ic45, k47, iu49, apu49, TyB.eqlb4]
      rw [k_draw _ _ _ (by kernel_rfl)]
      exact rfl, ?_⟩
  show P6_4 _ _
  exact ⟨w8_0, w9_0, w14_0, by simp [hl], by simp [a7], by simp [a8], r8_0, by simp [a9], r9_0, by simp [a14], r14_0, by simp [a16], by simp [hl]⟩
set_option maxHeartbeats 8000000 in
theorem R6_5 (pe : Nat → Fr6 → ASt → Prop) (pr : Fr6 → ASt → Prop) : Ref Cb P6_6 (Cat [true, true, true, true, true, true, true, true, true, true, true, false] (bodyOf Tryz.f6)) m6_5 (post P6_5 pe pr) := by
  rintro s ⟨t, h⟩ hp x s' hm
  have hp : P6_6' s t h := hp
  obtain ⟨i5, w5_0, w5_1, w8_0, w9_0, w12_0, w13_0, w14_0, w15_0, hl, a5, g5, l5, r5_0, r5_1, a7, a8, r8_0, a9, r9_0, a10, a11, a12, r12_0, a13, r13_0, a14, r14_0, a15, r15_0⟩ := hp
  unfold m6_5 at hm
  have k69 : loadA h true 2 (.ptr i5 0) = some (.agg [w5_0, w5_1]) := by rw [Heap.load_gen g5 (Nat.le_of_ble_eq_true rfl)]; first | rfl | exact ofc2 _ _ _
  obtain ⟨z70, hz70, hm⟩ := Option.bind_eq_some_iff.1 hm
  have iu71 := G21_spec s.t12 s.t5 _ r12_0 _ r5_0 _ r5_1 _ hz70
  cases hb72 : (z70 == (!s.t10)) with
  | true =>
    all_goals (
      try simp only [hb72, cond_true, cond_false, Option.bind_some, Option.bind_assoc, Bool.not_true, Bool.not_false, Bool.true_and, Bool.false_and, Bool.and_true, Bool.and_false, Bool.true_or, Bool.false_or] at hm
      have k73 : loadA h true 2 (.ptr i5 0) = some (.agg [w5_0, w5_1]) := by rw [Heap.load_gen g5 (Nat.le_of_ble_eq_true rfl)]; first | rfl | exact ofc2 _ _ _
      obtain ⟨z74, hz74, hm⟩ := Option.bind_eq_some_iff.1 hm
      have iu75 := G21_spec s.t14 s.t5 _ r14_0 _ r5_0 _ r5_1 _ hz74
      cases hb76 : s.t10 with
      | true =>
        all_goals (
          have hc77 := hb72
          try rw [hb76] at hc77
          try simp only [hb76, cond_true, cond_false, Option.bind_some, Option.bind_assoc, Bool.not_true, Bool.not_false, Bool.true_and, Bool.false_and, Bool.and_true, Bool.and_false, Bool.true_or, Bool.false_or] at hm
          try simp only [cond_true, cond_false, Option.bind_some, Option.bind_assoc, Bool.not_true, Bool.not_false, Bool.true_and, Bool.false_and, Bool.and_true, Bool.and_false, Bool.true_or, Bool.false_or] at hm
          cases hb78 : (z74 == s.t11) with
          | true =>
            all_goals (
              try simp only [hb78, cond_true, cond_false, Option.bind_some, Option.bind_assoc, Bool.not_true, Bool.not_false, Bool.true_and, Bool.false_and, Bool.and_true, Bool.and_false, Bool.true_or, Bool.false_or] at hm
              have k79 : loadA h true 2 (.ptr i5 0) = some (.agg [w5_0, w5_1]) := by rw [Heap.load_gen g5 (Nat.le_of_ble_eq_true rfl)]; first | rfl | exact ofc2 _ _ _
              obtain ⟨z80, hz80, hm⟩ := Option.bind_eq_some_iff.1 hm
              have iu81 := G21_spec s.t15 s.t5 _ r15_0 _ r5_0 _ r5_1 _ hz80
              try simp only [cond_true, cond_false, Option.bind_some, Option.bind_assoc, Bool.not_true, Bool.not_false, Bool.true_and, Bool.false_and, Bool.and_true, Bool.and_false, Bool.true_or, Bool.false_or] at hm
              cases hb82 : (z80 == true) with
              | true =>
                all_goals (
                  try simp only [hb82, cond_true, cond_false, Option.bind_some, Option.bind_assoc, Bool.not_true, Bool.not_false, Bool.true_and, Bool.false_and, Bool.and_true, Bool.and_false, Bool.true_or, Bool.false_or] at hm
                  have ic84 : (w12_0 : AVal).isCell = true := rTestT_cell r12_0
                  have bd83 : abuild Tryz.prog 57 [(0, .int .i64 3), (1, w12_0)] = some (.agg [.int .i64 3, w12_0, .nilPtr, .bool false, .int .i64 0, .int .i64 0, .nilSl, .nilSl]) := by simp only [TyB.bu57, List.getElem?_toArray, fillA, c_i, c_b, c_s, c_nl, c_np, c_ip, c_ls, bx_i, bx_b, bx_s, bx_a, bx_nl, bx_np, bx_ip, bx_ls, cl_i, cl_b, cl_s, cl_a, cl_nl, cl_np, cl_ip, cl_ls, List.all_cons, List.all_nil, List.length_cons, List.length_nil, Bool.and_self, Bool.and_true, setRange, List.set_cons_zero, List.set_cons_succ, Option.bind_eq_bind, Option.bind_some, Nat.zero_add, Nat.reduceAdd, and_self, Nat.reduceLeDiff, if_true, and_true, true_and, Nat.le_refl, Nat.zero_le, List.getElem?_cons_zero, List.getElem?_cons_succ, Option.map_some, ic84, bx_c ic84, cl_c ic84]
                  have ic85 : (w12_0 : AVal).isCell = true := rTestT_cell r12_0
                  have k86 : rTestT (TestT.mk 3 s.t12 TestT.nil false 0 0 [] []) [.iptr [.int .i64 3, w12_0, .nilPtr, .bool false, .int .i64 0, .int .i64 0, .nilSl, .nilSl]] := ⟨w12_0, .nilPtr, .nilSl, .nilSl, rfl, r12_0, rfl, Sl.nil, Sl.nil⟩
                  have k87 : loadA h true 2 (.ptr i5 0) = some (.agg [w5_0, w5_1]) := by rw [Heap.load_gen g5 (Nat.le_of_ble_eq_true rfl)]; first | rfl | exact ofc2 _ _ _
                  obtain ⟨z88, hz88, hm⟩ := Option.bind_eq_some_iff.1 hm
                  have iu89 := G21_spec (TestT.mk 3 s.t12 TestT.nil false 0 0 [] []) s.t5 _ k86 _ r5_0 _ r5_1 _ hz88
                  try simp only [cond_true, cond_false, Option.bind_some, Option.bind_assoc, Bool.not_true, Bool.not_false, Bool.true_and, Bool.false_and, Bool.and_true, Bool.and_false, Bool.true_or, Bool.false_or] at hm
                  cases hm
                  refine ⟨⟨_, _⟩, by
                      simp only [bodyOf, Tryz.f6, Cat, Bool.false_eq_true, e_seq, e_region, e_cond, e_block, ex_skip, ex_exit, ex_ret, o_cons, xops_nil, k_want_none, k_want_false, k_val, k_pan, k_call, k_ret, k_seq, k_seq_exit, k_seq_ret, k_true, k_false, k_block, k_block_exit, k_block_ret, k_loop, k_loop_exit, k_loop_ret, awanted, aoper, evalO, put, Option.getD_some, List.getElem?_set, acallOp, abuiltin, List.map_cons, List.map_nil, Nat.reduceEqDiff, Nat.reduceLT, List.length_set, Option.map_some, Option.bind_some, Option.bind_eq_bind, add_i, sub_i, mul_i, eql_i, neq_i, lss_i, leq_i, gtr_i, geq_i, ofV, ofCell, ↓reduceIte, List.cons_append, List.nil_append, List.append_nil, List.getElem?_toArray, List.getElem?_cons_succ, List.getElem?_cons_zero, e_draw, g_nil, g_cons, g_want, g_skip, g_val, g_call, g_ret, Option.map_none, hl, a5, a7, a8, a9, a10, a11, a12, a13, a14, a15, CP, bq1, bq2, bq3, bq4, ex_tup, List.append_eq, k69, TyB.ld53, iu71, aun_not, TyB.eqlb4, k73, iu75, k79, iu81, bd83, TyB.cb_parse_go_148, TyB.cb_parse_go_143, TyB.cb_parse_go_130, TyB.cb_ref_go_74, TyB.cb_ref_go_93, TyB.cb_law_go_119, TyB.cb_law_go_120, TyB.cb_law_go_121, TyB.cb_law_go_122, TyB.cb_law_go_123, TyB.cb_law_go_124, ic85, bx_c ic85, cl_c ic85, bx_a, cl_a, List.all_cons, List.all_nil, Bool.and_self, Bool.and_true, c_i, c_b, c_s, c_nl, c_np, c_ip, c_ls, k87, iu89, hc77, hb76, hb78, hb82]
                      exact rfl, ?_⟩
                  show P6_5 _ _
                  exact ⟨i5, w5_0, w5_1, w8_0, w9_0, w12_0, w13_0, w14_0, by simp [hl], by simp [a5], g5, l5, r5_0, r5_1, by simp [a7], by simp [a8], r8_0, by simp [a9], r9_0, by simp [a12], r12_0, by simp [a13], r13_0, by simp [a14], r14_0, by simp [hl, hc77, hb76, hb78, hb82]⟩)
              | false =>
                all_goals (
                  try simp only [hb82, cond_true, cond_false, Option.bind_some, Option.bind_assoc, Bool.not_true, Bool.not_false, Bool.true_and, Bool.false_and, Bool.and_true, Bool.and_false, Bool.true_or, Bool.false_or] at hm
                  cases hm
                  refine ⟨⟨_, _⟩, by
                      simp only [bodyOf, Tryz.f6, Cat, Bool.false_eq_true, e_seq, e_region, e_cond, e_block, ex_skip, ex_exit, ex_ret, o_cons, xops_nil, k_want_none, k_want_false, k_val, k_pan, k_call, k_ret, k_seq, k_seq_exit, k_seq_ret, k_true, k_false, k_block, k_block_exit, k_block_ret, k_loop, k_loop_exit, k_loop_ret, awanted, aoper, evalO, put, Option.getD_some, List.getElem?_set, acallOp, abuiltin, List.map_cons, List.map_nil, Nat.reduceEqDiff, Nat.reduceLT, List.length_set, Option.map_some, Option.bind_some, Option.bind_eq_bind, add_i, sub_i, mul_i, eql_i, neq_i, lss_i, leq_i, gtr_i, geq_i, ofV, ofCell, ↓reduceIte, List.cons_append, List.nil_append, List.append_nil, List.getElem?_toArray, List.getElem?_cons_succ, List.getElem?_cons_zero, e_draw, g_nil, g_cons, g_want, g_skip, g_val, g_call, g_ret, Option.map_none, hl, a5, a7, a8, a9, a10, a11, a12, a13, a14, a15, CP, bq1, bq2, bq3, bq4, ex_tup, List.append_eq, k69, TyB.ld53, iu71, aun_not, TyB.eqlb4, k73, iu75, k79, iu81, hc77, hb76, hb78, hb82]
                      exact rfl, ?_⟩
                  show P6_5 _ _
                  exact ⟨i5, w5_0, w5_1, w8_0, w9_0, w12_0, w13_0, w14_0, by simp [hl], by simp [a5], g5, l5, r5_0, r5_1, by simp [a7], by simp [a8], r8_0, by simp [a9], r9_0, by simp [a12], r12_0, by simp [a13], r13_0, by simp [a14], r14_0, by simp [hl, hc77, hb76, hb78, hb82]⟩))
          | false =>
            all_goals (
              try simp only [hb78, cond_true, cond_false, Option.bind_some, Option.bind_assoc, Bool.not_true, Bool.not_false, Bool.true_and, Bool.false_and, Bool.and_true, Bool.and_false, Bool.true_or, Bool.false_or] at hm
              cases hm
              refine ⟨⟨_, _⟩, by
                  simp only [bodyOf, Tryz.f6, Cat, Bool.false_eq_true, e_seq, e_region, e_cond, e_block, ex_skip, ex_exit, ex_ret, o_cons, xops_nil, k_want_none, k_want_false, k_val, k_pan, k_call, k_ret, k_seq, k_seq_exit, k_seq_ret, k_true, k_false, k_block, k_block_exit, k_block_ret, k_loop, k_loop_exit, k_loop_ret, awanted, aoper, evalO, put, Option.getD_some, List.getElem?_set, acallOp, abuiltin, List.map_cons, List.map_nil, Nat.reduceEqDiff, Nat.reduceLT, List.length_set, Option.map_some, Option.bind_some, Option.bind_eq_bind, add_i, sub_i, mul_i, eql_i, neq_i, lss_i, leq_i, gtr_i, geq_i, ofV, ofCell, ↓reduceIte, List.cons_append, List.nil_append, List.append_nil, List.getElem?_toArray, List.getElem?_cons_succ, List.getElem?_cons_zero, e_draw, g_nil, g_cons, g_want, g_skip, g_val, g_call, g_ret, Option.map_none, hl, a5, a7, a8, a9, a10, a11, a12, a13, a14, a15, CP, bq1, bq2, bq3, bq4, ex_tup, List.append_eq, k69, TyB.ld53, iu71, aun_not, TyB.eqlb4, k73, iu75, hc77, hb76, hb78]
                  exact rfl, ?_⟩
              show P6_5 _ _
              exact ⟨i5, w5_0, w5_1, w8_0, w9_0, w12_0, w13_0, w14_0, by simp [hl], by simp [a5], g5, l5, r5_0, r5_1, by simp [a7], by simp [a8], r8_0, by simp [a9], r9_0, by simp [a12], r12_0, by simp [a13], r13_0, by simp [a14], r14_0, by simp [hl, hc77, hb76, hb78]⟩))
      | false =>
        all_goals (
          have hc90 := hb72
          try rw [hb76] at hc90
          try simp only [hb76, cond_true, cond_false, Option.bind_some, Option.bind_assoc, Bool.not_true, Bool.not_false, Bool.true_and, Bool.false_and, Bool.and_true, Bool.and_false, Bool.true_or, Bool.false_or] at hm
          try simp only [cond_true, cond_false, Option.bind_some, Option.bind_assoc, Bool.not_true, Bool.not_false, Bool.true_and, Bool.false_and, Bool.and_true, Bool.and_false, Bool.true_or, Bool.false_or] at hm
          cases hb91 : (z74 == false) with
          | true =>
            all_goals (
              try simp only [hb91, cond_true, cond_false, Option.bind_some, Option.bind_assoc, Bool.not_true, Bool.not_false, Bool.true_and, Bool.false_and, Bool.and_true, Bool.and_false, Bool.true_or, Bool.false_or] at hm
              have k92 : loadA h true 2 (.ptr i5 0) = some (.agg [w5_0, w5_1]) := by rw [Heap.load_gen g5 (Nat.le_of_ble_eq_true rfl)]; first | rfl | exact ofc2 _ _ _
              obtain ⟨z93, hz93, hm⟩ := Option.bind_eq_some_iff.1 hm
              have iu94 := G21_spec s.t15 s.t5 _ r15_0 _ r5_0 _ r5_1 _ hz93
              try simp only [cond_true, cond_false, Option.bind_some, Option.bind_assoc, Bool.not_true, Bool.not_false, Bool.true_and, Bool.false_and, Bool.and_true, Bool.and_false, Bool.true_or, Bool.false_or] at hm
              cases hb95 : (z93 == s.t11) with
              | true =>
                all_goals (
                  try simp only [hb95, cond_true, cond_false, Option.bind_some, Option.bind_assoc, Bool.not_true, Bool.not_false, Bool.true_and, Bool.false_and, Bool.and_true, Bool.and_false, Bool.true_or, Bool.false_or] at hm
                  have ic97 : (w12_0 : AVal).isCell = true := rTestT_cell r12_0
                  have bd96 : abuild Tryz.prog 57 [(0, .int .i64 3), (1, w12_0)] = some (.agg [.int .i64 3, w12_0, .nilPtr, .bool false, .int .i64 0, .int .i64 0, .nilSl, .nilSl]) := by simp only [TyB.bu57, List.getElem?_toArray, fillA, c_i, c_b, c_s, c_nl, c_np, c_ip, c_ls, bx_i, bx_b, bx_s, bx_a, bx_nl, bx_np, bx_ip, bx_ls, cl_i, cl_b, cl_s, cl_a, cl_nl, cl_np, cl_ip, cl_ls, List.all_cons, List.all_nil, List.length_cons, List.length_nil, Bool.and_self, Bool.and_true, setRange, List.set_cons_zero, List.set_cons_succ, Option.bind_eq_bind, Option.bind_some, Nat.zero_add, Nat.reduceAdd, and_self, Nat.reduceLeDiff, if_true, and_true, true_and, Nat.le_refl, Nat.zero_le, List.getElem?_cons_zero, List.getElem?_cons_succ, Option.map_some, ic97, bx_c ic97, cl_c ic97]
                  have ic98 : (w12_0 : AVal).isCell = true := rTestT_cell r12_0
                  have k99 : rTestT (TestT.mk 3 s.t12 TestT.nil false 0 0 [] []) [.iptr [.int .i64 3, w12_0, .nilPtr, .bool false, .int .i64 0, .int .i64 0, .nilSl, .nilSl]] := ⟨w12_0, .nilPtr, .nilSl, .nilSl, rfl, r12_0, rfl, Sl.nil, Sl.nil⟩
                  have k100 : loadA h true 2 (.ptr i5 0) = some (.agg [w5_0, w5_1]) := by rw [Heap.load_gen g5 (Nat.le_of_ble_eq_true rfl)]; first | rfl | exact ofc2 _ _ _
                  obtain ⟨z101, hz101, hm⟩ := Option.bind_eq_some_iff.1 hm
                  have iu102 := G21_spec (TestT.mk 3 s.t12 TestT.nil false 0 0 [] []) s.t5 _ k99 _ r5_0 _ r5_1 _ hz101
                  try simp only [cond_true, cond_false, Option.bind_some, Option.bind_assoc, Bool.not_true, Bool.not_false, Bool.true_and, Bool.false_and, Bool.and_true, Bool.and_false, Bool.true_or, Bool.false_or] at hm
                  cases hm
                  refine ⟨⟨_, _⟩, by
                      simp only [bodyOf, Tryz.f6, Cat, Bool.false_eq_true, e_seq, e_region, e_cond, e_block, ex_skip, ex_exit, ex_ret, o_cons, xops_nil, k_want_none, k_want_false, k_val, k_pan, k_call, k_ret, k_seq, k_seq_exit, k_seq_ret, k_true, k_false, k_block, k_block_exit, k_block_ret, k_loop, k_loop_exit, k_loop_ret, awanted, aoper, evalO, put, Option.getD_some, List.getElem?_set, acallOp, abuiltin, List.map_cons, List.map_nil, Nat.reduceEqDiff, Nat.reduceLT, List.length_set, Option.map_some, Option.bind_some, Option.bind_eq_bind, add_i, sub_i, mul_i, eql_i, neq_i, lss_i, leq_i, gtr_i, geq_i, ofV, ofCell, ↓reduceIte, List.cons_append, List.nil_append, List.append_nil, List.getElem?_toArray, List.getElem?_cons_succ, List.getElem?_cons_zero, e_draw, g_nil, g_cons, g_want, g_skip, g_val, g_call, g_ret, Option.map_none, hl, a5, a7, a8, a9, a10, a11, a12, a13, a14, a15, CP, bq1, bq2, bq3, bq4, ex_tup, List.append_eq, k69, TyB.ld53, iu71, aun_not, TyB.eqlb4, k73, iu75, k92, iu94, bd96, TyB.cb_parse_go_148, TyB.cb_parse_go_143, TyB.cb_parse_go_130, TyB.cb_ref_go_74, TyB.cb_ref_go_93, TyB.cb_law_go_119, TyB.cb_law_go_120, TyB.cb_law_go_121, TyB.cb_law_go_122, TyB.cb_law_go_123, TyB.cb_law_go_124, ic98, bx_c ic98, cl_c ic98, bx_a, cl_a, List.all_cons, List.all_nil, Bool.and_self, Bool.and_true, c_i, c_b, c_s, c_nl, c_np, c_ip, c_ls, k100, iu102, hc90, hb76, hb91, hb95]
                      exact rfl, ?_⟩
                  show P6_5 _ _
                  exact ⟨i5, w5_0, w5_1, w8_0, w9_0, w12_0, w13_0, w14_0, by simp [hl], by simp [a5], g5, l5, r5_0, r5_1, by simp [a7], by simp [a8], r8_0, by simp [a9], r9_0, by simp [a12], r12_0, by simp [a13], r13_0, by simp [a14], r14_0, by simp [hl, hc90, hb76, hb91, hb95]⟩)
              | false =>
                all_goals (
                  try simp only [hb95, cond_true, cond_false, Option.bind_some, Option.bind_assoc, Bool.not_true, Bool.not_false, Bool.true_and, Bool.false_and, Bool.and_true, Bool.and_false, Bool.true_or, Bool.false_or] at hm
                  cases hm
                  refine ⟨⟨_, _⟩, by
                      simp only [bodyOf, Tryz.f6, Cat, Bool.false_eq_true, e_seq, e_region, e_cond, e_block, ex_skip, ex_exit, ex_ret, o_cons, xops_nil, k_want_none, k_want_false, k_val, k_pan, k_call, k_ret, k_seq, k_seq_exit, k_seq_ret, k_true, k_false, k_block, k_block_exit, k_block_ret, k_loop, k_loop_exit, k_loop_ret, awanted, aoper, evalO, put, Option.getD_some, List.getElem?_set, acallOp, abuiltin, List.map_cons, List.map_nil, Nat.reduceEqDiff, Nat.reduceLT, List.length_set, Option.map_some, Option.bind_some, Option.bind_eq_bind, add_i, sub_i, mul_i, eql_i, neq_i, lss_i, leq_i, gtr_i, geq_i, ofV, ofCell, ↓reduceIte, List.cons_append, List.nil_append, List.append_nil, List.getElem?_toArray, List.getElem?_cons_succ, List.getElem?_cons_zero, e_draw, g_nil, g_cons, g_want, g_skip, g_val, g_call, g_ret, Option.map_none, hl, a5, a7, a8, a9, a10, a11, a12, a13, a14, a15, CP, bq1, bq2, bq3, bq4, ex_tup, List.append_eq, k69, TyB.ld53, iu71, aun_not, TyB.eqlb4, k73, iu75, k92, iu94, hc90, hb76, hb91, hb95]
                      exact rfl, ?_⟩
                  show P6_5 _ _
                  exact ⟨i5, w5_0, w5_1, w8_0, w9_0, w12_0, w13_0, w14_0, by simp [hl], by simp [a5], g5, l5, r5_0, r5_1, by simp [a7], by simp [a8], r8_0, by simp [a9], r9_0, by simp [a12], r12_0, by simp [a13], r13_0, by simp [a14], r14_0, by simp [hl, hc90, hb76, hb91, hb95]⟩))
          | false =>
            all_goals (
              try simp only [hb91, cond_true, cond_false, Option.bind_some, Option.bind_assoc, Bool.not_true, Bool.not_false, Bool.true_and, Bool.false_and, Bool.and_true, Bool.and_false, Bool.true_or, Bool.false_or] at hm
              cases hm
              refine ⟨⟨_, _⟩, by
                  simp only [bodyOf, Tryz.f6, Cat, Bool.false_eq_true, e_seq, e_region, e_cond, e_block, ex_skip, ex_exit, ex_ret, o_cons, xops_nil, k_want_none, k_want_false, k_val, k_pan, k_call, k_ret, k_seq, k_seq_exit, k_seq_ret, k_true, k_false, k_block, k_block_exit, k_block_ret, k_loop, k_loop_exit, k_loop_ret, awanted, aoper, evalO, put, Option.getD_some, List.getElem?_set, acallOp, abuiltin, List.map_cons, List.map_nil, Nat.reduceEqDiff, Nat.reduceLT, List.length_set, Option.map_some, Option.bind_some, Option.bind_eq_bind, add_i, sub_i, mul_i, eql_i, neq_i, lss_i, leq_i, gtr_i, geq_i, ofV, ofCell, ↓reduceIte, List.cons_append, List.nil_append, List.append_nil, List.getElem?_toArray, List.getElem?_cons_succ, List.getElem?_cons_zero, e_draw, g_nil, g_cons, g_want, g_skip, g_val, g_call, g_ret, Option.map_none, hl, a5, a7, a8, a9, a10, a11, a12, a13, a14, a15, CP, bq1, bq2, bq3, bq4, ex_tup, List.append_eq, k69, TyB.ld53, iu71, aun_not, TyB.eqlb4, k73, iu75, hc90, hb76, hb91]
                  exact rfl, ?_⟩
              show P6_5 _ _
              exact ⟨i5, w5_0, w5_1, w8_0, w9_0, w12_0, w13_0, w14_0, by simp [hl], by simp [a5], g5, l5, r5_0, r5_1, by simp [a7], by simp [a8], r8_0, by simp [a9], r9_0, by simp [a12], r12_0, by simp [a13], r13_0, by simp [a14], r14_0, by simp [hl, hc90, hb76, hb91]⟩)))
  | false =>
    all_goals (
      try simp only [hb72, cond_true, cond_false, Option.bind_some, Option.bind_assoc, Bool.not_true, Bool.not_false, Bool.true_and, Bool.false_and, Bool.and_true, Bool.and_false, Bool.true_or, Bool.false_or] at hm
      cases hm
      refine ⟨⟨_, _⟩, by
          simp only [bodyOf, Tryz.f6, Cat, Bool.false_eq_true, e_seq, e_region, e_cond, e_block, ex_skip, ex_exit, ex_ret, o_cons, xops_nil, k_want_none, k_want_false, k_val, k_pan, k_call, k_ret, k_seq, k_seq_exit, k_seq_ret, k_true, k_false, k_block, k_block_exit, k_block_ret, k_loop, k_loop_exit, k_loop_ret, awanted, aoper, evalO, put, Option.getD_some, List.getElem?_set, acallOp, abuiltin, List.map_cons, List.map_nil, Nat.reduceEqDiff, Nat.reduceLT, List.length_set, Option.map_some, Option.bind_some, Option.bind_eq_bind, add_i, sub_i, mul_i, eql_i, neq_i, lss_i, leq_i, gtr_i, geq_i, ofV, ofCell, ↓reduceIte, List.cons_append, List.nil_append, List.append_nil, List.getElem?_toArray, List.getElem?_cons_succ, List.getElem?_cons_zero, e_draw, g_nil, g_cons, g_want, g_skip, g_val, g_call, g_ret, Option.map_none, hl, a5, a7, a8, a9, a10, a11, a12, a13, a14, a15, CP, bq1, bq2, bq3, bq4, ex_tup, List.append_eq, k69, TyB.ld53, iu71, aun_not, TyB.eqlb4, hb72]
          exact rfl, ?_⟩
      show P6_5 _ _
      exact ⟨i5, w5_0, w5_1, w8_0, w9_0, w12_0, w13_0, w14_0, by simp [hl], by simp [a5], g5, l5, r5_0, r5_1, by simp [a7], by simp [a8], r8_0, by simp [a9], r9_0, by simp [a12], r12_0, by simp [a13], r13_0, by simp [a14], r14_0, by simp [hl, hb72]⟩)
theorem R6_6 (pe : Nat → Fr6 → ASt → Prop) (pr : Fr6 → ASt → Prop) : Ref Cb P6_7 (Cat [true, true, true, true, true, true, true, true, true, true, false] (bodyOf Tryz.f6)) m6_6 (post P6_6 pe pr) := by
  rintro s ⟨t, h⟩ hp x s' hm
  have hp : P6_7' s t h := hp
  obtain ⟨i5, w5_0, w5_1, w8_0, w9_0, w12_0, w13_0, w14_0, hl, a5, g5, l5, r5_0, r5_1, a7, a8, r8_0, a9, r9_0, a10, a11, a12, r12_0, a13, r13_0, a14, r14_0⟩ := hp
  unfold m6_6 at hm
  have ic110 : (w8_0 : AVal).isCell = true := rTestT_cell r8_0
  have ic111 : (w9_0 : AVal).isCell = true := rTestT_cell r9_0
  have bd109 : abuild Tryz.prog 57 [(0, .int .i64 2), (1, w8_0), (2, w9_0)] = some (.agg [.int .i64 2, w8_0, w9_0, .bool false, .int .i64 0, .int .i64 0, .nilSl, .nilSl]) := by simp only [TyB.bu57, List.getElem?_toArray, fillA, c_i, c_b, c_s, c_nl, c_np, c_ip, c_ls, bx_i, bx_b, bx_s, bx_a, bx_nl, bx_np, bx_ip, bx_ls, cl_i, cl_b, cl_s, cl_a, cl_nl, cl_np, cl_ip, cl_ls, List.all_cons, List.all_nil, List.length_cons, List.length_nil, Bool.and_self, Bool.and_true, setRange, List.set_cons_zero, List.set_cons_succ, Option.bind_eq_bind, Option.bind_some, Nat.zero_add, Nat.reduceAdd, and_self, Nat.reduceLeDiff, if_true, and_true, true_and, Nat.le_refl, Nat.zero_le, List.getElem?_cons_zero, List.getElem?_cons_succ, Option.map_some, ic110, bx_c ic110, cl_c ic110, ic111, bx_c ic111, cl_c ic111]
  have ic112 : (w8_0 : AVal).isCell = true := rTestT_cell r8_0
  have ic113 : (w9_0 : AVal).isCell = true := rTestT_cell r9_0
  have k114 : rTestT (TestT.mk 2 s.t8 s.t9 false 0 0 [] []) [.iptr [.int .i64 2, w8_0, w9_0, .bool false, .int .i64 0, .int .i64 0, .nilSl, .nilSl]] := ⟨w8_0, w9_0, .nilSl, .nilSl, rfl, r8_0, r9_0, Sl.nil, Sl.nil⟩
  cases hm
  refine ⟨⟨_, _⟩, by
      simp only [bodyOf, Tryz.f6, Cat, Bool.false_eq_true, e_seq, e_region, e_cond, e_block, ex_skip, ex_exit, ex_ret, o_cons, xops_nil, k_want_none, k_want_false, k_val, k_pan, k_call, k_ret, k_seq, k_seq_exit, k_seq_ret, k_true, k_false, k_block, k_block_exit, k_block_ret, k_loop, k_loop_exit, k_loop_ret, awanted, aoper, evalO, put, Option.getD_some, List.getElem?_set, acallOp, abuiltin, List.map_cons, List.map_nil, Nat.reduceEqDiff, Nat.reduceLT, List.length_set, Option.map_some, Option.bind_some, Option.bind_eq_bind, add_i, sub_i, mul_i, eql_i, neq_i, lss_i, leq_i, gtr_i, geq_i, ofV, ofCell, ↓reduceIte, List.cons_append, List.nil_append, List.append_nil, List.getElem?_toArray, List.getElem?_cons_succ, List.getElem?_cons_zero, e_draw, g_nil, g_cons, g_want, g_skip, g_val, g_call, g_ret, Option.map_none, hl, a5, a7, a8, a9, a10, a11, a12, a13, a14, CP, bq1, bq2, bq3, bq4, ex_tup, bd109, TyB.cb_parse_go_148, TyB.cb_parse_go_143, TyB.cb_parse_go_130, TyB.cb_ref_go_74, TyB.cb_ref_go_93, TyB.cb_law_go_119, TyB.cb_law_go_120, TyB.cb_law_go_121, TyB.cb_law_go_122, TyB.cb_law_go_123, TyB.cb_law_go_124, ic112, bx_c ic112, cl_c ic112, ic113, bx_c ic113, cl_c ic113, bx_a, cl_a, List.all_cons, List.all_nil, Bool.and_self, Bool.and_true, c_i, c_b, c_s, c_nl, c_np, c_ip, c_ls]
      exact rfl, ?_⟩
  show P6_6 _ _
  exact ⟨i5, w5_0, w5_1, w8_0, w9_0, w12_0, w13_0, w14_0, (.iptr [.int .i64 2, w8_0, w9_0, .bool false, .int .i64 0, .int .i64 0, .nilSl, .nilSl] : AVal), by simp [hl], by simp [a5], g5, l5, r5_0, r5_1, by simp [a7], by simp [a8], r8_0, by simp [a9], r9_0, by simp [a10], by simp [a11], by simp [a12], r12_0, by simp [a13], r13_0, by simp [a14], r14_0, by simp [hl], k114⟩
theorem R6_7 (pe : Nat → Fr6 → ASt → Prop) (pr : Fr6 → ASt → Prop) : Ref Cb P6_8 (Cat [true, true, true, true, true, true, true, true, true, false] (bodyOf Tryz.f6)) m6_7 (post P6_7 pe pr) := by
  rintro s ⟨t, h⟩ hp x s' hm
  have hp : P6_8' s t h := hp
  obtain ⟨i5, w5_0, w5_1, w8_0, w9_0, w12_0, w13_0, hl, a5, g5, l5, r5_0, r5_1, a7, a8, r8_0, a9, r9_0, a10, a11, a12, r12_0, a13, r13_0⟩ := hp
  unfold m6_7 at hm
  have ic122 : (w8_0 : AVal).isCell = true := rTestT_cell r8_0
  have ic123 : (w9_0 : AVal).isCell = true := rTestT_cell r9_0
  have bd121 : abuild Tryz.prog 57 [(0, .int .i64 1), (1, w8_0), (2, w9_0)] = some (.agg [.int .i64 1, w8_0, w9_0, .bool false, .int .i64 0, .int .i64 0, .nilSl, .nilSl]) := by simp only [TyB.bu57, List.getElem?_toArray, fillA, c_i, c_b, c_s, c_nl, c_np, c_ip, c_ls, bx_i, bx_b, bx_s, bx_a, bx_nl, bx_np, bx_ip, bx_ls, cl_i, cl_b, cl_s, cl_a, cl_nl, cl_np, cl_ip, cl_ls, List.all_cons, List.all_nil, List.length_cons, List.length_nil, Bool.and_self, Bool.and_true, setRange, List.set_cons_zero, List.set_cons_succ, Option.bind_eq_bind, Option.bind_some, Nat.zero_add, Nat.reduceAdd, and_self, Nat.reduceLeDiff, if_true, and_true, true_and, Nat.le_refl, Nat.zero_le, List.getElem?_cons_zero, List.getElem?_cons_succ, Option.map_some, ic122, bx_c ic122, cl_c ic122, ic123, bx_c ic123, cl_c ic123]
  have ic124 : (w8_0 : AVal).isCell = true := rTestT_cell r8_0
  have ic125 : (w9_0 : AVal).isCell = true := rTestT_cell r9_0
  have k126 : rTestT (TestT.mk 1 s.t8 s.t9 false 0 0 [] []) [.iptr [.int .i64 1, w8_0, w9_0, .bool false, .int .i64 0, .int .i64 0, .nilSl, .nilSl]] := ⟨w8_0, w9_0, .nilSl, .nilSl, rfl, r8_0, r9_0, Sl.nil, Sl.nil⟩
  cases hm
  refine ⟨⟨_, _⟩, by
      simp only [bodyOf, Tryz.f6, Cat, Bool.false_eq_true, e_seq, e_region, e_cond, e_block, ex_skip, ex_exit, ex_ret, o_cons, xops_nil, k_want_none, k_want_false, k_val, k_pan, k_call, k_ret, k_seq, k_seq_exit, k_seq_ret, k_true, k_false, k_block, k_block_exit, k_block_ret, k_loop, k_loop_exit, k_loop_ret, awanted, aoper, evalO, put, Option.getD_some, List.getElem?_set, acallOp, abuiltin, List.map_cons, List.map_nil, Nat.reduceEqDiff, Nat.reduceLT, List.length_set, Option.map_some, Option.bind_some, Option.bind_eq_bind, add_i, sub_i, mul_i, eql_i, neq_i, lss_i, leq_i, gtr_i, geq_i, ofV, ofCell, ↓reduceIte, List.cons_append, List.nil_append, List.append_nil, List.getElem?_toArray, List.getElem?_cons_succ, List.getElem?_cons_zero, e_draw, g_nil, g_cons, g_want, g_skip, g_val, g_call, g_ret, Option.map_none, hl, a5, a7, a8, a9, a10, a11, a12, a13, CP, bq1, bq2, bq3, bq4, ex_tup, bd121, TyB.cb_parse_go_148, TyB.cb_parse_go_143, TyB.cb_parse_go_130, TyB.cb_ref_go_74, TyB.cb_ref_go_93, TyB.cb_law_go_119, TyB.cb_law_go_120, TyB.cb_law_go_121, TyB.cb_law_go_122, TyB.cb_law_go_123, TyB.cb_law_go_124, ic124, bx_c ic124, cl_c ic124, ic125, bx_c ic125, cl_c ic125, bx_a, cl_a, List.all_cons, List.all_nil, Bool.and_self, Bool.and_true, c_i, c_b, c_s, c_nl, c_np, c_ip, c_ls]
      exact rfl, ?_⟩
  show P6_7 _ _
  exact ⟨i5, w5_0, w5_1, w8_0, w9_0, w12_0, w13_0, (.iptr [.int .i64 1, w8_0, w9_0, .bool false, .int .i64 0, .int .i64 0, .nilSl, .nilSl] : AVal), by simp [hl], by simp [a5], g5, l5, r5_0, r5_1, by simp [a7], by simp [a8], r8_0, by simp [a9], r9_0, by simp [a10], by simp [a11], by simp [a12], r12_0, by simp [a13], r13_0, by simp [hl], k126⟩
theorem R6_8 (pe : Nat → Fr6 → ASt → Prop) (pr : Fr6 → ASt → Prop) : Ref Cb P6_9 (Cat [true, true, true, true, true, true, true, true, false] (bodyOf Tryz.f6)) m6_8 (post P6_8 pe pr) := by
  rintro s ⟨t, h⟩ hp x s' hm
  have hp : P6_9' s t h := hp
  obtain ⟨i5, w5_0, w5_1, w8_0, w9_0, w12_0, hl, a5, g5, l5, r5_0, r5_1, a7, a8, r8_0, a9, r9_0, a10, a11, a12, r12_0⟩ := hp
  unfold m6_8 at hm
  have ic132 : (w9_0 : AVal).isCell = true := rTestT_cell r9_0
  have bd131 : abuild Tryz.prog 57 [(0, .int .i64 3), (1, w9_0)] = some (.agg [.int .i64 3, w9_0, .nilPtr, .bool false, .int .i64 0, .int .i64 0, .nilSl, .nilSl]) := by simp only [TyB.bu57, List.getElem?_toArray, fillA, c_i, c_b, c_s, c_nl, c_np, c_ip, c_ls, bx_i, bx_b, bx_s, bx_a, bx_nl, bx_np, bx_ip, bx_ls, cl_i, cl_b, cl_s, cl_a, cl_nl, cl_np, cl_ip, cl_ls, List.all_cons, List.all_nil, List.length_cons, List.length_nil, Bool.and_self, Bool.and_true, setRange, List.set_cons_zero, List.set_cons_succ, Option.bind_eq_bind, Option.bind_some, Nat.zero_add, Nat.reduceAdd, and_self, Nat.reduceLeDiff, if_true, and_true, true_and, Nat.le_refl, Nat.zero_le, List.getElem?_cons_zero, List.getElem?_cons_succ, Option.map_some, ic132, bx_c ic132, cl_c ic132]
  have ic133 : (w9_0 : AVal).isCell = true := rTestT_cell r9_0
  have k134 : rTestT (TestT.mk 3 s.t9 TestT.nil false 0 0 [] []) [.iptr [.int .i64 3, w9_0, .nilPtr, .bool false, .int .i64 0, .int .i64 0, .nilSl, .nilSl]] := ⟨w9_0, .nilPtr, .nilSl, .nilSl, rfl, r9_0, rfl, Sl.nil, Sl.nil⟩
  cases hm
  refine ⟨⟨_, _⟩, by
      simp only [bodyOf, Tryz.f6, Cat, Bool.false_eq_true, e_seq, e_region, e_cond, e_block, ex_skip, ex_exit, ex_ret, o_cons, xops_nil, k_want_none, k_want_false, k_val, k_pan, k_call, k_ret, k_seq, k_seq_exit, k_seq_ret, k_true, k_false, k_block, k_block_exit, k_block_ret, k_loop, k_loop_exit, k_loop_ret, awanted, aoper, evalO, put, Option.getD_some, List.getElem?_set, acallOp, abuiltin, List.map_cons, List.map_nil, Nat.reduceEqDiff, Nat.reduceLT, List.length_set, Option.map_some, Option.bind_some, Option.bind_eq_bind, add_i, sub_i, mul_i, eql_i, neq_i, lss_i, leq_i, gtr_i, geq_i, ofV, ofCell, ↓reduceIte, List.cons_append, List.nil_append, List.append_nil, List.getElem?_toArray, List.getElem?_cons_succ, List.getElem?_cons_zero, e_draw, g_nil, g_cons, g_want, g_skip, g_val, g_call, g_ret, Option.map_none, hl, a5, a7, a8, a9, a10, a11, a12, CP, bq1, bq2, bq3, bq4, ex_tup, bd131, TyB.cb_parse_go_148, TyB.cb_parse_go_143, TyB.cb_parse_go_130, TyB.cb_ref_go_74, TyB.cb_ref_go_93, TyB.cb_law_go_119, TyB.cb_law_go_120, TyB.cb_law_go_121, TyB.cb_law_go_122, TyB.cb_law_go_123, TyB.cb_law_go_124, ic133, bx_c ic133, cl_c ic133, bx_a, cl_a, List.all_cons, List.all_nil, Bool.and_self, Bool.and_true, c_i, c_b, c_s, c_nl, c_np, c_ip, c_ls]
      exact rfl, ?_⟩
  show P6_8 _ _
  exact ⟨i5, w5_0, w5_1, w8_0, w9_0, w12_0, (.iptr [.int .i64 3, w9_0, .nilPtr, .bool false, .int .i64 0, .int .i64 0, .nilSl, .nilSl] : AVal), by simp [hl], by simp [a5], g5, l5, r5_0, r5_1, by simp [a7], by simp [a8], r8_0, by simp [a9], r9_0, by simp [a10], by simp [a11], by simp [a12], r12_0, by simp [hl], k134⟩
theorem R6_9 (pe : Nat → Fr6 → ASt → Prop) (pr : Fr6 → ASt → Prop) : Ref Cb P6_10 (Cat [true, true, true, true, true, true, true, false] (bodyOf Tryz.f6)) m6_9 (post P6_9 pe pr) := by
  rintro s ⟨t, h⟩ hp x s' hm
  have hp : P6_10' s t h := hp
  obtain ⟨i5, w5_0, w5_1, w8_0, w9_0, hl, a5, g5, l5, r5_0, r5_1, a7, a8, r8_0, a9, r9_0, a10, a11⟩ := hp
  unfold m6_9 at hm
  have ic140 : (w8_0 : AVal).isCell = true := rTestT_cell r8_0
  have bd139 : abuild Tryz.prog 57 [(0, .int .i64 3), (1, w8_0)] = some (.agg [.int .i64 3, w8_0, .nilPtr, .bool false, .int .i64 0, .int .i64 0, .nilSl, .nilSl]) := by simp only [TyB.bu57, List.getElem?_toArray, fillA, c_i, c_b, c_s, c_nl, c_np, c_ip, c_ls, bx_i, bx_b, bx_s, bx_a, bx_nl, bx_np, bx_ip, bx_ls, cl_i, cl_b, cl_s, cl_a, cl_nl, cl_np, cl_ip, cl_ls, List.all_cons, List.all_nil, List.length_cons, List.length_nil, Bool.and_self, Bool.and_true, setRange, List.set_cons_zero, List.set_cons_succ, Option.bind_eq_bind, Option.bind_some, Nat.zero_add, Nat.reduceAdd, and_self, Nat.reduceLeDiff, if_true, and_true, true_and, Nat.le_refl, Nat.zero_le, List.getElem?_cons_zero, List.getElem?_cons_succ, Option.map_some, ic140, bx_c ic140, cl_c ic140]
  have ic141 : (w8_0 : AVal).isCell = true := rTestT_cell r8_0
  have k142 : rTestT (TestT.mk 3 s.t8 TestT.nil false 0 0 [] []) [.iptr [.int .i64 3, w8_0, .nilPtr, .bool false, .int .i64 0, .int .i64 0, .nilSl, .nilSl]] := ⟨w8_0, .nilPtr, .nilSl, .nilSl, rfl, r8_0, rfl, Sl.nil, Sl.nil⟩
  cases hm
  refine ⟨⟨_, _⟩, by
      simp only [bodyOf, Tryz.f6, Cat, Bool.false_eq_true, e_seq, e_region, e_cond, e_block, ex_skip, ex_exit, ex_ret, o_cons, xops_nil, k_want_none, k_want_false, k_val, k_pan, k_call, k_ret, k_seq, k_seq_exit, k_seq_ret, k_true, k_false, k_block, k_block_exit, k_block_ret, k_loop, k_loop_exit, k_loop_ret, awanted, aoper, evalO, put, Option.getD_some, List.getElem?_set, acallOp, abuiltin, List.map_cons, List.map_nil, Nat.reduceEqDiff, Nat.reduceLT, List.length_set, Option.map_some, Option.bind_some, Option.bind_eq_bind, add_i, sub_i, mul_i, eql_i, neq_i, lss_i, leq_i, gtr_i, geq_i, ofV, ofCell, ↓reduceIte, List.cons_append, List.nil_append, List.append_nil, List.getElem?_toArray, List.getElem?_cons_succ, List.getElem?_cons_zero, e_draw, g_nil, g_cons, g_want, g_skip, g_val, g_call, g_ret, Option.map_none, hl, a5, a7, a8, a9, a10, a11, CP, bq1, bq2, bq3, bq4, ex_tup, bd139, TyB.cb_parse_go_148, TyB.cb_parse_go_143, TyB.cb_parse_go_130, TyB.cb_ref_go_74, TyB.cb_ref_go_93, TyB.cb_law_go_119, TyB.cb_law_go_120, TyB.cb_law_go_121, TyB.cb_law_go_122, TyB.cb_law_go_123, TyB.cb_law_go_124, ic141, bx_c ic141, cl_c ic141, bx_a, cl_a, List.all_cons, List.all_nil, Bool.and_self, Bool.and_true, c_i, c_b, c_s, c_nl, c_np, c_ip, c_ls]
      exact rfl, ?_⟩
  show P6_9 _ _
  exact ⟨i5, w5_0, w5_1, w8_0, w9_0, (.iptr [.int .i64 3, w8_0, .nilPtr, .bool false, .int .i64 0, .int .i64 0, .nilSl, .nilSl] : AVal), by simp [hl], by simp [a5], g5, l5, r5_0, r5_1, by simp [a7], by simp [a8], r8_0, by simp [a9], r9_0, by simp [a10], by simp [a11], by simp [hl], k142⟩
theorem R6_10 (pe : Nat → Fr6 → ASt → Prop) (pr : Fr6 → ASt → Prop) : Ref Cb P6_11 (Cat [true, true, true, true, true, true, false] (bodyOf Tryz.f6)) m6_10 (post P6_10 pe pr) := by
  rintro s ⟨t, h⟩ hp x s' hm
  have hp : P6_11' s t h := hp
  obtain ⟨i5, w5_0, w5_1, w8_0, w9_0, hl, a5, g5, l5, r5_0, r5_1, a7, a8, r8_0, a9, r9_0, a10⟩ := hp
  unfold m6_10 at hm
  have k146 : loadA h true 2 (.ptr i5 0) = some (.agg [w5_0, w5_1]) := by rw [Heap.load_gen g5 (Nat.le_of_ble_eq_true rfl)]; first | rfl | exact ofc2 _ _ _
  obtain ⟨z147, hz147, hm⟩ := Option.bind_eq_some_iff.1 hm
  have iu148 := G21_spec s.t9 s.t5 _ r9_0 _ r5_0 _ r5_1 _ hz147
  cases hm
  refine ⟨⟨_, _⟩, by
      simp only [bodyOf, Tryz.f6, Cat, Bool.false_eq_true, e_seq, e_region, e_cond, e_block, ex_skip, ex_exit, ex_ret, o_cons, xops_nil, k_want_none, k_want_false, k_val, k_pan, k_call, k_ret, k_seq, k_seq_exit, k_seq_ret, k_true, k_false, k_block, k_block_exit, k_block_ret, k_loop, k_loop_exit, k_loop_ret, awanted, aoper, evalO, put, Option.getD_some, List.getElem?_set, acallOp, abuiltin, List.map_cons, List.map_nil, Nat.reduceEqDiff, Nat.reduceLT, List.length_set, Option.map_some, Option.bind_some, Option.bind_eq_bind, add_i, sub_i, mul_i, eql_i, neq_i, lss_i, leq_i, gtr_i, geq_i, ofV, ofCell, ↓reduceIte, List.cons_append, List.nil_append, List.append_nil, List.getElem?_toArray, List.getElem?_cons_succ, List.getElem?_cons_zero, e_draw, g_nil, g_cons, g_want, g_skip, g_val, g_call, g_ret, Option.map_none, hl, a5, a7, a8, a9, a10, CP, bq1, bq2, bq3, bq4, ex_tup, k146, TyB.ld53, iu148]
      exact rfl, ?_⟩
  show P6_10 _ _
  exact ⟨i5, w5_0, w5_1, w8_0, w9_0, by simp [hl], by simp [a5], g5, l5, r5_0, r5_1, by simp [a7], by simp [a8], r8_0, by simp [a9], r9_0, by simp [a10], by simp [hl]⟩
theorem R6_11 (pe : Nat → Fr6 → ASt → Prop) (pr : Fr6 → ASt → Prop) : Ref Cb P6_12 (Cat [true, true, true, true, true, false] (bodyOf Tryz.f6)) m6_11 (post P6_11 pe pr) := by
  rintro s ⟨t, h⟩ hp x s' hm
  have hp : P6_12' s t h := hp
  obtain ⟨i5, w5_0, w5_1, w8_0, w9_0, hl, a5, g5, l5, r5_0, r5_1, a7, a8, r8_0, a9, r9_0⟩ := hp
  unfold m6_11 at hm
  have k152 : loadA h true 2 (.ptr i5 0) = some (.agg [w5_0, w5_1]) := by rw [Heap.load_gen g5 (Nat.le_of_ble_eq_true rfl)]; first | rfl | exact ofc2 _ _ _
  obtain ⟨z153, hz153, hm⟩ := Option.bind_eq_some_iff.1 hm
  have iu154 := G21_spec s.t8 s.t5 _ r8_0 _ r5_0 _ r5_1 _ hz153
  cases hm
  refine ⟨⟨_, _⟩, by
      simp only [bodyOf, Tryz.f6, Cat, Bool.false_eq_true, e_seq, e_region, e_cond, e_block, ex_skip, ex_exit, ex_ret, o_cons, xops_nil, k_want_none, k_want_false, k_val, k_pan, k_call, k_ret, k_seq, k_seq_exit, k_seq_ret, k_true, k_false, k_block, k_block_exit, k_block_ret, k_loop, k_loop_exit, k_loop_ret, awanted, aoper, evalO, put, Option.getD_some, List.getElem?_set, acallOp, abuiltin, List.map_cons, List.map_nil, Nat.reduceEqDiff, Nat.reduceLT, List.length_set, Option.map_some, Option.bind_some, Option.bind_eq_bind, add_i, sub_i, mul_i, eql_i, neq_i, lss_i, leq_i, gtr_i, geq_i, ofV, ofCell, ↓reduceIte, List.cons_append, List.nil_append, List.append_nil, List.getElem?_toArray, List.getElem?_cons_succ, List.getElem?_cons_zero, e_draw, g_nil, g_cons, g_want, g_skip, g_val, g_call, g_ret, Option.map_none, hl, a5, a7, a8, a9, CP, bq1, bq2, bq3, bq4, ex_tup, k152, TyB.ld53, iu154]
      exact rfl, ?_⟩
  show P6_11 _ _
  exact ⟨i5, w5_0, w5_1, w8_0, w9_0, by simp [hl], by simp [a5], g5, l5, r5_0, r5_1, by simp [a7], by simp [a8], r8_0, by simp [a9], r9_0, by simp [hl]⟩
theorem R6_12 (pe : Nat → Fr6 → ASt → Prop) (pr : Fr6 → ASt → Prop) : Ref Cb P6_13 (Cat [true, true, true, true, false, true, false, false] (bodyOf Tryz.f6)) m6_12 (post P6_1 pe pr) := by
  rintro s ⟨t, h⟩ hp x s' hm
  have hp : P6_13' s t h := hp
  obtain ⟨hl, a7⟩ := hp
  unfold m6_12 at hm
  cases hm
  refine ⟨⟨_, _⟩, by
      simp only [bodyOf, Tryz.f6, Cat, Bool.false_eq_true, e_seq, e_region, e_cond, e_block, ex_skip, ex_exit, ex_ret, o_cons, xops_nil, k_want_none, k_want_false, k_val, k_pan, k_call, k_ret, k_seq, k_seq_exit, k_seq_ret, k_true, k_false, k_block, k_block_exit, k_block_ret, k_loop, k_loop_exit, k_loop_ret, awanted, aoper, evalO, put, Option.getD_some, List.getElem?_set, acallOp, abuiltin, List.map_cons, List.map_nil, Nat.reduceEqDiff, Nat.reduceLT, List.length_set, Option.map_some, Option.bind_some, Option.bind_eq_bind, add_i, sub_i, mul_i, eql_i, neq_i, lss_i, leq_i, gtr_i, geq_i, ofV, ofCell, ↓reduceIte, List.cons_append, List.nil_append, List.append_nil, List.getElem?_toArray, List.getElem?_cons_succ, List.getElem?_cons_zero, e_draw, g_nil, g_cons, g_want, g_skip, g_val, g_call, g_ret, Option.map_none, hl, a7, CP, bq1, bq2, bq3, bq4, ex_tup]
      exact rfl, ?_⟩
  show P6_1 _ _
  exact ⟨by simp [hl], by simp [hl]⟩
theorem R6_13 (pe : Nat → Fr6 → ASt → Prop) (pr : Fr6 → ASt → Prop) : Ref Cb P6_12 (Cat [true, true, true, true, false, false] (bodyOf Tryz.f6)) m6_13 (post P6_14 pe pr) := by
  rintro s ⟨t, h⟩ hp x s' hm
  have hp : P6_12' s t h := hp
  obtain ⟨i5, w5_0, w5_1, w8_0, w9_0, hl, a5, g5, l5, r5_0, r5_1, a7, a8, r8_0, a9, r9_0⟩ := hp
  unfold m6_13 at hm
  cases hb161 : s.t8.isNil with
  | true =>
    all_goals (
      try simp only [hb161, cond_true, cond_false, Option.bind_some, Option.bind_assoc, Bool.not_true, Bool.not_false, Bool.true_and, Bool.false_and, Bool.and_true, Bool.and_false, Bool.true_or, Bool.false_or] at hm
      obtain ⟨_, qz162⟩ | ⟨qz162, _⟩ := rTestT_nil r8_0
      rotate_left
      · rw [hb161] at qz162; cases qz162
      have z162 : ∀ (xo : Operand) (h : AHeap), abin Cb .eql 32 xo (.const (.pointer none)) h (w8_0) .nilPtr = some (.bool true) := fun xo h => by rw [qz162]; exact TyB.eqn32 xo h
      cases hm
      refine ⟨⟨_, _⟩, by
          simp only [bodyOf, Tryz.f6, Cat, Bool.false_eq_true, e_seq, e_region, e_cond, e_block, ex_skip, ex_exit, ex_ret, o_cons, xops_nil, k_want_none, k_want_false, k_val, k_pan, k_call, k_ret, k_seq, k_seq_exit, k_seq_ret, k_true, k_false, k_block, k_block_exit, k_block_ret, k_loop, k_loop_exit, k_loop_ret, awanted, aoper, evalO, put, Option.getD_some, List.getElem?_set, acallOp, abuiltin, List.map_cons, List.map_nil, Nat.reduceEqDiff, Nat.reduceLT, List.length_set, Option.map_some, Option.bind_some, Option.bind_eq_bind, add_i, sub_i, mul_i, eql_i, neq_i, lss_i, leq_i, gtr_i, geq_i, ofV, ofCell, ↓reduceIte, List.cons_append, List.nil_append, List.append_nil, List.getElem?_toArray, List.getElem?_cons_succ, List.getElem?_cons_zero, e_draw, g_nil, g_cons, g_want, g_skip, g_val, g_call, g_ret, Option.map_none, hl, a5, a7, a8, a9, CP, bq1, bq2, bq3, bq4, ex_tup, z162, hb161]
          exact rfl, ?_⟩
      show P6_14 _ _
      exact ⟨i5, w5_0, w5_1, w8_0, w9_0, by simp [hl], by simp [a5], g5, l5, r5_0, r5_1, by simp [a7], by simp [a8], r8_0, by simp [a9], r9_0, by simp [hl, hb161]⟩)
  | false =>
    all_goals (
      try simp only [hb161, cond_true, cond_false, Option.bind_some, Option.bind_assoc, Bool.not_true, Bool.not_false, Bool.true_and, Bool.false_and, Bool.and_true, Bool.and_false, Bool.true_or, Bool.false_or] at hm
      obtain ⟨qz163, _⟩ | ⟨_, csz163, qz163⟩ := rTestT_nil r8_0
      · rw [hb161] at qz163; cases qz163
      have z163 : ∀ (xo yo : Operand) (h : AHeap), abin Cb .eql 32 xo yo h (w8_0) .nilPtr = some (.bool false) := fun xo yo h => by rw [qz163]; exact TyB.eqp32 xo yo h _
      clear qz163
      cases hb164 : s.t9.isNil with
      | true =>
        all_goals (
          try simp only [hb164, cond_true, cond_false, Option.bind_some, Option.bind_assoc, Bool.not_true, Bool.not_false, Bool.true_and, Bool.false_and, Bool.and_true, Bool.and_false, Bool.true_or, Bool.false_or] at hm
          obtain ⟨_, qz165⟩ | ⟨qz165, _⟩ := rTestT_nil r9_0
          rotate_left
          · rw [hb164] at qz165; cases qz165
          have z165 : ∀ (xo : Operand) (h : AHeap), abin Cb .eql 32 xo (.const (.pointer none)) h (w9_0) .nilPtr = some (.bool true) := fun xo h => by rw [qz165]; exact TyB.eqn32 xo h
          cases hm
          refine ⟨⟨_, _⟩, by
              simp only [bodyOf, Tryz.f6, Cat, Bool.false_eq_true, e_seq, e_region, e_cond, e_block, ex_skip, ex_exit, ex_ret, o_cons, xops_nil, k_want_none, k_want_false, k_val, k_pan, k_call, k_ret, k_seq, k_seq_exit, k_seq_ret, k_true, k_false, k_block, k_block_exit, k_block_ret, k_loop, k_loop_exit, k_loop_ret, awanted, aoper, evalO, put, Option.getD_some, List.getElem?_set, acallOp, abuiltin, List.map_cons, List.map_nil, Nat.reduceEqDiff, Nat.reduceLT, List.length_set, Option.map_some, Option.bind_some, Option.bind_eq_bind, add_i, sub_i, mul_i, eql_i, neq_i, lss_i, leq_i, gtr_i, geq_i, ofV, ofCell, ↓reduceIte, List.cons_append, List.nil_append, List.append_nil, List.getElem?_toArray, List.getElem?_cons_succ, List.getElem?_cons_zero, e_draw, g_nil, g_cons, g_want, g_skip, g_val, g_call, g_ret, Option.map_none, hl, a5, a7, a8, a9, CP, bq1, bq2, bq3, bq4, ex_tup, z163, z165, hb161, hb164]
              exact rfl, ?_⟩
          show P6_14 _ _
          exact ⟨i5, w5_0, w5_1, w8_0, w9_0, by simp [hl], by simp [a5], g5, l5, r5_0, r5_1, by simp [a7], by simp [a8], r8_0, by simp [a9], r9_0, by simp [hl, hb161, hb164]⟩)
      | false =>
        all_goals (
          try simp only [hb164, cond_true, cond_false, Option.bind_some, Option.bind_assoc, Bool.not_true, Bool.not_false, Bool.true_and, Bool.false_and, Bool.and_true, Bool.and_false, Bool.true_or, Bool.false_or] at hm
          obtain ⟨qz166, _⟩ | ⟨_, csz166, qz166⟩ := rTestT_nil r9_0
          · rw [hb164] at qz166; cases qz166
          have z166 : ∀ (xo yo : Operand) (h : AHeap), abin Cb .eql 32 xo yo h (w9_0) .nilPtr = some (.bool false) := fun xo yo h => by rw [qz166]; exact TyB.eqp32 xo yo h _
          clear qz166
          obtain ⟨z167, hz167, hm⟩ := Option.bind_eq_some_iff.1 hm
          have iu168 := (F20_spec 5000) s.t8 900 _ r8_0 _ hz167
          try simp only [cond_true, cond_false, Option.bind_some, Option.bind_assoc, Bool.not_true, Bool.not_false, Bool.true_and, Bool.false_and, Bool.and_true, Bool.and_false, Bool.true_or, Bool.false_or] at hm
          cases hb169 : decide (z167 ≥ 900) with
          | true =>
            all_goals (
              try simp only [hb169, cond_true, cond_false, Option.bind_some, Option.bind_assoc, Bool.not_true, Bool.not_false, Bool.true_and, Bool.false_and, Bool.and_true, Bool.and_false, Bool.true_or, Bool.false_or] at hm
              cases hm
              refine ⟨⟨_, _⟩, by
                  simp only [bodyOf, Tryz.f6, Cat, Bool.false_eq_true, e_seq, e_region, e_cond, e_block, ex_skip, ex_exit, ex_ret, o_cons, xops_nil, k_want_none, k_want_false, k_val, k_pan, k_call, k_ret, k_seq, k_seq_exit, k_seq_ret, k_true, k_false, k_block, k_block_exit, k_block_ret, k_loop, k_loop_exit, k_loop_ret, awanted, aoper, evalO, put, Option.getD_some, List.getElem?_set, acallOp, abuiltin, List.map_cons, List.map_nil, Nat.reduceEqDiff, Nat.reduceLT, List.length_set, Option.map_some, Option.bind_some, Option.bind_eq_bind, add_i, sub_i, mul_i, eql_i, neq_i, lss_i, leq_i, gtr_i, geq_i, ofV, ofCell, ↓reduceIte, List.cons_append, List.nil_append, List.append_nil, List.getElem?_toArray, List.getElem?_cons_succ, List.getElem?_cons_zero, e_draw, g_nil, g_cons, g_want, g_skip, g_val, g_call, g_ret, Option.map_none, hl, a5, a7, a8, a9, CP, bq1, bq2, bq3, bq4, ex_tup, z163, z166, iu168, hb161, hb164, hb169]
                  exact rfl, ?_⟩
              show P6_14 _ _
              exact ⟨i5, w5_0, w5_1, w8_0, w9_0, by simp [hl], by simp [a5], g5, l5, r5_0, r5_1, by simp [a7], by simp [a8], r8_0, by simp [a9], r9_0, by simp [hl, hb161, hb164, hb169]⟩)
          | false =>
            all_goals (
              try simp only [hb169, cond_true, cond_false, Option.bind_some, Option.bind_assoc, Bool.not_true, Bool.not_false, Bool.true_and, Bool.false_and, Bool.and_true, Bool.and_false, Bool.true_or, Bool.false_or] at hm
              obtain ⟨z170, hz170, hm⟩ := Option.bind_eq_some_iff.1 hm
              have iu171 := (F20_spec 5000) s.t9 900 _ r9_0 _ hz170
              try simp only [cond_true, cond_false, Option.bind_some, Option.bind_assoc, Bool.not_true, Bool.not_false, Bool.true_and, Bool.false_and, Bool.and_true, Bool.and_false, Bool.true_or, Bool.false_or] at hm
              cases hm
              refine ⟨⟨_, _⟩, by
                  simp only [bodyOf, Tryz.f6, Cat, Bool.false_eq_true, e_seq, e_region, e_cond, e_block, ex_skip, ex_exit, ex_ret, o_cons, xops_nil, k_want_none, k_want_false, k_val, k_pan, k_call, k_ret, k_seq, k_seq_exit, k_seq_ret, k_true, k_false, k_block, k_block_exit, k_block_ret, k_loop, k_loop_exit, k_loop_ret, awanted, aoper, evalO, put, Option.getD_some, List.getElem?_set, acallOp, abuiltin, List.map_cons, List.map_nil, Nat.reduceEqDiff, Nat.reduceLT, List.length_set, Option.map_some, Option.bind_some, Option.bind_eq_bind, add_i, sub_i, mul_i, eql_i, neq_i, lss_i, leq_i, gtr_i, geq_i, ofV, ofCell, ↓reduceIte, List.cons_append, List.nil_append, List.append_nil, List.getElem?_toArray, List.getElem?_cons_succ, List.getElem?_cons_zero, e_draw, g_nil, g_cons, g_want, g_skip, g_val, g_call, g_ret, Option.map_none, hl, a5, a7, a8, a9, CP, bq1, bq2, bq3, bq4, ex_tup, z163, z166, iu168, iu171, hb161, hb164, hb169]
                  exact rfl, ?_⟩
              show P6_14 _ _
              exact ⟨i5, w5_0, w5_1, w8_0, w9_0, by simp [hl], by simp [a5], g5, l5, r5_0, r5_1, by simp [a7], by simp [a8], r8_0, by simp [a9], r9_0, by simp [hl, hb161, hb164, hb169]⟩)))
theorem R6_14 (pe : Nat → Fr6 → ASt → Prop) (pr : Fr6 → ASt → Prop) : Ref Cb P6_15 (Cat [true, true, true, false] (bodyOf Tryz.f6)) m6_14 (post P6_12 pe pr) := by
  rintro s ⟨t, h⟩ hp x s' hm
  have hp : P6_15' s t h := hp
  obtain ⟨i4, w4_0, w4_1, w4_2, w4_3, i5, w5_0, w5_1, w8_0, hl, a4, g4, l4, r4_0, r4_1, r4_2, r4_3, a5, g5, l5, r5_0, r5_1, a7, a8, r8_0, ne4_5⟩ := hp
  unfold m6_14 at hm
  have k173 : loadA h false 1 (.ptr i4 2) = some w4_2 := by rw [Heap.load_gen g4 (Nat.le_of_ble_eq_true rfl)]; first | rfl | exact ofc1 _ _ _
  cases hm
  refine ⟨⟨_, _⟩, by
      simp only [bodyOf, Tryz.f6, Cat, Bool.false_eq_true, e_seq, e_region, e_cond, e_block, ex_skip, ex_exit, ex_ret, o_cons, xops_nil, k_want_none, k_want_false, k_val, k_pan, k_call, k_ret, k_seq, k_seq_exit, k_seq_ret, k_true, k_false, k_block, k_block_exit, k_block_ret, k_loop, k_loop_exit, k_loop_ret, awanted, aoper, evalO, put, Option.getD_some, List.getElem?_set, acallOp, abuiltin, List.map_cons, List.map_nil, Nat.reduceEqDiff, Nat.reduceLT, List.length_set, Option.map_some, Option.bind_some, Option.bind_eq_bind, add_i, sub_i, mul_i, eql_i, neq_i, lss_i, leq_i, gtr_i, geq_i, ofV, ofCell, ↓reduceIte, List.cons_append, List.nil_append, List.append_nil, List.getElem?_toArray, List.getElem?_cons_succ, List.getElem?_cons_zero, e_draw, g_nil, g_cons, g_want, g_skip, g_val, g_call, g_ret, Option.map_none, hl, a4, a5, a7, a8, CP, bq1, bq2, bq3, bq4, ex_tup, TyB.fa35_2, dropCells, Nat.zero_add, Nat.reduceAdd, k173, TyB.ld32]
      exact rfl, ?_⟩
  show P6_12 _ _
  exact ⟨i5, w5_0, w5_1, w8_0, w4_2, by simp [hl], by simp [a5], g5, l5, r5_0, r5_1, by simp [a7], by simp [a8], r8_0, by simp [hl], r4_2⟩
theorem R6_15 (pe : Nat → Fr6 → ASt → Prop) (pr : Fr6 → ASt → Prop) : Ref Cb P6_16 (Cat [true, true, false] (bodyOf Tryz.f6)) m6_15 (post P6_15 pe pr) := by
  rintro s ⟨t, h⟩ hp x s' hm
  have hp : P6_16' s t h := hp
  obtain ⟨i3, w3_0, w3_1, w3_2, w3_3, i4, w4_0, w4_1, w4_2, w4_3, i5, w5_0, w5_1, hl, a3, g3, l3, r3_0, r3_1, r3_2, r3_3, a4, g4, l4, r4_0, r4_1, r4_2, r4_3, a5, g5, l5, r5_0, r5_1, a7, ne3_4, ne3_5, ne4_5⟩ := hp
  unfold m6_15 at hm
  have k175 : loadA h false 1 (.ptr i3 2) = some w3_2 := by rw [Heap.load_gen g3 (Nat.le_of_ble_eq_true rfl)]; first | rfl | exact ofc1 _ _ _
  cases hm
  refine ⟨⟨_, _⟩, by
      simp only [bodyOf, Tryz.f6, Cat, Bool.false_eq_true, e_seq, e_region, e_cond, e_block, ex_skip, ex_exit, ex_ret, o_cons, xops_nil, k_want_none, k_want_false, k_val, k_pan, k_call, k_ret, k_seq, k_seq_exit, k_seq_ret, k_true, k_false, k_block, k_block_exit, k_block_ret, k_loop, k_loop_exit, k_loop_ret, awanted, aoper, evalO, put, Option.getD_some, List.getElem?_set, acallOp, abuiltin, List.map_cons, List.map_nil, Nat.reduceEqDiff, Nat.reduceLT, List.length_set, Option.map_some, Option.bind_some, Option.bind_eq_bind, add_i, sub_i, mul_i, eql_i, neq_i, lss_i, leq_i, gtr_i, geq_i, ofV, ofCell, ↓reduceIte, List.cons_append, List.nil_append, List.append_nil, List.getElem?_toArray, List.getElem?_cons_succ, List.getElem?_cons_zero, e_draw, g_nil, g_cons, g_want, g_skip, g_val, g_call, g_ret, Option.map_none, hl, a3, a4, a5, a7, CP, bq1, bq2, bq3, bq4, ex_tup, TyB.fa35_2, dropCells, Nat.zero_add, Nat.reduceAdd, k175, TyB.ld32]
      exact rfl, ?_⟩
  show P6_15 _ _
  exact ⟨i4, w4_0, w4_1, w4_2, w4_3, i5, w5_0, w5_1, w3_2, by simp [hl], by simp [a4], g4, l4, r4_0, r4_1, r4_2, r4_3, by simp [a5], g5, l5, r5_0, r5_1, by simp [a7], by simp [hl], r3_2, ne4_5⟩
theorem R6_16 (pe : Nat → Fr6 → ASt → Prop) (pr : Fr6 → ASt → Prop) : Ref Cb P6_17 (Cat [true, false] (bodyOf Tryz.f6)) m6_16 (post P6_16 pe pr) := by
  rintro s ⟨t, h⟩ hp x s' hm
  have hp : P6_17' s t h := hp
  obtain ⟨i3, w3_0, w3_1, w3_2, w3_3, i4, w4_0, w4_1, w4_2, w4_3, i5, w5_0, w5_1, hl, a3, g3, l3, r3_0, r3_1, r3_2, r3_3, a4, g4, l4, r4_0, r4_1, r4_2, r4_3, a5, g5, l5, r5_0, r5_1, ne3_4, ne3_5, ne4_5⟩ := hp
  unfold m6_16 at hm
  obtain ⟨z178, hz178, hm⟩ := Option.bind_eq_some_iff.1 hm
  have iu179 := S9_spec   _ hz178
  cases hm
  refine ⟨⟨_, _⟩, by
      simp only [bodyOf, Tryz.f6, Cat, Bool.false_eq_true, e_seq, e_region, e_cond, e_block, ex_skip, ex_exit, ex_ret, o_cons, xops_nil, k_want_none, k_want_false, k_val, k_pan, k_call, k_ret, k_seq, k_seq_exit, k_seq_ret, k_true, k_false, k_block, k_block_exit, k_block_ret, k_loop, k_loop_exit, k_loop_ret, awanted, aoper, evalO, put, Option.getD_some, List.getElem?_set, acallOp, abuiltin, List.map_cons, List.map_nil, Nat.reduceEqDiff, Nat.reduceLT, List.length_set, Option.map_some, Option.bind_some, Option.bind_eq_bind, add_i, sub_i, mul_i, eql_i, neq_i, lss_i, leq_i, gtr_i, geq_i, ofV, ofCell, ↓reduceIte, List.cons_append, List.nil_append, List.append_nil, List.getElem?_toArray, List.getElem?_cons_succ, List.getElem?_cons_zero, e_draw, g_nil, g_cons, g_want, g_skip, g_val, g_call, g_ret, Option.map_none, hl, a3, a4, a5, CP, bq1, bq2, bq3, bq4, ex_tup, iu179]
      exact rfl, ?_⟩
  show P6_16 _ _
  exact ⟨i3, w3_0, w3_1, w3_2, w3_3, i4, w4_0, w4_1, w4_2, w4_3, i5, w5_0, w5_1, by simp [hl], by simp [a3], g3, l3, r3_0, r3_1, r3_2, r3_3, by simp [a4], g4, l4, r4_0, r4_1, r4_2, r4_3, by simp [a5], g5, l5, r5_0, r5_1, by simp [hl], ne3_4, ne3_5, ne4_5⟩
theorem R6_17 (pe : Nat → Fr6 → ASt → Prop) (pr : Fr6 → ASt → Prop) : Ref Cb P6_18 (Cat [false] (bodyOf Tryz.f6)) m6_17 (post P6_17 pe pr) := by
  rintro s ⟨t, h⟩ hp x s' hm
  have hp : P6_18' s t h := hp
  obtain ⟨w0_0, w0_1, w0_2, w0_3, w1_0, w1_1, w1_2, w1_3, w2_0, w2_1, hl, a0, r0_0, r0_1, r0_2, r0_3, a1, r1_0, r1_1, r1_2, r1_3, a2, r2_0, r2_1⟩ := hp
  unfold m6_17 at hm
  obtain ⟨H214, eH214⟩ : ∃ x : AHeap, x = h.new (.arr [w0_0, w0_1, w0_2, w0_3]) := ⟨_, rfl⟩
  obtain ⟨id215, eid215⟩ : ∃ x : Nat, x = h.next := ⟨_, rfl⟩
  have k216 : H214.get id215 = some (.arr [w0_0, w0_1, w0_2, w0_3]) := by rw [eH214, eid215]; exact Heap.get_new_eq
  have k217 : id215 < H214.next := by rw [eH214, eid215, Heap.new_next]; exact Nat.lt_succ_self _
  have ic218 : (w0_0 : AVal).isCell = true := Sl.isCell r0_0
  have ic219 : (w0_1 : AVal).isCell = true := Sl.isCell r0_1
  have ic220 : (w0_2 : AVal).isCell = true := rTestT_cell r0_2
  have ic221 : (w0_3 : AVal).isCell = true := Sl.isCell r0_3
  have k222 : abox h (.agg [w0_0, w0_1, w0_2, w0_3]) = some (.ptr id215 0, H214) := by simp only [abox, eH214, eid215, bx_i, bx_b, bx_s, bx_a, bx_nl, bx_np, bx_ip, bx_ls, cl_i, cl_b, cl_s, cl_a, cl_nl, cl_np, cl_ip, cl_ls, List.all_cons, List.all_nil, Bool.and_self, Bool.and_true, c_i, c_b, c_s, c_nl, c_np, c_ip, c_ls, if_true, ic218, bx_c ic218, cl_c ic218, ic219, bx_c ic219, cl_c ic219, ic220, bx_c ic220, cl_c ic220, ic221, bx_c ic221, cl_c ic221]
  obtain ⟨H223, eH223⟩ : ∃ x : AHeap, x = H214.new (.arr [w1_0, w1_1, w1_2, w1_3]) := ⟨_, rfl⟩
  obtain ⟨id224, eid224⟩ : ∃ x : Nat, x = H214.next := ⟨_, rfl⟩
  have k225 : H223.get id215 = some (.arr [w0_0, w0_1, w0_2, w0_3]) := by rw [eH223, Heap.get_new_lt k217]; exact k216
  have k226 : id215 < H223.next := by rw [eH223, Heap.new_next]; exact Nat.lt_succ_of_lt k217
  have k227 : H223.get id224 = some (.arr [w1_0, w1_1, w1_2, w1_3]) := by rw [eH223, eid224]; exact Heap.get_new_eq
  have k228 : id224 < H223.next := by rw [eH223, eid224, Heap.new_next]; exact Nat.lt_succ_self _
  have k229 : id215 ≠ id224 := by rw [eid224]; exact Nat.ne_of_lt k217
  have ic230 : (w1_0 : AVal).isCell = true := Sl.isCell r1_0
  have ic231 : (w1_1 : AVal).isCell = true := Sl.isCell r1_1
  have ic232 : (w1_2 : AVal).isCell = true := rTestT_cell r1_2
  have ic233 : (w1_3 : AVal).isCell = true := Sl.isCell r1_3
  have k234 : abox H214 (.agg [w1_0, w1_1, w1_2, w1_3]) = some (.ptr id224 0, H223) := by simp only [abox, eH223, eid224, bx_i, bx_b, bx_s, bx_a, bx_nl, bx_np, bx_ip, bx_ls, cl_i, cl_b, cl_s, cl_a, cl_nl, cl_np, cl_ip, cl_ls, List.all_cons, List.all_nil, Bool.and_self, Bool.and_true, c_i, c_b, c_s, c_nl, c_np, c_ip, c_ls, if_true, ic230, bx_c ic230, cl_c ic230, ic231, bx_c ic231, cl_c ic231, ic232, bx_c ic232, cl_c ic232, ic233, bx_c ic233, cl_c ic233]
  obtain ⟨H235, eH235⟩ : ∃ x : AHeap, x = H223.new (.arr [w2_0, w2_1]) := ⟨_, rfl⟩
  obtain ⟨id236, eid236⟩ : ∃ x : Nat, x = H223.next := ⟨_, rfl⟩
  have k237 : H235.get id215 = some (.arr [w0_0, w0_1, w0_2, w0_3]) := by rw [eH235, Heap.get_new_lt k226]; exact k225
  have k238 : id215 < H235.next := by rw [eH235, Heap.new_next]; exact Nat.lt_succ_of_lt k226
  have k239 : H235.get id224 = some (.arr [w1_0, w1_1, w1_2, w1_3]) := by rw [eH235, Heap.get_new_lt k228]; exact k227
  have k240 : id224 < H235.next := by rw [eH235, Heap.new_next]; exact Nat.lt_succ_of_lt k228
  have k241 : H235.get id236 = some (.arr [w2_0, w2_1]) := by rw [eH235, eid236]; exact Heap.get_new_eq
  have k242 : id236 < H235.next := by rw [eH235, eid236, Heap.new_next]; exact Nat.lt_succ_self _
  have k243 : id215 ≠ id236 := by rw [eid236]; exact Nat.ne_of_lt k226
  have k244 : id224 ≠ id236 := by rw [eid236]; exact Nat.ne_of_lt k228
  have ic245 : (w2_0 : AVal).isCell = true := Sl.isCell r2_0
  have ic246 : (w2_1 : AVal).isCell = true := Sl.isCell r2_1
  have k247 : abox H223 (.agg [w2_0, w2_1]) = some (.ptr id236 0, H235) := by simp only [abox, eH235, eid236, bx_i, bx_b, bx_s, bx_a, bx_nl, bx_np, bx_ip, bx_ls, cl_i, cl_b, cl_s, cl_a, cl_nl, cl_np, cl_ip, cl_ls, List.all_cons, List.all_nil, Bool.and_self, Bool.and_true, c_i, c_b, c_s, c_nl, c_np, c_ip, c_ls, if_true, ic245, bx_c ic245, cl_c ic245, ic246, bx_c ic246, cl_c ic246]
  cases hm
  refine ⟨⟨_, _⟩, by
      simp only [bodyOf, Tryz.f6, Cat, Bool.false_eq_true, e_seq, e_region, e_cond, e_block, ex_skip, ex_exit, ex_ret, o_cons, xops_nil, k_want_none, k_want_false, k_val, k_pan, k_call, k_ret, k_seq, k_seq_exit, k_seq_ret, k_true, k_false, k_block, k_block_exit, k_block_ret, k_loop, k_loop_exit, k_loop_ret, awanted, aoper, evalO, put, Option.getD_some, List.getElem?_set, acallOp, abuiltin, List.map_cons, List.map_nil, Nat.reduceEqDiff, Nat.reduceLT, List.length_set, Option.map_some, Option.bind_some, Option.bind_eq_bind, add_i, sub_i, mul_i, eql_i, neq_i, lss_i, leq_i, gtr_i, geq_i, ofV, ofCell, ↓reduceIte, List.cons_append, List.nil_append, List.append_nil, List.getElem?_toArray, List.getElem?_cons_succ, List.getElem?_cons_zero, e_draw, g_nil, g_cons, g_want, g_skip, g_val, g_call, g_ret, Option.map_none, hl, a0, a1, a2, CP, bq1, bq2, bq3, bq4, ex_tup, TyB.nc_law_go_110, TyB.own_law_go_110, k222, k234, k247]
      exact rfl, ?_⟩
  show P6_17 _ _
  exact ⟨id215, w0_0, w0_1, w0_2, w0_3, id224, w1_0, w1_1, w1_2, w1_3, id236, w2_0, w2_1, by simp [hl], by simp [hl], k237, k238, r0_0, r0_1, r0_2, r0_3, by simp [hl], k239, k240, r1_0, r1_1, r1_2, r1_3, by simp [hl], k241, k242, r2_0, r2_1, k229, k243, k244⟩
theorem B6 : Ref Cb P6_18 (bodyOf Tryz.f6) (M6) (post P6_1 (fun _ _ _ => False) P6_1) := by
  rw [show bodyOf Tryz.f6 = .seq (Cat [false] (bodyOf Tryz.f6)) (.seq (Cat [true, false] (bodyOf Tryz.f6)) (.seq (Cat [true, true, false] (bodyOf Tryz.f6)) (.seq (Cat [true, true, true, false] (bodyOf Tryz.f6)) (.seq (.seq (Cat [true, true, true, true, false, false] (bodyOf Tryz.f6)) (.cond (.tmp 44) (.seq (Cat [true, true, true, true, false, true, false, false] (bodyOf Tryz.f6)) (.ret)) (.skip))) (.seq (Cat [true, true, true, true, true, false] (bodyOf Tryz.f6)) (.seq (Cat [true, true, true, true, true, true, false] (bodyOf Tryz.f6)) (.seq (Cat [true, true, true, true, true, true, true, false] (bodyOf Tryz.f6)) (.seq (Cat [true, true, true, true, true, true, true, true, false] (bodyOf Tryz.f6)) (.seq (Cat [true, true, true, true, true, true, true, true, true, false] (bodyOf Tryz.f6)) (.seq (Cat [true, true, true, true, true, true, true, true, true, true, false] (bodyOf Tryz.f6)) (.seq (Cat [true, true, true, true, true, true, true, true, true, true, true, false] (bodyOf Tryz.f6)) (.seq (Cat [true, true, true, true, true, true, true, true, true, true, true, true, false] (bodyOf Tryz.f6)) (.seq (Cat [true, true, true, true, true, true, true, true, true, true, true, true, true, false] (bodyOf Tryz.f6)) (.seq (Cat [true, true, true, true, true, true, true, true, true, true, true, true, true, true, false] (bodyOf Tryz.f6)) (.seq (Cat [true, true, true, true, true, true, true, true, true, true, true, true, true, true, true, false] (bodyOf Tryz.f6)) (.seq (Cat [true, true, true, true, true, true, true, true, true, true, true, true, true, true, true, true, false] (bodyOf Tryz.f6)) (.ret))))))))))))))))) from rfl]
  unfold M6
  exact ref_seq (M := P6_17) (R6_17 _ _) (ref_seq (M := P6_16) (R6_16 _ _) (ref_seq (M := P6_15) (R6_15 _ _) (ref_seq (M := P6_12) (R6_14 _ _) (ref_seq (M := P6_12) (ref_seq (M := P6_14) (R6_13 _ _) (ref_cond (P := P6_14) (c := fun s => s.t44) (fun s st hp => by obtain ⟨i5, w5_0, w5_1, w8_0, w9_0, hl, a5, g5, l5, r5_0, r5_1, a7, a8, r8_0, a9, r9_0, a44⟩ := (hp : P6_14' s st.tmps st.h); simp only [evalO, a44, Option.getD_some]) (ref_weak (P' := P6_13) (fun s st hp => by obtain ⟨i5, w5_0, w5_1, w8_0, w9_0, hl, a5, g5, l5, r5_0, r5_1, a7, a8, r8_0, a9, r9_0, a44⟩ := (hp : P6_14' s st.tmps st.h); exact (⟨hl, a7⟩ : P6_13' s st.tmps st.h)) (ref_seq (M := P6_1) (R6_12 _ _) (ref_ret (fun s st hp => hp)))) (ref_weak (P' := P6_12) (fun s st hp => by obtain ⟨i5, w5_0, w5_1, w8_0, w9_0, hl, a5, g5, l5, r5_0, r5_1, a7, a8, r8_0, a9, r9_0, a44⟩ := (hp : P6_14' s st.tmps st.h); exact (⟨i5, w5_0, w5_1, w8_0, w9_0, hl, a5, g5, l5, r5_0, r5_1, a7, a8, r8_0, a9, r9_0⟩ : P6_12' s st.tmps st.h)) (ref_skip (fun s st hp => hp))))) (ref_seq (M := P6_11) (R6_11 _ _) (ref_seq (M := P6_10) (R6_10 _ _) (ref_seq (M := P6_9) (R6_9 _ _) (ref_seq (M := P6_8) (R6_8 _ _) (ref_seq (M := P6_7) (R6_7 _ _) (ref_seq (M := P6_6) (R6_6 _ _) (ref_seq (M := P6_5) (R6_5 _ _) (ref_seq (M := P6_4) (R6_4 _ _) (ref_seq (M := P6_3) (R6_3 _ _) (ref_seq (M := P6_2) (R6_2 _ _) (ref_seq (M := P6_0) (R6_1 _ _) (ref_seq (M := P6_1) (R6_0 _ _) (ref_ret (fun s st hp => hp))))))))))))))))))
noncomputable def G6 (x0 : Bound) (x1 : Bound) (x2 : Fact) : Option Bool := match M6 { (default : Fr6) with t0 := x0, t1 := x1, t2 := x2 } with
  | some (.nrm, s) => some s.t6
  | some (.ret, s) => some s.t6
  | _ => none
theorem G6_spec : Spec6 (G6) := by
  intro x0 x1 x2 vx0_0 hvx0_0 vx0_1 hvx0_1 vx0_2 hvx0_2 vx0_3 hvx0_3 vx1_0 hvx1_0 vx1_1 hvx1_1 vx1_2 hvx1_2 vx1_3 hvx1_3 vx2_0 hvx2_0 vx2_1 hvx2_1 r hr
  unfold G6 at hr
  cases hm : M6 { (default : Fr6) with t0 := x0, t1 := x1, t2 := x2 } with
  | none => rw [hm] at hr; cases hr
  | some q =>
    obtain ⟨x, s⟩ := q
    rw [hm] at hr
    have hx : x = .nrm ∨ x = .ret := by cases x <;> first | exact .inl rfl | exact .inr rfl | cases hr
    have hr : s.t6 = r := by cases x <;> first | exact Option.some.inj hr | cases hr
    subst hr
    have hp0 : P6_18' ({ (default : Fr6) with t0 := x0, t1 := x1, t2 := x2 }) (slots Tryz.f6 (stripL [.agg [vx0_0, vx0_1, vx0_2, vx0_3], .agg [vx1_0, vx1_1, vx1_2, vx1_3], .agg [vx2_0, vx2_1]])) bare := ⟨(strip vx0_0 : AVal), (strip vx0_1 : AVal), (strip vx0_2 : AVal), (strip vx0_3 : AVal), (strip vx1_0 : AVal), (strip vx1_1 : AVal), (strip vx1_2 : AVal), (strip vx1_3 : AVal), (strip vx2_0 : AVal), (strip vx2_1 : AVal), rfl, rfl, hvx0_0.strip rPick_p, hvx0_1.strip rS_p, rTestT_p.str _ _ hvx0_2, hvx0_3.strip (rI_p .i64), rfl, hvx1_0.strip rPick_p, hvx1_1.strip rS_p, rTestT_p.str _ _ hvx1_2, hvx1_3.strip (rI_p .i64), rfl, hvx2_0.strip rS_p, hvx2_1.strip (rI_p .i64)⟩
    obtain ⟨v, hR, hrun⟩ := run_of_ref (C := Cb) (f := 6) (fn := Tryz.f6) Tryz.func6 rfl rfl rfl rfl (args := [.agg [vx0_0, vx0_1, vx0_2, vx0_3], .agg [vx1_0, vx1_1, vx1_2, vx1_3], .agg [vx2_0, vx2_1]]) (by simp only [refsL, refs, List.append_nil, hvx0_0.refs rPick_p, hvx0_1.refs rS_p, refs_one (rTestT_p.ref _ _ hvx0_2), hvx0_3.refs (rI_p .i64), hvx1_0.refs rPick_p, hvx1_1.refs rS_p, refs_one (rTestT_p.ref _ _ hvx1_2), hvx1_3.refs (rI_p .i64), hvx2_0.refs rS_p, hvx2_1.refs (rI_p .i64)]) (B6) (s0 := { (default : Fr6) with t0 := x0, t1 := x1, t2 := x2 }) hp0 hm hx (R := fun v => v = .bool s.t6) (by
      have key : ∀ st : ASt, P6_1 s st → ∃ vs v, aresults Cb Tryz.f6.results.toList st = some vs ∧ Nrm [] st.h (packRes vs) v ∧ (fun v => v = .bool s.t6) v := by
        intro st hp
        obtain ⟨hl, a6⟩ := (hp : P6_1' s st.tmps st.h)
        exact ⟨[.bool s.t6], _, by simp only [show Tryz.f6.results.toList = [ResultVar.tmp 6] from rfl, aresults, ares1, CP, a6, Option.getD_some], (Nrm.of (w := .bool s.t6) (by simp only [refsL, refs, List.append_nil])), rfl⟩
      intro st hq
      rcases hx with rfl | rfl
      · exact key st hq
      · exact key st hq)
    subst hR
    exact hrun
end Go.Proofs.Bnd
