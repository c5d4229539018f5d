/-
  CUBE: functions (printed by wip/tools/tg.py).
-/
import Derived.Test.YtgjdlakemaabfaaNeedBTypes
set_option linter.unusedVariables false
set_option linter.unusedSimpArgs false
set_option linter.unusedSimpArgs false
set_option linter.unusedVariables false
set_option maxRecDepth 100000
namespace Go.Proofs.Need
open Go Go.Am Go.Proofs
/-! ### caisson/bind.Reads -/
structure Fr36 where
  t0 : TestT
  t2 : Int
  t3 : Bool
  t6 : Bool
instance : Inhabited Fr36 := ⟨⟨default, 0, false, false⟩⟩
def P36_0' (s : Fr36) (t : List AVal) (h : AHeap) : Prop := ∃ w0_0, t.length = 11 ∧ t[0]? = some w0_0 ∧ rTestT s.t0 [w0_0]
def P36_0 (s : Fr36) (st : ASt) : Prop := P36_0' s st.tmps st.h
def P36_1' (s : Fr36) (t : List AVal) (h : AHeap) : Prop := t.length = 11 ∧ t[2]? = some (.int .i64 s.t2) ∧ t[3]? = some (.bool s.t3)
def P36_1 (s : Fr36) (st : ASt) : Prop := P36_1' s st.tmps st.h
def P36_2' (s : Fr36) (t : List AVal) (h : AHeap) : Prop := t.length = 11 ∧ True
def P36_2 (s : Fr36) (st : ASt) : Prop := P36_2' s st.tmps st.h
def P36_3' (s : Fr36) (t : List AVal) (h : AHeap) : Prop := ∃ w0_0, t.length = 11 ∧ t[0]? = some w0_0 ∧ rTestT s.t0 [w0_0] ∧ t[6]? = some (.bool s.t6)
def P36_3 (s : Fr36) (st : ASt) : Prop := P36_3' s st.tmps st.h
noncomputable def m36_0 : Mo Fr36 := fun s => (SR s.t0).bind fun z1 => some (.nrm, { s with t2 := z1.1, t3 := z1.2 })
noncomputable def m36_1 : Mo Fr36 := fun s => some (.nrm, { s with t2 := 63, t3 := true })
noncomputable def m36_2 : Mo Fr36 := fun s => (S48 s.t0).bind fun z5 => some (.nrm, { s with t6 := decide (z5 > 4096) })
noncomputable def m36_3 : Mo Fr36 := fun s => some (.nrm, s)
noncomputable def M36 : Mo Fr36 := seqM (m36_3) (seqM (seqM (m36_2) (condM (fun s => s.t6) (seqM (m36_1) (retM)) (skipM))) (seqM (m36_0) (retM)))
def Spec36 (f : TestT → Option (Int × Bool)) : Prop := ∀ (x0 : TestT) (vx0_0 : AVal) (_ : rTestT x0 [vx0_0]) (r : (Int × Bool)), f x0 = some r → ∀ h, run Cn 36 [vx0_0] h = some (.ret (.tup [.int .i64 r.1, .bool r.2]), h)
theorem Spec36_of {f g : TestT → Option (Int × Bool)} (hg : Spec36 g) (h : ∀ x0 r, f x0 = some r → g x0 = some r) : Spec36 f := fun x0 v0_ w0_ r hr => hg x0 v0_ w0_ r (h x0 r hr)
theorem R36_0 (pe : Nat → Fr36 → ASt → Prop) (pr : Fr36 → ASt → Prop) : Ref Cn P36_0 (Cat [true, true, false] (bodyOf Try.f36)) m36_0 (post P36_1 pe pr) := by
  rintro s ⟨t, h⟩ hp x s' hm
  have hp : P36_0' s t h := hp
  obtain ⟨w0_0, hl, a0, r0_0⟩ := hp
  unfold m36_0 at hm
  obtain ⟨z3, hz3, hm⟩ := Option.bind_eq_some_iff.1 hm
  have iu4 := S49_spec s.t0 _ r0_0 _ hz3
  cases hm
  refine ⟨⟨_, _⟩, by
      simp only [bodyOf, Try.f36, Cat, Bool.false_eq_true, e_seq, e_region, e_cond, e_block, ex_skip, ex_exit, ex_ret, o_cons, xops_nil, k_want_none, k_want_false, k_val, k_pan, k_call, k_ret, k_seq, k_seq_exit, k_seq_ret, k_true, k_false, k_block, k_block_exit, k_block_ret, k_loop, k_loop_exit, k_loop_ret, awanted, aoper, evalO, put, Option.getD_some, List.getElem?_set, acallOp, abuiltin, List.map_cons, List.map_nil, Nat.reduceEqDiff, Nat.reduceLT, List.length_set, Option.map_some, Option.bind_some, Option.bind_eq_bind, add_i, sub_i, mul_i, eql_i, neq_i, lss_i, leq_i, gtr_i, geq_i, ofV, ofCell, ↓reduceIte, List.cons_append, List.nil_append, List.append_nil, List.getElem?_toArray, List.getElem?_cons_succ, List.getElem?_cons_zero, e_draw, g_nil, g_cons, g_want, g_skip, g_val, g_call, g_ret, Option.map_none, hl, a0, CP, bq1, bq2, bq3, bq4, ex_tup, iu4]
      exact rfl, ?_⟩
  show P36_1 _ _
  exact ⟨by simp [hl], by simp [hl], by simp [hl]⟩
theorem R36_1 (pe : Nat → Fr36 → ASt → Prop) (pr : Fr36 → ASt → Prop) : Ref Cn P36_2 (Cat [true, false, true, false, false] (bodyOf Try.f36)) m36_1 (post P36_1 pe pr) := by
  rintro s ⟨t, h⟩ hp x s' hm
  have hp : P36_2' s t h := hp
  obtain ⟨hl, _⟩ := hp
  unfold m36_1 at hm
  cases hm
  refine ⟨⟨_, _⟩, by
      simp only [bodyOf, Try.f36, Cat, Bool.false_eq_true, e_seq, e_region, e_cond, e_block, ex_skip, ex_exit, ex_ret, o_cons, xops_nil, k_want_none, k_want_false, k_val, k_pan, k_call, k_ret, k_seq, k_seq_exit, k_seq_ret, k_true, k_false, k_block, k_block_exit, k_block_ret, k_loop, k_loop_exit, k_loop_ret, awanted, aoper, evalO, put, Option.getD_some, List.getElem?_set, acallOp, abuiltin, List.map_cons, List.map_nil, Nat.reduceEqDiff, Nat.reduceLT, List.length_set, Option.map_some, Option.bind_some, Option.bind_eq_bind, add_i, sub_i, mul_i, eql_i, neq_i, lss_i, leq_i, gtr_i, geq_i, ofV, ofCell, ↓reduceIte, List.cons_append, List.nil_append, List.append_nil, List.getElem?_toArray, List.getElem?_cons_succ, List.getElem?_cons_zero, e_draw, g_nil, g_cons, g_want, g_skip, g_val, g_call, g_ret, Option.map_none, hl, CP, bq1, bq2, bq3, bq4, ex_tup]
      exact rfl, ?_⟩
  show P36_1 _ _
  exact ⟨by simp [hl], by simp [hl], by simp [hl]⟩
theorem R36_2 (pe : Nat → Fr36 → ASt → Prop) (pr : Fr36 → ASt → Prop) : Ref Cn P36_0 (Cat [true, false, false] (bodyOf Try.f36)) m36_2 (post P36_3 pe pr) := by
  rintro s ⟨t, h⟩ hp x s' hm
  have hp : P36_0' s t h := hp
  obtain ⟨w0_0, hl, a0, r0_0⟩ := hp
  unfold m36_2 at hm
  obtain ⟨z7, hz7, hm⟩ := Option.bind_eq_some_iff.1 hm
  have iu8 := S48_spec s.t0 _ r0_0 _ hz7
  cases hm
  refine ⟨⟨_, _⟩, by
      simp only [bodyOf, Try.f36, Cat, Bool.false_eq_true, e_seq, e_region, e_cond, e_block, ex_skip, ex_exit, ex_ret, o_cons, xops_nil, k_want_none, k_want_false, k_val, k_pan, k_call, k_ret, k_seq, k_seq_exit, k_seq_ret, k_true, k_false, k_block, k_block_exit, k_block_ret, k_loop, k_loop_exit, k_loop_ret, awanted, aoper, evalO, put, Option.getD_some, List.getElem?_set, acallOp, abuiltin, List.map_cons, List.map_nil, Nat.reduceEqDiff, Nat.reduceLT, List.length_set, Option.map_some, Option.bind_some, Option.bind_eq_bind, add_i, sub_i, mul_i, eql_i, neq_i, lss_i, leq_i, gtr_i, geq_i, ofV, ofCell, ↓reduceIte, List.cons_append, List.nil_append, List.append_nil, List.getElem?_toArray, List.getElem?_cons_succ, List.getElem?_cons_zero, e_draw, g_nil, g_cons, g_want, g_skip, g_val, g_call, g_ret, Option.map_none, hl, a0, CP, bq1, bq2, bq3, bq4, ex_tup, iu8]
      exact rfl, ?_⟩
  show P36_3 _ _
  exact ⟨w0_0, by simp [hl], by simp [a0], r0_0, by simp [hl]⟩
theorem R36_3 (pe : Nat → Fr36 → ASt → Prop) (pr : Fr36 → ASt → Prop) : Ref Cn P36_0 (Cat [false] (bodyOf Try.f36)) m36_3 (post P36_0 pe pr) := by
  rintro s ⟨t, h⟩ hp x s' hm
  have hp : P36_0' s t h := hp
  obtain ⟨w0_0, hl, a0, r0_0⟩ := hp
  unfold m36_3 at hm
  cases hm
  refine ⟨⟨_, _⟩, by
      simp only [bodyOf, Try.f36, Cat, Bool.false_eq_true, e_seq, e_region, e_cond, e_block, ex_skip, ex_exit, ex_ret, o_cons, xops_nil, k_want_none, k_want_false, k_val, k_pan, k_call, k_ret, k_seq, k_seq_exit, k_seq_ret, k_true, k_false, k_block, k_block_exit, k_block_ret, k_loop, k_loop_exit, k_loop_ret, awanted, aoper, evalO, put, Option.getD_some, List.getElem?_set, acallOp, abuiltin, List.map_cons, List.map_nil, Nat.reduceEqDiff, Nat.reduceLT, List.length_set, Option.map_some, Option.bind_some, Option.bind_eq_bind, add_i, sub_i, mul_i, eql_i, neq_i, lss_i, leq_i, gtr_i, geq_i, ofV, ofCell, ↓reduceIte, List.cons_append, List.nil_append, List.append_nil, List.getElem?_toArray, List.getElem?_cons_succ, List.getElem?_cons_zero, e_draw, g_nil, g_cons, g_want, g_skip, g_val, g_call, g_ret, Option.map_none, hl, a0, CP, bq1, bq2, bq3, bq4, ex_tup]
      exact rfl, ?_⟩
  show P36_0 _ _
  exact ⟨w0_0, by simp [hl], by simp [a0], r0_0⟩
theorem B36 : Ref Cn P36_0 (bodyOf Try.f36) (M36) (post P36_1 (fun _ _ _ => False) P36_1) := by
  rw [show bodyOf Try.f36 = .seq (Cat [false] (bodyOf Try.f36)) (.seq (.seq (Cat [true, false, false] (bodyOf Try.f36)) (.cond (.tmp 6) (.seq (Cat [true, false, true, false, false] (bodyOf Try.f36)) (.ret)) (.skip))) (.seq (Cat [true, true, false] (bodyOf Try.f36)) (.ret))) from rfl]
  unfold M36
  exact ref_seq (M := P36_0) (R36_3 _ _) (ref_seq (M := P36_0) (ref_seq (M := P36_3) (R36_2 _ _) (ref_cond (P := P36_3) (c := fun s => s.t6) (fun s st hp => by obtain ⟨w0_0, hl, a0, r0_0, a6⟩ := (hp : P36_3' s st.tmps st.h); simp only [evalO, a6, Option.getD_some]) (ref_weak (P' := P36_2) (fun s st hp => by obtain ⟨w0_0, hl, a0, r0_0, a6⟩ := (hp : P36_3' s st.tmps st.h); exact (⟨hl, trivial⟩ : P36_2' s st.tmps st.h)) (ref_seq (M := P36_1) (R36_1 _ _) (ref_ret (fun s st hp => hp)))) (ref_weak (P' := P36_0) (fun s st hp => by obtain ⟨w0_0, hl, a0, r0_0, a6⟩ := (hp : P36_3' s st.tmps st.h); exact (⟨w0_0, hl, a0, r0_0⟩ : P36_0' s st.tmps st.h)) (ref_skip (fun s st hp => hp))))) (ref_seq (M := P36_1) (R36_0 _ _) (ref_ret (fun s st hp => hp))))
noncomputable def G36 (x0 : TestT) : Option (Int × Bool) := match M36 { (default : Fr36) with t0 := x0 } with
  | some (.nrm, s) => some (s.t2, s.t3)
  | some (.ret, s) => some (s.t2, s.t3)
  | _ => none
theorem G36_spec : Spec36 (G36) := by
  intro x0 vx0_0 hvx0_0 r hr
  unfold G36 at hr
  cases hm : M36 { (default : Fr36) with t0 := x0 } with
  | none => rw [hm] at hr; cases hr
  | some q =>
    obtain ⟨x, s⟩ := q
    rw [hm] at hr
    have hx : x = .nrm ∨ x = .ret := by cases x <;> first | exact .inl rfl | exact .inr rfl | cases hr
    have hr : (s.t2, s.t3) = r := by cases x <;> first | exact Option.some.inj hr | cases hr
    subst hr
    have h0 : P36_0' ({ (default : Fr36) with t0 := x0 }) (slots Try.f36 (stripL [vx0_0])) bare := ⟨(strip vx0_0 : AVal), rfl, rfl, rTestT_p.str _ _ hvx0_0⟩
    obtain ⟨v, hR, _, hrun⟩ := run_of_ref (C := Cn) (f := 36) (fn := Try.f36) Try.func36 rfl rfl rfl rfl (args := [vx0_0]) (by simp only [refsL, refs, List.append_nil, refs_one (rTestT_p.ref _ _ hvx0_0)]) (B36) (s0 := { (default : Fr36) with t0 := x0 }) h0 hm hx (R := fun v => v = .tup [.int .i64 s.t2, .bool s.t3]) (by
      have key : ∀ st : ASt, P36_1 s st → ∃ vs v, aresults Cn Try.f36.results.toList st = some vs ∧ packRes vs = v ∧ refs v = [] ∧ (fun v => v = .tup [.int .i64 s.t2, .bool s.t3]) (strip v) := by
        intro st hp
        obtain ⟨hl, a2, a3⟩ := (hp : P36_1' s st.tmps st.h)
        refine ⟨[.int .i64 s.t2, .bool s.t3], _, by simp only [show Try.f36.results.toList = [ResultVar.tmp 2, ResultVar.tmp 3] from rfl, aresults, ares1, a2, a3, Option.getD_some], rfl, by simp only [packRes, refsL, refs, List.append_nil], rfl⟩
      intro st hq
      rcases hx with rfl | rfl
      · exact key st hq
      · exact key st hq)
    subst hR
    exact hrun
/-! ### caisson/caissonref12.Reads -/
structure Fr38 where
  t0 : TestT
  t2 : Int
  t3 : Bool
  t6 : Bool
instance : Inhabited Fr38 := ⟨⟨default, 0, false, false⟩⟩
def P38_0' (s : Fr38) (t : List AVal) (h : AHeap) : Prop := ∃ w0_0, t.length = 11 ∧ t[0]? = some w0_0 ∧ rTestT s.t0 [w0_0]
def P38_0 (s : Fr38) (st : ASt) : Prop := P38_0' s st.tmps st.h
def P38_1' (s : Fr38) (t : List AVal) (h : AHeap) : Prop := t.length = 11 ∧ t[2]? = some (.int .i64 s.t2) ∧ t[3]? = some (.bool s.t3)
def P38_1 (s : Fr38) (st : ASt) : Prop := P38_1' s st.tmps st.h
def P38_2' (s : Fr38) (t : List AVal) (h : AHeap) : Prop := t.length = 11 ∧ True
def P38_2 (s : Fr38) (st : ASt) : Prop := P38_2' s st.tmps st.h
def P38_3' (s : Fr38) (t : List AVal) (h : AHeap) : Prop := ∃ w0_0, t.length = 11 ∧ t[0]? = some w0_0 ∧ rTestT s.t0 [w0_0] ∧ t[6]? = some (.bool s.t6)
def P38_3 (s : Fr38) (st : ASt) : Prop := P38_3' s st.tmps st.h
noncomputable def m38_0 : Mo Fr38 := fun s => (SR s.t0).bind fun z1 => some (.nrm, { s with t2 := z1.1, t3 := z1.2 })
noncomputable def m38_1 : Mo Fr38 := fun s => some (.nrm, { s with t2 := 63, t3 := true })
noncomputable def m38_2 : Mo Fr38 := fun s => (S50 s.t0 4097).bind fun z5 => some (.nrm, { s with t6 := decide (z5 > 4096) })
noncomputable def m38_3 : Mo Fr38 := fun s => some (.nrm, s)
noncomputable def M38 : Mo Fr38 := seqM (m38_3) (seqM (seqM (m38_2) (condM (fun s => s.t6) (seqM (m38_1) (retM)) (skipM))) (seqM (m38_0) (retM)))
def Spec38 (f : TestT → Option (Int × Bool)) : Prop := ∀ (x0 : TestT) (vx0_0 : AVal) (_ : rTestT x0 [vx0_0]) (r : (Int × Bool)), f x0 = some r → ∀ h, run Cn 38 [vx0_0] h = some (.ret (.tup [.int .i64 r.1, .bool r.2]), h)
theorem Spec38_of {f g : TestT → Option (Int × Bool)} (hg : Spec38 g) (h : ∀ x0 r, f x0 = some r → g x0 = some r) : Spec38 f := fun x0 v0_ w0_ r hr => hg x0 v0_ w0_ r (h x0 r hr)
theorem R38_0 (pe : Nat → Fr38 → ASt → Prop) (pr : Fr38 → ASt → Prop) : Ref Cn P38_0 (Cat [true, true, false] (bodyOf Try.f38)) m38_0 (post P38_1 pe pr) := by
  rintro s ⟨t, h⟩ hp x s' hm
  have hp : P38_0' s t h := hp
  obtain ⟨w0_0, hl, a0, r0_0⟩ := hp
  unfold m38_0 at hm
  obtain ⟨z3, hz3, hm⟩ := Option.bind_eq_some_iff.1 hm
  have iu4 := S51_spec s.t0 _ r0_0 _ hz3
  cases hm
  refine ⟨⟨_, _⟩, by
      simp only [bodyOf, Try.f38, Cat, Bool.false_eq_true, e_seq, e_region, e_cond, e_block, ex_skip, ex_exit, ex_ret, o_cons, xops_nil, k_want_none, k_want_false, k_val, k_pan, k_call, k_ret, k_seq, k_seq_exit, k_seq_ret, k_true, k_false, k_block, k_block_exit, k_block_ret, k_loop, k_loop_exit, k_loop_ret, awanted, aoper, evalO, put, Option.getD_some, List.getElem?_set, acallOp, abuiltin, List.map_cons, List.map_nil, Nat.reduceEqDiff, Nat.reduceLT, List.length_set, Option.map_some, Option.bind_some, Option.bind_eq_bind, add_i, sub_i, mul_i, eql_i, neq_i, lss_i, leq_i, gtr_i, geq_i, ofV, ofCell, ↓reduceIte, List.cons_append, List.nil_append, List.append_nil, List.getElem?_toArray, List.getElem?_cons_succ, List.getElem?_cons_zero, e_draw, g_nil, g_cons, g_want, g_skip, g_val, g_call, g_ret, Option.map_none, hl, a0, CP, bq1, bq2, bq3, bq4, ex_tup, iu4]
      exact rfl, ?_⟩
  show P38_1 _ _
  exact ⟨by simp [hl], by simp [hl], by simp [hl]⟩
theorem R38_1 (pe : Nat → Fr38 → ASt → Prop) (pr : Fr38 → ASt → Prop) : Ref Cn P38_2 (Cat [true, false, true, false, false] (bodyOf Try.f38)) m38_1 (post P38_1 pe pr) := by
  rintro s ⟨t, h⟩ hp x s' hm
  have hp : P38_2' s t h := hp
  obtain ⟨hl, _⟩ := hp
  unfold m38_1 at hm
  cases hm
  refine ⟨⟨_, _⟩, by
      simp only [bodyOf, Try.f38, Cat, Bool.false_eq_true, e_seq, e_region, e_cond, e_block, ex_skip, ex_exit, ex_ret, o_cons, xops_nil, k_want_none, k_want_false, k_val, k_pan, k_call, k_ret, k_seq, k_seq_exit, k_seq_ret, k_true, k_false, k_block, k_block_exit, k_block_ret, k_loop, k_loop_exit, k_loop_ret, awanted, aoper, evalO, put, Option.getD_some, List.getElem?_set, acallOp, abuiltin, List.map_cons, List.map_nil, Nat.reduceEqDiff, Nat.reduceLT, List.length_set, Option.map_some, Option.bind_some, Option.bind_eq_bind, add_i, sub_i, mul_i, eql_i, neq_i, lss_i, leq_i, gtr_i, geq_i, ofV, ofCell, ↓reduceIte, List.cons_append, List.nil_append, List.append_nil, List.getElem?_toArray, List.getElem?_cons_succ, List.getElem?_cons_zero, e_draw, g_nil, g_cons, g_want, g_skip, g_val, g_call, g_ret, Option.map_none, hl, CP, bq1, bq2, bq3, bq4, ex_tup]
      exact rfl, ?_⟩
  show P38_1 _ _
  exact ⟨by simp [hl], by simp [hl], by simp [hl]⟩
theorem R38_2 (pe : Nat → Fr38 → ASt → Prop) (pr : Fr38 → ASt → Prop) : Ref Cn P38_0 (Cat [true, false, false] (bodyOf Try.f38)) m38_2 (post P38_3 pe pr) := by
  rintro s ⟨t, h⟩ hp x s' hm
  have hp : P38_0' s t h := hp
  obtain ⟨w0_0, hl, a0, r0_0⟩ := hp
  unfold m38_2 at hm
  obtain ⟨z7, hz7, hm⟩ := Option.bind_eq_some_iff.1 hm
  have iu8 := S50_spec s.t0 4097 _ r0_0 _ hz7
  cases hm
  refine ⟨⟨_, _⟩, by
      simp only [bodyOf, Try.f38, Cat, Bool.false_eq_true, e_seq, e_region, e_cond, e_block, ex_skip, ex_exit, ex_ret, o_cons, xops_nil, k_want_none, k_want_false, k_val, k_pan, k_call, k_ret, k_seq, k_seq_exit, k_seq_ret, k_true, k_false, k_block, k_block_exit, k_block_ret, k_loop, k_loop_exit, k_loop_ret, awanted, aoper, evalO, put, Option.getD_some, List.getElem?_set, acallOp, abuiltin, List.map_cons, List.map_nil, Nat.reduceEqDiff, Nat.reduceLT, List.length_set, Option.map_some, Option.bind_some, Option.bind_eq_bind, add_i, sub_i, mul_i, eql_i, neq_i, lss_i, leq_i, gtr_i, geq_i, ofV, ofCell, ↓reduceIte, List.cons_append, List.nil_append, List.append_nil, List.getElem?_toArray, List.getElem?_cons_succ, List.getElem?_cons_zero, e_draw, g_nil, g_cons, g_want, g_skip, g_val, g_call, g_ret, Option.map_none, hl, a0, CP, bq1, bq2, bq3, bq4, ex_tup, iu8]
      exact rfl, ?_⟩
  show P38_3 _ _
  exact ⟨w0_0, by simp [hl], by simp [a0], r0_0, by simp [hl]⟩
theorem R38_3 (pe : Nat → Fr38 → ASt → Prop) (pr : Fr38 → ASt → Prop) : Ref Cn P38_0 (Cat [false] (bodyOf Try.f38)) m38_3 (post P38_0 pe pr) := by
  rintro s ⟨t, h⟩ hp x s' hm
  have hp : P38_0' s t h := hp
  obtain ⟨w0_0, hl, a0, r0_0⟩ := hp
  unfold m38_3 at hm
  cases hm
  refine ⟨⟨_, _⟩, by
      simp only [bodyOf, Try.f38, Cat, Bool.false_eq_true, e_seq, e_region, e_cond, e_block, ex_skip, ex_exit, ex_ret, o_cons, xops_nil, k_want_none, k_want_false, k_val, k_pan, k_call, k_ret, k_seq, k_seq_exit, k_seq_ret, k_true, k_false, k_block, k_block_exit, k_block_ret, k_loop, k_loop_exit, k_loop_ret, awanted, aoper, evalO, put, Option.getD_some, List.getElem?_set, acallOp, abuiltin, List.map_cons, List.map_nil, Nat.reduceEqDiff, Nat.reduceLT, List.length_set, Option.map_some, Option.bind_some, Option.bind_eq_bind, add_i, sub_i, mul_i, eql_i, neq_i, lss_i, leq_i, gtr_i, geq_i, ofV, ofCell, ↓reduceIte, List.cons_append, List.nil_append, List.append_nil, List.getElem?_toArray, List.getElem?_cons_succ, List.getElem?_cons_zero, e_draw, g_nil, g_cons, g_want, g_skip, g_val, g_call, g_ret, Option.map_none, hl, a0, CP, bq1, bq2, bq3, bq4, ex_tup]
      exact rfl, ?_⟩
  show P38_0 _ _
  exact ⟨w0_0, by simp [hl], by simp [a0], r0_0⟩
theorem B38 : Ref Cn P38_0 (bodyOf Try.f38) (M38) (post P38_1 (fun _ _ _ => False) P38_1) := by
  rw [show bodyOf Try.f38 = .seq (Cat [false] (bodyOf Try.f38)) (.seq (.seq (Cat [true, false, false] (bodyOf Try.f38)) (.cond (.tmp 6) (.seq (Cat [true, false, true, false, false] (bodyOf Try.f38)) (.ret)) (.skip))) (.seq (Cat [true, true, false] (bodyOf Try.f38)) (.ret))) from rfl]
  unfold M38
  exact ref_seq (M := P38_0) (R38_3 _ _) (ref_seq (M := P38_0) (ref_seq (M := P38_3) (R38_2 _ _) (ref_cond (P := P38_3) (c := fun s => s.t6) (fun s st hp => by obtain ⟨w0_0, hl, a0, r0_0, a6⟩ := (hp : P38_3' s st.tmps st.h); simp only [evalO, a6, Option.getD_some]) (ref_weak (P' := P38_2) (fun s st hp => by obtain ⟨w0_0, hl, a0, r0_0, a6⟩ := (hp : P38_3' s st.tmps st.h); exact (⟨hl, trivial⟩ : P38_2' s st.tmps st.h)) (ref_seq (M := P38_1) (R38_1 _ _) (ref_ret (fun s st hp => hp)))) (ref_weak (P' := P38_0) (fun s st hp => by obtain ⟨w0_0, hl, a0, r0_0, a6⟩ := (hp : P38_3' s st.tmps st.h); exact (⟨w0_0, hl, a0, r0_0⟩ : P38_0' s st.tmps st.h)) (ref_skip (fun s st hp => hp))))) (ref_seq (M := P38_1) (R38_0 _ _) (ref_ret (fun s st hp => hp))))
noncomputable def G38 (x0 : TestT) : Option (Int × Bool) := match M38 { (default : Fr38) with t0 := x0 } with
  | some (.nrm, s) => some (s.t2, s.t3)
  | some (.ret, s) => some (s.t2, s.t3)
  | _ => none
theorem G38_spec : Spec38 (G38) := by
  intro x0 vx0_0 hvx0_0 r hr
  unfold G38 at hr
  cases hm : M38 { (default : Fr38) with t0 := x0 } with
  | none => rw [hm] at hr; cases hr
  | some q =>
    obtain ⟨x, s⟩ := q
    rw [hm] at hr
    have hx : x = .nrm ∨ x = .ret := by cases x <;> first | exact .inl rfl | exact .inr rfl | cases hr
    have hr : (s.t2, s.t3) = r := by cases x <;> first | exact Option.some.inj hr | cases hr
    subst hr
    have h0 : P38_0' ({ (default : Fr38) with t0 := x0 }) (slots Try.f38 (stripL [vx0_0])) bare := ⟨(strip vx0_0 : AVal), rfl, rfl, rTestT_p.str _ _ hvx0_0⟩
    obtain ⟨v, hR, _, hrun⟩ := run_of_ref (C := Cn) (f := 38) (fn := Try.f38) Try.func38 rfl rfl rfl rfl (args := [vx0_0]) (by simp only [refsL, refs, List.append_nil, refs_one (rTestT_p.ref _ _ hvx0_0)]) (B38) (s0 := { (default : Fr38) with t0 := x0 }) h0 hm hx (R := fun v => v = .tup [.int .i64 s.t2, .bool s.t3]) (by
      have key : ∀ st : ASt, P38_1 s st → ∃ vs v, aresults Cn Try.f38.results.toList st = some vs ∧ packRes vs = v ∧ refs v = [] ∧ (fun v => v = .tup [.int .i64 s.t2, .bool s.t3]) (strip v) := by
        intro st hp
        obtain ⟨hl, a2, a3⟩ := (hp : P38_1' s st.tmps st.h)
        refine ⟨[.int .i64 s.t2, .bool s.t3], _, by simp only [show Try.f38.results.toList = [ResultVar.tmp 2, ResultVar.tmp 3] from rfl, aresults, ares1, a2, a3, Option.getD_some], rfl, by simp only [packRes, refsL, refs, List.append_nil], rfl⟩
      intro st hq
      rcases hx with rfl | rfl
      · exact key st hq
      · exact key st hq)
    subst hR
    exact hrun
/-! ### caisson/cube.Need -/
structure Fr20 where
  t0 : Bound
  t1 : Bound
  t2 : Int
  t3 : Bool
  t4 : Int
  t5 : Bool
  t7 : Int
  t15 : (List Int)
  t16 : Int
  t17 : Int
  t18 : Bool
instance : Inhabited Fr20 := ⟨⟨default, default, 0, false, 0, false, 0, [], 0, 0, false⟩⟩
def P20_0' (s : Fr20) (t : List AVal) (h : AHeap) : Prop := t.length = 29 ∧ t[4]? = some (.int .i64 s.t4) ∧ t[5]? = some (.bool s.t5)
def P20_0 (s : Fr20) (st : ASt) : Prop := P20_0' s st.tmps st.h
def P20_1' (s : Fr20) (t : List AVal) (h : AHeap) : Prop := t.length = 29 ∧ t[2]? = some (.int .i64 s.t2) ∧ t[3]? = some (.bool s.t3)
def P20_1 (s : Fr20) (st : ASt) : Prop := P20_1' s st.tmps st.h
def P20_2' (s : Fr20) (t : List AVal) (h : AHeap) : Prop := ∃ w15_0, t.length = 29 ∧ t[4]? = some (.int .i64 s.t4) ∧ t[5]? = some (.bool s.t5) ∧ t[15]? = some w15_0 ∧ Sl (rI .i64) s.t15 w15_0 ∧ t[16]? = some (.int .i64 s.t16) ∧ t[17]? = some (.int .i64 s.t17)
def P20_2 (s : Fr20) (st : ASt) : Prop := P20_2' s st.tmps st.h
def P20_3' (s : Fr20) (t : List AVal) (h : AHeap) : Prop := ∃ w15_0, t.length = 29 ∧ t[4]? = some (.int .i64 s.t4) ∧ t[5]? = some (.bool s.t5) ∧ t[7]? = some (.int .i64 s.t7) ∧ t[15]? = some w15_0 ∧ Sl (rI .i64) s.t15 w15_0 ∧ t[16]? = some (.int .i64 s.t16) ∧ t[17]? = some (.int .i64 s.t17)
def P20_3 (s : Fr20) (st : ASt) : Prop := P20_3' s st.tmps st.h
def P20_4' (s : Fr20) (t : List AVal) (h : AHeap) : Prop := ∃ w15_0, t.length = 29 ∧ t[4]? = some (.int .i64 s.t4) ∧ t[5]? = some (.bool s.t5) ∧ t[15]? = some w15_0 ∧ Sl (rI .i64) s.t15 w15_0 ∧ t[16]? = some (.int .i64 s.t16) ∧ t[17]? = some (.int .i64 s.t17) ∧ t[18]? = some (.bool s.t18)
def P20_4 (s : Fr20) (st : ASt) : Prop := P20_4' s st.tmps st.h
def P20_5' (s : Fr20) (t : List AVal) (h : AHeap) : Prop := ∃ w1_0 w1_1 w1_2 w1_3, t.length = 29 ∧ t[1]? = some (.iptr [w1_0, w1_1, w1_2, w1_3]) ∧ Sl rPick s.t1.Picks w1_0 ∧ Sl rS s.t1.Names w1_1 ∧ rTestT s.t1.Where [w1_2] ∧ Sl (rI .i64) s.t1.Sets w1_3 ∧ t[4]? = some (.int .i64 s.t4) ∧ t[5]? = some (.bool s.t5)
def P20_5 (s : Fr20) (st : ASt) : Prop := P20_5' s st.tmps st.h
def P20_6' (s : Fr20) (t : List AVal) (h : AHeap) : Prop := ∃ w1_0 w1_1 w1_2 w1_3, t.length = 29 ∧ t[1]? = some (.iptr [w1_0, w1_1, w1_2, w1_3]) ∧ Sl rPick s.t1.Picks w1_0 ∧ Sl rS s.t1.Names w1_1 ∧ rTestT s.t1.Where [w1_2] ∧ Sl (rI .i64) s.t1.Sets w1_3
def P20_6 (s : Fr20) (st : ASt) : Prop := P20_6' s st.tmps st.h
def P20_7' (s : Fr20) (t : List AVal) (h : AHeap) : Prop := ∃ w0_0 w0_1 w0_2 w0_3, t.length = 29 ∧ t[0]? = some (.agg [w0_0, w0_1, w0_2, w0_3]) ∧ Sl rPick s.t0.Picks w0_0 ∧ Sl rS s.t0.Names w0_1 ∧ rTestT s.t0.Where [w0_2] ∧ Sl (rI .i64) s.t0.Sets w0_3
def P20_7 (s : Fr20) (st : ASt) : Prop := P20_7' s st.tmps st.h
noncomputable def m20_0 : Mo Fr20 := fun s => some (.nrm, { s with t2 := s.t4, t3 := s.t5 })
noncomputable def m20_1 : Mo Fr20 := fun s => some (.nrm, { s with t17 := IntKind.wrap .i64 (s.t17 + 1) })
noncomputable def m20_2 : Mo Fr20 := fun s => (G35 s.t7).bind fun z1 => (G37 z1).bind fun z3 => some (.nrm, { s with t4 := bits .or .i64 s.t4 z3 })
noncomputable def m20_3 : Mo Fr20 := fun s => (at? s.t15 s.t17).bind fun y9 => some (.nrm, { s with t7 := y9 })
noncomputable def m20_4 : Mo Fr20 := fun s => some (.nrm, { s with t18 := decide (s.t17 < s.t16) })
noncomputable def L20_5 : Mo Fr20 := seqM (m20_4) (seqM (condM (fun s => s.t18) (skipM) (exitM 0)) (seqM (blockM 1 (seqM (m20_3) (m20_2))) (m20_1)))
noncomputable def m20_6 : Mo Fr20 := fun s => some (.nrm, { s with t15 := s.t1.Sets, t16 := (s.t1.Sets.length : Int), t17 := 0 })
noncomputable def m20_7 : Mo Fr20 := fun s => (G36 s.t1.Where).bind fun z15 => some (.nrm, { s with t4 := z15.1, t5 := z15.2 })
noncomputable def m20_8 : Mo Fr20 := fun s => some (.nrm, { s with t1 := s.t0 })
noncomputable def M20 : Mo Fr20 := seqM (m20_8) (seqM (m20_7) (seqM (seqM (m20_6) (blockM 0 (loopM (L20_5)))) (seqM (m20_0) (retM))))
def Spec20 (f : Bound → Option (Int × Bool)) : Prop := ∀ (x0 : Bound) (vx0_0 : AVal) (_ : Sl rPick x0.Picks vx0_0) (vx0_1 : AVal) (_ : Sl rS x0.Names vx0_1) (vx0_2 : AVal) (_ : rTestT x0.Where [vx0_2]) (vx0_3 : AVal) (_ : Sl (rI .i64) x0.Sets vx0_3) (r : (Int × Bool)), f x0 = some r → ∀ h, run Cn 20 [.agg [vx0_0, vx0_1, vx0_2, vx0_3]] h = some (.ret (.tup [.int .i64 r.1, .bool r.2]), h)
theorem Spec20_of {f g : Bound → Option (Int × Bool)} (hg : Spec20 g) (h : ∀ x0 r, f x0 = some r → g x0 = some r) : Spec20 f := fun x0 v0_ w0_ v1_ w1_ v2_ w2_ v3_ w3_ r hr => hg x0 v0_ w0_ v1_ w1_ v2_ w2_ v3_ w3_ r (h x0 r hr)
theorem R20_0 (pe : Nat → Fr20 → ASt → Prop) (pr : Fr20 → ASt → Prop) : Ref Cn P20_0 (Cat [true, true, true, false] (bodyOf Try.f20)) m20_0 (post P20_1 pe pr) := by
  rintro s ⟨t, h⟩ hp x s' hm
  have hp : P20_0' s t h := hp
  obtain ⟨hl, a4, a5⟩ := hp
  unfold m20_0 at hm
  cases hm
  refine ⟨⟨_, _⟩, by
      simp only [bodyOf, Try.f20, Cat, Bool.false_eq_true, e_seq, e_region, e_cond, e_block, ex_skip, ex_exit, ex_ret, o_cons, xops_nil, k_want_none, k_want_false, k_val, k_pan, k_call, k_ret, k_seq, k_seq_exit, k_seq_ret, k_true, k_false, k_block, k_block_exit, k_block_ret, k_loop, k_loop_exit, k_loop_ret, awanted, aoper, evalO, put, Option.getD_some, List.getElem?_set, acallOp, abuiltin, List.map_cons, List.map_nil, Nat.reduceEqDiff, Nat.reduceLT, List.length_set, Option.map_some, Option.bind_some, Option.bind_eq_bind, add_i, sub_i, mul_i, eql_i, neq_i, lss_i, leq_i, gtr_i, geq_i, ofV, ofCell, ↓reduceIte, List.cons_append, List.nil_append, List.append_nil, List.getElem?_toArray, List.getElem?_cons_succ, List.getElem?_cons_zero, e_draw, g_nil, g_cons, g_want, g_skip, g_val, g_call, g_ret, Option.map_none, hl, a4, a5, CP, bq1, bq2, bq3, bq4, ex_tup]
      exact rfl, ?_⟩
  show P20_1 _ _
  exact ⟨by simp [hl], by simp [hl], by simp [hl]⟩
theorem R20_1 (pe : Nat → Fr20 → ASt → Prop) (pr : Fr20 → ASt → Prop) : Ref Cn P20_2 (Cat [true, true, false, true, true, true, true, true, true] (bodyOf Try.f20)) m20_1 (post P20_2 pe pr) := by
  rintro s ⟨t, h⟩ hp x s' hm
  have hp : P20_2' s t h := hp
  obtain ⟨w15_0, hl, a4, a5, a15, r15_0, a16, a17⟩ := hp
  unfold m20_1 at hm
  cases hm
  refine ⟨⟨_, _⟩, by
      simp only [bodyOf, Try.f20, Cat, Bool.false_eq_true, e_seq, e_region, e_cond, e_block, ex_skip, ex_exit, ex_ret, o_cons, xops_nil, k_want_none, k_want_false, k_val, k_pan, k_call, k_ret, k_seq, k_seq_exit, k_seq_ret, k_true, k_false, k_block, k_block_exit, k_block_ret, k_loop, k_loop_exit, k_loop_ret, awanted, aoper, evalO, put, Option.getD_some, List.getElem?_set, acallOp, abuiltin, List.map_cons, List.map_nil, Nat.reduceEqDiff, Nat.reduceLT, List.length_set, Option.map_some, Option.bind_some, Option.bind_eq_bind, add_i, sub_i, mul_i, eql_i, neq_i, lss_i, leq_i, gtr_i, geq_i, ofV, ofCell, ↓reduceIte, List.cons_append, List.nil_append, List.append_nil, List.getElem?_toArray, List.getElem?_cons_succ, List.getElem?_cons_zero, e_draw, g_nil, g_cons, g_want, g_skip, g_val, g_call, g_ret, Option.map_none, hl, a4, a5, a15, a16, a17, CP, bq1, bq2, bq3, bq4, ex_tup]
      exact rfl, ?_⟩
  show P20_2 _ _
  exact ⟨w15_0, by simp [hl], by simp [a4], by simp [a5], by simp [a15], r15_0, by simp [a16], by simp [hl]⟩
theorem R20_2 (pe : Nat → Fr20 → ASt → Prop) (pr : Fr20 → ASt → Prop) : Ref Cn P20_3 (Cat [true, true, false, true, true, true, true, true, false, true, true] (bodyOf Try.f20)) m20_2 (post P20_2 pe pr) := by
  rintro s ⟨t, h⟩ hp x s' hm
  have hp : P20_3' s t h := hp
  obtain ⟨w15_0, hl, a4, a5, a7, a15, r15_0, a16, a17⟩ := hp
  unfold m20_2 at hm
  obtain ⟨z5, hz5, hm⟩ := Option.bind_eq_some_iff.1 hm
  obtain ⟨bu6_0, gu6_0, iu6⟩ := G35_spec s.t7  _ hz5
  obtain ⟨z7, hz7, hm⟩ := Option.bind_eq_some_iff.1 hm
  have iu8 := G37_spec z5 _ gu6_0 _ hz7
  cases hm
  refine ⟨⟨_, _⟩, by
      simp only [bodyOf, Try.f20, Cat, Bool.false_eq_true, e_seq, e_region, e_cond, e_block, ex_skip, ex_exit, ex_ret, o_cons, xops_nil, k_want_none, k_want_false, k_val, k_pan, k_call, k_ret, k_seq, k_seq_exit, k_seq_ret, k_true, k_false, k_block, k_block_exit, k_block_ret, k_loop, k_loop_exit, k_loop_ret, awanted, aoper, evalO, put, Option.getD_some, List.getElem?_set, acallOp, abuiltin, List.map_cons, List.map_nil, Nat.reduceEqDiff, Nat.reduceLT, List.length_set, Option.map_some, Option.bind_some, Option.bind_eq_bind, add_i, sub_i, mul_i, eql_i, neq_i, lss_i, leq_i, gtr_i, geq_i, ofV, ofCell, ↓reduceIte, List.cons_append, List.nil_append, List.append_nil, List.getElem?_toArray, List.getElem?_cons_succ, List.getElem?_cons_zero, e_draw, g_nil, g_cons, g_want, g_skip, g_val, g_call, g_ret, Option.map_none, hl, a4, a5, a7, a15, a16, a17, CP, bq1, bq2, bq3, bq4, ex_tup, iu6, iu8, Tz.or3]
      exact rfl, ?_⟩
  show P20_2 _ _
  exact ⟨w15_0, by simp [hl], by simp [hl], by simp [a5], by simp [a15], r15_0, by simp [a16], by simp [a17]⟩
theorem R20_3 (pe : Nat → Fr20 → ASt → Prop) (pr : Fr20 → ASt → Prop) : Ref Cn P20_2 (Cat [true, true, false, true, true, true, true, true, false, true, false] (bodyOf Try.f20)) m20_3 (post P20_3 pe pr) := by
  rintro s ⟨t, h⟩ hp x s' hm
  have hp : P20_2' s t h := hp
  obtain ⟨w15_0, hl, a4, a5, a15, r15_0, a16, a17⟩ := hp
  unfold m20_3 at hm
  obtain ⟨y11, hy11, hm⟩ := Option.bind_eq_some_iff.1 hm
  obtain ⟨cu12, du12, eu12, iu12, _⟩ := Sl.ix (rI_p .i64) r15_0 hy11
  subst eu12
  cases hm
  refine ⟨⟨_, _⟩, by
      simp only [bodyOf, Try.f20, Cat, Bool.false_eq_true, e_seq, e_region, e_cond, e_block, ex_skip, ex_exit, ex_ret, o_cons, xops_nil, k_want_none, k_want_false, k_val, k_pan, k_call, k_ret, k_seq, k_seq_exit, k_seq_ret, k_true, k_false, k_block, k_block_exit, k_block_ret, k_loop, k_loop_exit, k_loop_ret, awanted, aoper, evalO, put, Option.getD_some, List.getElem?_set, acallOp, abuiltin, List.map_cons, List.map_nil, Nat.reduceEqDiff, Nat.reduceLT, List.length_set, Option.map_some, Option.bind_some, Option.bind_eq_bind, add_i, sub_i, mul_i, eql_i, neq_i, lss_i, leq_i, gtr_i, geq_i, ofV, ofCell, ↓reduceIte, List.cons_append, List.nil_append, List.append_nil, List.getElem?_toArray, List.getElem?_cons_succ, List.getElem?_cons_zero, e_draw, g_nil, g_cons, g_want, g_skip, g_val, g_call, g_ret, Option.map_none, hl, a4, a5, a15, a16, a17, CP, bq1, bq2, bq3, bq4, ex_tup, Tz.ix24, iu12, Tz.ld3, ld_ip, ofc1, List.drop_succ_cons, List.drop_zero]
      exact rfl, ?_⟩
  show P20_3 _ _
  exact ⟨w15_0, by simp [hl], by simp [a4], by simp [a5], by simp [hl], by simp [a15], r15_0, by simp [a16], by simp [a17]⟩
theorem R20_4 (pe : Nat → Fr20 → ASt → Prop) (pr : Fr20 → ASt → Prop) : Ref Cn P20_2 (Cat [true, true, false, true, true, true, false] (bodyOf Try.f20)) m20_4 (post P20_4 pe pr) := by
  rintro s ⟨t, h⟩ hp x s' hm
  have hp : P20_2' s t h := hp
  obtain ⟨w15_0, hl, a4, a5, a15, r15_0, a16, a17⟩ := hp
  unfold m20_4 at hm
  cases hm
  refine ⟨⟨_, _⟩, by
      simp only [bodyOf, Try.f20, Cat, Bool.false_eq_true, e_seq, e_region, e_cond, e_block, ex_skip, ex_exit, ex_ret, o_cons, xops_nil, k_want_none, k_want_false, k_val, k_pan, k_call, k_ret, k_seq, k_seq_exit, k_seq_ret, k_true, k_false, k_block, k_block_exit, k_block_ret, k_loop, k_loop_exit, k_loop_ret, awanted, aoper, evalO, put, Option.getD_some, List.getElem?_set, acallOp, abuiltin, List.map_cons, List.map_nil, Nat.reduceEqDiff, Nat.reduceLT, List.length_set, Option.map_some, Option.bind_some, Option.bind_eq_bind, add_i, sub_i, mul_i, eql_i, neq_i, lss_i, leq_i, gtr_i, geq_i, ofV, ofCell, ↓reduceIte, List.cons_append, List.nil_append, List.append_nil, List.getElem?_toArray, List.getElem?_cons_succ, List.getElem?_cons_zero, e_draw, g_nil, g_cons, g_want, g_skip, g_val, g_call, g_ret, Option.map_none, hl, a4, a5, a15, a16, a17, CP, bq1, bq2, bq3, bq4, ex_tup]
      exact rfl, ?_⟩
  show P20_4 _ _
  exact ⟨w15_0, by simp [hl], by simp [a4], by simp [a5], by simp [a15], r15_0, by simp [a16], by simp [a17], by simp [hl]⟩
theorem R20_6 (pe : Nat → Fr20 → ASt → Prop) (pr : Fr20 → ASt → Prop) : Ref Cn P20_5 (Cat [true, true, false, false] (bodyOf Try.f20)) m20_6 (post P20_2 pe pr) := by
  rintro s ⟨t, h⟩ hp x s' hm
  have hp : P20_5' s t h := hp
  obtain ⟨w1_0, w1_1, w1_2, w1_3, hl, a1, r1_0, r1_1, r1_2, r1_3, a4, a5⟩ := hp
  unfold m20_6 at hm
  have lu14 := fun h => Sl.len r1_3 Tz.un24 h
  cases hm
  refine ⟨⟨_, _⟩, by
      simp only [bodyOf, Try.f20, Cat, Bool.false_eq_true, e_seq, e_region, e_cond, e_block, ex_skip, ex_exit, ex_ret, o_cons, xops_nil, k_want_none, k_want_false, k_val, k_pan, k_call, k_ret, k_seq, k_seq_exit, k_seq_ret, k_true, k_false, k_block, k_block_exit, k_block_ret, k_loop, k_loop_exit, k_loop_ret, awanted, aoper, evalO, put, Option.getD_some, List.getElem?_set, acallOp, abuiltin, List.map_cons, List.map_nil, Nat.reduceEqDiff, Nat.reduceLT, List.length_set, Option.map_some, Option.bind_some, Option.bind_eq_bind, add_i, sub_i, mul_i, eql_i, neq_i, lss_i, leq_i, gtr_i, geq_i, ofV, ofCell, ↓reduceIte, List.cons_append, List.nil_append, List.append_nil, List.getElem?_toArray, List.getElem?_cons_succ, List.getElem?_cons_zero, e_draw, g_nil, g_cons, g_want, g_skip, g_val, g_call, g_ret, Option.map_none, hl, a1, a4, a5, CP, bq1, bq2, bq3, bq4, ex_tup, Tz.fa36_3, dropCells, List.drop_succ_cons, List.drop_zero, Tz.ld24, ld_ip, ofc1, List.drop_succ_cons, List.drop_zero, lu14]
      exact rfl, ?_⟩
  show P20_2 _ _
  exact ⟨w1_3, by simp [hl], by simp [a4], by simp [a5], by simp [hl], r1_3, by simp [hl], by simp [hl]⟩
theorem R20_7 (pe : Nat → Fr20 → ASt → Prop) (pr : Fr20 → ASt → Prop) : Ref Cn P20_6 (Cat [true, false] (bodyOf Try.f20)) m20_7 (post P20_5 pe pr) := by
  rintro s ⟨t, h⟩ hp x s' hm
  have hp : P20_6' s t h := hp
  obtain ⟨w1_0, w1_1, w1_2, w1_3, hl, a1, r1_0, r1_1, r1_2, r1_3⟩ := hp
  unfold m20_7 at hm
  obtain ⟨z17, hz17, hm⟩ := Option.bind_eq_some_iff.1 hm
  have iu18 := G36_spec s.t1.Where _ r1_2 _ hz17
  cases hm
  refine ⟨⟨_, _⟩, by
      simp only [bodyOf, Try.f20, Cat, Bool.false_eq_true, e_seq, e_region, e_cond, e_block, ex_skip, ex_exit, ex_ret, o_cons, xops_nil, k_want_none, k_want_false, k_val, k_pan, k_call, k_ret, k_seq, k_seq_exit, k_seq_ret, k_true, k_false, k_block, k_block_exit, k_block_ret, k_loop, k_loop_exit, k_loop_ret, awanted, aoper, evalO, put, Option.getD_some, List.getElem?_set, acallOp, abuiltin, List.map_cons, List.map_nil, Nat.reduceEqDiff, Nat.reduceLT, List.length_set, Option.map_some, Option.bind_some, Option.bind_eq_bind, add_i, sub_i, mul_i, eql_i, neq_i, lss_i, leq_i, gtr_i, geq_i, ofV, ofCell, ↓reduceIte, List.cons_append, List.nil_append, List.append_nil, List.getElem?_toArray, List.getElem?_cons_succ, List.getElem?_cons_zero, e_draw, g_nil, g_cons, g_want, g_skip, g_val, g_call, g_ret, Option.map_none, hl, a1, CP, bq1, bq2, bq3, bq4, ex_tup, Tz.fa36_2, dropCells, List.drop_succ_cons, List.drop_zero, Tz.ld34, ld_ip, ofc1, List.drop_succ_cons, List.drop_zero, iu18]
      exact rfl, ?_⟩
  show P20_5 _ _
  exact ⟨w1_0, w1_1, w1_2, w1_3, by simp [hl], by simp [a1], r1_0, r1_1, r1_2, r1_3, by simp [hl], by simp [hl]⟩
theorem R20_8 (pe : Nat → Fr20 → ASt → Prop) (pr : Fr20 → ASt → Prop) : Ref Cn P20_7 (Cat [false] (bodyOf Try.f20)) m20_8 (post P20_6 pe pr) := by
  rintro s ⟨t, h⟩ hp x s' hm
  have hp : P20_7' s t h := hp
  obtain ⟨w0_0, w0_1, w0_2, w0_3, hl, a0, r0_0, r0_1, r0_2, r0_3⟩ := hp
  unfold m20_8 at hm
  have ic23 : (w0_0 : AVal).isCell = true := Sl.isCell r0_0
  have ic24 : (w0_1 : AVal).isCell = true := Sl.isCell r0_1
  have ic25 : (w0_2 : AVal).isCell = true := rTestT_cell r0_2
  have ic26 : (w0_3 : AVal).isCell = true := Sl.isCell r0_3
  cases hm
  refine ⟨⟨_, _⟩, by
      simp only [bodyOf, Try.f20, Cat, Bool.false_eq_true, e_seq, e_region, e_cond, e_block, ex_skip, ex_exit, ex_ret, o_cons, xops_nil, k_want_none, k_want_false, k_val, k_pan, k_call, k_ret, k_seq, k_seq_exit, k_seq_ret, k_true, k_false, k_block, k_block_exit, k_block_ret, k_loop, k_loop_exit, k_loop_ret, awanted, aoper, evalO, put, Option.getD_some, List.getElem?_set, acallOp, abuiltin, List.map_cons, List.map_nil, Nat.reduceEqDiff, Nat.reduceLT, List.length_set, Option.map_some, Option.bind_some, Option.bind_eq_bind, add_i, sub_i, mul_i, eql_i, neq_i, lss_i, leq_i, gtr_i, geq_i, ofV, ofCell, ↓reduceIte, List.cons_append, List.nil_append, List.append_nil, List.getElem?_toArray, List.getElem?_cons_succ, List.getElem?_cons_zero, e_draw, g_nil, g_cons, g_want, g_skip, g_val, g_call, g_ret, Option.map_none, hl, a0, CP, bq1, bq2, bq3, bq4, ex_tup, Tz.cb_cube_go_25, Tz.cb_ref_go_26, Tz.cb_law_go_43, ic23, bx_c ic23, cl_c ic23, ic24, bx_c ic24, cl_c ic24, ic25, bx_c ic25, cl_c ic25, ic26, bx_c ic26, cl_c ic26, bx_a, cl_a, bx_i, bx_b, bx_s, cl_i, cl_b, cl_s, List.all_cons, List.all_nil, Bool.and_self, Bool.and_true, c_i, c_b, c_s, c_nl, c_np, c_ip, c_ls]
      exact rfl, ?_⟩
  show P20_6 _ _
  exact ⟨w0_0, w0_1, w0_2, w0_3, by simp [hl], by simp [hl], r0_0, r0_1, r0_2, r0_3⟩
theorem B20 : Ref Cn P20_7 (bodyOf Try.f20) (M20) (post P20_1 (fun _ _ _ => False) P20_1) := by
  rw [show bodyOf Try.f20 = .seq (Cat [false] (bodyOf Try.f20)) (.seq (Cat [true, false] (bodyOf Try.f20)) (.seq (.seq (Cat [true, true, false, false] (bodyOf Try.f20)) (.block 0 (.loop (.seq (Cat [true, true, false, true, true, true, false] (bodyOf Try.f20)) (.seq (.cond (.tmp 18) (.skip) (.exit 0)) (.seq (.block 1 (.seq (Cat [true, true, false, true, true, true, true, true, false, true, false] (bodyOf Try.f20)) (Cat [true, true, false, true, true, true, true, true, false, true, true] (bodyOf Try.f20)))) (Cat [true, true, false, true, true, true, true, true, true] (bodyOf Try.f20)))))))) (.seq (Cat [true, true, true, false] (bodyOf Try.f20)) (.ret)))) from rfl]
  unfold M20
  exact ref_seq (M := P20_6) (R20_8 _ _) (ref_seq (M := P20_5) (R20_7 _ _) (ref_seq (M := P20_0) (ref_seq (M := P20_2) (R20_6 _ _) (ref_block (ref_loop (P := P20_2) (ref_weak (P' := P20_2) (fun s st hp => hp) (ref_seq (M := P20_4) (R20_4 _ _) (ref_seq (M := P20_2) (ref_cond (P := P20_4) (c := fun s => s.t18) (fun s st hp => by obtain ⟨w15_0, hl, a4, a5, a15, r15_0, a16, a17, a18⟩ := (hp : P20_4' s st.tmps st.h); simp only [evalO, a18, Option.getD_some]) (ref_weak (P' := P20_2) (fun s st hp => by obtain ⟨w15_0, hl, a4, a5, a15, r15_0, a16, a17, a18⟩ := (hp : P20_4' s st.tmps st.h); exact (⟨w15_0, hl, a4, a5, a15, r15_0, a16, a17⟩ : P20_2' s st.tmps st.h)) (ref_skip (fun s st hp => hp))) (ref_weak (P' := P20_0) (fun s st hp => by obtain ⟨w15_0, hl, a4, a5, a15, r15_0, a16, a17, a18⟩ := (hp : P20_4' s st.tmps st.h); exact (⟨hl, a4, a5⟩ : P20_0' s st.tmps st.h)) (ref_exit (fun s st hp => hp)))) (ref_seq (M := P20_2) (ref_block (ref_seq (M := P20_3) (R20_3 _ _) (R20_2 _ _))) (R20_1 _ _)))))))) (ref_seq (M := P20_1) (R20_0 _ _) (ref_ret (fun s st hp => hp)))))
noncomputable def G20 (x0 : Bound) : Option (Int × Bool) := match M20 { (default : Fr20) with t0 := x0 } with
  | some (.nrm, s) => some (s.t2, s.t3)
  | some (.ret, s) => some (s.t2, s.t3)
  | _ => none
theorem G20_spec : Spec20 (G20) := by
  intro x0 vx0_0 hvx0_0 vx0_1 hvx0_1 vx0_2 hvx0_2 vx0_3 hvx0_3 r hr
  unfold G20 at hr
  cases hm : M20 { (default : Fr20) with t0 := x0 } with
  | none => rw [hm] at hr; cases hr
  | some q =>
    obtain ⟨x, s⟩ := q
    rw [hm] at hr
    have hx : x = .nrm ∨ x = .ret := by cases x <;> first | exact .inl rfl | exact .inr rfl | cases hr
    have hr : (s.t2, s.t3) = r := by cases x <;> first | exact Option.some.inj hr | cases hr
    subst hr
    have h0 : P20_7' ({ (default : Fr20) with t0 := x0 }) (slots Try.f20 (stripL [.agg [vx0_0, vx0_1, vx0_2, vx0_3]])) bare := ⟨(strip vx0_0 : AVal), (strip vx0_1 : AVal), (strip vx0_2 : AVal), (strip vx0_3 : AVal), rfl, rfl, hvx0_0.strip rPick_p, hvx0_1.strip rS_p, rTestT_p.str _ _ hvx0_2, hvx0_3.strip (rI_p .i64)⟩
    obtain ⟨v, hR, _, hrun⟩ := run_of_ref (C := Cn) (f := 20) (fn := Try.f20) Try.func20 rfl rfl rfl rfl (args := [.agg [vx0_0, vx0_1, vx0_2, vx0_3]]) (by simp only [refsL, refs, List.append_nil, hvx0_0.refs rPick_p, hvx0_1.refs rS_p, refs_one (rTestT_p.ref _ _ hvx0_2), hvx0_3.refs (rI_p .i64)]) (B20) (s0 := { (default : Fr20) with t0 := x0 }) h0 hm hx (R := fun v => v = .tup [.int .i64 s.t2, .bool s.t3]) (by
      have key : ∀ st : ASt, P20_1 s st → ∃ vs v, aresults Cn Try.f20.results.toList st = some vs ∧ packRes vs = v ∧ refs v = [] ∧ (fun v => v = .tup [.int .i64 s.t2, .bool s.t3]) (strip v) := by
        intro st hp
        obtain ⟨hl, a2, a3⟩ := (hp : P20_1' s st.tmps st.h)
        refine ⟨[.int .i64 s.t2, .bool s.t3], _, by simp only [show Try.f20.results.toList = [ResultVar.tmp 2, ResultVar.tmp 3] from rfl, aresults, ares1, a2, a3, Option.getD_some], rfl, by simp only [packRes, refsL, refs, List.append_nil], rfl⟩
      intro st hq
      rcases hx with rfl | rfl
      · exact key st hq
      · exact key st hq)
    subst hR
    exact hrun
/-! ### caisson/caissonref16.Need -/
structure Fr21 where
  t0 : Bound
  t1 : Bound
  t2 : Int
  t3 : Bool
  t4 : Int
  t5 : Bool
  t6 : (List Int)
  t7 : Int
  t22 : Bool
instance : Inhabited Fr21 := ⟨⟨default, default, 0, false, 0, false, [], 0, false⟩⟩
def P21_0' (s : Fr21) (t : List AVal) (h : AHeap) : Prop := ∃ w6_0, t.length = 36 ∧ t[5]? = some (.bool s.t5) ∧ t[6]? = some w6_0 ∧ Gr (rI .i64) 1 s.t6 w6_0 h
def P21_0 (s : Fr21) (st : ASt) : Prop := P21_0' s st.tmps st.h
def P21_1' (s : Fr21) (t : List AVal) (h : AHeap) : Prop := t.length = 36 ∧ t[2]? = some (.int .i64 s.t2) ∧ t[3]? = some (.bool s.t3)
def P21_1 (s : Fr21) (st : ASt) : Prop := P21_1' s st.tmps st.h
def P21_2' (s : Fr21) (t : List AVal) (h : AHeap) : Prop := ∃ w1_0 w1_1 w1_2 w1_3 w6_0, t.length = 36 ∧ t[1]? = some (.iptr [w1_0, w1_1, w1_2, w1_3]) ∧ Sl rPick s.t1.Picks w1_0 ∧ Sl rS s.t1.Names w1_1 ∧ rTestT s.t1.Where [w1_2] ∧ Sl (rI .i64) s.t1.Sets w1_3 ∧ t[5]? = some (.bool s.t5) ∧ t[6]? = some w6_0 ∧ Gr (rI .i64) 1 s.t6 w6_0 h ∧ t[7]? = some (.int .i64 s.t7)
def P21_2 (s : Fr21) (st : ASt) : Prop := P21_2' s st.tmps st.h
def P21_3' (s : Fr21) (t : List AVal) (h : AHeap) : Prop := ∃ w1_0 w1_1 w1_2 w1_3 w6_0, t.length = 36 ∧ t[1]? = some (.iptr [w1_0, w1_1, w1_2, w1_3]) ∧ Sl rPick s.t1.Picks w1_0 ∧ Sl rS s.t1.Names w1_1 ∧ rTestT s.t1.Where [w1_2] ∧ Sl (rI .i64) s.t1.Sets w1_3 ∧ t[5]? = some (.bool s.t5) ∧ t[6]? = some w6_0 ∧ Gr (rI .i64) 1 s.t6 w6_0 h ∧ t[7]? = some (.int .i64 s.t7) ∧ t[22]? = some (.bool s.t22)
def P21_3 (s : Fr21) (st : ASt) : Prop := P21_3' s st.tmps st.h
def P21_4' (s : Fr21) (t : List AVal) (h : AHeap) : Prop := ∃ w1_0 w1_1 w1_2 w1_3 w6_0, t.length = 36 ∧ t[1]? = some (.iptr [w1_0, w1_1, w1_2, w1_3]) ∧ Sl rPick s.t1.Picks w1_0 ∧ Sl rS s.t1.Names w1_1 ∧ rTestT s.t1.Where [w1_2] ∧ Sl (rI .i64) s.t1.Sets w1_3 ∧ t[5]? = some (.bool s.t5) ∧ t[6]? = some w6_0 ∧ Gr (rI .i64) 1 s.t6 w6_0 h
def P21_4 (s : Fr21) (st : ASt) : Prop := P21_4' s st.tmps st.h
def P21_5' (s : Fr21) (t : List AVal) (h : AHeap) : Prop := ∃ w1_0 w1_1 w1_2 w1_3 w6_0, t.length = 36 ∧ t[1]? = some (.iptr [w1_0, w1_1, w1_2, w1_3]) ∧ Sl rPick s.t1.Picks w1_0 ∧ Sl rS s.t1.Names w1_1 ∧ rTestT s.t1.Where [w1_2] ∧ Sl (rI .i64) s.t1.Sets w1_3 ∧ t[4]? = some (.int .i64 s.t4) ∧ t[5]? = some (.bool s.t5) ∧ t[6]? = some w6_0 ∧ Gr (rI .i64) 1 s.t6 w6_0 h
def P21_5 (s : Fr21) (st : ASt) : Prop := P21_5' s st.tmps st.h
def P21_6' (s : Fr21) (t : List AVal) (h : AHeap) : Prop := ∃ w1_0 w1_1 w1_2 w1_3, t.length = 36 ∧ t[1]? = some (.iptr [w1_0, w1_1, w1_2, w1_3]) ∧ Sl rPick s.t1.Picks w1_0 ∧ Sl rS s.t1.Names w1_1 ∧ rTestT s.t1.Where [w1_2] ∧ Sl (rI .i64) s.t1.Sets w1_3 ∧ t[4]? = some (.int .i64 s.t4) ∧ t[5]? = some (.bool s.t5)
def P21_6 (s : Fr21) (st : ASt) : Prop := P21_6' s st.tmps st.h
def P21_7' (s : Fr21) (t : List AVal) (h : AHeap) : Prop := ∃ w1_0 w1_1 w1_2 w1_3, t.length = 36 ∧ t[1]? = some (.iptr [w1_0, w1_1, w1_2, w1_3]) ∧ Sl rPick s.t1.Picks w1_0 ∧ Sl rS s.t1.Names w1_1 ∧ rTestT s.t1.Where [w1_2] ∧ Sl (rI .i64) s.t1.Sets w1_3
def P21_7 (s : Fr21) (st : ASt) : Prop := P21_7' s st.tmps st.h
def P21_8' (s : Fr21) (t : List AVal) (h : AHeap) : Prop := ∃ w0_0 w0_1 w0_2 w0_3, t.length = 36 ∧ t[0]? = some (.agg [w0_0, w0_1, w0_2, w0_3]) ∧ Sl rPick s.t0.Picks w0_0 ∧ Sl rS s.t0.Names w0_1 ∧ rTestT s.t0.Where [w0_2] ∧ Sl (rI .i64) s.t0.Sets w0_3
def P21_8 (s : Fr21) (st : ASt) : Prop := P21_8' s st.tmps st.h
noncomputable def m21_0 : Mo Fr21 := fun s => (G39 s.t6).bind fun z1 => some (.nrm, { s with t2 := z1, t3 := s.t5 })
noncomputable def m21_1 : Mo Fr21 := fun s => some (.nrm, { s with t7 := IntKind.wrap .i64 (s.t7 + 1) })
noncomputable def m21_2 : Mo Fr21 := fun s => (at? s.t1.Sets s.t7).bind fun y5 => (G29 y5).bind fun z7 => (appT 8 s.t6 z7).bind fun z9 => some (.nrm, { s with t6 := z9 })
noncomputable def m21_3 : Mo Fr21 := fun s => some (.nrm, { s with t22 := decide (s.t7 < (s.t1.Sets.length : Int)) })
noncomputable def L21_4 : Mo Fr21 := seqM (seqM (m21_3) (condM (fun s => s.t22) (skipM) (exitM 0))) (seqM (blockM 1 (m21_2)) (m21_1))
noncomputable def m21_5 : Mo Fr21 := fun s => some (.nrm, { s with t7 := 0 })
noncomputable def m21_6 : Mo Fr21 := fun s => (G29 s.t4).bind fun z19 => (appT 8 s.t6 z19).bind fun z21 => some (.nrm, { s with t6 := z21 })
noncomputable def m21_7 : Mo Fr21 := fun s => some (.nrm, { s with t6 := [] })
noncomputable def m21_8 : Mo Fr21 := fun s => (G38 s.t1.Where).bind fun z27 => some (.nrm, { s with t4 := z27.1, t5 := z27.2 })
noncomputable def m21_9 : Mo Fr21 := fun s => some (.nrm, { s with t1 := s.t0 })
noncomputable def M21 : Mo Fr21 := seqM (m21_9) (seqM (m21_8) (seqM (m21_7) (seqM (m21_6) (seqM (seqM (m21_5) (blockM 0 (loopM (L21_4)))) (seqM (m21_0) (retM))))))
def Spec21 (f : Bound → Option (Int × Bool)) : Prop := ∀ (x0 : Bound) (vx0_0 : AVal) (_ : Sl rPick x0.Picks vx0_0) (vx0_1 : AVal) (_ : Sl rS x0.Names vx0_1) (vx0_2 : AVal) (_ : rTestT x0.Where [vx0_2]) (vx0_3 : AVal) (_ : Sl (rI .i64) x0.Sets vx0_3) (r : (Int × Bool)), f x0 = some r → ∀ h, run Cn 21 [.agg [vx0_0, vx0_1, vx0_2, vx0_3]] h = some (.ret (.tup [.int .i64 r.1, .bool r.2]), h)
theorem Spec21_of {f g : Bound → Option (Int × Bool)} (hg : Spec21 g) (h : ∀ x0 r, f x0 = some r → g x0 = some r) : Spec21 f := fun x0 v0_ w0_ v1_ w1_ v2_ w2_ v3_ w3_ r hr => hg x0 v0_ w0_ v1_ w1_ v2_ w2_ v3_ w3_ r (h x0 r hr)
theorem R21_0 (pe : Nat → Fr21 → ASt → Prop) (pr : Fr21 → ASt → Prop) : Ref Cn P21_0 (Cat [true, true, true, true, true, false] (bodyOf Try.f21)) m21_0 (post P21_1 pe pr) := by
  rintro s ⟨t, h⟩ hp x s' hm
  have hp : P21_0' s t h := hp
  obtain ⟨w6_0, hl, a5, a6, r6_0⟩ := hp
  unfold m21_0 at hm
  obtain ⟨z3, hz3, hm⟩ := Option.bind_eq_some_iff.1 hm
  have iu4 := G39_spec s.t6 _ r6_0.1 _ hz3
  cases hm
  refine ⟨⟨_, _⟩, by
      simp only [bodyOf, Try.f21, Cat, Bool.false_eq_true, e_seq, e_region, e_cond, e_block, ex_skip, ex_exit, ex_ret, o_cons, xops_nil, k_want_none, k_want_false, k_val, k_pan, k_call, k_ret, k_seq, k_seq_exit, k_seq_ret, k_true, k_false, k_block, k_block_exit, k_block_ret, k_loop, k_loop_exit, k_loop_ret, awanted, aoper, evalO, put, Option.getD_some, List.getElem?_set, acallOp, abuiltin, List.map_cons, List.map_nil, Nat.reduceEqDiff, Nat.reduceLT, List.length_set, Option.map_some, Option.bind_some, Option.bind_eq_bind, add_i, sub_i, mul_i, eql_i, neq_i, lss_i, leq_i, gtr_i, geq_i, ofV, ofCell, ↓reduceIte, List.cons_append, List.nil_append, List.append_nil, List.getElem?_toArray, List.getElem?_cons_succ, List.getElem?_cons_zero, e_draw, g_nil, g_cons, g_want, g_skip, g_val, g_call, g_ret, Option.map_none, hl, a5, a6, CP, bq1, bq2, bq3, bq4, ex_tup, iu4]
      exact rfl, ?_⟩
  show P21_1 _ _
  exact ⟨by simp [hl], by simp [hl], by simp [hl]⟩
theorem R21_1 (pe : Nat → Fr21 → ASt → Prop) (pr : Fr21 → ASt → Prop) : Ref Cn P21_2 (Cat [true, true, true, true, false, true, true, true, true, true] (bodyOf Try.f21)) m21_1 (post P21_2 pe pr) := by
  rintro s ⟨t, h⟩ hp x s' hm
  have hp : P21_2' s t h := hp
  obtain ⟨w1_0, w1_1, w1_2, w1_3, w6_0, hl, a1, r1_0, r1_1, r1_2, r1_3, a5, a6, r6_0, a7⟩ := hp
  unfold m21_1 at hm
  cases hm
  refine ⟨⟨_, _⟩, by
      simp only [bodyOf, Try.f21, Cat, Bool.false_eq_true, e_seq, e_region, e_cond, e_block, ex_skip, ex_exit, ex_ret, o_cons, xops_nil, k_want_none, k_want_false, k_val, k_pan, k_call, k_ret, k_seq, k_seq_exit, k_seq_ret, k_true, k_false, k_block, k_block_exit, k_block_ret, k_loop, k_loop_exit, k_loop_ret, awanted, aoper, evalO, put, Option.getD_some, List.getElem?_set, acallOp, abuiltin, List.map_cons, List.map_nil, Nat.reduceEqDiff, Nat.reduceLT, List.length_set, Option.map_some, Option.bind_some, Option.bind_eq_bind, add_i, sub_i, mul_i, eql_i, neq_i, lss_i, leq_i, gtr_i, geq_i, ofV, ofCell, ↓reduceIte, List.cons_append, List.nil_append, List.append_nil, List.getElem?_toArray, List.getElem?_cons_succ, List.getElem?_cons_zero, e_draw, g_nil, g_cons, g_want, g_skip, g_val, g_call, g_ret, Option.map_none, hl, a1, a5, a6, a7, CP, bq1, bq2, bq3, bq4, ex_tup]
      exact rfl, ?_⟩
  show P21_2 _ _
  exact ⟨w1_0, w1_1, w1_2, w1_3, w6_0, by simp [hl], by simp [a1], r1_0, r1_1, r1_2, r1_3, by simp [a5], by simp [a6], r6_0, by simp [hl]⟩
theorem R21_2 (pe : Nat → Fr21 → ASt → Prop) (pr : Fr21 → ASt → Prop) : Ref Cn P21_2 (Cat [true, true, true, true, false, true, true, true, true, false, true] (bodyOf Try.f21)) m21_2 (post P21_2 pe pr) := by
  rintro s ⟨t, h⟩ hp x s' hm
  have hp : P21_2' s t h := hp
  obtain ⟨w1_0, w1_1, w1_2, w1_3, w6_0, hl, a1, r1_0, r1_1, r1_2, r1_3, a5, a6, r6_0, a7⟩ := hp
  unfold m21_2 at hm
  obtain ⟨y11, hy11, hm⟩ := Option.bind_eq_some_iff.1 hm
  obtain ⟨cu12, du12, eu12, iu12, _⟩ := Sl.ix (rI_p .i64) r1_3 hy11
  subst eu12
  obtain ⟨z13, hz13, hm⟩ := Option.bind_eq_some_iff.1 hm
  obtain ⟨bu14_0, gu14_0, iu14⟩ := G29_spec y11  _ hz13
  obtain ⟨z15, hz15, hm⟩ := Option.bind_eq_some_iff.1 hm
  obtain ⟨vu16, hu16, pu16, gu16, nu16, ku16, fu16⟩ := Gr.app (rI_p .i64) r6_0 gu14_0 hz15
  cases hm
  refine ⟨⟨_, _⟩, by
      simp only [bodyOf, Try.f21, Cat, Bool.false_eq_true, e_seq, e_region, e_cond, e_block, ex_skip, ex_exit, ex_ret, o_cons, xops_nil, k_want_none, k_want_false, k_val, k_pan, k_call, k_ret, k_seq, k_seq_exit, k_seq_ret, k_true, k_false, k_block, k_block_exit, k_block_ret, k_loop, k_loop_exit, k_loop_ret, awanted, aoper, evalO, put, Option.getD_some, List.getElem?_set, acallOp, abuiltin, List.map_cons, List.map_nil, Nat.reduceEqDiff, Nat.reduceLT, List.length_set, Option.map_some, Option.bind_some, Option.bind_eq_bind, add_i, sub_i, mul_i, eql_i, neq_i, lss_i, leq_i, gtr_i, geq_i, ofV, ofCell, ↓reduceIte, List.cons_append, List.nil_append, List.append_nil, List.getElem?_toArray, List.getElem?_cons_succ, List.getElem?_cons_zero, e_draw, g_nil, g_cons, g_want, g_skip, g_val, g_call, g_ret, Option.map_none, hl, a1, a5, a6, a7, CP, bq1, bq2, bq3, bq4, ex_tup, Tz.fa36_3, dropCells, List.drop_succ_cons, List.drop_zero, Tz.ld24, ld_ip, ofc1, List.drop_succ_cons, List.drop_zero, Tz.ix24, iu12, Tz.ld3, iu14, pu16, Tz.ap24, Tz.own_ref_go_31]
      exact rfl, ?_⟩
  show P21_2 _ _
  exact ⟨w1_0, w1_1, w1_2, w1_3, vu16, by simp [hl], by simp [a1], r1_0, r1_1, r1_2, r1_3, by simp [a5], by simp [hl], gu16, by simp [a7]⟩
theorem R21_3 (pe : Nat → Fr21 → ASt → Prop) (pr : Fr21 → ASt → Prop) : Ref Cn P21_2 (Cat [true, true, true, true, false, true, true, true, false, false] (bodyOf Try.f21)) m21_3 (post P21_3 pe pr) := by
  rintro s ⟨t, h⟩ hp x s' hm
  have hp : P21_2' s t h := hp
  obtain ⟨w1_0, w1_1, w1_2, w1_3, w6_0, hl, a1, r1_0, r1_1, r1_2, r1_3, a5, a6, r6_0, a7⟩ := hp
  unfold m21_3 at hm
  have lu18 := fun h => Sl.len r1_3 Tz.un24 h
  cases hm
  refine ⟨⟨_, _⟩, by
      simp only [bodyOf, Try.f21, Cat, Bool.false_eq_true, e_seq, e_region, e_cond, e_block, ex_skip, ex_exit, ex_ret, o_cons, xops_nil, k_want_none, k_want_false, k_val, k_pan, k_call, k_ret, k_seq, k_seq_exit, k_seq_ret, k_true, k_false, k_block, k_block_exit, k_block_ret, k_loop, k_loop_exit, k_loop_ret, awanted, aoper, evalO, put, Option.getD_some, List.getElem?_set, acallOp, abuiltin, List.map_cons, List.map_nil, Nat.reduceEqDiff, Nat.reduceLT, List.length_set, Option.map_some, Option.bind_some, Option.bind_eq_bind, add_i, sub_i, mul_i, eql_i, neq_i, lss_i, leq_i, gtr_i, geq_i, ofV, ofCell, ↓reduceIte, List.cons_append, List.nil_append, List.append_nil, List.getElem?_toArray, List.getElem?_cons_succ, List.getElem?_cons_zero, e_draw, g_nil, g_cons, g_want, g_skip, g_val, g_call, g_ret, Option.map_none, hl, a1, a5, a6, a7, CP, bq1, bq2, bq3, bq4, ex_tup, Tz.fa36_3, dropCells, List.drop_succ_cons, List.drop_zero, Tz.ld24, ld_ip, ofc1, List.drop_succ_cons, List.drop_zero, lu18]
      exact rfl, ?_⟩
  show P21_3 _ _
  exact ⟨w1_0, w1_1, w1_2, w1_3, w6_0, by simp [hl], by simp [a1], r1_0, r1_1, r1_2, r1_3, by simp [a5], by simp [a6], r6_0, by simp [a7], by simp [hl]⟩
theorem R21_5 (pe : Nat → Fr21 → ASt → Prop) (pr : Fr21 → ASt → Prop) : Ref Cn P21_4 (Cat [true, true, true, true, false, false] (bodyOf Try.f21)) m21_5 (post P21_2 pe pr) := by
  rintro s ⟨t, h⟩ hp x s' hm
  have hp : P21_4' s t h := hp
  obtain ⟨w1_0, w1_1, w1_2, w1_3, w6_0, hl, a1, r1_0, r1_1, r1_2, r1_3, a5, a6, r6_0⟩ := hp
  unfold m21_5 at hm
  cases hm
  refine ⟨⟨_, _⟩, by
      simp only [bodyOf, Try.f21, Cat, Bool.false_eq_true, e_seq, e_region, e_cond, e_block, ex_skip, ex_exit, ex_ret, o_cons, xops_nil, k_want_none, k_want_false, k_val, k_pan, k_call, k_ret, k_seq, k_seq_exit, k_seq_ret, k_true, k_false, k_block, k_block_exit, k_block_ret, k_loop, k_loop_exit, k_loop_ret, awanted, aoper, evalO, put, Option.getD_some, List.getElem?_set, acallOp, abuiltin, List.map_cons, List.map_nil, Nat.reduceEqDiff, Nat.reduceLT, List.length_set, Option.map_some, Option.bind_some, Option.bind_eq_bind, add_i, sub_i, mul_i, eql_i, neq_i, lss_i, leq_i, gtr_i, geq_i, ofV, ofCell, ↓reduceIte, List.cons_append, List.nil_append, List.append_nil, List.getElem?_toArray, List.getElem?_cons_succ, List.getElem?_cons_zero, e_draw, g_nil, g_cons, g_want, g_skip, g_val, g_call, g_ret, Option.map_none, hl, a1, a5, a6, CP, bq1, bq2, bq3, bq4, ex_tup]
      exact rfl, ?_⟩
  show P21_2 _ _
  exact ⟨w1_0, w1_1, w1_2, w1_3, w6_0, by simp [hl], by simp [a1], r1_0, r1_1, r1_2, r1_3, by simp [a5], by simp [a6], r6_0, by simp [hl]⟩
theorem R21_6 (pe : Nat → Fr21 → ASt → Prop) (pr : Fr21 → ASt → Prop) : Ref Cn P21_5 (Cat [true, true, true, false] (bodyOf Try.f21)) m21_6 (post P21_4 pe pr) := by
  rintro s ⟨t, h⟩ hp x s' hm
  have hp : P21_5' s t h := hp
  obtain ⟨w1_0, w1_1, w1_2, w1_3, w6_0, hl, a1, r1_0, r1_1, r1_2, r1_3, a4, a5, a6, r6_0⟩ := hp
  unfold m21_6 at hm
  obtain ⟨z23, hz23, hm⟩ := Option.bind_eq_some_iff.1 hm
  obtain ⟨bu24_0, gu24_0, iu24⟩ := G29_spec s.t4  _ hz23
  obtain ⟨z25, hz25, hm⟩ := Option.bind_eq_some_iff.1 hm
  obtain ⟨vu26, hu26, pu26, gu26, nu26, ku26, fu26⟩ := Gr.app (rI_p .i64) r6_0 gu24_0 hz25
  cases hm
  refine ⟨⟨_, _⟩, by
      simp only [bodyOf, Try.f21, Cat, Bool.false_eq_true, e_seq, e_region, e_cond, e_block, ex_skip, ex_exit, ex_ret, o_cons, xops_nil, k_want_none, k_want_false, k_val, k_pan, k_call, k_ret, k_seq, k_seq_exit, k_seq_ret, k_true, k_false, k_block, k_block_exit, k_block_ret, k_loop, k_loop_exit, k_loop_ret, awanted, aoper, evalO, put, Option.getD_some, List.getElem?_set, acallOp, abuiltin, List.map_cons, List.map_nil, Nat.reduceEqDiff, Nat.reduceLT, List.length_set, Option.map_some, Option.bind_some, Option.bind_eq_bind, add_i, sub_i, mul_i, eql_i, neq_i, lss_i, leq_i, gtr_i, geq_i, ofV, ofCell, ↓reduceIte, List.cons_append, List.nil_append, List.append_nil, List.getElem?_toArray, List.getElem?_cons_succ, List.getElem?_cons_zero, e_draw, g_nil, g_cons, g_want, g_skip, g_val, g_call, g_ret, Option.map_none, hl, a1, a4, a5, a6, CP, bq1, bq2, bq3, bq4, ex_tup, iu24, pu26, Tz.ap24, Tz.own_ref_go_29]
      exact rfl, ?_⟩
  show P21_4 _ _
  exact ⟨w1_0, w1_1, w1_2, w1_3, vu26, by simp [hl], by simp [a1], r1_0, r1_1, r1_2, r1_3, by simp [a5], by simp [hl], gu26⟩
theorem R21_7 (pe : Nat → Fr21 → ASt → Prop) (pr : Fr21 → ASt → Prop) : Ref Cn P21_6 (Cat [true, true, false] (bodyOf Try.f21)) m21_7 (post P21_5 pe pr) := by
  rintro s ⟨t, h⟩ hp x s' hm
  have hp : P21_6' s t h := hp
  obtain ⟨w1_0, w1_1, w1_2, w1_3, hl, a1, r1_0, r1_1, r1_2, r1_3, a4, a5⟩ := hp
  unfold m21_7 at hm
  cases hm
  refine ⟨⟨_, _⟩, by
      simp only [bodyOf, Try.f21, Cat, Bool.false_eq_true, e_seq, e_region, e_cond, e_block, ex_skip, ex_exit, ex_ret, o_cons, xops_nil, k_want_none, k_want_false, k_val, k_pan, k_call, k_ret, k_seq, k_seq_exit, k_seq_ret, k_true, k_false, k_block, k_block_exit, k_block_ret, k_loop, k_loop_exit, k_loop_ret, awanted, aoper, evalO, put, Option.getD_some, List.getElem?_set, acallOp, abuiltin, List.map_cons, List.map_nil, Nat.reduceEqDiff, Nat.reduceLT, List.length_set, Option.map_some, Option.bind_some, Option.bind_eq_bind, add_i, sub_i, mul_i, eql_i, neq_i, lss_i, leq_i, gtr_i, geq_i, ofV, ofCell, ↓reduceIte, List.cons_append, List.nil_append, List.append_nil, List.getElem?_toArray, List.getElem?_cons_succ, List.getElem?_cons_zero, e_draw, g_nil, g_cons, g_want, g_skip, g_val, g_call, g_ret, Option.map_none, hl, a1, a4, a5, CP, bq1, bq2, bq3, bq4, ex_tup]
      exact rfl, ?_⟩
  show P21_5 _ _
  exact ⟨w1_0, w1_1, w1_2, w1_3, (.nilSl : AVal), by simp [hl], by simp [a1], r1_0, r1_1, r1_2, r1_3, by simp [a4], by simp [a5], by simp [hl], (Gr.nil h)⟩
theorem R21_8 (pe : Nat → Fr21 → ASt → Prop) (pr : Fr21 → ASt → Prop) : Ref Cn P21_7 (Cat [true, false] (bodyOf Try.f21)) m21_8 (post P21_6 pe pr) := by
  rintro s ⟨t, h⟩ hp x s' hm
  have hp : P21_7' s t h := hp
  obtain ⟨w1_0, w1_1, w1_2, w1_3, hl, a1, r1_0, r1_1, r1_2, r1_3⟩ := hp
  unfold m21_8 at hm
  obtain ⟨z29, hz29, hm⟩ := Option.bind_eq_some_iff.1 hm
  have iu30 := G38_spec s.t1.Where _ r1_2 _ hz29
  cases hm
  refine ⟨⟨_, _⟩, by
      simp only [bodyOf, Try.f21, Cat, Bool.false_eq_true, e_seq, e_region, e_cond, e_block, ex_skip, ex_exit, ex_ret, o_cons, xops_nil, k_want_none, k_want_false, k_val, k_pan, k_call, k_ret, k_seq, k_seq_exit, k_seq_ret, k_true, k_false, k_block, k_block_exit, k_block_ret, k_loop, k_loop_exit, k_loop_ret, awanted, aoper, evalO, put, Option.getD_some, List.getElem?_set, acallOp, abuiltin, List.map_cons, List.map_nil, Nat.reduceEqDiff, Nat.reduceLT, List.length_set, Option.map_some, Option.bind_some, Option.bind_eq_bind, add_i, sub_i, mul_i, eql_i, neq_i, lss_i, leq_i, gtr_i, geq_i, ofV, ofCell, ↓reduceIte, List.cons_append, List.nil_append, List.append_nil, List.getElem?_toArray, List.getElem?_cons_succ, List.getElem?_cons_zero, e_draw, g_nil, g_cons, g_want, g_skip, g_val, g_call, g_ret, Option.map_none, hl, a1, CP, bq1, bq2, bq3, bq4, ex_tup, Tz.fa36_2, dropCells, List.drop_succ_cons, List.drop_zero, Tz.ld34, ld_ip, ofc1, List.drop_succ_cons, List.drop_zero, iu30]
      exact rfl, ?_⟩
  show P21_6 _ _
  exact ⟨w1_0, w1_1, w1_2, w1_3, by simp [hl], by simp [a1], r1_0, r1_1, r1_2, r1_3, by simp [hl], by simp [hl]⟩
theorem R21_9 (pe : Nat → Fr21 → ASt → Prop) (pr : Fr21 → ASt → Prop) : Ref Cn P21_8 (Cat [false] (bodyOf Try.f21)) m21_9 (post P21_7 pe pr) := by
  rintro s ⟨t, h⟩ hp x s' hm
  have hp : P21_8' s t h := hp
  obtain ⟨w0_0, w0_1, w0_2, w0_3, hl, a0, r0_0, r0_1, r0_2, r0_3⟩ := hp
  unfold m21_9 at hm
  have ic35 : (w0_0 : AVal).isCell = true := Sl.isCell r0_0
  have ic36 : (w0_1 : AVal).isCell = true := Sl.isCell r0_1
  have ic37 : (w0_2 : AVal).isCell = true := rTestT_cell r0_2
  have ic38 : (w0_3 : AVal).isCell = true := Sl.isCell r0_3
  cases hm
  refine ⟨⟨_, _⟩, by
      simp only [bodyOf, Try.f21, Cat, Bool.false_eq_true, e_seq, e_region, e_cond, e_block, ex_skip, ex_exit, ex_ret, o_cons, xops_nil, k_want_none, k_want_false, k_val, k_pan, k_call, k_ret, k_seq, k_seq_exit, k_seq_ret, k_true, k_false, k_block, k_block_exit, k_block_ret, k_loop, k_loop_exit, k_loop_ret, awanted, aoper, evalO, put, Option.getD_some, List.getElem?_set, acallOp, abuiltin, List.map_cons, List.map_nil, Nat.reduceEqDiff, Nat.reduceLT, List.length_set, Option.map_some, Option.bind_some, Option.bind_eq_bind, add_i, sub_i, mul_i, eql_i, neq_i, lss_i, leq_i, gtr_i, geq_i, ofV, ofCell, ↓reduceIte, List.cons_append, List.nil_append, List.append_nil, List.getElem?_toArray, List.getElem?_cons_succ, List.getElem?_cons_zero, e_draw, g_nil, g_cons, g_want, g_skip, g_val, g_call, g_ret, Option.map_none, hl, a0, CP, bq1, bq2, bq3, bq4, ex_tup, Tz.cb_cube_go_25, Tz.cb_ref_go_26, Tz.cb_law_go_43, ic35, bx_c ic35, cl_c ic35, ic36, bx_c ic36, cl_c ic36, ic37, bx_c ic37, cl_c ic37, ic38, bx_c ic38, cl_c ic38, bx_a, cl_a, bx_i, bx_b, bx_s, cl_i, cl_b, cl_s, List.all_cons, List.all_nil, Bool.and_self, Bool.and_true, c_i, c_b, c_s, c_nl, c_np, c_ip, c_ls]
      exact rfl, ?_⟩
  show P21_7 _ _
  exact ⟨w0_0, w0_1, w0_2, w0_3, by simp [hl], by simp [hl], r0_0, r0_1, r0_2, r0_3⟩
theorem B21 : Ref Cn P21_8 (bodyOf Try.f21) (M21) (post P21_1 (fun _ _ _ => False) P21_1) := by
  rw [show bodyOf Try.f21 = .seq (Cat [false] (bodyOf Try.f21)) (.seq (Cat [true, false] (bodyOf Try.f21)) (.seq (Cat [true, true, false] (bodyOf Try.f21)) (.seq (Cat [true, true, true, false] (bodyOf Try.f21)) (.seq (.seq (Cat [true, true, true, true, false, false] (bodyOf Try.f21)) (.block 0 (.loop (.seq (.seq (Cat [true, true, true, true, false, true, true, true, false, false] (bodyOf Try.f21)) (.cond (.tmp 22) (.skip) (.exit 0))) (.seq (.block 1 (Cat [true, true, true, true, false, true, true, true, true, false, true] (bodyOf Try.f21))) (Cat [true, true, true, true, false, true, true, true, true, true] (bodyOf Try.f21))))))) (.seq (Cat [true, true, true, true, true, false] (bodyOf Try.f21)) (.ret)))))) from rfl]
  unfold M21
  exact ref_seq (M := P21_7) (R21_9 _ _) (ref_seq (M := P21_6) (R21_8 _ _) (ref_seq (M := P21_5) (R21_7 _ _) (ref_seq (M := P21_4) (R21_6 _ _) (ref_seq (M := P21_0) (ref_seq (M := P21_2) (R21_5 _ _) (ref_block (ref_loop (P := P21_2) (ref_weak (P' := P21_2) (fun s st hp => hp) (ref_seq (M := P21_2) (ref_seq (M := P21_3) (R21_3 _ _) (ref_cond (P := P21_3) (c := fun s => s.t22) (fun s st hp => by obtain ⟨w1_0, w1_1, w1_2, w1_3, w6_0, hl, a1, r1_0, r1_1, r1_2, r1_3, a5, a6, r6_0, a7, a22⟩ := (hp : P21_3' s st.tmps st.h); simp only [evalO, a22, Option.getD_some]) (ref_weak (P' := P21_2) (fun s st hp => by obtain ⟨w1_0, w1_1, w1_2, w1_3, w6_0, hl, a1, r1_0, r1_1, r1_2, r1_3, a5, a6, r6_0, a7, a22⟩ := (hp : P21_3' s st.tmps st.h); exact (⟨w1_0, w1_1, w1_2, w1_3, w6_0, hl, a1, r1_0, r1_1, r1_2, r1_3, a5, a6, r6_0, a7⟩ : P21_2' s st.tmps st.h)) (ref_skip (fun s st hp => hp))) (ref_weak (P' := P21_0) (fun s st hp => by obtain ⟨w1_0, w1_1, w1_2, w1_3, w6_0, hl, a1, r1_0, r1_1, r1_2, r1_3, a5, a6, r6_0, a7, a22⟩ := (hp : P21_3' s st.tmps st.h); exact (⟨w6_0, hl, a5, a6, r6_0⟩ : P21_0' s st.tmps st.h)) (ref_exit (fun s st hp => hp))))) (ref_seq (M := P21_2) (ref_block (R21_2 _ _)) (R21_1 _ _))))))) (ref_seq (M := P21_1) (R21_0 _ _) (ref_ret (fun s st hp => hp)))))))
noncomputable def G21 (x0 : Bound) : Option (Int × Bool) := match M21 { (default : Fr21) with t0 := x0 } with
  | some (.nrm, s) => some (s.t2, s.t3)
  | some (.ret, s) => some (s.t2, s.t3)
  | _ => none
theorem G21_spec : Spec21 (G21) := by
  intro x0 vx0_0 hvx0_0 vx0_1 hvx0_1 vx0_2 hvx0_2 vx0_3 hvx0_3 r hr
  unfold G21 at hr
  cases hm : M21 { (default : Fr21) with t0 := x0 } with
  | none => rw [hm] at hr; cases hr
  | some q =>
    obtain ⟨x, s⟩ := q
    rw [hm] at hr
    have hx : x = .nrm ∨ x = .ret := by cases x <;> first | exact .inl rfl | exact .inr rfl | cases hr
    have hr : (s.t2, s.t3) = r := by cases x <;> first | exact Option.some.inj hr | cases hr
    subst hr
    have h0 : P21_8' ({ (default : Fr21) with t0 := x0 }) (slots Try.f21 (stripL [.agg [vx0_0, vx0_1, vx0_2, vx0_3]])) bare := ⟨(strip vx0_0 : AVal), (strip vx0_1 : AVal), (strip vx0_2 : AVal), (strip vx0_3 : AVal), rfl, rfl, hvx0_0.strip rPick_p, hvx0_1.strip rS_p, rTestT_p.str _ _ hvx0_2, hvx0_3.strip (rI_p .i64)⟩
    obtain ⟨v, hR, _, hrun⟩ := run_of_ref (C := Cn) (f := 21) (fn := Try.f21) Try.func21 rfl rfl rfl rfl (args := [.agg [vx0_0, vx0_1, vx0_2, vx0_3]]) (by simp only [refsL, refs, List.append_nil, hvx0_0.refs rPick_p, hvx0_1.refs rS_p, refs_one (rTestT_p.ref _ _ hvx0_2), hvx0_3.refs (rI_p .i64)]) (B21) (s0 := { (default : Fr21) with t0 := x0 }) h0 hm hx (R := fun v => v = .tup [.int .i64 s.t2, .bool s.t3]) (by
      have key : ∀ st : ASt, P21_1 s st → ∃ vs v, aresults Cn Try.f21.results.toList st = some vs ∧ packRes vs = v ∧ refs v = [] ∧ (fun v => v = .tup [.int .i64 s.t2, .bool s.t3]) (strip v) := by
        intro st hp
        obtain ⟨hl, a2, a3⟩ := (hp : P21_1' s st.tmps st.h)
        refine ⟨[.int .i64 s.t2, .bool s.t3], _, by simp only [show Try.f21.results.toList = [ResultVar.tmp 2, ResultVar.tmp 3] from rfl, aresults, ares1, a2, a3, Option.getD_some], rfl, by simp only [packRes, refsL, refs, List.append_nil], rfl⟩
      intro st hq
      rcases hx with rfl | rfl
      · exact key st hq
      · exact key st hq)
    subst hR
    exact hrun
/-! ### caisson/caissonlaw16.awake -/
def Spec7 (f : Option Bool) : Prop := ∀ (r : Bool), f  = some r → ∀ h, run Cn 7 [] h = some (.ret (.bool r), h)
theorem S7_spec : Spec7 S7 := fun r hr h => by cases hr; exact awake_run h
/-! ### caisson/caissonlaw16.CubeNeeds -/
structure Fr6 where
  t0 : Bound
  t1 : Bound
  t2 : Bool
  t3 : Bool
  t4 : Int
  t5 : Bool
  t6 : Int
  t7 : Bool
instance : Inhabited Fr6 := ⟨⟨default, default, false, false, 0, false, 0, false⟩⟩
def P6_0' (s : Fr6) (t : List AVal) (h : AHeap) : Prop := t.length = 30 ∧ t[3]? = some (.bool s.t3) ∧ t[4]? = some (.int .i64 s.t4) ∧ t[5]? = some (.bool s.t5) ∧ t[6]? = some (.int .i64 s.t6) ∧ t[7]? = some (.bool s.t7)
def P6_0 (s : Fr6) (st : ASt) : Prop := P6_0' s st.tmps st.h
def P6_1' (s : Fr6) (t : List AVal) (h : AHeap) : Prop := t.length = 30 ∧ t[2]? = some (.bool s.t2)
def P6_1 (s : Fr6) (st : ASt) : Prop := P6_1' s st.tmps st.h
def P6_2' (s : Fr6) (t : List AVal) (h : AHeap) : Prop := ∃ w1_0 w1_1 w1_2 w1_3, t.length = 30 ∧ t[1]? = some (.iptr [w1_0, w1_1, w1_2, w1_3]) ∧ Sl rPick s.t1.Picks w1_0 ∧ Sl rS s.t1.Names w1_1 ∧ rTestT s.t1.Where [w1_2] ∧ Sl (rI .i64) s.t1.Sets w1_3 ∧ t[3]? = some (.bool s.t3) ∧ t[4]? = some (.int .i64 s.t4) ∧ t[5]? = some (.bool s.t5)
def P6_2 (s : Fr6) (st : ASt) : Prop := P6_2' s st.tmps st.h
def P6_3' (s : Fr6) (t : List AVal) (h : AHeap) : Prop := ∃ w1_0 w1_1 w1_2 w1_3, t.length = 30 ∧ t[1]? = some (.iptr [w1_0, w1_1, w1_2, w1_3]) ∧ Sl rPick s.t1.Picks w1_0 ∧ Sl rS s.t1.Names w1_1 ∧ rTestT s.t1.Where [w1_2] ∧ Sl (rI .i64) s.t1.Sets w1_3 ∧ t[3]? = some (.bool s.t3)
def P6_3 (s : Fr6) (st : ASt) : Prop := P6_3' s st.tmps st.h
def P6_4' (s : Fr6) (t : List AVal) (h : AHeap) : Prop := ∃ w1_0 w1_1 w1_2 w1_3, t.length = 30 ∧ t[1]? = some (.iptr [w1_0, w1_1, w1_2, w1_3]) ∧ Sl rPick s.t1.Picks w1_0 ∧ Sl rS s.t1.Names w1_1 ∧ rTestT s.t1.Where [w1_2] ∧ Sl (rI .i64) s.t1.Sets w1_3
def P6_4 (s : Fr6) (st : ASt) : Prop := P6_4' s st.tmps st.h
def P6_5' (s : Fr6) (t : List AVal) (h : AHeap) : Prop := ∃ w0_0 w0_1 w0_2 w0_3, t.length = 30 ∧ t[0]? = some (.agg [w0_0, w0_1, w0_2, w0_3]) ∧ Sl rPick s.t0.Picks w0_0 ∧ Sl rS s.t0.Names w0_1 ∧ rTestT s.t0.Where [w0_2] ∧ Sl (rI .i64) s.t0.Sets w0_3
def P6_5 (s : Fr6) (st : ASt) : Prop := P6_5' s st.tmps st.h
noncomputable def m6_0 : Mo Fr6 := fun s => some (.nrm, { s with t2 := ((s.t3 && (s.t4 == s.t6)) && (s.t5 == s.t7)) })
noncomputable def m6_1 : Mo Fr6 := fun s => (G21 s.t1).bind fun z3 => some (.nrm, { s with t6 := z3.1, t7 := z3.2 })
noncomputable def m6_2 : Mo Fr6 := fun s => (G20 s.t1).bind fun z7 => some (.nrm, { s with t4 := z7.1, t5 := z7.2 })
noncomputable def m6_3 : Mo Fr6 := fun s => (S7 ).bind fun z11 => some (.nrm, { s with t3 := z11 })
noncomputable def m6_4 : Mo Fr6 := fun s => some (.nrm, { s with t1 := s.t0 })
noncomputable def M6 : Mo Fr6 := seqM (m6_4) (seqM (m6_3) (seqM (m6_2) (seqM (m6_1) (seqM (m6_0) (retM)))))
def Spec6 (f : Bound → Option Bool) : Prop := ∀ (x0 : Bound) (vx0_0 : AVal) (_ : Sl rPick x0.Picks vx0_0) (vx0_1 : AVal) (_ : Sl rS x0.Names vx0_1) (vx0_2 : AVal) (_ : rTestT x0.Where [vx0_2]) (vx0_3 : AVal) (_ : Sl (rI .i64) x0.Sets vx0_3) (r : Bool), f x0 = some r → ∀ h, run Cn 6 [.agg [vx0_0, vx0_1, vx0_2, vx0_3]] h = some (.ret (.bool r), h)
theorem Spec6_of {f g : Bound → Option Bool} (hg : Spec6 g) (h : ∀ x0 r, f x0 = some r → g x0 = some r) : Spec6 f := fun x0 v0_ w0_ v1_ w1_ v2_ w2_ v3_ w3_ r hr => hg x0 v0_ w0_ v1_ w1_ v2_ w2_ v3_ w3_ r (h x0 r hr)
theorem R6_0 (pe : Nat → Fr6 → ASt → Prop) (pr : Fr6 → ASt → Prop) : Ref Cn P6_0 (Cat [true, true, true, true, false] (bodyOf Try.f6)) m6_0 (post P6_1 pe pr) := by
  rintro s ⟨t, h⟩ hp x s' hm
  have hp : P6_0' s t h := hp
  obtain ⟨hl, a3, a4, a5, a6, a7⟩ := hp
  unfold m6_0 at hm
  cases hb1 : s.t3 with
  | true =>
    all_goals (
      try simp only [hb1, cond_true, cond_false, Option.bind_some, Option.bind_assoc, Bool.not_true, Bool.not_false, Bool.true_and, Bool.false_and, Bool.and_true, Bool.and_false, Bool.true_or, Bool.false_or] at hm
      cases hb2 : (s.t4 == s.t6) with
      | true =>
        all_goals (
          try simp only [hb2, cond_true, cond_false, Option.bind_some, Option.bind_assoc, Bool.not_true, Bool.not_false, Bool.true_and, Bool.false_and, Bool.and_true, Bool.and_false, Bool.true_or, Bool.false_or] at hm
          cases hm
          refine ⟨⟨_, _⟩, by
              simp only [bodyOf, Try.f6, Cat, Bool.false_eq_true, e_seq, e_region, e_cond, e_block, ex_skip, ex_exit, ex_ret, o_cons, xops_nil, k_want_none, k_want_false, k_val, k_pan, k_call, k_ret, k_seq, k_seq_exit, k_seq_ret, k_true, k_false, k_block, k_block_exit, k_block_ret, k_loop, k_loop_exit, k_loop_ret, awanted, aoper, evalO, put, Option.getD_some, List.getElem?_set, acallOp, abuiltin, List.map_cons, List.map_nil, Nat.reduceEqDiff, Nat.reduceLT, List.length_set, Option.map_some, Option.bind_some, Option.bind_eq_bind, add_i, sub_i, mul_i, eql_i, neq_i, lss_i, leq_i, gtr_i, geq_i, ofV, ofCell, ↓reduceIte, List.cons_append, List.nil_append, List.append_nil, List.getElem?_toArray, List.getElem?_cons_succ, List.getElem?_cons_zero, e_draw, g_nil, g_cons, g_want, g_skip, g_val, g_call, g_ret, Option.map_none, hl, a3, a4, a5, a6, a7, CP, bq1, bq2, bq3, bq4, ex_tup, Tz.eqlb4, hb1, hb2]
              exact rfl, ?_⟩
          show P6_1 _ _
          exact ⟨by simp [hl], by simp [hl, hb1, hb2]⟩)
      | false =>
        all_goals (
          try simp only [hb2, cond_true, cond_false, Option.bind_some, Option.bind_assoc, Bool.not_true, Bool.not_false, Bool.true_and, Bool.false_and, Bool.and_true, Bool.and_false, Bool.true_or, Bool.false_or] at hm
          cases hm
          refine ⟨⟨_, _⟩, by
              simp only [bodyOf, Try.f6, Cat, Bool.false_eq_true, e_seq, e_region, e_cond, e_block, ex_skip, ex_exit, ex_ret, o_cons, xops_nil, k_want_none, k_want_false, k_val, k_pan, k_call, k_ret, k_seq, k_seq_exit, k_seq_ret, k_true, k_false, k_block, k_block_exit, k_block_ret, k_loop, k_loop_exit, k_loop_ret, awanted, aoper, evalO, put, Option.getD_some, List.getElem?_set, acallOp, abuiltin, List.map_cons, List.map_nil, Nat.reduceEqDiff, Nat.reduceLT, List.length_set, Option.map_some, Option.bind_some, Option.bind_eq_bind, add_i, sub_i, mul_i, eql_i, neq_i, lss_i, leq_i, gtr_i, geq_i, ofV, ofCell, ↓reduceIte, List.cons_append, List.nil_append, List.append_nil, List.getElem?_toArray, List.getElem?_cons_succ, List.getElem?_cons_zero, e_draw, g_nil, g_cons, g_want, g_skip, g_val, g_call, g_ret, Option.map_none, hl, a3, a4, a5, a6, a7, CP, bq1, bq2, bq3, bq4, ex_tup, hb1, hb2]
              exact rfl, ?_⟩
          show P6_1 _ _
          exact ⟨by simp [hl], by simp [hl, hb1, hb2]⟩))
  | false =>
    all_goals (
      try simp only [hb1, cond_true, cond_false, Option.bind_some, Option.bind_assoc, Bool.not_true, Bool.not_false, Bool.true_and, Bool.false_and, Bool.and_true, Bool.and_false, Bool.true_or, Bool.false_or] at hm
      cases hm
      refine ⟨⟨_, _⟩, by
          simp only [bodyOf, Try.f6, Cat, Bool.false_eq_true, e_seq, e_region, e_cond, e_block, ex_skip, ex_exit, ex_ret, o_cons, xops_nil, k_want_none, k_want_false, k_val, k_pan, k_call, k_ret, k_seq, k_seq_exit, k_seq_ret, k_true, k_false, k_block, k_block_exit, k_block_ret, k_loop, k_loop_exit, k_loop_ret, awanted, aoper, evalO, put, Option.getD_some, List.getElem?_set, acallOp, abuiltin, List.map_cons, List.map_nil, Nat.reduceEqDiff, Nat.reduceLT, List.length_set, Option.map_some, Option.bind_some, Option.bind_eq_bind, add_i, sub_i, mul_i, eql_i, neq_i, lss_i, leq_i, gtr_i, geq_i, ofV, ofCell, ↓reduceIte, List.cons_append, List.nil_append, List.append_nil, List.getElem?_toArray, List.getElem?_cons_succ, List.getElem?_cons_zero, e_draw, g_nil, g_cons, g_want, g_skip, g_val, g_call, g_ret, Option.map_none, hl, a3, a4, a5, a6, a7, CP, bq1, bq2, bq3, bq4, ex_tup, hb1]
          exact rfl, ?_⟩
      show P6_1 _ _
      exact ⟨by simp [hl], by simp [hl, hb1]⟩)
theorem R6_1 (pe : Nat → Fr6 → ASt → Prop) (pr : Fr6 → ASt → Prop) : Ref Cn P6_2 (Cat [true, true, true, false] (bodyOf Try.f6)) m6_1 (post P6_0 pe pr) := by
  rintro s ⟨t, h⟩ hp x s' hm
  have hp : P6_2' s t h := hp
  obtain ⟨w1_0, w1_1, w1_2, w1_3, hl, a1, r1_0, r1_1, r1_2, r1_3, a3, a4, a5⟩ := hp
  unfold m6_1 at hm
  obtain ⟨z5, hz5, hm⟩ := Option.bind_eq_some_iff.1 hm
  have iu6 := G21_spec s.t1 _ r1_0 _ r1_1 _ r1_2 _ r1_3 _ hz5
  cases hm
  refine ⟨⟨_, _⟩, by
      simp only [bodyOf, Try.f6, Cat, Bool.false_eq_true, e_seq, e_region, e_cond, e_block, ex_skip, ex_exit, ex_ret, o_cons, xops_nil, k_want_none, k_want_false, k_val, k_pan, k_call, k_ret, k_seq, k_seq_exit, k_seq_ret, k_true, k_false, k_block, k_block_exit, k_block_ret, k_loop, k_loop_exit, k_loop_ret, awanted, aoper, evalO, put, Option.getD_some, List.getElem?_set, acallOp, abuiltin, List.map_cons, List.map_nil, Nat.reduceEqDiff, Nat.reduceLT, List.length_set, Option.map_some, Option.bind_some, Option.bind_eq_bind, add_i, sub_i, mul_i, eql_i, neq_i, lss_i, leq_i, gtr_i, geq_i, ofV, ofCell, ↓reduceIte, List.cons_append, List.nil_append, List.append_nil, List.getElem?_toArray, List.getElem?_cons_succ, List.getElem?_cons_zero, e_draw, g_nil, g_cons, g_want, g_skip, g_val, g_call, g_ret, Option.map_none, hl, a1, a3, a4, a5, CP, bq1, bq2, bq3, bq4, ex_tup, Tz.ld36, ld_ip, ofc4, List.drop_succ_cons, List.drop_zero, List.length_cons, List.length_nil, iu6]
      exact rfl, ?_⟩
  show P6_0 _ _
  exact ⟨by simp [hl], by simp [a3], by simp [a4], by simp [a5], by simp [hl], by simp [hl]⟩
theorem R6_2 (pe : Nat → Fr6 → ASt → Prop) (pr : Fr6 → ASt → Prop) : Ref Cn P6_3 (Cat [true, true, false] (bodyOf Try.f6)) m6_2 (post P6_2 pe pr) := by
  rintro s ⟨t, h⟩ hp x s' hm
  have hp : P6_3' s t h := hp
  obtain ⟨w1_0, w1_1, w1_2, w1_3, hl, a1, r1_0, r1_1, r1_2, r1_3, a3⟩ := hp
  unfold m6_2 at hm
  obtain ⟨z9, hz9, hm⟩ := Option.bind_eq_some_iff.1 hm
  have iu10 := G20_spec s.t1 _ r1_0 _ r1_1 _ r1_2 _ r1_3 _ hz9
  cases hm
  refine ⟨⟨_, _⟩, by
      simp only [bodyOf, Try.f6, Cat, Bool.false_eq_true, e_seq, e_region, e_cond, e_block, ex_skip, ex_exit, ex_ret, o_cons, xops_nil, k_want_none, k_want_false, k_val, k_pan, k_call, k_ret, k_seq, k_seq_exit, k_seq_ret, k_true, k_false, k_block, k_block_exit, k_block_ret, k_loop, k_loop_exit, k_loop_ret, awanted, aoper, evalO, put, Option.getD_some, List.getElem?_set, acallOp, abuiltin, List.map_cons, List.map_nil, Nat.reduceEqDiff, Nat.reduceLT, List.length_set, Option.map_some, Option.bind_some, Option.bind_eq_bind, add_i, sub_i, mul_i, eql_i, neq_i, lss_i, leq_i, gtr_i, geq_i, ofV, ofCell, ↓reduceIte, List.cons_append, List.nil_append, List.append_nil, List.getElem?_toArray, List.getElem?_cons_succ, List.getElem?_cons_zero, e_draw, g_nil, g_cons, g_want, g_skip, g_val, g_call, g_ret, Option.map_none, hl, a1, a3, CP, bq1, bq2, bq3, bq4, ex_tup, Tz.ld36, ld_ip, ofc4, List.drop_succ_cons, List.drop_zero, List.length_cons, List.length_nil, iu10]
      exact rfl, ?_⟩
  show P6_2 _ _
  exact ⟨w1_0, w1_1, w1_2, w1_3, by simp [hl], by simp [a1], r1_0, r1_1, r1_2, r1_3, by simp [a3], by simp [hl], by simp [hl]⟩
theorem R6_3 (pe : Nat → Fr6 → ASt → Prop) (pr : Fr6 → ASt → Prop) : Ref Cn P6_4 (Cat [true, false] (bodyOf Try.f6)) m6_3 (post P6_3 pe pr) := by
  rintro s ⟨t, h⟩ hp x s' hm
  have hp : P6_4' s t h := hp
  obtain ⟨w1_0, w1_1, w1_2, w1_3, hl, a1, r1_0, r1_1, r1_2, r1_3⟩ := hp
  unfold m6_3 at hm
  obtain ⟨z13, hz13, hm⟩ := Option.bind_eq_some_iff.1 hm
  have iu14 := S7_spec   _ hz13
  cases hm
  refine ⟨⟨_, _⟩, by
      simp only [bodyOf, Try.f6, Cat, Bool.false_eq_true, e_seq, e_region, e_cond, e_block, ex_skip, ex_exit, ex_ret, o_cons, xops_nil, k_want_none, k_want_false, k_val, k_pan, k_call, k_ret, k_seq, k_seq_exit, k_seq_ret, k_true, k_false, k_block, k_block_exit, k_block_ret, k_loop, k_loop_exit, k_loop_ret, awanted, aoper, evalO, put, Option.getD_some, List.getElem?_set, acallOp, abuiltin, List.map_cons, List.map_nil, Nat.reduceEqDiff, Nat.reduceLT, List.length_set, Option.map_some, Option.bind_some, Option.bind_eq_bind, add_i, sub_i, mul_i, eql_i, neq_i, lss_i, leq_i, gtr_i, geq_i, ofV, ofCell, ↓reduceIte, List.cons_append, List.nil_append, List.append_nil, List.getElem?_toArray, List.getElem?_cons_succ, List.getElem?_cons_zero, e_draw, g_nil, g_cons, g_want, g_skip, g_val, g_call, g_ret, Option.map_none, hl, a1, CP, bq1, bq2, bq3, bq4, ex_tup, iu14]
      exact rfl, ?_⟩
  show P6_3 _ _
  exact ⟨w1_0, w1_1, w1_2, w1_3, by simp [hl], by simp [a1], r1_0, r1_1, r1_2, r1_3, by simp [hl]⟩
theorem R6_4 (pe : Nat → Fr6 → ASt → Prop) (pr : Fr6 → ASt → Prop) : Ref Cn P6_5 (Cat [false] (bodyOf Try.f6)) m6_4 (post P6_4 pe pr) := by
  rintro s ⟨t, h⟩ hp x s' hm
  have hp : P6_5' s t h := hp
  obtain ⟨w0_0, w0_1, w0_2, w0_3, hl, a0, r0_0, r0_1, r0_2, r0_3⟩ := hp
  unfold m6_4 at hm
  have ic19 : (w0_0 : AVal).isCell = true := Sl.isCell r0_0
  have ic20 : (w0_1 : AVal).isCell = true := Sl.isCell r0_1
  have ic21 : (w0_2 : AVal).isCell = true := rTestT_cell r0_2
  have ic22 : (w0_3 : AVal).isCell = true := Sl.isCell r0_3
  cases hm
  refine ⟨⟨_, _⟩, by
      simp only [bodyOf, Try.f6, Cat, Bool.false_eq_true, e_seq, e_region, e_cond, e_block, ex_skip, ex_exit, ex_ret, o_cons, xops_nil, k_want_none, k_want_false, k_val, k_pan, k_call, k_ret, k_seq, k_seq_exit, k_seq_ret, k_true, k_false, k_block, k_block_exit, k_block_ret, k_loop, k_loop_exit, k_loop_ret, awanted, aoper, evalO, put, Option.getD_some, List.getElem?_set, acallOp, abuiltin, List.map_cons, List.map_nil, Nat.reduceEqDiff, Nat.reduceLT, List.length_set, Option.map_some, Option.bind_some, Option.bind_eq_bind, add_i, sub_i, mul_i, eql_i, neq_i, lss_i, leq_i, gtr_i, geq_i, ofV, ofCell, ↓reduceIte, List.cons_append, List.nil_append, List.append_nil, List.getElem?_toArray, List.getElem?_cons_succ, List.getElem?_cons_zero, e_draw, g_nil, g_cons, g_want, g_skip, g_val, g_call, g_ret, Option.map_none, hl, a0, CP, bq1, bq2, bq3, bq4, ex_tup, Tz.cb_cube_go_25, Tz.cb_ref_go_26, Tz.cb_law_go_43, ic19, bx_c ic19, cl_c ic19, ic20, bx_c ic20, cl_c ic20, ic21, bx_c ic21, cl_c ic21, ic22, bx_c ic22, cl_c ic22, bx_a, cl_a, bx_i, bx_b, bx_s, cl_i, cl_b, cl_s, List.all_cons, List.all_nil, Bool.and_self, Bool.and_true, c_i, c_b, c_s, c_nl, c_np, c_ip, c_ls]
      exact rfl, ?_⟩
  show P6_4 _ _
  exact ⟨w0_0, w0_1, w0_2, w0_3, by simp [hl], by simp [hl], r0_0, r0_1, r0_2, r0_3⟩
theorem B6 : Ref Cn P6_5 (bodyOf Try.f6) (M6) (post P6_1 (fun _ _ _ => False) P6_1) := by
  rw [show bodyOf Try.f6 = .seq (Cat [false] (bodyOf Try.f6)) (.seq (Cat [true, false] (bodyOf Try.f6)) (.seq (Cat [true, true, false] (bodyOf Try.f6)) (.seq (Cat [true, true, true, false] (bodyOf Try.f6)) (.seq (Cat [true, true, true, true, false] (bodyOf Try.f6)) (.ret))))) from rfl]
  unfold M6
  exact ref_seq (M := P6_4) (R6_4 _ _) (ref_seq (M := P6_3) (R6_3 _ _) (ref_seq (M := P6_2) (R6_2 _ _) (ref_seq (M := P6_0) (R6_1 _ _) (ref_seq (M := P6_1) (R6_0 _ _) (ref_ret (fun s st hp => hp))))))
noncomputable def G6 (x0 : Bound) : Option Bool := match M6 { (default : Fr6) with t0 := x0 } with
  | some (.nrm, s) => some s.t2
  | some (.ret, s) => some s.t2
  | _ => none
theorem G6_spec : Spec6 (G6) := by
  intro x0 vx0_0 hvx0_0 vx0_1 hvx0_1 vx0_2 hvx0_2 vx0_3 hvx0_3 r hr
  unfold G6 at hr
  cases hm : M6 { (default : Fr6) with t0 := x0 } with
  | none => rw [hm] at hr; cases hr
  | some q =>
    obtain ⟨x, s⟩ := q
    rw [hm] at hr
    have hx : x = .nrm ∨ x = .ret := by cases x <;> first | exact .inl rfl | exact .inr rfl | cases hr
    have hr : s.t2 = r := by cases x <;> first | exact Option.some.inj hr | cases hr
    subst hr
    have h0 : P6_5' ({ (default : Fr6) with t0 := x0 }) (slots Try.f6 (stripL [.agg [vx0_0, vx0_1, vx0_2, vx0_3]])) bare := ⟨(strip vx0_0 : AVal), (strip vx0_1 : AVal), (strip vx0_2 : AVal), (strip vx0_3 : AVal), rfl, rfl, hvx0_0.strip rPick_p, hvx0_1.strip rS_p, rTestT_p.str _ _ hvx0_2, hvx0_3.strip (rI_p .i64)⟩
    obtain ⟨v, hR, _, hrun⟩ := run_of_ref (C := Cn) (f := 6) (fn := Try.f6) Try.func6 rfl rfl rfl rfl (args := [.agg [vx0_0, vx0_1, vx0_2, vx0_3]]) (by simp only [refsL, refs, List.append_nil, hvx0_0.refs rPick_p, hvx0_1.refs rS_p, refs_one (rTestT_p.ref _ _ hvx0_2), hvx0_3.refs (rI_p .i64)]) (B6) (s0 := { (default : Fr6) with t0 := x0 }) h0 hm hx (R := fun v => v = .bool s.t2) (by
      have key : ∀ st : ASt, P6_1 s st → ∃ vs v, aresults Cn Try.f6.results.toList st = some vs ∧ packRes vs = v ∧ refs v = [] ∧ (fun v => v = .bool s.t2) (strip v) := by
        intro st hp
        obtain ⟨hl, a2⟩ := (hp : P6_1' s st.tmps st.h)
        refine ⟨[.bool s.t2], _, by simp only [show Try.f6.results.toList = [ResultVar.tmp 2] from rfl, aresults, ares1, a2, Option.getD_some], rfl, by simp only [packRes, refsL, refs, List.append_nil], rfl⟩
      intro st hq
      rcases hx with rfl | rfl
      · exact key st hq
      · exact key st hq)
    subst hR
    exact hrun
end Go.Proofs.Need
