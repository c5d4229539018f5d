/-
  CUBE: functions (printed by wip/tools/tg.py).
-/
import Derived.Test.YtgjdlakemaabfaaNeedTypes
set_option linter.unusedVariables false
set_option linter.unusedSimpArgs false
set_option linter.unusedSimpArgs false
set_option linter.unusedVariables false
set_option maxRecDepth 100000
namespace Go.Proofs.Need
open Go Go.Am Go.Proofs
/-! ### caisson/caissonref11.bit -/
structure Fr53 where
  t0 : Int
  t2 : Int
  t3 : Int
  t4 : Int
  t7 : Bool
instance : Inhabited Fr53 := ⟨⟨0, 0, 0, 0, false⟩⟩
def P53_0' (s : Fr53) (t : List AVal) (h : AHeap) : Prop := t.length = 13 ∧ t[3]? = some (.int .i64 s.t3)
def P53_0 (s : Fr53) (st : ASt) : Prop := P53_0' s st.tmps st.h
def P53_1' (s : Fr53) (t : List AVal) (h : AHeap) : Prop := t.length = 13 ∧ t[2]? = some (.int .i64 s.t2)
def P53_1 (s : Fr53) (st : ASt) : Prop := P53_1' s st.tmps st.h
def P53_2' (s : Fr53) (t : List AVal) (h : AHeap) : Prop := t.length = 13 ∧ t[0]? = some (.int .i64 s.t0) ∧ t[3]? = some (.int .i64 s.t3) ∧ t[4]? = some (.int .i64 s.t4)
def P53_2 (s : Fr53) (st : ASt) : Prop := P53_2' s st.tmps st.h
def P53_3' (s : Fr53) (t : List AVal) (h : AHeap) : Prop := t.length = 13 ∧ t[0]? = some (.int .i64 s.t0) ∧ t[3]? = some (.int .i64 s.t3) ∧ t[4]? = some (.int .i64 s.t4) ∧ t[7]? = some (.bool s.t7)
def P53_3 (s : Fr53) (st : ASt) : Prop := P53_3' s st.tmps st.h
def P53_4' (s : Fr53) (t : List AVal) (h : AHeap) : Prop := t.length = 13 ∧ t[0]? = some (.int .i64 s.t0) ∧ t[3]? = some (.int .i64 s.t3)
def P53_4 (s : Fr53) (st : ASt) : Prop := P53_4' s st.tmps st.h
def P53_5' (s : Fr53) (t : List AVal) (h : AHeap) : Prop := t.length = 13 ∧ t[0]? = some (.int .i64 s.t0)
def P53_5 (s : Fr53) (st : ASt) : Prop := P53_5' s st.tmps st.h
noncomputable def m53_0 : Mo Fr53 := fun s => some (.nrm, { s with t2 := s.t3 })
noncomputable def m53_1 : Mo Fr53 := fun s => some (.nrm, { s with t4 := IntKind.wrap .i64 (s.t4 + 1) })
noncomputable def m53_2 : Mo Fr53 := fun s => some (.nrm, { s with t3 := IntKind.wrap .i64 (s.t3 * 2) })
noncomputable def m53_3 : Mo Fr53 := fun s => some (.nrm, { s with t7 := decide (s.t4 < s.t0) })
noncomputable def L53_4 : Mo Fr53 := seqM (seqM (m53_3) (condM (fun s => s.t7) (skipM) (exitM 0))) (seqM (blockM 1 (m53_2)) (m53_1))
noncomputable def m53_5 : Mo Fr53 := fun s => some (.nrm, { s with t4 := 0 })
noncomputable def m53_6 : Mo Fr53 := fun s => some (.nrm, { s with t3 := 1 })
noncomputable def m53_7 : Mo Fr53 := fun s => some (.nrm, s)
noncomputable def M53 : Mo Fr53 := seqM (m53_7) (seqM (m53_6) (seqM (seqM (m53_5) (blockM 0 (loopM (L53_4)))) (seqM (m53_0) (retM))))
def Spec53 (f : Int → Option Int) : Prop := ∀ (x0 : Int) (r : Int), f x0 = some r → ∀ h, run Cn 53 [.int .i64 x0] h = some (.ret (.int .i64 r), h)
theorem Spec53_of {f g : Int → Option Int} (hg : Spec53 g) (h : ∀ x0 r, f x0 = some r → g x0 = some r) : Spec53 f := fun x0 r hr => hg x0 r (h x0 r hr)
theorem R53_0 (pe : Nat → Fr53 → ASt → Prop) (pr : Fr53 → ASt → Prop) : Ref Cn P53_0 (Cat [true, true, true, false] (bodyOf Try.f53)) m53_0 (post P53_1 pe pr) := by
  rintro s ⟨t, h⟩ hp x s' hm
  have hp : P53_0' s t h := hp
  obtain ⟨hl, a3⟩ := hp
  unfold m53_0 at hm
  cases hm
  refine ⟨⟨_, _⟩, by
      simp only [bodyOf, Try.f53, Cat, Bool.false_eq_true, e_seq, e_region, e_cond, e_block, ex_skip, ex_exit, ex_ret, o_cons, xops_nil, k_want_none, k_want_false, k_val, k_pan, k_call, k_ret, k_seq, k_seq_exit, k_seq_ret, k_true, k_false, k_block, k_block_exit, k_block_ret, k_loop, k_loop_exit, k_loop_ret, awanted, aoper, evalO, put, Option.getD_some, List.getElem?_set, acallOp, abuiltin, List.map_cons, List.map_nil, Nat.reduceEqDiff, Nat.reduceLT, List.length_set, Option.map_some, Option.bind_some, Option.bind_eq_bind, add_i, sub_i, mul_i, eql_i, neq_i, lss_i, leq_i, gtr_i, geq_i, ofV, ofCell, ↓reduceIte, List.cons_append, List.nil_append, List.append_nil, List.getElem?_toArray, List.getElem?_cons_succ, List.getElem?_cons_zero, e_draw, g_nil, g_cons, g_want, g_skip, g_val, g_call, g_ret, Option.map_none, hl, a3, CP, bq1, bq2, bq3, bq4, ex_tup]
      exact rfl, ?_⟩
  show P53_1 _ _
  exact ⟨by simp [hl], by simp [hl]⟩
theorem R53_1 (pe : Nat → Fr53 → ASt → Prop) (pr : Fr53 → ASt → Prop) : Ref Cn P53_2 (Cat [true, true, false, true, true, true, true, true] (bodyOf Try.f53)) m53_1 (post P53_2 pe pr) := by
  rintro s ⟨t, h⟩ hp x s' hm
  have hp : P53_2' s t h := hp
  obtain ⟨hl, a0, a3, a4⟩ := hp
  unfold m53_1 at hm
  cases hm
  refine ⟨⟨_, _⟩, by
      simp only [bodyOf, Try.f53, Cat, Bool.false_eq_true, e_seq, e_region, e_cond, e_block, ex_skip, ex_exit, ex_ret, o_cons, xops_nil, k_want_none, k_want_false, k_val, k_pan, k_call, k_ret, k_seq, k_seq_exit, k_seq_ret, k_true, k_false, k_block, k_block_exit, k_block_ret, k_loop, k_loop_exit, k_loop_ret, awanted, aoper, evalO, put, Option.getD_some, List.getElem?_set, acallOp, abuiltin, List.map_cons, List.map_nil, Nat.reduceEqDiff, Nat.reduceLT, List.length_set, Option.map_some, Option.bind_some, Option.bind_eq_bind, add_i, sub_i, mul_i, eql_i, neq_i, lss_i, leq_i, gtr_i, geq_i, ofV, ofCell, ↓reduceIte, List.cons_append, List.nil_append, List.append_nil, List.getElem?_toArray, List.getElem?_cons_succ, List.getElem?_cons_zero, e_draw, g_nil, g_cons, g_want, g_skip, g_val, g_call, g_ret, Option.map_none, hl, a0, a3, a4, CP, bq1, bq2, bq3, bq4, ex_tup]
      exact rfl, ?_⟩
  show P53_2 _ _
  exact ⟨by simp [hl], by simp [a0], by simp [a3], by simp [hl]⟩
theorem R53_2 (pe : Nat → Fr53 → ASt → Prop) (pr : Fr53 → ASt → Prop) : Ref Cn P53_2 (Cat [true, true, false, true, true, true, true, false, true] (bodyOf Try.f53)) m53_2 (post P53_2 pe pr) := by
  rintro s ⟨t, h⟩ hp x s' hm
  have hp : P53_2' s t h := hp
  obtain ⟨hl, a0, a3, a4⟩ := hp
  unfold m53_2 at hm
  cases hm
  refine ⟨⟨_, _⟩, by
      simp only [bodyOf, Try.f53, Cat, Bool.false_eq_true, e_seq, e_region, e_cond, e_block, ex_skip, ex_exit, ex_ret, o_cons, xops_nil, k_want_none, k_want_false, k_val, k_pan, k_call, k_ret, k_seq, k_seq_exit, k_seq_ret, k_true, k_false, k_block, k_block_exit, k_block_ret, k_loop, k_loop_exit, k_loop_ret, awanted, aoper, evalO, put, Option.getD_some, List.getElem?_set, acallOp, abuiltin, List.map_cons, List.map_nil, Nat.reduceEqDiff, Nat.reduceLT, List.length_set, Option.map_some, Option.bind_some, Option.bind_eq_bind, add_i, sub_i, mul_i, eql_i, neq_i, lss_i, leq_i, gtr_i, geq_i, ofV, ofCell, ↓reduceIte, List.cons_append, List.nil_append, List.append_nil, List.getElem?_toArray, List.getElem?_cons_succ, List.getElem?_cons_zero, e_draw, g_nil, g_cons, g_want, g_skip, g_val, g_call, g_ret, Option.map_none, hl, a0, a3, a4, CP, bq1, bq2, bq3, bq4, ex_tup]
      exact rfl, ?_⟩
  show P53_2 _ _
  exact ⟨by simp [hl], by simp [a0], by simp [hl], by simp [a4]⟩
theorem R53_3 (pe : Nat → Fr53 → ASt → Prop) (pr : Fr53 → ASt → Prop) : Ref Cn P53_2 (Cat [true, true, false, true, true, true, false, false] (bodyOf Try.f53)) m53_3 (post P53_3 pe pr) := by
  rintro s ⟨t, h⟩ hp x s' hm
  have hp : P53_2' s t h := hp
  obtain ⟨hl, a0, a3, a4⟩ := hp
  unfold m53_3 at hm
  cases hm
  refine ⟨⟨_, _⟩, by
      simp only [bodyOf, Try.f53, Cat, Bool.false_eq_true, e_seq, e_region, e_cond, e_block, ex_skip, ex_exit, ex_ret, o_cons, xops_nil, k_want_none, k_want_false, k_val, k_pan, k_call, k_ret, k_seq, k_seq_exit, k_seq_ret, k_true, k_false, k_block, k_block_exit, k_block_ret, k_loop, k_loop_exit, k_loop_ret, awanted, aoper, evalO, put, Option.getD_some, List.getElem?_set, acallOp, abuiltin, List.map_cons, List.map_nil, Nat.reduceEqDiff, Nat.reduceLT, List.length_set, Option.map_some, Option.bind_some, Option.bind_eq_bind, add_i, sub_i, mul_i, eql_i, neq_i, lss_i, leq_i, gtr_i, geq_i, ofV, ofCell, ↓reduceIte, List.cons_append, List.nil_append, List.append_nil, List.getElem?_toArray, List.getElem?_cons_succ, List.getElem?_cons_zero, e_draw, g_nil, g_cons, g_want, g_skip, g_val, g_call, g_ret, Option.map_none, hl, a0, a3, a4, CP, bq1, bq2, bq3, bq4, ex_tup]
      exact rfl, ?_⟩
  show P53_3 _ _
  exact ⟨by simp [hl], by simp [a0], by simp [a3], by simp [a4], by simp [hl]⟩
theorem R53_5 (pe : Nat → Fr53 → ASt → Prop) (pr : Fr53 → ASt → Prop) : Ref Cn P53_4 (Cat [true, true, false, false] (bodyOf Try.f53)) m53_5 (post P53_2 pe pr) := by
  rintro s ⟨t, h⟩ hp x s' hm
  have hp : P53_4' s t h := hp
  obtain ⟨hl, a0, a3⟩ := hp
  unfold m53_5 at hm
  cases hm
  refine ⟨⟨_, _⟩, by
      simp only [bodyOf, Try.f53, Cat, Bool.false_eq_true, e_seq, e_region, e_cond, e_block, ex_skip, ex_exit, ex_ret, o_cons, xops_nil, k_want_none, k_want_false, k_val, k_pan, k_call, k_ret, k_seq, k_seq_exit, k_seq_ret, k_true, k_false, k_block, k_block_exit, k_block_ret, k_loop, k_loop_exit, k_loop_ret, awanted, aoper, evalO, put, Option.getD_some, List.getElem?_set, acallOp, abuiltin, List.map_cons, List.map_nil, Nat.reduceEqDiff, Nat.reduceLT, List.length_set, Option.map_some, Option.bind_some, Option.bind_eq_bind, add_i, sub_i, mul_i, eql_i, neq_i, lss_i, leq_i, gtr_i, geq_i, ofV, ofCell, ↓reduceIte, List.cons_append, List.nil_append, List.append_nil, List.getElem?_toArray, List.getElem?_cons_succ, List.getElem?_cons_zero, e_draw, g_nil, g_cons, g_want, g_skip, g_val, g_call, g_ret, Option.map_none, hl, a0, a3, CP, bq1, bq2, bq3, bq4, ex_tup]
      exact rfl, ?_⟩
  show P53_2 _ _
  exact ⟨by simp [hl], by simp [a0], by simp [a3], by simp [hl]⟩
theorem R53_6 (pe : Nat → Fr53 → ASt → Prop) (pr : Fr53 → ASt → Prop) : Ref Cn P53_5 (Cat [true, false] (bodyOf Try.f53)) m53_6 (post P53_4 pe pr) := by
  rintro s ⟨t, h⟩ hp x s' hm
  have hp : P53_5' s t h := hp
  obtain ⟨hl, a0⟩ := hp
  unfold m53_6 at hm
  cases hm
  refine ⟨⟨_, _⟩, by
      simp only [bodyOf, Try.f53, Cat, Bool.false_eq_true, e_seq, e_region, e_cond, e_block, ex_skip, ex_exit, ex_ret, o_cons, xops_nil, k_want_none, k_want_false, k_val, k_pan, k_call, k_ret, k_seq, k_seq_exit, k_seq_ret, k_true, k_false, k_block, k_block_exit, k_block_ret, k_loop, k_loop_exit, k_loop_ret, awanted, aoper, evalO, put, Option.getD_some, List.getElem?_set, acallOp, abuiltin, List.map_cons, List.map_nil, Nat.reduceEqDiff, Nat.reduceLT, List.length_set, Option.map_some, Option.bind_some, Option.bind_eq_bind, add_i, sub_i, mul_i, eql_i, neq_i, lss_i, leq_i, gtr_i, geq_i, ofV, ofCell, ↓reduceIte, List.cons_append, List.nil_append, List.append_nil, List.getElem?_toArray, List.getElem?_cons_succ, List.getElem?_cons_zero, e_draw, g_nil, g_cons, g_want, g_skip, g_val, g_call, g_ret, Option.map_none, hl, a0, CP, bq1, bq2, bq3, bq4, ex_tup]
      exact rfl, ?_⟩
  show P53_4 _ _
  exact ⟨by simp [hl], by simp [a0], by simp [hl]⟩
theorem R53_7 (pe : Nat → Fr53 → ASt → Prop) (pr : Fr53 → ASt → Prop) : Ref Cn P53_5 (Cat [false] (bodyOf Try.f53)) m53_7 (post P53_5 pe pr) := by
  rintro s ⟨t, h⟩ hp x s' hm
  have hp : P53_5' s t h := hp
  obtain ⟨hl, a0⟩ := hp
  unfold m53_7 at hm
  cases hm
  refine ⟨⟨_, _⟩, by
      simp only [bodyOf, Try.f53, Cat, Bool.false_eq_true, e_seq, e_region, e_cond, e_block, ex_skip, ex_exit, ex_ret, o_cons, xops_nil, k_want_none, k_want_false, k_val, k_pan, k_call, k_ret, k_seq, k_seq_exit, k_seq_ret, k_true, k_false, k_block, k_block_exit, k_block_ret, k_loop, k_loop_exit, k_loop_ret, awanted, aoper, evalO, put, Option.getD_some, List.getElem?_set, acallOp, abuiltin, List.map_cons, List.map_nil, Nat.reduceEqDiff, Nat.reduceLT, List.length_set, Option.map_some, Option.bind_some, Option.bind_eq_bind, add_i, sub_i, mul_i, eql_i, neq_i, lss_i, leq_i, gtr_i, geq_i, ofV, ofCell, ↓reduceIte, List.cons_append, List.nil_append, List.append_nil, List.getElem?_toArray, List.getElem?_cons_succ, List.getElem?_cons_zero, e_draw, g_nil, g_cons, g_want, g_skip, g_val, g_call, g_ret, Option.map_none, hl, a0, CP, bq1, bq2, bq3, bq4, ex_tup]
      exact rfl, ?_⟩
  show P53_5 _ _
  exact ⟨by simp [hl], by simp [a0]⟩
theorem B53 : Ref Cn P53_5 (bodyOf Try.f53) (M53) (post P53_1 (fun _ _ _ => False) P53_1) := by
  rw [show bodyOf Try.f53 = .seq (Cat [false] (bodyOf Try.f53)) (.seq (Cat [true, false] (bodyOf Try.f53)) (.seq (.seq (Cat [true, true, false, false] (bodyOf Try.f53)) (.block 0 (.loop (.seq (.seq (Cat [true, true, false, true, true, true, false, false] (bodyOf Try.f53)) (.cond (.tmp 7) (.skip) (.exit 0))) (.seq (.block 1 (Cat [true, true, false, true, true, true, true, false, true] (bodyOf Try.f53))) (Cat [true, true, false, true, true, true, true, true] (bodyOf Try.f53))))))) (.seq (Cat [true, true, true, false] (bodyOf Try.f53)) (.ret)))) from rfl]
  unfold M53
  exact ref_seq (M := P53_5) (R53_7 _ _) (ref_seq (M := P53_4) (R53_6 _ _) (ref_seq (M := P53_0) (ref_seq (M := P53_2) (R53_5 _ _) (ref_block (ref_loop (P := P53_2) (ref_weak (P' := P53_2) (fun s st hp => hp) (ref_seq (M := P53_2) (ref_seq (M := P53_3) (R53_3 _ _) (ref_cond (P := P53_3) (c := fun s => s.t7) (fun s st hp => by obtain ⟨hl, a0, a3, a4, a7⟩ := (hp : P53_3' s st.tmps st.h); simp only [evalO, a7, Option.getD_some]) (ref_weak (P' := P53_2) (fun s st hp => by obtain ⟨hl, a0, a3, a4, a7⟩ := (hp : P53_3' s st.tmps st.h); exact (⟨hl, a0, a3, a4⟩ : P53_2' s st.tmps st.h)) (ref_skip (fun s st hp => hp))) (ref_weak (P' := P53_0) (fun s st hp => by obtain ⟨hl, a0, a3, a4, a7⟩ := (hp : P53_3' s st.tmps st.h); exact (⟨hl, a3⟩ : P53_0' s st.tmps st.h)) (ref_exit (fun s st hp => hp))))) (ref_seq (M := P53_2) (ref_block (R53_2 _ _)) (R53_1 _ _))))))) (ref_seq (M := P53_1) (R53_0 _ _) (ref_ret (fun s st hp => hp)))))
noncomputable def G53 (x0 : Int) : Option Int := match M53 { (default : Fr53) with t0 := x0 } with
  | some (.nrm, s) => some s.t2
  | some (.ret, s) => some s.t2
  | _ => none
theorem G53_spec : Spec53 (G53) := by
  intro x0 r hr
  unfold G53 at hr
  cases hm : M53 { (default : Fr53) with t0 := x0 } with
  | none => rw [hm] at hr; cases hr
  | some q =>
    obtain ⟨x, s⟩ := q
    rw [hm] at hr
    have hx : x = .nrm ∨ x = .ret := by cases x <;> first | exact .inl rfl | exact .inr rfl | cases hr
    have hr : s.t2 = r := by cases x <;> first | exact Option.some.inj hr | cases hr
    subst hr
    have h0 : P53_5' ({ (default : Fr53) with t0 := x0 }) (slots Try.f53 (stripL [.int .i64 x0])) bare := ⟨rfl, rfl⟩
    obtain ⟨v, hR, _, hrun⟩ := run_of_ref (C := Cn) (f := 53) (fn := Try.f53) Try.func53 rfl rfl rfl rfl (args := [.int .i64 x0]) (by simp only [refsL, refs, List.append_nil]) (B53) (s0 := { (default : Fr53) with t0 := x0 }) h0 hm hx (R := fun v => v = .int .i64 s.t2) (by
      have key : ∀ st : ASt, P53_1 s st → ∃ vs v, aresults Cn Try.f53.results.toList st = some vs ∧ packRes vs = v ∧ refs v = [] ∧ (fun v => v = .int .i64 s.t2) (strip v) := by
        intro st hp
        obtain ⟨hl, a2⟩ := (hp : P53_1' s st.tmps st.h)
        refine ⟨[.int .i64 s.t2], _, by simp only [show Try.f53.results.toList = [ResultVar.tmp 2] from rfl, aresults, ares1, a2, Option.getD_some], rfl, by simp only [packRes, refsL, refs, List.append_nil], rfl⟩
      intro st hq
      rcases hx with rfl | rfl
      · exact key st hq
      · exact key st hq)
    subst hR
    exact hrun
/-! ### caisson/caissonref11.has -/
structure Fr44 where
  t0 : Int
  t1 : Int
  t4 : Bool
instance : Inhabited Fr44 := ⟨⟨0, 0, false⟩⟩
def P44_0' (s : Fr44) (t : List AVal) (h : AHeap) : Prop := t.length = 11 ∧ t[0]? = some (.int .i64 s.t0) ∧ t[1]? = some (.int .i64 s.t1)
def P44_0 (s : Fr44) (st : ASt) : Prop := P44_0' s st.tmps st.h
def P44_1' (s : Fr44) (t : List AVal) (h : AHeap) : Prop := t.length = 11 ∧ t[4]? = some (.bool s.t4)
def P44_1 (s : Fr44) (st : ASt) : Prop := P44_1' s st.tmps st.h
noncomputable def m44_0 : Mo Fr44 := fun s => (G53 s.t1).bind fun z1 => (quoT .i64 s.t0 z1).bind fun z3 => some (.nrm, { s with t4 := ((z3.tmod 2) == 1) })
noncomputable def m44_1 : Mo Fr44 := fun s => some (.nrm, s)
noncomputable def M44 : Mo Fr44 := seqM (m44_1) (seqM (m44_0) (retM))
def Spec44 (f : Int → Int → Option Bool) : Prop := ∀ (x0 : Int) (x1 : Int) (r : Bool), f x0 x1 = some r → ∀ h, run Cn 44 [.int .i64 x0, .int .i64 x1] h = some (.ret (.bool r), h)
theorem Spec44_of {f g : Int → Int → Option Bool} (hg : Spec44 g) (h : ∀ x0 x1 r, f x0 x1 = some r → g x0 x1 = some r) : Spec44 f := fun x0 x1 r hr => hg x0 x1 r (h x0 x1 r hr)
theorem R44_0 (pe : Nat → Fr44 → ASt → Prop) (pr : Fr44 → ASt → Prop) : Ref Cn P44_0 (Cat [true, false] (bodyOf Try.f44)) m44_0 (post P44_1 pe pr) := by
  rintro s ⟨t, h⟩ hp x s' hm
  have hp : P44_0' s t h := hp
  obtain ⟨hl, a0, a1⟩ := hp
  unfold m44_0 at hm
  obtain ⟨z5, hz5, hm⟩ := Option.bind_eq_some_iff.1 hm
  have iu6 := G53_spec s.t1  _ hz5
  obtain ⟨z7, hz7, hm⟩ := Option.bind_eq_some_iff.1 hm
  have iu8 := quo_v (C := Cn) hz7
  cases hm
  refine ⟨⟨_, _⟩, by
      simp only [bodyOf, Try.f44, Cat, Bool.false_eq_true, e_seq, e_region, e_cond, e_block, ex_skip, ex_exit, ex_ret, o_cons, xops_nil, k_want_none, k_want_false, k_val, k_pan, k_call, k_ret, k_seq, k_seq_exit, k_seq_ret, k_true, k_false, k_block, k_block_exit, k_block_ret, k_loop, k_loop_exit, k_loop_ret, awanted, aoper, evalO, put, Option.getD_some, List.getElem?_set, acallOp, abuiltin, List.map_cons, List.map_nil, Nat.reduceEqDiff, Nat.reduceLT, List.length_set, Option.map_some, Option.bind_some, Option.bind_eq_bind, add_i, sub_i, mul_i, eql_i, neq_i, lss_i, leq_i, gtr_i, geq_i, ofV, ofCell, ↓reduceIte, List.cons_append, List.nil_append, List.append_nil, List.getElem?_toArray, List.getElem?_cons_succ, List.getElem?_cons_zero, e_draw, g_nil, g_cons, g_want, g_skip, g_val, g_call, g_ret, Option.map_none, hl, a0, a1, CP, bq1, bq2, bq3, bq4, ex_tup, iu6, iu8, rem_c (show (2 : Int) ≠ 0 by decide)]
      exact rfl, ?_⟩
  show P44_1 _ _
  exact ⟨by simp [hl], by simp [hl]⟩
theorem R44_1 (pe : Nat → Fr44 → ASt → Prop) (pr : Fr44 → ASt → Prop) : Ref Cn P44_0 (Cat [false] (bodyOf Try.f44)) m44_1 (post P44_0 pe pr) := by
  rintro s ⟨t, h⟩ hp x s' hm
  have hp : P44_0' s t h := hp
  obtain ⟨hl, a0, a1⟩ := hp
  unfold m44_1 at hm
  cases hm
  refine ⟨⟨_, _⟩, by
      simp only [bodyOf, Try.f44, Cat, Bool.false_eq_true, e_seq, e_region, e_cond, e_block, ex_skip, ex_exit, ex_ret, o_cons, xops_nil, k_want_none, k_want_false, k_val, k_pan, k_call, k_ret, k_seq, k_seq_exit, k_seq_ret, k_true, k_false, k_block, k_block_exit, k_block_ret, k_loop, k_loop_exit, k_loop_ret, awanted, aoper, evalO, put, Option.getD_some, List.getElem?_set, acallOp, abuiltin, List.map_cons, List.map_nil, Nat.reduceEqDiff, Nat.reduceLT, List.length_set, Option.map_some, Option.bind_some, Option.bind_eq_bind, add_i, sub_i, mul_i, eql_i, neq_i, lss_i, leq_i, gtr_i, geq_i, ofV, ofCell, ↓reduceIte, List.cons_append, List.nil_append, List.append_nil, List.getElem?_toArray, List.getElem?_cons_succ, List.getElem?_cons_zero, e_draw, g_nil, g_cons, g_want, g_skip, g_val, g_call, g_ret, Option.map_none, hl, a0, a1, CP, bq1, bq2, bq3, bq4, ex_tup]
      exact rfl, ?_⟩
  show P44_0 _ _
  exact ⟨by simp [hl], by simp [a0], by simp [a1]⟩
theorem B44 : Ref Cn P44_0 (bodyOf Try.f44) (M44) (post P44_1 (fun _ _ _ => False) P44_1) := by
  rw [show bodyOf Try.f44 = .seq (Cat [false] (bodyOf Try.f44)) (.seq (Cat [true, false] (bodyOf Try.f44)) (.ret)) from rfl]
  unfold M44
  exact ref_seq (M := P44_0) (R44_1 _ _) (ref_seq (M := P44_1) (R44_0 _ _) (ref_ret (fun s st hp => hp)))
noncomputable def G44 (x0 : Int) (x1 : Int) : Option Bool := match M44 { (default : Fr44) with t0 := x0, t1 := x1 } with
  | some (.nrm, s) => some s.t4
  | some (.ret, s) => some s.t4
  | _ => none
theorem G44_spec : Spec44 (G44) := by
  intro x0 x1 r hr
  unfold G44 at hr
  cases hm : M44 { (default : Fr44) with t0 := x0, t1 := x1 } with
  | none => rw [hm] at hr; cases hr
  | some q =>
    obtain ⟨x, s⟩ := q
    rw [hm] at hr
    have hx : x = .nrm ∨ x = .ret := by cases x <;> first | exact .inl rfl | exact .inr rfl | cases hr
    have hr : s.t4 = r := by cases x <;> first | exact Option.some.inj hr | cases hr
    subst hr
    have h0 : P44_0' ({ (default : Fr44) with t0 := x0, t1 := x1 }) (slots Try.f44 (stripL [.int .i64 x0, .int .i64 x1])) bare := ⟨rfl, rfl, rfl⟩
    obtain ⟨v, hR, _, hrun⟩ := run_of_ref (C := Cn) (f := 44) (fn := Try.f44) Try.func44 rfl rfl rfl rfl (args := [.int .i64 x0, .int .i64 x1]) (by simp only [refsL, refs, List.append_nil]) (B44) (s0 := { (default : Fr44) with t0 := x0, t1 := x1 }) h0 hm hx (R := fun v => v = .bool s.t4) (by
      have key : ∀ st : ASt, P44_1 s st → ∃ vs v, aresults Cn Try.f44.results.toList st = some vs ∧ packRes vs = v ∧ refs v = [] ∧ (fun v => v = .bool s.t4) (strip v) := by
        intro st hp
        obtain ⟨hl, a4⟩ := (hp : P44_1' s st.tmps st.h)
        refine ⟨[.bool s.t4], _, by simp only [show Try.f44.results.toList = [ResultVar.tmp 4] from rfl, aresults, ares1, a4, Option.getD_some], rfl, by simp only [packRes, refsL, refs, List.append_nil], rfl⟩
      intro st hq
      rcases hx with rfl | rfl
      · exact key st hq
      · exact key st hq)
    subst hR
    exact hrun
/-! ### caisson/caissonref11.union -/
structure Fr52 where
  t0 : Int
  t1 : Int
  t4 : Int
  t5 : Int
  t6 : Int
  t7 : Bool
  t8 : Bool
  t10 : Bool
  t22 : Bool
instance : Inhabited Fr52 := ⟨⟨0, 0, 0, 0, 0, false, false, false, false⟩⟩
def P52_0' (s : Fr52) (t : List AVal) (h : AHeap) : Prop := t.length = 28 ∧ t[5]? = some (.int .i64 s.t5)
def P52_0 (s : Fr52) (st : ASt) : Prop := P52_0' s st.tmps st.h
def P52_1' (s : Fr52) (t : List AVal) (h : AHeap) : Prop := t.length = 28 ∧ t[4]? = some (.int .i64 s.t4)
def P52_1 (s : Fr52) (st : ASt) : Prop := P52_1' s st.tmps st.h
def P52_2' (s : Fr52) (t : List AVal) (h : AHeap) : Prop := t.length = 28 ∧ t[0]? = some (.int .i64 s.t0) ∧ t[1]? = some (.int .i64 s.t1) ∧ t[5]? = some (.int .i64 s.t5) ∧ t[6]? = some (.int .i64 s.t6)
def P52_2 (s : Fr52) (st : ASt) : Prop := P52_2' s st.tmps st.h
def P52_3' (s : Fr52) (t : List AVal) (h : AHeap) : Prop := t.length = 28 ∧ t[0]? = some (.int .i64 s.t0) ∧ t[1]? = some (.int .i64 s.t1) ∧ t[5]? = some (.int .i64 s.t5) ∧ t[6]? = some (.int .i64 s.t6) ∧ t[22]? = some (.bool s.t22)
def P52_3 (s : Fr52) (st : ASt) : Prop := P52_3' s st.tmps st.h
def P52_4' (s : Fr52) (t : List AVal) (h : AHeap) : Prop := t.length = 28 ∧ t[0]? = some (.int .i64 s.t0) ∧ t[1]? = some (.int .i64 s.t1) ∧ t[5]? = some (.int .i64 s.t5) ∧ t[6]? = some (.int .i64 s.t6) ∧ t[7]? = some (.bool s.t7) ∧ t[8]? = some (.bool s.t8)
def P52_4 (s : Fr52) (st : ASt) : Prop := P52_4' s st.tmps st.h
def P52_5' (s : Fr52) (t : List AVal) (h : AHeap) : Prop := t.length = 28 ∧ t[0]? = some (.int .i64 s.t0) ∧ t[1]? = some (.int .i64 s.t1) ∧ t[5]? = some (.int .i64 s.t5) ∧ t[6]? = some (.int .i64 s.t6) ∧ t[7]? = some (.bool s.t7)
def P52_5 (s : Fr52) (st : ASt) : Prop := P52_5' s st.tmps st.h
def P52_6' (s : Fr52) (t : List AVal) (h : AHeap) : Prop := t.length = 28 ∧ t[0]? = some (.int .i64 s.t0) ∧ t[1]? = some (.int .i64 s.t1) ∧ t[5]? = some (.int .i64 s.t5) ∧ t[6]? = some (.int .i64 s.t6) ∧ t[10]? = some (.bool s.t10)
def P52_6 (s : Fr52) (st : ASt) : Prop := P52_6' s st.tmps st.h
def P52_7' (s : Fr52) (t : List AVal) (h : AHeap) : Prop := t.length = 28 ∧ t[0]? = some (.int .i64 s.t0) ∧ t[1]? = some (.int .i64 s.t1) ∧ t[5]? = some (.int .i64 s.t5)
def P52_7 (s : Fr52) (st : ASt) : Prop := P52_7' s st.tmps st.h
def P52_8' (s : Fr52) (t : List AVal) (h : AHeap) : Prop := t.length = 28 ∧ t[0]? = some (.int .i64 s.t0) ∧ t[1]? = some (.int .i64 s.t1)
def P52_8 (s : Fr52) (st : ASt) : Prop := P52_8' s st.tmps st.h
noncomputable def m52_0 : Mo Fr52 := fun s => some (.nrm, { s with t4 := s.t5 })
noncomputable def m52_1 : Mo Fr52 := fun s => some (.nrm, { s with t6 := IntKind.wrap .i64 (s.t6 + 1) })
noncomputable def m52_2 : Mo Fr52 := fun s => (G53 s.t6).bind fun z1 => some (.nrm, { s with t5 := IntKind.wrap .i64 (s.t5 + z1) })
noncomputable def m52_3 : Mo Fr52 := fun s => some (.nrm, { s with t22 := (s.t7 || s.t8) })
noncomputable def m52_4 : Mo Fr52 := fun s => (G44 s.t1 s.t6).bind fun z6 => some (.nrm, { s with t8 := z6 })
noncomputable def m52_5 : Mo Fr52 := fun s => (G44 s.t0 s.t6).bind fun z10 => some (.nrm, { s with t7 := z10 })
noncomputable def m52_6 : Mo Fr52 := fun s => some (.nrm, { s with t10 := decide (s.t6 < 6) })
noncomputable def L52_7 : Mo Fr52 := seqM (seqM (m52_6) (condM (fun s => s.t10) (skipM) (exitM 0))) (seqM (blockM 1 (seqM (m52_5) (seqM (m52_4) (seqM (m52_3) (condM (fun s => s.t22) (m52_2) (skipM)))))) (m52_1))
noncomputable def m52_8 : Mo Fr52 := fun s => some (.nrm, { s with t6 := 0 })
noncomputable def m52_9 : Mo Fr52 := fun s => some (.nrm, { s with t5 := 0 })
noncomputable def m52_10 : Mo Fr52 := fun s => some (.nrm, s)
noncomputable def M52 : Mo Fr52 := seqM (m52_10) (seqM (m52_9) (seqM (seqM (m52_8) (blockM 0 (loopM (L52_7)))) (seqM (m52_0) (retM))))
def Spec52 (f : Int → Int → Option Int) : Prop := ∀ (x0 : Int) (x1 : Int) (r : Int), f x0 x1 = some r → ∀ h, run Cn 52 [.int .i64 x0, .int .i64 x1] h = some (.ret (.int .i64 r), h)
theorem Spec52_of {f g : Int → Int → Option Int} (hg : Spec52 g) (h : ∀ x0 x1 r, f x0 x1 = some r → g x0 x1 = some r) : Spec52 f := fun x0 x1 r hr => hg x0 x1 r (h x0 x1 r hr)
theorem R52_0 (pe : Nat → Fr52 → ASt → Prop) (pr : Fr52 → ASt → Prop) : Ref Cn P52_0 (Cat [true, true, true, false] (bodyOf Try.f52)) m52_0 (post P52_1 pe pr) := by
  rintro s ⟨t, h⟩ hp x s' hm
  have hp : P52_0' s t h := hp
  obtain ⟨hl, a5⟩ := hp
  unfold m52_0 at hm
  cases hm
  refine ⟨⟨_, _⟩, by
      simp only [bodyOf, Try.f52, Cat, Bool.false_eq_true, e_seq, e_region, e_cond, e_block, ex_skip, ex_exit, ex_ret, o_cons, xops_nil, k_want_none, k_want_false, k_val, k_pan, k_call, k_ret, k_seq, k_seq_exit, k_seq_ret, k_true, k_false, k_block, k_block_exit, k_block_ret, k_loop, k_loop_exit, k_loop_ret, awanted, aoper, evalO, put, Option.getD_some, List.getElem?_set, acallOp, abuiltin, List.map_cons, List.map_nil, Nat.reduceEqDiff, Nat.reduceLT, List.length_set, Option.map_some, Option.bind_some, Option.bind_eq_bind, add_i, sub_i, mul_i, eql_i, neq_i, lss_i, leq_i, gtr_i, geq_i, ofV, ofCell, ↓reduceIte, List.cons_append, List.nil_append, List.append_nil, List.getElem?_toArray, List.getElem?_cons_succ, List.getElem?_cons_zero, e_draw, g_nil, g_cons, g_want, g_skip, g_val, g_call, g_ret, Option.map_none, hl, a5, CP, bq1, bq2, bq3, bq4, ex_tup]
      exact rfl, ?_⟩
  show P52_1 _ _
  exact ⟨by simp [hl], by simp [hl]⟩
theorem R52_1 (pe : Nat → Fr52 → ASt → Prop) (pr : Fr52 → ASt → Prop) : Ref Cn P52_2 (Cat [true, true, false, true, true, true, true, true] (bodyOf Try.f52)) m52_1 (post P52_2 pe pr) := by
  rintro s ⟨t, h⟩ hp x s' hm
  have hp : P52_2' s t h := hp
  obtain ⟨hl, a0, a1, a5, a6⟩ := hp
  unfold m52_1 at hm
  cases hm
  refine ⟨⟨_, _⟩, by
      simp only [bodyOf, Try.f52, Cat, Bool.false_eq_true, e_seq, e_region, e_cond, e_block, ex_skip, ex_exit, ex_ret, o_cons, xops_nil, k_want_none, k_want_false, k_val, k_pan, k_call, k_ret, k_seq, k_seq_exit, k_seq_ret, k_true, k_false, k_block, k_block_exit, k_block_ret, k_loop, k_loop_exit, k_loop_ret, awanted, aoper, evalO, put, Option.getD_some, List.getElem?_set, acallOp, abuiltin, List.map_cons, List.map_nil, Nat.reduceEqDiff, Nat.reduceLT, List.length_set, Option.map_some, Option.bind_some, Option.bind_eq_bind, add_i, sub_i, mul_i, eql_i, neq_i, lss_i, leq_i, gtr_i, geq_i, ofV, ofCell, ↓reduceIte, List.cons_append, List.nil_append, List.append_nil, List.getElem?_toArray, List.getElem?_cons_succ, List.getElem?_cons_zero, e_draw, g_nil, g_cons, g_want, g_skip, g_val, g_call, g_ret, Option.map_none, hl, a0, a1, a5, a6, CP, bq1, bq2, bq3, bq4, ex_tup]
      exact rfl, ?_⟩
  show P52_2 _ _
  exact ⟨by simp [hl], by simp [a0], by simp [a1], by simp [a5], by simp [hl]⟩
theorem R52_2 (pe : Nat → Fr52 → ASt → Prop) (pr : Fr52 → ASt → Prop) : Ref Cn P52_2 (Cat [true, true, false, true, true, true, true, false, true, true, true, true, false] (bodyOf Try.f52)) m52_2 (post P52_2 pe pr) := by
  rintro s ⟨t, h⟩ hp x s' hm
  have hp : P52_2' s t h := hp
  obtain ⟨hl, a0, a1, a5, a6⟩ := hp
  unfold m52_2 at hm
  obtain ⟨z3, hz3, hm⟩ := Option.bind_eq_some_iff.1 hm
  have iu4 := G53_spec s.t6  _ hz3
  cases hm
  refine ⟨⟨_, _⟩, by
      simp only [bodyOf, Try.f52, Cat, Bool.false_eq_true, e_seq, e_region, e_cond, e_block, ex_skip, ex_exit, ex_ret, o_cons, xops_nil, k_want_none, k_want_false, k_val, k_pan, k_call, k_ret, k_seq, k_seq_exit, k_seq_ret, k_true, k_false, k_block, k_block_exit, k_block_ret, k_loop, k_loop_exit, k_loop_ret, awanted, aoper, evalO, put, Option.getD_some, List.getElem?_set, acallOp, abuiltin, List.map_cons, List.map_nil, Nat.reduceEqDiff, Nat.reduceLT, List.length_set, Option.map_some, Option.bind_some, Option.bind_eq_bind, add_i, sub_i, mul_i, eql_i, neq_i, lss_i, leq_i, gtr_i, geq_i, ofV, ofCell, ↓reduceIte, List.cons_append, List.nil_append, List.append_nil, List.getElem?_toArray, List.getElem?_cons_succ, List.getElem?_cons_zero, e_draw, g_nil, g_cons, g_want, g_skip, g_val, g_call, g_ret, Option.map_none, hl, a0, a1, a5, a6, CP, bq1, bq2, bq3, bq4, ex_tup, iu4]
      exact rfl, ?_⟩
  show P52_2 _ _
  exact ⟨by simp [hl], by simp [a0], by simp [a1], by simp [hl], by simp [a6]⟩
theorem R52_3 (pe : Nat → Fr52 → ASt → Prop) (pr : Fr52 → ASt → Prop) : Ref Cn P52_4 (Cat [true, true, false, true, true, true, true, false, true, true, true, false] (bodyOf Try.f52)) m52_3 (post P52_3 pe pr) := by
  rintro s ⟨t, h⟩ hp x s' hm
  have hp : P52_4' s t h := hp
  obtain ⟨hl, a0, a1, a5, a6, a7, a8⟩ := hp
  unfold m52_3 at hm
  cases hb5 : s.t7 with
  | true =>
    all_goals (
      try simp only [hb5, cond_true, cond_false, Option.bind_some, Option.bind_assoc, Bool.not_true, Bool.not_false, Bool.true_and, Bool.false_and, Bool.and_true, Bool.and_false, Bool.true_or, Bool.false_or] at hm
      cases hm
      refine ⟨⟨_, _⟩, by
          simp only [bodyOf, Try.f52, Cat, Bool.false_eq_true, e_seq, e_region, e_cond, e_block, ex_skip, ex_exit, ex_ret, o_cons, xops_nil, k_want_none, k_want_false, k_val, k_pan, k_call, k_ret, k_seq, k_seq_exit, k_seq_ret, k_true, k_false, k_block, k_block_exit, k_block_ret, k_loop, k_loop_exit, k_loop_ret, awanted, aoper, evalO, put, Option.getD_some, List.getElem?_set, acallOp, abuiltin, List.map_cons, List.map_nil, Nat.reduceEqDiff, Nat.reduceLT, List.length_set, Option.map_some, Option.bind_some, Option.bind_eq_bind, add_i, sub_i, mul_i, eql_i, neq_i, lss_i, leq_i, gtr_i, geq_i, ofV, ofCell, ↓reduceIte, List.cons_append, List.nil_append, List.append_nil, List.getElem?_toArray, List.getElem?_cons_succ, List.getElem?_cons_zero, e_draw, g_nil, g_cons, g_want, g_skip, g_val, g_call, g_ret, Option.map_none, hl, a0, a1, a5, a6, a7, a8, CP, bq1, bq2, bq3, bq4, ex_tup, hb5]
          exact rfl, ?_⟩
      show P52_3 _ _
      exact ⟨by simp [hl], by simp [a0], by simp [a1], by simp [a5], by simp [a6], by simp [hl, hb5]⟩)
  | false =>
    all_goals (
      try simp only [hb5, cond_true, cond_false, Option.bind_some, Option.bind_assoc, Bool.not_true, Bool.not_false, Bool.true_and, Bool.false_and, Bool.and_true, Bool.and_false, Bool.true_or, Bool.false_or] at hm
      cases hm
      refine ⟨⟨_, _⟩, by
          simp only [bodyOf, Try.f52, Cat, Bool.false_eq_true, e_seq, e_region, e_cond, e_block, ex_skip, ex_exit, ex_ret, o_cons, xops_nil, k_want_none, k_want_false, k_val, k_pan, k_call, k_ret, k_seq, k_seq_exit, k_seq_ret, k_true, k_false, k_block, k_block_exit, k_block_ret, k_loop, k_loop_exit, k_loop_ret, awanted, aoper, evalO, put, Option.getD_some, List.getElem?_set, acallOp, abuiltin, List.map_cons, List.map_nil, Nat.reduceEqDiff, Nat.reduceLT, List.length_set, Option.map_some, Option.bind_some, Option.bind_eq_bind, add_i, sub_i, mul_i, eql_i, neq_i, lss_i, leq_i, gtr_i, geq_i, ofV, ofCell, ↓reduceIte, List.cons_append, List.nil_append, List.append_nil, List.getElem?_toArray, List.getElem?_cons_succ, List.getElem?_cons_zero, e_draw, g_nil, g_cons, g_want, g_skip, g_val, g_call, g_ret, Option.map_none, hl, a0, a1, a5, a6, a7, a8, CP, bq1, bq2, bq3, bq4, ex_tup, hb5]
          exact rfl, ?_⟩
      show P52_3 _ _
      exact ⟨by simp [hl], by simp [a0], by simp [a1], by simp [a5], by simp [a6], by simp [hl, hb5]⟩)
theorem R52_4 (pe : Nat → Fr52 → ASt → Prop) (pr : Fr52 → ASt → Prop) : Ref Cn P52_5 (Cat [true, true, false, true, true, true, true, false, true, true, false] (bodyOf Try.f52)) m52_4 (post P52_4 pe pr) := by
  rintro s ⟨t, h⟩ hp x s' hm
  have hp : P52_5' s t h := hp
  obtain ⟨hl, a0, a1, a5, a6, a7⟩ := hp
  unfold m52_4 at hm
  obtain ⟨z8, hz8, hm⟩ := Option.bind_eq_some_iff.1 hm
  have iu9 := G44_spec s.t1 s.t6  _ hz8
  cases hm
  refine ⟨⟨_, _⟩, by
      simp only [bodyOf, Try.f52, Cat, Bool.false_eq_true, e_seq, e_region, e_cond, e_block, ex_skip, ex_exit, ex_ret, o_cons, xops_nil, k_want_none, k_want_false, k_val, k_pan, k_call, k_ret, k_seq, k_seq_exit, k_seq_ret, k_true, k_false, k_block, k_block_exit, k_block_ret, k_loop, k_loop_exit, k_loop_ret, awanted, aoper, evalO, put, Option.getD_some, List.getElem?_set, acallOp, abuiltin, List.map_cons, List.map_nil, Nat.reduceEqDiff, Nat.reduceLT, List.length_set, Option.map_some, Option.bind_some, Option.bind_eq_bind, add_i, sub_i, mul_i, eql_i, neq_i, lss_i, leq_i, gtr_i, geq_i, ofV, ofCell, ↓reduceIte, List.cons_append, List.nil_append, List.append_nil, List.getElem?_toArray, List.getElem?_cons_succ, List.getElem?_cons_zero, e_draw, g_nil, g_cons, g_want, g_skip, g_val, g_call, g_ret, Option.map_none, hl, a0, a1, a5, a6, a7, CP, bq1, bq2, bq3, bq4, ex_tup, iu9]
      exact rfl, ?_⟩
  show P52_4 _ _
  exact ⟨by simp [hl], by simp [a0], by simp [a1], by simp [a5], by simp [a6], by simp [a7], by simp [hl]⟩
theorem R52_5 (pe : Nat → Fr52 → ASt → Prop) (pr : Fr52 → ASt → Prop) : Ref Cn P52_2 (Cat [true, true, false, true, true, true, true, false, true, false] (bodyOf Try.f52)) m52_5 (post P52_5 pe pr) := by
  rintro s ⟨t, h⟩ hp x s' hm
  have hp : P52_2' s t h := hp
  obtain ⟨hl, a0, a1, a5, a6⟩ := hp
  unfold m52_5 at hm
  obtain ⟨z12, hz12, hm⟩ := Option.bind_eq_some_iff.1 hm
  have iu13 := G44_spec s.t0 s.t6  _ hz12
  cases hm
  refine ⟨⟨_, _⟩, by
      simp only [bodyOf, Try.f52, Cat, Bool.false_eq_true, e_seq, e_region, e_cond, e_block, ex_skip, ex_exit, ex_ret, o_cons, xops_nil, k_want_none, k_want_false, k_val, k_pan, k_call, k_ret, k_seq, k_seq_exit, k_seq_ret, k_true, k_false, k_block, k_block_exit, k_block_ret, k_loop, k_loop_exit, k_loop_ret, awanted, aoper, evalO, put, Option.getD_some, List.getElem?_set, acallOp, abuiltin, List.map_cons, List.map_nil, Nat.reduceEqDiff, Nat.reduceLT, List.length_set, Option.map_some, Option.bind_some, Option.bind_eq_bind, add_i, sub_i, mul_i, eql_i, neq_i, lss_i, leq_i, gtr_i, geq_i, ofV, ofCell, ↓reduceIte, List.cons_append, List.nil_append, List.append_nil, List.getElem?_toArray, List.getElem?_cons_succ, List.getElem?_cons_zero, e_draw, g_nil, g_cons, g_want, g_skip, g_val, g_call, g_ret, Option.map_none, hl, a0, a1, a5, a6, CP, bq1, bq2, bq3, bq4, ex_tup, iu13]
      exact rfl, ?_⟩
  show P52_5 _ _
  exact ⟨by simp [hl], by simp [a0], by simp [a1], by simp [a5], by simp [a6], by simp [hl]⟩
theorem R52_6 (pe : Nat → Fr52 → ASt → Prop) (pr : Fr52 → ASt → Prop) : Ref Cn P52_2 (Cat [true, true, false, true, true, true, false, false] (bodyOf Try.f52)) m52_6 (post P52_6 pe pr) := by
  rintro s ⟨t, h⟩ hp x s' hm
  have hp : P52_2' s t h := hp
  obtain ⟨hl, a0, a1, a5, a6⟩ := hp
  unfold m52_6 at hm
  cases hm
  refine ⟨⟨_, _⟩, by
      simp only [bodyOf, Try.f52, Cat, Bool.false_eq_true, e_seq, e_region, e_cond, e_block, ex_skip, ex_exit, ex_ret, o_cons, xops_nil, k_want_none, k_want_false, k_val, k_pan, k_call, k_ret, k_seq, k_seq_exit, k_seq_ret, k_true, k_false, k_block, k_block_exit, k_block_ret, k_loop, k_loop_exit, k_loop_ret, awanted, aoper, evalO, put, Option.getD_some, List.getElem?_set, acallOp, abuiltin, List.map_cons, List.map_nil, Nat.reduceEqDiff, Nat.reduceLT, List.length_set, Option.map_some, Option.bind_some, Option.bind_eq_bind, add_i, sub_i, mul_i, eql_i, neq_i, lss_i, leq_i, gtr_i, geq_i, ofV, ofCell, ↓reduceIte, List.cons_append, List.nil_append, List.append_nil, List.getElem?_toArray, List.getElem?_cons_succ, List.getElem?_cons_zero, e_draw, g_nil, g_cons, g_want, g_skip, g_val, g_call, g_ret, Option.map_none, hl, a0, a1, a5, a6, CP, bq1, bq2, bq3, bq4, ex_tup]
      exact rfl, ?_⟩
  show P52_6 _ _
  exact ⟨by simp [hl], by simp [a0], by simp [a1], by simp [a5], by simp [a6], by simp [hl]⟩
theorem R52_8 (pe : Nat → Fr52 → ASt → Prop) (pr : Fr52 → ASt → Prop) : Ref Cn P52_7 (Cat [true, true, false, false] (bodyOf Try.f52)) m52_8 (post P52_2 pe pr) := by
  rintro s ⟨t, h⟩ hp x s' hm
  have hp : P52_7' s t h := hp
  obtain ⟨hl, a0, a1, a5⟩ := hp
  unfold m52_8 at hm
  cases hm
  refine ⟨⟨_, _⟩, by
      simp only [bodyOf, Try.f52, Cat, Bool.false_eq_true, e_seq, e_region, e_cond, e_block, ex_skip, ex_exit, ex_ret, o_cons, xops_nil, k_want_none, k_want_false, k_val, k_pan, k_call, k_ret, k_seq, k_seq_exit, k_seq_ret, k_true, k_false, k_block, k_block_exit, k_block_ret, k_loop, k_loop_exit, k_loop_ret, awanted, aoper, evalO, put, Option.getD_some, List.getElem?_set, acallOp, abuiltin, List.map_cons, List.map_nil, Nat.reduceEqDiff, Nat.reduceLT, List.length_set, Option.map_some, Option.bind_some, Option.bind_eq_bind, add_i, sub_i, mul_i, eql_i, neq_i, lss_i, leq_i, gtr_i, geq_i, ofV, ofCell, ↓reduceIte, List.cons_append, List.nil_append, List.append_nil, List.getElem?_toArray, List.getElem?_cons_succ, List.getElem?_cons_zero, e_draw, g_nil, g_cons, g_want, g_skip, g_val, g_call, g_ret, Option.map_none, hl, a0, a1, a5, CP, bq1, bq2, bq3, bq4, ex_tup]
      exact rfl, ?_⟩
  show P52_2 _ _
  exact ⟨by simp [hl], by simp [a0], by simp [a1], by simp [a5], by simp [hl]⟩
theorem R52_9 (pe : Nat → Fr52 → ASt → Prop) (pr : Fr52 → ASt → Prop) : Ref Cn P52_8 (Cat [true, false] (bodyOf Try.f52)) m52_9 (post P52_7 pe pr) := by
  rintro s ⟨t, h⟩ hp x s' hm
  have hp : P52_8' s t h := hp
  obtain ⟨hl, a0, a1⟩ := hp
  unfold m52_9 at hm
  cases hm
  refine ⟨⟨_, _⟩, by
      simp only [bodyOf, Try.f52, Cat, Bool.false_eq_true, e_seq, e_region, e_cond, e_block, ex_skip, ex_exit, ex_ret, o_cons, xops_nil, k_want_none, k_want_false, k_val, k_pan, k_call, k_ret, k_seq, k_seq_exit, k_seq_ret, k_true, k_false, k_block, k_block_exit, k_block_ret, k_loop, k_loop_exit, k_loop_ret, awanted, aoper, evalO, put, Option.getD_some, List.getElem?_set, acallOp, abuiltin, List.map_cons, List.map_nil, Nat.reduceEqDiff, Nat.reduceLT, List.length_set, Option.map_some, Option.bind_some, Option.bind_eq_bind, add_i, sub_i, mul_i, eql_i, neq_i, lss_i, leq_i, gtr_i, geq_i, ofV, ofCell, ↓reduceIte, List.cons_append, List.nil_append, List.append_nil, List.getElem?_toArray, List.getElem?_cons_succ, List.getElem?_cons_zero, e_draw, g_nil, g_cons, g_want, g_skip, g_val, g_call, g_ret, Option.map_none, hl, a0, a1, CP, bq1, bq2, bq3, bq4, ex_tup]
      exact rfl, ?_⟩
  show P52_7 _ _
  exact ⟨by simp [hl], by simp [a0], by simp [a1], by simp [hl]⟩
theorem R52_10 (pe : Nat → Fr52 → ASt → Prop) (pr : Fr52 → ASt → Prop) : Ref Cn P52_8 (Cat [false] (bodyOf Try.f52)) m52_10 (post P52_8 pe pr) := by
  rintro s ⟨t, h⟩ hp x s' hm
  have hp : P52_8' s t h := hp
  obtain ⟨hl, a0, a1⟩ := hp
  unfold m52_10 at hm
  cases hm
  refine ⟨⟨_, _⟩, by
      simp only [bodyOf, Try.f52, Cat, Bool.false_eq_true, e_seq, e_region, e_cond, e_block, ex_skip, ex_exit, ex_ret, o_cons, xops_nil, k_want_none, k_want_false, k_val, k_pan, k_call, k_ret, k_seq, k_seq_exit, k_seq_ret, k_true, k_false, k_block, k_block_exit, k_block_ret, k_loop, k_loop_exit, k_loop_ret, awanted, aoper, evalO, put, Option.getD_some, List.getElem?_set, acallOp, abuiltin, List.map_cons, List.map_nil, Nat.reduceEqDiff, Nat.reduceLT, List.length_set, Option.map_some, Option.bind_some, Option.bind_eq_bind, add_i, sub_i, mul_i, eql_i, neq_i, lss_i, leq_i, gtr_i, geq_i, ofV, ofCell, ↓reduceIte, List.cons_append, List.nil_append, List.append_nil, List.getElem?_toArray, List.getElem?_cons_succ, List.getElem?_cons_zero, e_draw, g_nil, g_cons, g_want, g_skip, g_val, g_call, g_ret, Option.map_none, hl, a0, a1, CP, bq1, bq2, bq3, bq4, ex_tup]
      exact rfl, ?_⟩
  show P52_8 _ _
  exact ⟨by simp [hl], by simp [a0], by simp [a1]⟩
theorem B52 : Ref Cn P52_8 (bodyOf Try.f52) (M52) (post P52_1 (fun _ _ _ => False) P52_1) := by
  rw [show bodyOf Try.f52 = .seq (Cat [false] (bodyOf Try.f52)) (.seq (Cat [true, false] (bodyOf Try.f52)) (.seq (.seq (Cat [true, true, false, false] (bodyOf Try.f52)) (.block 0 (.loop (.seq (.seq (Cat [true, true, false, true, true, true, false, false] (bodyOf Try.f52)) (.cond (.tmp 10) (.skip) (.exit 0))) (.seq (.block 1 (.seq (Cat [true, true, false, true, true, true, true, false, true, false] (bodyOf Try.f52)) (.seq (Cat [true, true, false, true, true, true, true, false, true, true, false] (bodyOf Try.f52)) (.seq (Cat [true, true, false, true, true, true, true, false, true, true, true, false] (bodyOf Try.f52)) (.cond (.tmp 22) (Cat [true, true, false, true, true, true, true, false, true, true, true, true, false] (bodyOf Try.f52)) (.skip)))))) (Cat [true, true, false, true, true, true, true, true] (bodyOf Try.f52))))))) (.seq (Cat [true, true, true, false] (bodyOf Try.f52)) (.ret)))) from rfl]
  unfold M52
  exact ref_seq (M := P52_8) (R52_10 _ _) (ref_seq (M := P52_7) (R52_9 _ _) (ref_seq (M := P52_0) (ref_seq (M := P52_2) (R52_8 _ _) (ref_block (ref_loop (P := P52_2) (ref_weak (P' := P52_2) (fun s st hp => hp) (ref_seq (M := P52_2) (ref_seq (M := P52_6) (R52_6 _ _) (ref_cond (P := P52_6) (c := fun s => s.t10) (fun s st hp => by obtain ⟨hl, a0, a1, a5, a6, a10⟩ := (hp : P52_6' s st.tmps st.h); simp only [evalO, a10, Option.getD_some]) (ref_weak (P' := P52_2) (fun s st hp => by obtain ⟨hl, a0, a1, a5, a6, a10⟩ := (hp : P52_6' s st.tmps st.h); exact (⟨hl, a0, a1, a5, a6⟩ : P52_2' s st.tmps st.h)) (ref_skip (fun s st hp => hp))) (ref_weak (P' := P52_0) (fun s st hp => by obtain ⟨hl, a0, a1, a5, a6, a10⟩ := (hp : P52_6' s st.tmps st.h); exact (⟨hl, a5⟩ : P52_0' s st.tmps st.h)) (ref_exit (fun s st hp => hp))))) (ref_seq (M := P52_2) (ref_block (ref_seq (M := P52_5) (R52_5 _ _) (ref_seq (M := P52_4) (R52_4 _ _) (ref_seq (M := P52_3) (R52_3 _ _) (ref_cond (P := P52_3) (c := fun s => s.t22) (fun s st hp => by obtain ⟨hl, a0, a1, a5, a6, a22⟩ := (hp : P52_3' s st.tmps st.h); simp only [evalO, a22, Option.getD_some]) (ref_weak (P' := P52_2) (fun s st hp => by obtain ⟨hl, a0, a1, a5, a6, a22⟩ := (hp : P52_3' s st.tmps st.h); exact (⟨hl, a0, a1, a5, a6⟩ : P52_2' s st.tmps st.h)) (R52_2 _ _)) (ref_weak (P' := P52_2) (fun s st hp => by obtain ⟨hl, a0, a1, a5, a6, a22⟩ := (hp : P52_3' s st.tmps st.h); exact (⟨hl, a0, a1, a5, a6⟩ : P52_2' s st.tmps st.h)) (ref_skip (fun s st hp => hp)))))))) (R52_1 _ _))))))) (ref_seq (M := P52_1) (R52_0 _ _) (ref_ret (fun s st hp => hp)))))
noncomputable def G52 (x0 : Int) (x1 : Int) : Option Int := match M52 { (default : Fr52) with t0 := x0, t1 := x1 } with
  | some (.nrm, s) => some s.t4
  | some (.ret, s) => some s.t4
  | _ => none
theorem G52_spec : Spec52 (G52) := by
  intro x0 x1 r hr
  unfold G52 at hr
  cases hm : M52 { (default : Fr52) with t0 := x0, t1 := x1 } with
  | none => rw [hm] at hr; cases hr
  | some q =>
    obtain ⟨x, s⟩ := q
    rw [hm] at hr
    have hx : x = .nrm ∨ x = .ret := by cases x <;> first | exact .inl rfl | exact .inr rfl | cases hr
    have hr : s.t4 = r := by cases x <;> first | exact Option.some.inj hr | cases hr
    subst hr
    have h0 : P52_8' ({ (default : Fr52) with t0 := x0, t1 := x1 }) (slots Try.f52 (stripL [.int .i64 x0, .int .i64 x1])) bare := ⟨rfl, rfl, rfl⟩
    obtain ⟨v, hR, _, hrun⟩ := run_of_ref (C := Cn) (f := 52) (fn := Try.f52) Try.func52 rfl rfl rfl rfl (args := [.int .i64 x0, .int .i64 x1]) (by simp only [refsL, refs, List.append_nil]) (B52) (s0 := { (default : Fr52) with t0 := x0, t1 := x1 }) h0 hm hx (R := fun v => v = .int .i64 s.t4) (by
      have key : ∀ st : ASt, P52_1 s st → ∃ vs v, aresults Cn Try.f52.results.toList st = some vs ∧ packRes vs = v ∧ refs v = [] ∧ (fun v => v = .int .i64 s.t4) (strip v) := by
        intro st hp
        obtain ⟨hl, a4⟩ := (hp : P52_1' s st.tmps st.h)
        refine ⟨[.int .i64 s.t4], _, by simp only [show Try.f52.results.toList = [ResultVar.tmp 4] from rfl, aresults, ares1, a4, Option.getD_some], rfl, by simp only [packRes, refsL, refs, List.append_nil], rfl⟩
      intro st hq
      rcases hx with rfl | rfl
      · exact key st hq
      · exact key st hq)
    subst hR
    exact hrun
/-! ### caisson/caissonref11.Of -/
structure Fr39 where
  t0 : (List Int)
  t2 : Int
  t3 : Int
  t4 : Int
  t8 : Bool
  t22 : Bool
instance : Inhabited Fr39 := ⟨⟨[], 0, 0, 0, false, false⟩⟩
def P39_0' (s : Fr39) (t : List AVal) (h : AHeap) : Prop := t.length = 31 ∧ t[3]? = some (.int .i64 s.t3)
def P39_0 (s : Fr39) (st : ASt) : Prop := P39_0' s st.tmps st.h
def P39_1' (s : Fr39) (t : List AVal) (h : AHeap) : Prop := t.length = 31 ∧ t[2]? = some (.int .i64 s.t2)
def P39_1 (s : Fr39) (st : ASt) : Prop := P39_1' s st.tmps st.h
def P39_2' (s : Fr39) (t : List AVal) (h : AHeap) : Prop := ∃ w0_0, t.length = 31 ∧ t[0]? = some w0_0 ∧ Sl (rI .i64) s.t0 w0_0 ∧ t[3]? = some (.int .i64 s.t3) ∧ t[4]? = some (.int .i64 s.t4)
def P39_2 (s : Fr39) (st : ASt) : Prop := P39_2' s st.tmps st.h
def P39_3' (s : Fr39) (t : List AVal) (h : AHeap) : Prop := ∃ w0_0, t.length = 31 ∧ t[0]? = some w0_0 ∧ Sl (rI .i64) s.t0 w0_0 ∧ t[3]? = some (.int .i64 s.t3) ∧ t[4]? = some (.int .i64 s.t4) ∧ t[22]? = some (.bool s.t22)
def P39_3 (s : Fr39) (st : ASt) : Prop := P39_3' s st.tmps st.h
def P39_4' (s : Fr39) (t : List AVal) (h : AHeap) : Prop := ∃ w0_0, t.length = 31 ∧ t[0]? = some w0_0 ∧ Sl (rI .i64) s.t0 w0_0 ∧ t[3]? = some (.int .i64 s.t3) ∧ t[4]? = some (.int .i64 s.t4) ∧ t[8]? = some (.bool s.t8)
def P39_4 (s : Fr39) (st : ASt) : Prop := P39_4' s st.tmps st.h
def P39_5' (s : Fr39) (t : List AVal) (h : AHeap) : Prop := ∃ w0_0, t.length = 31 ∧ t[0]? = some w0_0 ∧ Sl (rI .i64) s.t0 w0_0 ∧ t[3]? = some (.int .i64 s.t3)
def P39_5 (s : Fr39) (st : ASt) : Prop := P39_5' s st.tmps st.h
def P39_6' (s : Fr39) (t : List AVal) (h : AHeap) : Prop := ∃ w0_0, t.length = 31 ∧ t[0]? = some w0_0 ∧ Sl (rI .i64) s.t0 w0_0
def P39_6 (s : Fr39) (st : ASt) : Prop := P39_6' s st.tmps st.h
noncomputable def m39_0 : Mo Fr39 := fun s => some (.nrm, { s with t2 := s.t3 })
noncomputable def m39_1 : Mo Fr39 := fun s => some (.nrm, { s with t4 := IntKind.wrap .i64 (s.t4 + 1) })
noncomputable def m39_2 : Mo Fr39 := fun s => (at? s.t0 s.t4).bind fun y1 => (G53 y1).bind fun z3 => (G52 s.t3 z3).bind fun z5 => some (.nrm, { s with t3 := z5 })
noncomputable def m39_3 : Mo Fr39 := fun s => (at? s.t0 s.t4).bind fun y13 => some (.nrm, { s with t22 := ((decide (y13 ≥ 0)) && (decide (y13 < 6))) })
noncomputable def m39_4 : Mo Fr39 := fun s => some (.nrm, { s with t8 := decide (s.t4 < (s.t0.length : Int)) })
noncomputable def L39_5 : Mo Fr39 := seqM (seqM (m39_4) (condM (fun s => s.t8) (skipM) (exitM 0))) (seqM (blockM 1 (seqM (m39_3) (condM (fun s => s.t22) (m39_2) (skipM)))) (m39_1))
noncomputable def m39_6 : Mo Fr39 := fun s => some (.nrm, { s with t4 := 0 })
noncomputable def m39_7 : Mo Fr39 := fun s => some (.nrm, { s with t3 := 0 })
noncomputable def m39_8 : Mo Fr39 := fun s => some (.nrm, s)
noncomputable def M39 : Mo Fr39 := seqM (m39_8) (seqM (m39_7) (seqM (seqM (m39_6) (blockM 0 (loopM (L39_5)))) (seqM (m39_0) (retM))))
def Spec39 (f : (List Int) → Option Int) : Prop := ∀ (x0 : (List Int)) (vx0_0 : AVal) (_ : Sl (rI .i64) x0 vx0_0) (r : Int), f x0 = some r → ∀ h, run Cn 39 [vx0_0] h = some (.ret (.int .i64 r), h)
theorem Spec39_of {f g : (List Int) → Option Int} (hg : Spec39 g) (h : ∀ x0 r, f x0 = some r → g x0 = some r) : Spec39 f := fun x0 v0_ w0_ r hr => hg x0 v0_ w0_ r (h x0 r hr)
theorem R39_0 (pe : Nat → Fr39 → ASt → Prop) (pr : Fr39 → ASt → Prop) : Ref Cn P39_0 (Cat [true, true, true, false] (bodyOf Try.f39)) m39_0 (post P39_1 pe pr) := by
  rintro s ⟨t, h⟩ hp x s' hm
  have hp : P39_0' s t h := hp
  obtain ⟨hl, a3⟩ := hp
  unfold m39_0 at hm
  cases hm
  refine ⟨⟨_, _⟩, by
      simp only [bodyOf, Try.f39, Cat, Bool.false_eq_true, e_seq, e_region, e_cond, e_block, ex_skip, ex_exit, ex_ret, o_cons, xops_nil, k_want_none, k_want_false, k_val, k_pan, k_call, k_ret, k_seq, k_seq_exit, k_seq_ret, k_true, k_false, k_block, k_block_exit, k_block_ret, k_loop, k_loop_exit, k_loop_ret, awanted, aoper, evalO, put, Option.getD_some, List.getElem?_set, acallOp, abuiltin, List.map_cons, List.map_nil, Nat.reduceEqDiff, Nat.reduceLT, List.length_set, Option.map_some, Option.bind_some, Option.bind_eq_bind, add_i, sub_i, mul_i, eql_i, neq_i, lss_i, leq_i, gtr_i, geq_i, ofV, ofCell, ↓reduceIte, List.cons_append, List.nil_append, List.append_nil, List.getElem?_toArray, List.getElem?_cons_succ, List.getElem?_cons_zero, e_draw, g_nil, g_cons, g_want, g_skip, g_val, g_call, g_ret, Option.map_none, hl, a3, CP, bq1, bq2, bq3, bq4, ex_tup]
      exact rfl, ?_⟩
  show P39_1 _ _
  exact ⟨by simp [hl], by simp [hl]⟩
theorem R39_1 (pe : Nat → Fr39 → ASt → Prop) (pr : Fr39 → ASt → Prop) : Ref Cn P39_2 (Cat [true, true, false, true, true, true, true, true] (bodyOf Try.f39)) m39_1 (post P39_2 pe pr) := by
  rintro s ⟨t, h⟩ hp x s' hm
  have hp : P39_2' s t h := hp
  obtain ⟨w0_0, hl, a0, r0_0, a3, a4⟩ := hp
  unfold m39_1 at hm
  cases hm
  refine ⟨⟨_, _⟩, by
      simp only [bodyOf, Try.f39, Cat, Bool.false_eq_true, e_seq, e_region, e_cond, e_block, ex_skip, ex_exit, ex_ret, o_cons, xops_nil, k_want_none, k_want_false, k_val, k_pan, k_call, k_ret, k_seq, k_seq_exit, k_seq_ret, k_true, k_false, k_block, k_block_exit, k_block_ret, k_loop, k_loop_exit, k_loop_ret, awanted, aoper, evalO, put, Option.getD_some, List.getElem?_set, acallOp, abuiltin, List.map_cons, List.map_nil, Nat.reduceEqDiff, Nat.reduceLT, List.length_set, Option.map_some, Option.bind_some, Option.bind_eq_bind, add_i, sub_i, mul_i, eql_i, neq_i, lss_i, leq_i, gtr_i, geq_i, ofV, ofCell, ↓reduceIte, List.cons_append, List.nil_append, List.append_nil, List.getElem?_toArray, List.getElem?_cons_succ, List.getElem?_cons_zero, e_draw, g_nil, g_cons, g_want, g_skip, g_val, g_call, g_ret, Option.map_none, hl, a0, a3, a4, CP, bq1, bq2, bq3, bq4, ex_tup]
      exact rfl, ?_⟩
  show P39_2 _ _
  exact ⟨w0_0, by simp [hl], by simp [a0], r0_0, by simp [a3], by simp [hl]⟩
theorem R39_2 (pe : Nat → Fr39 → ASt → Prop) (pr : Fr39 → ASt → Prop) : Ref Cn P39_2 (Cat [true, true, false, true, true, true, true, false, true, true, false] (bodyOf Try.f39)) m39_2 (post P39_2 pe pr) := by
  rintro s ⟨t, h⟩ hp x s' hm
  have hp : P39_2' s t h := hp
  obtain ⟨w0_0, hl, a0, r0_0, a3, a4⟩ := hp
  unfold m39_2 at hm
  obtain ⟨y7, hy7, hm⟩ := Option.bind_eq_some_iff.1 hm
  obtain ⟨cu8, du8, eu8, iu8, _⟩ := Sl.ix (rI_p .i64) r0_0 hy7
  subst eu8
  obtain ⟨z9, hz9, hm⟩ := Option.bind_eq_some_iff.1 hm
  have iu10 := G53_spec y7  _ hz9
  obtain ⟨z11, hz11, hm⟩ := Option.bind_eq_some_iff.1 hm
  have iu12 := G52_spec s.t3 z9  _ hz11
  cases hm
  refine ⟨⟨_, _⟩, by
      simp only [bodyOf, Try.f39, Cat, Bool.false_eq_true, e_seq, e_region, e_cond, e_block, ex_skip, ex_exit, ex_ret, o_cons, xops_nil, k_want_none, k_want_false, k_val, k_pan, k_call, k_ret, k_seq, k_seq_exit, k_seq_ret, k_true, k_false, k_block, k_block_exit, k_block_ret, k_loop, k_loop_exit, k_loop_ret, awanted, aoper, evalO, put, Option.getD_some, List.getElem?_set, acallOp, abuiltin, List.map_cons, List.map_nil, Nat.reduceEqDiff, Nat.reduceLT, List.length_set, Option.map_some, Option.bind_some, Option.bind_eq_bind, add_i, sub_i, mul_i, eql_i, neq_i, lss_i, leq_i, gtr_i, geq_i, ofV, ofCell, ↓reduceIte, List.cons_append, List.nil_append, List.append_nil, List.getElem?_toArray, List.getElem?_cons_succ, List.getElem?_cons_zero, e_draw, g_nil, g_cons, g_want, g_skip, g_val, g_call, g_ret, Option.map_none, hl, a0, a3, a4, CP, bq1, bq2, bq3, bq4, ex_tup, Ty.ix24, iu8, Ty.ld3, ld_ip, ofc1, List.drop_succ_cons, List.drop_zero, iu10, iu12]
      exact rfl, ?_⟩
  show P39_2 _ _
  exact ⟨w0_0, by simp [hl], by simp [a0], r0_0, by simp [hl], by simp [a4]⟩
theorem R39_3 (pe : Nat → Fr39 → ASt → Prop) (pr : Fr39 → ASt → Prop) : Ref Cn P39_2 (Cat [true, true, false, true, true, true, true, false, true, false] (bodyOf Try.f39)) m39_3 (post P39_3 pe pr) := by
  rintro s ⟨t, h⟩ hp x s' hm
  have hp : P39_2' s t h := hp
  obtain ⟨w0_0, hl, a0, r0_0, a3, a4⟩ := hp
  unfold m39_3 at hm
  obtain ⟨y15, hy15, hm⟩ := Option.bind_eq_some_iff.1 hm
  obtain ⟨cu16, du16, eu16, iu16, _⟩ := Sl.ix (rI_p .i64) r0_0 hy15
  subst eu16
  cases hb17 : decide (y15 ≥ 0) with
  | true =>
    all_goals (
      try simp only [hb17, cond_true, cond_false, Option.bind_some, Option.bind_assoc, Bool.not_true, Bool.not_false, Bool.true_and, Bool.false_and, Bool.and_true, Bool.and_false, Bool.true_or, Bool.false_or] at hm
      cases hm
      refine ⟨⟨_, _⟩, by
          simp only [bodyOf, Try.f39, Cat, Bool.false_eq_true, e_seq, e_region, e_cond, e_block, ex_skip, ex_exit, ex_ret, o_cons, xops_nil, k_want_none, k_want_false, k_val, k_pan, k_call, k_ret, k_seq, k_seq_exit, k_seq_ret, k_true, k_false, k_block, k_block_exit, k_block_ret, k_loop, k_loop_exit, k_loop_ret, awanted, aoper, evalO, put, Option.getD_some, List.getElem?_set, acallOp, abuiltin, List.map_cons, List.map_nil, Nat.reduceEqDiff, Nat.reduceLT, List.length_set, Option.map_some, Option.bind_some, Option.bind_eq_bind, add_i, sub_i, mul_i, eql_i, neq_i, lss_i, leq_i, gtr_i, geq_i, ofV, ofCell, ↓reduceIte, List.cons_append, List.nil_append, List.append_nil, List.getElem?_toArray, List.getElem?_cons_succ, List.getElem?_cons_zero, e_draw, g_nil, g_cons, g_want, g_skip, g_val, g_call, g_ret, Option.map_none, hl, a0, a3, a4, CP, bq1, bq2, bq3, bq4, ex_tup, Ty.ix24, iu16, Ty.ld3, ld_ip, ofc1, List.drop_succ_cons, List.drop_zero, hb17]
          exact rfl, ?_⟩
      show P39_3 _ _
      exact ⟨w0_0, by simp [hl], by simp [a0], r0_0, by simp [a3], by simp [a4], by simp [hl, hb17]⟩)
  | false =>
    all_goals (
      try simp only [hb17, cond_true, cond_false, Option.bind_some, Option.bind_assoc, Bool.not_true, Bool.not_false, Bool.true_and, Bool.false_and, Bool.and_true, Bool.and_false, Bool.true_or, Bool.false_or] at hm
      cases hm
      refine ⟨⟨_, _⟩, by
          simp only [bodyOf, Try.f39, Cat, Bool.false_eq_true, e_seq, e_region, e_cond, e_block, ex_skip, ex_exit, ex_ret, o_cons, xops_nil, k_want_none, k_want_false, k_val, k_pan, k_call, k_ret, k_seq, k_seq_exit, k_seq_ret, k_true, k_false, k_block, k_block_exit, k_block_ret, k_loop, k_loop_exit, k_loop_ret, awanted, aoper, evalO, put, Option.getD_some, List.getElem?_set, acallOp, abuiltin, List.map_cons, List.map_nil, Nat.reduceEqDiff, Nat.reduceLT, List.length_set, Option.map_some, Option.bind_some, Option.bind_eq_bind, add_i, sub_i, mul_i, eql_i, neq_i, lss_i, leq_i, gtr_i, geq_i, ofV, ofCell, ↓reduceIte, List.cons_append, List.nil_append, List.append_nil, List.getElem?_toArray, List.getElem?_cons_succ, List.getElem?_cons_zero, e_draw, g_nil, g_cons, g_want, g_skip, g_val, g_call, g_ret, Option.map_none, hl, a0, a3, a4, CP, bq1, bq2, bq3, bq4, ex_tup, Ty.ix24, iu16, Ty.ld3, ld_ip, ofc1, List.drop_succ_cons, List.drop_zero, hb17]
          exact rfl, ?_⟩
      show P39_3 _ _
      exact ⟨w0_0, by simp [hl], by simp [a0], r0_0, by simp [a3], by simp [a4], by simp [hl, hb17]⟩)
theorem R39_4 (pe : Nat → Fr39 → ASt → Prop) (pr : Fr39 → ASt → Prop) : Ref Cn P39_2 (Cat [true, true, false, true, true, true, false, false] (bodyOf Try.f39)) m39_4 (post P39_4 pe pr) := by
  rintro s ⟨t, h⟩ hp x s' hm
  have hp : P39_2' s t h := hp
  obtain ⟨w0_0, hl, a0, r0_0, a3, a4⟩ := hp
  unfold m39_4 at hm
  have lu19 := fun h => Sl.len r0_0 Ty.un24 h
  cases hm
  refine ⟨⟨_, _⟩, by
      simp only [bodyOf, Try.f39, Cat, Bool.false_eq_true, e_seq, e_region, e_cond, e_block, ex_skip, ex_exit, ex_ret, o_cons, xops_nil, k_want_none, k_want_false, k_val, k_pan, k_call, k_ret, k_seq, k_seq_exit, k_seq_ret, k_true, k_false, k_block, k_block_exit, k_block_ret, k_loop, k_loop_exit, k_loop_ret, awanted, aoper, evalO, put, Option.getD_some, List.getElem?_set, acallOp, abuiltin, List.map_cons, List.map_nil, Nat.reduceEqDiff, Nat.reduceLT, List.length_set, Option.map_some, Option.bind_some, Option.bind_eq_bind, add_i, sub_i, mul_i, eql_i, neq_i, lss_i, leq_i, gtr_i, geq_i, ofV, ofCell, ↓reduceIte, List.cons_append, List.nil_append, List.append_nil, List.getElem?_toArray, List.getElem?_cons_succ, List.getElem?_cons_zero, e_draw, g_nil, g_cons, g_want, g_skip, g_val, g_call, g_ret, Option.map_none, hl, a0, a3, a4, CP, bq1, bq2, bq3, bq4, ex_tup, lu19]
      exact rfl, ?_⟩
  show P39_4 _ _
  exact ⟨w0_0, by simp [hl], by simp [a0], r0_0, by simp [a3], by simp [a4], by simp [hl]⟩
theorem R39_6 (pe : Nat → Fr39 → ASt → Prop) (pr : Fr39 → ASt → Prop) : Ref Cn P39_5 (Cat [true, true, false, false] (bodyOf Try.f39)) m39_6 (post P39_2 pe pr) := by
  rintro s ⟨t, h⟩ hp x s' hm
  have hp : P39_5' s t h := hp
  obtain ⟨w0_0, hl, a0, r0_0, a3⟩ := hp
  unfold m39_6 at hm
  cases hm
  refine ⟨⟨_, _⟩, by
      simp only [bodyOf, Try.f39, Cat, Bool.false_eq_true, e_seq, e_region, e_cond, e_block, ex_skip, ex_exit, ex_ret, o_cons, xops_nil, k_want_none, k_want_false, k_val, k_pan, k_call, k_ret, k_seq, k_seq_exit, k_seq_ret, k_true, k_false, k_block, k_block_exit, k_block_ret, k_loop, k_loop_exit, k_loop_ret, awanted, aoper, evalO, put, Option.getD_some, List.getElem?_set, acallOp, abuiltin, List.map_cons, List.map_nil, Nat.reduceEqDiff, Nat.reduceLT, List.length_set, Option.map_some, Option.bind_some, Option.bind_eq_bind, add_i, sub_i, mul_i, eql_i, neq_i, lss_i, leq_i, gtr_i, geq_i, ofV, ofCell, ↓reduceIte, List.cons_append, List.nil_append, List.append_nil, List.getElem?_toArray, List.getElem?_cons_succ, List.getElem?_cons_zero, e_draw, g_nil, g_cons, g_want, g_skip, g_val, g_call, g_ret, Option.map_none, hl, a0, a3, CP, bq1, bq2, bq3, bq4, ex_tup]
      exact rfl, ?_⟩
  show P39_2 _ _
  exact ⟨w0_0, by simp [hl], by simp [a0], r0_0, by simp [a3], by simp [hl]⟩
theorem R39_7 (pe : Nat → Fr39 → ASt → Prop) (pr : Fr39 → ASt → Prop) : Ref Cn P39_6 (Cat [true, false] (bodyOf Try.f39)) m39_7 (post P39_5 pe pr) := by
  rintro s ⟨t, h⟩ hp x s' hm
  have hp : P39_6' s t h := hp
  obtain ⟨w0_0, hl, a0, r0_0⟩ := hp
  unfold m39_7 at hm
  cases hm
  refine ⟨⟨_, _⟩, by
      simp only [bodyOf, Try.f39, Cat, Bool.false_eq_true, e_seq, e_region, e_cond, e_block, ex_skip, ex_exit, ex_ret, o_cons, xops_nil, k_want_none, k_want_false, k_val, k_pan, k_call, k_ret, k_seq, k_seq_exit, k_seq_ret, k_true, k_false, k_block, k_block_exit, k_block_ret, k_loop, k_loop_exit, k_loop_ret, awanted, aoper, evalO, put, Option.getD_some, List.getElem?_set, acallOp, abuiltin, List.map_cons, List.map_nil, Nat.reduceEqDiff, Nat.reduceLT, List.length_set, Option.map_some, Option.bind_some, Option.bind_eq_bind, add_i, sub_i, mul_i, eql_i, neq_i, lss_i, leq_i, gtr_i, geq_i, ofV, ofCell, ↓reduceIte, List.cons_append, List.nil_append, List.append_nil, List.getElem?_toArray, List.getElem?_cons_succ, List.getElem?_cons_zero, e_draw, g_nil, g_cons, g_want, g_skip, g_val, g_call, g_ret, Option.map_none, hl, a0, CP, bq1, bq2, bq3, bq4, ex_tup]
      exact rfl, ?_⟩
  show P39_5 _ _
  exact ⟨w0_0, by simp [hl], by simp [a0], r0_0, by simp [hl]⟩
theorem R39_8 (pe : Nat → Fr39 → ASt → Prop) (pr : Fr39 → ASt → Prop) : Ref Cn P39_6 (Cat [false] (bodyOf Try.f39)) m39_8 (post P39_6 pe pr) := by
  rintro s ⟨t, h⟩ hp x s' hm
  have hp : P39_6' s t h := hp
  obtain ⟨w0_0, hl, a0, r0_0⟩ := hp
  unfold m39_8 at hm
  cases hm
  refine ⟨⟨_, _⟩, by
      simp only [bodyOf, Try.f39, Cat, Bool.false_eq_true, e_seq, e_region, e_cond, e_block, ex_skip, ex_exit, ex_ret, o_cons, xops_nil, k_want_none, k_want_false, k_val, k_pan, k_call, k_ret, k_seq, k_seq_exit, k_seq_ret, k_true, k_false, k_block, k_block_exit, k_block_ret, k_loop, k_loop_exit, k_loop_ret, awanted, aoper, evalO, put, Option.getD_some, List.getElem?_set, acallOp, abuiltin, List.map_cons, List.map_nil, Nat.reduceEqDiff, Nat.reduceLT, List.length_set, Option.map_some, Option.bind_some, Option.bind_eq_bind, add_i, sub_i, mul_i, eql_i, neq_i, lss_i, leq_i, gtr_i, geq_i, ofV, ofCell, ↓reduceIte, List.cons_append, List.nil_append, List.append_nil, List.getElem?_toArray, List.getElem?_cons_succ, List.getElem?_cons_zero, e_draw, g_nil, g_cons, g_want, g_skip, g_val, g_call, g_ret, Option.map_none, hl, a0, CP, bq1, bq2, bq3, bq4, ex_tup]
      exact rfl, ?_⟩
  show P39_6 _ _
  exact ⟨w0_0, by simp [hl], by simp [a0], r0_0⟩
theorem B39 : Ref Cn P39_6 (bodyOf Try.f39) (M39) (post P39_1 (fun _ _ _ => False) P39_1) := by
  rw [show bodyOf Try.f39 = .seq (Cat [false] (bodyOf Try.f39)) (.seq (Cat [true, false] (bodyOf Try.f39)) (.seq (.seq (Cat [true, true, false, false] (bodyOf Try.f39)) (.block 0 (.loop (.seq (.seq (Cat [true, true, false, true, true, true, false, false] (bodyOf Try.f39)) (.cond (.tmp 8) (.skip) (.exit 0))) (.seq (.block 1 (.seq (Cat [true, true, false, true, true, true, true, false, true, false] (bodyOf Try.f39)) (.cond (.tmp 22) (Cat [true, true, false, true, true, true, true, false, true, true, false] (bodyOf Try.f39)) (.skip)))) (Cat [true, true, false, true, true, true, true, true] (bodyOf Try.f39))))))) (.seq (Cat [true, true, true, false] (bodyOf Try.f39)) (.ret)))) from rfl]
  unfold M39
  exact ref_seq (M := P39_6) (R39_8 _ _) (ref_seq (M := P39_5) (R39_7 _ _) (ref_seq (M := P39_0) (ref_seq (M := P39_2) (R39_6 _ _) (ref_block (ref_loop (P := P39_2) (ref_weak (P' := P39_2) (fun s st hp => hp) (ref_seq (M := P39_2) (ref_seq (M := P39_4) (R39_4 _ _) (ref_cond (P := P39_4) (c := fun s => s.t8) (fun s st hp => by obtain ⟨w0_0, hl, a0, r0_0, a3, a4, a8⟩ := (hp : P39_4' s st.tmps st.h); simp only [evalO, a8, Option.getD_some]) (ref_weak (P' := P39_2) (fun s st hp => by obtain ⟨w0_0, hl, a0, r0_0, a3, a4, a8⟩ := (hp : P39_4' s st.tmps st.h); exact (⟨w0_0, hl, a0, r0_0, a3, a4⟩ : P39_2' s st.tmps st.h)) (ref_skip (fun s st hp => hp))) (ref_weak (P' := P39_0) (fun s st hp => by obtain ⟨w0_0, hl, a0, r0_0, a3, a4, a8⟩ := (hp : P39_4' s st.tmps st.h); exact (⟨hl, a3⟩ : P39_0' s st.tmps st.h)) (ref_exit (fun s st hp => hp))))) (ref_seq (M := P39_2) (ref_block (ref_seq (M := P39_3) (R39_3 _ _) (ref_cond (P := P39_3) (c := fun s => s.t22) (fun s st hp => by obtain ⟨w0_0, hl, a0, r0_0, a3, a4, a22⟩ := (hp : P39_3' s st.tmps st.h); simp only [evalO, a22, Option.getD_some]) (ref_weak (P' := P39_2) (fun s st hp => by obtain ⟨w0_0, hl, a0, r0_0, a3, a4, a22⟩ := (hp : P39_3' s st.tmps st.h); exact (⟨w0_0, hl, a0, r0_0, a3, a4⟩ : P39_2' s st.tmps st.h)) (R39_2 _ _)) (ref_weak (P' := P39_2) (fun s st hp => by obtain ⟨w0_0, hl, a0, r0_0, a3, a4, a22⟩ := (hp : P39_3' s st.tmps st.h); exact (⟨w0_0, hl, a0, r0_0, a3, a4⟩ : P39_2' s st.tmps st.h)) (ref_skip (fun s st hp => hp)))))) (R39_1 _ _))))))) (ref_seq (M := P39_1) (R39_0 _ _) (ref_ret (fun s st hp => hp)))))
noncomputable def G39 (x0 : (List Int)) : Option Int := match M39 { (default : Fr39) with t0 := x0 } with
  | some (.nrm, s) => some s.t2
  | some (.ret, s) => some s.t2
  | _ => none
theorem G39_spec : Spec39 (G39) := by
  intro x0 vx0_0 hvx0_0 r hr
  unfold G39 at hr
  cases hm : M39 { (default : Fr39) with t0 := x0 } with
  | none => rw [hm] at hr; cases hr
  | some q =>
    obtain ⟨x, s⟩ := q
    rw [hm] at hr
    have hx : x = .nrm ∨ x = .ret := by cases x <;> first | exact .inl rfl | exact .inr rfl | cases hr
    have hr : s.t2 = r := by cases x <;> first | exact Option.some.inj hr | cases hr
    subst hr
    have h0 : P39_6' ({ (default : Fr39) with t0 := x0 }) (slots Try.f39 (stripL [vx0_0])) bare := ⟨(strip vx0_0 : AVal), rfl, rfl, hvx0_0.strip (rI_p .i64)⟩
    obtain ⟨v, hR, _, hrun⟩ := run_of_ref (C := Cn) (f := 39) (fn := Try.f39) Try.func39 rfl rfl rfl rfl (args := [vx0_0]) (by simp only [refsL, refs, List.append_nil, hvx0_0.refs (rI_p .i64)]) (B39) (s0 := { (default : Fr39) with t0 := x0 }) h0 hm hx (R := fun v => v = .int .i64 s.t2) (by
      have key : ∀ st : ASt, P39_1 s st → ∃ vs v, aresults Cn Try.f39.results.toList st = some vs ∧ packRes vs = v ∧ refs v = [] ∧ (fun v => v = .int .i64 s.t2) (strip v) := by
        intro st hp
        obtain ⟨hl, a2⟩ := (hp : P39_1' s st.tmps st.h)
        refine ⟨[.int .i64 s.t2], _, by simp only [show Try.f39.results.toList = [ResultVar.tmp 2] from rfl, aresults, ares1, a2, Option.getD_some], rfl, by simp only [packRes, refsL, refs, List.append_nil], rfl⟩
      intro st hq
      rcases hx with rfl | rfl
      · exact key st hq
      · exact key st hq)
    subst hR
    exact hrun
/-! ### caisson/caissonref11.List -/
structure Fr29 where
  t0 : Int
  t2 : (List Int)
  t3 : (List Int)
  t4 : Int
  t5 : Bool
  t15 : Bool
  t21 : Bool
instance : Inhabited Fr29 := ⟨⟨0, [], [], 0, false, false, false⟩⟩
def P29_0' (s : Fr29) (t : List AVal) (h : AHeap) : Prop := ∃ w3_0, t.length = 27 ∧ t[3]? = some w3_0 ∧ Gr (rI .i64) 1 s.t3 w3_0 h
def P29_0 (s : Fr29) (st : ASt) : Prop := P29_0' s st.tmps st.h
def P29_1' (s : Fr29) (t : List AVal) (h : AHeap) : Prop := ∃ w2_0, t.length = 27 ∧ t[2]? = some w2_0 ∧ Sl (rI .i64) s.t2 w2_0
def P29_1 (s : Fr29) (st : ASt) : Prop := P29_1' s st.tmps st.h
def P29_2' (s : Fr29) (t : List AVal) (h : AHeap) : Prop := ∃ w3_0, t.length = 27 ∧ t[0]? = some (.int .i64 s.t0) ∧ t[3]? = some w3_0 ∧ Gr (rI .i64) 1 s.t3 w3_0 h ∧ t[4]? = some (.int .i64 s.t4)
def P29_2 (s : Fr29) (st : ASt) : Prop := P29_2' s st.tmps st.h
def P29_3' (s : Fr29) (t : List AVal) (h : AHeap) : Prop := ∃ w3_0, t.length = 27 ∧ t[0]? = some (.int .i64 s.t0) ∧ t[3]? = some w3_0 ∧ Gr (rI .i64) 1 s.t3 w3_0 h ∧ t[4]? = some (.int .i64 s.t4) ∧ t[21]? = some (.bool s.t21)
def P29_3 (s : Fr29) (st : ASt) : Prop := P29_3' s st.tmps st.h
def P29_4' (s : Fr29) (t : List AVal) (h : AHeap) : Prop := ∃ w3_0, t.length = 27 ∧ t[0]? = some (.int .i64 s.t0) ∧ t[3]? = some w3_0 ∧ Gr (rI .i64) 1 s.t3 w3_0 h ∧ t[4]? = some (.int .i64 s.t4) ∧ t[5]? = some (.bool s.t5)
def P29_4 (s : Fr29) (st : ASt) : Prop := P29_4' s st.tmps st.h
def P29_5' (s : Fr29) (t : List AVal) (h : AHeap) : Prop := ∃ w3_0, t.length = 27 ∧ t[0]? = some (.int .i64 s.t0) ∧ t[3]? = some w3_0 ∧ Gr (rI .i64) 1 s.t3 w3_0 h ∧ t[4]? = some (.int .i64 s.t4) ∧ t[15]? = some (.bool s.t15)
def P29_5 (s : Fr29) (st : ASt) : Prop := P29_5' s st.tmps st.h
def P29_6' (s : Fr29) (t : List AVal) (h : AHeap) : Prop := ∃ w3_0, t.length = 27 ∧ t[0]? = some (.int .i64 s.t0) ∧ t[3]? = some w3_0 ∧ Gr (rI .i64) 1 s.t3 w3_0 h
def P29_6 (s : Fr29) (st : ASt) : Prop := P29_6' s st.tmps st.h
def P29_7' (s : Fr29) (t : List AVal) (h : AHeap) : Prop := t.length = 27 ∧ t[0]? = some (.int .i64 s.t0)
def P29_7 (s : Fr29) (st : ASt) : Prop := P29_7' s st.tmps st.h
noncomputable def m29_0 : Mo Fr29 := fun s => some (.nrm, { s with t2 := s.t3 })
noncomputable def m29_1 : Mo Fr29 := fun s => some (.nrm, { s with t4 := IntKind.wrap .i64 (s.t4 + 1) })
noncomputable def m29_2 : Mo Fr29 := fun s => (appT 8 s.t3 [s.t4]).bind fun z5 => some (.nrm, { s with t3 := z5 })
noncomputable def m29_3 : Mo Fr29 := fun s => some (.nrm, { s with t21 := s.t5 })
noncomputable def m29_4 : Mo Fr29 := fun s => (G44 s.t0 s.t4).bind fun z13 => some (.nrm, { s with t5 := z13 })
noncomputable def m29_5 : Mo Fr29 := fun s => some (.nrm, { s with t15 := (((decide (s.t4 < 6)) && (decide (s.t0 ≥ 0))) && (decide (s.t0 < 64))) })
noncomputable def L29_6 : Mo Fr29 := seqM (seqM (m29_5) (condM (fun s => s.t15) (skipM) (exitM 0))) (seqM (blockM 1 (seqM (m29_4) (seqM (m29_3) (condM (fun s => s.t21) (m29_2) (skipM))))) (m29_1))
noncomputable def m29_7 : Mo Fr29 := fun s => some (.nrm, { s with t4 := 0 })
noncomputable def m29_8 : Mo Fr29 := fun s => some (.nrm, { s with t3 := [] })
noncomputable def m29_9 : Mo Fr29 := fun s => some (.nrm, s)
noncomputable def M29 : Mo Fr29 := seqM (m29_9) (seqM (m29_8) (seqM (seqM (m29_7) (blockM 0 (loopM (L29_6)))) (seqM (m29_0) (retM))))
def Spec29 (f : Int → Option (List Int)) : Prop := ∀ (x0 : Int) (r : (List Int)), f x0 = some r → ∃ y0_0, Sl (rI .i64) r y0_0 ∧ ∀ h, run Cn 29 [.int .i64 x0] h = some (.ret (y0_0), h)
theorem Spec29_of {f g : Int → Option (List Int)} (hg : Spec29 g) (h : ∀ x0 r, f x0 = some r → g x0 = some r) : Spec29 f := fun x0 r hr => hg x0 r (h x0 r hr)
theorem R29_0 (pe : Nat → Fr29 → ASt → Prop) (pr : Fr29 → ASt → Prop) : Ref Cn P29_0 (Cat [true, true, true, false] (bodyOf Try.f29)) m29_0 (post P29_1 pe pr) := by
  rintro s ⟨t, h⟩ hp x s' hm
  have hp : P29_0' s t h := hp
  obtain ⟨w3_0, hl, a3, r3_0⟩ := hp
  unfold m29_0 at hm
  cases hm
  refine ⟨⟨_, _⟩, by
      simp only [bodyOf, Try.f29, Cat, Bool.false_eq_true, e_seq, e_region, e_cond, e_block, ex_skip, ex_exit, ex_ret, o_cons, xops_nil, k_want_none, k_want_false, k_val, k_pan, k_call, k_ret, k_seq, k_seq_exit, k_seq_ret, k_true, k_false, k_block, k_block_exit, k_block_ret, k_loop, k_loop_exit, k_loop_ret, awanted, aoper, evalO, put, Option.getD_some, List.getElem?_set, acallOp, abuiltin, List.map_cons, List.map_nil, Nat.reduceEqDiff, Nat.reduceLT, List.length_set, Option.map_some, Option.bind_some, Option.bind_eq_bind, add_i, sub_i, mul_i, eql_i, neq_i, lss_i, leq_i, gtr_i, geq_i, ofV, ofCell, ↓reduceIte, List.cons_append, List.nil_append, List.append_nil, List.getElem?_toArray, List.getElem?_cons_succ, List.getElem?_cons_zero, e_draw, g_nil, g_cons, g_want, g_skip, g_val, g_call, g_ret, Option.map_none, hl, a3, CP, bq1, bq2, bq3, bq4, ex_tup]
      exact rfl, ?_⟩
  show P29_1 _ _
  exact ⟨w3_0, by simp [hl], by simp [hl], r3_0.1⟩
theorem R29_1 (pe : Nat → Fr29 → ASt → Prop) (pr : Fr29 → ASt → Prop) : Ref Cn P29_2 (Cat [true, true, false, true, true, true, true, true] (bodyOf Try.f29)) m29_1 (post P29_2 pe pr) := by
  rintro s ⟨t, h⟩ hp x s' hm
  have hp : P29_2' s t h := hp
  obtain ⟨w3_0, hl, a0, a3, r3_0, a4⟩ := hp
  unfold m29_1 at hm
  cases hm
  refine ⟨⟨_, _⟩, by
      simp only [bodyOf, Try.f29, Cat, Bool.false_eq_true, e_seq, e_region, e_cond, e_block, ex_skip, ex_exit, ex_ret, o_cons, xops_nil, k_want_none, k_want_false, k_val, k_pan, k_call, k_ret, k_seq, k_seq_exit, k_seq_ret, k_true, k_false, k_block, k_block_exit, k_block_ret, k_loop, k_loop_exit, k_loop_ret, awanted, aoper, evalO, put, Option.getD_some, List.getElem?_set, acallOp, abuiltin, List.map_cons, List.map_nil, Nat.reduceEqDiff, Nat.reduceLT, List.length_set, Option.map_some, Option.bind_some, Option.bind_eq_bind, add_i, sub_i, mul_i, eql_i, neq_i, lss_i, leq_i, gtr_i, geq_i, ofV, ofCell, ↓reduceIte, List.cons_append, List.nil_append, List.append_nil, List.getElem?_toArray, List.getElem?_cons_succ, List.getElem?_cons_zero, e_draw, g_nil, g_cons, g_want, g_skip, g_val, g_call, g_ret, Option.map_none, hl, a0, a3, a4, CP, bq1, bq2, bq3, bq4, ex_tup]
      exact rfl, ?_⟩
  show P29_2 _ _
  exact ⟨w3_0, by simp [hl], by simp [a0], by simp [a3], r3_0, by simp [hl]⟩
theorem R29_2 (pe : Nat → Fr29 → ASt → Prop) (pr : Fr29 → ASt → Prop) : Ref Cn P29_2 (Cat [true, true, false, true, true, true, true, false, true, true, true, false] (bodyOf Try.f29)) m29_2 (post P29_2 pe pr) := by
  rintro s ⟨t, h⟩ hp x s' hm
  have hp : P29_2' s t h := hp
  obtain ⟨w3_0, hl, a0, a3, r3_0, a4⟩ := hp
  unfold m29_2 at hm
  have bd7 : abuildSlice Try.prog 24 1 [(0, .int .i64 s.t4)] = some ([.int .i64 s.t4], 1) := by kernel_rfl
  have bs8 : Els (rI .i64) [s.t4] [[.int .i64 s.t4]] := (Els.cons rfl Els.nil)
  have sl9 : Sl (rI .i64) [s.t4] (.lst [.int .i64 s.t4] 1 .full) := Sl.lst .full bs8
  have gr10 : ∀ h, Gr (rI .i64) 1 [s.t4] (.lst [.int .i64 s.t4] 1 .full) h := fun h => Gr.full bs8 h
  obtain ⟨z11, hz11, hm⟩ := Option.bind_eq_some_iff.1 hm
  obtain ⟨vu12, hu12, pu12, gu12, nu12, ku12, fu12⟩ := Gr.app (rI_p .i64) r3_0 sl9 hz11
  cases hm
  refine ⟨⟨_, _⟩, by
      simp only [bodyOf, Try.f29, Cat, Bool.false_eq_true, e_seq, e_region, e_cond, e_block, ex_skip, ex_exit, ex_ret, o_cons, xops_nil, k_want_none, k_want_false, k_val, k_pan, k_call, k_ret, k_seq, k_seq_exit, k_seq_ret, k_true, k_false, k_block, k_block_exit, k_block_ret, k_loop, k_loop_exit, k_loop_ret, awanted, aoper, evalO, put, Option.getD_some, List.getElem?_set, acallOp, abuiltin, List.map_cons, List.map_nil, Nat.reduceEqDiff, Nat.reduceLT, List.length_set, Option.map_some, Option.bind_some, Option.bind_eq_bind, add_i, sub_i, mul_i, eql_i, neq_i, lss_i, leq_i, gtr_i, geq_i, ofV, ofCell, ↓reduceIte, List.cons_append, List.nil_append, List.append_nil, List.getElem?_toArray, List.getElem?_cons_succ, List.getElem?_cons_zero, e_draw, g_nil, g_cons, g_want, g_skip, g_val, g_call, g_ret, Option.map_none, hl, a0, a3, a4, CP, bq1, bq2, bq3, bq4, ex_tup, bd7, Ty.own_ref_go_63, pu12, Ty.ap24]
      exact rfl, ?_⟩
  show P29_2 _ _
  exact ⟨vu12, by simp [hl], by simp [a0], by simp [hl], gu12, by simp [a4]⟩
theorem R29_3 (pe : Nat → Fr29 → ASt → Prop) (pr : Fr29 → ASt → Prop) : Ref Cn P29_4 (Cat [true, true, false, true, true, true, true, false, true, true, false] (bodyOf Try.f29)) m29_3 (post P29_3 pe pr) := by
  rintro s ⟨t, h⟩ hp x s' hm
  have hp : P29_4' s t h := hp
  obtain ⟨w3_0, hl, a0, a3, r3_0, a4, a5⟩ := hp
  unfold m29_3 at hm
  cases hm
  refine ⟨⟨_, _⟩, by
      simp only [bodyOf, Try.f29, Cat, Bool.false_eq_true, e_seq, e_region, e_cond, e_block, ex_skip, ex_exit, ex_ret, o_cons, xops_nil, k_want_none, k_want_false, k_val, k_pan, k_call, k_ret, k_seq, k_seq_exit, k_seq_ret, k_true, k_false, k_block, k_block_exit, k_block_ret, k_loop, k_loop_exit, k_loop_ret, awanted, aoper, evalO, put, Option.getD_some, List.getElem?_set, acallOp, abuiltin, List.map_cons, List.map_nil, Nat.reduceEqDiff, Nat.reduceLT, List.length_set, Option.map_some, Option.bind_some, Option.bind_eq_bind, add_i, sub_i, mul_i, eql_i, neq_i, lss_i, leq_i, gtr_i, geq_i, ofV, ofCell, ↓reduceIte, List.cons_append, List.nil_append, List.append_nil, List.getElem?_toArray, List.getElem?_cons_succ, List.getElem?_cons_zero, e_draw, g_nil, g_cons, g_want, g_skip, g_val, g_call, g_ret, Option.map_none, hl, a0, a3, a4, a5, CP, bq1, bq2, bq3, bq4, ex_tup]
      exact rfl, ?_⟩
  show P29_3 _ _
  exact ⟨w3_0, by simp [hl], by simp [a0], by simp [a3], r3_0, by simp [a4], by simp [hl]⟩
theorem R29_4 (pe : Nat → Fr29 → ASt → Prop) (pr : Fr29 → ASt → Prop) : Ref Cn P29_2 (Cat [true, true, false, true, true, true, true, false, true, false] (bodyOf Try.f29)) m29_4 (post P29_4 pe pr) := by
  rintro s ⟨t, h⟩ hp x s' hm
  have hp : P29_2' s t h := hp
  obtain ⟨w3_0, hl, a0, a3, r3_0, a4⟩ := hp
  unfold m29_4 at hm
  obtain ⟨z15, hz15, hm⟩ := Option.bind_eq_some_iff.1 hm
  have iu16 := G44_spec s.t0 s.t4  _ hz15
  cases hm
  refine ⟨⟨_, _⟩, by
      simp only [bodyOf, Try.f29, Cat, Bool.false_eq_true, e_seq, e_region, e_cond, e_block, ex_skip, ex_exit, ex_ret, o_cons, xops_nil, k_want_none, k_want_false, k_val, k_pan, k_call, k_ret, k_seq, k_seq_exit, k_seq_ret, k_true, k_false, k_block, k_block_exit, k_block_ret, k_loop, k_loop_exit, k_loop_ret, awanted, aoper, evalO, put, Option.getD_some, List.getElem?_set, acallOp, abuiltin, List.map_cons, List.map_nil, Nat.reduceEqDiff, Nat.reduceLT, List.length_set, Option.map_some, Option.bind_some, Option.bind_eq_bind, add_i, sub_i, mul_i, eql_i, neq_i, lss_i, leq_i, gtr_i, geq_i, ofV, ofCell, ↓reduceIte, List.cons_append, List.nil_append, List.append_nil, List.getElem?_toArray, List.getElem?_cons_succ, List.getElem?_cons_zero, e_draw, g_nil, g_cons, g_want, g_skip, g_val, g_call, g_ret, Option.map_none, hl, a0, a3, a4, CP, bq1, bq2, bq3, bq4, ex_tup, iu16]
      exact rfl, ?_⟩
  show P29_4 _ _
  exact ⟨w3_0, by simp [hl], by simp [a0], by simp [a3], r3_0, by simp [a4], by simp [hl]⟩
theorem R29_5 (pe : Nat → Fr29 → ASt → Prop) (pr : Fr29 → ASt → Prop) : Ref Cn P29_2 (Cat [true, true, false, true, true, true, false, false] (bodyOf Try.f29)) m29_5 (post P29_5 pe pr) := by
  rintro s ⟨t, h⟩ hp x s' hm
  have hp : P29_2' s t h := hp
  obtain ⟨w3_0, hl, a0, a3, r3_0, a4⟩ := hp
  unfold m29_5 at hm
  cases hb17 : decide (s.t4 < 6) with
  | true =>
    all_goals (
      try simp only [hb17, cond_true, cond_false, Option.bind_some, Option.bind_assoc, Bool.not_true, Bool.not_false, Bool.true_and, Bool.false_and, Bool.and_true, Bool.and_false, Bool.true_or, Bool.false_or] at hm
      cases hb18 : decide (s.t0 ≥ 0) with
      | true =>
        all_goals (
          try simp only [hb18, cond_true, cond_false, Option.bind_some, Option.bind_assoc, Bool.not_true, Bool.not_false, Bool.true_and, Bool.false_and, Bool.and_true, Bool.and_false, Bool.true_or, Bool.false_or] at hm
          cases hm
          refine ⟨⟨_, _⟩, by
              simp only [bodyOf, Try.f29, Cat, Bool.false_eq_true, e_seq, e_region, e_cond, e_block, ex_skip, ex_exit, ex_ret, o_cons, xops_nil, k_want_none, k_want_false, k_val, k_pan, k_call, k_ret, k_seq, k_seq_exit, k_seq_ret, k_true, k_false, k_block, k_block_exit, k_block_ret, k_loop, k_loop_exit, k_loop_ret, awanted, aoper, evalO, put, Option.getD_some, List.getElem?_set, acallOp, abuiltin, List.map_cons, List.map_nil, Nat.reduceEqDiff, Nat.reduceLT, List.length_set, Option.map_some, Option.bind_some, Option.bind_eq_bind, add_i, sub_i, mul_i, eql_i, neq_i, lss_i, leq_i, gtr_i, geq_i, ofV, ofCell, ↓reduceIte, List.cons_append, List.nil_append, List.append_nil, List.getElem?_toArray, List.getElem?_cons_succ, List.getElem?_cons_zero, e_draw, g_nil, g_cons, g_want, g_skip, g_val, g_call, g_ret, Option.map_none, hl, a0, a3, a4, CP, bq1, bq2, bq3, bq4, ex_tup, hb17, hb18]
              exact rfl, ?_⟩
          show P29_5 _ _
          exact ⟨w3_0, by simp [hl], by simp [a0], by simp [a3], r3_0, by simp [a4], by simp [hl, hb17, hb18]⟩)
      | false =>
        all_goals (
          try simp only [hb18, cond_true, cond_false, Option.bind_some, Option.bind_assoc, Bool.not_true, Bool.not_false, Bool.true_and, Bool.false_and, Bool.and_true, Bool.and_false, Bool.true_or, Bool.false_or] at hm
          cases hm
          refine ⟨⟨_, _⟩, by
              simp only [bodyOf, Try.f29, Cat, Bool.false_eq_true, e_seq, e_region, e_cond, e_block, ex_skip, ex_exit, ex_ret, o_cons, xops_nil, k_want_none, k_want_false, k_val, k_pan, k_call, k_ret, k_seq, k_seq_exit, k_seq_ret, k_true, k_false, k_block, k_block_exit, k_block_ret, k_loop, k_loop_exit, k_loop_ret, awanted, aoper, evalO, put, Option.getD_some, List.getElem?_set, acallOp, abuiltin, List.map_cons, List.map_nil, Nat.reduceEqDiff, Nat.reduceLT, List.length_set, Option.map_some, Option.bind_some, Option.bind_eq_bind, add_i, sub_i, mul_i, eql_i, neq_i, lss_i, leq_i, gtr_i, geq_i, ofV, ofCell, ↓reduceIte, List.cons_append, List.nil_append, List.append_nil, List.getElem?_toArray, List.getElem?_cons_succ, List.getElem?_cons_zero, e_draw, g_nil, g_cons, g_want, g_skip, g_val, g_call, g_ret, Option.map_none, hl, a0, a3, a4, CP, bq1, bq2, bq3, bq4, ex_tup, hb17, hb18]
              exact rfl, ?_⟩
          show P29_5 _ _
          exact ⟨w3_0, by simp [hl], by simp [a0], by simp [a3], r3_0, by simp [a4], by simp [hl, hb17, hb18]⟩))
  | false =>
    all_goals (
      try simp only [hb17, cond_true, cond_false, Option.bind_some, Option.bind_assoc, Bool.not_true, Bool.not_false, Bool.true_and, Bool.false_and, Bool.and_true, Bool.and_false, Bool.true_or, Bool.false_or] at hm
      cases hm
      refine ⟨⟨_, _⟩, by
          simp only [bodyOf, Try.f29, Cat, Bool.false_eq_true, e_seq, e_region, e_cond, e_block, ex_skip, ex_exit, ex_ret, o_cons, xops_nil, k_want_none, k_want_false, k_val, k_pan, k_call, k_ret, k_seq, k_seq_exit, k_seq_ret, k_true, k_false, k_block, k_block_exit, k_block_ret, k_loop, k_loop_exit, k_loop_ret, awanted, aoper, evalO, put, Option.getD_some, List.getElem?_set, acallOp, abuiltin, List.map_cons, List.map_nil, Nat.reduceEqDiff, Nat.reduceLT, List.length_set, Option.map_some, Option.bind_some, Option.bind_eq_bind, add_i, sub_i, mul_i, eql_i, neq_i, lss_i, leq_i, gtr_i, geq_i, ofV, ofCell, ↓reduceIte, List.cons_append, List.nil_append, List.append_nil, List.getElem?_toArray, List.getElem?_cons_succ, List.getElem?_cons_zero, e_draw, g_nil, g_cons, g_want, g_skip, g_val, g_call, g_ret, Option.map_none, hl, a0, a3, a4, CP, bq1, bq2, bq3, bq4, ex_tup, hb17]
          exact rfl, ?_⟩
      show P29_5 _ _
      exact ⟨w3_0, by simp [hl], by simp [a0], by simp [a3], r3_0, by simp [a4], by simp [hl, hb17]⟩)
theorem R29_7 (pe : Nat → Fr29 → ASt → Prop) (pr : Fr29 → ASt → Prop) : Ref Cn P29_6 (Cat [true, true, false, false] (bodyOf Try.f29)) m29_7 (post P29_2 pe pr) := by
  rintro s ⟨t, h⟩ hp x s' hm
  have hp : P29_6' s t h := hp
  obtain ⟨w3_0, hl, a0, a3, r3_0⟩ := hp
  unfold m29_7 at hm
  cases hm
  refine ⟨⟨_, _⟩, by
      simp only [bodyOf, Try.f29, Cat, Bool.false_eq_true, e_seq, e_region, e_cond, e_block, ex_skip, ex_exit, ex_ret, o_cons, xops_nil, k_want_none, k_want_false, k_val, k_pan, k_call, k_ret, k_seq, k_seq_exit, k_seq_ret, k_true, k_false, k_block, k_block_exit, k_block_ret, k_loop, k_loop_exit, k_loop_ret, awanted, aoper, evalO, put, Option.getD_some, List.getElem?_set, acallOp, abuiltin, List.map_cons, List.map_nil, Nat.reduceEqDiff, Nat.reduceLT, List.length_set, Option.map_some, Option.bind_some, Option.bind_eq_bind, add_i, sub_i, mul_i, eql_i, neq_i, lss_i, leq_i, gtr_i, geq_i, ofV, ofCell, ↓reduceIte, List.cons_append, List.nil_append, List.append_nil, List.getElem?_toArray, List.getElem?_cons_succ, List.getElem?_cons_zero, e_draw, g_nil, g_cons, g_want, g_skip, g_val, g_call, g_ret, Option.map_none, hl, a0, a3, CP, bq1, bq2, bq3, bq4, ex_tup]
      exact rfl, ?_⟩
  show P29_2 _ _
  exact ⟨w3_0, by simp [hl], by simp [a0], by simp [a3], r3_0, by simp [hl]⟩
theorem R29_8 (pe : Nat → Fr29 → ASt → Prop) (pr : Fr29 → ASt → Prop) : Ref Cn P29_7 (Cat [true, false] (bodyOf Try.f29)) m29_8 (post P29_6 pe pr) := by
  rintro s ⟨t, h⟩ hp x s' hm
  have hp : P29_7' s t h := hp
  obtain ⟨hl, a0⟩ := hp
  unfold m29_8 at hm
  cases hm
  refine ⟨⟨_, _⟩, by
      simp only [bodyOf, Try.f29, Cat, Bool.false_eq_true, e_seq, e_region, e_cond, e_block, ex_skip, ex_exit, ex_ret, o_cons, xops_nil, k_want_none, k_want_false, k_val, k_pan, k_call, k_ret, k_seq, k_seq_exit, k_seq_ret, k_true, k_false, k_block, k_block_exit, k_block_ret, k_loop, k_loop_exit, k_loop_ret, awanted, aoper, evalO, put, Option.getD_some, List.getElem?_set, acallOp, abuiltin, List.map_cons, List.map_nil, Nat.reduceEqDiff, Nat.reduceLT, List.length_set, Option.map_some, Option.bind_some, Option.bind_eq_bind, add_i, sub_i, mul_i, eql_i, neq_i, lss_i, leq_i, gtr_i, geq_i, ofV, ofCell, ↓reduceIte, List.cons_append, List.nil_append, List.append_nil, List.getElem?_toArray, List.getElem?_cons_succ, List.getElem?_cons_zero, e_draw, g_nil, g_cons, g_want, g_skip, g_val, g_call, g_ret, Option.map_none, hl, a0, CP, bq1, bq2, bq3, bq4, ex_tup]
      exact rfl, ?_⟩
  show P29_6 _ _
  exact ⟨(.nilSl : AVal), by simp [hl], by simp [a0], by simp [hl], (Gr.nil h)⟩
theorem R29_9 (pe : Nat → Fr29 → ASt → Prop) (pr : Fr29 → ASt → Prop) : Ref Cn P29_7 (Cat [false] (bodyOf Try.f29)) m29_9 (post P29_7 pe pr) := by
  rintro s ⟨t, h⟩ hp x s' hm
  have hp : P29_7' s t h := hp
  obtain ⟨hl, a0⟩ := hp
  unfold m29_9 at hm
  cases hm
  refine ⟨⟨_, _⟩, by
      simp only [bodyOf, Try.f29, Cat, Bool.false_eq_true, e_seq, e_region, e_cond, e_block, ex_skip, ex_exit, ex_ret, o_cons, xops_nil, k_want_none, k_want_false, k_val, k_pan, k_call, k_ret, k_seq, k_seq_exit, k_seq_ret, k_true, k_false, k_block, k_block_exit, k_block_ret, k_loop, k_loop_exit, k_loop_ret, awanted, aoper, evalO, put, Option.getD_some, List.getElem?_set, acallOp, abuiltin, List.map_cons, List.map_nil, Nat.reduceEqDiff, Nat.reduceLT, List.length_set, Option.map_some, Option.bind_some, Option.bind_eq_bind, add_i, sub_i, mul_i, eql_i, neq_i, lss_i, leq_i, gtr_i, geq_i, ofV, ofCell, ↓reduceIte, List.cons_append, List.nil_append, List.append_nil, List.getElem?_toArray, List.getElem?_cons_succ, List.getElem?_cons_zero, e_draw, g_nil, g_cons, g_want, g_skip, g_val, g_call, g_ret, Option.map_none, hl, a0, CP, bq1, bq2, bq3, bq4, ex_tup]
      exact rfl, ?_⟩
  show P29_7 _ _
  exact ⟨by simp [hl], by simp [a0]⟩
theorem B29 : Ref Cn P29_7 (bodyOf Try.f29) (M29) (post P29_1 (fun _ _ _ => False) P29_1) := by
  rw [show bodyOf Try.f29 = .seq (Cat [false] (bodyOf Try.f29)) (.seq (Cat [true, false] (bodyOf Try.f29)) (.seq (.seq (Cat [true, true, false, false] (bodyOf Try.f29)) (.block 0 (.loop (.seq (.seq (Cat [true, true, false, true, true, true, false, false] (bodyOf Try.f29)) (.cond (.tmp 15) (.skip) (.exit 0))) (.seq (.block 1 (.seq (Cat [true, true, false, true, true, true, true, false, true, false] (bodyOf Try.f29)) (.seq (Cat [true, true, false, true, true, true, true, false, true, true, false] (bodyOf Try.f29)) (.cond (.tmp 21) (Cat [true, true, false, true, true, true, true, false, true, true, true, false] (bodyOf Try.f29)) (.skip))))) (Cat [true, true, false, true, true, true, true, true] (bodyOf Try.f29))))))) (.seq (Cat [true, true, true, false] (bodyOf Try.f29)) (.ret)))) from rfl]
  unfold M29
  exact ref_seq (M := P29_7) (R29_9 _ _) (ref_seq (M := P29_6) (R29_8 _ _) (ref_seq (M := P29_0) (ref_seq (M := P29_2) (R29_7 _ _) (ref_block (ref_loop (P := P29_2) (ref_weak (P' := P29_2) (fun s st hp => hp) (ref_seq (M := P29_2) (ref_seq (M := P29_5) (R29_5 _ _) (ref_cond (P := P29_5) (c := fun s => s.t15) (fun s st hp => by obtain ⟨w3_0, hl, a0, a3, r3_0, a4, a15⟩ := (hp : P29_5' s st.tmps st.h); simp only [evalO, a15, Option.getD_some]) (ref_weak (P' := P29_2) (fun s st hp => by obtain ⟨w3_0, hl, a0, a3, r3_0, a4, a15⟩ := (hp : P29_5' s st.tmps st.h); exact (⟨w3_0, hl, a0, a3, r3_0, a4⟩ : P29_2' s st.tmps st.h)) (ref_skip (fun s st hp => hp))) (ref_weak (P' := P29_0) (fun s st hp => by obtain ⟨w3_0, hl, a0, a3, r3_0, a4, a15⟩ := (hp : P29_5' s st.tmps st.h); exact (⟨w3_0, hl, a3, r3_0⟩ : P29_0' s st.tmps st.h)) (ref_exit (fun s st hp => hp))))) (ref_seq (M := P29_2) (ref_block (ref_seq (M := P29_4) (R29_4 _ _) (ref_seq (M := P29_3) (R29_3 _ _) (ref_cond (P := P29_3) (c := fun s => s.t21) (fun s st hp => by obtain ⟨w3_0, hl, a0, a3, r3_0, a4, a21⟩ := (hp : P29_3' s st.tmps st.h); simp only [evalO, a21, Option.getD_some]) (ref_weak (P' := P29_2) (fun s st hp => by obtain ⟨w3_0, hl, a0, a3, r3_0, a4, a21⟩ := (hp : P29_3' s st.tmps st.h); exact (⟨w3_0, hl, a0, a3, r3_0, a4⟩ : P29_2' s st.tmps st.h)) (R29_2 _ _)) (ref_weak (P' := P29_2) (fun s st hp => by obtain ⟨w3_0, hl, a0, a3, r3_0, a4, a21⟩ := (hp : P29_3' s st.tmps st.h); exact (⟨w3_0, hl, a0, a3, r3_0, a4⟩ : P29_2' s st.tmps st.h)) (ref_skip (fun s st hp => hp))))))) (R29_1 _ _))))))) (ref_seq (M := P29_1) (R29_0 _ _) (ref_ret (fun s st hp => hp)))))
noncomputable def G29 (x0 : Int) : Option (List Int) := match M29 { (default : Fr29) with t0 := x0 } with
  | some (.nrm, s) => some s.t2
  | some (.ret, s) => some s.t2
  | _ => none
theorem G29_spec : Spec29 (G29) := by
  intro x0 r hr
  unfold G29 at hr
  cases hm : M29 { (default : Fr29) with t0 := x0 } with
  | none => rw [hm] at hr; cases hr
  | some q =>
    obtain ⟨x, s⟩ := q
    rw [hm] at hr
    have hx : x = .nrm ∨ x = .ret := by cases x <;> first | exact .inl rfl | exact .inr rfl | cases hr
    have hr : s.t2 = r := by cases x <;> first | exact Option.some.inj hr | cases hr
    subst hr
    have h0 : P29_7' ({ (default : Fr29) with t0 := x0 }) (slots Try.f29 (stripL [.int .i64 x0])) bare := ⟨rfl, rfl⟩
    obtain ⟨v, hR, _, hrun⟩ := run_of_ref (C := Cn) (f := 29) (fn := Try.f29) Try.func29 rfl rfl rfl rfl (args := [.int .i64 x0]) (by simp only [refsL, refs, List.append_nil]) (B29) (s0 := { (default : Fr29) with t0 := x0 }) h0 hm hx (R := fun v => ∃ y0_0, Sl (rI .i64) s.t2 y0_0 ∧ v = y0_0) (by
      have key : ∀ st : ASt, P29_1 s st → ∃ vs v, aresults Cn Try.f29.results.toList st = some vs ∧ packRes vs = v ∧ refs v = [] ∧ (fun v => ∃ y0_0, Sl (rI .i64) s.t2 y0_0 ∧ v = y0_0) (strip v) := by
        intro st hp
        obtain ⟨w2_0, hl, a2, r2_0⟩ := (hp : P29_1' s st.tmps st.h)
        refine ⟨[w2_0], _, by simp only [show Try.f29.results.toList = [ResultVar.tmp 2] from rfl, aresults, ares1, a2, Option.getD_some], rfl, by simp only [packRes, refsL, refs, List.append_nil, r2_0.refs (rI_p .i64)], ⟨strip w2_0, r2_0.strip (rI_p .i64), rfl⟩⟩
      intro st hq
      rcases hx with rfl | rfl
      · exact key st hq
      · exact key st hq)
    obtain ⟨z0, g0, hv⟩ := hR
    exact ⟨z0, g0, fun h => by rw [hrun h, hv]⟩
/-! ### caisson/sets.Of -/
structure Fr37 where
  t0 : (List Int)
  t2 : Int
  t3 : Int
  t5 : Int
  t6 : (List Int)
  t7 : Int
  t8 : Int
  t9 : Bool
  t17 : Bool
instance : Inhabited Fr37 := ⟨⟨[], 0, 0, 0, [], 0, 0, false, false⟩⟩
def P37_0' (s : Fr37) (t : List AVal) (h : AHeap) : Prop := t.length = 24 ∧ t[3]? = some (.int .i64 s.t3)
def P37_0 (s : Fr37) (st : ASt) : Prop := P37_0' s st.tmps st.h
def P37_1' (s : Fr37) (t : List AVal) (h : AHeap) : Prop := t.length = 24 ∧ t[2]? = some (.int .i64 s.t2)
def P37_1 (s : Fr37) (st : ASt) : Prop := P37_1' s st.tmps st.h
def P37_2' (s : Fr37) (t : List AVal) (h : AHeap) : Prop := ∃ w6_0, t.length = 24 ∧ t[3]? = some (.int .i64 s.t3) ∧ t[6]? = some w6_0 ∧ Sl (rI .i64) s.t6 w6_0 ∧ t[7]? = some (.int .i64 s.t7) ∧ t[8]? = some (.int .i64 s.t8)
def P37_2 (s : Fr37) (st : ASt) : Prop := P37_2' s st.tmps st.h
def P37_3' (s : Fr37) (t : List AVal) (h : AHeap) : Prop := ∃ w6_0, t.length = 24 ∧ t[3]? = some (.int .i64 s.t3) ∧ t[5]? = some (.int .i64 s.t5) ∧ t[6]? = some w6_0 ∧ Sl (rI .i64) s.t6 w6_0 ∧ t[7]? = some (.int .i64 s.t7) ∧ t[8]? = some (.int .i64 s.t8)
def P37_3 (s : Fr37) (st : ASt) : Prop := P37_3' s st.tmps st.h
def P37_4' (s : Fr37) (t : List AVal) (h : AHeap) : Prop := ∃ w6_0, t.length = 24 ∧ t[3]? = some (.int .i64 s.t3) ∧ t[5]? = some (.int .i64 s.t5) ∧ t[6]? = some w6_0 ∧ Sl (rI .i64) s.t6 w6_0 ∧ t[7]? = some (.int .i64 s.t7) ∧ t[8]? = some (.int .i64 s.t8) ∧ t[17]? = some (.bool s.t17)
def P37_4 (s : Fr37) (st : ASt) : Prop := P37_4' s st.tmps st.h
def P37_5' (s : Fr37) (t : List AVal) (h : AHeap) : Prop := ∃ w6_0, t.length = 24 ∧ t[3]? = some (.int .i64 s.t3) ∧ t[6]? = some w6_0 ∧ Sl (rI .i64) s.t6 w6_0 ∧ t[7]? = some (.int .i64 s.t7) ∧ t[8]? = some (.int .i64 s.t8) ∧ t[9]? = some (.bool s.t9)
def P37_5 (s : Fr37) (st : ASt) : Prop := P37_5' s st.tmps st.h
def P37_6' (s : Fr37) (t : List AVal) (h : AHeap) : Prop := ∃ w0_0, t.length = 24 ∧ t[0]? = some w0_0 ∧ Sl (rI .i64) s.t0 w0_0 ∧ t[3]? = some (.int .i64 s.t3)
def P37_6 (s : Fr37) (st : ASt) : Prop := P37_6' s st.tmps st.h
def P37_7' (s : Fr37) (t : List AVal) (h : AHeap) : Prop := ∃ w0_0, t.length = 24 ∧ t[0]? = some w0_0 ∧ Sl (rI .i64) s.t0 w0_0
def P37_7 (s : Fr37) (st : ASt) : Prop := P37_7' s st.tmps st.h
noncomputable def m37_0 : Mo Fr37 := fun s => some (.nrm, { s with t2 := s.t3 })
noncomputable def m37_1 : Mo Fr37 := fun s => some (.nrm, { s with t8 := IntKind.wrap .i64 (s.t8 + 1) })
noncomputable def m37_2 : Mo Fr37 := fun s => (shlT .i64 1 s.t5).bind fun z1 => some (.nrm, { s with t3 := bits .or .i64 s.t3 z1 })
noncomputable def m37_3 : Mo Fr37 := fun s => some (.nrm, { s with t17 := ((decide (s.t5 ≥ 0)) && (decide (s.t5 < 6))) })
noncomputable def m37_4 : Mo Fr37 := fun s => (at? s.t6 s.t8).bind fun y6 => some (.nrm, { s with t5 := y6 })
noncomputable def m37_5 : Mo Fr37 := fun s => some (.nrm, { s with t9 := decide (s.t8 < s.t7) })
noncomputable def L37_6 : Mo Fr37 := seqM (m37_5) (seqM (condM (fun s => s.t9) (skipM) (exitM 0)) (seqM (blockM 1 (seqM (m37_4) (seqM (m37_3) (condM (fun s => s.t17) (m37_2) (skipM))))) (m37_1)))
noncomputable def m37_7 : Mo Fr37 := fun s => some (.nrm, { s with t6 := s.t0, t7 := (s.t0.length : Int), t8 := 0 })
noncomputable def m37_8 : Mo Fr37 := fun s => some (.nrm, { s with t3 := 0 })
noncomputable def m37_9 : Mo Fr37 := fun s => some (.nrm, s)
noncomputable def M37 : Mo Fr37 := seqM (m37_9) (seqM (m37_8) (seqM (seqM (m37_7) (blockM 0 (loopM (L37_6)))) (seqM (m37_0) (retM))))
def Spec37 (f : (List Int) → Option Int) : Prop := ∀ (x0 : (List Int)) (vx0_0 : AVal) (_ : Sl (rI .i64) x0 vx0_0) (r : Int), f x0 = some r → ∀ h, run Cn 37 [vx0_0] h = some (.ret (.int .i64 r), h)
theorem Spec37_of {f g : (List Int) → Option Int} (hg : Spec37 g) (h : ∀ x0 r, f x0 = some r → g x0 = some r) : Spec37 f := fun x0 v0_ w0_ r hr => hg x0 v0_ w0_ r (h x0 r hr)
theorem R37_0 (pe : Nat → Fr37 → ASt → Prop) (pr : Fr37 → ASt → Prop) : Ref Cn P37_0 (Cat [true, true, true, false] (bodyOf Try.f37)) m37_0 (post P37_1 pe pr) := by
  rintro s ⟨t, h⟩ hp x s' hm
  have hp : P37_0' s t h := hp
  obtain ⟨hl, a3⟩ := hp
  unfold m37_0 at hm
  cases hm
  refine ⟨⟨_, _⟩, by
      simp only [bodyOf, Try.f37, Cat, Bool.false_eq_true, e_seq, e_region, e_cond, e_block, ex_skip, ex_exit, ex_ret, o_cons, xops_nil, k_want_none, k_want_false, k_val, k_pan, k_call, k_ret, k_seq, k_seq_exit, k_seq_ret, k_true, k_false, k_block, k_block_exit, k_block_ret, k_loop, k_loop_exit, k_loop_ret, awanted, aoper, evalO, put, Option.getD_some, List.getElem?_set, acallOp, abuiltin, List.map_cons, List.map_nil, Nat.reduceEqDiff, Nat.reduceLT, List.length_set, Option.map_some, Option.bind_some, Option.bind_eq_bind, add_i, sub_i, mul_i, eql_i, neq_i, lss_i, leq_i, gtr_i, geq_i, ofV, ofCell, ↓reduceIte, List.cons_append, List.nil_append, List.append_nil, List.getElem?_toArray, List.getElem?_cons_succ, List.getElem?_cons_zero, e_draw, g_nil, g_cons, g_want, g_skip, g_val, g_call, g_ret, Option.map_none, hl, a3, CP, bq1, bq2, bq3, bq4, ex_tup]
      exact rfl, ?_⟩
  show P37_1 _ _
  exact ⟨by simp [hl], by simp [hl]⟩
theorem R37_1 (pe : Nat → Fr37 → ASt → Prop) (pr : Fr37 → ASt → Prop) : Ref Cn P37_2 (Cat [true, true, false, true, true, true, true, true, true] (bodyOf Try.f37)) m37_1 (post P37_2 pe pr) := by
  rintro s ⟨t, h⟩ hp x s' hm
  have hp : P37_2' s t h := hp
  obtain ⟨w6_0, hl, a3, a6, r6_0, a7, a8⟩ := hp
  unfold m37_1 at hm
  cases hm
  refine ⟨⟨_, _⟩, by
      simp only [bodyOf, Try.f37, Cat, Bool.false_eq_true, e_seq, e_region, e_cond, e_block, ex_skip, ex_exit, ex_ret, o_cons, xops_nil, k_want_none, k_want_false, k_val, k_pan, k_call, k_ret, k_seq, k_seq_exit, k_seq_ret, k_true, k_false, k_block, k_block_exit, k_block_ret, k_loop, k_loop_exit, k_loop_ret, awanted, aoper, evalO, put, Option.getD_some, List.getElem?_set, acallOp, abuiltin, List.map_cons, List.map_nil, Nat.reduceEqDiff, Nat.reduceLT, List.length_set, Option.map_some, Option.bind_some, Option.bind_eq_bind, add_i, sub_i, mul_i, eql_i, neq_i, lss_i, leq_i, gtr_i, geq_i, ofV, ofCell, ↓reduceIte, List.cons_append, List.nil_append, List.append_nil, List.getElem?_toArray, List.getElem?_cons_succ, List.getElem?_cons_zero, e_draw, g_nil, g_cons, g_want, g_skip, g_val, g_call, g_ret, Option.map_none, hl, a3, a6, a7, a8, CP, bq1, bq2, bq3, bq4, ex_tup]
      exact rfl, ?_⟩
  show P37_2 _ _
  exact ⟨w6_0, by simp [hl], by simp [a3], by simp [a6], r6_0, by simp [a7], by simp [hl]⟩
theorem R37_2 (pe : Nat → Fr37 → ASt → Prop) (pr : Fr37 → ASt → Prop) : Ref Cn P37_3 (Cat [true, true, false, true, true, true, true, true, false, true, true, true, false] (bodyOf Try.f37)) m37_2 (post P37_2 pe pr) := by
  rintro s ⟨t, h⟩ hp x s' hm
  have hp : P37_3' s t h := hp
  obtain ⟨w6_0, hl, a3, a5, a6, r6_0, a7, a8⟩ := hp
  unfold m37_2 at hm
  obtain ⟨z3, hz3, hm⟩ := Option.bind_eq_some_iff.1 hm
  have iu4 := shl_v (C := Cn) hz3
  cases hm
  refine ⟨⟨_, _⟩, by
      simp only [bodyOf, Try.f37, Cat, Bool.false_eq_true, e_seq, e_region, e_cond, e_block, ex_skip, ex_exit, ex_ret, o_cons, xops_nil, k_want_none, k_want_false, k_val, k_pan, k_call, k_ret, k_seq, k_seq_exit, k_seq_ret, k_true, k_false, k_block, k_block_exit, k_block_ret, k_loop, k_loop_exit, k_loop_ret, awanted, aoper, evalO, put, Option.getD_some, List.getElem?_set, acallOp, abuiltin, List.map_cons, List.map_nil, Nat.reduceEqDiff, Nat.reduceLT, List.length_set, Option.map_some, Option.bind_some, Option.bind_eq_bind, add_i, sub_i, mul_i, eql_i, neq_i, lss_i, leq_i, gtr_i, geq_i, ofV, ofCell, ↓reduceIte, List.cons_append, List.nil_append, List.append_nil, List.getElem?_toArray, List.getElem?_cons_succ, List.getElem?_cons_zero, e_draw, g_nil, g_cons, g_want, g_skip, g_val, g_call, g_ret, Option.map_none, hl, a3, a5, a6, a7, a8, CP, bq1, bq2, bq3, bq4, ex_tup, iu4, Ty.or3]
      exact rfl, ?_⟩
  show P37_2 _ _
  exact ⟨w6_0, by simp [hl], by simp [hl], by simp [a6], r6_0, by simp [a7], by simp [a8]⟩
theorem R37_3 (pe : Nat → Fr37 → ASt → Prop) (pr : Fr37 → ASt → Prop) : Ref Cn P37_3 (Cat [true, true, false, true, true, true, true, true, false, true, true, false] (bodyOf Try.f37)) m37_3 (post P37_4 pe pr) := by
  rintro s ⟨t, h⟩ hp x s' hm
  have hp : P37_3' s t h := hp
  obtain ⟨w6_0, hl, a3, a5, a6, r6_0, a7, a8⟩ := hp
  unfold m37_3 at hm
  cases hb5 : decide (s.t5 ≥ 0) with
  | true =>
    all_goals (
      try simp only [hb5, cond_true, cond_false, Option.bind_some, Option.bind_assoc, Bool.not_true, Bool.not_false, Bool.true_and, Bool.false_and, Bool.and_true, Bool.and_false, Bool.true_or, Bool.false_or] at hm
      cases hm
      refine ⟨⟨_, _⟩, by
          simp only [bodyOf, Try.f37, Cat, Bool.false_eq_true, e_seq, e_region, e_cond, e_block, ex_skip, ex_exit, ex_ret, o_cons, xops_nil, k_want_none, k_want_false, k_val, k_pan, k_call, k_ret, k_seq, k_seq_exit, k_seq_ret, k_true, k_false, k_block, k_block_exit, k_block_ret, k_loop, k_loop_exit, k_loop_ret, awanted, aoper, evalO, put, Option.getD_some, List.getElem?_set, acallOp, abuiltin, List.map_cons, List.map_nil, Nat.reduceEqDiff, Nat.reduceLT, List.length_set, Option.map_some, Option.bind_some, Option.bind_eq_bind, add_i, sub_i, mul_i, eql_i, neq_i, lss_i, leq_i, gtr_i, geq_i, ofV, ofCell, ↓reduceIte, List.cons_append, List.nil_append, List.append_nil, List.getElem?_toArray, List.getElem?_cons_succ, List.getElem?_cons_zero, e_draw, g_nil, g_cons, g_want, g_skip, g_val, g_call, g_ret, Option.map_none, hl, a3, a5, a6, a7, a8, CP, bq1, bq2, bq3, bq4, ex_tup, hb5]
          exact rfl, ?_⟩
      show P37_4 _ _
      exact ⟨w6_0, by simp [hl], by simp [a3], by simp [a5], by simp [a6], r6_0, by simp [a7], by simp [a8], by simp [hl, hb5]⟩)
  | false =>
    all_goals (
      try simp only [hb5, cond_true, cond_false, Option.bind_some, Option.bind_assoc, Bool.not_true, Bool.not_false, Bool.true_and, Bool.false_and, Bool.and_true, Bool.and_false, Bool.true_or, Bool.false_or] at hm
      cases hm
      refine ⟨⟨_, _⟩, by
          simp only [bodyOf, Try.f37, Cat, Bool.false_eq_true, e_seq, e_region, e_cond, e_block, ex_skip, ex_exit, ex_ret, o_cons, xops_nil, k_want_none, k_want_false, k_val, k_pan, k_call, k_ret, k_seq, k_seq_exit, k_seq_ret, k_true, k_false, k_block, k_block_exit, k_block_ret, k_loop, k_loop_exit, k_loop_ret, awanted, aoper, evalO, put, Option.getD_some, List.getElem?_set, acallOp, abuiltin, List.map_cons, List.map_nil, Nat.reduceEqDiff, Nat.reduceLT, List.length_set, Option.map_some, Option.bind_some, Option.bind_eq_bind, add_i, sub_i, mul_i, eql_i, neq_i, lss_i, leq_i, gtr_i, geq_i, ofV, ofCell, ↓reduceIte, List.cons_append, List.nil_append, List.append_nil, List.getElem?_toArray, List.getElem?_cons_succ, List.getElem?_cons_zero, e_draw, g_nil, g_cons, g_want, g_skip, g_val, g_call, g_ret, Option.map_none, hl, a3, a5, a6, a7, a8, CP, bq1, bq2, bq3, bq4, ex_tup, hb5]
          exact rfl, ?_⟩
      show P37_4 _ _
      exact ⟨w6_0, by simp [hl], by simp [a3], by simp [a5], by simp [a6], r6_0, by simp [a7], by simp [a8], by simp [hl, hb5]⟩)
theorem R37_4 (pe : Nat → Fr37 → ASt → Prop) (pr : Fr37 → ASt → Prop) : Ref Cn P37_2 (Cat [true, true, false, true, true, true, true, true, false, true, false] (bodyOf Try.f37)) m37_4 (post P37_3 pe pr) := by
  rintro s ⟨t, h⟩ hp x s' hm
  have hp : P37_2' s t h := hp
  obtain ⟨w6_0, hl, a3, a6, r6_0, a7, a8⟩ := hp
  unfold m37_4 at hm
  obtain ⟨y8, hy8, hm⟩ := Option.bind_eq_some_iff.1 hm
  obtain ⟨cu9, du9, eu9, iu9, _⟩ := Sl.ix (rI_p .i64) r6_0 hy8
  subst eu9
  cases hm
  refine ⟨⟨_, _⟩, by
      simp only [bodyOf, Try.f37, Cat, Bool.false_eq_true, e_seq, e_region, e_cond, e_block, ex_skip, ex_exit, ex_ret, o_cons, xops_nil, k_want_none, k_want_false, k_val, k_pan, k_call, k_ret, k_seq, k_seq_exit, k_seq_ret, k_true, k_false, k_block, k_block_exit, k_block_ret, k_loop, k_loop_exit, k_loop_ret, awanted, aoper, evalO, put, Option.getD_some, List.getElem?_set, acallOp, abuiltin, List.map_cons, List.map_nil, Nat.reduceEqDiff, Nat.reduceLT, List.length_set, Option.map_some, Option.bind_some, Option.bind_eq_bind, add_i, sub_i, mul_i, eql_i, neq_i, lss_i, leq_i, gtr_i, geq_i, ofV, ofCell, ↓reduceIte, List.cons_append, List.nil_append, List.append_nil, List.getElem?_toArray, List.getElem?_cons_succ, List.getElem?_cons_zero, e_draw, g_nil, g_cons, g_want, g_skip, g_val, g_call, g_ret, Option.map_none, hl, a3, a6, a7, a8, CP, bq1, bq2, bq3, bq4, ex_tup, Ty.ix24, iu9, Ty.ld3, ld_ip, ofc1, List.drop_succ_cons, List.drop_zero]
      exact rfl, ?_⟩
  show P37_3 _ _
  exact ⟨w6_0, by simp [hl], by simp [a3], by simp [hl], by simp [a6], r6_0, by simp [a7], by simp [a8]⟩
theorem R37_5 (pe : Nat → Fr37 → ASt → Prop) (pr : Fr37 → ASt → Prop) : Ref Cn P37_2 (Cat [true, true, false, true, true, true, false] (bodyOf Try.f37)) m37_5 (post P37_5 pe pr) := by
  rintro s ⟨t, h⟩ hp x s' hm
  have hp : P37_2' s t h := hp
  obtain ⟨w6_0, hl, a3, a6, r6_0, a7, a8⟩ := hp
  unfold m37_5 at hm
  cases hm
  refine ⟨⟨_, _⟩, by
      simp only [bodyOf, Try.f37, Cat, Bool.false_eq_true, e_seq, e_region, e_cond, e_block, ex_skip, ex_exit, ex_ret, o_cons, xops_nil, k_want_none, k_want_false, k_val, k_pan, k_call, k_ret, k_seq, k_seq_exit, k_seq_ret, k_true, k_false, k_block, k_block_exit, k_block_ret, k_loop, k_loop_exit, k_loop_ret, awanted, aoper, evalO, put, Option.getD_some, List.getElem?_set, acallOp, abuiltin, List.map_cons, List.map_nil, Nat.reduceEqDiff, Nat.reduceLT, List.length_set, Option.map_some, Option.bind_some, Option.bind_eq_bind, add_i, sub_i, mul_i, eql_i, neq_i, lss_i, leq_i, gtr_i, geq_i, ofV, ofCell, ↓reduceIte, List.cons_append, List.nil_append, List.append_nil, List.getElem?_toArray, List.getElem?_cons_succ, List.getElem?_cons_zero, e_draw, g_nil, g_cons, g_want, g_skip, g_val, g_call, g_ret, Option.map_none, hl, a3, a6, a7, a8, CP, bq1, bq2, bq3, bq4, ex_tup]
      exact rfl, ?_⟩
  show P37_5 _ _
  exact ⟨w6_0, by simp [hl], by simp [a3], by simp [a6], r6_0, by simp [a7], by simp [a8], by simp [hl]⟩
theorem R37_7 (pe : Nat → Fr37 → ASt → Prop) (pr : Fr37 → ASt → Prop) : Ref Cn P37_6 (Cat [true, true, false, false] (bodyOf Try.f37)) m37_7 (post P37_2 pe pr) := by
  rintro s ⟨t, h⟩ hp x s' hm
  have hp : P37_6' s t h := hp
  obtain ⟨w0_0, hl, a0, r0_0, a3⟩ := hp
  unfold m37_7 at hm
  have lu11 := fun h => Sl.len r0_0 Ty.un24 h
  cases hm
  refine ⟨⟨_, _⟩, by
      simp only [bodyOf, Try.f37, Cat, Bool.false_eq_true, e_seq, e_region, e_cond, e_block, ex_skip, ex_exit, ex_ret, o_cons, xops_nil, k_want_none, k_want_false, k_val, k_pan, k_call, k_ret, k_seq, k_seq_exit, k_seq_ret, k_true, k_false, k_block, k_block_exit, k_block_ret, k_loop, k_loop_exit, k_loop_ret, awanted, aoper, evalO, put, Option.getD_some, List.getElem?_set, acallOp, abuiltin, List.map_cons, List.map_nil, Nat.reduceEqDiff, Nat.reduceLT, List.length_set, Option.map_some, Option.bind_some, Option.bind_eq_bind, add_i, sub_i, mul_i, eql_i, neq_i, lss_i, leq_i, gtr_i, geq_i, ofV, ofCell, ↓reduceIte, List.cons_append, List.nil_append, List.append_nil, List.getElem?_toArray, List.getElem?_cons_succ, List.getElem?_cons_zero, e_draw, g_nil, g_cons, g_want, g_skip, g_val, g_call, g_ret, Option.map_none, hl, a0, a3, CP, bq1, bq2, bq3, bq4, ex_tup, lu11]
      exact rfl, ?_⟩
  show P37_2 _ _
  exact ⟨w0_0, by simp [hl], by simp [a3], by simp [hl], r0_0, by simp [hl], by simp [hl]⟩
theorem R37_8 (pe : Nat → Fr37 → ASt → Prop) (pr : Fr37 → ASt → Prop) : Ref Cn P37_7 (Cat [true, false] (bodyOf Try.f37)) m37_8 (post P37_6 pe pr) := by
  rintro s ⟨t, h⟩ hp x s' hm
  have hp : P37_7' s t h := hp
  obtain ⟨w0_0, hl, a0, r0_0⟩ := hp
  unfold m37_8 at hm
  cases hm
  refine ⟨⟨_, _⟩, by
      simp only [bodyOf, Try.f37, Cat, Bool.false_eq_true, e_seq, e_region, e_cond, e_block, ex_skip, ex_exit, ex_ret, o_cons, xops_nil, k_want_none, k_want_false, k_val, k_pan, k_call, k_ret, k_seq, k_seq_exit, k_seq_ret, k_true, k_false, k_block, k_block_exit, k_block_ret, k_loop, k_loop_exit, k_loop_ret, awanted, aoper, evalO, put, Option.getD_some, List.getElem?_set, acallOp, abuiltin, List.map_cons, List.map_nil, Nat.reduceEqDiff, Nat.reduceLT, List.length_set, Option.map_some, Option.bind_some, Option.bind_eq_bind, add_i, sub_i, mul_i, eql_i, neq_i, lss_i, leq_i, gtr_i, geq_i, ofV, ofCell, ↓reduceIte, List.cons_append, List.nil_append, List.append_nil, List.getElem?_toArray, List.getElem?_cons_succ, List.getElem?_cons_zero, e_draw, g_nil, g_cons, g_want, g_skip, g_val, g_call, g_ret, Option.map_none, hl, a0, CP, bq1, bq2, bq3, bq4, ex_tup]
      exact rfl, ?_⟩
  show P37_6 _ _
  exact ⟨w0_0, by simp [hl], by simp [a0], r0_0, by simp [hl]⟩
theorem R37_9 (pe : Nat → Fr37 → ASt → Prop) (pr : Fr37 → ASt → Prop) : Ref Cn P37_7 (Cat [false] (bodyOf Try.f37)) m37_9 (post P37_7 pe pr) := by
  rintro s ⟨t, h⟩ hp x s' hm
  have hp : P37_7' s t h := hp
  obtain ⟨w0_0, hl, a0, r0_0⟩ := hp
  unfold m37_9 at hm
  cases hm
  refine ⟨⟨_, _⟩, by
      simp only [bodyOf, Try.f37, Cat, Bool.false_eq_true, e_seq, e_region, e_cond, e_block, ex_skip, ex_exit, ex_ret, o_cons, xops_nil, k_want_none, k_want_false, k_val, k_pan, k_call, k_ret, k_seq, k_seq_exit, k_seq_ret, k_true, k_false, k_block, k_block_exit, k_block_ret, k_loop, k_loop_exit, k_loop_ret, awanted, aoper, evalO, put, Option.getD_some, List.getElem?_set, acallOp, abuiltin, List.map_cons, List.map_nil, Nat.reduceEqDiff, Nat.reduceLT, List.length_set, Option.map_some, Option.bind_some, Option.bind_eq_bind, add_i, sub_i, mul_i, eql_i, neq_i, lss_i, leq_i, gtr_i, geq_i, ofV, ofCell, ↓reduceIte, List.cons_append, List.nil_append, List.append_nil, List.getElem?_toArray, List.getElem?_cons_succ, List.getElem?_cons_zero, e_draw, g_nil, g_cons, g_want, g_skip, g_val, g_call, g_ret, Option.map_none, hl, a0, CP, bq1, bq2, bq3, bq4, ex_tup]
      exact rfl, ?_⟩
  show P37_7 _ _
  exact ⟨w0_0, by simp [hl], by simp [a0], r0_0⟩
theorem B37 : Ref Cn P37_7 (bodyOf Try.f37) (M37) (post P37_1 (fun _ _ _ => False) P37_1) := by
  rw [show bodyOf Try.f37 = .seq (Cat [false] (bodyOf Try.f37)) (.seq (Cat [true, false] (bodyOf Try.f37)) (.seq (.seq (Cat [true, true, false, false] (bodyOf Try.f37)) (.block 0 (.loop (.seq (Cat [true, true, false, true, true, true, false] (bodyOf Try.f37)) (.seq (.cond (.tmp 9) (.skip) (.exit 0)) (.seq (.block 1 (.seq (Cat [true, true, false, true, true, true, true, true, false, true, false] (bodyOf Try.f37)) (.seq (Cat [true, true, false, true, true, true, true, true, false, true, true, false] (bodyOf Try.f37)) (.cond (.tmp 17) (Cat [true, true, false, true, true, true, true, true, false, true, true, true, false] (bodyOf Try.f37)) (.skip))))) (Cat [true, true, false, true, true, true, true, true, true] (bodyOf Try.f37)))))))) (.seq (Cat [true, true, true, false] (bodyOf Try.f37)) (.ret)))) from rfl]
  unfold M37
  exact ref_seq (M := P37_7) (R37_9 _ _) (ref_seq (M := P37_6) (R37_8 _ _) (ref_seq (M := P37_0) (ref_seq (M := P37_2) (R37_7 _ _) (ref_block (ref_loop (P := P37_2) (ref_weak (P' := P37_2) (fun s st hp => hp) (ref_seq (M := P37_5) (R37_5 _ _) (ref_seq (M := P37_2) (ref_cond (P := P37_5) (c := fun s => s.t9) (fun s st hp => by obtain ⟨w6_0, hl, a3, a6, r6_0, a7, a8, a9⟩ := (hp : P37_5' s st.tmps st.h); simp only [evalO, a9, Option.getD_some]) (ref_weak (P' := P37_2) (fun s st hp => by obtain ⟨w6_0, hl, a3, a6, r6_0, a7, a8, a9⟩ := (hp : P37_5' s st.tmps st.h); exact (⟨w6_0, hl, a3, a6, r6_0, a7, a8⟩ : P37_2' s st.tmps st.h)) (ref_skip (fun s st hp => hp))) (ref_weak (P' := P37_0) (fun s st hp => by obtain ⟨w6_0, hl, a3, a6, r6_0, a7, a8, a9⟩ := (hp : P37_5' s st.tmps st.h); exact (⟨hl, a3⟩ : P37_0' s st.tmps st.h)) (ref_exit (fun s st hp => hp)))) (ref_seq (M := P37_2) (ref_block (ref_seq (M := P37_3) (R37_4 _ _) (ref_seq (M := P37_4) (R37_3 _ _) (ref_cond (P := P37_4) (c := fun s => s.t17) (fun s st hp => by obtain ⟨w6_0, hl, a3, a5, a6, r6_0, a7, a8, a17⟩ := (hp : P37_4' s st.tmps st.h); simp only [evalO, a17, Option.getD_some]) (ref_weak (P' := P37_3) (fun s st hp => by obtain ⟨w6_0, hl, a3, a5, a6, r6_0, a7, a8, a17⟩ := (hp : P37_4' s st.tmps st.h); exact (⟨w6_0, hl, a3, a5, a6, r6_0, a7, a8⟩ : P37_3' s st.tmps st.h)) (R37_2 _ _)) (ref_weak (P' := P37_2) (fun s st hp => by obtain ⟨w6_0, hl, a3, a5, a6, r6_0, a7, a8, a17⟩ := (hp : P37_4' s st.tmps st.h); exact (⟨w6_0, hl, a3, a6, r6_0, a7, a8⟩ : P37_2' s st.tmps st.h)) (ref_skip (fun s st hp => hp))))))) (R37_1 _ _)))))))) (ref_seq (M := P37_1) (R37_0 _ _) (ref_ret (fun s st hp => hp)))))
noncomputable def G37 (x0 : (List Int)) : Option Int := match M37 { (default : Fr37) with t0 := x0 } with
  | some (.nrm, s) => some s.t2
  | some (.ret, s) => some s.t2
  | _ => none
theorem G37_spec : Spec37 (G37) := by
  intro x0 vx0_0 hvx0_0 r hr
  unfold G37 at hr
  cases hm : M37 { (default : Fr37) with t0 := x0 } with
  | none => rw [hm] at hr; cases hr
  | some q =>
    obtain ⟨x, s⟩ := q
    rw [hm] at hr
    have hx : x = .nrm ∨ x = .ret := by cases x <;> first | exact .inl rfl | exact .inr rfl | cases hr
    have hr : s.t2 = r := by cases x <;> first | exact Option.some.inj hr | cases hr
    subst hr
    have h0 : P37_7' ({ (default : Fr37) with t0 := x0 }) (slots Try.f37 (stripL [vx0_0])) bare := ⟨(strip vx0_0 : AVal), rfl, rfl, hvx0_0.strip (rI_p .i64)⟩
    obtain ⟨v, hR, _, hrun⟩ := run_of_ref (C := Cn) (f := 37) (fn := Try.f37) Try.func37 rfl rfl rfl rfl (args := [vx0_0]) (by simp only [refsL, refs, List.append_nil, hvx0_0.refs (rI_p .i64)]) (B37) (s0 := { (default : Fr37) with t0 := x0 }) h0 hm hx (R := fun v => v = .int .i64 s.t2) (by
      have key : ∀ st : ASt, P37_1 s st → ∃ vs v, aresults Cn Try.f37.results.toList st = some vs ∧ packRes vs = v ∧ refs v = [] ∧ (fun v => v = .int .i64 s.t2) (strip v) := by
        intro st hp
        obtain ⟨hl, a2⟩ := (hp : P37_1' s st.tmps st.h)
        refine ⟨[.int .i64 s.t2], _, by simp only [show Try.f37.results.toList = [ResultVar.tmp 2] from rfl, aresults, ares1, a2, Option.getD_some], rfl, by simp only [packRes, refsL, refs, List.append_nil], rfl⟩
      intro st hq
      rcases hx with rfl | rfl
      · exact key st hq
      · exact key st hq)
    subst hR
    exact hrun
/-! ### caisson/caissonref12.Nodes -/
structure Fr50 where
  t0 : TestT
  t1 : Int
  t4 : Int
  t5 : Int
  t11 : Bool
instance : Inhabited Fr50 := ⟨⟨default, 0, 0, 0, false⟩⟩
def P50_0' (s : Fr50) (t : List AVal) (h : AHeap) : Prop := ∃ w0_0, t.length = 30 ∧ t[0]? = some w0_0 ∧ rTestT s.t0 [w0_0] ∧ t[1]? = some (.int .i64 s.t1) ∧ t[5]? = some (.int .i64 s.t5)
def P50_0 (s : Fr50) (st : ASt) : Prop := P50_0' s st.tmps st.h
def P50_1' (s : Fr50) (t : List AVal) (h : AHeap) : Prop := t.length = 30 ∧ t[4]? = some (.int .i64 s.t4)
def P50_1 (s : Fr50) (st : ASt) : Prop := P50_1' s st.tmps st.h
def P50_2' (s : Fr50) (t : List AVal) (h : AHeap) : Prop := ∃ w0_0, t.length = 30 ∧ t[0]? = some w0_0 ∧ rTestT s.t0 [w0_0] ∧ t[1]? = some (.int .i64 s.t1)
def P50_2 (s : Fr50) (st : ASt) : Prop := P50_2' s st.tmps st.h
def P50_3' (s : Fr50) (t : List AVal) (h : AHeap) : Prop := t.length = 30 ∧ True
def P50_3 (s : Fr50) (st : ASt) : Prop := P50_3' s st.tmps st.h
def P50_4' (s : Fr50) (t : List AVal) (h : AHeap) : Prop := ∃ w0_0, t.length = 30 ∧ t[0]? = some w0_0 ∧ rTestT s.t0 [w0_0] ∧ t[1]? = some (.int .i64 s.t1) ∧ t[11]? = some (.bool s.t11)
def P50_4 (s : Fr50) (st : ASt) : Prop := P50_4' s st.tmps st.h
noncomputable def m50_0 (rec50 : TestT → Int → Option Int) : Mo Fr50 := fun s => (s.t0.get).bind fun n1 => (rec50 n1.Right (IntKind.wrap .i64 (s.t1 - s.t5))).bind fun z3 => some (.nrm, { s with t4 := IntKind.wrap .i64 (s.t5 + z3) })
noncomputable def m50_1 (rec50 : TestT → Int → Option Int) : Mo Fr50 := fun s => (s.t0.get).bind fun n9 => (rec50 n9.Left (IntKind.wrap .i64 (s.t1 - 1))).bind fun z11 => some (.nrm, { s with t5 := IntKind.wrap .i64 (1 + z11) })
noncomputable def m50_2 (rec50 : TestT → Int → Option Int) : Mo Fr50 := fun s => some (.nrm, { s with t4 := 0 })
noncomputable def m50_3 (rec50 : TestT → Int → Option Int) : Mo Fr50 := fun s => some (.nrm, { s with t11 := (s.t0.isNil || (decide (s.t1 ≤ 0))) })
noncomputable def m50_4 (rec50 : TestT → Int → Option Int) : Mo Fr50 := fun s => some (.nrm, s)
noncomputable def M50 (rec50 : TestT → Int → Option Int) : Mo Fr50 := seqM (m50_4 rec50) (seqM (seqM (m50_3 rec50) (condM (fun s => s.t11) (seqM (m50_2 rec50) (retM)) (skipM))) (seqM (m50_1 rec50) (seqM (m50_0 rec50) (retM))))
def Spec50 (f : TestT → Int → Option Int) : Prop := ∀ (x0 : TestT) (x1 : Int) (vx0_0 : AVal) (_ : rTestT x0 [vx0_0]) (r : Int), f x0 x1 = some r → ∀ h, run Cn 50 [vx0_0, .int .i64 x1] h = some (.ret (.int .i64 r), h)
theorem Spec50_of {f g : TestT → Int → Option Int} (hg : Spec50 g) (h : ∀ x0 x1 r, f x0 x1 = some r → g x0 x1 = some r) : Spec50 f := fun x0 x1 v0_ w0_ r hr => hg x0 x1 v0_ w0_ r (h x0 x1 r hr)
theorem R50_0 {rec50 : TestT → Int → Option Int} (hrec50 : Spec50 rec50) (pe : Nat → Fr50 → ASt → Prop) (pr : Fr50 → ASt → Prop) : Ref Cn P50_0 (Cat [true, true, true, false] (bodyOf Try.f50)) (m50_0 rec50) (post P50_1 pe pr) := by
  rintro s ⟨t, h⟩ hp x s' hm
  have hp : P50_0' s t h := hp
  obtain ⟨w0_0, hl, a0, r0_0, a1, a5⟩ := hp
  unfold m50_0 at hm
  obtain ⟨n5, hn5, hm⟩ := Option.bind_eq_some_iff.1 hm
  obtain ⟨bu6_0, bu6_1, bu6_2, bu6_3, qu6, gu6_0, gu6_1, gu6_2, gu6_3⟩ := rTestT_get r0_0 hn5
  subst qu6
  obtain ⟨z7, hz7, hm⟩ := Option.bind_eq_some_iff.1 hm
  have iu8 := hrec50 n5.Right (IntKind.wrap .i64 (s.t1 - s.t5)) _ gu6_1 _ hz7
  cases hm
  refine ⟨⟨_, _⟩, by
      simp only [bodyOf, Try.f50, Cat, Bool.false_eq_true, e_seq, e_region, e_cond, e_block, ex_skip, ex_exit, ex_ret, o_cons, xops_nil, k_want_none, k_want_false, k_val, k_pan, k_call, k_ret, k_seq, k_seq_exit, k_seq_ret, k_true, k_false, k_block, k_block_exit, k_block_ret, k_loop, k_loop_exit, k_loop_ret, awanted, aoper, evalO, put, Option.getD_some, List.getElem?_set, acallOp, abuiltin, List.map_cons, List.map_nil, Nat.reduceEqDiff, Nat.reduceLT, List.length_set, Option.map_some, Option.bind_some, Option.bind_eq_bind, add_i, sub_i, mul_i, eql_i, neq_i, lss_i, leq_i, gtr_i, geq_i, ofV, ofCell, ↓reduceIte, List.cons_append, List.nil_append, List.append_nil, List.getElem?_toArray, List.getElem?_cons_succ, List.getElem?_cons_zero, e_draw, g_nil, g_cons, g_want, g_skip, g_val, g_call, g_ret, Option.map_none, hl, a0, a1, a5, CP, bq1, bq2, bq3, bq4, ex_tup, Ty.fa73_2, dropCells, List.drop_succ_cons, List.drop_zero, Ty.ld34, ld_ip, ofc1, List.drop_succ_cons, List.drop_zero, iu8]
      exact rfl, ?_⟩
  show P50_1 _ _
  exact ⟨by simp [hl], by simp [hl]⟩
theorem R50_1 {rec50 : TestT → Int → Option Int} (hrec50 : Spec50 rec50) (pe : Nat → Fr50 → ASt → Prop) (pr : Fr50 → ASt → Prop) : Ref Cn P50_2 (Cat [true, true, false] (bodyOf Try.f50)) (m50_1 rec50) (post P50_0 pe pr) := by
  rintro s ⟨t, h⟩ hp x s' hm
  have hp : P50_2' s t h := hp
  obtain ⟨w0_0, hl, a0, r0_0, a1⟩ := hp
  unfold m50_1 at hm
  obtain ⟨n13, hn13, hm⟩ := Option.bind_eq_some_iff.1 hm
  obtain ⟨bu14_0, bu14_1, bu14_2, bu14_3, qu14, gu14_0, gu14_1, gu14_2, gu14_3⟩ := rTestT_get r0_0 hn13
  subst qu14
  obtain ⟨z15, hz15, hm⟩ := Option.bind_eq_some_iff.1 hm
  have iu16 := hrec50 n13.Left (IntKind.wrap .i64 (s.t1 - 1)) _ gu14_0 _ hz15
  cases hm
  refine ⟨⟨_, _⟩, by
      simp only [bodyOf, Try.f50, Cat, Bool.false_eq_true, e_seq, e_region, e_cond, e_block, ex_skip, ex_exit, ex_ret, o_cons, xops_nil, k_want_none, k_want_false, k_val, k_pan, k_call, k_ret, k_seq, k_seq_exit, k_seq_ret, k_true, k_false, k_block, k_block_exit, k_block_ret, k_loop, k_loop_exit, k_loop_ret, awanted, aoper, evalO, put, Option.getD_some, List.getElem?_set, acallOp, abuiltin, List.map_cons, List.map_nil, Nat.reduceEqDiff, Nat.reduceLT, List.length_set, Option.map_some, Option.bind_some, Option.bind_eq_bind, add_i, sub_i, mul_i, eql_i, neq_i, lss_i, leq_i, gtr_i, geq_i, ofV, ofCell, ↓reduceIte, List.cons_append, List.nil_append, List.append_nil, List.getElem?_toArray, List.getElem?_cons_succ, List.getElem?_cons_zero, e_draw, g_nil, g_cons, g_want, g_skip, g_val, g_call, g_ret, Option.map_none, hl, a0, a1, CP, bq1, bq2, bq3, bq4, ex_tup, Ty.fa73_1, dropCells, List.drop_succ_cons, List.drop_zero, Ty.ld34, ld_ip, ofc1, List.drop_succ_cons, List.drop_zero, iu16]
      exact rfl, ?_⟩
  show P50_0 _ _
  exact ⟨(.iptr [.int .i64 n13.Kind, bu14_0, bu14_1, .bool n13.Meas, .int .i64 n13.Index, .int .i64 n13.Op, bu14_2, bu14_3] : AVal), by simp [hl], by simp [a0], r0_0, by simp [a1], by simp [hl]⟩
theorem R50_2 {rec50 : TestT → Int → Option Int} (hrec50 : Spec50 rec50) (pe : Nat → Fr50 → ASt → Prop) (pr : Fr50 → ASt → Prop) : Ref Cn P50_3 (Cat [true, false, true, false, false] (bodyOf Try.f50)) (m50_2 rec50) (post P50_1 pe pr) := by
  rintro s ⟨t, h⟩ hp x s' hm
  have hp : P50_3' s t h := hp
  obtain ⟨hl, _⟩ := hp
  unfold m50_2 at hm
  cases hm
  refine ⟨⟨_, _⟩, by
      simp only [bodyOf, Try.f50, Cat, Bool.false_eq_true, e_seq, e_region, e_cond, e_block, ex_skip, ex_exit, ex_ret, o_cons, xops_nil, k_want_none, k_want_false, k_val, k_pan, k_call, k_ret, k_seq, k_seq_exit, k_seq_ret, k_true, k_false, k_block, k_block_exit, k_block_ret, k_loop, k_loop_exit, k_loop_ret, awanted, aoper, evalO, put, Option.getD_some, List.getElem?_set, acallOp, abuiltin, List.map_cons, List.map_nil, Nat.reduceEqDiff, Nat.reduceLT, List.length_set, Option.map_some, Option.bind_some, Option.bind_eq_bind, add_i, sub_i, mul_i, eql_i, neq_i, lss_i, leq_i, gtr_i, geq_i, ofV, ofCell, ↓reduceIte, List.cons_append, List.nil_append, List.append_nil, List.getElem?_toArray, List.getElem?_cons_succ, List.getElem?_cons_zero, e_draw, g_nil, g_cons, g_want, g_skip, g_val, g_call, g_ret, Option.map_none, hl, CP, bq1, bq2, bq3, bq4, ex_tup]
      exact rfl, ?_⟩
  show P50_1 _ _
  exact ⟨by simp [hl], by simp [hl]⟩
theorem R50_3 {rec50 : TestT → Int → Option Int} (hrec50 : Spec50 rec50) (pe : Nat → Fr50 → ASt → Prop) (pr : Fr50 → ASt → Prop) : Ref Cn P50_2 (Cat [true, false, false] (bodyOf Try.f50)) (m50_3 rec50) (post P50_4 pe pr) := by
  rintro s ⟨t, h⟩ hp x s' hm
  have hp : P50_2' s t h := hp
  obtain ⟨w0_0, hl, a0, r0_0, a1⟩ := hp
  unfold m50_3 at hm
  cases hb17 : s.t0.isNil with
  | true =>
    all_goals (
      try simp only [hb17, cond_true, cond_false, Option.bind_some, Option.bind_assoc, Bool.not_true, Bool.not_false, Bool.true_and, Bool.false_and, Bool.and_true, Bool.and_false, Bool.true_or, Bool.false_or] at hm
      obtain ⟨_, qz18⟩ | ⟨qz18, _⟩ := rTestT_nil r0_0
      rotate_left
      · rw [hb17] at qz18; cases qz18
      have z18 : ∀ (xo : Operand) (h : AHeap), abin Cn .eql 34 xo (.const (.pointer none)) h (w0_0) .nilPtr = some (.bool true) := fun xo h => by rw [qz18]; exact Ty.eqn34 xo h
      cases hm
      refine ⟨⟨_, _⟩, by
          simp only [bodyOf, Try.f50, Cat, Bool.false_eq_true, e_seq, e_region, e_cond, e_block, ex_skip, ex_exit, ex_ret, o_cons, xops_nil, k_want_none, k_want_false, k_val, k_pan, k_call, k_ret, k_seq, k_seq_exit, k_seq_ret, k_true, k_false, k_block, k_block_exit, k_block_ret, k_loop, k_loop_exit, k_loop_ret, awanted, aoper, evalO, put, Option.getD_some, List.getElem?_set, acallOp, abuiltin, List.map_cons, List.map_nil, Nat.reduceEqDiff, Nat.reduceLT, List.length_set, Option.map_some, Option.bind_some, Option.bind_eq_bind, add_i, sub_i, mul_i, eql_i, neq_i, lss_i, leq_i, gtr_i, geq_i, ofV, ofCell, ↓reduceIte, List.cons_append, List.nil_append, List.append_nil, List.getElem?_toArray, List.getElem?_cons_succ, List.getElem?_cons_zero, e_draw, g_nil, g_cons, g_want, g_skip, g_val, g_call, g_ret, Option.map_none, hl, a0, a1, CP, bq1, bq2, bq3, bq4, ex_tup, z18, hb17]
          exact rfl, ?_⟩
      show P50_4 _ _
      exact ⟨w0_0, by simp [hl], by simp [a0], r0_0, by simp [a1], by simp [hl, hb17]⟩)
  | false =>
    all_goals (
      try simp only [hb17, cond_true, cond_false, Option.bind_some, Option.bind_assoc, Bool.not_true, Bool.not_false, Bool.true_and, Bool.false_and, Bool.and_true, Bool.and_false, Bool.true_or, Bool.false_or] at hm
      obtain ⟨qz19, _⟩ | ⟨_, csz19, qz19⟩ := rTestT_nil r0_0
      · rw [hb17] at qz19; cases qz19
      have z19 : ∀ (xo yo : Operand) (h : AHeap), abin Cn .eql 34 xo yo h (w0_0) .nilPtr = some (.bool false) := fun xo yo h => by rw [qz19]; exact Ty.eqp34 xo yo h _
      clear qz19
      cases hm
      refine ⟨⟨_, _⟩, by
          simp only [bodyOf, Try.f50, Cat, Bool.false_eq_true, e_seq, e_region, e_cond, e_block, ex_skip, ex_exit, ex_ret, o_cons, xops_nil, k_want_none, k_want_false, k_val, k_pan, k_call, k_ret, k_seq, k_seq_exit, k_seq_ret, k_true, k_false, k_block, k_block_exit, k_block_ret, k_loop, k_loop_exit, k_loop_ret, awanted, aoper, evalO, put, Option.getD_some, List.getElem?_set, acallOp, abuiltin, List.map_cons, List.map_nil, Nat.reduceEqDiff, Nat.reduceLT, List.length_set, Option.map_some, Option.bind_some, Option.bind_eq_bind, add_i, sub_i, mul_i, eql_i, neq_i, lss_i, leq_i, gtr_i, geq_i, ofV, ofCell, ↓reduceIte, List.cons_append, List.nil_append, List.append_nil, List.getElem?_toArray, List.getElem?_cons_succ, List.getElem?_cons_zero, e_draw, g_nil, g_cons, g_want, g_skip, g_val, g_call, g_ret, Option.map_none, hl, a0, a1, CP, bq1, bq2, bq3, bq4, ex_tup, z19, hb17]
          exact rfl, ?_⟩
      show P50_4 _ _
      exact ⟨w0_0, by simp [hl], by simp [a0], r0_0, by simp [a1], by simp [hl, hb17]⟩)
theorem R50_4 {rec50 : TestT → Int → Option Int} (hrec50 : Spec50 rec50) (pe : Nat → Fr50 → ASt → Prop) (pr : Fr50 → ASt → Prop) : Ref Cn P50_2 (Cat [false] (bodyOf Try.f50)) (m50_4 rec50) (post P50_2 pe pr) := by
  rintro s ⟨t, h⟩ hp x s' hm
  have hp : P50_2' s t h := hp
  obtain ⟨w0_0, hl, a0, r0_0, a1⟩ := hp
  unfold m50_4 at hm
  cases hm
  refine ⟨⟨_, _⟩, by
      simp only [bodyOf, Try.f50, Cat, Bool.false_eq_true, e_seq, e_region, e_cond, e_block, ex_skip, ex_exit, ex_ret, o_cons, xops_nil, k_want_none, k_want_false, k_val, k_pan, k_call, k_ret, k_seq, k_seq_exit, k_seq_ret, k_true, k_false, k_block, k_block_exit, k_block_ret, k_loop, k_loop_exit, k_loop_ret, awanted, aoper, evalO, put, Option.getD_some, List.getElem?_set, acallOp, abuiltin, List.map_cons, List.map_nil, Nat.reduceEqDiff, Nat.reduceLT, List.length_set, Option.map_some, Option.bind_some, Option.bind_eq_bind, add_i, sub_i, mul_i, eql_i, neq_i, lss_i, leq_i, gtr_i, geq_i, ofV, ofCell, ↓reduceIte, List.cons_append, List.nil_append, List.append_nil, List.getElem?_toArray, List.getElem?_cons_succ, List.getElem?_cons_zero, e_draw, g_nil, g_cons, g_want, g_skip, g_val, g_call, g_ret, Option.map_none, hl, a0, a1, CP, bq1, bq2, bq3, bq4, ex_tup]
      exact rfl, ?_⟩
  show P50_2 _ _
  exact ⟨w0_0, by simp [hl], by simp [a0], r0_0, by simp [a1]⟩
theorem B50 {rec50 : TestT → Int → Option Int} (hrec50 : Spec50 rec50) : Ref Cn P50_2 (bodyOf Try.f50) (M50 rec50) (post P50_1 (fun _ _ _ => False) P50_1) := by
  rw [show bodyOf Try.f50 = .seq (Cat [false] (bodyOf Try.f50)) (.seq (.seq (Cat [true, false, false] (bodyOf Try.f50)) (.cond (.tmp 11) (.seq (Cat [true, false, true, false, false] (bodyOf Try.f50)) (.ret)) (.skip))) (.seq (Cat [true, true, false] (bodyOf Try.f50)) (.seq (Cat [true, true, true, false] (bodyOf Try.f50)) (.ret)))) from rfl]
  unfold M50
  exact ref_seq (M := P50_2) (R50_4 hrec50 _ _) (ref_seq (M := P50_2) (ref_seq (M := P50_4) (R50_3 hrec50 _ _) (ref_cond (P := P50_4) (c := fun s => s.t11) (fun s st hp => by obtain ⟨w0_0, hl, a0, r0_0, a1, a11⟩ := (hp : P50_4' s st.tmps st.h); simp only [evalO, a11, Option.getD_some]) (ref_weak (P' := P50_3) (fun s st hp => by obtain ⟨w0_0, hl, a0, r0_0, a1, a11⟩ := (hp : P50_4' s st.tmps st.h); exact (⟨hl, trivial⟩ : P50_3' s st.tmps st.h)) (ref_seq (M := P50_1) (R50_2 hrec50 _ _) (ref_ret (fun s st hp => hp)))) (ref_weak (P' := P50_2) (fun s st hp => by obtain ⟨w0_0, hl, a0, r0_0, a1, a11⟩ := (hp : P50_4' s st.tmps st.h); exact (⟨w0_0, hl, a0, r0_0, a1⟩ : P50_2' s st.tmps st.h)) (ref_skip (fun s st hp => hp))))) (ref_seq (M := P50_0) (R50_1 hrec50 _ _) (ref_seq (M := P50_1) (R50_0 hrec50 _ _) (ref_ret (fun s st hp => hp)))))
noncomputable def G50 (rec50 : TestT → Int → Option Int) (x0 : TestT) (x1 : Int) : Option Int := match M50 rec50 { (default : Fr50) with t0 := x0, t1 := x1 } with
  | some (.nrm, s) => some s.t4
  | some (.ret, s) => some s.t4
  | _ => none
theorem G50_spec {rec50 : TestT → Int → Option Int} (hrec50 : Spec50 rec50) : Spec50 (G50 rec50) := by
  intro x0 x1 vx0_0 hvx0_0 r hr
  unfold G50 at hr
  cases hm : M50 rec50 { (default : Fr50) with t0 := x0, t1 := x1 } with
  | none => rw [hm] at hr; cases hr
  | some q =>
    obtain ⟨x, s⟩ := q
    rw [hm] at hr
    have hx : x = .nrm ∨ x = .ret := by cases x <;> first | exact .inl rfl | exact .inr rfl | cases hr
    have hr : s.t4 = r := by cases x <;> first | exact Option.some.inj hr | cases hr
    subst hr
    have h0 : P50_2' ({ (default : Fr50) with t0 := x0, t1 := x1 }) (slots Try.f50 (stripL [vx0_0, .int .i64 x1])) bare := ⟨(strip vx0_0 : AVal), rfl, rfl, rTestT_p.str _ _ hvx0_0, rfl⟩
    obtain ⟨v, hR, _, hrun⟩ := run_of_ref (C := Cn) (f := 50) (fn := Try.f50) Try.func50 rfl rfl rfl rfl (args := [vx0_0, .int .i64 x1]) (by simp only [refsL, refs, List.append_nil, refs_one (rTestT_p.ref _ _ hvx0_0)]) (B50 hrec50) (s0 := { (default : Fr50) with t0 := x0, t1 := x1 }) h0 hm hx (R := fun v => v = .int .i64 s.t4) (by
      have key : ∀ st : ASt, P50_1 s st → ∃ vs v, aresults Cn Try.f50.results.toList st = some vs ∧ packRes vs = v ∧ refs v = [] ∧ (fun v => v = .int .i64 s.t4) (strip v) := by
        intro st hp
        obtain ⟨hl, a4⟩ := (hp : P50_1' s st.tmps st.h)
        refine ⟨[.int .i64 s.t4], _, by simp only [show Try.f50.results.toList = [ResultVar.tmp 4] from rfl, aresults, ares1, a4, Option.getD_some], rfl, by simp only [packRes, refsL, refs, List.append_nil], rfl⟩
      intro st hq
      rcases hx with rfl | rfl
      · exact key st hq
      · exact key st hq)
    subst hR
    exact hrun
noncomputable def F50 : Nat → TestT → Int → Option Int
  | 0 => fun _ _ => none
  | n + 1 => G50 (F50 n)
theorem F50_spec : ∀ n, Spec50 (F50 n)
  | 0 => fun x0 x1 v0_ w0_ r hr => by cases hr
  | n + 1 => G50_spec (F50_spec n)
theorem Spec50_fuel {f : TestT → Int → Option Int} (h : ∀ x0 x1 r, f x0 x1 = some r → ∃ n, F50 n x0 x1 = some r) : Spec50 f := fun x0 x1 v0_ w0_ r hr => by
  obtain ⟨n, hn⟩ := h x0 x1 r hr
  exact F50_spec n x0 x1 v0_ w0_ r hn
/-! ### caisson/caissonref12.reads -/
structure Fr51 where
  t0 : TestT
  t2 : Int
  t3 : Bool
  t4 : Int
  t5 : Bool
  t6 : Int
  t7 : Bool
  t8 : (List Int)
  t10 : Bool
  t22 : Bool
  t26 : Bool
instance : Inhabited Fr51 := ⟨⟨default, 0, false, 0, false, 0, false, [], false, false, false⟩⟩
def P51_0' (s : Fr51) (t : List AVal) (h : AHeap) : Prop := ∃ w8_0, t.length = 63 ∧ t[5]? = some (.bool s.t5) ∧ t[7]? = some (.bool s.t7) ∧ t[8]? = some w8_0 ∧ Gr (rI .i64) 1 s.t8 w8_0 h
def P51_0 (s : Fr51) (st : ASt) : Prop := P51_0' s st.tmps st.h
def P51_1' (s : Fr51) (t : List AVal) (h : AHeap) : Prop := t.length = 63 ∧ t[2]? = some (.int .i64 s.t2) ∧ t[3]? = some (.bool s.t3)
def P51_1 (s : Fr51) (st : ASt) : Prop := P51_1' s st.tmps st.h
def P51_2' (s : Fr51) (t : List AVal) (h : AHeap) : Prop := ∃ w8_0, t.length = 63 ∧ t[5]? = some (.bool s.t5) ∧ t[6]? = some (.int .i64 s.t6) ∧ t[7]? = some (.bool s.t7) ∧ t[8]? = some w8_0 ∧ Gr (rI .i64) 1 s.t8 w8_0 h
def P51_2 (s : Fr51) (st : ASt) : Prop := P51_2' s st.tmps st.h
def P51_3' (s : Fr51) (t : List AVal) (h : AHeap) : Prop := ∃ w8_0, t.length = 63 ∧ t[4]? = some (.int .i64 s.t4) ∧ t[5]? = some (.bool s.t5) ∧ t[6]? = some (.int .i64 s.t6) ∧ t[7]? = some (.bool s.t7) ∧ t[8]? = some w8_0 ∧ Gr (rI .i64) 1 s.t8 w8_0 h
def P51_3 (s : Fr51) (st : ASt) : Prop := P51_3' s st.tmps st.h
def P51_4' (s : Fr51) (t : List AVal) (h : AHeap) : Prop := t.length = 63 ∧ t[4]? = some (.int .i64 s.t4) ∧ t[5]? = some (.bool s.t5) ∧ t[6]? = some (.int .i64 s.t6) ∧ t[7]? = some (.bool s.t7)
def P51_4 (s : Fr51) (st : ASt) : Prop := P51_4' s st.tmps st.h
def P51_5' (s : Fr51) (t : List AVal) (h : AHeap) : Prop := ∃ w0_0, t.length = 63 ∧ t[0]? = some w0_0 ∧ rTestT s.t0 [w0_0] ∧ t[4]? = some (.int .i64 s.t4) ∧ t[5]? = some (.bool s.t5)
def P51_5 (s : Fr51) (st : ASt) : Prop := P51_5' s st.tmps st.h
def P51_6' (s : Fr51) (t : List AVal) (h : AHeap) : Prop := ∃ w0_0, t.length = 63 ∧ t[0]? = some w0_0 ∧ rTestT s.t0 [w0_0]
def P51_6 (s : Fr51) (st : ASt) : Prop := P51_6' s st.tmps st.h
def P51_7' (s : Fr51) (t : List AVal) (h : AHeap) : Prop := t.length = 63 ∧ True
def P51_7 (s : Fr51) (st : ASt) : Prop := P51_7' s st.tmps st.h
def P51_8' (s : Fr51) (t : List AVal) (h : AHeap) : Prop := ∃ w0_0, t.length = 63 ∧ t[0]? = some w0_0 ∧ rTestT s.t0 [w0_0] ∧ t[26]? = some (.bool s.t26)
def P51_8 (s : Fr51) (st : ASt) : Prop := P51_8' s st.tmps st.h
def P51_9' (s : Fr51) (t : List AVal) (h : AHeap) : Prop := ∃ w0_0, t.length = 63 ∧ t[0]? = some w0_0 ∧ rTestT s.t0 [w0_0] ∧ t[22]? = some (.bool s.t22)
def P51_9 (s : Fr51) (st : ASt) : Prop := P51_9' s st.tmps st.h
def P51_10' (s : Fr51) (t : List AVal) (h : AHeap) : Prop := ∃ w0_0, t.length = 63 ∧ t[0]? = some w0_0 ∧ rTestT s.t0 [w0_0] ∧ t[10]? = some (.bool s.t10)
def P51_10 (s : Fr51) (st : ASt) : Prop := P51_10' s st.tmps st.h
noncomputable def m51_0 (rec51 : TestT → Option (Int × Bool)) : Mo Fr51 := fun s => (G39 s.t8).bind fun z1 => some (.nrm, { s with t2 := z1, t3 := (s.t5 || s.t7) })
noncomputable def m51_1 (rec51 : TestT → Option (Int × Bool)) : Mo Fr51 := fun s => (G29 s.t6).bind fun z6 => (appT 8 s.t8 z6).bind fun z8 => some (.nrm, { s with t8 := z8 })
noncomputable def m51_2 (rec51 : TestT → Option (Int × Bool)) : Mo Fr51 := fun s => (G29 s.t4).bind fun z14 => (appT 8 s.t8 z14).bind fun z16 => some (.nrm, { s with t8 := z16 })
noncomputable def m51_3 (rec51 : TestT → Option (Int × Bool)) : Mo Fr51 := fun s => some (.nrm, { s with t8 := [] })
noncomputable def m51_4 (rec51 : TestT → Option (Int × Bool)) : Mo Fr51 := fun s => (s.t0.get).bind fun n22 => (rec51 n22.Right).bind fun z24 => some (.nrm, { s with t6 := z24.1, t7 := z24.2 })
noncomputable def m51_5 (rec51 : TestT → Option (Int × Bool)) : Mo Fr51 := fun s => (s.t0.get).bind fun n30 => (rec51 n30.Left).bind fun z32 => some (.nrm, { s with t4 := z32.1, t5 := z32.2 })
noncomputable def m51_6 (rec51 : TestT → Option (Int × Bool)) : Mo Fr51 := fun s => (s.t0.get).bind fun n38 => (G39 [n38.Index]).bind fun z44 => some (.nrm, { s with t2 := z44, t3 := false })
noncomputable def m51_7 (rec51 : TestT → Option (Int × Bool)) : Mo Fr51 := fun s => some (.nrm, { s with t2 := 0, t3 := true })
noncomputable def m51_8 (rec51 : TestT → Option (Int × Bool)) : Mo Fr51 := fun s => (s.t0.get).bind fun n54 => some (.nrm, { s with t26 := n54.Meas })
noncomputable def m51_9 (rec51 : TestT → Option (Int × Bool)) : Mo Fr51 := fun s => (s.t0.get).bind fun n58 => some (.nrm, { s with t22 := ((n58.Kind == 4) || (n58.Kind == 5)) })
noncomputable def m51_10 (rec51 : TestT → Option (Int × Bool)) : Mo Fr51 := fun s => some (.nrm, { s with t2 := 0, t3 := false })
noncomputable def m51_11 (rec51 : TestT → Option (Int × Bool)) : Mo Fr51 := fun s => some (.nrm, { s with t10 := s.t0.isNil })
noncomputable def m51_12 (rec51 : TestT → Option (Int × Bool)) : Mo Fr51 := fun s => some (.nrm, s)
noncomputable def M51 (rec51 : TestT → Option (Int × Bool)) : Mo Fr51 := seqM (m51_12 rec51) (seqM (seqM (m51_11 rec51) (condM (fun s => s.t10) (seqM (m51_10 rec51) (retM)) (skipM))) (seqM (seqM (m51_9 rec51) (condM (fun s => s.t22) (seqM (seqM (m51_8 rec51) (condM (fun s => s.t26) (seqM (m51_7 rec51) (retM)) (skipM))) (seqM (m51_6 rec51) (retM))) (skipM))) (seqM (m51_5 rec51) (seqM (m51_4 rec51) (seqM (m51_3 rec51) (seqM (m51_2 rec51) (seqM (m51_1 rec51) (seqM (m51_0 rec51) (retM)))))))))
def Spec51 (f : TestT → Option (Int × Bool)) : Prop := ∀ (x0 : TestT) (vx0_0 : AVal) (_ : rTestT x0 [vx0_0]) (r : (Int × Bool)), f x0 = some r → ∀ h, run Cn 51 [vx0_0] h = some (.ret (.tup [.int .i64 r.1, .bool r.2]), h)
theorem Spec51_of {f g : TestT → Option (Int × Bool)} (hg : Spec51 g) (h : ∀ x0 r, f x0 = some r → g x0 = some r) : Spec51 f := fun x0 v0_ w0_ r hr => hg x0 v0_ w0_ r (h x0 r hr)
theorem R51_0 {rec51 : TestT → Option (Int × Bool)} (hrec51 : Spec51 rec51) (pe : Nat → Fr51 → ASt → Prop) (pr : Fr51 → ASt → Prop) : Ref Cn P51_0 (Cat [true, true, true, true, true, true, true, true, false] (bodyOf Try.f51)) (m51_0 rec51) (post P51_1 pe pr) := by
  rintro s ⟨t, h⟩ hp x s' hm
  have hp : P51_0' s t h := hp
  obtain ⟨w8_0, hl, a5, a7, a8, r8_0⟩ := hp
  unfold m51_0 at hm
  obtain ⟨z3, hz3, hm⟩ := Option.bind_eq_some_iff.1 hm
  have iu4 := G39_spec s.t8 _ r8_0.1 _ hz3
  cases hb5 : s.t5 with
  | true =>
    all_goals (
      try simp only [hb5, cond_true, cond_false, Option.bind_some, Option.bind_assoc, Bool.not_true, Bool.not_false, Bool.true_and, Bool.false_and, Bool.and_true, Bool.and_false, Bool.true_or, Bool.false_or] at hm
      cases hm
      refine ⟨⟨_, _⟩, by
          simp only [bodyOf, Try.f51, Cat, Bool.false_eq_true, e_seq, e_region, e_cond, e_block, ex_skip, ex_exit, ex_ret, o_cons, xops_nil, k_want_none, k_want_false, k_val, k_pan, k_call, k_ret, k_seq, k_seq_exit, k_seq_ret, k_true, k_false, k_block, k_block_exit, k_block_ret, k_loop, k_loop_exit, k_loop_ret, awanted, aoper, evalO, put, Option.getD_some, List.getElem?_set, acallOp, abuiltin, List.map_cons, List.map_nil, Nat.reduceEqDiff, Nat.reduceLT, List.length_set, Option.map_some, Option.bind_some, Option.bind_eq_bind, add_i, sub_i, mul_i, eql_i, neq_i, lss_i, leq_i, gtr_i, geq_i, ofV, ofCell, ↓reduceIte, List.cons_append, List.nil_append, List.append_nil, List.getElem?_toArray, List.getElem?_cons_succ, List.getElem?_cons_zero, e_draw, g_nil, g_cons, g_want, g_skip, g_val, g_call, g_ret, Option.map_none, hl, a5, a7, a8, CP, bq1, bq2, bq3, bq4, ex_tup, iu4, hb5]
          exact rfl, ?_⟩
      show P51_1 _ _
      exact ⟨by simp [hl], by simp [hl, hb5], by simp [hl, hb5]⟩)
  | false =>
    all_goals (
      try simp only [hb5, cond_true, cond_false, Option.bind_some, Option.bind_assoc, Bool.not_true, Bool.not_false, Bool.true_and, Bool.false_and, Bool.and_true, Bool.and_false, Bool.true_or, Bool.false_or] at hm
      cases hm
      refine ⟨⟨_, _⟩, by
          simp only [bodyOf, Try.f51, Cat, Bool.false_eq_true, e_seq, e_region, e_cond, e_block, ex_skip, ex_exit, ex_ret, o_cons, xops_nil, k_want_none, k_want_false, k_val, k_pan, k_call, k_ret, k_seq, k_seq_exit, k_seq_ret, k_true, k_false, k_block, k_block_exit, k_block_ret, k_loop, k_loop_exit, k_loop_ret, awanted, aoper, evalO, put, Option.getD_some, List.getElem?_set, acallOp, abuiltin, List.map_cons, List.map_nil, Nat.reduceEqDiff, Nat.reduceLT, List.length_set, Option.map_some, Option.bind_some, Option.bind_eq_bind, add_i, sub_i, mul_i, eql_i, neq_i, lss_i, leq_i, gtr_i, geq_i, ofV, ofCell, ↓reduceIte, List.cons_append, List.nil_append, List.append_nil, List.getElem?_toArray, List.getElem?_cons_succ, List.getElem?_cons_zero, e_draw, g_nil, g_cons, g_want, g_skip, g_val, g_call, g_ret, Option.map_none, hl, a5, a7, a8, CP, bq1, bq2, bq3, bq4, ex_tup, iu4, hb5]
          exact rfl, ?_⟩
      show P51_1 _ _
      exact ⟨by simp [hl], by simp [hl, hb5], by simp [hl, hb5]⟩)
theorem R51_1 {rec51 : TestT → Option (Int × Bool)} (hrec51 : Spec51 rec51) (pe : Nat → Fr51 → ASt → Prop) (pr : Fr51 → ASt → Prop) : Ref Cn P51_2 (Cat [true, true, true, true, true, true, true, false] (bodyOf Try.f51)) (m51_1 rec51) (post P51_0 pe pr) := by
  rintro s ⟨t, h⟩ hp x s' hm
  have hp : P51_2' s t h := hp
  obtain ⟨w8_0, hl, a5, a6, a7, a8, r8_0⟩ := hp
  unfold m51_1 at hm
  obtain ⟨z10, hz10, hm⟩ := Option.bind_eq_some_iff.1 hm
  obtain ⟨bu11_0, gu11_0, iu11⟩ := G29_spec s.t6  _ hz10
  obtain ⟨z12, hz12, hm⟩ := Option.bind_eq_some_iff.1 hm
  obtain ⟨vu13, hu13, pu13, gu13, nu13, ku13, fu13⟩ := Gr.app (rI_p .i64) r8_0 gu11_0 hz12
  cases hm
  refine ⟨⟨_, _⟩, by
      simp only [bodyOf, Try.f51, Cat, Bool.false_eq_true, e_seq, e_region, e_cond, e_block, ex_skip, ex_exit, ex_ret, o_cons, xops_nil, k_want_none, k_want_false, k_val, k_pan, k_call, k_ret, k_seq, k_seq_exit, k_seq_ret, k_true, k_false, k_block, k_block_exit, k_block_ret, k_loop, k_loop_exit, k_loop_ret, awanted, aoper, evalO, put, Option.getD_some, List.getElem?_set, acallOp, abuiltin, List.map_cons, List.map_nil, Nat.reduceEqDiff, Nat.reduceLT, List.length_set, Option.map_some, Option.bind_some, Option.bind_eq_bind, add_i, sub_i, mul_i, eql_i, neq_i, lss_i, leq_i, gtr_i, geq_i, ofV, ofCell, ↓reduceIte, List.cons_append, List.nil_append, List.append_nil, List.getElem?_toArray, List.getElem?_cons_succ, List.getElem?_cons_zero, e_draw, g_nil, g_cons, g_want, g_skip, g_val, g_call, g_ret, Option.map_none, hl, a5, a6, a7, a8, CP, bq1, bq2, bq3, bq4, ex_tup, iu11, pu13, Ty.ap24, Ty.own_ref_go_316]
      exact rfl, ?_⟩
  show P51_0 _ _
  exact ⟨vu13, by simp [hl], by simp [a5], by simp [a7], by simp [hl], gu13⟩
theorem R51_2 {rec51 : TestT → Option (Int × Bool)} (hrec51 : Spec51 rec51) (pe : Nat → Fr51 → ASt → Prop) (pr : Fr51 → ASt → Prop) : Ref Cn P51_3 (Cat [true, true, true, true, true, true, false] (bodyOf Try.f51)) (m51_2 rec51) (post P51_2 pe pr) := by
  rintro s ⟨t, h⟩ hp x s' hm
  have hp : P51_3' s t h := hp
  obtain ⟨w8_0, hl, a4, a5, a6, a7, a8, r8_0⟩ := hp
  unfold m51_2 at hm
  obtain ⟨z18, hz18, hm⟩ := Option.bind_eq_some_iff.1 hm
  obtain ⟨bu19_0, gu19_0, iu19⟩ := G29_spec s.t4  _ hz18
  obtain ⟨z20, hz20, hm⟩ := Option.bind_eq_some_iff.1 hm
  obtain ⟨vu21, hu21, pu21, gu21, nu21, ku21, fu21⟩ := Gr.app (rI_p .i64) r8_0 gu19_0 hz20
  cases hm
  refine ⟨⟨_, _⟩, by
      simp only [bodyOf, Try.f51, Cat, Bool.false_eq_true, e_seq, e_region, e_cond, e_block, ex_skip, ex_exit, ex_ret, o_cons, xops_nil, k_want_none, k_want_false, k_val, k_pan, k_call, k_ret, k_seq, k_seq_exit, k_seq_ret, k_true, k_false, k_block, k_block_exit, k_block_ret, k_loop, k_loop_exit, k_loop_ret, awanted, aoper, evalO, put, Option.getD_some, List.getElem?_set, acallOp, abuiltin, List.map_cons, List.map_nil, Nat.reduceEqDiff, Nat.reduceLT, List.length_set, Option.map_some, Option.bind_some, Option.bind_eq_bind, add_i, sub_i, mul_i, eql_i, neq_i, lss_i, leq_i, gtr_i, geq_i, ofV, ofCell, ↓reduceIte, List.cons_append, List.nil_append, List.append_nil, List.getElem?_toArray, List.getElem?_cons_succ, List.getElem?_cons_zero, e_draw, g_nil, g_cons, g_want, g_skip, g_val, g_call, g_ret, Option.map_none, hl, a4, a5, a6, a7, a8, CP, bq1, bq2, bq3, bq4, ex_tup, iu19, pu21, Ty.ap24, Ty.own_ref_go_315]
      exact rfl, ?_⟩
  show P51_2 _ _
  exact ⟨vu21, by simp [hl], by simp [a5], by simp [a6], by simp [a7], by simp [hl], gu21⟩
theorem R51_3 {rec51 : TestT → Option (Int × Bool)} (hrec51 : Spec51 rec51) (pe : Nat → Fr51 → ASt → Prop) (pr : Fr51 → ASt → Prop) : Ref Cn P51_4 (Cat [true, true, true, true, true, false] (bodyOf Try.f51)) (m51_3 rec51) (post P51_3 pe pr) := by
  rintro s ⟨t, h⟩ hp x s' hm
  have hp : P51_4' s t h := hp
  obtain ⟨hl, a4, a5, a6, a7⟩ := hp
  unfold m51_3 at hm
  cases hm
  refine ⟨⟨_, _⟩, by
      simp only [bodyOf, Try.f51, Cat, Bool.false_eq_true, e_seq, e_region, e_cond, e_block, ex_skip, ex_exit, ex_ret, o_cons, xops_nil, k_want_none, k_want_false, k_val, k_pan, k_call, k_ret, k_seq, k_seq_exit, k_seq_ret, k_true, k_false, k_block, k_block_exit, k_block_ret, k_loop, k_loop_exit, k_loop_ret, awanted, aoper, evalO, put, Option.getD_some, List.getElem?_set, acallOp, abuiltin, List.map_cons, List.map_nil, Nat.reduceEqDiff, Nat.reduceLT, List.length_set, Option.map_some, Option.bind_some, Option.bind_eq_bind, add_i, sub_i, mul_i, eql_i, neq_i, lss_i, leq_i, gtr_i, geq_i, ofV, ofCell, ↓reduceIte, List.cons_append, List.nil_append, List.append_nil, List.getElem?_toArray, List.getElem?_cons_succ, List.getElem?_cons_zero, e_draw, g_nil, g_cons, g_want, g_skip, g_val, g_call, g_ret, Option.map_none, hl, a4, a5, a6, a7, CP, bq1, bq2, bq3, bq4, ex_tup]
      exact rfl, ?_⟩
  show P51_3 _ _
  exact ⟨(.nilSl : AVal), by simp [hl], by simp [a4], by simp [a5], by simp [a6], by simp [a7], by simp [hl], (Gr.nil h)⟩
theorem R51_4 {rec51 : TestT → Option (Int × Bool)} (hrec51 : Spec51 rec51) (pe : Nat → Fr51 → ASt → Prop) (pr : Fr51 → ASt → Prop) : Ref Cn P51_5 (Cat [true, true, true, true, false] (bodyOf Try.f51)) (m51_4 rec51) (post P51_4 pe pr) := by
  rintro s ⟨t, h⟩ hp x s' hm
  have hp : P51_5' s t h := hp
  obtain ⟨w0_0, hl, a0, r0_0, a4, a5⟩ := hp
  unfold m51_4 at hm
  obtain ⟨n26, hn26, hm⟩ := Option.bind_eq_some_iff.1 hm
  obtain ⟨bu27_0, bu27_1, bu27_2, bu27_3, qu27, gu27_0, gu27_1, gu27_2, gu27_3⟩ := rTestT_get r0_0 hn26
  subst qu27
  obtain ⟨z28, hz28, hm⟩ := Option.bind_eq_some_iff.1 hm
  have iu29 := hrec51 n26.Right _ gu27_1 _ hz28
  cases hm
  refine ⟨⟨_, _⟩, by
      simp only [bodyOf, Try.f51, Cat, Bool.false_eq_true, e_seq, e_region, e_cond, e_block, ex_skip, ex_exit, ex_ret, o_cons, xops_nil, k_want_none, k_want_false, k_val, k_pan, k_call, k_ret, k_seq, k_seq_exit, k_seq_ret, k_true, k_false, k_block, k_block_exit, k_block_ret, k_loop, k_loop_exit, k_loop_ret, awanted, aoper, evalO, put, Option.getD_some, List.getElem?_set, acallOp, abuiltin, List.map_cons, List.map_nil, Nat.reduceEqDiff, Nat.reduceLT, List.length_set, Option.map_some, Option.bind_some, Option.bind_eq_bind, add_i, sub_i, mul_i, eql_i, neq_i, lss_i, leq_i, gtr_i, geq_i, ofV, ofCell, ↓reduceIte, List.cons_append, List.nil_append, List.append_nil, List.getElem?_toArray, List.getElem?_cons_succ, List.getElem?_cons_zero, e_draw, g_nil, g_cons, g_want, g_skip, g_val, g_call, g_ret, Option.map_none, hl, a0, a4, a5, CP, bq1, bq2, bq3, bq4, ex_tup, Ty.fa73_2, dropCells, List.drop_succ_cons, List.drop_zero, Ty.ld34, ld_ip, ofc1, List.drop_succ_cons, List.drop_zero, iu29]
      exact rfl, ?_⟩
  show P51_4 _ _
  exact ⟨by simp [hl], by simp [a4], by simp [a5], by simp [hl], by simp [hl]⟩
theorem R51_5 {rec51 : TestT → Option (Int × Bool)} (hrec51 : Spec51 rec51) (pe : Nat → Fr51 → ASt → Prop) (pr : Fr51 → ASt → Prop) : Ref Cn P51_6 (Cat [true, true, true, false] (bodyOf Try.f51)) (m51_5 rec51) (post P51_5 pe pr) := by
  rintro s ⟨t, h⟩ hp x s' hm
  have hp : P51_6' s t h := hp
  obtain ⟨w0_0, hl, a0, r0_0⟩ := hp
  unfold m51_5 at hm
  obtain ⟨n34, hn34, hm⟩ := Option.bind_eq_some_iff.1 hm
  obtain ⟨bu35_0, bu35_1, bu35_2, bu35_3, qu35, gu35_0, gu35_1, gu35_2, gu35_3⟩ := rTestT_get r0_0 hn34
  subst qu35
  obtain ⟨z36, hz36, hm⟩ := Option.bind_eq_some_iff.1 hm
  have iu37 := hrec51 n34.Left _ gu35_0 _ hz36
  cases hm
  refine ⟨⟨_, _⟩, by
      simp only [bodyOf, Try.f51, Cat, Bool.false_eq_true, e_seq, e_region, e_cond, e_block, ex_skip, ex_exit, ex_ret, o_cons, xops_nil, k_want_none, k_want_false, k_val, k_pan, k_call, k_ret, k_seq, k_seq_exit, k_seq_ret, k_true, k_false, k_block, k_block_exit, k_block_ret, k_loop, k_loop_exit, k_loop_ret, awanted, aoper, evalO, put, Option.getD_some, List.getElem?_set, acallOp, abuiltin, List.map_cons, List.map_nil, Nat.reduceEqDiff, Nat.reduceLT, List.length_set, Option.map_some, Option.bind_some, Option.bind_eq_bind, add_i, sub_i, mul_i, eql_i, neq_i, lss_i, leq_i, gtr_i, geq_i, ofV, ofCell, ↓reduceIte, List.cons_append, List.nil_append, List.append_nil, List.getElem?_toArray, List.getElem?_cons_succ, List.getElem?_cons_zero, e_draw, g_nil, g_cons, g_want, g_skip, g_val, g_call, g_ret, Option.map_none, hl, a0, CP, bq1, bq2, bq3, bq4, ex_tup, Ty.fa73_1, dropCells, List.drop_succ_cons, List.drop_zero, Ty.ld34, ld_ip, ofc1, List.drop_succ_cons, List.drop_zero, iu37]
      exact rfl, ?_⟩
  show P51_5 _ _
  exact ⟨(.iptr [.int .i64 n34.Kind, bu35_0, bu35_1, .bool n34.Meas, .int .i64 n34.Index, .int .i64 n34.Op, bu35_2, bu35_3] : AVal), by simp [hl], by simp [a0], r0_0, by simp [hl], by simp [hl]⟩
theorem R51_6 {rec51 : TestT → Option (Int × Bool)} (hrec51 : Spec51 rec51) (pe : Nat → Fr51 → ASt → Prop) (pr : Fr51 → ASt → Prop) : Ref Cn P51_6 (Cat [true, true, false, true, false, true, false] (bodyOf Try.f51)) (m51_6 rec51) (post P51_1 pe pr) := by
  rintro s ⟨t, h⟩ hp x s' hm
  have hp : P51_6' s t h := hp
  obtain ⟨w0_0, hl, a0, r0_0⟩ := hp
  unfold m51_6 at hm
  obtain ⟨n46, hn46, hm⟩ := Option.bind_eq_some_iff.1 hm
  obtain ⟨bu47_0, bu47_1, bu47_2, bu47_3, qu47, gu47_0, gu47_1, gu47_2, gu47_3⟩ := rTestT_get r0_0 hn46
  subst qu47
  have bd48 : abuildSlice Try.prog 24 1 [(0, .int .i64 n46.Index)] = some ([.int .i64 n46.Index], 1) := by kernel_rfl
  have bs49 : Els (rI .i64) [n46.Index] [[.int .i64 n46.Index]] := (Els.cons rfl Els.nil)
  have sl50 : Sl (rI .i64) [n46.Index] (.lst [.int .i64 n46.Index] 1 .full) := Sl.lst .full bs49
  have gr51 : ∀ h, Gr (rI .i64) 1 [n46.Index] (.lst [.int .i64 n46.Index] 1 .full) h := fun h => Gr.full bs49 h
  obtain ⟨z52, hz52, hm⟩ := Option.bind_eq_some_iff.1 hm
  have iu53 := G39_spec [n46.Index] _ sl50 _ hz52
  cases hm
  refine ⟨⟨_, _⟩, by
      simp only [bodyOf, Try.f51, Cat, Bool.false_eq_true, e_seq, e_region, e_cond, e_block, ex_skip, ex_exit, ex_ret, o_cons, xops_nil, k_want_none, k_want_false, k_val, k_pan, k_call, k_ret, k_seq, k_seq_exit, k_seq_ret, k_true, k_false, k_block, k_block_exit, k_block_ret, k_loop, k_loop_exit, k_loop_ret, awanted, aoper, evalO, put, Option.getD_some, List.getElem?_set, acallOp, abuiltin, List.map_cons, List.map_nil, Nat.reduceEqDiff, Nat.reduceLT, List.length_set, Option.map_some, Option.bind_some, Option.bind_eq_bind, add_i, sub_i, mul_i, eql_i, neq_i, lss_i, leq_i, gtr_i, geq_i, ofV, ofCell, ↓reduceIte, List.cons_append, List.nil_append, List.append_nil, List.getElem?_toArray, List.getElem?_cons_succ, List.getElem?_cons_zero, e_draw, g_nil, g_cons, g_want, g_skip, g_val, g_call, g_ret, Option.map_none, hl, a0, CP, bq1, bq2, bq3, bq4, ex_tup, Ty.fa73_4, dropCells, List.drop_succ_cons, List.drop_zero, Ty.ld3, ld_ip, ofc1, List.drop_succ_cons, List.drop_zero, bd48, Ty.own_ref_go_310, iu53]
      exact rfl, ?_⟩
  show P51_1 _ _
  exact ⟨by simp [hl], by simp [hl], by simp [hl]⟩
theorem R51_7 {rec51 : TestT → Option (Int × Bool)} (hrec51 : Spec51 rec51) (pe : Nat → Fr51 → ASt → Prop) (pr : Fr51 → ASt → Prop) : Ref Cn P51_7 (Cat [true, true, false, true, false, false, true, false, false] (bodyOf Try.f51)) (m51_7 rec51) (post P51_1 pe pr) := by
  rintro s ⟨t, h⟩ hp x s' hm
  have hp : P51_7' s t h := hp
  obtain ⟨hl, _⟩ := hp
  unfold m51_7 at hm
  cases hm
  refine ⟨⟨_, _⟩, by
      simp only [bodyOf, Try.f51, Cat, Bool.false_eq_true, e_seq, e_region, e_cond, e_block, ex_skip, ex_exit, ex_ret, o_cons, xops_nil, k_want_none, k_want_false, k_val, k_pan, k_call, k_ret, k_seq, k_seq_exit, k_seq_ret, k_true, k_false, k_block, k_block_exit, k_block_ret, k_loop, k_loop_exit, k_loop_ret, awanted, aoper, evalO, put, Option.getD_some, List.getElem?_set, acallOp, abuiltin, List.map_cons, List.map_nil, Nat.reduceEqDiff, Nat.reduceLT, List.length_set, Option.map_some, Option.bind_some, Option.bind_eq_bind, add_i, sub_i, mul_i, eql_i, neq_i, lss_i, leq_i, gtr_i, geq_i, ofV, ofCell, ↓reduceIte, List.cons_append, List.nil_append, List.append_nil, List.getElem?_toArray, List.getElem?_cons_succ, List.getElem?_cons_zero, e_draw, g_nil, g_cons, g_want, g_skip, g_val, g_call, g_ret, Option.map_none, hl, CP, bq1, bq2, bq3, bq4, ex_tup]
      exact rfl, ?_⟩
  show P51_1 _ _
  exact ⟨by simp [hl], by simp [hl], by simp [hl]⟩
theorem R51_8 {rec51 : TestT → Option (Int × Bool)} (hrec51 : Spec51 rec51) (pe : Nat → Fr51 → ASt → Prop) (pr : Fr51 → ASt → Prop) : Ref Cn P51_6 (Cat [true, true, false, true, false, false, false] (bodyOf Try.f51)) (m51_8 rec51) (post P51_8 pe pr) := by
  rintro s ⟨t, h⟩ hp x s' hm
  have hp : P51_6' s t h := hp
  obtain ⟨w0_0, hl, a0, r0_0⟩ := hp
  unfold m51_8 at hm
  obtain ⟨n56, hn56, hm⟩ := Option.bind_eq_some_iff.1 hm
  obtain ⟨bu57_0, bu57_1, bu57_2, bu57_3, qu57, gu57_0, gu57_1, gu57_2, gu57_3⟩ := rTestT_get r0_0 hn56
  subst qu57
  cases hm
  refine ⟨⟨_, _⟩, by
      simp only [bodyOf, Try.f51, Cat, Bool.false_eq_true, e_seq, e_region, e_cond, e_block, ex_skip, ex_exit, ex_ret, o_cons, xops_nil, k_want_none, k_want_false, k_val, k_pan, k_call, k_ret, k_seq, k_seq_exit, k_seq_ret, k_true, k_false, k_block, k_block_exit, k_block_ret, k_loop, k_loop_exit, k_loop_ret, awanted, aoper, evalO, put, Option.getD_some, List.getElem?_set, acallOp, abuiltin, List.map_cons, List.map_nil, Nat.reduceEqDiff, Nat.reduceLT, List.length_set, Option.map_some, Option.bind_some, Option.bind_eq_bind, add_i, sub_i, mul_i, eql_i, neq_i, lss_i, leq_i, gtr_i, geq_i, ofV, ofCell, ↓reduceIte, List.cons_append, List.nil_append, List.append_nil, List.getElem?_toArray, List.getElem?_cons_succ, List.getElem?_cons_zero, e_draw, g_nil, g_cons, g_want, g_skip, g_val, g_call, g_ret, Option.map_none, hl, a0, CP, bq1, bq2, bq3, bq4, ex_tup, Ty.fa73_3, dropCells, List.drop_succ_cons, List.drop_zero, Ty.ld4, ld_ip, ofc1, List.drop_succ_cons, List.drop_zero]
      exact rfl, ?_⟩
  show P51_8 _ _
  exact ⟨(.iptr [.int .i64 n56.Kind, bu57_0, bu57_1, .bool n56.Meas, .int .i64 n56.Index, .int .i64 n56.Op, bu57_2, bu57_3] : AVal), by simp [hl], by simp [a0], r0_0, by simp [hl]⟩
theorem R51_9 {rec51 : TestT → Option (Int × Bool)} (hrec51 : Spec51 rec51) (pe : Nat → Fr51 → ASt → Prop) (pr : Fr51 → ASt → Prop) : Ref Cn P51_6 (Cat [true, true, false, false] (bodyOf Try.f51)) (m51_9 rec51) (post P51_9 pe pr) := by
  rintro s ⟨t, h⟩ hp x s' hm
  have hp : P51_6' s t h := hp
  obtain ⟨w0_0, hl, a0, r0_0⟩ := hp
  unfold m51_9 at hm
  obtain ⟨n60, hn60, hm⟩ := Option.bind_eq_some_iff.1 hm
  obtain ⟨bu61_0, bu61_1, bu61_2, bu61_3, qu61, gu61_0, gu61_1, gu61_2, gu61_3⟩ := rTestT_get r0_0 hn60
  subst qu61
  cases hb62 : (n60.Kind == 4) with
  | true =>
    all_goals (
      try simp only [hb62, cond_true, cond_false, Option.bind_some, Option.bind_assoc, Bool.not_true, Bool.not_false, Bool.true_and, Bool.false_and, Bool.and_true, Bool.and_false, Bool.true_or, Bool.false_or] at hm
      cases hm
      refine ⟨⟨_, _⟩, by
          simp only [bodyOf, Try.f51, Cat, Bool.false_eq_true, e_seq, e_region, e_cond, e_block, ex_skip, ex_exit, ex_ret, o_cons, xops_nil, k_want_none, k_want_false, k_val, k_pan, k_call, k_ret, k_seq, k_seq_exit, k_seq_ret, k_true, k_false, k_block, k_block_exit, k_block_ret, k_loop, k_loop_exit, k_loop_ret, awanted, aoper, evalO, put, Option.getD_some, List.getElem?_set, acallOp, abuiltin, List.map_cons, List.map_nil, Nat.reduceEqDiff, Nat.reduceLT, List.length_set, Option.map_some, Option.bind_some, Option.bind_eq_bind, add_i, sub_i, mul_i, eql_i, neq_i, lss_i, leq_i, gtr_i, geq_i, ofV, ofCell, ↓reduceIte, List.cons_append, List.nil_append, List.append_nil, List.getElem?_toArray, List.getElem?_cons_succ, List.getElem?_cons_zero, e_draw, g_nil, g_cons, g_want, g_skip, g_val, g_call, g_ret, Option.map_none, hl, a0, CP, bq1, bq2, bq3, bq4, ex_tup, Ty.fa73_0, dropCells, List.drop_succ_cons, List.drop_zero, Ty.ld3, ld_ip, ofc1, List.drop_succ_cons, List.drop_zero, hb62]
          exact rfl, ?_⟩
      show P51_9 _ _
      exact ⟨(.iptr [.int .i64 n60.Kind, bu61_0, bu61_1, .bool n60.Meas, .int .i64 n60.Index, .int .i64 n60.Op, bu61_2, bu61_3] : AVal), by simp [hl], by simp [a0], r0_0, by simp [hl, hb62]⟩)
  | false =>
    all_goals (
      try simp only [hb62, cond_true, cond_false, Option.bind_some, Option.bind_assoc, Bool.not_true, Bool.not_false, Bool.true_and, Bool.false_and, Bool.and_true, Bool.and_false, Bool.true_or, Bool.false_or] at hm
      cases hm
      refine ⟨⟨_, _⟩, by
          simp only [bodyOf, Try.f51, Cat, Bool.false_eq_true, e_seq, e_region, e_cond, e_block, ex_skip, ex_exit, ex_ret, o_cons, xops_nil, k_want_none, k_want_false, k_val, k_pan, k_call, k_ret, k_seq, k_seq_exit, k_seq_ret, k_true, k_false, k_block, k_block_exit, k_block_ret, k_loop, k_loop_exit, k_loop_ret, awanted, aoper, evalO, put, Option.getD_some, List.getElem?_set, acallOp, abuiltin, List.map_cons, List.map_nil, Nat.reduceEqDiff, Nat.reduceLT, List.length_set, Option.map_some, Option.bind_some, Option.bind_eq_bind, add_i, sub_i, mul_i, eql_i, neq_i, lss_i, leq_i, gtr_i, geq_i, ofV, ofCell, ↓reduceIte, List.cons_append, List.nil_append, List.append_nil, List.getElem?_toArray, List.getElem?_cons_succ, List.getElem?_cons_zero, e_draw, g_nil, g_cons, g_want, g_skip, g_val, g_call, g_ret, Option.map_none, hl, a0, CP, bq1, bq2, bq3, bq4, ex_tup, Ty.fa73_0, dropCells, List.drop_succ_cons, List.drop_zero, Ty.ld3, ld_ip, ofc1, List.drop_succ_cons, List.drop_zero, hb62]
          exact rfl, ?_⟩
      show P51_9 _ _
      exact ⟨(.iptr [.int .i64 n60.Kind, bu61_0, bu61_1, .bool n60.Meas, .int .i64 n60.Index, .int .i64 n60.Op, bu61_2, bu61_3] : AVal), by simp [hl], by simp [a0], r0_0, by simp [hl, hb62]⟩)
theorem R51_10 {rec51 : TestT → Option (Int × Bool)} (hrec51 : Spec51 rec51) (pe : Nat → Fr51 → ASt → Prop) (pr : Fr51 → ASt → Prop) : Ref Cn P51_7 (Cat [true, false, true, false, false] (bodyOf Try.f51)) (m51_10 rec51) (post P51_1 pe pr) := by
  rintro s ⟨t, h⟩ hp x s' hm
  have hp : P51_7' s t h := hp
  obtain ⟨hl, _⟩ := hp
  unfold m51_10 at hm
  cases hm
  refine ⟨⟨_, _⟩, by
      simp only [bodyOf, Try.f51, Cat, Bool.false_eq_true, e_seq, e_region, e_cond, e_block, ex_skip, ex_exit, ex_ret, o_cons, xops_nil, k_want_none, k_want_false, k_val, k_pan, k_call, k_ret, k_seq, k_seq_exit, k_seq_ret, k_true, k_false, k_block, k_block_exit, k_block_ret, k_loop, k_loop_exit, k_loop_ret, awanted, aoper, evalO, put, Option.getD_some, List.getElem?_set, acallOp, abuiltin, List.map_cons, List.map_nil, Nat.reduceEqDiff, Nat.reduceLT, List.length_set, Option.map_some, Option.bind_some, Option.bind_eq_bind, add_i, sub_i, mul_i, eql_i, neq_i, lss_i, leq_i, gtr_i, geq_i, ofV, ofCell, ↓reduceIte, List.cons_append, List.nil_append, List.append_nil, List.getElem?_toArray, List.getElem?_cons_succ, List.getElem?_cons_zero, e_draw, g_nil, g_cons, g_want, g_skip, g_val, g_call, g_ret, Option.map_none, hl, CP, bq1, bq2, bq3, bq4, ex_tup]
      exact rfl, ?_⟩
  show P51_1 _ _
  exact ⟨by simp [hl], by simp [hl], by simp [hl]⟩
theorem R51_11 {rec51 : TestT → Option (Int × Bool)} (hrec51 : Spec51 rec51) (pe : Nat → Fr51 → ASt → Prop) (pr : Fr51 → ASt → Prop) : Ref Cn P51_6 (Cat [true, false, false] (bodyOf Try.f51)) (m51_11 rec51) (post P51_10 pe pr) := by
  rintro s ⟨t, h⟩ hp x s' hm
  have hp : P51_6' s t h := hp
  obtain ⟨w0_0, hl, a0, r0_0⟩ := hp
  unfold m51_11 at hm
  cases hb63 : s.t0.isNil with
  | true =>
    all_goals (
      try simp only [hb63, cond_true, cond_false, Option.bind_some, Option.bind_assoc, Bool.not_true, Bool.not_false, Bool.true_and, Bool.false_and, Bool.and_true, Bool.and_false, Bool.true_or, Bool.false_or] at hm
      obtain ⟨_, qz64⟩ | ⟨qz64, _⟩ := rTestT_nil r0_0
      rotate_left
      · rw [hb63] at qz64; cases qz64
      have z64 : ∀ (xo : Operand) (h : AHeap), abin Cn .eql 34 xo (.const (.pointer none)) h (w0_0) .nilPtr = some (.bool true) := fun xo h => by rw [qz64]; exact Ty.eqn34 xo h
      cases hm
      refine ⟨⟨_, _⟩, by
          simp only [bodyOf, Try.f51, Cat, Bool.false_eq_true, e_seq, e_region, e_cond, e_block, ex_skip, ex_exit, ex_ret, o_cons, xops_nil, k_want_none, k_want_false, k_val, k_pan, k_call, k_ret, k_seq, k_seq_exit, k_seq_ret, k_true, k_false, k_block, k_block_exit, k_block_ret, k_loop, k_loop_exit, k_loop_ret, awanted, aoper, evalO, put, Option.getD_some, List.getElem?_set, acallOp, abuiltin, List.map_cons, List.map_nil, Nat.reduceEqDiff, Nat.reduceLT, List.length_set, Option.map_some, Option.bind_some, Option.bind_eq_bind, add_i, sub_i, mul_i, eql_i, neq_i, lss_i, leq_i, gtr_i, geq_i, ofV, ofCell, ↓reduceIte, List.cons_append, List.nil_append, List.append_nil, List.getElem?_toArray, List.getElem?_cons_succ, List.getElem?_cons_zero, e_draw, g_nil, g_cons, g_want, g_skip, g_val, g_call, g_ret, Option.map_none, hl, a0, CP, bq1, bq2, bq3, bq4, ex_tup, z64, hb63]
          exact rfl, ?_⟩
      show P51_10 _ _
      exact ⟨w0_0, by simp [hl], by simp [a0], r0_0, by simp [hl, hb63]⟩)
  | false =>
    all_goals (
      try simp only [hb63, cond_true, cond_false, Option.bind_some, Option.bind_assoc, Bool.not_true, Bool.not_false, Bool.true_and, Bool.false_and, Bool.and_true, Bool.and_false, Bool.true_or, Bool.false_or] at hm
      obtain ⟨qz65, _⟩ | ⟨_, csz65, qz65⟩ := rTestT_nil r0_0
      · rw [hb63] at qz65; cases qz65
      have z65 : ∀ (xo yo : Operand) (h : AHeap), abin Cn .eql 34 xo yo h (w0_0) .nilPtr = some (.bool false) := fun xo yo h => by rw [qz65]; exact Ty.eqp34 xo yo h _
      clear qz65
      cases hm
      refine ⟨⟨_, _⟩, by
          simp only [bodyOf, Try.f51, Cat, Bool.false_eq_true, e_seq, e_region, e_cond, e_block, ex_skip, ex_exit, ex_ret, o_cons, xops_nil, k_want_none, k_want_false, k_val, k_pan, k_call, k_ret, k_seq, k_seq_exit, k_seq_ret, k_true, k_false, k_block, k_block_exit, k_block_ret, k_loop, k_loop_exit, k_loop_ret, awanted, aoper, evalO, put, Option.getD_some, List.getElem?_set, acallOp, abuiltin, List.map_cons, List.map_nil, Nat.reduceEqDiff, Nat.reduceLT, List.length_set, Option.map_some, Option.bind_some, Option.bind_eq_bind, add_i, sub_i, mul_i, eql_i, neq_i, lss_i, leq_i, gtr_i, geq_i, ofV, ofCell, ↓reduceIte, List.cons_append, List.nil_append, List.append_nil, List.getElem?_toArray, List.getElem?_cons_succ, List.getElem?_cons_zero, e_draw, g_nil, g_cons, g_want, g_skip, g_val, g_call, g_ret, Option.map_none, hl, a0, CP, bq1, bq2, bq3, bq4, ex_tup, z65, hb63]
          exact rfl, ?_⟩
      show P51_10 _ _
      exact ⟨w0_0, by simp [hl], by simp [a0], r0_0, by simp [hl, hb63]⟩)
theorem R51_12 {rec51 : TestT → Option (Int × Bool)} (hrec51 : Spec51 rec51) (pe : Nat → Fr51 → ASt → Prop) (pr : Fr51 → ASt → Prop) : Ref Cn P51_6 (Cat [false] (bodyOf Try.f51)) (m51_12 rec51) (post P51_6 pe pr) := by
  rintro s ⟨t, h⟩ hp x s' hm
  have hp : P51_6' s t h := hp
  obtain ⟨w0_0, hl, a0, r0_0⟩ := hp
  unfold m51_12 at hm
  cases hm
  refine ⟨⟨_, _⟩, by
      simp only [bodyOf, Try.f51, Cat, Bool.false_eq_true, e_seq, e_region, e_cond, e_block, ex_skip, ex_exit, ex_ret, o_cons, xops_nil, k_want_none, k_want_false, k_val, k_pan, k_call, k_ret, k_seq, k_seq_exit, k_seq_ret, k_true, k_false, k_block, k_block_exit, k_block_ret, k_loop, k_loop_exit, k_loop_ret, awanted, aoper, evalO, put, Option.getD_some, List.getElem?_set, acallOp, abuiltin, List.map_cons, List.map_nil, Nat.reduceEqDiff, Nat.reduceLT, List.length_set, Option.map_some, Option.bind_some, Option.bind_eq_bind, add_i, sub_i, mul_i, eql_i, neq_i, lss_i, leq_i, gtr_i, geq_i, ofV, ofCell, ↓reduceIte, List.cons_append, List.nil_append, List.append_nil, List.getElem?_toArray, List.getElem?_cons_succ, List.getElem?_cons_zero, e_draw, g_nil, g_cons, g_want, g_skip, g_val, g_call, g_ret, Option.map_none, hl, a0, CP, bq1, bq2, bq3, bq4, ex_tup]
      exact rfl, ?_⟩
  show P51_6 _ _
  exact ⟨w0_0, by simp [hl], by simp [a0], r0_0⟩
theorem B51 {rec51 : TestT → Option (Int × Bool)} (hrec51 : Spec51 rec51) : Ref Cn P51_6 (bodyOf Try.f51) (M51 rec51) (post P51_1 (fun _ _ _ => False) P51_1) := by
  rw [show bodyOf Try.f51 = .seq (Cat [false] (bodyOf Try.f51)) (.seq (.seq (Cat [true, false, false] (bodyOf Try.f51)) (.cond (.tmp 10) (.seq (Cat [true, false, true, false, false] (bodyOf Try.f51)) (.ret)) (.skip))) (.seq (.seq (Cat [true, true, false, false] (bodyOf Try.f51)) (.cond (.tmp 22) (.seq (.seq (Cat [true, true, false, true, false, false, false] (bodyOf Try.f51)) (.cond (.tmp 26) (.seq (Cat [true, true, false, true, false, false, true, false, false] (bodyOf Try.f51)) (.ret)) (.skip))) (.seq (Cat [true, true, false, true, false, true, false] (bodyOf Try.f51)) (.ret))) (.skip))) (.seq (Cat [true, true, true, false] (bodyOf Try.f51)) (.seq (Cat [true, true, true, true, false] (bodyOf Try.f51)) (.seq (Cat [true, true, true, true, true, false] (bodyOf Try.f51)) (.seq (Cat [true, true, true, true, true, true, false] (bodyOf Try.f51)) (.seq (Cat [true, true, true, true, true, true, true, false] (bodyOf Try.f51)) (.seq (Cat [true, true, true, true, true, true, true, true, false] (bodyOf Try.f51)) (.ret))))))))) from rfl]
  unfold M51
  exact ref_seq (M := P51_6) (R51_12 hrec51 _ _) (ref_seq (M := P51_6) (ref_seq (M := P51_10) (R51_11 hrec51 _ _) (ref_cond (P := P51_10) (c := fun s => s.t10) (fun s st hp => by obtain ⟨w0_0, hl, a0, r0_0, a10⟩ := (hp : P51_10' s st.tmps st.h); simp only [evalO, a10, Option.getD_some]) (ref_weak (P' := P51_7) (fun s st hp => by obtain ⟨w0_0, hl, a0, r0_0, a10⟩ := (hp : P51_10' s st.tmps st.h); exact (⟨hl, trivial⟩ : P51_7' s st.tmps st.h)) (ref_seq (M := P51_1) (R51_10 hrec51 _ _) (ref_ret (fun s st hp => hp)))) (ref_weak (P' := P51_6) (fun s st hp => by obtain ⟨w0_0, hl, a0, r0_0, a10⟩ := (hp : P51_10' s st.tmps st.h); exact (⟨w0_0, hl, a0, r0_0⟩ : P51_6' s st.tmps st.h)) (ref_skip (fun s st hp => hp))))) (ref_seq (M := P51_6) (ref_seq (M := P51_9) (R51_9 hrec51 _ _) (ref_cond (P := P51_9) (c := fun s => s.t22) (fun s st hp => by obtain ⟨w0_0, hl, a0, r0_0, a22⟩ := (hp : P51_9' s st.tmps st.h); simp only [evalO, a22, Option.getD_some]) (ref_weak (P' := P51_6) (fun s st hp => by obtain ⟨w0_0, hl, a0, r0_0, a22⟩ := (hp : P51_9' s st.tmps st.h); exact (⟨w0_0, hl, a0, r0_0⟩ : P51_6' s st.tmps st.h)) (ref_seq (M := P51_6) (ref_seq (M := P51_8) (R51_8 hrec51 _ _) (ref_cond (P := P51_8) (c := fun s => s.t26) (fun s st hp => by obtain ⟨w0_0, hl, a0, r0_0, a26⟩ := (hp : P51_8' s st.tmps st.h); simp only [evalO, a26, Option.getD_some]) (ref_weak (P' := P51_7) (fun s st hp => by obtain ⟨w0_0, hl, a0, r0_0, a26⟩ := (hp : P51_8' s st.tmps st.h); exact (⟨hl, trivial⟩ : P51_7' s st.tmps st.h)) (ref_seq (M := P51_1) (R51_7 hrec51 _ _) (ref_ret (fun s st hp => hp)))) (ref_weak (P' := P51_6) (fun s st hp => by obtain ⟨w0_0, hl, a0, r0_0, a26⟩ := (hp : P51_8' s st.tmps st.h); exact (⟨w0_0, hl, a0, r0_0⟩ : P51_6' s st.tmps st.h)) (ref_skip (fun s st hp => hp))))) (ref_seq (M := P51_1) (R51_6 hrec51 _ _) (ref_ret (fun s st hp => hp))))) (ref_weak (P' := P51_6) (fun s st hp => by obtain ⟨w0_0, hl, a0, r0_0, a22⟩ := (hp : P51_9' s st.tmps st.h); exact (⟨w0_0, hl, a0, r0_0⟩ : P51_6' s st.tmps st.h)) (ref_skip (fun s st hp => hp))))) (ref_seq (M := P51_5) (R51_5 hrec51 _ _) (ref_seq (M := P51_4) (R51_4 hrec51 _ _) (ref_seq (M := P51_3) (R51_3 hrec51 _ _) (ref_seq (M := P51_2) (R51_2 hrec51 _ _) (ref_seq (M := P51_0) (R51_1 hrec51 _ _) (ref_seq (M := P51_1) (R51_0 hrec51 _ _) (ref_ret (fun s st hp => hp))))))))))
noncomputable def G51 (rec51 : TestT → Option (Int × Bool)) (x0 : TestT) : Option (Int × Bool) := match M51 rec51 { (default : Fr51) with t0 := x0 } with
  | some (.nrm, s) => some (s.t2, s.t3)
  | some (.ret, s) => some (s.t2, s.t3)
  | _ => none
theorem G51_spec {rec51 : TestT → Option (Int × Bool)} (hrec51 : Spec51 rec51) : Spec51 (G51 rec51) := by
  intro x0 vx0_0 hvx0_0 r hr
  unfold G51 at hr
  cases hm : M51 rec51 { (default : Fr51) with t0 := x0 } with
  | none => rw [hm] at hr; cases hr
  | some q =>
    obtain ⟨x, s⟩ := q
    rw [hm] at hr
    have hx : x = .nrm ∨ x = .ret := by cases x <;> first | exact .inl rfl | exact .inr rfl | cases hr
    have hr : (s.t2, s.t3) = r := by cases x <;> first | exact Option.some.inj hr | cases hr
    subst hr
    have h0 : P51_6' ({ (default : Fr51) with t0 := x0 }) (slots Try.f51 (stripL [vx0_0])) bare := ⟨(strip vx0_0 : AVal), rfl, rfl, rTestT_p.str _ _ hvx0_0⟩
    obtain ⟨v, hR, _, hrun⟩ := run_of_ref (C := Cn) (f := 51) (fn := Try.f51) Try.func51 rfl rfl rfl rfl (args := [vx0_0]) (by simp only [refsL, refs, List.append_nil, refs_one (rTestT_p.ref _ _ hvx0_0)]) (B51 hrec51) (s0 := { (default : Fr51) with t0 := x0 }) h0 hm hx (R := fun v => v = .tup [.int .i64 s.t2, .bool s.t3]) (by
      have key : ∀ st : ASt, P51_1 s st → ∃ vs v, aresults Cn Try.f51.results.toList st = some vs ∧ packRes vs = v ∧ refs v = [] ∧ (fun v => v = .tup [.int .i64 s.t2, .bool s.t3]) (strip v) := by
        intro st hp
        obtain ⟨hl, a2, a3⟩ := (hp : P51_1' s st.tmps st.h)
        refine ⟨[.int .i64 s.t2, .bool s.t3], _, by simp only [show Try.f51.results.toList = [ResultVar.tmp 2, ResultVar.tmp 3] from rfl, aresults, ares1, a2, a3, Option.getD_some], rfl, by simp only [packRes, refsL, refs, List.append_nil], rfl⟩
      intro st hq
      rcases hx with rfl | rfl
      · exact key st hq
      · exact key st hq)
    subst hR
    exact hrun
noncomputable def F51 : Nat → TestT → Option (Int × Bool)
  | 0 => fun _ => none
  | n + 1 => G51 (F51 n)
theorem F51_spec : ∀ n, Spec51 (F51 n)
  | 0 => fun x0 v0_ w0_ r hr => by cases hr
  | n + 1 => G51_spec (F51_spec n)
theorem Spec51_fuel {f : TestT → Option (Int × Bool)} (h : ∀ x0 r, f x0 = some r → ∃ n, F51 n x0 = some r) : Spec51 f := fun x0 v0_ w0_ r hr => by
  obtain ⟨n, hn⟩ := h x0 r hr
  exact F51_spec n x0 v0_ w0_ r hn
/-! ### caisson/bind.reads -/
structure Fr49 where
  t0 : TestT
  t2 : Int
  t3 : Bool
  t4 : Int
  t5 : Bool
  t6 : Int
  t7 : Bool
  t8 : Bool
  t11 : Bool
  t47 : Bool
instance : Inhabited Fr49 := ⟨⟨default, 0, false, 0, false, 0, false, false, false, false⟩⟩
def P49_0' (s : Fr49) (t : List AVal) (h : AHeap) : Prop := ∃ w0_0, t.length = 58 ∧ t[0]? = some w0_0 ∧ rTestT s.t0 [w0_0]
def P49_0 (s : Fr49) (st : ASt) : Prop := P49_0' s st.tmps st.h
def P49_1' (s : Fr49) (t : List AVal) (h : AHeap) : Prop := t.length = 58 ∧ t[2]? = some (.int .i64 s.t2) ∧ t[3]? = some (.bool s.t3)
def P49_1 (s : Fr49) (st : ASt) : Prop := P49_1' s st.tmps st.h
def P49_2' (s : Fr49) (t : List AVal) (h : AHeap) : Prop := t.length = 58 ∧ True
def P49_2 (s : Fr49) (st : ASt) : Prop := P49_2' s st.tmps st.h
def P49_3' (s : Fr49) (t : List AVal) (h : AHeap) : Prop := t.length = 58 ∧ t[4]? = some (.int .i64 s.t4) ∧ t[5]? = some (.bool s.t5) ∧ t[6]? = some (.int .i64 s.t6) ∧ t[7]? = some (.bool s.t7)
def P49_3 (s : Fr49) (st : ASt) : Prop := P49_3' s st.tmps st.h
def P49_4' (s : Fr49) (t : List AVal) (h : AHeap) : Prop := ∃ w0_0, t.length = 58 ∧ t[0]? = some w0_0 ∧ rTestT s.t0 [w0_0] ∧ t[4]? = some (.int .i64 s.t4) ∧ t[5]? = some (.bool s.t5)
def P49_4 (s : Fr49) (st : ASt) : Prop := P49_4' s st.tmps st.h
def P49_5' (s : Fr49) (t : List AVal) (h : AHeap) : Prop := ∃ w0_0, t.length = 58 ∧ t[0]? = some w0_0 ∧ rTestT s.t0 [w0_0] ∧ t[47]? = some (.bool s.t47)
def P49_5 (s : Fr49) (st : ASt) : Prop := P49_5' s st.tmps st.h
def P49_6' (s : Fr49) (t : List AVal) (h : AHeap) : Prop := ∃ w0_0, t.length = 58 ∧ t[0]? = some w0_0 ∧ rTestT s.t0 [w0_0] ∧ t[11]? = some (.bool s.t11)
def P49_6 (s : Fr49) (st : ASt) : Prop := P49_6' s st.tmps st.h
def P49_7' (s : Fr49) (t : List AVal) (h : AHeap) : Prop := ∃ w0_0, t.length = 58 ∧ t[0]? = some w0_0 ∧ rTestT s.t0 [w0_0] ∧ t[8]? = some (.bool s.t8)
def P49_7 (s : Fr49) (st : ASt) : Prop := P49_7' s st.tmps st.h
noncomputable def m49_0 (rec49 : TestT → Option (Int × Bool)) : Mo Fr49 := fun s => (s.t0.get).bind fun n1 => (G37 [n1.Index]).bind fun z7 => some (.nrm, { s with t2 := z7, t3 := false })
noncomputable def m49_1 (rec49 : TestT → Option (Int × Bool)) : Mo Fr49 := fun s => some (.nrm, { s with t2 := 0, t3 := false })
noncomputable def m49_2 (rec49 : TestT → Option (Int × Bool)) : Mo Fr49 := fun s => some (.nrm, { s with t2 := bits .or .i64 s.t4 s.t6, t3 := (s.t5 || s.t7) })
noncomputable def m49_3 (rec49 : TestT → Option (Int × Bool)) : Mo Fr49 := fun s => (s.t0.get).bind fun n18 => (rec49 n18.Right).bind fun z20 => some (.nrm, { s with t6 := z20.1, t7 := z20.2 })
noncomputable def m49_4 (rec49 : TestT → Option (Int × Bool)) : Mo Fr49 := fun s => (s.t0.get).bind fun n26 => (rec49 n26.Left).bind fun z28 => some (.nrm, { s with t4 := z28.1, t5 := z28.2 })
noncomputable def m49_5 (rec49 : TestT → Option (Int × Bool)) : Mo Fr49 := fun s => some (.nrm, { s with t2 := 0, t3 := true })
noncomputable def m49_6 (rec49 : TestT → Option (Int × Bool)) : Mo Fr49 := fun s => (s.t0.get).bind fun n34 => some (.nrm, { s with t47 := n34.Meas })
noncomputable def m49_7 (rec49 : TestT → Option (Int × Bool)) : Mo Fr49 := fun s => (s.t0.get).bind fun n38 => some (.nrm, { s with t11 := ((n38.Kind != 4) && (n38.Kind != 5)) })
noncomputable def m49_8 (rec49 : TestT → Option (Int × Bool)) : Mo Fr49 := fun s => some (.nrm, { s with t8 := s.t0.isNil })
noncomputable def m49_9 (rec49 : TestT → Option (Int × Bool)) : Mo Fr49 := fun s => some (.nrm, s)
noncomputable def M49 (rec49 : TestT → Option (Int × Bool)) : Mo Fr49 := seqM (m49_9 rec49) (seqM (blockM 0 (seqM (m49_8 rec49) (condM (fun s => s.t8) (seqM (m49_1 rec49) (retM)) (seqM (m49_7 rec49) (condM (fun s => s.t11) (seqM (m49_4 rec49) (seqM (m49_3 rec49) (seqM (m49_2 rec49) (retM)))) (seqM (m49_6 rec49) (condM (fun s => s.t47) (seqM (m49_5 rec49) (retM)) (skipM)))))))) (seqM (m49_0 rec49) (retM)))
def Spec49 (f : TestT → Option (Int × Bool)) : Prop := ∀ (x0 : TestT) (vx0_0 : AVal) (_ : rTestT x0 [vx0_0]) (r : (Int × Bool)), f x0 = some r → ∀ h, run Cn 49 [vx0_0] h = some (.ret (.tup [.int .i64 r.1, .bool r.2]), h)
theorem Spec49_of {f g : TestT → Option (Int × Bool)} (hg : Spec49 g) (h : ∀ x0 r, f x0 = some r → g x0 = some r) : Spec49 f := fun x0 v0_ w0_ r hr => hg x0 v0_ w0_ r (h x0 r hr)
theorem R49_0 {rec49 : TestT → Option (Int × Bool)} (hrec49 : Spec49 rec49) (pe : Nat → Fr49 → ASt → Prop) (pr : Fr49 → ASt → Prop) : Ref Cn P49_0 (Cat [true, true, false] (bodyOf Try.f49)) (m49_0 rec49) (post P49_1 pe pr) := by
  rintro s ⟨t, h⟩ hp x s' hm
  have hp : P49_0' s t h := hp
  obtain ⟨w0_0, hl, a0, r0_0⟩ := hp
  unfold m49_0 at hm
  obtain ⟨n9, hn9, hm⟩ := Option.bind_eq_some_iff.1 hm
  obtain ⟨bu10_0, bu10_1, bu10_2, bu10_3, qu10, gu10_0, gu10_1, gu10_2, gu10_3⟩ := rTestT_get r0_0 hn9
  subst qu10
  have bd11 : abuildSlice Try.prog 24 1 [(0, .int .i64 n9.Index)] = some ([.int .i64 n9.Index], 1) := by kernel_rfl
  have bs12 : Els (rI .i64) [n9.Index] [[.int .i64 n9.Index]] := (Els.cons rfl Els.nil)
  have sl13 : Sl (rI .i64) [n9.Index] (.lst [.int .i64 n9.Index] 1 .full) := Sl.lst .full bs12
  have gr14 : ∀ h, Gr (rI .i64) 1 [n9.Index] (.lst [.int .i64 n9.Index] 1 .full) h := fun h => Gr.full bs12 h
  obtain ⟨z15, hz15, hm⟩ := Option.bind_eq_some_iff.1 hm
  have iu16 := G37_spec [n9.Index] _ sl13 _ hz15
  cases hm
  refine ⟨⟨_, _⟩, by
      simp only [bodyOf, Try.f49, Cat, Bool.false_eq_true, e_seq, e_region, e_cond, e_block, ex_skip, ex_exit, ex_ret, o_cons, xops_nil, k_want_none, k_want_false, k_val, k_pan, k_call, k_ret, k_seq, k_seq_exit, k_seq_ret, k_true, k_false, k_block, k_block_exit, k_block_ret, k_loop, k_loop_exit, k_loop_ret, awanted, aoper, evalO, put, Option.getD_some, List.getElem?_set, acallOp, abuiltin, List.map_cons, List.map_nil, Nat.reduceEqDiff, Nat.reduceLT, List.length_set, Option.map_some, Option.bind_some, Option.bind_eq_bind, add_i, sub_i, mul_i, eql_i, neq_i, lss_i, leq_i, gtr_i, geq_i, ofV, ofCell, ↓reduceIte, List.cons_append, List.nil_append, List.append_nil, List.getElem?_toArray, List.getElem?_cons_succ, List.getElem?_cons_zero, e_draw, g_nil, g_cons, g_want, g_skip, g_val, g_call, g_ret, Option.map_none, hl, a0, CP, bq1, bq2, bq3, bq4, ex_tup, Ty.fa73_4, dropCells, List.drop_succ_cons, List.drop_zero, Ty.ld3, ld_ip, ofc1, List.drop_succ_cons, List.drop_zero, bd11, Ty.own_bind_go_270, iu16]
      exact rfl, ?_⟩
  show P49_1 _ _
  exact ⟨by simp [hl], by simp [hl], by simp [hl]⟩
theorem R49_1 {rec49 : TestT → Option (Int × Bool)} (hrec49 : Spec49 rec49) (pe : Nat → Fr49 → ASt → Prop) (pr : Fr49 → ASt → Prop) : Ref Cn P49_2 (Cat [true, false, true, true, false, false] (bodyOf Try.f49)) (m49_1 rec49) (post P49_1 pe pr) := by
  rintro s ⟨t, h⟩ hp x s' hm
  have hp : P49_2' s t h := hp
  obtain ⟨hl, _⟩ := hp
  unfold m49_1 at hm
  cases hm
  refine ⟨⟨_, _⟩, by
      simp only [bodyOf, Try.f49, Cat, Bool.false_eq_true, e_seq, e_region, e_cond, e_block, ex_skip, ex_exit, ex_ret, o_cons, xops_nil, k_want_none, k_want_false, k_val, k_pan, k_call, k_ret, k_seq, k_seq_exit, k_seq_ret, k_true, k_false, k_block, k_block_exit, k_block_ret, k_loop, k_loop_exit, k_loop_ret, awanted, aoper, evalO, put, Option.getD_some, List.getElem?_set, acallOp, abuiltin, List.map_cons, List.map_nil, Nat.reduceEqDiff, Nat.reduceLT, List.length_set, Option.map_some, Option.bind_some, Option.bind_eq_bind, add_i, sub_i, mul_i, eql_i, neq_i, lss_i, leq_i, gtr_i, geq_i, ofV, ofCell, ↓reduceIte, List.cons_append, List.nil_append, List.append_nil, List.getElem?_toArray, List.getElem?_cons_succ, List.getElem?_cons_zero, e_draw, g_nil, g_cons, g_want, g_skip, g_val, g_call, g_ret, Option.map_none, hl, CP, bq1, bq2, bq3, bq4, ex_tup]
      exact rfl, ?_⟩
  show P49_1 _ _
  exact ⟨by simp [hl], by simp [hl], by simp [hl]⟩
theorem R49_2 {rec49 : TestT → Option (Int × Bool)} (hrec49 : Spec49 rec49) (pe : Nat → Fr49 → ASt → Prop) (pr : Fr49 → ASt → Prop) : Ref Cn P49_3 (Cat [true, false, true, true, true, true, false, true, true, false] (bodyOf Try.f49)) (m49_2 rec49) (post P49_1 pe pr) := by
  rintro s ⟨t, h⟩ hp x s' hm
  have hp : P49_3' s t h := hp
  obtain ⟨hl, a4, a5, a6, a7⟩ := hp
  unfold m49_2 at hm
  cases hb17 : s.t5 with
  | true =>
    all_goals (
      try simp only [hb17, cond_true, cond_false, Option.bind_some, Option.bind_assoc, Bool.not_true, Bool.not_false, Bool.true_and, Bool.false_and, Bool.and_true, Bool.and_false, Bool.true_or, Bool.false_or] at hm
      cases hm
      refine ⟨⟨_, _⟩, by
          simp only [bodyOf, Try.f49, Cat, Bool.false_eq_true, e_seq, e_region, e_cond, e_block, ex_skip, ex_exit, ex_ret, o_cons, xops_nil, k_want_none, k_want_false, k_val, k_pan, k_call, k_ret, k_seq, k_seq_exit, k_seq_ret, k_true, k_false, k_block, k_block_exit, k_block_ret, k_loop, k_loop_exit, k_loop_ret, awanted, aoper, evalO, put, Option.getD_some, List.getElem?_set, acallOp, abuiltin, List.map_cons, List.map_nil, Nat.reduceEqDiff, Nat.reduceLT, List.length_set, Option.map_some, Option.bind_some, Option.bind_eq_bind, add_i, sub_i, mul_i, eql_i, neq_i, lss_i, leq_i, gtr_i, geq_i, ofV, ofCell, ↓reduceIte, List.cons_append, List.nil_append, List.append_nil, List.getElem?_toArray, List.getElem?_cons_succ, List.getElem?_cons_zero, e_draw, g_nil, g_cons, g_want, g_skip, g_val, g_call, g_ret, Option.map_none, hl, a4, a5, a6, a7, CP, bq1, bq2, bq3, bq4, ex_tup, Ty.or3, hb17]
          exact rfl, ?_⟩
      show P49_1 _ _
      exact ⟨by simp [hl], by simp [hl, hb17], by simp [hl, hb17]⟩)
  | false =>
    all_goals (
      try simp only [hb17, cond_true, cond_false, Option.bind_some, Option.bind_assoc, Bool.not_true, Bool.not_false, Bool.true_and, Bool.false_and, Bool.and_true, Bool.and_false, Bool.true_or, Bool.false_or] at hm
      cases hm
      refine ⟨⟨_, _⟩, by
          simp only [bodyOf, Try.f49, Cat, Bool.false_eq_true, e_seq, e_region, e_cond, e_block, ex_skip, ex_exit, ex_ret, o_cons, xops_nil, k_want_none, k_want_false, k_val, k_pan, k_call, k_ret, k_seq, k_seq_exit, k_seq_ret, k_true, k_false, k_block, k_block_exit, k_block_ret, k_loop, k_loop_exit, k_loop_ret, awanted, aoper, evalO, put, Option.getD_some, List.getElem?_set, acallOp, abuiltin, List.map_cons, List.map_nil, Nat.reduceEqDiff, Nat.reduceLT, List.length_set, Option.map_some, Option.bind_some, Option.bind_eq_bind, add_i, sub_i, mul_i, eql_i, neq_i, lss_i, leq_i, gtr_i, geq_i, ofV, ofCell, ↓reduceIte, List.cons_append, List.nil_append, List.append_nil, List.getElem?_toArray, List.getElem?_cons_succ, List.getElem?_cons_zero, e_draw, g_nil, g_cons, g_want, g_skip, g_val, g_call, g_ret, Option.map_none, hl, a4, a5, a6, a7, CP, bq1, bq2, bq3, bq4, ex_tup, Ty.or3, hb17]
          exact rfl, ?_⟩
      show P49_1 _ _
      exact ⟨by simp [hl], by simp [hl, hb17], by simp [hl, hb17]⟩)
theorem R49_3 {rec49 : TestT → Option (Int × Bool)} (hrec49 : Spec49 rec49) (pe : Nat → Fr49 → ASt → Prop) (pr : Fr49 → ASt → Prop) : Ref Cn P49_4 (Cat [true, false, true, true, true, true, false, true, false] (bodyOf Try.f49)) (m49_3 rec49) (post P49_3 pe pr) := by
  rintro s ⟨t, h⟩ hp x s' hm
  have hp : P49_4' s t h := hp
  obtain ⟨w0_0, hl, a0, r0_0, a4, a5⟩ := hp
  unfold m49_3 at hm
  obtain ⟨n22, hn22, hm⟩ := Option.bind_eq_some_iff.1 hm
  obtain ⟨bu23_0, bu23_1, bu23_2, bu23_3, qu23, gu23_0, gu23_1, gu23_2, gu23_3⟩ := rTestT_get r0_0 hn22
  subst qu23
  obtain ⟨z24, hz24, hm⟩ := Option.bind_eq_some_iff.1 hm
  have iu25 := hrec49 n22.Right _ gu23_1 _ hz24
  cases hm
  refine ⟨⟨_, _⟩, by
      simp only [bodyOf, Try.f49, Cat, Bool.false_eq_true, e_seq, e_region, e_cond, e_block, ex_skip, ex_exit, ex_ret, o_cons, xops_nil, k_want_none, k_want_false, k_val, k_pan, k_call, k_ret, k_seq, k_seq_exit, k_seq_ret, k_true, k_false, k_block, k_block_exit, k_block_ret, k_loop, k_loop_exit, k_loop_ret, awanted, aoper, evalO, put, Option.getD_some, List.getElem?_set, acallOp, abuiltin, List.map_cons, List.map_nil, Nat.reduceEqDiff, Nat.reduceLT, List.length_set, Option.map_some, Option.bind_some, Option.bind_eq_bind, add_i, sub_i, mul_i, eql_i, neq_i, lss_i, leq_i, gtr_i, geq_i, ofV, ofCell, ↓reduceIte, List.cons_append, List.nil_append, List.append_nil, List.getElem?_toArray, List.getElem?_cons_succ, List.getElem?_cons_zero, e_draw, g_nil, g_cons, g_want, g_skip, g_val, g_call, g_ret, Option.map_none, hl, a0, a4, a5, CP, bq1, bq2, bq3, bq4, ex_tup, Ty.fa73_2, dropCells, List.drop_succ_cons, List.drop_zero, Ty.ld34, ld_ip, ofc1, List.drop_succ_cons, List.drop_zero, iu25]
      exact rfl, ?_⟩
  show P49_3 _ _
  exact ⟨by simp [hl], by simp [a4], by simp [a5], by simp [hl], by simp [hl]⟩
theorem R49_4 {rec49 : TestT → Option (Int × Bool)} (hrec49 : Spec49 rec49) (pe : Nat → Fr49 → ASt → Prop) (pr : Fr49 → ASt → Prop) : Ref Cn P49_0 (Cat [true, false, true, true, true, true, false, false] (bodyOf Try.f49)) (m49_4 rec49) (post P49_4 pe pr) := by
  rintro s ⟨t, h⟩ hp x s' hm
  have hp : P49_0' s t h := hp
  obtain ⟨w0_0, hl, a0, r0_0⟩ := hp
  unfold m49_4 at hm
  obtain ⟨n30, hn30, hm⟩ := Option.bind_eq_some_iff.1 hm
  obtain ⟨bu31_0, bu31_1, bu31_2, bu31_3, qu31, gu31_0, gu31_1, gu31_2, gu31_3⟩ := rTestT_get r0_0 hn30
  subst qu31
  obtain ⟨z32, hz32, hm⟩ := Option.bind_eq_some_iff.1 hm
  have iu33 := hrec49 n30.Left _ gu31_0 _ hz32
  cases hm
  refine ⟨⟨_, _⟩, by
      simp only [bodyOf, Try.f49, Cat, Bool.false_eq_true, e_seq, e_region, e_cond, e_block, ex_skip, ex_exit, ex_ret, o_cons, xops_nil, k_want_none, k_want_false, k_val, k_pan, k_call, k_ret, k_seq, k_seq_exit, k_seq_ret, k_true, k_false, k_block, k_block_exit, k_block_ret, k_loop, k_loop_exit, k_loop_ret, awanted, aoper, evalO, put, Option.getD_some, List.getElem?_set, acallOp, abuiltin, List.map_cons, List.map_nil, Nat.reduceEqDiff, Nat.reduceLT, List.length_set, Option.map_some, Option.bind_some, Option.bind_eq_bind, add_i, sub_i, mul_i, eql_i, neq_i, lss_i, leq_i, gtr_i, geq_i, ofV, ofCell, ↓reduceIte, List.cons_append, List.nil_append, List.append_nil, List.getElem?_toArray, List.getElem?_cons_succ, List.getElem?_cons_zero, e_draw, g_nil, g_cons, g_want, g_skip, g_val, g_call, g_ret, Option.map_none, hl, a0, CP, bq1, bq2, bq3, bq4, ex_tup, Ty.fa73_1, dropCells, List.drop_succ_cons, List.drop_zero, Ty.ld34, ld_ip, ofc1, List.drop_succ_cons, List.drop_zero, iu33]
      exact rfl, ?_⟩
  show P49_4 _ _
  exact ⟨(.iptr [.int .i64 n30.Kind, bu31_0, bu31_1, .bool n30.Meas, .int .i64 n30.Index, .int .i64 n30.Op, bu31_2, bu31_3] : AVal), by simp [hl], by simp [a0], r0_0, by simp [hl], by simp [hl]⟩
theorem R49_5 {rec49 : TestT → Option (Int × Bool)} (hrec49 : Spec49 rec49) (pe : Nat → Fr49 → ASt → Prop) (pr : Fr49 → ASt → Prop) : Ref Cn P49_2 (Cat [true, false, true, true, true, true, true, true, false, false] (bodyOf Try.f49)) (m49_5 rec49) (post P49_1 pe pr) := by
  rintro s ⟨t, h⟩ hp x s' hm
  have hp : P49_2' s t h := hp
  obtain ⟨hl, _⟩ := hp
  unfold m49_5 at hm
  cases hm
  refine ⟨⟨_, _⟩, by
      simp only [bodyOf, Try.f49, Cat, Bool.false_eq_true, e_seq, e_region, e_cond, e_block, ex_skip, ex_exit, ex_ret, o_cons, xops_nil, k_want_none, k_want_false, k_val, k_pan, k_call, k_ret, k_seq, k_seq_exit, k_seq_ret, k_true, k_false, k_block, k_block_exit, k_block_ret, k_loop, k_loop_exit, k_loop_ret, awanted, aoper, evalO, put, Option.getD_some, List.getElem?_set, acallOp, abuiltin, List.map_cons, List.map_nil, Nat.reduceEqDiff, Nat.reduceLT, List.length_set, Option.map_some, Option.bind_some, Option.bind_eq_bind, add_i, sub_i, mul_i, eql_i, neq_i, lss_i, leq_i, gtr_i, geq_i, ofV, ofCell, ↓reduceIte, List.cons_append, List.nil_append, List.append_nil, List.getElem?_toArray, List.getElem?_cons_succ, List.getElem?_cons_zero, e_draw, g_nil, g_cons, g_want, g_skip, g_val, g_call, g_ret, Option.map_none, hl, CP, bq1, bq2, bq3, bq4, ex_tup]
      exact rfl, ?_⟩
  show P49_1 _ _
  exact ⟨by simp [hl], by simp [hl], by simp [hl]⟩
theorem R49_6 {rec49 : TestT → Option (Int × Bool)} (hrec49 : Spec49 rec49) (pe : Nat → Fr49 → ASt → Prop) (pr : Fr49 → ASt → Prop) : Ref Cn P49_0 (Cat [true, false, true, true, true, true, true, false] (bodyOf Try.f49)) (m49_6 rec49) (post P49_5 pe pr) := by
  rintro s ⟨t, h⟩ hp x s' hm
  have hp : P49_0' s t h := hp
  obtain ⟨w0_0, hl, a0, r0_0⟩ := hp
  unfold m49_6 at hm
  obtain ⟨n36, hn36, hm⟩ := Option.bind_eq_some_iff.1 hm
  obtain ⟨bu37_0, bu37_1, bu37_2, bu37_3, qu37, gu37_0, gu37_1, gu37_2, gu37_3⟩ := rTestT_get r0_0 hn36
  subst qu37
  cases hm
  refine ⟨⟨_, _⟩, by
      simp only [bodyOf, Try.f49, Cat, Bool.false_eq_true, e_seq, e_region, e_cond, e_block, ex_skip, ex_exit, ex_ret, o_cons, xops_nil, k_want_none, k_want_false, k_val, k_pan, k_call, k_ret, k_seq, k_seq_exit, k_seq_ret, k_true, k_false, k_block, k_block_exit, k_block_ret, k_loop, k_loop_exit, k_loop_ret, awanted, aoper, evalO, put, Option.getD_some, List.getElem?_set, acallOp, abuiltin, List.map_cons, List.map_nil, Nat.reduceEqDiff, Nat.reduceLT, List.length_set, Option.map_some, Option.bind_some, Option.bind_eq_bind, add_i, sub_i, mul_i, eql_i, neq_i, lss_i, leq_i, gtr_i, geq_i, ofV, ofCell, ↓reduceIte, List.cons_append, List.nil_append, List.append_nil, List.getElem?_toArray, List.getElem?_cons_succ, List.getElem?_cons_zero, e_draw, g_nil, g_cons, g_want, g_skip, g_val, g_call, g_ret, Option.map_none, hl, a0, CP, bq1, bq2, bq3, bq4, ex_tup, Ty.fa73_3, dropCells, List.drop_succ_cons, List.drop_zero, Ty.ld4, ld_ip, ofc1, List.drop_succ_cons, List.drop_zero]
      exact rfl, ?_⟩
  show P49_5 _ _
  exact ⟨(.iptr [.int .i64 n36.Kind, bu37_0, bu37_1, .bool n36.Meas, .int .i64 n36.Index, .int .i64 n36.Op, bu37_2, bu37_3] : AVal), by simp [hl], by simp [a0], r0_0, by simp [hl]⟩
theorem R49_7 {rec49 : TestT → Option (Int × Bool)} (hrec49 : Spec49 rec49) (pe : Nat → Fr49 → ASt → Prop) (pr : Fr49 → ASt → Prop) : Ref Cn P49_0 (Cat [true, false, true, true, true, false] (bodyOf Try.f49)) (m49_7 rec49) (post P49_6 pe pr) := by
  rintro s ⟨t, h⟩ hp x s' hm
  have hp : P49_0' s t h := hp
  obtain ⟨w0_0, hl, a0, r0_0⟩ := hp
  unfold m49_7 at hm
  obtain ⟨n40, hn40, hm⟩ := Option.bind_eq_some_iff.1 hm
  obtain ⟨bu41_0, bu41_1, bu41_2, bu41_3, qu41, gu41_0, gu41_1, gu41_2, gu41_3⟩ := rTestT_get r0_0 hn40
  subst qu41
  cases hb42 : (n40.Kind != 4) with
  | true =>
    all_goals (
      try simp only [hb42, cond_true, cond_false, Option.bind_some, Option.bind_assoc, Bool.not_true, Bool.not_false, Bool.true_and, Bool.false_and, Bool.and_true, Bool.and_false, Bool.true_or, Bool.false_or] at hm
      cases hm
      refine ⟨⟨_, _⟩, by
          simp only [bodyOf, Try.f49, Cat, Bool.false_eq_true, e_seq, e_region, e_cond, e_block, ex_skip, ex_exit, ex_ret, o_cons, xops_nil, k_want_none, k_want_false, k_val, k_pan, k_call, k_ret, k_seq, k_seq_exit, k_seq_ret, k_true, k_false, k_block, k_block_exit, k_block_ret, k_loop, k_loop_exit, k_loop_ret, awanted, aoper, evalO, put, Option.getD_some, List.getElem?_set, acallOp, abuiltin, List.map_cons, List.map_nil, Nat.reduceEqDiff, Nat.reduceLT, List.length_set, Option.map_some, Option.bind_some, Option.bind_eq_bind, add_i, sub_i, mul_i, eql_i, neq_i, lss_i, leq_i, gtr_i, geq_i, ofV, ofCell, ↓reduceIte, List.cons_append, List.nil_append, List.append_nil, List.getElem?_toArray, List.getElem?_cons_succ, List.getElem?_cons_zero, e_draw, g_nil, g_cons, g_want, g_skip, g_val, g_call, g_ret, Option.map_none, hl, a0, CP, bq1, bq2, bq3, bq4, ex_tup, Ty.fa73_0, dropCells, List.drop_succ_cons, List.drop_zero, Ty.ld3, ld_ip, ofc1, List.drop_succ_cons, List.drop_zero, hb42]
          exact rfl, ?_⟩
      show P49_6 _ _
      exact ⟨(.iptr [.int .i64 n40.Kind, bu41_0, bu41_1, .bool n40.Meas, .int .i64 n40.Index, .int .i64 n40.Op, bu41_2, bu41_3] : AVal), by simp [hl], by simp [a0], r0_0, by simp [hl, hb42]⟩)
  | false =>
    all_goals (
      try simp only [hb42, cond_true, cond_false, Option.bind_some, Option.bind_assoc, Bool.not_true, Bool.not_false, Bool.true_and, Bool.false_and, Bool.and_true, Bool.and_false, Bool.true_or, Bool.false_or] at hm
      cases hm
      refine ⟨⟨_, _⟩, by
          simp only [bodyOf, Try.f49, Cat, Bool.false_eq_true, e_seq, e_region, e_cond, e_block, ex_skip, ex_exit, ex_ret, o_cons, xops_nil, k_want_none, k_want_false, k_val, k_pan, k_call, k_ret, k_seq, k_seq_exit, k_seq_ret, k_true, k_false, k_block, k_block_exit, k_block_ret, k_loop, k_loop_exit, k_loop_ret, awanted, aoper, evalO, put, Option.getD_some, List.getElem?_set, acallOp, abuiltin, List.map_cons, List.map_nil, Nat.reduceEqDiff, Nat.reduceLT, List.length_set, Option.map_some, Option.bind_some, Option.bind_eq_bind, add_i, sub_i, mul_i, eql_i, neq_i, lss_i, leq_i, gtr_i, geq_i, ofV, ofCell, ↓reduceIte, List.cons_append, List.nil_append, List.append_nil, List.getElem?_toArray, List.getElem?_cons_succ, List.getElem?_cons_zero, e_draw, g_nil, g_cons, g_want, g_skip, g_val, g_call, g_ret, Option.map_none, hl, a0, CP, bq1, bq2, bq3, bq4, ex_tup, Ty.fa73_0, dropCells, List.drop_succ_cons, List.drop_zero, Ty.ld3, ld_ip, ofc1, List.drop_succ_cons, List.drop_zero, hb42]
          exact rfl, ?_⟩
      show P49_6 _ _
      exact ⟨(.iptr [.int .i64 n40.Kind, bu41_0, bu41_1, .bool n40.Meas, .int .i64 n40.Index, .int .i64 n40.Op, bu41_2, bu41_3] : AVal), by simp [hl], by simp [a0], r0_0, by simp [hl, hb42]⟩)
theorem R49_8 {rec49 : TestT → Option (Int × Bool)} (hrec49 : Spec49 rec49) (pe : Nat → Fr49 → ASt → Prop) (pr : Fr49 → ASt → Prop) : Ref Cn P49_0 (Cat [true, false, true, false] (bodyOf Try.f49)) (m49_8 rec49) (post P49_7 pe pr) := by
  rintro s ⟨t, h⟩ hp x s' hm
  have hp : P49_0' s t h := hp
  obtain ⟨w0_0, hl, a0, r0_0⟩ := hp
  unfold m49_8 at hm
  cases hb43 : s.t0.isNil with
  | true =>
    all_goals (
      try simp only [hb43, cond_true, cond_false, Option.bind_some, Option.bind_assoc, Bool.not_true, Bool.not_false, Bool.true_and, Bool.false_and, Bool.and_true, Bool.and_false, Bool.true_or, Bool.false_or] at hm
      obtain ⟨_, qz44⟩ | ⟨qz44, _⟩ := rTestT_nil r0_0
      rotate_left
      · rw [hb43] at qz44; cases qz44
      have z44 : ∀ (xo : Operand) (h : AHeap), abin Cn .eql 34 xo (.const (.pointer none)) h (w0_0) .nilPtr = some (.bool true) := fun xo h => by rw [qz44]; exact Ty.eqn34 xo h
      cases hm
      refine ⟨⟨_, _⟩, by
          simp only [bodyOf, Try.f49, Cat, Bool.false_eq_true, e_seq, e_region, e_cond, e_block, ex_skip, ex_exit, ex_ret, o_cons, xops_nil, k_want_none, k_want_false, k_val, k_pan, k_call, k_ret, k_seq, k_seq_exit, k_seq_ret, k_true, k_false, k_block, k_block_exit, k_block_ret, k_loop, k_loop_exit, k_loop_ret, awanted, aoper, evalO, put, Option.getD_some, List.getElem?_set, acallOp, abuiltin, List.map_cons, List.map_nil, Nat.reduceEqDiff, Nat.reduceLT, List.length_set, Option.map_some, Option.bind_some, Option.bind_eq_bind, add_i, sub_i, mul_i, eql_i, neq_i, lss_i, leq_i, gtr_i, geq_i, ofV, ofCell, ↓reduceIte, List.cons_append, List.nil_append, List.append_nil, List.getElem?_toArray, List.getElem?_cons_succ, List.getElem?_cons_zero, e_draw, g_nil, g_cons, g_want, g_skip, g_val, g_call, g_ret, Option.map_none, hl, a0, CP, bq1, bq2, bq3, bq4, ex_tup, z44, hb43]
          exact rfl, ?_⟩
      show P49_7 _ _
      exact ⟨w0_0, by simp [hl], by simp [a0], r0_0, by simp [hl, hb43]⟩)
  | false =>
    all_goals (
      try simp only [hb43, cond_true, cond_false, Option.bind_some, Option.bind_assoc, Bool.not_true, Bool.not_false, Bool.true_and, Bool.false_and, Bool.and_true, Bool.and_false, Bool.true_or, Bool.false_or] at hm
      obtain ⟨qz45, _⟩ | ⟨_, csz45, qz45⟩ := rTestT_nil r0_0
      · rw [hb43] at qz45; cases qz45
      have z45 : ∀ (xo yo : Operand) (h : AHeap), abin Cn .eql 34 xo yo h (w0_0) .nilPtr = some (.bool false) := fun xo yo h => by rw [qz45]; exact Ty.eqp34 xo yo h _
      clear qz45
      cases hm
      refine ⟨⟨_, _⟩, by
          simp only [bodyOf, Try.f49, Cat, Bool.false_eq_true, e_seq, e_region, e_cond, e_block, ex_skip, ex_exit, ex_ret, o_cons, xops_nil, k_want_none, k_want_false, k_val, k_pan, k_call, k_ret, k_seq, k_seq_exit, k_seq_ret, k_true, k_false, k_block, k_block_exit, k_block_ret, k_loop, k_loop_exit, k_loop_ret, awanted, aoper, evalO, put, Option.getD_some, List.getElem?_set, acallOp, abuiltin, List.map_cons, List.map_nil, Nat.reduceEqDiff, Nat.reduceLT, List.length_set, Option.map_some, Option.bind_some, Option.bind_eq_bind, add_i, sub_i, mul_i, eql_i, neq_i, lss_i, leq_i, gtr_i, geq_i, ofV, ofCell, ↓reduceIte, List.cons_append, List.nil_append, List.append_nil, List.getElem?_toArray, List.getElem?_cons_succ, List.getElem?_cons_zero, e_draw, g_nil, g_cons, g_want, g_skip, g_val, g_call, g_ret, Option.map_none, hl, a0, CP, bq1, bq2, bq3, bq4, ex_tup, z45, hb43]
          exact rfl, ?_⟩
      show P49_7 _ _
      exact ⟨w0_0, by simp [hl], by simp [a0], r0_0, by simp [hl, hb43]⟩)
theorem R49_9 {rec49 : TestT → Option (Int × Bool)} (hrec49 : Spec49 rec49) (pe : Nat → Fr49 → ASt → Prop) (pr : Fr49 → ASt → Prop) : Ref Cn P49_0 (Cat [false] (bodyOf Try.f49)) (m49_9 rec49) (post P49_0 pe pr) := by
  rintro s ⟨t, h⟩ hp x s' hm
  have hp : P49_0' s t h := hp
  obtain ⟨w0_0, hl, a0, r0_0⟩ := hp
  unfold m49_9 at hm
  cases hm
  refine ⟨⟨_, _⟩, by
      simp only [bodyOf, Try.f49, Cat, Bool.false_eq_true, e_seq, e_region, e_cond, e_block, ex_skip, ex_exit, ex_ret, o_cons, xops_nil, k_want_none, k_want_false, k_val, k_pan, k_call, k_ret, k_seq, k_seq_exit, k_seq_ret, k_true, k_false, k_block, k_block_exit, k_block_ret, k_loop, k_loop_exit, k_loop_ret, awanted, aoper, evalO, put, Option.getD_some, List.getElem?_set, acallOp, abuiltin, List.map_cons, List.map_nil, Nat.reduceEqDiff, Nat.reduceLT, List.length_set, Option.map_some, Option.bind_some, Option.bind_eq_bind, add_i, sub_i, mul_i, eql_i, neq_i, lss_i, leq_i, gtr_i, geq_i, ofV, ofCell, ↓reduceIte, List.cons_append, List.nil_append, List.append_nil, List.getElem?_toArray, List.getElem?_cons_succ, List.getElem?_cons_zero, e_draw, g_nil, g_cons, g_want, g_skip, g_val, g_call, g_ret, Option.map_none, hl, a0, CP, bq1, bq2, bq3, bq4, ex_tup]
      exact rfl, ?_⟩
  show P49_0 _ _
  exact ⟨w0_0, by simp [hl], by simp [a0], r0_0⟩
theorem B49 {rec49 : TestT → Option (Int × Bool)} (hrec49 : Spec49 rec49) : Ref Cn P49_0 (bodyOf Try.f49) (M49 rec49) (post P49_1 (fun _ _ _ => False) P49_1) := by
  rw [show bodyOf Try.f49 = .seq (Cat [false] (bodyOf Try.f49)) (.seq (.block 0 (.seq (Cat [true, false, true, false] (bodyOf Try.f49)) (.cond (.tmp 8) (.seq (Cat [true, false, true, true, false, false] (bodyOf Try.f49)) (.ret)) (.seq (Cat [true, false, true, true, true, false] (bodyOf Try.f49)) (.cond (.tmp 11) (.seq (Cat [true, false, true, true, true, true, false, false] (bodyOf Try.f49)) (.seq (Cat [true, false, true, true, true, true, false, true, false] (bodyOf Try.f49)) (.seq (Cat [true, false, true, true, true, true, false, true, true, false] (bodyOf Try.f49)) (.ret)))) (.seq (Cat [true, false, true, true, true, true, true, false] (bodyOf Try.f49)) (.cond (.tmp 47) (.seq (Cat [true, false, true, true, true, true, true, true, false, false] (bodyOf Try.f49)) (.ret)) (.skip)))))))) (.seq (Cat [true, true, false] (bodyOf Try.f49)) (.ret))) from rfl]
  unfold M49
  exact ref_seq (M := P49_0) (R49_9 hrec49 _ _) (ref_seq (M := P49_0) (ref_block (ref_seq (M := P49_7) (R49_8 hrec49 _ _) (ref_cond (P := P49_7) (c := fun s => s.t8) (fun s st hp => by obtain ⟨w0_0, hl, a0, r0_0, a8⟩ := (hp : P49_7' s st.tmps st.h); simp only [evalO, a8, Option.getD_some]) (ref_weak (P' := P49_2) (fun s st hp => by obtain ⟨w0_0, hl, a0, r0_0, a8⟩ := (hp : P49_7' s st.tmps st.h); exact (⟨hl, trivial⟩ : P49_2' s st.tmps st.h)) (ref_seq (M := P49_1) (R49_1 hrec49 _ _) (ref_ret (fun s st hp => hp)))) (ref_weak (P' := P49_0) (fun s st hp => by obtain ⟨w0_0, hl, a0, r0_0, a8⟩ := (hp : P49_7' s st.tmps st.h); exact (⟨w0_0, hl, a0, r0_0⟩ : P49_0' s st.tmps st.h)) (ref_seq (M := P49_6) (R49_7 hrec49 _ _) (ref_cond (P := P49_6) (c := fun s => s.t11) (fun s st hp => by obtain ⟨w0_0, hl, a0, r0_0, a11⟩ := (hp : P49_6' s st.tmps st.h); simp only [evalO, a11, Option.getD_some]) (ref_weak (P' := P49_0) (fun s st hp => by obtain ⟨w0_0, hl, a0, r0_0, a11⟩ := (hp : P49_6' s st.tmps st.h); exact (⟨w0_0, hl, a0, r0_0⟩ : P49_0' s st.tmps st.h)) (ref_seq (M := P49_4) (R49_4 hrec49 _ _) (ref_seq (M := P49_3) (R49_3 hrec49 _ _) (ref_seq (M := P49_1) (R49_2 hrec49 _ _) (ref_ret (fun s st hp => hp)))))) (ref_weak (P' := P49_0) (fun s st hp => by obtain ⟨w0_0, hl, a0, r0_0, a11⟩ := (hp : P49_6' s st.tmps st.h); exact (⟨w0_0, hl, a0, r0_0⟩ : P49_0' s st.tmps st.h)) (ref_seq (M := P49_5) (R49_6 hrec49 _ _) (ref_cond (P := P49_5) (c := fun s => s.t47) (fun s st hp => by obtain ⟨w0_0, hl, a0, r0_0, a47⟩ := (hp : P49_5' s st.tmps st.h); simp only [evalO, a47, Option.getD_some]) (ref_weak (P' := P49_2) (fun s st hp => by obtain ⟨w0_0, hl, a0, r0_0, a47⟩ := (hp : P49_5' s st.tmps st.h); exact (⟨hl, trivial⟩ : P49_2' s st.tmps st.h)) (ref_seq (M := P49_1) (R49_5 hrec49 _ _) (ref_ret (fun s st hp => hp)))) (ref_weak (P' := P49_0) (fun s st hp => by obtain ⟨w0_0, hl, a0, r0_0, a47⟩ := (hp : P49_5' s st.tmps st.h); exact (⟨w0_0, hl, a0, r0_0⟩ : P49_0' s st.tmps st.h)) (ref_skip (fun s st hp => hp)))))))))))) (ref_seq (M := P49_1) (R49_0 hrec49 _ _) (ref_ret (fun s st hp => hp))))
noncomputable def G49 (rec49 : TestT → Option (Int × Bool)) (x0 : TestT) : Option (Int × Bool) := match M49 rec49 { (default : Fr49) with t0 := x0 } with
  | some (.nrm, s) => some (s.t2, s.t3)
  | some (.ret, s) => some (s.t2, s.t3)
  | _ => none
theorem G49_spec {rec49 : TestT → Option (Int × Bool)} (hrec49 : Spec49 rec49) : Spec49 (G49 rec49) := by
  intro x0 vx0_0 hvx0_0 r hr
  unfold G49 at hr
  cases hm : M49 rec49 { (default : Fr49) with t0 := x0 } with
  | none => rw [hm] at hr; cases hr
  | some q =>
    obtain ⟨x, s⟩ := q
    rw [hm] at hr
    have hx : x = .nrm ∨ x = .ret := by cases x <;> first | exact .inl rfl | exact .inr rfl | cases hr
    have hr : (s.t2, s.t3) = r := by cases x <;> first | exact Option.some.inj hr | cases hr
    subst hr
    have h0 : P49_0' ({ (default : Fr49) with t0 := x0 }) (slots Try.f49 (stripL [vx0_0])) bare := ⟨(strip vx0_0 : AVal), rfl, rfl, rTestT_p.str _ _ hvx0_0⟩
    obtain ⟨v, hR, _, hrun⟩ := run_of_ref (C := Cn) (f := 49) (fn := Try.f49) Try.func49 rfl rfl rfl rfl (args := [vx0_0]) (by simp only [refsL, refs, List.append_nil, refs_one (rTestT_p.ref _ _ hvx0_0)]) (B49 hrec49) (s0 := { (default : Fr49) with t0 := x0 }) h0 hm hx (R := fun v => v = .tup [.int .i64 s.t2, .bool s.t3]) (by
      have key : ∀ st : ASt, P49_1 s st → ∃ vs v, aresults Cn Try.f49.results.toList st = some vs ∧ packRes vs = v ∧ refs v = [] ∧ (fun v => v = .tup [.int .i64 s.t2, .bool s.t3]) (strip v) := by
        intro st hp
        obtain ⟨hl, a2, a3⟩ := (hp : P49_1' s st.tmps st.h)
        refine ⟨[.int .i64 s.t2, .bool s.t3], _, by simp only [show Try.f49.results.toList = [ResultVar.tmp 2, ResultVar.tmp 3] from rfl, aresults, ares1, a2, a3, Option.getD_some], rfl, by simp only [packRes, refsL, refs, List.append_nil], rfl⟩
      intro st hq
      rcases hx with rfl | rfl
      · exact key st hq
      · exact key st hq)
    subst hR
    exact hrun
noncomputable def F49 : Nat → TestT → Option (Int × Bool)
  | 0 => fun _ => none
  | n + 1 => G49 (F49 n)
theorem F49_spec : ∀ n, Spec49 (F49 n)
  | 0 => fun x0 v0_ w0_ r hr => by cases hr
  | n + 1 => G49_spec (F49_spec n)
theorem Spec49_fuel {f : TestT → Option (Int × Bool)} (h : ∀ x0 r, f x0 = some r → ∃ n, F49 n x0 = some r) : Spec49 f := fun x0 v0_ w0_ r hr => by
  obtain ⟨n, hn⟩ := h x0 r hr
  exact F49_spec n x0 v0_ w0_ r hn
/-! ### math/bits.OnesCount64 -/
structure Fr57 where
  t0 : Int
  t2 : Int
instance : Inhabited Fr57 := ⟨⟨0, 0⟩⟩
def P57_0' (s : Fr57) (t : List AVal) (h : AHeap) : Prop := t.length = 35 ∧ t[0]? = some (.int .u64 s.t0)
def P57_0 (s : Fr57) (st : ASt) : Prop := P57_0' s st.tmps st.h
def P57_1' (s : Fr57) (t : List AVal) (h : AHeap) : Prop := t.length = 35 ∧ t[2]? = some (.int .i64 s.t2)
def P57_1 (s : Fr57) (st : ASt) : Prop := P57_1' s st.tmps st.h
noncomputable def m57_0 : Mo Fr57 := fun s => some (.nrm, { s with t2 := bits .and .i64 (IntKind.wrap .i64 s.t0) 127 })
noncomputable def m57_1 : Mo Fr57 := fun s => (shrT .u64 s.t0 32).bind fun z1 => some (.nrm, { s with t0 := IntKind.wrap .u64 (s.t0 + z1) })
noncomputable def m57_2 : Mo Fr57 := fun s => (shrT .u64 s.t0 16).bind fun z5 => some (.nrm, { s with t0 := IntKind.wrap .u64 (s.t0 + z5) })
noncomputable def m57_3 : Mo Fr57 := fun s => (shrT .u64 s.t0 8).bind fun z9 => some (.nrm, { s with t0 := IntKind.wrap .u64 (s.t0 + z9) })
noncomputable def m57_4 : Mo Fr57 := fun s => (shrT .u64 s.t0 4).bind fun z13 => some (.nrm, { s with t0 := bits .and .u64 (IntKind.wrap .u64 (z13 + s.t0)) 1085102592571150095 })
noncomputable def m57_5 : Mo Fr57 := fun s => (shrT .u64 s.t0 2).bind fun z17 => some (.nrm, { s with t0 := IntKind.wrap .u64 ((bits .and .u64 z17 3689348814741910323) + (bits .and .u64 s.t0 3689348814741910323)) })
noncomputable def m57_6 : Mo Fr57 := fun s => (shrT .u64 s.t0 1).bind fun z21 => some (.nrm, { s with t0 := IntKind.wrap .u64 ((bits .and .u64 z21 6148914691236517205) + (bits .and .u64 s.t0 6148914691236517205)) })
noncomputable def m57_7 : Mo Fr57 := fun s => some (.nrm, s)
noncomputable def M57 : Mo Fr57 := seqM (m57_7) (seqM (m57_6) (seqM (m57_5) (seqM (m57_4) (seqM (m57_3) (seqM (m57_2) (seqM (m57_1) (seqM (m57_0) (retM))))))))
def Spec57 (f : Int → Option Int) : Prop := ∀ (x0 : Int) (r : Int), f x0 = some r → ∀ h, run Cn 57 [.int .u64 x0] h = some (.ret (.int .i64 r), h)
theorem Spec57_of {f g : Int → Option Int} (hg : Spec57 g) (h : ∀ x0 r, f x0 = some r → g x0 = some r) : Spec57 f := fun x0 r hr => hg x0 r (h x0 r hr)
theorem R57_0 (pe : Nat → Fr57 → ASt → Prop) (pr : Fr57 → ASt → Prop) : Ref Cn P57_0 (Cat [true, true, true, true, true, true, true, false] (bodyOf Try.f57)) m57_0 (post P57_1 pe pr) := by
  rintro s ⟨t, h⟩ hp x s' hm
  have hp : P57_0' s t h := hp
  obtain ⟨hl, a0⟩ := hp
  unfold m57_0 at hm
  cases hm
  refine ⟨⟨_, _⟩, by
      simp only [bodyOf, Try.f57, Cat, Bool.false_eq_true, e_seq, e_region, e_cond, e_block, ex_skip, ex_exit, ex_ret, o_cons, xops_nil, k_want_none, k_want_false, k_val, k_pan, k_call, k_ret, k_seq, k_seq_exit, k_seq_ret, k_true, k_false, k_block, k_block_exit, k_block_ret, k_loop, k_loop_exit, k_loop_ret, awanted, aoper, evalO, put, Option.getD_some, List.getElem?_set, acallOp, abuiltin, List.map_cons, List.map_nil, Nat.reduceEqDiff, Nat.reduceLT, List.length_set, Option.map_some, Option.bind_some, Option.bind_eq_bind, add_i, sub_i, mul_i, eql_i, neq_i, lss_i, leq_i, gtr_i, geq_i, ofV, ofCell, ↓reduceIte, List.cons_append, List.nil_append, List.append_nil, List.getElem?_toArray, List.getElem?_cons_succ, List.getElem?_cons_zero, e_draw, g_nil, g_cons, g_want, g_skip, g_val, g_call, g_ret, Option.map_none, hl, a0, CP, bq1, bq2, bq3, bq4, ex_tup, Ty.cv62_3, Ty.and3]
      exact rfl, ?_⟩
  show P57_1 _ _
  exact ⟨by simp [hl], by simp [hl]⟩
theorem R57_1 (pe : Nat → Fr57 → ASt → Prop) (pr : Fr57 → ASt → Prop) : Ref Cn P57_0 (Cat [true, true, true, true, true, true, false] (bodyOf Try.f57)) m57_1 (post P57_0 pe pr) := by
  rintro s ⟨t, h⟩ hp x s' hm
  have hp : P57_0' s t h := hp
  obtain ⟨hl, a0⟩ := hp
  unfold m57_1 at hm
  obtain ⟨z3, hz3, hm⟩ := Option.bind_eq_some_iff.1 hm
  have iu4 := shr_v (C := Cn) hz3
  cases hm
  refine ⟨⟨_, _⟩, by
      simp only [bodyOf, Try.f57, Cat, Bool.false_eq_true, e_seq, e_region, e_cond, e_block, ex_skip, ex_exit, ex_ret, o_cons, xops_nil, k_want_none, k_want_false, k_val, k_pan, k_call, k_ret, k_seq, k_seq_exit, k_seq_ret, k_true, k_false, k_block, k_block_exit, k_block_ret, k_loop, k_loop_exit, k_loop_ret, awanted, aoper, evalO, put, Option.getD_some, List.getElem?_set, acallOp, abuiltin, List.map_cons, List.map_nil, Nat.reduceEqDiff, Nat.reduceLT, List.length_set, Option.map_some, Option.bind_some, Option.bind_eq_bind, add_i, sub_i, mul_i, eql_i, neq_i, lss_i, leq_i, gtr_i, geq_i, ofV, ofCell, ↓reduceIte, List.cons_append, List.nil_append, List.append_nil, List.getElem?_toArray, List.getElem?_cons_succ, List.getElem?_cons_zero, e_draw, g_nil, g_cons, g_want, g_skip, g_val, g_call, g_ret, Option.map_none, hl, a0, CP, bq1, bq2, bq3, bq4, ex_tup, iu4]
      exact rfl, ?_⟩
  show P57_0 _ _
  exact ⟨by simp [hl], by simp [hl]⟩
theorem R57_2 (pe : Nat → Fr57 → ASt → Prop) (pr : Fr57 → ASt → Prop) : Ref Cn P57_0 (Cat [true, true, true, true, true, false] (bodyOf Try.f57)) m57_2 (post P57_0 pe pr) := by
  rintro s ⟨t, h⟩ hp x s' hm
  have hp : P57_0' s t h := hp
  obtain ⟨hl, a0⟩ := hp
  unfold m57_2 at hm
  obtain ⟨z7, hz7, hm⟩ := Option.bind_eq_some_iff.1 hm
  have iu8 := shr_v (C := Cn) hz7
  cases hm
  refine ⟨⟨_, _⟩, by
      simp only [bodyOf, Try.f57, Cat, Bool.false_eq_true, e_seq, e_region, e_cond, e_block, ex_skip, ex_exit, ex_ret, o_cons, xops_nil, k_want_none, k_want_false, k_val, k_pan, k_call, k_ret, k_seq, k_seq_exit, k_seq_ret, k_true, k_false, k_block, k_block_exit, k_block_ret, k_loop, k_loop_exit, k_loop_ret, awanted, aoper, evalO, put, Option.getD_some, List.getElem?_set, acallOp, abuiltin, List.map_cons, List.map_nil, Nat.reduceEqDiff, Nat.reduceLT, List.length_set, Option.map_some, Option.bind_some, Option.bind_eq_bind, add_i, sub_i, mul_i, eql_i, neq_i, lss_i, leq_i, gtr_i, geq_i, ofV, ofCell, ↓reduceIte, List.cons_append, List.nil_append, List.append_nil, List.getElem?_toArray, List.getElem?_cons_succ, List.getElem?_cons_zero, e_draw, g_nil, g_cons, g_want, g_skip, g_val, g_call, g_ret, Option.map_none, hl, a0, CP, bq1, bq2, bq3, bq4, ex_tup, iu8]
      exact rfl, ?_⟩
  show P57_0 _ _
  exact ⟨by simp [hl], by simp [hl]⟩
theorem R57_3 (pe : Nat → Fr57 → ASt → Prop) (pr : Fr57 → ASt → Prop) : Ref Cn P57_0 (Cat [true, true, true, true, false] (bodyOf Try.f57)) m57_3 (post P57_0 pe pr) := by
  rintro s ⟨t, h⟩ hp x s' hm
  have hp : P57_0' s t h := hp
  obtain ⟨hl, a0⟩ := hp
  unfold m57_3 at hm
  obtain ⟨z11, hz11, hm⟩ := Option.bind_eq_some_iff.1 hm
  have iu12 := shr_v (C := Cn) hz11
  cases hm
  refine ⟨⟨_, _⟩, by
      simp only [bodyOf, Try.f57, Cat, Bool.false_eq_true, e_seq, e_region, e_cond, e_block, ex_skip, ex_exit, ex_ret, o_cons, xops_nil, k_want_none, k_want_false, k_val, k_pan, k_call, k_ret, k_seq, k_seq_exit, k_seq_ret, k_true, k_false, k_block, k_block_exit, k_block_ret, k_loop, k_loop_exit, k_loop_ret, awanted, aoper, evalO, put, Option.getD_some, List.getElem?_set, acallOp, abuiltin, List.map_cons, List.map_nil, Nat.reduceEqDiff, Nat.reduceLT, List.length_set, Option.map_some, Option.bind_some, Option.bind_eq_bind, add_i, sub_i, mul_i, eql_i, neq_i, lss_i, leq_i, gtr_i, geq_i, ofV, ofCell, ↓reduceIte, List.cons_append, List.nil_append, List.append_nil, List.getElem?_toArray, List.getElem?_cons_succ, List.getElem?_cons_zero, e_draw, g_nil, g_cons, g_want, g_skip, g_val, g_call, g_ret, Option.map_none, hl, a0, CP, bq1, bq2, bq3, bq4, ex_tup, iu12]
      exact rfl, ?_⟩
  show P57_0 _ _
  exact ⟨by simp [hl], by simp [hl]⟩
theorem R57_4 (pe : Nat → Fr57 → ASt → Prop) (pr : Fr57 → ASt → Prop) : Ref Cn P57_0 (Cat [true, true, true, false] (bodyOf Try.f57)) m57_4 (post P57_0 pe pr) := by
  rintro s ⟨t, h⟩ hp x s' hm
  have hp : P57_0' s t h := hp
  obtain ⟨hl, a0⟩ := hp
  unfold m57_4 at hm
  obtain ⟨z15, hz15, hm⟩ := Option.bind_eq_some_iff.1 hm
  have iu16 := shr_v (C := Cn) hz15
  cases hm
  refine ⟨⟨_, _⟩, by
      simp only [bodyOf, Try.f57, Cat, Bool.false_eq_true, e_seq, e_region, e_cond, e_block, ex_skip, ex_exit, ex_ret, o_cons, xops_nil, k_want_none, k_want_false, k_val, k_pan, k_call, k_ret, k_seq, k_seq_exit, k_seq_ret, k_true, k_false, k_block, k_block_exit, k_block_ret, k_loop, k_loop_exit, k_loop_ret, awanted, aoper, evalO, put, Option.getD_some, List.getElem?_set, acallOp, abuiltin, List.map_cons, List.map_nil, Nat.reduceEqDiff, Nat.reduceLT, List.length_set, Option.map_some, Option.bind_some, Option.bind_eq_bind, add_i, sub_i, mul_i, eql_i, neq_i, lss_i, leq_i, gtr_i, geq_i, ofV, ofCell, ↓reduceIte, List.cons_append, List.nil_append, List.append_nil, List.getElem?_toArray, List.getElem?_cons_succ, List.getElem?_cons_zero, e_draw, g_nil, g_cons, g_want, g_skip, g_val, g_call, g_ret, Option.map_none, hl, a0, CP, bq1, bq2, bq3, bq4, ex_tup, iu16, Ty.and62]
      exact rfl, ?_⟩
  show P57_0 _ _
  exact ⟨by simp [hl], by simp [hl]⟩
theorem R57_5 (pe : Nat → Fr57 → ASt → Prop) (pr : Fr57 → ASt → Prop) : Ref Cn P57_0 (Cat [true, true, false] (bodyOf Try.f57)) m57_5 (post P57_0 pe pr) := by
  rintro s ⟨t, h⟩ hp x s' hm
  have hp : P57_0' s t h := hp
  obtain ⟨hl, a0⟩ := hp
  unfold m57_5 at hm
  obtain ⟨z19, hz19, hm⟩ := Option.bind_eq_some_iff.1 hm
  have iu20 := shr_v (C := Cn) hz19
  cases hm
  refine ⟨⟨_, _⟩, by
      simp only [bodyOf, Try.f57, Cat, Bool.false_eq_true, e_seq, e_region, e_cond, e_block, ex_skip, ex_exit, ex_ret, o_cons, xops_nil, k_want_none, k_want_false, k_val, k_pan, k_call, k_ret, k_seq, k_seq_exit, k_seq_ret, k_true, k_false, k_block, k_block_exit, k_block_ret, k_loop, k_loop_exit, k_loop_ret, awanted, aoper, evalO, put, Option.getD_some, List.getElem?_set, acallOp, abuiltin, List.map_cons, List.map_nil, Nat.reduceEqDiff, Nat.reduceLT, List.length_set, Option.map_some, Option.bind_some, Option.bind_eq_bind, add_i, sub_i, mul_i, eql_i, neq_i, lss_i, leq_i, gtr_i, geq_i, ofV, ofCell, ↓reduceIte, List.cons_append, List.nil_append, List.append_nil, List.getElem?_toArray, List.getElem?_cons_succ, List.getElem?_cons_zero, e_draw, g_nil, g_cons, g_want, g_skip, g_val, g_call, g_ret, Option.map_none, hl, a0, CP, bq1, bq2, bq3, bq4, ex_tup, iu20, Ty.and62]
      exact rfl, ?_⟩
  show P57_0 _ _
  exact ⟨by simp [hl], by simp [hl]⟩
theorem R57_6 (pe : Nat → Fr57 → ASt → Prop) (pr : Fr57 → ASt → Prop) : Ref Cn P57_0 (Cat [true, false] (bodyOf Try.f57)) m57_6 (post P57_0 pe pr) := by
  rintro s ⟨t, h⟩ hp x s' hm
  have hp : P57_0' s t h := hp
  obtain ⟨hl, a0⟩ := hp
  unfold m57_6 at hm
  obtain ⟨z23, hz23, hm⟩ := Option.bind_eq_some_iff.1 hm
  have iu24 := shr_v (C := Cn) hz23
  cases hm
  refine ⟨⟨_, _⟩, by
      simp only [bodyOf, Try.f57, Cat, Bool.false_eq_true, e_seq, e_region, e_cond, e_block, ex_skip, ex_exit, ex_ret, o_cons, xops_nil, k_want_none, k_want_false, k_val, k_pan, k_call, k_ret, k_seq, k_seq_exit, k_seq_ret, k_true, k_false, k_block, k_block_exit, k_block_ret, k_loop, k_loop_exit, k_loop_ret, awanted, aoper, evalO, put, Option.getD_some, List.getElem?_set, acallOp, abuiltin, List.map_cons, List.map_nil, Nat.reduceEqDiff, Nat.reduceLT, List.length_set, Option.map_some, Option.bind_some, Option.bind_eq_bind, add_i, sub_i, mul_i, eql_i, neq_i, lss_i, leq_i, gtr_i, geq_i, ofV, ofCell, ↓reduceIte, List.cons_append, List.nil_append, List.append_nil, List.getElem?_toArray, List.getElem?_cons_succ, List.getElem?_cons_zero, e_draw, g_nil, g_cons, g_want, g_skip, g_val, g_call, g_ret, Option.map_none, hl, a0, CP, bq1, bq2, bq3, bq4, ex_tup, iu24, Ty.and62]
      exact rfl, ?_⟩
  show P57_0 _ _
  exact ⟨by simp [hl], by simp [hl]⟩
theorem R57_7 (pe : Nat → Fr57 → ASt → Prop) (pr : Fr57 → ASt → Prop) : Ref Cn P57_0 (Cat [false] (bodyOf Try.f57)) m57_7 (post P57_0 pe pr) := by
  rintro s ⟨t, h⟩ hp x s' hm
  have hp : P57_0' s t h := hp
  obtain ⟨hl, a0⟩ := hp
  unfold m57_7 at hm
  cases hm
  refine ⟨⟨_, _⟩, by
      simp only [bodyOf, Try.f57, Cat, Bool.false_eq_true, e_seq, e_region, e_cond, e_block, ex_skip, ex_exit, ex_ret, o_cons, xops_nil, k_want_none, k_want_false, k_val, k_pan, k_call, k_ret, k_seq, k_seq_exit, k_seq_ret, k_true, k_false, k_block, k_block_exit, k_block_ret, k_loop, k_loop_exit, k_loop_ret, awanted, aoper, evalO, put, Option.getD_some, List.getElem?_set, acallOp, abuiltin, List.map_cons, List.map_nil, Nat.reduceEqDiff, Nat.reduceLT, List.length_set, Option.map_some, Option.bind_some, Option.bind_eq_bind, add_i, sub_i, mul_i, eql_i, neq_i, lss_i, leq_i, gtr_i, geq_i, ofV, ofCell, ↓reduceIte, List.cons_append, List.nil_append, List.append_nil, List.getElem?_toArray, List.getElem?_cons_succ, List.getElem?_cons_zero, e_draw, g_nil, g_cons, g_want, g_skip, g_val, g_call, g_ret, Option.map_none, hl, a0, CP, bq1, bq2, bq3, bq4, ex_tup]
      exact rfl, ?_⟩
  show P57_0 _ _
  exact ⟨by simp [hl], by simp [a0]⟩
theorem B57 : Ref Cn P57_0 (bodyOf Try.f57) (M57) (post P57_1 (fun _ _ _ => False) P57_1) := by
  rw [show bodyOf Try.f57 = .seq (Cat [false] (bodyOf Try.f57)) (.seq (Cat [true, false] (bodyOf Try.f57)) (.seq (Cat [true, true, false] (bodyOf Try.f57)) (.seq (Cat [true, true, true, false] (bodyOf Try.f57)) (.seq (Cat [true, true, true, true, false] (bodyOf Try.f57)) (.seq (Cat [true, true, true, true, true, false] (bodyOf Try.f57)) (.seq (Cat [true, true, true, true, true, true, false] (bodyOf Try.f57)) (.seq (Cat [true, true, true, true, true, true, true, false] (bodyOf Try.f57)) (.ret)))))))) from rfl]
  unfold M57
  exact ref_seq (M := P57_0) (R57_7 _ _) (ref_seq (M := P57_0) (R57_6 _ _) (ref_seq (M := P57_0) (R57_5 _ _) (ref_seq (M := P57_0) (R57_4 _ _) (ref_seq (M := P57_0) (R57_3 _ _) (ref_seq (M := P57_0) (R57_2 _ _) (ref_seq (M := P57_0) (R57_1 _ _) (ref_seq (M := P57_1) (R57_0 _ _) (ref_ret (fun s st hp => hp)))))))))
noncomputable def G57 (x0 : Int) : Option Int := match M57 { (default : Fr57) with t0 := x0 } with
  | some (.nrm, s) => some s.t2
  | some (.ret, s) => some s.t2
  | _ => none
theorem G57_spec : Spec57 (G57) := by
  intro x0 r hr
  unfold G57 at hr
  cases hm : M57 { (default : Fr57) with t0 := x0 } with
  | none => rw [hm] at hr; cases hr
  | some q =>
    obtain ⟨x, s⟩ := q
    rw [hm] at hr
    have hx : x = .nrm ∨ x = .ret := by cases x <;> first | exact .inl rfl | exact .inr rfl | cases hr
    have hr : s.t2 = r := by cases x <;> first | exact Option.some.inj hr | cases hr
    subst hr
    have h0 : P57_0' ({ (default : Fr57) with t0 := x0 }) (slots Try.f57 (stripL [.int .u64 x0])) bare := ⟨rfl, rfl⟩
    obtain ⟨v, hR, _, hrun⟩ := run_of_ref (C := Cn) (f := 57) (fn := Try.f57) Try.func57 rfl rfl rfl rfl (args := [.int .u64 x0]) (by simp only [refsL, refs, List.append_nil]) (B57) (s0 := { (default : Fr57) with t0 := x0 }) h0 hm hx (R := fun v => v = .int .i64 s.t2) (by
      have key : ∀ st : ASt, P57_1 s st → ∃ vs v, aresults Cn Try.f57.results.toList st = some vs ∧ packRes vs = v ∧ refs v = [] ∧ (fun v => v = .int .i64 s.t2) (strip v) := by
        intro st hp
        obtain ⟨hl, a2⟩ := (hp : P57_1' s st.tmps st.h)
        refine ⟨[.int .i64 s.t2], _, by simp only [show Try.f57.results.toList = [ResultVar.tmp 2] from rfl, aresults, ares1, a2, Option.getD_some], rfl, by simp only [packRes, refsL, refs, List.append_nil], rfl⟩
      intro st hq
      rcases hx with rfl | rfl
      · exact key st hq
      · exact key st hq)
    subst hR
    exact hrun
/-! ### math/bits.OnesCount -/
structure Fr42 where
  t0 : Int
  t2 : Int
instance : Inhabited Fr42 := ⟨⟨0, 0⟩⟩
def P42_0' (s : Fr42) (t : List AVal) (h : AHeap) : Prop := t.length = 8 ∧ t[0]? = some (.int .u64 s.t0)
def P42_0 (s : Fr42) (st : ASt) : Prop := P42_0' s st.tmps st.h
def P42_1' (s : Fr42) (t : List AVal) (h : AHeap) : Prop := t.length = 8 ∧ t[2]? = some (.int .i64 s.t2)
def P42_1 (s : Fr42) (st : ASt) : Prop := P42_1' s st.tmps st.h
noncomputable def m42_0 : Mo Fr42 := fun s => (G57 s.t0).bind fun z1 => some (.nrm, { s with t2 := z1 })
noncomputable def m42_1 : Mo Fr42 := fun s => some (.nrm, s)
noncomputable def M42 : Mo Fr42 := seqM (m42_1) (seqM (skipM) (seqM (m42_0) (retM)))
def Spec42 (f : Int → Option Int) : Prop := ∀ (x0 : Int) (r : Int), f x0 = some r → ∀ h, run Cn 42 [.int .u64 x0] h = some (.ret (.int .i64 r), h)
theorem Spec42_of {f g : Int → Option Int} (hg : Spec42 g) (h : ∀ x0 r, f x0 = some r → g x0 = some r) : Spec42 f := fun x0 r hr => hg x0 r (h x0 r hr)
theorem R42_0 (pe : Nat → Fr42 → ASt → Prop) (pr : Fr42 → ASt → Prop) : Ref Cn P42_0 (Cat [true, true, false] (bodyOf Try.f42)) m42_0 (post P42_1 pe pr) := by
  rintro s ⟨t, h⟩ hp x s' hm
  have hp : P42_0' s t h := hp
  obtain ⟨hl, a0⟩ := hp
  unfold m42_0 at hm
  obtain ⟨z3, hz3, hm⟩ := Option.bind_eq_some_iff.1 hm
  have iu4 := G57_spec s.t0  _ hz3
  cases hm
  refine ⟨⟨_, _⟩, by
      simp only [bodyOf, Try.f42, Cat, Bool.false_eq_true, e_seq, e_region, e_cond, e_block, ex_skip, ex_exit, ex_ret, o_cons, xops_nil, k_want_none, k_want_false, k_val, k_pan, k_call, k_ret, k_seq, k_seq_exit, k_seq_ret, k_true, k_false, k_block, k_block_exit, k_block_ret, k_loop, k_loop_exit, k_loop_ret, awanted, aoper, evalO, put, Option.getD_some, List.getElem?_set, acallOp, abuiltin, List.map_cons, List.map_nil, Nat.reduceEqDiff, Nat.reduceLT, List.length_set, Option.map_some, Option.bind_some, Option.bind_eq_bind, add_i, sub_i, mul_i, eql_i, neq_i, lss_i, leq_i, gtr_i, geq_i, ofV, ofCell, ↓reduceIte, List.cons_append, List.nil_append, List.append_nil, List.getElem?_toArray, List.getElem?_cons_succ, List.getElem?_cons_zero, e_draw, g_nil, g_cons, g_want, g_skip, g_val, g_call, g_ret, Option.map_none, hl, a0, CP, bq1, bq2, bq3, bq4, ex_tup, iu4]
      exact rfl, ?_⟩
  show P42_1 _ _
  exact ⟨by simp [hl], by simp [hl]⟩
theorem R42_1 (pe : Nat → Fr42 → ASt → Prop) (pr : Fr42 → ASt → Prop) : Ref Cn P42_0 (Cat [false] (bodyOf Try.f42)) m42_1 (post P42_0 pe pr) := by
  rintro s ⟨t, h⟩ hp x s' hm
  have hp : P42_0' s t h := hp
  obtain ⟨hl, a0⟩ := hp
  unfold m42_1 at hm
  cases hm
  refine ⟨⟨_, _⟩, by
      simp only [bodyOf, Try.f42, Cat, Bool.false_eq_true, e_seq, e_region, e_cond, e_block, ex_skip, ex_exit, ex_ret, o_cons, xops_nil, k_want_none, k_want_false, k_val, k_pan, k_call, k_ret, k_seq, k_seq_exit, k_seq_ret, k_true, k_false, k_block, k_block_exit, k_block_ret, k_loop, k_loop_exit, k_loop_ret, awanted, aoper, evalO, put, Option.getD_some, List.getElem?_set, acallOp, abuiltin, List.map_cons, List.map_nil, Nat.reduceEqDiff, Nat.reduceLT, List.length_set, Option.map_some, Option.bind_some, Option.bind_eq_bind, add_i, sub_i, mul_i, eql_i, neq_i, lss_i, leq_i, gtr_i, geq_i, ofV, ofCell, ↓reduceIte, List.cons_append, List.nil_append, List.append_nil, List.getElem?_toArray, List.getElem?_cons_succ, List.getElem?_cons_zero, e_draw, g_nil, g_cons, g_want, g_skip, g_val, g_call, g_ret, Option.map_none, hl, a0, CP, bq1, bq2, bq3, bq4, ex_tup]
      exact rfl, ?_⟩
  show P42_0 _ _
  exact ⟨by simp [hl], by simp [a0]⟩
theorem B42 : Ref Cn P42_0 (bodyOf Try.f42) (M42) (post P42_1 (fun _ _ _ => False) P42_1) := by
  rw [show bodyOf Try.f42 = .seq (Cat [false] (bodyOf Try.f42)) (.seq (.cond (.const (.bool false)) (Cat [true, false, false] (bodyOf Try.f42)) (.skip)) (.seq (Cat [true, true, false] (bodyOf Try.f42)) (.ret))) from rfl]
  unfold M42
  exact ref_seq (M := P42_0) (R42_1 _ _) (ref_seq (M := P42_0) (ref_false (ref_skip (fun s st hp => hp))) (ref_seq (M := P42_1) (R42_0 _ _) (ref_ret (fun s st hp => hp))))
noncomputable def G42 (x0 : Int) : Option Int := match M42 { (default : Fr42) with t0 := x0 } with
  | some (.nrm, s) => some s.t2
  | some (.ret, s) => some s.t2
  | _ => none
theorem G42_spec : Spec42 (G42) := by
  intro x0 r hr
  unfold G42 at hr
  cases hm : M42 { (default : Fr42) with t0 := x0 } with
  | none => rw [hm] at hr; cases hr
  | some q =>
    obtain ⟨x, s⟩ := q
    rw [hm] at hr
    have hx : x = .nrm ∨ x = .ret := by cases x <;> first | exact .inl rfl | exact .inr rfl | cases hr
    have hr : s.t2 = r := by cases x <;> first | exact Option.some.inj hr | cases hr
    subst hr
    have h0 : P42_0' ({ (default : Fr42) with t0 := x0 }) (slots Try.f42 (stripL [.int .u64 x0])) bare := ⟨rfl, rfl⟩
    obtain ⟨v, hR, _, hrun⟩ := run_of_ref (C := Cn) (f := 42) (fn := Try.f42) Try.func42 rfl rfl rfl rfl (args := [.int .u64 x0]) (by simp only [refsL, refs, List.append_nil]) (B42) (s0 := { (default : Fr42) with t0 := x0 }) h0 hm hx (R := fun v => v = .int .i64 s.t2) (by
      have key : ∀ st : ASt, P42_1 s st → ∃ vs v, aresults Cn Try.f42.results.toList st = some vs ∧ packRes vs = v ∧ refs v = [] ∧ (fun v => v = .int .i64 s.t2) (strip v) := by
        intro st hp
        obtain ⟨hl, a2⟩ := (hp : P42_1' s st.tmps st.h)
        refine ⟨[.int .i64 s.t2], _, by simp only [show Try.f42.results.toList = [ResultVar.tmp 2] from rfl, aresults, ares1, a2, Option.getD_some], rfl, by simp only [packRes, refsL, refs, List.append_nil], rfl⟩
      intro st hq
      rcases hx with rfl | rfl
      · exact key st hq
      · exact key st hq)
    subst hR
    exact hrun
/-! ### caisson/sets.List -/
structure Fr35 where
  t0 : Int
  t2 : (List Int)
  t3 : (List Int)
  t4 : Int
  t10 : Bool
  t15 : Int
  t16 : Bool
  t22 : Bool
instance : Inhabited Fr35 := ⟨⟨0, [], [], 0, false, 0, false, false⟩⟩
def P35_0' (s : Fr35) (t : List AVal) (h : AHeap) : Prop := ∃ w3_0, t.length = 29 ∧ t[3]? = some w3_0 ∧ Gr (rI .i64) 1 s.t3 w3_0 h
def P35_0 (s : Fr35) (st : ASt) : Prop := P35_0' s st.tmps st.h
def P35_1' (s : Fr35) (t : List AVal) (h : AHeap) : Prop := ∃ w2_0, t.length = 29 ∧ t[2]? = some w2_0 ∧ Sl (rI .i64) s.t2 w2_0
def P35_1 (s : Fr35) (st : ASt) : Prop := P35_1' s st.tmps st.h
def P35_2' (s : Fr35) (t : List AVal) (h : AHeap) : Prop := ∃ w3_0, t.length = 29 ∧ t[0]? = some (.int .i64 s.t0) ∧ t[3]? = some w3_0 ∧ Gr (rI .i64) 1 s.t3 w3_0 h ∧ t[15]? = some (.int .i64 s.t15)
def P35_2 (s : Fr35) (st : ASt) : Prop := P35_2' s st.tmps st.h
def P35_3' (s : Fr35) (t : List AVal) (h : AHeap) : Prop := ∃ w3_0, t.length = 29 ∧ t[0]? = some (.int .i64 s.t0) ∧ t[3]? = some w3_0 ∧ Gr (rI .i64) 1 s.t3 w3_0 h ∧ t[4]? = some (.int .i64 s.t4) ∧ t[15]? = some (.int .i64 s.t15)
def P35_3 (s : Fr35) (st : ASt) : Prop := P35_3' s st.tmps st.h
def P35_4' (s : Fr35) (t : List AVal) (h : AHeap) : Prop := ∃ w3_0, t.length = 29 ∧ t[0]? = some (.int .i64 s.t0) ∧ t[3]? = some w3_0 ∧ Gr (rI .i64) 1 s.t3 w3_0 h ∧ t[4]? = some (.int .i64 s.t4) ∧ t[15]? = some (.int .i64 s.t15) ∧ t[22]? = some (.bool s.t22)
def P35_4 (s : Fr35) (st : ASt) : Prop := P35_4' s st.tmps st.h
def P35_5' (s : Fr35) (t : List AVal) (h : AHeap) : Prop := ∃ w3_0, t.length = 29 ∧ t[0]? = some (.int .i64 s.t0) ∧ t[3]? = some w3_0 ∧ Gr (rI .i64) 1 s.t3 w3_0 h ∧ t[15]? = some (.int .i64 s.t15) ∧ t[16]? = some (.bool s.t16)
def P35_5 (s : Fr35) (st : ASt) : Prop := P35_5' s st.tmps st.h
def P35_6' (s : Fr35) (t : List AVal) (h : AHeap) : Prop := ∃ w3_0, t.length = 29 ∧ t[0]? = some (.int .i64 s.t0) ∧ t[3]? = some w3_0 ∧ Gr (rI .i64) 1 s.t3 w3_0 h
def P35_6 (s : Fr35) (st : ASt) : Prop := P35_6' s st.tmps st.h
def P35_7' (s : Fr35) (t : List AVal) (h : AHeap) : Prop := t.length = 29 ∧ t[0]? = some (.int .i64 s.t0)
def P35_7 (s : Fr35) (st : ASt) : Prop := P35_7' s st.tmps st.h
def P35_8' (s : Fr35) (t : List AVal) (h : AHeap) : Prop := t.length = 29 ∧ True
def P35_8 (s : Fr35) (st : ASt) : Prop := P35_8' s st.tmps st.h
def P35_9' (s : Fr35) (t : List AVal) (h : AHeap) : Prop := t.length = 29 ∧ t[0]? = some (.int .i64 s.t0) ∧ t[10]? = some (.bool s.t10)
def P35_9 (s : Fr35) (st : ASt) : Prop := P35_9' s st.tmps st.h
noncomputable def m35_0 : Mo Fr35 := fun s => some (.nrm, { s with t2 := s.t3 })
noncomputable def m35_1 : Mo Fr35 := fun s => some (.nrm, { s with t15 := IntKind.wrap .i64 (s.t15 + 1) })
noncomputable def m35_2 : Mo Fr35 := fun s => (appT 8 s.t3 [s.t4]).bind fun z5 => some (.nrm, { s with t3 := z5 })
noncomputable def m35_3 : Mo Fr35 := fun s => (shlT .i64 1 s.t4).bind fun z13 => some (.nrm, { s with t22 := ((bits .and .i64 s.t0 z13) != 0) })
noncomputable def m35_4 : Mo Fr35 := fun s => some (.nrm, { s with t4 := s.t15 })
noncomputable def m35_5 : Mo Fr35 := fun s => some (.nrm, { s with t16 := decide (s.t15 < 6) })
noncomputable def L35_6 : Mo Fr35 := seqM (m35_5) (seqM (condM (fun s => s.t16) (skipM) (exitM 0)) (seqM (blockM 1 (seqM (m35_4) (seqM (m35_3) (condM (fun s => s.t22) (m35_2) (skipM))))) (m35_1)))
noncomputable def m35_7 : Mo Fr35 := fun s => some (.nrm, { s with t15 := 0 })
noncomputable def m35_8 : Mo Fr35 := fun s => (G42 (IntKind.wrap .u64 s.t0)).bind fun z17 => (roomT 8 z17).bind fun z19 => some (.nrm, { s with t3 := [] })
noncomputable def m35_9 : Mo Fr35 := fun s => some (.nrm, { s with t2 := [] })
noncomputable def m35_10 : Mo Fr35 := fun s => some (.nrm, { s with t10 := ((decide (s.t0 < 0)) || (decide (s.t0 > 63))) })
noncomputable def m35_11 : Mo Fr35 := fun s => some (.nrm, s)
noncomputable def M35 : Mo Fr35 := seqM (m35_11) (seqM (seqM (m35_10) (condM (fun s => s.t10) (seqM (m35_9) (retM)) (skipM))) (seqM (m35_8) (seqM (seqM (m35_7) (blockM 0 (loopM (L35_6)))) (seqM (m35_0) (retM)))))
def Spec35 (f : Int → Option (List Int)) : Prop := ∀ (x0 : Int) (r : (List Int)), f x0 = some r → ∃ y0_0, Sl (rI .i64) r y0_0 ∧ ∀ h, run Cn 35 [.int .i64 x0] h = some (.ret (y0_0), h)
theorem Spec35_of {f g : Int → Option (List Int)} (hg : Spec35 g) (h : ∀ x0 r, f x0 = some r → g x0 = some r) : Spec35 f := fun x0 r hr => hg x0 r (h x0 r hr)
theorem R35_0 (pe : Nat → Fr35 → ASt → Prop) (pr : Fr35 → ASt → Prop) : Ref Cn P35_0 (Cat [true, true, true, true, false] (bodyOf Try.f35)) m35_0 (post P35_1 pe pr) := by
  rintro s ⟨t, h⟩ hp x s' hm
  have hp : P35_0' s t h := hp
  obtain ⟨w3_0, hl, a3, r3_0⟩ := hp
  unfold m35_0 at hm
  cases hm
  refine ⟨⟨_, _⟩, by
      simp only [bodyOf, Try.f35, Cat, Bool.false_eq_true, e_seq, e_region, e_cond, e_block, ex_skip, ex_exit, ex_ret, o_cons, xops_nil, k_want_none, k_want_false, k_val, k_pan, k_call, k_ret, k_seq, k_seq_exit, k_seq_ret, k_true, k_false, k_block, k_block_exit, k_block_ret, k_loop, k_loop_exit, k_loop_ret, awanted, aoper, evalO, put, Option.getD_some, List.getElem?_set, acallOp, abuiltin, List.map_cons, List.map_nil, Nat.reduceEqDiff, Nat.reduceLT, List.length_set, Option.map_some, Option.bind_some, Option.bind_eq_bind, add_i, sub_i, mul_i, eql_i, neq_i, lss_i, leq_i, gtr_i, geq_i, ofV, ofCell, ↓reduceIte, List.cons_append, List.nil_append, List.append_nil, List.getElem?_toArray, List.getElem?_cons_succ, List.getElem?_cons_zero, e_draw, g_nil, g_cons, g_want, g_skip, g_val, g_call, g_ret, Option.map_none, hl, a3, CP, bq1, bq2, bq3, bq4, ex_tup]
      exact rfl, ?_⟩
  show P35_1 _ _
  exact ⟨w3_0, by simp [hl], by simp [hl], r3_0.1⟩
theorem R35_1 (pe : Nat → Fr35 → ASt → Prop) (pr : Fr35 → ASt → Prop) : Ref Cn P35_2 (Cat [true, true, true, false, true, true, true, true, true, true] (bodyOf Try.f35)) m35_1 (post P35_2 pe pr) := by
  rintro s ⟨t, h⟩ hp x s' hm
  have hp : P35_2' s t h := hp
  obtain ⟨w3_0, hl, a0, a3, r3_0, a15⟩ := hp
  unfold m35_1 at hm
  cases hm
  refine ⟨⟨_, _⟩, by
      simp only [bodyOf, Try.f35, Cat, Bool.false_eq_true, e_seq, e_region, e_cond, e_block, ex_skip, ex_exit, ex_ret, o_cons, xops_nil, k_want_none, k_want_false, k_val, k_pan, k_call, k_ret, k_seq, k_seq_exit, k_seq_ret, k_true, k_false, k_block, k_block_exit, k_block_ret, k_loop, k_loop_exit, k_loop_ret, awanted, aoper, evalO, put, Option.getD_some, List.getElem?_set, acallOp, abuiltin, List.map_cons, List.map_nil, Nat.reduceEqDiff, Nat.reduceLT, List.length_set, Option.map_some, Option.bind_some, Option.bind_eq_bind, add_i, sub_i, mul_i, eql_i, neq_i, lss_i, leq_i, gtr_i, geq_i, ofV, ofCell, ↓reduceIte, List.cons_append, List.nil_append, List.append_nil, List.getElem?_toArray, List.getElem?_cons_succ, List.getElem?_cons_zero, e_draw, g_nil, g_cons, g_want, g_skip, g_val, g_call, g_ret, Option.map_none, hl, a0, a3, a15, CP, bq1, bq2, bq3, bq4, ex_tup]
      exact rfl, ?_⟩
  show P35_2 _ _
  exact ⟨w3_0, by simp [hl], by simp [a0], by simp [a3], r3_0, by simp [hl]⟩
theorem R35_2 (pe : Nat → Fr35 → ASt → Prop) (pr : Fr35 → ASt → Prop) : Ref Cn P35_3 (Cat [true, true, true, false, true, true, true, true, true, false, true, true, true, false] (bodyOf Try.f35)) m35_2 (post P35_2 pe pr) := by
  rintro s ⟨t, h⟩ hp x s' hm
  have hp : P35_3' s t h := hp
  obtain ⟨w3_0, hl, a0, a3, r3_0, a4, a15⟩ := hp
  unfold m35_2 at hm
  have bd7 : abuildSlice Try.prog 24 1 [(0, .int .i64 s.t4)] = some ([.int .i64 s.t4], 1) := by kernel_rfl
  have bs8 : Els (rI .i64) [s.t4] [[.int .i64 s.t4]] := (Els.cons rfl Els.nil)
  have sl9 : Sl (rI .i64) [s.t4] (.lst [.int .i64 s.t4] 1 .full) := Sl.lst .full bs8
  have gr10 : ∀ h, Gr (rI .i64) 1 [s.t4] (.lst [.int .i64 s.t4] 1 .full) h := fun h => Gr.full bs8 h
  obtain ⟨z11, hz11, hm⟩ := Option.bind_eq_some_iff.1 hm
  obtain ⟨vu12, hu12, pu12, gu12, nu12, ku12, fu12⟩ := Gr.app (rI_p .i64) r3_0 sl9 hz11
  cases hm
  refine ⟨⟨_, _⟩, by
      simp only [bodyOf, Try.f35, Cat, Bool.false_eq_true, e_seq, e_region, e_cond, e_block, ex_skip, ex_exit, ex_ret, o_cons, xops_nil, k_want_none, k_want_false, k_val, k_pan, k_call, k_ret, k_seq, k_seq_exit, k_seq_ret, k_true, k_false, k_block, k_block_exit, k_block_ret, k_loop, k_loop_exit, k_loop_ret, awanted, aoper, evalO, put, Option.getD_some, List.getElem?_set, acallOp, abuiltin, List.map_cons, List.map_nil, Nat.reduceEqDiff, Nat.reduceLT, List.length_set, Option.map_some, Option.bind_some, Option.bind_eq_bind, add_i, sub_i, mul_i, eql_i, neq_i, lss_i, leq_i, gtr_i, geq_i, ofV, ofCell, ↓reduceIte, List.cons_append, List.nil_append, List.append_nil, List.getElem?_toArray, List.getElem?_cons_succ, List.getElem?_cons_zero, e_draw, g_nil, g_cons, g_want, g_skip, g_val, g_call, g_ret, Option.map_none, hl, a0, a3, a4, a15, CP, bq1, bq2, bq3, bq4, ex_tup, bd7, Ty.own_sets_go_32, pu12, Ty.ap24]
      exact rfl, ?_⟩
  show P35_2 _ _
  exact ⟨vu12, by simp [hl], by simp [a0], by simp [hl], gu12, by simp [a15]⟩
theorem R35_3 (pe : Nat → Fr35 → ASt → Prop) (pr : Fr35 → ASt → Prop) : Ref Cn P35_3 (Cat [true, true, true, false, true, true, true, true, true, false, true, true, false] (bodyOf Try.f35)) m35_3 (post P35_4 pe pr) := by
  rintro s ⟨t, h⟩ hp x s' hm
  have hp : P35_3' s t h := hp
  obtain ⟨w3_0, hl, a0, a3, r3_0, a4, a15⟩ := hp
  unfold m35_3 at hm
  obtain ⟨z15, hz15, hm⟩ := Option.bind_eq_some_iff.1 hm
  have iu16 := shl_v (C := Cn) hz15
  cases hm
  refine ⟨⟨_, _⟩, by
      simp only [bodyOf, Try.f35, Cat, Bool.false_eq_true, e_seq, e_region, e_cond, e_block, ex_skip, ex_exit, ex_ret, o_cons, xops_nil, k_want_none, k_want_false, k_val, k_pan, k_call, k_ret, k_seq, k_seq_exit, k_seq_ret, k_true, k_false, k_block, k_block_exit, k_block_ret, k_loop, k_loop_exit, k_loop_ret, awanted, aoper, evalO, put, Option.getD_some, List.getElem?_set, acallOp, abuiltin, List.map_cons, List.map_nil, Nat.reduceEqDiff, Nat.reduceLT, List.length_set, Option.map_some, Option.bind_some, Option.bind_eq_bind, add_i, sub_i, mul_i, eql_i, neq_i, lss_i, leq_i, gtr_i, geq_i, ofV, ofCell, ↓reduceIte, List.cons_append, List.nil_append, List.append_nil, List.getElem?_toArray, List.getElem?_cons_succ, List.getElem?_cons_zero, e_draw, g_nil, g_cons, g_want, g_skip, g_val, g_call, g_ret, Option.map_none, hl, a0, a3, a4, a15, CP, bq1, bq2, bq3, bq4, ex_tup, iu16, Ty.and3]
      exact rfl, ?_⟩
  show P35_4 _ _
  exact ⟨w3_0, by simp [hl], by simp [a0], by simp [a3], r3_0, by simp [a4], by simp [a15], by simp [hl]⟩
theorem R35_4 (pe : Nat → Fr35 → ASt → Prop) (pr : Fr35 → ASt → Prop) : Ref Cn P35_2 (Cat [true, true, true, false, true, true, true, true, true, false, true, false] (bodyOf Try.f35)) m35_4 (post P35_3 pe pr) := by
  rintro s ⟨t, h⟩ hp x s' hm
  have hp : P35_2' s t h := hp
  obtain ⟨w3_0, hl, a0, a3, r3_0, a15⟩ := hp
  unfold m35_4 at hm
  cases hm
  refine ⟨⟨_, _⟩, by
      simp only [bodyOf, Try.f35, Cat, Bool.false_eq_true, e_seq, e_region, e_cond, e_block, ex_skip, ex_exit, ex_ret, o_cons, xops_nil, k_want_none, k_want_false, k_val, k_pan, k_call, k_ret, k_seq, k_seq_exit, k_seq_ret, k_true, k_false, k_block, k_block_exit, k_block_ret, k_loop, k_loop_exit, k_loop_ret, awanted, aoper, evalO, put, Option.getD_some, List.getElem?_set, acallOp, abuiltin, List.map_cons, List.map_nil, Nat.reduceEqDiff, Nat.reduceLT, List.length_set, Option.map_some, Option.bind_some, Option.bind_eq_bind, add_i, sub_i, mul_i, eql_i, neq_i, lss_i, leq_i, gtr_i, geq_i, ofV, ofCell, ↓reduceIte, List.cons_append, List.nil_append, List.append_nil, List.getElem?_toArray, List.getElem?_cons_succ, List.getElem?_cons_zero, e_draw, g_nil, g_cons, g_want, g_skip, g_val, g_call, g_ret, Option.map_none, hl, a0, a3, a15, CP, bq1, bq2, bq3, bq4, ex_tup]
      exact rfl, ?_⟩
  show P35_3 _ _
  exact ⟨w3_0, by simp [hl], by simp [a0], by simp [a3], r3_0, by simp [hl], by simp [a15]⟩
theorem R35_5 (pe : Nat → Fr35 → ASt → Prop) (pr : Fr35 → ASt → Prop) : Ref Cn P35_2 (Cat [true, true, true, false, true, true, true, false] (bodyOf Try.f35)) m35_5 (post P35_5 pe pr) := by
  rintro s ⟨t, h⟩ hp x s' hm
  have hp : P35_2' s t h := hp
  obtain ⟨w3_0, hl, a0, a3, r3_0, a15⟩ := hp
  unfold m35_5 at hm
  cases hm
  refine ⟨⟨_, _⟩, by
      simp only [bodyOf, Try.f35, Cat, Bool.false_eq_true, e_seq, e_region, e_cond, e_block, ex_skip, ex_exit, ex_ret, o_cons, xops_nil, k_want_none, k_want_false, k_val, k_pan, k_call, k_ret, k_seq, k_seq_exit, k_seq_ret, k_true, k_false, k_block, k_block_exit, k_block_ret, k_loop, k_loop_exit, k_loop_ret, awanted, aoper, evalO, put, Option.getD_some, List.getElem?_set, acallOp, abuiltin, List.map_cons, List.map_nil, Nat.reduceEqDiff, Nat.reduceLT, List.length_set, Option.map_some, Option.bind_some, Option.bind_eq_bind, add_i, sub_i, mul_i, eql_i, neq_i, lss_i, leq_i, gtr_i, geq_i, ofV, ofCell, ↓reduceIte, List.cons_append, List.nil_append, List.append_nil, List.getElem?_toArray, List.getElem?_cons_succ, List.getElem?_cons_zero, e_draw, g_nil, g_cons, g_want, g_skip, g_val, g_call, g_ret, Option.map_none, hl, a0, a3, a15, CP, bq1, bq2, bq3, bq4, ex_tup]
      exact rfl, ?_⟩
  show P35_5 _ _
  exact ⟨w3_0, by simp [hl], by simp [a0], by simp [a3], r3_0, by simp [a15], by simp [hl]⟩
theorem R35_7 (pe : Nat → Fr35 → ASt → Prop) (pr : Fr35 → ASt → Prop) : Ref Cn P35_6 (Cat [true, true, true, false, false] (bodyOf Try.f35)) m35_7 (post P35_2 pe pr) := by
  rintro s ⟨t, h⟩ hp x s' hm
  have hp : P35_6' s t h := hp
  obtain ⟨w3_0, hl, a0, a3, r3_0⟩ := hp
  unfold m35_7 at hm
  cases hm
  refine ⟨⟨_, _⟩, by
      simp only [bodyOf, Try.f35, Cat, Bool.false_eq_true, e_seq, e_region, e_cond, e_block, ex_skip, ex_exit, ex_ret, o_cons, xops_nil, k_want_none, k_want_false, k_val, k_pan, k_call, k_ret, k_seq, k_seq_exit, k_seq_ret, k_true, k_false, k_block, k_block_exit, k_block_ret, k_loop, k_loop_exit, k_loop_ret, awanted, aoper, evalO, put, Option.getD_some, List.getElem?_set, acallOp, abuiltin, List.map_cons, List.map_nil, Nat.reduceEqDiff, Nat.reduceLT, List.length_set, Option.map_some, Option.bind_some, Option.bind_eq_bind, add_i, sub_i, mul_i, eql_i, neq_i, lss_i, leq_i, gtr_i, geq_i, ofV, ofCell, ↓reduceIte, List.cons_append, List.nil_append, List.append_nil, List.getElem?_toArray, List.getElem?_cons_succ, List.getElem?_cons_zero, e_draw, g_nil, g_cons, g_want, g_skip, g_val, g_call, g_ret, Option.map_none, hl, a0, a3, CP, bq1, bq2, bq3, bq4, ex_tup]
      exact rfl, ?_⟩
  show P35_2 _ _
  exact ⟨w3_0, by simp [hl], by simp [a0], by simp [a3], r3_0, by simp [hl]⟩
theorem R35_8 (pe : Nat → Fr35 → ASt → Prop) (pr : Fr35 → ASt → Prop) : Ref Cn P35_7 (Cat [true, true, false] (bodyOf Try.f35)) m35_8 (post P35_6 pe pr) := by
  rintro s ⟨t, h⟩ hp x s' hm
  have hp : P35_7' s t h := hp
  obtain ⟨hl, a0⟩ := hp
  unfold m35_8 at hm
  obtain ⟨z21, hz21, hm⟩ := Option.bind_eq_some_iff.1 hm
  have iu22 := G42_spec (IntKind.wrap .u64 s.t0)  _ hz21
  obtain ⟨z23, hz23, hm⟩ := Option.bind_eq_some_iff.1 hm
  have mu24 := mk_room (C := Cn) (t := 24) (e := 3) (h := h) Ty.un24 Ty.in3 Ty.ze3 rfl (by decide) Ty.own_sets_go_29 hz23
  have gu24 : Gr (rI .i64) 1 [] (.lst [] 0 (.tok h.next)) (h.new (.tok 1)) := Gr.room h
  cases hm
  refine ⟨⟨_, _⟩, by
      simp only [bodyOf, Try.f35, Cat, Bool.false_eq_true, e_seq, e_region, e_cond, e_block, ex_skip, ex_exit, ex_ret, o_cons, xops_nil, k_want_none, k_want_false, k_val, k_pan, k_call, k_ret, k_seq, k_seq_exit, k_seq_ret, k_true, k_false, k_block, k_block_exit, k_block_ret, k_loop, k_loop_exit, k_loop_ret, awanted, aoper, evalO, put, Option.getD_some, List.getElem?_set, acallOp, abuiltin, List.map_cons, List.map_nil, Nat.reduceEqDiff, Nat.reduceLT, List.length_set, Option.map_some, Option.bind_some, Option.bind_eq_bind, add_i, sub_i, mul_i, eql_i, neq_i, lss_i, leq_i, gtr_i, geq_i, ofV, ofCell, ↓reduceIte, List.cons_append, List.nil_append, List.append_nil, List.getElem?_toArray, List.getElem?_cons_succ, List.getElem?_cons_zero, e_draw, g_nil, g_cons, g_want, g_skip, g_val, g_call, g_ret, Option.map_none, hl, a0, CP, bq1, bq2, bq3, bq4, ex_tup, Ty.cv3_29, iu22, mu24]
      exact rfl, ?_⟩
  show P35_6 _ _
  exact ⟨(.lst [] 0 (.tok h.next) : AVal), by simp [hl], by simp [a0], by simp [hl], gu24⟩
theorem R35_9 (pe : Nat → Fr35 → ASt → Prop) (pr : Fr35 → ASt → Prop) : Ref Cn P35_8 (Cat [true, false, true, false, false] (bodyOf Try.f35)) m35_9 (post P35_1 pe pr) := by
  rintro s ⟨t, h⟩ hp x s' hm
  have hp : P35_8' s t h := hp
  obtain ⟨hl, _⟩ := hp
  unfold m35_9 at hm
  cases hm
  refine ⟨⟨_, _⟩, by
      simp only [bodyOf, Try.f35, Cat, Bool.false_eq_true, e_seq, e_region, e_cond, e_block, ex_skip, ex_exit, ex_ret, o_cons, xops_nil, k_want_none, k_want_false, k_val, k_pan, k_call, k_ret, k_seq, k_seq_exit, k_seq_ret, k_true, k_false, k_block, k_block_exit, k_block_ret, k_loop, k_loop_exit, k_loop_ret, awanted, aoper, evalO, put, Option.getD_some, List.getElem?_set, acallOp, abuiltin, List.map_cons, List.map_nil, Nat.reduceEqDiff, Nat.reduceLT, List.length_set, Option.map_some, Option.bind_some, Option.bind_eq_bind, add_i, sub_i, mul_i, eql_i, neq_i, lss_i, leq_i, gtr_i, geq_i, ofV, ofCell, ↓reduceIte, List.cons_append, List.nil_append, List.append_nil, List.getElem?_toArray, List.getElem?_cons_succ, List.getElem?_cons_zero, e_draw, g_nil, g_cons, g_want, g_skip, g_val, g_call, g_ret, Option.map_none, hl, CP, bq1, bq2, bq3, bq4, ex_tup]
      exact rfl, ?_⟩
  show P35_1 _ _
  exact ⟨(.nilSl : AVal), by simp [hl], by simp [hl], Sl.nil⟩
theorem R35_10 (pe : Nat → Fr35 → ASt → Prop) (pr : Fr35 → ASt → Prop) : Ref Cn P35_7 (Cat [true, false, false] (bodyOf Try.f35)) m35_10 (post P35_9 pe pr) := by
  rintro s ⟨t, h⟩ hp x s' hm
  have hp : P35_7' s t h := hp
  obtain ⟨hl, a0⟩ := hp
  unfold m35_10 at hm
  cases hb25 : decide (s.t0 < 0) with
  | true =>
    all_goals (
      try simp only [hb25, cond_true, cond_false, Option.bind_some, Option.bind_assoc, Bool.not_true, Bool.not_false, Bool.true_and, Bool.false_and, Bool.and_true, Bool.and_false, Bool.true_or, Bool.false_or] at hm
      cases hm
      refine ⟨⟨_, _⟩, by
          simp only [bodyOf, Try.f35, Cat, Bool.false_eq_true, e_seq, e_region, e_cond, e_block, ex_skip, ex_exit, ex_ret, o_cons, xops_nil, k_want_none, k_want_false, k_val, k_pan, k_call, k_ret, k_seq, k_seq_exit, k_seq_ret, k_true, k_false, k_block, k_block_exit, k_block_ret, k_loop, k_loop_exit, k_loop_ret, awanted, aoper, evalO, put, Option.getD_some, List.getElem?_set, acallOp, abuiltin, List.map_cons, List.map_nil, Nat.reduceEqDiff, Nat.reduceLT, List.length_set, Option.map_some, Option.bind_some, Option.bind_eq_bind, add_i, sub_i, mul_i, eql_i, neq_i, lss_i, leq_i, gtr_i, geq_i, ofV, ofCell, ↓reduceIte, List.cons_append, List.nil_append, List.append_nil, List.getElem?_toArray, List.getElem?_cons_succ, List.getElem?_cons_zero, e_draw, g_nil, g_cons, g_want, g_skip, g_val, g_call, g_ret, Option.map_none, hl, a0, CP, bq1, bq2, bq3, bq4, ex_tup, hb25]
          exact rfl, ?_⟩
      show P35_9 _ _
      exact ⟨by simp [hl], by simp [a0], by simp [hl, hb25]⟩)
  | false =>
    all_goals (
      try simp only [hb25, cond_true, cond_false, Option.bind_some, Option.bind_assoc, Bool.not_true, Bool.not_false, Bool.true_and, Bool.false_and, Bool.and_true, Bool.and_false, Bool.true_or, Bool.false_or] at hm
      cases hm
      refine ⟨⟨_, _⟩, by
          simp only [bodyOf, Try.f35, Cat, Bool.false_eq_true, e_seq, e_region, e_cond, e_block, ex_skip, ex_exit, ex_ret, o_cons, xops_nil, k_want_none, k_want_false, k_val, k_pan, k_call, k_ret, k_seq, k_seq_exit, k_seq_ret, k_true, k_false, k_block, k_block_exit, k_block_ret, k_loop, k_loop_exit, k_loop_ret, awanted, aoper, evalO, put, Option.getD_some, List.getElem?_set, acallOp, abuiltin, List.map_cons, List.map_nil, Nat.reduceEqDiff, Nat.reduceLT, List.length_set, Option.map_some, Option.bind_some, Option.bind_eq_bind, add_i, sub_i, mul_i, eql_i, neq_i, lss_i, leq_i, gtr_i, geq_i, ofV, ofCell, ↓reduceIte, List.cons_append, List.nil_append, List.append_nil, List.getElem?_toArray, List.getElem?_cons_succ, List.getElem?_cons_zero, e_draw, g_nil, g_cons, g_want, g_skip, g_val, g_call, g_ret, Option.map_none, hl, a0, CP, bq1, bq2, bq3, bq4, ex_tup, hb25]
          exact rfl, ?_⟩
      show P35_9 _ _
      exact ⟨by simp [hl], by simp [a0], by simp [hl, hb25]⟩)
theorem R35_11 (pe : Nat → Fr35 → ASt → Prop) (pr : Fr35 → ASt → Prop) : Ref Cn P35_7 (Cat [false] (bodyOf Try.f35)) m35_11 (post P35_7 pe pr) := by
  rintro s ⟨t, h⟩ hp x s' hm
  have hp : P35_7' s t h := hp
  obtain ⟨hl, a0⟩ := hp
  unfold m35_11 at hm
  cases hm
  refine ⟨⟨_, _⟩, by
      simp only [bodyOf, Try.f35, Cat, Bool.false_eq_true, e_seq, e_region, e_cond, e_block, ex_skip, ex_exit, ex_ret, o_cons, xops_nil, k_want_none, k_want_false, k_val, k_pan, k_call, k_ret, k_seq, k_seq_exit, k_seq_ret, k_true, k_false, k_block, k_block_exit, k_block_ret, k_loop, k_loop_exit, k_loop_ret, awanted, aoper, evalO, put, Option.getD_some, List.getElem?_set, acallOp, abuiltin, List.map_cons, List.map_nil, Nat.reduceEqDiff, Nat.reduceLT, List.length_set, Option.map_some, Option.bind_some, Option.bind_eq_bind, add_i, sub_i, mul_i, eql_i, neq_i, lss_i, leq_i, gtr_i, geq_i, ofV, ofCell, ↓reduceIte, List.cons_append, List.nil_append, List.append_nil, List.getElem?_toArray, List.getElem?_cons_succ, List.getElem?_cons_zero, e_draw, g_nil, g_cons, g_want, g_skip, g_val, g_call, g_ret, Option.map_none, hl, a0, CP, bq1, bq2, bq3, bq4, ex_tup]
      exact rfl, ?_⟩
  show P35_7 _ _
  exact ⟨by simp [hl], by simp [a0]⟩
theorem B35 : Ref Cn P35_7 (bodyOf Try.f35) (M35) (post P35_1 (fun _ _ _ => False) P35_1) := by
  rw [show bodyOf Try.f35 = .seq (Cat [false] (bodyOf Try.f35)) (.seq (.seq (Cat [true, false, false] (bodyOf Try.f35)) (.cond (.tmp 10) (.seq (Cat [true, false, true, false, false] (bodyOf Try.f35)) (.ret)) (.skip))) (.seq (Cat [true, true, false] (bodyOf Try.f35)) (.seq (.seq (Cat [true, true, true, false, false] (bodyOf Try.f35)) (.block 0 (.loop (.seq (Cat [true, true, true, false, true, true, true, false] (bodyOf Try.f35)) (.seq (.cond (.tmp 16) (.skip) (.exit 0)) (.seq (.block 1 (.seq (Cat [true, true, true, false, true, true, true, true, true, false, true, false] (bodyOf Try.f35)) (.seq (Cat [true, true, true, false, true, true, true, true, true, false, true, true, false] (bodyOf Try.f35)) (.cond (.tmp 22) (Cat [true, true, true, false, true, true, true, true, true, false, true, true, true, false] (bodyOf Try.f35)) (.skip))))) (Cat [true, true, true, false, true, true, true, true, true, true] (bodyOf Try.f35)))))))) (.seq (Cat [true, true, true, true, false] (bodyOf Try.f35)) (.ret))))) from rfl]
  unfold M35
  exact ref_seq (M := P35_7) (R35_11 _ _) (ref_seq (M := P35_7) (ref_seq (M := P35_9) (R35_10 _ _) (ref_cond (P := P35_9) (c := fun s => s.t10) (fun s st hp => by obtain ⟨hl, a0, a10⟩ := (hp : P35_9' s st.tmps st.h); simp only [evalO, a10, Option.getD_some]) (ref_weak (P' := P35_8) (fun s st hp => by obtain ⟨hl, a0, a10⟩ := (hp : P35_9' s st.tmps st.h); exact (⟨hl, trivial⟩ : P35_8' s st.tmps st.h)) (ref_seq (M := P35_1) (R35_9 _ _) (ref_ret (fun s st hp => hp)))) (ref_weak (P' := P35_7) (fun s st hp => by obtain ⟨hl, a0, a10⟩ := (hp : P35_9' s st.tmps st.h); exact (⟨hl, a0⟩ : P35_7' s st.tmps st.h)) (ref_skip (fun s st hp => hp))))) (ref_seq (M := P35_6) (R35_8 _ _) (ref_seq (M := P35_0) (ref_seq (M := P35_2) (R35_7 _ _) (ref_block (ref_loop (P := P35_2) (ref_weak (P' := P35_2) (fun s st hp => hp) (ref_seq (M := P35_5) (R35_5 _ _) (ref_seq (M := P35_2) (ref_cond (P := P35_5) (c := fun s => s.t16) (fun s st hp => by obtain ⟨w3_0, hl, a0, a3, r3_0, a15, a16⟩ := (hp : P35_5' s st.tmps st.h); simp only [evalO, a16, Option.getD_some]) (ref_weak (P' := P35_2) (fun s st hp => by obtain ⟨w3_0, hl, a0, a3, r3_0, a15, a16⟩ := (hp : P35_5' s st.tmps st.h); exact (⟨w3_0, hl, a0, a3, r3_0, a15⟩ : P35_2' s st.tmps st.h)) (ref_skip (fun s st hp => hp))) (ref_weak (P' := P35_0) (fun s st hp => by obtain ⟨w3_0, hl, a0, a3, r3_0, a15, a16⟩ := (hp : P35_5' s st.tmps st.h); exact (⟨w3_0, hl, a3, r3_0⟩ : P35_0' s st.tmps st.h)) (ref_exit (fun s st hp => hp)))) (ref_seq (M := P35_2) (ref_block (ref_seq (M := P35_3) (R35_4 _ _) (ref_seq (M := P35_4) (R35_3 _ _) (ref_cond (P := P35_4) (c := fun s => s.t22) (fun s st hp => by obtain ⟨w3_0, hl, a0, a3, r3_0, a4, a15, a22⟩ := (hp : P35_4' s st.tmps st.h); simp only [evalO, a22, Option.getD_some]) (ref_weak (P' := P35_3) (fun s st hp => by obtain ⟨w3_0, hl, a0, a3, r3_0, a4, a15, a22⟩ := (hp : P35_4' s st.tmps st.h); exact (⟨w3_0, hl, a0, a3, r3_0, a4, a15⟩ : P35_3' s st.tmps st.h)) (R35_2 _ _)) (ref_weak (P' := P35_2) (fun s st hp => by obtain ⟨w3_0, hl, a0, a3, r3_0, a4, a15, a22⟩ := (hp : P35_4' s st.tmps st.h); exact (⟨w3_0, hl, a0, a3, r3_0, a15⟩ : P35_2' s st.tmps st.h)) (ref_skip (fun s st hp => hp))))))) (R35_1 _ _)))))))) (ref_seq (M := P35_1) (R35_0 _ _) (ref_ret (fun s st hp => hp))))))
noncomputable def G35 (x0 : Int) : Option (List Int) := match M35 { (default : Fr35) with t0 := x0 } with
  | some (.nrm, s) => some s.t2
  | some (.ret, s) => some s.t2
  | _ => none
theorem G35_spec : Spec35 (G35) := by
  intro x0 r hr
  unfold G35 at hr
  cases hm : M35 { (default : Fr35) with t0 := x0 } with
  | none => rw [hm] at hr; cases hr
  | some q =>
    obtain ⟨x, s⟩ := q
    rw [hm] at hr
    have hx : x = .nrm ∨ x = .ret := by cases x <;> first | exact .inl rfl | exact .inr rfl | cases hr
    have hr : s.t2 = r := by cases x <;> first | exact Option.some.inj hr | cases hr
    subst hr
    have h0 : P35_7' ({ (default : Fr35) with t0 := x0 }) (slots Try.f35 (stripL [.int .i64 x0])) bare := ⟨rfl, rfl⟩
    obtain ⟨v, hR, _, hrun⟩ := run_of_ref (C := Cn) (f := 35) (fn := Try.f35) Try.func35 rfl rfl rfl rfl (args := [.int .i64 x0]) (by simp only [refsL, refs, List.append_nil]) (B35) (s0 := { (default : Fr35) with t0 := x0 }) h0 hm hx (R := fun v => ∃ y0_0, Sl (rI .i64) s.t2 y0_0 ∧ v = y0_0) (by
      have key : ∀ st : ASt, P35_1 s st → ∃ vs v, aresults Cn Try.f35.results.toList st = some vs ∧ packRes vs = v ∧ refs v = [] ∧ (fun v => ∃ y0_0, Sl (rI .i64) s.t2 y0_0 ∧ v = y0_0) (strip v) := by
        intro st hp
        obtain ⟨w2_0, hl, a2, r2_0⟩ := (hp : P35_1' s st.tmps st.h)
        refine ⟨[w2_0], _, by simp only [show Try.f35.results.toList = [ResultVar.tmp 2] from rfl, aresults, ares1, a2, Option.getD_some], rfl, by simp only [packRes, refsL, refs, List.append_nil, r2_0.refs (rI_p .i64)], ⟨strip w2_0, r2_0.strip (rI_p .i64), rfl⟩⟩
      intro st hq
      rcases hx with rfl | rfl
      · exact key st hq
      · exact key st hq)
    obtain ⟨z0, g0, hv⟩ := hR
    exact ⟨z0, g0, fun h => by rw [hrun h, hv]⟩
/-! ### caisson/bind.nodes -/
def Spec48 (f : TestT → Option Int) : Prop := ∀ (x0 : TestT) (vx0_0 : AVal) (_ : rTestT x0 [vx0_0]) (r : Int), f x0 = some r → ∀ h, run Cn 48 [vx0_0] h = some (.ret (.int .i64 r), h)
theorem Spec48_of {f g : TestT → Option Int} (hg : Spec48 g) (h : ∀ x0 r, f x0 = some r → g x0 = some r) : Spec48 f := fun x0 v0_ w0_ r hr => hg x0 v0_ w0_ r (h x0 r hr)
end Go.Proofs.Need
