/-
  PLAN (B): functions (printed by wip/tools/tg.py).
-/
import Derived.Test.YtijnepmlnfcpnabGreatDoorPlnBTypes
set_option linter.unusedVariables false
set_option linter.unusedSimpArgs false
set_option linter.unusedSimpArgs false
set_option linter.unusedVariables false
set_option maxRecDepth 100000
namespace Go.Proofs.Pln
open Go Go.Am Go.Proofs
def rFnB0 (g : (ViewInfo → Option Bool)) (v : AVal) : Prop := ∃ F L, v = .fn (.func F) [] L ∧ refsL L = [] ∧ stripL L = L ∧ ∀ (x0 : ViewInfo) (r : Bool), g x0 = some r → ∀ h, run Cl F (.agg [.int .i64 x0.Set, .int .i64 x0.State, .int .i64 x0.Seq, .int .i64 x0.Rows, .int .i64 x0.Bytes, .int .i64 x0.Readers] :: L) h = some (.ret (.bool r), h)
theorem rFnB0_strip {g : (ViewInfo → Option Bool)} {v : AVal} (h : rFnB0 g v) : rFnB0 g (strip v) := by
  obtain ⟨F, L, rfl, rL, sL, H⟩ := h
  exact ⟨F, L, by simp only [strip, stripL, sL], rL, sL, H⟩
theorem rFnB0_refs {g : (ViewInfo → Option Bool)} {v : AVal} (h : rFnB0 g v) : refs v = [] := by
  obtain ⟨F, L, rfl, rL, sL, H⟩ := h
  simp only [refs, refsL, rL, List.append_nil]
def rFnB1 (g : (ViewInfo → ViewInfo → Option Int)) (v : AVal) : Prop := ∃ F L, v = .fn (.func F) [] L ∧ refsL L = [] ∧ stripL L = L ∧ ∀ (x0 : ViewInfo) (x1 : ViewInfo) (r : Int), g x0 x1 = some r → ∀ h, run Cl F (.agg [.int .i64 x0.Set, .int .i64 x0.State, .int .i64 x0.Seq, .int .i64 x0.Rows, .int .i64 x0.Bytes, .int .i64 x0.Readers] :: .agg [.int .i64 x1.Set, .int .i64 x1.State, .int .i64 x1.Seq, .int .i64 x1.Rows, .int .i64 x1.Bytes, .int .i64 x1.Readers] :: L) h = some (.ret (.int .i64 r), h)
theorem rFnB1_strip {g : (ViewInfo → ViewInfo → Option Int)} {v : AVal} (h : rFnB1 g v) : rFnB1 g (strip v) := by
  obtain ⟨F, L, rfl, rL, sL, H⟩ := h
  exact ⟨F, L, by simp only [strip, stripL, sL], rL, sL, H⟩
theorem rFnB1_refs {g : (ViewInfo → ViewInfo → Option Int)} {v : AVal} (h : rFnB1 g v) : refs v = [] := by
  obtain ⟨F, L, rfl, rL, sL, H⟩ := h
  simp only [refs, refsL, rL, List.append_nil]
/-! ### caisson/bind.Reads -/
structure Fr12 where
  t0 : TestT
  t2 : Int
  t3 : Bool
  t6 : Bool
instance : Inhabited Fr12 := ⟨⟨default, 0, false, false⟩⟩
def P12_0' (s : Fr12) (t : List AVal) (h : AHeap) : Prop := ∃ w0_0, t.length = 11 ∧ t[0]? = some w0_0 ∧ rTestT s.t0 [w0_0]
def P12_0 (s : Fr12) (st : ASt) : Prop := P12_0' s st.tmps st.h
def P12_1' (s : Fr12) (t : List AVal) (h : AHeap) : Prop := t.length = 11 ∧ t[2]? = some (.int .i64 s.t2) ∧ t[3]? = some (.bool s.t3)
def P12_1 (s : Fr12) (st : ASt) : Prop := P12_1' s st.tmps st.h
def P12_2' (s : Fr12) (t : List AVal) (h : AHeap) : Prop := t.length = 11 ∧ True
def P12_2 (s : Fr12) (st : ASt) : Prop := P12_2' s st.tmps st.h
def P12_3' (s : Fr12) (t : List AVal) (h : AHeap) : Prop := ∃ w0_0, t.length = 11 ∧ t[0]? = some w0_0 ∧ rTestT s.t0 [w0_0] ∧ t[6]? = some (.bool s.t6)
def P12_3 (s : Fr12) (st : ASt) : Prop := P12_3' s st.tmps st.h
noncomputable def m12_0 : Mo Fr12 := fun s => (F42 5000 s.t0).bind fun z1 => some (.nrm, { s with t2 := z1.1, t3 := z1.2 })
noncomputable def m12_1 : Mo Fr12 := fun s => some (.nrm, { s with t2 := 63, t3 := true })
noncomputable def m12_2 : Mo Fr12 := fun s => (S41 s.t0).bind fun z5 => some (.nrm, { s with t6 := decide (z5 > 4096) })
noncomputable def m12_3 : Mo Fr12 := fun s => some (.nrm, s)
noncomputable def M12 : Mo Fr12 := seqM (m12_3) (seqM (seqM (m12_2) (condM (fun s => s.t6) (seqM (m12_1) (retM)) (skipM))) (seqM (m12_0) (retM)))
def Spec12 (f : TestT → Option (Int × Bool)) : Prop := ∀ (x0 : TestT) (vx0_0 : AVal) (_ : rTestT x0 [vx0_0]) (r : (Int × Bool)), f x0 = some r → ∀ h, run Cl 12 [vx0_0] h = some (.ret (.tup [.int .i64 r.1, .bool r.2]), h)
theorem Spec12_of {f g : TestT → Option (Int × Bool)} (hg : Spec12 g) (h : ∀ x0 r, f x0 = some r → g x0 = some r) : Spec12 f := fun x0 v0_ w0_ r hr => hg x0 v0_ w0_ r (h x0 r hr)
theorem R12_0 (pe : Nat → Fr12 → ASt → Prop) (pr : Fr12 → ASt → Prop) : Ref Cl P12_0 (Cat [true, true, false] (bodyOf Tryz.f12)) m12_0 (post P12_1 pe pr) := by
  rintro s ⟨t, h⟩ hp x s' hm
  have hp : P12_0' s t h := hp
  obtain ⟨w0_0, hl, a0, r0_0⟩ := hp
  unfold m12_0 at hm
  obtain ⟨z3, hz3, hm⟩ := Option.bind_eq_some_iff.1 hm
  have iu4 := (F42_spec 5000) s.t0 _ r0_0 _ hz3
  cases hm
  refine ⟨⟨_, _⟩, by
      simp only [bodyOf, Tryz.f12, Cat, Bool.false_eq_true, e_seq, e_region, e_cond, e_block, ex_skip, ex_exit, ex_ret, o_cons, xops_nil, k_want_none, k_want_false, k_val, k_pan, k_call, k_ret, k_seq, k_seq_exit, k_seq_ret, k_true, k_false, k_block, k_block_exit, k_block_ret, k_loop, k_loop_exit, k_loop_ret, awanted, aoper, evalO, put, Option.getD_some, List.getElem?_set, acallOp, abuiltin, List.map_cons, List.map_nil, Nat.reduceEqDiff, Nat.reduceLT, List.length_set, Option.map_some, Option.bind_some, Option.bind_eq_bind, add_i, sub_i, mul_i, eql_i, neq_i, lss_i, leq_i, gtr_i, geq_i, ofV, ofCell, ↓reduceIte, List.cons_append, List.nil_append, List.append_nil, List.getElem?_toArray, List.getElem?_cons_succ, List.getElem?_cons_zero, e_draw, g_nil, g_cons, g_want, g_skip, g_val, g_call, g_ret, Option.map_none, hl, a0, CP, bq1, bq2, bq3, bq4, ex_tup, iu4]
      exact rfl, ?_⟩
  show P12_1 _ _
  exact ⟨by simp [hl], by simp [hl], by simp [hl]⟩
theorem R12_1 (pe : Nat → Fr12 → ASt → Prop) (pr : Fr12 → ASt → Prop) : Ref Cl P12_2 (Cat [true, false, true, false, false] (bodyOf Tryz.f12)) m12_1 (post P12_1 pe pr) := by
  rintro s ⟨t, h⟩ hp x s' hm
  have hp : P12_2' s t h := hp
  obtain ⟨hl, _⟩ := hp
  unfold m12_1 at hm
  cases hm
  refine ⟨⟨_, _⟩, by
      simp only [bodyOf, Tryz.f12, Cat, Bool.false_eq_true, e_seq, e_region, e_cond, e_block, ex_skip, ex_exit, ex_ret, o_cons, xops_nil, k_want_none, k_want_false, k_val, k_pan, k_call, k_ret, k_seq, k_seq_exit, k_seq_ret, k_true, k_false, k_block, k_block_exit, k_block_ret, k_loop, k_loop_exit, k_loop_ret, awanted, aoper, evalO, put, Option.getD_some, List.getElem?_set, acallOp, abuiltin, List.map_cons, List.map_nil, Nat.reduceEqDiff, Nat.reduceLT, List.length_set, Option.map_some, Option.bind_some, Option.bind_eq_bind, add_i, sub_i, mul_i, eql_i, neq_i, lss_i, leq_i, gtr_i, geq_i, ofV, ofCell, ↓reduceIte, List.cons_append, List.nil_append, List.append_nil, List.getElem?_toArray, List.getElem?_cons_succ, List.getElem?_cons_zero, e_draw, g_nil, g_cons, g_want, g_skip, g_val, g_call, g_ret, Option.map_none, hl, CP, bq1, bq2, bq3, bq4, ex_tup]
      exact rfl, ?_⟩
  show P12_1 _ _
  exact ⟨by simp [hl], by simp [hl], by simp [hl]⟩
theorem R12_2 (pe : Nat → Fr12 → ASt → Prop) (pr : Fr12 → ASt → Prop) : Ref Cl P12_0 (Cat [true, false, false] (bodyOf Tryz.f12)) m12_2 (post P12_3 pe pr) := by
  rintro s ⟨t, h⟩ hp x s' hm
  have hp : P12_0' s t h := hp
  obtain ⟨w0_0, hl, a0, r0_0⟩ := hp
  unfold m12_2 at hm
  obtain ⟨z7, hz7, hm⟩ := Option.bind_eq_some_iff.1 hm
  have iu8 := S41_spec s.t0 _ r0_0 _ hz7
  cases hm
  refine ⟨⟨_, _⟩, by
      simp only [bodyOf, Tryz.f12, Cat, Bool.false_eq_true, e_seq, e_region, e_cond, e_block, ex_skip, ex_exit, ex_ret, o_cons, xops_nil, k_want_none, k_want_false, k_val, k_pan, k_call, k_ret, k_seq, k_seq_exit, k_seq_ret, k_true, k_false, k_block, k_block_exit, k_block_ret, k_loop, k_loop_exit, k_loop_ret, awanted, aoper, evalO, put, Option.getD_some, List.getElem?_set, acallOp, abuiltin, List.map_cons, List.map_nil, Nat.reduceEqDiff, Nat.reduceLT, List.length_set, Option.map_some, Option.bind_some, Option.bind_eq_bind, add_i, sub_i, mul_i, eql_i, neq_i, lss_i, leq_i, gtr_i, geq_i, ofV, ofCell, ↓reduceIte, List.cons_append, List.nil_append, List.append_nil, List.getElem?_toArray, List.getElem?_cons_succ, List.getElem?_cons_zero, e_draw, g_nil, g_cons, g_want, g_skip, g_val, g_call, g_ret, Option.map_none, hl, a0, CP, bq1, bq2, bq3, bq4, ex_tup, iu8]
      exact rfl, ?_⟩
  show P12_3 _ _
  exact ⟨w0_0, by simp [hl], by simp [a0], r0_0, by simp [hl]⟩
theorem R12_3 (pe : Nat → Fr12 → ASt → Prop) (pr : Fr12 → ASt → Prop) : Ref Cl P12_0 (Cat [false] (bodyOf Tryz.f12)) m12_3 (post P12_0 pe pr) := by
  rintro s ⟨t, h⟩ hp x s' hm
  have hp : P12_0' s t h := hp
  obtain ⟨w0_0, hl, a0, r0_0⟩ := hp
  unfold m12_3 at hm
  cases hm
  refine ⟨⟨_, _⟩, by
      simp only [bodyOf, Tryz.f12, Cat, Bool.false_eq_true, e_seq, e_region, e_cond, e_block, ex_skip, ex_exit, ex_ret, o_cons, xops_nil, k_want_none, k_want_false, k_val, k_pan, k_call, k_ret, k_seq, k_seq_exit, k_seq_ret, k_true, k_false, k_block, k_block_exit, k_block_ret, k_loop, k_loop_exit, k_loop_ret, awanted, aoper, evalO, put, Option.getD_some, List.getElem?_set, acallOp, abuiltin, List.map_cons, List.map_nil, Nat.reduceEqDiff, Nat.reduceLT, List.length_set, Option.map_some, Option.bind_some, Option.bind_eq_bind, add_i, sub_i, mul_i, eql_i, neq_i, lss_i, leq_i, gtr_i, geq_i, ofV, ofCell, ↓reduceIte, List.cons_append, List.nil_append, List.append_nil, List.getElem?_toArray, List.getElem?_cons_succ, List.getElem?_cons_zero, e_draw, g_nil, g_cons, g_want, g_skip, g_val, g_call, g_ret, Option.map_none, hl, a0, CP, bq1, bq2, bq3, bq4, ex_tup]
      exact rfl, ?_⟩
  show P12_0 _ _
  exact ⟨w0_0, by simp [hl], by simp [a0], r0_0⟩
theorem B12 : Ref Cl P12_0 (bodyOf Tryz.f12) (M12) (post P12_1 (fun _ _ _ => False) P12_1) := by
  rw [show bodyOf Tryz.f12 = .seq (Cat [false] (bodyOf Tryz.f12)) (.seq (.seq (Cat [true, false, false] (bodyOf Tryz.f12)) (.cond (.tmp 6) (.seq (Cat [true, false, true, false, false] (bodyOf Tryz.f12)) (.ret)) (.skip))) (.seq (Cat [true, true, false] (bodyOf Tryz.f12)) (.ret))) from rfl]
  unfold M12
  exact ref_seq (M := P12_0) (R12_3 _ _) (ref_seq (M := P12_0) (ref_seq (M := P12_3) (R12_2 _ _) (ref_cond (P := P12_3) (c := fun s => s.t6) (fun s st hp => by obtain ⟨w0_0, hl, a0, r0_0, a6⟩ := (hp : P12_3' s st.tmps st.h); simp only [evalO, a6, Option.getD_some]) (ref_weak (P' := P12_2) (fun s st hp => by obtain ⟨w0_0, hl, a0, r0_0, a6⟩ := (hp : P12_3' s st.tmps st.h); exact (⟨hl, trivial⟩ : P12_2' s st.tmps st.h)) (ref_seq (M := P12_1) (R12_1 _ _) (ref_ret (fun s st hp => hp)))) (ref_weak (P' := P12_0) (fun s st hp => by obtain ⟨w0_0, hl, a0, r0_0, a6⟩ := (hp : P12_3' s st.tmps st.h); exact (⟨w0_0, hl, a0, r0_0⟩ : P12_0' s st.tmps st.h)) (ref_skip (fun s st hp => hp))))) (ref_seq (M := P12_1) (R12_0 _ _) (ref_ret (fun s st hp => hp))))
noncomputable def G12 (x0 : TestT) : Option (Int × Bool) := match M12 { (default : Fr12) with t0 := x0 } with
  | some (.nrm, s) => some (s.t2, s.t3)
  | some (.ret, s) => some (s.t2, s.t3)
  | _ => none
theorem G12_spec : Spec12 (G12) := by
  intro x0 vx0_0 hvx0_0 r hr
  unfold G12 at hr
  cases hm : M12 { (default : Fr12) with t0 := x0 } with
  | none => rw [hm] at hr; cases hr
  | some q =>
    obtain ⟨x, s⟩ := q
    rw [hm] at hr
    have hx : x = .nrm ∨ x = .ret := by cases x <;> first | exact .inl rfl | exact .inr rfl | cases hr
    have hr : (s.t2, s.t3) = r := by cases x <;> first | exact Option.some.inj hr | cases hr
    subst hr
    have hp0 : P12_0' ({ (default : Fr12) with t0 := x0 }) (slots Tryz.f12 (stripL [vx0_0])) bare := ⟨(strip vx0_0 : AVal), rfl, rfl, rTestT_p.str _ _ hvx0_0⟩
    obtain ⟨v, hR, hrun⟩ := run_of_ref (C := Cl) (f := 12) (fn := Tryz.f12) Tryz.func12 rfl rfl rfl rfl (args := [vx0_0]) (by simp only [refsL, refs, List.append_nil, refs_one (rTestT_p.ref _ _ hvx0_0)]) (B12) (s0 := { (default : Fr12) with t0 := x0 }) hp0 hm hx (R := fun v => v = .tup [.int .i64 s.t2, .bool s.t3]) (by
      have key : ∀ st : ASt, P12_1 s st → ∃ vs v, aresults Cl Tryz.f12.results.toList st = some vs ∧ Nrm [] st.h (packRes vs) v ∧ (fun v => v = .tup [.int .i64 s.t2, .bool s.t3]) v := by
        intro st hp
        obtain ⟨hl, a2, a3⟩ := (hp : P12_1' s st.tmps st.h)
        exact ⟨[.int .i64 s.t2, .bool s.t3], _, by simp only [show Tryz.f12.results.toList = [ResultVar.tmp 2, ResultVar.tmp 3] from rfl, aresults, ares1, CP, a2, a3, Option.getD_some], (Nrm.tup (NrmL.cons (Nrm.of (w := .int .i64 s.t2) (by simp only [refsL, refs, List.append_nil])) (NrmL.cons (Nrm.of (w := .bool s.t3) (by simp only [refsL, refs, List.append_nil])) NrmL.nil))), rfl⟩
      intro st hq
      rcases hx with rfl | rfl
      · exact key st hq
      · exact key st hq)
    subst hR
    exact hrun
/-! ### caisson/cube.Need -/
structure Fr7 where
  t0 : Bound
  t1 : Bound
  t2 : Int
  t3 : Bool
  t4 : Int
  t5 : Bool
  t7 : Int
  t15 : (List Int)
  t16 : Int
  t17 : Int
  t18 : Bool
instance : Inhabited Fr7 := ⟨⟨default, default, 0, false, 0, false, 0, [], 0, 0, false⟩⟩
def P7_0' (s : Fr7) (t : List AVal) (h : AHeap) : Prop := t.length = 29 ∧ t[4]? = some (.int .i64 s.t4) ∧ t[5]? = some (.bool s.t5)
def P7_0 (s : Fr7) (st : ASt) : Prop := P7_0' s st.tmps st.h
def P7_1' (s : Fr7) (t : List AVal) (h : AHeap) : Prop := t.length = 29 ∧ t[2]? = some (.int .i64 s.t2) ∧ t[3]? = some (.bool s.t3)
def P7_1 (s : Fr7) (st : ASt) : Prop := P7_1' s st.tmps st.h
def P7_2' (s : Fr7) (t : List AVal) (h : AHeap) : Prop := ∃ w15_0, t.length = 29 ∧ t[4]? = some (.int .i64 s.t4) ∧ t[5]? = some (.bool s.t5) ∧ t[15]? = some w15_0 ∧ Sl (rI .i64) s.t15 w15_0 ∧ t[16]? = some (.int .i64 s.t16) ∧ t[17]? = some (.int .i64 s.t17)
def P7_2 (s : Fr7) (st : ASt) : Prop := P7_2' s st.tmps st.h
def P7_3' (s : Fr7) (t : List AVal) (h : AHeap) : Prop := ∃ w15_0, t.length = 29 ∧ t[4]? = some (.int .i64 s.t4) ∧ t[5]? = some (.bool s.t5) ∧ t[7]? = some (.int .i64 s.t7) ∧ t[15]? = some w15_0 ∧ Sl (rI .i64) s.t15 w15_0 ∧ t[16]? = some (.int .i64 s.t16) ∧ t[17]? = some (.int .i64 s.t17)
def P7_3 (s : Fr7) (st : ASt) : Prop := P7_3' s st.tmps st.h
def P7_4' (s : Fr7) (t : List AVal) (h : AHeap) : Prop := ∃ w15_0, t.length = 29 ∧ t[4]? = some (.int .i64 s.t4) ∧ t[5]? = some (.bool s.t5) ∧ t[15]? = some w15_0 ∧ Sl (rI .i64) s.t15 w15_0 ∧ t[16]? = some (.int .i64 s.t16) ∧ t[17]? = some (.int .i64 s.t17) ∧ t[18]? = some (.bool s.t18)
def P7_4 (s : Fr7) (st : ASt) : Prop := P7_4' s st.tmps st.h
def P7_5' (s : Fr7) (t : List AVal) (h : AHeap) : Prop := ∃ w1_0 w1_1 w1_2 w1_3, t.length = 29 ∧ t[1]? = some (.iptr [w1_0, w1_1, w1_2, w1_3]) ∧ Sl rPick s.t1.Picks w1_0 ∧ Sl rS s.t1.Names w1_1 ∧ rTestT s.t1.Where [w1_2] ∧ Sl (rI .i64) s.t1.Sets w1_3 ∧ t[4]? = some (.int .i64 s.t4) ∧ t[5]? = some (.bool s.t5)
def P7_5 (s : Fr7) (st : ASt) : Prop := P7_5' s st.tmps st.h
def P7_6' (s : Fr7) (t : List AVal) (h : AHeap) : Prop := ∃ w1_0 w1_1 w1_2 w1_3, t.length = 29 ∧ t[1]? = some (.iptr [w1_0, w1_1, w1_2, w1_3]) ∧ Sl rPick s.t1.Picks w1_0 ∧ Sl rS s.t1.Names w1_1 ∧ rTestT s.t1.Where [w1_2] ∧ Sl (rI .i64) s.t1.Sets w1_3
def P7_6 (s : Fr7) (st : ASt) : Prop := P7_6' s st.tmps st.h
def P7_7' (s : Fr7) (t : List AVal) (h : AHeap) : Prop := ∃ w0_0 w0_1 w0_2 w0_3, t.length = 29 ∧ t[0]? = some (.agg [w0_0, w0_1, w0_2, w0_3]) ∧ Sl rPick s.t0.Picks w0_0 ∧ Sl rS s.t0.Names w0_1 ∧ rTestT s.t0.Where [w0_2] ∧ Sl (rI .i64) s.t0.Sets w0_3
def P7_7 (s : Fr7) (st : ASt) : Prop := P7_7' s st.tmps st.h
noncomputable def m7_0 : Mo Fr7 := fun s => some (.nrm, { s with t2 := s.t4, t3 := s.t5 })
noncomputable def m7_1 : Mo Fr7 := fun s => some (.nrm, { s with t17 := IntKind.wrap .i64 (s.t17 + 1) })
noncomputable def m7_2 : Mo Fr7 := fun s => (G19 s.t7).bind fun z1 => (G18 z1).bind fun z3 => some (.nrm, { s with t4 := bits .or .i64 s.t4 z3 })
noncomputable def m7_3 : Mo Fr7 := fun s => (at? s.t15 s.t17).bind fun y9 => some (.nrm, { s with t7 := y9 })
noncomputable def m7_4 : Mo Fr7 := fun s => some (.nrm, { s with t18 := decide (s.t17 < s.t16) })
noncomputable def L7_5 : Mo Fr7 := seqM (m7_4) (seqM (condM (fun s => s.t18) (skipM) (exitM 0)) (seqM (blockM 1 (seqM (m7_3) (m7_2))) (m7_1)))
noncomputable def m7_6 : Mo Fr7 := fun s => some (.nrm, { s with t15 := s.t1.Sets, t16 := (s.t1.Sets.length : Int), t17 := 0 })
noncomputable def m7_7 : Mo Fr7 := fun s => (G12 s.t1.Where).bind fun z15 => some (.nrm, { s with t4 := z15.1, t5 := z15.2 })
noncomputable def m7_8 : Mo Fr7 := fun s => some (.nrm, { s with t1 := s.t0 })
noncomputable def M7 : Mo Fr7 := seqM (m7_8) (seqM (m7_7) (seqM (seqM (m7_6) (blockM 0 (loopM (L7_5)))) (seqM (m7_0) (retM))))
def Spec7 (f : Bound → Option (Int × Bool)) : Prop := ∀ (x0 : Bound) (vx0_0 : AVal) (_ : Sl rPick x0.Picks vx0_0) (vx0_1 : AVal) (_ : Sl rS x0.Names vx0_1) (vx0_2 : AVal) (_ : rTestT x0.Where [vx0_2]) (vx0_3 : AVal) (_ : Sl (rI .i64) x0.Sets vx0_3) (r : (Int × Bool)), f x0 = some r → ∀ h, run Cl 7 [.agg [vx0_0, vx0_1, vx0_2, vx0_3]] h = some (.ret (.tup [.int .i64 r.1, .bool r.2]), h)
theorem Spec7_of {f g : Bound → Option (Int × Bool)} (hg : Spec7 g) (h : ∀ x0 r, f x0 = some r → g x0 = some r) : Spec7 f := fun x0 v0_ w0_ v1_ w1_ v2_ w2_ v3_ w3_ r hr => hg x0 v0_ w0_ v1_ w1_ v2_ w2_ v3_ w3_ r (h x0 r hr)
theorem R7_0 (pe : Nat → Fr7 → ASt → Prop) (pr : Fr7 → ASt → Prop) : Ref Cl P7_0 (Cat [true, true, true, false] (bodyOf Tryz.f7)) m7_0 (post P7_1 pe pr) := by
  rintro s ⟨t, h⟩ hp x s' hm
  have hp : P7_0' s t h := hp
  obtain ⟨hl, a4, a5⟩ := hp
  unfold m7_0 at hm
  cases hm
  refine ⟨⟨_, _⟩, by
      simp only [bodyOf, Tryz.f7, Cat, Bool.false_eq_true, e_seq, e_region, e_cond, e_block, ex_skip, ex_exit, ex_ret, o_cons, xops_nil, k_want_none, k_want_false, k_val, k_pan, k_call, k_ret, k_seq, k_seq_exit, k_seq_ret, k_true, k_false, k_block, k_block_exit, k_block_ret, k_loop, k_loop_exit, k_loop_ret, awanted, aoper, evalO, put, Option.getD_some, List.getElem?_set, acallOp, abuiltin, List.map_cons, List.map_nil, Nat.reduceEqDiff, Nat.reduceLT, List.length_set, Option.map_some, Option.bind_some, Option.bind_eq_bind, add_i, sub_i, mul_i, eql_i, neq_i, lss_i, leq_i, gtr_i, geq_i, ofV, ofCell, ↓reduceIte, List.cons_append, List.nil_append, List.append_nil, List.getElem?_toArray, List.getElem?_cons_succ, List.getElem?_cons_zero, e_draw, g_nil, g_cons, g_want, g_skip, g_val, g_call, g_ret, Option.map_none, hl, a4, a5, CP, bq1, bq2, bq3, bq4, ex_tup]
      exact rfl, ?_⟩
  show P7_1 _ _
  exact ⟨by simp [hl], by simp [hl], by simp [hl]⟩
theorem R7_1 (pe : Nat → Fr7 → ASt → Prop) (pr : Fr7 → ASt → Prop) : Ref Cl P7_2 (Cat [true, true, false, true, true, true, true, true, true] (bodyOf Tryz.f7)) m7_1 (post P7_2 pe pr) := by
  rintro s ⟨t, h⟩ hp x s' hm
  have hp : P7_2' s t h := hp
  obtain ⟨w15_0, hl, a4, a5, a15, r15_0, a16, a17⟩ := hp
  unfold m7_1 at hm
  cases hm
  refine ⟨⟨_, _⟩, by
      simp only [bodyOf, Tryz.f7, Cat, Bool.false_eq_true, e_seq, e_region, e_cond, e_block, ex_skip, ex_exit, ex_ret, o_cons, xops_nil, k_want_none, k_want_false, k_val, k_pan, k_call, k_ret, k_seq, k_seq_exit, k_seq_ret, k_true, k_false, k_block, k_block_exit, k_block_ret, k_loop, k_loop_exit, k_loop_ret, awanted, aoper, evalO, put, Option.getD_some, List.getElem?_set, acallOp, abuiltin, List.map_cons, List.map_nil, Nat.reduceEqDiff, Nat.reduceLT, List.length_set, Option.map_some, Option.bind_some, Option.bind_eq_bind, add_i, sub_i, mul_i, eql_i, neq_i, lss_i, leq_i, gtr_i, geq_i, ofV, ofCell, ↓reduceIte, List.cons_append, List.nil_append, List.append_nil, List.getElem?_toArray, List.getElem?_cons_succ, List.getElem?_cons_zero, e_draw, g_nil, g_cons, g_want, g_skip, g_val, g_call, g_ret, Option.map_none, hl, a4, a5, a15, a16, a17, CP, bq1, bq2, bq3, bq4, ex_tup]
      exact rfl, ?_⟩
  show P7_2 _ _
  exact ⟨w15_0, by simp [hl], by simp [a4], by simp [a5], by simp [a15], r15_0, by simp [a16], by simp [hl]⟩
theorem R7_2 (pe : Nat → Fr7 → ASt → Prop) (pr : Fr7 → ASt → Prop) : Ref Cl P7_3 (Cat [true, true, false, true, true, true, true, true, false, true, true] (bodyOf Tryz.f7)) m7_2 (post P7_2 pe pr) := by
  rintro s ⟨t, h⟩ hp x s' hm
  have hp : P7_3' s t h := hp
  obtain ⟨w15_0, hl, a4, a5, a7, a15, r15_0, a16, a17⟩ := hp
  unfold m7_2 at hm
  obtain ⟨z5, hz5, hm⟩ := Option.bind_eq_some_iff.1 hm
  obtain ⟨bu6_0, gu6_0, iu6⟩ := G19_spec s.t7  _ hz5
  obtain ⟨z7, hz7, hm⟩ := Option.bind_eq_some_iff.1 hm
  have iu8 := G18_spec z5 _ gu6_0 _ hz7
  cases hm
  refine ⟨⟨_, _⟩, by
      simp only [bodyOf, Tryz.f7, Cat, Bool.false_eq_true, e_seq, e_region, e_cond, e_block, ex_skip, ex_exit, ex_ret, o_cons, xops_nil, k_want_none, k_want_false, k_val, k_pan, k_call, k_ret, k_seq, k_seq_exit, k_seq_ret, k_true, k_false, k_block, k_block_exit, k_block_ret, k_loop, k_loop_exit, k_loop_ret, awanted, aoper, evalO, put, Option.getD_some, List.getElem?_set, acallOp, abuiltin, List.map_cons, List.map_nil, Nat.reduceEqDiff, Nat.reduceLT, List.length_set, Option.map_some, Option.bind_some, Option.bind_eq_bind, add_i, sub_i, mul_i, eql_i, neq_i, lss_i, leq_i, gtr_i, geq_i, ofV, ofCell, ↓reduceIte, List.cons_append, List.nil_append, List.append_nil, List.getElem?_toArray, List.getElem?_cons_succ, List.getElem?_cons_zero, e_draw, g_nil, g_cons, g_want, g_skip, g_val, g_call, g_ret, Option.map_none, hl, a4, a5, a7, a15, a16, a17, CP, bq1, bq2, bq3, bq4, ex_tup, iu6, iu8, TyB.or3]
      exact rfl, ?_⟩
  show P7_2 _ _
  exact ⟨w15_0, by simp [hl], by simp [hl], by simp [a5], by simp [a15], r15_0, by simp [a16], by simp [a17]⟩
theorem R7_3 (pe : Nat → Fr7 → ASt → Prop) (pr : Fr7 → ASt → Prop) : Ref Cl P7_2 (Cat [true, true, false, true, true, true, true, true, false, true, false] (bodyOf Tryz.f7)) m7_3 (post P7_3 pe pr) := by
  rintro s ⟨t, h⟩ hp x s' hm
  have hp : P7_2' s t h := hp
  obtain ⟨w15_0, hl, a4, a5, a15, r15_0, a16, a17⟩ := hp
  unfold m7_3 at hm
  obtain ⟨y11, hy11, hm⟩ := Option.bind_eq_some_iff.1 hm
  obtain ⟨cu12, du12, eu12, iu12, _⟩ := Sl.ix (rI_p .i64) r15_0 hy11
  subst eu12
  cases hm
  refine ⟨⟨_, _⟩, by
      simp only [bodyOf, Tryz.f7, Cat, Bool.false_eq_true, e_seq, e_region, e_cond, e_block, ex_skip, ex_exit, ex_ret, o_cons, xops_nil, k_want_none, k_want_false, k_val, k_pan, k_call, k_ret, k_seq, k_seq_exit, k_seq_ret, k_true, k_false, k_block, k_block_exit, k_block_ret, k_loop, k_loop_exit, k_loop_ret, awanted, aoper, evalO, put, Option.getD_some, List.getElem?_set, acallOp, abuiltin, List.map_cons, List.map_nil, Nat.reduceEqDiff, Nat.reduceLT, List.length_set, Option.map_some, Option.bind_some, Option.bind_eq_bind, add_i, sub_i, mul_i, eql_i, neq_i, lss_i, leq_i, gtr_i, geq_i, ofV, ofCell, ↓reduceIte, List.cons_append, List.nil_append, List.append_nil, List.getElem?_toArray, List.getElem?_cons_succ, List.getElem?_cons_zero, e_draw, g_nil, g_cons, g_want, g_skip, g_val, g_call, g_ret, Option.map_none, hl, a4, a5, a15, a16, a17, CP, bq1, bq2, bq3, bq4, ex_tup, TyB.ix25, iu12, TyB.ld3, ld_ip, ofc1, List.drop_succ_cons, List.drop_zero]
      exact rfl, ?_⟩
  show P7_3 _ _
  exact ⟨w15_0, by simp [hl], by simp [a4], by simp [a5], by simp [hl], by simp [a15], r15_0, by simp [a16], by simp [a17]⟩
theorem R7_4 (pe : Nat → Fr7 → ASt → Prop) (pr : Fr7 → ASt → Prop) : Ref Cl P7_2 (Cat [true, true, false, true, true, true, false] (bodyOf Tryz.f7)) m7_4 (post P7_4 pe pr) := by
  rintro s ⟨t, h⟩ hp x s' hm
  have hp : P7_2' s t h := hp
  obtain ⟨w15_0, hl, a4, a5, a15, r15_0, a16, a17⟩ := hp
  unfold m7_4 at hm
  cases hm
  refine ⟨⟨_, _⟩, by
      simp only [bodyOf, Tryz.f7, Cat, Bool.false_eq_true, e_seq, e_region, e_cond, e_block, ex_skip, ex_exit, ex_ret, o_cons, xops_nil, k_want_none, k_want_false, k_val, k_pan, k_call, k_ret, k_seq, k_seq_exit, k_seq_ret, k_true, k_false, k_block, k_block_exit, k_block_ret, k_loop, k_loop_exit, k_loop_ret, awanted, aoper, evalO, put, Option.getD_some, List.getElem?_set, acallOp, abuiltin, List.map_cons, List.map_nil, Nat.reduceEqDiff, Nat.reduceLT, List.length_set, Option.map_some, Option.bind_some, Option.bind_eq_bind, add_i, sub_i, mul_i, eql_i, neq_i, lss_i, leq_i, gtr_i, geq_i, ofV, ofCell, ↓reduceIte, List.cons_append, List.nil_append, List.append_nil, List.getElem?_toArray, List.getElem?_cons_succ, List.getElem?_cons_zero, e_draw, g_nil, g_cons, g_want, g_skip, g_val, g_call, g_ret, Option.map_none, hl, a4, a5, a15, a16, a17, CP, bq1, bq2, bq3, bq4, ex_tup]
      exact rfl, ?_⟩
  show P7_4 _ _
  exact ⟨w15_0, by simp [hl], by simp [a4], by simp [a5], by simp [a15], r15_0, by simp [a16], by simp [a17], by simp [hl]⟩
theorem R7_6 (pe : Nat → Fr7 → ASt → Prop) (pr : Fr7 → ASt → Prop) : Ref Cl P7_5 (Cat [true, true, false, false] (bodyOf Tryz.f7)) m7_6 (post P7_2 pe pr) := by
  rintro s ⟨t, h⟩ hp x s' hm
  have hp : P7_5' s t h := hp
  obtain ⟨w1_0, w1_1, w1_2, w1_3, hl, a1, r1_0, r1_1, r1_2, r1_3, a4, a5⟩ := hp
  unfold m7_6 at hm
  have lu14 := fun h => Sl.len r1_3 TyB.un25 h
  cases hm
  refine ⟨⟨_, _⟩, by
      simp only [bodyOf, Tryz.f7, Cat, Bool.false_eq_true, e_seq, e_region, e_cond, e_block, ex_skip, ex_exit, ex_ret, o_cons, xops_nil, k_want_none, k_want_false, k_val, k_pan, k_call, k_ret, k_seq, k_seq_exit, k_seq_ret, k_true, k_false, k_block, k_block_exit, k_block_ret, k_loop, k_loop_exit, k_loop_ret, awanted, aoper, evalO, put, Option.getD_some, List.getElem?_set, acallOp, abuiltin, List.map_cons, List.map_nil, Nat.reduceEqDiff, Nat.reduceLT, List.length_set, Option.map_some, Option.bind_some, Option.bind_eq_bind, add_i, sub_i, mul_i, eql_i, neq_i, lss_i, leq_i, gtr_i, geq_i, ofV, ofCell, ↓reduceIte, List.cons_append, List.nil_append, List.append_nil, List.getElem?_toArray, List.getElem?_cons_succ, List.getElem?_cons_zero, e_draw, g_nil, g_cons, g_want, g_skip, g_val, g_call, g_ret, Option.map_none, hl, a1, a4, a5, CP, bq1, bq2, bq3, bq4, ex_tup, TyB.fa27_3, dropCells, List.drop_succ_cons, List.drop_zero, TyB.ld25, ld_ip, ofc1, List.drop_succ_cons, List.drop_zero, lu14]
      exact rfl, ?_⟩
  show P7_2 _ _
  exact ⟨w1_3, by simp [hl], by simp [a4], by simp [a5], by simp [hl], r1_3, by simp [hl], by simp [hl]⟩
theorem R7_7 (pe : Nat → Fr7 → ASt → Prop) (pr : Fr7 → ASt → Prop) : Ref Cl P7_6 (Cat [true, false] (bodyOf Tryz.f7)) m7_7 (post P7_5 pe pr) := by
  rintro s ⟨t, h⟩ hp x s' hm
  have hp : P7_6' s t h := hp
  obtain ⟨w1_0, w1_1, w1_2, w1_3, hl, a1, r1_0, r1_1, r1_2, r1_3⟩ := hp
  unfold m7_7 at hm
  obtain ⟨z17, hz17, hm⟩ := Option.bind_eq_some_iff.1 hm
  have iu18 := G12_spec s.t1.Where _ r1_2 _ hz17
  cases hm
  refine ⟨⟨_, _⟩, by
      simp only [bodyOf, Tryz.f7, Cat, Bool.false_eq_true, e_seq, e_region, e_cond, e_block, ex_skip, ex_exit, ex_ret, o_cons, xops_nil, k_want_none, k_want_false, k_val, k_pan, k_call, k_ret, k_seq, k_seq_exit, k_seq_ret, k_true, k_false, k_block, k_block_exit, k_block_ret, k_loop, k_loop_exit, k_loop_ret, awanted, aoper, evalO, put, Option.getD_some, List.getElem?_set, acallOp, abuiltin, List.map_cons, List.map_nil, Nat.reduceEqDiff, Nat.reduceLT, List.length_set, Option.map_some, Option.bind_some, Option.bind_eq_bind, add_i, sub_i, mul_i, eql_i, neq_i, lss_i, leq_i, gtr_i, geq_i, ofV, ofCell, ↓reduceIte, List.cons_append, List.nil_append, List.append_nil, List.getElem?_toArray, List.getElem?_cons_succ, List.getElem?_cons_zero, e_draw, g_nil, g_cons, g_want, g_skip, g_val, g_call, g_ret, Option.map_none, hl, a1, CP, bq1, bq2, bq3, bq4, ex_tup, TyB.fa27_2, dropCells, List.drop_succ_cons, List.drop_zero, TyB.ld24, ld_ip, ofc1, List.drop_succ_cons, List.drop_zero, iu18]
      exact rfl, ?_⟩
  show P7_5 _ _
  exact ⟨w1_0, w1_1, w1_2, w1_3, by simp [hl], by simp [a1], r1_0, r1_1, r1_2, r1_3, by simp [hl], by simp [hl]⟩
theorem R7_8 (pe : Nat → Fr7 → ASt → Prop) (pr : Fr7 → ASt → Prop) : Ref Cl P7_7 (Cat [false] (bodyOf Tryz.f7)) m7_8 (post P7_6 pe pr) := by
  rintro s ⟨t, h⟩ hp x s' hm
  have hp : P7_7' s t h := hp
  obtain ⟨w0_0, w0_1, w0_2, w0_3, hl, a0, r0_0, r0_1, r0_2, r0_3⟩ := hp
  unfold m7_8 at hm
  have ic23 : (w0_0 : AVal).isCell = true := Sl.isCell r0_0
  have ic24 : (w0_1 : AVal).isCell = true := Sl.isCell r0_1
  have ic25 : (w0_2 : AVal).isCell = true := rTestT_cell r0_2
  have ic26 : (w0_3 : AVal).isCell = true := Sl.isCell r0_3
  cases hm
  refine ⟨⟨_, _⟩, by
      simp only [bodyOf, Tryz.f7, Cat, Bool.false_eq_true, e_seq, e_region, e_cond, e_block, ex_skip, ex_exit, ex_ret, o_cons, xops_nil, k_want_none, k_want_false, k_val, k_pan, k_call, k_ret, k_seq, k_seq_exit, k_seq_ret, k_true, k_false, k_block, k_block_exit, k_block_ret, k_loop, k_loop_exit, k_loop_ret, awanted, aoper, evalO, put, Option.getD_some, List.getElem?_set, acallOp, abuiltin, List.map_cons, List.map_nil, Nat.reduceEqDiff, Nat.reduceLT, List.length_set, Option.map_some, Option.bind_some, Option.bind_eq_bind, add_i, sub_i, mul_i, eql_i, neq_i, lss_i, leq_i, gtr_i, geq_i, ofV, ofCell, ↓reduceIte, List.cons_append, List.nil_append, List.append_nil, List.getElem?_toArray, List.getElem?_cons_succ, List.getElem?_cons_zero, e_draw, g_nil, g_cons, g_want, g_skip, g_val, g_call, g_ret, Option.map_none, hl, a0, CP, bq1, bq2, bq3, bq4, ex_tup, TyB.cb_parse_go_148, TyB.cb_parse_go_143, TyB.cb_parse_go_130, TyB.cb_plan_go_27, TyB.cb_plan_go_29, TyB.cb_plan_go_31, TyB.cb_plan_go_41, TyB.cb_cube_go_25, TyB.cb_law_go_47, ic23, bx_c ic23, cl_c ic23, ic24, bx_c ic24, cl_c ic24, ic25, bx_c ic25, cl_c ic25, ic26, bx_c ic26, cl_c ic26, bx_a, cl_a, bx_i, bx_b, bx_s, cl_i, cl_b, cl_s, List.all_cons, List.all_nil, Bool.and_self, Bool.and_true, c_i, c_b, c_s, c_nl, c_np, c_ip, c_ls]
      exact rfl, ?_⟩
  show P7_6 _ _
  exact ⟨w0_0, w0_1, w0_2, w0_3, by simp [hl], by simp [hl], r0_0, r0_1, r0_2, r0_3⟩
theorem B7 : Ref Cl P7_7 (bodyOf Tryz.f7) (M7) (post P7_1 (fun _ _ _ => False) P7_1) := by
  rw [show bodyOf Tryz.f7 = .seq (Cat [false] (bodyOf Tryz.f7)) (.seq (Cat [true, false] (bodyOf Tryz.f7)) (.seq (.seq (Cat [true, true, false, false] (bodyOf Tryz.f7)) (.block 0 (.loop (.seq (Cat [true, true, false, true, true, true, false] (bodyOf Tryz.f7)) (.seq (.cond (.tmp 18) (.skip) (.exit 0)) (.seq (.block 1 (.seq (Cat [true, true, false, true, true, true, true, true, false, true, false] (bodyOf Tryz.f7)) (Cat [true, true, false, true, true, true, true, true, false, true, true] (bodyOf Tryz.f7)))) (Cat [true, true, false, true, true, true, true, true, true] (bodyOf Tryz.f7)))))))) (.seq (Cat [true, true, true, false] (bodyOf Tryz.f7)) (.ret)))) from rfl]
  unfold M7
  exact ref_seq (M := P7_6) (R7_8 _ _) (ref_seq (M := P7_5) (R7_7 _ _) (ref_seq (M := P7_0) (ref_seq (M := P7_2) (R7_6 _ _) (ref_block (ref_loop (P := P7_2) (ref_weak (P' := P7_2) (fun s st hp => hp) (ref_seq (M := P7_4) (R7_4 _ _) (ref_seq (M := P7_2) (ref_cond (P := P7_4) (c := fun s => s.t18) (fun s st hp => by obtain ⟨w15_0, hl, a4, a5, a15, r15_0, a16, a17, a18⟩ := (hp : P7_4' s st.tmps st.h); simp only [evalO, a18, Option.getD_some]) (ref_weak (P' := P7_2) (fun s st hp => by obtain ⟨w15_0, hl, a4, a5, a15, r15_0, a16, a17, a18⟩ := (hp : P7_4' s st.tmps st.h); exact (⟨w15_0, hl, a4, a5, a15, r15_0, a16, a17⟩ : P7_2' s st.tmps st.h)) (ref_skip (fun s st hp => hp))) (ref_weak (P' := P7_0) (fun s st hp => by obtain ⟨w15_0, hl, a4, a5, a15, r15_0, a16, a17, a18⟩ := (hp : P7_4' s st.tmps st.h); exact (⟨hl, a4, a5⟩ : P7_0' s st.tmps st.h)) (ref_exit (fun s st hp => hp)))) (ref_seq (M := P7_2) (ref_block (ref_seq (M := P7_3) (R7_3 _ _) (R7_2 _ _))) (R7_1 _ _)))))))) (ref_seq (M := P7_1) (R7_0 _ _) (ref_ret (fun s st hp => hp)))))
noncomputable def G7 (x0 : Bound) : Option (Int × Bool) := match M7 { (default : Fr7) with t0 := x0 } with
  | some (.nrm, s) => some (s.t2, s.t3)
  | some (.ret, s) => some (s.t2, s.t3)
  | _ => none
theorem G7_spec : Spec7 (G7) := by
  intro x0 vx0_0 hvx0_0 vx0_1 hvx0_1 vx0_2 hvx0_2 vx0_3 hvx0_3 r hr
  unfold G7 at hr
  cases hm : M7 { (default : Fr7) with t0 := x0 } with
  | none => rw [hm] at hr; cases hr
  | some q =>
    obtain ⟨x, s⟩ := q
    rw [hm] at hr
    have hx : x = .nrm ∨ x = .ret := by cases x <;> first | exact .inl rfl | exact .inr rfl | cases hr
    have hr : (s.t2, s.t3) = r := by cases x <;> first | exact Option.some.inj hr | cases hr
    subst hr
    have hp0 : P7_7' ({ (default : Fr7) with t0 := x0 }) (slots Tryz.f7 (stripL [.agg [vx0_0, vx0_1, vx0_2, vx0_3]])) bare := ⟨(strip vx0_0 : AVal), (strip vx0_1 : AVal), (strip vx0_2 : AVal), (strip vx0_3 : AVal), rfl, rfl, hvx0_0.strip rPick_p, hvx0_1.strip rS_p, rTestT_p.str _ _ hvx0_2, hvx0_3.strip (rI_p .i64)⟩
    obtain ⟨v, hR, hrun⟩ := run_of_ref (C := Cl) (f := 7) (fn := Tryz.f7) Tryz.func7 rfl rfl rfl rfl (args := [.agg [vx0_0, vx0_1, vx0_2, vx0_3]]) (by simp only [refsL, refs, List.append_nil, hvx0_0.refs rPick_p, hvx0_1.refs rS_p, refs_one (rTestT_p.ref _ _ hvx0_2), hvx0_3.refs (rI_p .i64)]) (B7) (s0 := { (default : Fr7) with t0 := x0 }) hp0 hm hx (R := fun v => v = .tup [.int .i64 s.t2, .bool s.t3]) (by
      have key : ∀ st : ASt, P7_1 s st → ∃ vs v, aresults Cl Tryz.f7.results.toList st = some vs ∧ Nrm [] st.h (packRes vs) v ∧ (fun v => v = .tup [.int .i64 s.t2, .bool s.t3]) v := by
        intro st hp
        obtain ⟨hl, a2, a3⟩ := (hp : P7_1' s st.tmps st.h)
        exact ⟨[.int .i64 s.t2, .bool s.t3], _, by simp only [show Tryz.f7.results.toList = [ResultVar.tmp 2, ResultVar.tmp 3] from rfl, aresults, ares1, CP, a2, a3, Option.getD_some], (Nrm.tup (NrmL.cons (Nrm.of (w := .int .i64 s.t2) (by simp only [refsL, refs, List.append_nil])) (NrmL.cons (Nrm.of (w := .bool s.t3) (by simp only [refsL, refs, List.append_nil])) NrmL.nil))), rfl⟩
      intro st hq
      rcases hx with rfl | rfl
      · exact key st hq
      · exact key st hq)
    subst hR
    exact hrun
/-! ### caisson/plan.choose -/
structure Fr17 where
  t0 : Int
  t1 : (List ViewInfo)
  t2 : Int
  t3 : Int
  t4 : Int
  t6 : Int
  t8 : Plan
  t9 : ViewInfo
  t10 : Bool
  t26 : Bool
instance : Inhabited Fr17 := ⟨⟨0, [], 0, 0, 0, 0, default, default, false, false⟩⟩
def P17_0' (s : Fr17) (t : List AVal) (h : AHeap) : Prop := ∃ i8 i9, t.length = 35 ∧ t[8]? = some (.ptr i8 0) ∧ h.get i8 = some (.arr [.bool s.t8.Base, .int .i64 s.t8.Set, .int .i64 s.t8.Cost]) ∧ i8 < h.next ∧ t[9]? = some (.ptr i9 0) ∧ h.get i9 = some (.arr [.int .i64 s.t9.Set, .int .i64 s.t9.State, .int .i64 s.t9.Seq, .int .i64 s.t9.Rows, .int .i64 s.t9.Bytes, .int .i64 s.t9.Readers]) ∧ i9 < h.next ∧ i8 ≠ i9
def P17_0 (s : Fr17) (st : ASt) : Prop := P17_0' s st.tmps st.h
def P17_1' (s : Fr17) (t : List AVal) (h : AHeap) : Prop := ∃ i8, t.length = 35 ∧ t[8]? = some (.ptr i8 0) ∧ h.get i8 = some (.arr [.bool s.t8.Base, .int .i64 s.t8.Set, .int .i64 s.t8.Cost]) ∧ i8 < h.next
def P17_1 (s : Fr17) (st : ASt) : Prop := P17_1' s st.tmps st.h
def P17_2' (s : Fr17) (t : List AVal) (h : AHeap) : Prop := ∃ i8, t.length = 35 ∧ t[3]? = some (.int .i64 s.t3) ∧ t[8]? = some (.ptr i8 0) ∧ h.get i8 = some (.arr [.bool s.t8.Base, .int .i64 s.t8.Set, .int .i64 s.t8.Cost]) ∧ i8 < h.next
def P17_2 (s : Fr17) (st : ASt) : Prop := P17_2' s st.tmps st.h
def P17_3' (s : Fr17) (t : List AVal) (h : AHeap) : Prop := ∃ i8 i9, t.length = 35 ∧ t[3]? = some (.int .i64 s.t3) ∧ t[8]? = some (.ptr i8 0) ∧ h.get i8 = some (.arr [.bool s.t8.Base, .int .i64 s.t8.Set, .int .i64 s.t8.Cost]) ∧ i8 < h.next ∧ t[9]? = some (.ptr i9 0) ∧ h.get i9 = some (.arr [.int .i64 s.t9.Set, .int .i64 s.t9.State, .int .i64 s.t9.Seq, .int .i64 s.t9.Rows, .int .i64 s.t9.Bytes, .int .i64 s.t9.Readers]) ∧ i9 < h.next ∧ t[26]? = some (.bool s.t26) ∧ i8 ≠ i9
def P17_3 (s : Fr17) (st : ASt) : Prop := P17_3' s st.tmps st.h
def P17_4' (s : Fr17) (t : List AVal) (h : AHeap) : Prop := ∃ i8 i9, t.length = 35 ∧ t[3]? = some (.int .i64 s.t3) ∧ t[8]? = some (.ptr i8 0) ∧ h.get i8 = some (.arr [.bool s.t8.Base, .int .i64 s.t8.Set, .int .i64 s.t8.Cost]) ∧ i8 < h.next ∧ t[9]? = some (.ptr i9 0) ∧ h.get i9 = some (.arr [.int .i64 s.t9.Set, .int .i64 s.t9.State, .int .i64 s.t9.Seq, .int .i64 s.t9.Rows, .int .i64 s.t9.Bytes, .int .i64 s.t9.Readers]) ∧ i9 < h.next ∧ t[10]? = some (.bool s.t10) ∧ i8 ≠ i9
def P17_4 (s : Fr17) (st : ASt) : Prop := P17_4' s st.tmps st.h
def P17_5' (s : Fr17) (t : List AVal) (h : AHeap) : Prop := ∃ w1_0 i8, t.length = 35 ∧ t[1]? = some w1_0 ∧ Sl rViewInfo s.t1 w1_0 ∧ t[3]? = some (.int .i64 s.t3) ∧ t[4]? = some (.iptr [.int .i64 s.t4]) ∧ t[6]? = some (.iptr [.int .i64 s.t6]) ∧ t[8]? = some (.ptr i8 0) ∧ h.get i8 = some (.arr [.bool s.t8.Base, .int .i64 s.t8.Set, .int .i64 s.t8.Cost]) ∧ i8 < h.next
def P17_5 (s : Fr17) (st : ASt) : Prop := P17_5' s st.tmps st.h
def P17_6' (s : Fr17) (t : List AVal) (h : AHeap) : Prop := ∃ w1_0, t.length = 35 ∧ t[0]? = some (.int .i64 s.t0) ∧ t[1]? = some w1_0 ∧ Sl rViewInfo s.t1 w1_0 ∧ t[2]? = some (.int .i64 s.t2) ∧ t[3]? = some (.int .i64 s.t3)
def P17_6 (s : Fr17) (st : ASt) : Prop := P17_6' s st.tmps st.h
noncomputable def m17_0 : Mo Fr17 := fun s => some (.nrm, { s with t8 := { Base := false, Set := s.t9.Set, Cost := (if 0 > s.t9.Rows then 0 else s.t9.Rows) } })
noncomputable def m17_1 : Mo Fr17 := fun s => some (.nrm, { s with t8 := { Base := true, Set := 0, Cost := s.t3 } })
noncomputable def m17_2 : Mo Fr17 := fun s => some (.nrm, { s with t26 := ((!s.t10) || (decide (s.t9.Rows > s.t3))) })
noncomputable def m17_3 : Mo Fr17 := fun s => (G44 s.t1 (fun x0_ => G45 x0_ s.t6 s.t4) G46).bind fun z32 => some (.nrm, { s with t9 := z32.1, t10 := z32.2 })
noncomputable def m17_4 : Mo Fr17 := fun s => some (.nrm, { s with t3 := (if 0 > s.t3 then 0 else s.t3) })
noncomputable def m17_5 : Mo Fr17 := fun s => some (.nrm, { s with t4 := s.t0, t6 := s.t2, t8 := { Base := false, Set := 0, Cost := 0 } })
noncomputable def M17 : Mo Fr17 := seqM (m17_5) (seqM (m17_4) (seqM (m17_3) (seqM (seqM (m17_2) (condM (fun s => s.t26) (seqM (m17_1) (retM)) (skipM))) (seqM (m17_0) (retM)))))
def Spec17 (f : Int → (List ViewInfo) → Int → Int → Option Plan) : Prop := ∀ (x0 : Int) (x1 : (List ViewInfo)) (x2 : Int) (x3 : Int) (vx1_0 : AVal) (_ : Sl rViewInfo x1 vx1_0) (r : Plan), f x0 x1 x2 x3 = some r → ∀ h, run Cl 17 [.int .i64 x0, vx1_0, .int .i64 x2, .int .i64 x3] h = some (.ret (.agg [.bool r.Base, .int .i64 r.Set, .int .i64 r.Cost]), h)
theorem Spec17_of {f g : Int → (List ViewInfo) → Int → Int → Option Plan} (hg : Spec17 g) (h : ∀ x0 x1 x2 x3 r, f x0 x1 x2 x3 = some r → g x0 x1 x2 x3 = some r) : Spec17 f := fun x0 x1 x2 x3 v0_ w0_ r hr => hg x0 x1 x2 x3 v0_ w0_ r (h x0 x1 x2 x3 r hr)
theorem R17_0 (pe : Nat → Fr17 → ASt → Prop) (pr : Fr17 → ASt → Prop) : Ref Cl P17_0 (Cat [true, true, true, true, false] (bodyOf Tryz.f17)) m17_0 (post P17_1 pe pr) := by
  rintro s ⟨t, h⟩ hp x s' hm
  have hp : P17_0' s t h := hp
  obtain ⟨i8, i9, hl, a8, g8, l8, a9, g9, l9, ne8_9⟩ := hp
  unfold m17_0 at hm
  have k10 : loadA h false 1 (.ptr i9 0) = some (.int .i64 s.t9.Set) := by rw [Heap.load_gen g9 (Nat.le_of_ble_eq_true rfl)]; first | rfl | exact ofc1 _ _ _
  have k11 : loadA h false 1 (.ptr i9 3) = some (.int .i64 s.t9.Rows) := by rw [Heap.load_gen g9 (Nat.le_of_ble_eq_true rfl)]; first | rfl | exact ofc1 _ _ _
  have bd12 : abuild Tryz.prog 35 [(1, .int .i64 s.t9.Set), (2, .int .i64 (if 0 > s.t9.Rows then 0 else s.t9.Rows))] = some (.agg [.bool false, .int .i64 s.t9.Set, .int .i64 (if 0 > s.t9.Rows then 0 else s.t9.Rows)]) := by simp only [TyB.bu35, List.getElem?_toArray, fillA, c_i, c_b, c_s, c_nl, c_np, c_ip, c_ls, bx_i, bx_b, bx_s, bx_a, bx_nl, bx_np, bx_ip, bx_ls, cl_i, cl_b, cl_s, cl_a, cl_nl, cl_np, cl_ip, cl_ls, List.all_cons, List.all_nil, List.length_cons, List.length_nil, Bool.and_self, Bool.and_true, setRange, List.set_cons_zero, List.set_cons_succ, Option.bind_eq_bind, Option.bind_some, Nat.zero_add, Nat.reduceAdd, and_self, Nat.reduceLeDiff, if_true, and_true, true_and, Nat.le_refl, Nat.zero_le, List.getElem?_cons_zero, List.getElem?_cons_succ, Option.map_some]
  obtain ⟨H13, eH13⟩ : ∃ x : AHeap, x = h.set i8 (some (.arr [.bool false, .int .i64 s.t9.Set, .int .i64 (if 0 > s.t9.Rows then 0 else s.t9.Rows)])) := ⟨_, rfl⟩
  have k14 : storeA h 3 (.ptr i8 0) (.agg [.bool false, .int .i64 s.t9.Set, .int .i64 (if 0 > s.t9.Rows then 0 else s.t9.Rows)]) = some H13 := by rw [eH13]; exact Heap.store_gen g8 (show (.agg [.bool false, .int .i64 s.t9.Set, .int .i64 (if 0 > s.t9.Rows then 0 else s.t9.Rows)] : AVal).cells = [.bool false, .int .i64 s.t9.Set, .int .i64 (if 0 > s.t9.Rows then 0 else s.t9.Rows)] by simp only [cl_i, cl_b, cl_s, cl_a, cl_nl, cl_np, cl_ip, cl_ls]) rfl (by simp only [List.all_cons, List.all_nil, Bool.and_self, Bool.and_true, c_i, c_b, c_s, c_nl, c_np, c_ip, c_ls]) (Nat.le_of_ble_eq_true rfl) rfl
  have k15 : H13.get i9 = some (.arr [.int .i64 s.t9.Set, .int .i64 s.t9.State, .int .i64 s.t9.Seq, .int .i64 s.t9.Rows, .int .i64 s.t9.Bytes, .int .i64 s.t9.Readers]) := by rw [eH13, Heap.get_set_ne (Ne.symm ne8_9)]; exact g9
  have k16 : i9 < H13.next := by rw [eH13]; exact l9
  have k17 : H13.get i8 = some (.arr [.bool false, .int .i64 s.t9.Set, .int .i64 (if 0 > s.t9.Rows then 0 else s.t9.Rows)]) := by rw [eH13]; exact Heap.get_set_eq
  have k18 : i8 < H13.next := by rw [eH13]; exact l8
  cases hm
  refine ⟨⟨_, _⟩, by
      simp only [bodyOf, Tryz.f17, Cat, Bool.false_eq_true, e_seq, e_region, e_cond, e_block, ex_skip, ex_exit, ex_ret, o_cons, xops_nil, k_want_none, k_want_false, k_val, k_pan, k_call, k_ret, k_seq, k_seq_exit, k_seq_ret, k_true, k_false, k_block, k_block_exit, k_block_ret, k_loop, k_loop_exit, k_loop_ret, awanted, aoper, evalO, put, Option.getD_some, List.getElem?_set, acallOp, abuiltin, List.map_cons, List.map_nil, Nat.reduceEqDiff, Nat.reduceLT, List.length_set, Option.map_some, Option.bind_some, Option.bind_eq_bind, add_i, sub_i, mul_i, eql_i, neq_i, lss_i, leq_i, gtr_i, geq_i, ofV, ofCell, ↓reduceIte, List.cons_append, List.nil_append, List.append_nil, List.getElem?_toArray, List.getElem?_cons_succ, List.getElem?_cons_zero, e_draw, g_nil, g_cons, g_want, g_skip, g_val, g_call, g_ret, Option.map_none, hl, a8, a9, CP, bq1, bq2, bq3, bq4, ex_tup, TyB.fa32_0, dropCells, Nat.zero_add, Nat.reduceAdd, k10, TyB.ld3, TyB.fa32_3, k11, max_ii, bd12, k14, TyB.st35]
      exact rfl, ?_⟩
  show P17_1 _ _
  exact ⟨i8, by simp [hl], by simp [a8], k17, k18⟩
theorem R17_1 (pe : Nat → Fr17 → ASt → Prop) (pr : Fr17 → ASt → Prop) : Ref Cl P17_2 (Cat [true, true, true, false, true, false, false] (bodyOf Tryz.f17)) m17_1 (post P17_1 pe pr) := by
  rintro s ⟨t, h⟩ hp x s' hm
  have hp : P17_2' s t h := hp
  obtain ⟨i8, hl, a3, a8, g8, l8⟩ := hp
  unfold m17_1 at hm
  have bd24 : abuild Tryz.prog 35 [(0, .bool true), (2, .int .i64 s.t3)] = some (.agg [.bool true, .int .i64 0, .int .i64 s.t3]) := by simp only [TyB.bu35, List.getElem?_toArray, fillA, c_i, c_b, c_s, c_nl, c_np, c_ip, c_ls, bx_i, bx_b, bx_s, bx_a, bx_nl, bx_np, bx_ip, bx_ls, cl_i, cl_b, cl_s, cl_a, cl_nl, cl_np, cl_ip, cl_ls, List.all_cons, List.all_nil, List.length_cons, List.length_nil, Bool.and_self, Bool.and_true, setRange, List.set_cons_zero, List.set_cons_succ, Option.bind_eq_bind, Option.bind_some, Nat.zero_add, Nat.reduceAdd, and_self, Nat.reduceLeDiff, if_true, and_true, true_and, Nat.le_refl, Nat.zero_le, List.getElem?_cons_zero, List.getElem?_cons_succ, Option.map_some]
  obtain ⟨H25, eH25⟩ : ∃ x : AHeap, x = h.set i8 (some (.arr [.bool true, .int .i64 0, .int .i64 s.t3])) := ⟨_, rfl⟩
  have k26 : storeA h 3 (.ptr i8 0) (.agg [.bool true, .int .i64 0, .int .i64 s.t3]) = some H25 := by rw [eH25]; exact Heap.store_gen g8 (show (.agg [.bool true, .int .i64 0, .int .i64 s.t3] : AVal).cells = [.bool true, .int .i64 0, .int .i64 s.t3] by simp only [cl_i, cl_b, cl_s, cl_a, cl_nl, cl_np, cl_ip, cl_ls]) rfl (by simp only [List.all_cons, List.all_nil, Bool.and_self, Bool.and_true, c_i, c_b, c_s, c_nl, c_np, c_ip, c_ls]) (Nat.le_of_ble_eq_true rfl) rfl
  have k27 : H25.get i8 = some (.arr [.bool true, .int .i64 0, .int .i64 s.t3]) := by rw [eH25]; exact Heap.get_set_eq
  have k28 : i8 < H25.next := by rw [eH25]; exact l8
  cases hm
  refine ⟨⟨_, _⟩, by
      simp only [bodyOf, Tryz.f17, Cat, Bool.false_eq_true, e_seq, e_region, e_cond, e_block, ex_skip, ex_exit, ex_ret, o_cons, xops_nil, k_want_none, k_want_false, k_val, k_pan, k_call, k_ret, k_seq, k_seq_exit, k_seq_ret, k_true, k_false, k_block, k_block_exit, k_block_ret, k_loop, k_loop_exit, k_loop_ret, awanted, aoper, evalO, put, Option.getD_some, List.getElem?_set, acallOp, abuiltin, List.map_cons, List.map_nil, Nat.reduceEqDiff, Nat.reduceLT, List.length_set, Option.map_some, Option.bind_some, Option.bind_eq_bind, add_i, sub_i, mul_i, eql_i, neq_i, lss_i, leq_i, gtr_i, geq_i, ofV, ofCell, ↓reduceIte, List.cons_append, List.nil_append, List.append_nil, List.getElem?_toArray, List.getElem?_cons_succ, List.getElem?_cons_zero, e_draw, g_nil, g_cons, g_want, g_skip, g_val, g_call, g_ret, Option.map_none, hl, a3, a8, CP, bq1, bq2, bq3, bq4, ex_tup, bd24, k26, TyB.st35]
      exact rfl, ?_⟩
  show P17_1 _ _
  exact ⟨i8, by simp [hl], by simp [a8], k27, k28⟩
theorem R17_2 (pe : Nat → Fr17 → ASt → Prop) (pr : Fr17 → ASt → Prop) : Ref Cl P17_4 (Cat [true, true, true, false, false] (bodyOf Tryz.f17)) m17_2 (post P17_3 pe pr) := by
  rintro s ⟨t, h⟩ hp x s' hm
  have hp : P17_4' s t h := hp
  obtain ⟨i8, i9, hl, a3, a8, g8, l8, a9, g9, l9, a10, ne8_9⟩ := hp
  unfold m17_2 at hm
  cases hb30 : (!s.t10) with
  | true =>
    all_goals (
      try simp only [hb30, cond_true, cond_false, Option.bind_some, Option.bind_assoc, Bool.not_true, Bool.not_false, Bool.true_and, Bool.false_and, Bool.and_true, Bool.and_false, Bool.true_or, Bool.false_or] at hm
      cases hm
      refine ⟨⟨_, _⟩, by
          simp only [bodyOf, Tryz.f17, Cat, Bool.false_eq_true, e_seq, e_region, e_cond, e_block, ex_skip, ex_exit, ex_ret, o_cons, xops_nil, k_want_none, k_want_false, k_val, k_pan, k_call, k_ret, k_seq, k_seq_exit, k_seq_ret, k_true, k_false, k_block, k_block_exit, k_block_ret, k_loop, k_loop_exit, k_loop_ret, awanted, aoper, evalO, put, Option.getD_some, List.getElem?_set, acallOp, abuiltin, List.map_cons, List.map_nil, Nat.reduceEqDiff, Nat.reduceLT, List.length_set, Option.map_some, Option.bind_some, Option.bind_eq_bind, add_i, sub_i, mul_i, eql_i, neq_i, lss_i, leq_i, gtr_i, geq_i, ofV, ofCell, ↓reduceIte, List.cons_append, List.nil_append, List.append_nil, List.getElem?_toArray, List.getElem?_cons_succ, List.getElem?_cons_zero, e_draw, g_nil, g_cons, g_want, g_skip, g_val, g_call, g_ret, Option.map_none, hl, a3, a8, a9, a10, CP, bq1, bq2, bq3, bq4, ex_tup, aun_not, hb30]
          exact rfl, ?_⟩
      show P17_3 _ _
      exact ⟨i8, i9, by simp [hl], by simp [a3], by simp [a8], g8, l8, by simp [a9], g9, l9, by simp [hl, hb30], ne8_9⟩)
  | false =>
    all_goals (
      try simp only [hb30, cond_true, cond_false, Option.bind_some, Option.bind_assoc, Bool.not_true, Bool.not_false, Bool.true_and, Bool.false_and, Bool.and_true, Bool.and_false, Bool.true_or, Bool.false_or] at hm
      have k31 : loadA h false 1 (.ptr i9 3) = some (.int .i64 s.t9.Rows) := by rw [Heap.load_gen g9 (Nat.le_of_ble_eq_true rfl)]; first | rfl | exact ofc1 _ _ _
      cases hm
      refine ⟨⟨_, _⟩, by
          simp only [bodyOf, Tryz.f17, Cat, Bool.false_eq_true, e_seq, e_region, e_cond, e_block, ex_skip, ex_exit, ex_ret, o_cons, xops_nil, k_want_none, k_want_false, k_val, k_pan, k_call, k_ret, k_seq, k_seq_exit, k_seq_ret, k_true, k_false, k_block, k_block_exit, k_block_ret, k_loop, k_loop_exit, k_loop_ret, awanted, aoper, evalO, put, Option.getD_some, List.getElem?_set, acallOp, abuiltin, List.map_cons, List.map_nil, Nat.reduceEqDiff, Nat.reduceLT, List.length_set, Option.map_some, Option.bind_some, Option.bind_eq_bind, add_i, sub_i, mul_i, eql_i, neq_i, lss_i, leq_i, gtr_i, geq_i, ofV, ofCell, ↓reduceIte, List.cons_append, List.nil_append, List.append_nil, List.getElem?_toArray, List.getElem?_cons_succ, List.getElem?_cons_zero, e_draw, g_nil, g_cons, g_want, g_skip, g_val, g_call, g_ret, Option.map_none, hl, a3, a8, a9, a10, CP, bq1, bq2, bq3, bq4, ex_tup, aun_not, TyB.fa32_3, dropCells, Nat.zero_add, Nat.reduceAdd, k31, TyB.ld3, hb30]
          exact rfl, ?_⟩
      show P17_3 _ _
      exact ⟨i8, i9, by simp [hl], by simp [a3], by simp [a8], g8, l8, by simp [a9], g9, l9, by simp [hl, hb30], ne8_9⟩)
theorem R17_3 (pe : Nat → Fr17 → ASt → Prop) (pr : Fr17 → ASt → Prop) : Ref Cl P17_5 (Cat [true, true, false] (bodyOf Tryz.f17)) m17_3 (post P17_4 pe pr) := by
  rintro s ⟨t, h⟩ hp x s' hm
  have hp : P17_5' s t h := hp
  obtain ⟨w1_0, i8, hl, a1, r1_0, a3, a4, a6, a8, g8, l8⟩ := hp
  unfold m17_3 at hm
  obtain ⟨z48, hz48, hm⟩ := Option.bind_eq_some_iff.1 hm
  have iu49 := G44_spec s.t1 (fun x0_ => G45 x0_ s.t6 s.t4) G46 _ r1_0 _ (show rFnB0 (fun x0_ => G45 x0_ s.t6 s.t4) (.fn (.func 45) [] [.iptr [.int .i64 s.t6], .iptr [.int .i64 s.t4]]) from ⟨45, [.iptr [.int .i64 s.t6], .iptr [.int .i64 s.t4]], rfl, by simp only [refsL, refs, List.append_nil, List.nil_append], rfl, fun x0_  r_ hr_ => G45_spec x0_ s.t6 s.t4   r_ hr_⟩) _ (show rFnB1 (G46) (.fn (.func 46) [] []) from ⟨46, [], rfl, rfl, rfl, G46_spec⟩) _ hz48
  obtain ⟨H50, eH50⟩ : ∃ x : AHeap, x = h.new (.arr [.int .i64 0, .int .i64 0, .int .i64 0, .int .i64 0, .int .i64 0, .int .i64 0]) := ⟨_, rfl⟩
  obtain ⟨id51, eid51⟩ : ∃ x : Nat, x = h.next := ⟨_, rfl⟩
  have k52 : H50.get i8 = some (.arr [.bool s.t8.Base, .int .i64 s.t8.Set, .int .i64 s.t8.Cost]) := by rw [eH50, Heap.get_new_lt l8]; exact g8
  have k53 : i8 < H50.next := by rw [eH50, Heap.new_next]; exact Nat.lt_succ_of_lt l8
  have k54 : H50.get id51 = some (.arr [.int .i64 0, .int .i64 0, .int .i64 0, .int .i64 0, .int .i64 0, .int .i64 0]) := by rw [eH50, eid51]; exact Heap.get_new_eq
  have k55 : id51 < H50.next := by rw [eH50, eid51, Heap.new_next]; exact Nat.lt_succ_self _
  have k56 : i8 ≠ id51 := by rw [eid51]; exact Nat.ne_of_lt l8
  have k57 : abox h (.agg [.int .i64 0, .int .i64 0, .int .i64 0, .int .i64 0, .int .i64 0, .int .i64 0]) = some (.ptr id51 0, H50) := by simp only [abox, eH50, eid51, bx_i, bx_b, bx_s, bx_a, bx_nl, bx_np, bx_ip, bx_ls, cl_i, cl_b, cl_s, cl_a, cl_nl, cl_np, cl_ip, cl_ls, List.all_cons, List.all_nil, Bool.and_self, Bool.and_true, c_i, c_b, c_s, c_nl, c_np, c_ip, c_ls, if_true]
  obtain ⟨H58, eH58⟩ : ∃ x : AHeap, x = H50.set id51 (some (.arr [.int .i64 z48.1.Set, .int .i64 z48.1.State, .int .i64 z48.1.Seq, .int .i64 z48.1.Rows, .int .i64 z48.1.Bytes, .int .i64 z48.1.Readers])) := ⟨_, rfl⟩
  have k59 : storeA H50 6 (.ptr id51 0) (.agg [.int .i64 z48.1.Set, .int .i64 z48.1.State, .int .i64 z48.1.Seq, .int .i64 z48.1.Rows, .int .i64 z48.1.Bytes, .int .i64 z48.1.Readers]) = some H58 := by rw [eH58]; exact Heap.store_gen k54 (show (.agg [.int .i64 z48.1.Set, .int .i64 z48.1.State, .int .i64 z48.1.Seq, .int .i64 z48.1.Rows, .int .i64 z48.1.Bytes, .int .i64 z48.1.Readers] : AVal).cells = [.int .i64 z48.1.Set, .int .i64 z48.1.State, .int .i64 z48.1.Seq, .int .i64 z48.1.Rows, .int .i64 z48.1.Bytes, .int .i64 z48.1.Readers] by simp only [cl_i, cl_b, cl_s, cl_a, cl_nl, cl_np, cl_ip, cl_ls]) rfl (by simp only [List.all_cons, List.all_nil, Bool.and_self, Bool.and_true, c_i, c_b, c_s, c_nl, c_np, c_ip, c_ls]) (Nat.le_of_ble_eq_true rfl) rfl
  have k60 : H58.get i8 = some (.arr [.bool s.t8.Base, .int .i64 s.t8.Set, .int .i64 s.t8.Cost]) := by rw [eH58, Heap.get_set_ne k56]; exact k52
  have k61 : i8 < H58.next := by rw [eH58]; exact k53
  have k62 : H58.get id51 = some (.arr [.int .i64 z48.1.Set, .int .i64 z48.1.State, .int .i64 z48.1.Seq, .int .i64 z48.1.Rows, .int .i64 z48.1.Bytes, .int .i64 z48.1.Readers]) := by rw [eH58]; exact Heap.get_set_eq
  have k63 : id51 < H58.next := by rw [eH58]; exact k55
  cases hm
  refine ⟨⟨_, _⟩, by
      simp only [bodyOf, Tryz.f17, Cat, Bool.false_eq_true, e_seq, e_region, e_cond, e_block, ex_skip, ex_exit, ex_ret, o_cons, xops_nil, k_want_none, k_want_false, k_val, k_pan, k_call, k_ret, k_seq, k_seq_exit, k_seq_ret, k_true, k_false, k_block, k_block_exit, k_block_ret, k_loop, k_loop_exit, k_loop_ret, awanted, aoper, evalO, put, Option.getD_some, List.getElem?_set, acallOp, abuiltin, List.map_cons, List.map_nil, Nat.reduceEqDiff, Nat.reduceLT, List.length_set, Option.map_some, Option.bind_some, Option.bind_eq_bind, add_i, sub_i, mul_i, eql_i, neq_i, lss_i, leq_i, gtr_i, geq_i, ofV, ofCell, ↓reduceIte, List.cons_append, List.nil_append, List.append_nil, List.getElem?_toArray, List.getElem?_cons_succ, List.getElem?_cons_zero, e_draw, g_nil, g_cons, g_want, g_skip, g_val, g_call, g_ret, Option.map_none, hl, a1, a3, a4, a6, a8, CP, bq1, bq2, bq3, bq4, ex_tup, iu49, TyB.ze32, TyB.own_plan_go_29, k57, k59, TyB.st32]
      exact rfl, ?_⟩
  show P17_4 _ _
  exact ⟨i8, id51, by simp [hl], by simp [a3], by simp [a8], k60, k61, by simp [hl], k62, k63, by simp [hl], k56⟩
theorem R17_4 (pe : Nat → Fr17 → ASt → Prop) (pr : Fr17 → ASt → Prop) : Ref Cl P17_5 (Cat [true, false] (bodyOf Tryz.f17)) m17_4 (post P17_5 pe pr) := by
  rintro s ⟨t, h⟩ hp x s' hm
  have hp : P17_5' s t h := hp
  obtain ⟨w1_0, i8, hl, a1, r1_0, a3, a4, a6, a8, g8, l8⟩ := hp
  unfold m17_4 at hm
  cases hm
  refine ⟨⟨_, _⟩, by
      simp only [bodyOf, Tryz.f17, Cat, Bool.false_eq_true, e_seq, e_region, e_cond, e_block, ex_skip, ex_exit, ex_ret, o_cons, xops_nil, k_want_none, k_want_false, k_val, k_pan, k_call, k_ret, k_seq, k_seq_exit, k_seq_ret, k_true, k_false, k_block, k_block_exit, k_block_ret, k_loop, k_loop_exit, k_loop_ret, awanted, aoper, evalO, put, Option.getD_some, List.getElem?_set, acallOp, abuiltin, List.map_cons, List.map_nil, Nat.reduceEqDiff, Nat.reduceLT, List.length_set, Option.map_some, Option.bind_some, Option.bind_eq_bind, add_i, sub_i, mul_i, eql_i, neq_i, lss_i, leq_i, gtr_i, geq_i, ofV, ofCell, ↓reduceIte, List.cons_append, List.nil_append, List.append_nil, List.getElem?_toArray, List.getElem?_cons_succ, List.getElem?_cons_zero, e_draw, g_nil, g_cons, g_want, g_skip, g_val, g_call, g_ret, Option.map_none, hl, a1, a3, a4, a6, a8, CP, bq1, bq2, bq3, bq4, ex_tup, max_ii]
      exact rfl, ?_⟩
  show P17_5 _ _
  exact ⟨w1_0, i8, by simp [hl], by simp [a1], r1_0, by simp [hl], by simp [a4], by simp [a6], by simp [a8], g8, l8⟩
theorem R17_5 (pe : Nat → Fr17 → ASt → Prop) (pr : Fr17 → ASt → Prop) : Ref Cl P17_6 (Cat [false] (bodyOf Tryz.f17)) m17_5 (post P17_5 pe pr) := by
  rintro s ⟨t, h⟩ hp x s' hm
  have hp : P17_6' s t h := hp
  obtain ⟨w1_0, hl, a0, a1, r1_0, a2, a3⟩ := hp
  unfold m17_5 at hm
  obtain ⟨H69, eH69⟩ : ∃ x : AHeap, x = h.new (.arr [.bool false, .int .i64 0, .int .i64 0]) := ⟨_, rfl⟩
  obtain ⟨id70, eid70⟩ : ∃ x : Nat, x = h.next := ⟨_, rfl⟩
  have k71 : H69.get id70 = some (.arr [.bool false, .int .i64 0, .int .i64 0]) := by rw [eH69, eid70]; exact Heap.get_new_eq
  have k72 : id70 < H69.next := by rw [eH69, eid70, Heap.new_next]; exact Nat.lt_succ_self _
  have k73 : abox h (.agg [.bool false, .int .i64 0, .int .i64 0]) = some (.ptr id70 0, H69) := by simp only [abox, eH69, eid70, bx_i, bx_b, bx_s, bx_a, bx_nl, bx_np, bx_ip, bx_ls, cl_i, cl_b, cl_s, cl_a, cl_nl, cl_np, cl_ip, cl_ls, List.all_cons, List.all_nil, Bool.and_self, Bool.and_true, c_i, c_b, c_s, c_nl, c_np, c_ip, c_ls, if_true]
  cases hm
  refine ⟨⟨_, _⟩, by
      simp only [bodyOf, Tryz.f17, Cat, Bool.false_eq_true, e_seq, e_region, e_cond, e_block, ex_skip, ex_exit, ex_ret, o_cons, xops_nil, k_want_none, k_want_false, k_val, k_pan, k_call, k_ret, k_seq, k_seq_exit, k_seq_ret, k_true, k_false, k_block, k_block_exit, k_block_ret, k_loop, k_loop_exit, k_loop_ret, awanted, aoper, evalO, put, Option.getD_some, List.getElem?_set, acallOp, abuiltin, List.map_cons, List.map_nil, Nat.reduceEqDiff, Nat.reduceLT, List.length_set, Option.map_some, Option.bind_some, Option.bind_eq_bind, add_i, sub_i, mul_i, eql_i, neq_i, lss_i, leq_i, gtr_i, geq_i, ofV, ofCell, ↓reduceIte, List.cons_append, List.nil_append, List.append_nil, List.getElem?_toArray, List.getElem?_cons_succ, List.getElem?_cons_zero, e_draw, g_nil, g_cons, g_want, g_skip, g_val, g_call, g_ret, Option.map_none, hl, a0, a1, a2, a3, CP, bq1, bq2, bq3, bq4, ex_tup, TyB.cb_parse_go_148, TyB.cb_parse_go_143, TyB.cb_parse_go_130, TyB.cb_plan_go_27, TyB.cb_plan_go_29, TyB.cb_plan_go_31, TyB.cb_plan_go_41, TyB.cb_cube_go_25, TyB.cb_law_go_47, bx_a, cl_a, bx_i, bx_b, bx_s, cl_i, cl_b, cl_s, List.all_cons, List.all_nil, Bool.and_self, Bool.and_true, c_i, c_b, c_s, c_nl, c_np, c_ip, c_ls, TyB.ze35, TyB.own_plan_go_27, k73]
      exact rfl, ?_⟩
  show P17_5 _ _
  exact ⟨w1_0, id70, by simp [hl], by simp [a1], r1_0, by simp [a3], by simp [hl], by simp [hl], by simp [hl], k71, k72⟩
theorem B17 : Ref Cl P17_6 (bodyOf Tryz.f17) (M17) (post P17_1 (fun _ _ _ => False) P17_1) := by
  rw [show bodyOf Tryz.f17 = .seq (Cat [false] (bodyOf Tryz.f17)) (.seq (Cat [true, false] (bodyOf Tryz.f17)) (.seq (Cat [true, true, false] (bodyOf Tryz.f17)) (.seq (.seq (Cat [true, true, true, false, false] (bodyOf Tryz.f17)) (.cond (.tmp 26) (.seq (Cat [true, true, true, false, true, false, false] (bodyOf Tryz.f17)) (.ret)) (.skip))) (.seq (Cat [true, true, true, true, false] (bodyOf Tryz.f17)) (.ret))))) from rfl]
  unfold M17
  exact ref_seq (M := P17_5) (R17_5 _ _) (ref_seq (M := P17_5) (R17_4 _ _) (ref_seq (M := P17_4) (R17_3 _ _) (ref_seq (M := P17_0) (ref_seq (M := P17_3) (R17_2 _ _) (ref_cond (P := P17_3) (c := fun s => s.t26) (fun s st hp => by obtain ⟨i8, i9, hl, a3, a8, g8, l8, a9, g9, l9, a26, ne8_9⟩ := (hp : P17_3' s st.tmps st.h); simp only [evalO, a26, Option.getD_some]) (ref_weak (P' := P17_2) (fun s st hp => by obtain ⟨i8, i9, hl, a3, a8, g8, l8, a9, g9, l9, a26, ne8_9⟩ := (hp : P17_3' s st.tmps st.h); exact (⟨i8, hl, a3, a8, g8, l8⟩ : P17_2' s st.tmps st.h)) (ref_seq (M := P17_1) (R17_1 _ _) (ref_ret (fun s st hp => hp)))) (ref_weak (P' := P17_0) (fun s st hp => by obtain ⟨i8, i9, hl, a3, a8, g8, l8, a9, g9, l9, a26, ne8_9⟩ := (hp : P17_3' s st.tmps st.h); exact (⟨i8, i9, hl, a8, g8, l8, a9, g9, l9, ne8_9⟩ : P17_0' s st.tmps st.h)) (ref_skip (fun s st hp => hp))))) (ref_seq (M := P17_1) (R17_0 _ _) (ref_ret (fun s st hp => hp))))))
noncomputable def G17 (x0 : Int) (x1 : (List ViewInfo)) (x2 : Int) (x3 : Int) : Option Plan := match M17 { (default : Fr17) with t0 := x0, t1 := x1, t2 := x2, t3 := x3 } with
  | some (.nrm, s) => some s.t8
  | some (.ret, s) => some s.t8
  | _ => none
theorem G17_spec : Spec17 (G17) := by
  intro x0 x1 x2 x3 vx1_0 hvx1_0 r hr
  unfold G17 at hr
  cases hm : M17 { (default : Fr17) with t0 := x0, t1 := x1, t2 := x2, t3 := x3 } with
  | none => rw [hm] at hr; cases hr
  | some q =>
    obtain ⟨x, s⟩ := q
    rw [hm] at hr
    have hx : x = .nrm ∨ x = .ret := by cases x <;> first | exact .inl rfl | exact .inr rfl | cases hr
    have hr : s.t8 = r := by cases x <;> first | exact Option.some.inj hr | cases hr
    subst hr
    have hp0 : P17_6' ({ (default : Fr17) with t0 := x0, t1 := x1, t2 := x2, t3 := x3 }) (slots Tryz.f17 (stripL [.int .i64 x0, vx1_0, .int .i64 x2, .int .i64 x3])) bare := ⟨(strip vx1_0 : AVal), rfl, rfl, rfl, hvx1_0.strip rViewInfo_p, rfl, rfl⟩
    obtain ⟨v, hR, hrun⟩ := run_of_ref (C := Cl) (f := 17) (fn := Tryz.f17) Tryz.func17 rfl rfl rfl rfl (args := [.int .i64 x0, vx1_0, .int .i64 x2, .int .i64 x3]) (by simp only [refsL, refs, List.append_nil, hvx1_0.refs rViewInfo_p]) (B17) (s0 := { (default : Fr17) with t0 := x0, t1 := x1, t2 := x2, t3 := x3 }) hp0 hm hx (R := fun v => v = .agg [.bool s.t8.Base, .int .i64 s.t8.Set, .int .i64 s.t8.Cost]) (by
      have key : ∀ st : ASt, P17_1 s st → ∃ vs v, aresults Cl Tryz.f17.results.toList st = some vs ∧ Nrm [] st.h (packRes vs) v ∧ (fun v => v = .agg [.bool s.t8.Base, .int .i64 s.t8.Set, .int .i64 s.t8.Cost]) v := by
        intro st hp
        obtain ⟨i8, hl, a8, g8, l8⟩ := (hp : P17_1' s st.tmps st.h)
        have ld8 : loadA st.h true 3 (.ptr i8 0) = some (.agg [.bool s.t8.Base, .int .i64 s.t8.Set, .int .i64 s.t8.Cost]) := by rw [Heap.load_gen g8 (Nat.zero_le _)]; first | rfl | exact ofc3 _ _ _ _
        exact ⟨[.agg [.bool s.t8.Base, .int .i64 s.t8.Set, .int .i64 s.t8.Cost]], _, by simp only [show Tryz.f17.results.toList = [ResultVar.cell 8 35] from rfl, aresults, ares1, CP, a8, Option.getD_some, ld8, TyB.ld35], (Nrm.of (w := .agg [.bool s.t8.Base, .int .i64 s.t8.Set, .int .i64 s.t8.Cost]) (by simp only [refsL, refs, List.append_nil])), rfl⟩
      intro st hq
      rcases hx with rfl | rfl
      · exact key st hq
      · exact key st hq)
    subst hR
    exact hrun
/-! ### caisson/plan.Choose -/
structure Fr6 where
  t0 : Bound
  t1 : (List ViewInfo)
  t2 : Int
  t3 : Int
  t4 : Bound
  t8 : Plan
  t9 : Int
  t10 : Bool
  t16 : Bool
instance : Inhabited Fr6 := ⟨⟨default, [], 0, 0, default, default, 0, false, false⟩⟩
def P6_0' (s : Fr6) (t : List AVal) (h : AHeap) : Prop := ∃ w1_0 i8, t.length = 22 ∧ t[1]? = some w1_0 ∧ Sl rViewInfo s.t1 w1_0 ∧ t[2]? = some (.int .i64 s.t2) ∧ t[3]? = some (.int .i64 s.t3) ∧ t[8]? = some (.ptr i8 0) ∧ h.get i8 = some (.arr [.bool s.t8.Base, .int .i64 s.t8.Set, .int .i64 s.t8.Cost]) ∧ i8 < h.next ∧ t[9]? = some (.int .i64 s.t9)
def P6_0 (s : Fr6) (st : ASt) : Prop := P6_0' s st.tmps st.h
def P6_1' (s : Fr6) (t : List AVal) (h : AHeap) : Prop := ∃ i8, t.length = 22 ∧ t[8]? = some (.ptr i8 0) ∧ h.get i8 = some (.arr [.bool s.t8.Base, .int .i64 s.t8.Set, .int .i64 s.t8.Cost]) ∧ i8 < h.next
def P6_1 (s : Fr6) (st : ASt) : Prop := P6_1' s st.tmps st.h
def P6_2' (s : Fr6) (t : List AVal) (h : AHeap) : Prop := ∃ i8, t.length = 22 ∧ t[2]? = some (.int .i64 s.t2) ∧ t[3]? = some (.int .i64 s.t3) ∧ t[8]? = some (.ptr i8 0) ∧ h.get i8 = some (.arr [.bool s.t8.Base, .int .i64 s.t8.Set, .int .i64 s.t8.Cost]) ∧ i8 < h.next ∧ t[9]? = some (.int .i64 s.t9)
def P6_2 (s : Fr6) (st : ASt) : Prop := P6_2' s st.tmps st.h
def P6_3' (s : Fr6) (t : List AVal) (h : AHeap) : Prop := ∃ w1_0 i8, t.length = 22 ∧ t[1]? = some w1_0 ∧ Sl rViewInfo s.t1 w1_0 ∧ t[2]? = some (.int .i64 s.t2) ∧ t[3]? = some (.int .i64 s.t3) ∧ t[8]? = some (.ptr i8 0) ∧ h.get i8 = some (.arr [.bool s.t8.Base, .int .i64 s.t8.Set, .int .i64 s.t8.Cost]) ∧ i8 < h.next ∧ t[9]? = some (.int .i64 s.t9) ∧ t[16]? = some (.bool s.t16)
def P6_3 (s : Fr6) (st : ASt) : Prop := P6_3' s st.tmps st.h
def P6_4' (s : Fr6) (t : List AVal) (h : AHeap) : Prop := ∃ w1_0 i8, t.length = 22 ∧ t[1]? = some w1_0 ∧ Sl rViewInfo s.t1 w1_0 ∧ t[2]? = some (.int .i64 s.t2) ∧ t[3]? = some (.int .i64 s.t3) ∧ t[8]? = some (.ptr i8 0) ∧ h.get i8 = some (.arr [.bool s.t8.Base, .int .i64 s.t8.Set, .int .i64 s.t8.Cost]) ∧ i8 < h.next ∧ t[9]? = some (.int .i64 s.t9) ∧ t[10]? = some (.bool s.t10)
def P6_4 (s : Fr6) (st : ASt) : Prop := P6_4' s st.tmps st.h
def P6_5' (s : Fr6) (t : List AVal) (h : AHeap) : Prop := ∃ w1_0 w4_0 w4_1 w4_2 w4_3 i8, t.length = 22 ∧ t[1]? = some w1_0 ∧ Sl rViewInfo s.t1 w1_0 ∧ t[2]? = some (.int .i64 s.t2) ∧ t[3]? = some (.int .i64 s.t3) ∧ t[4]? = some (.iptr [w4_0, w4_1, w4_2, w4_3]) ∧ Sl rPick s.t4.Picks w4_0 ∧ Sl rS s.t4.Names w4_1 ∧ rTestT s.t4.Where [w4_2] ∧ Sl (rI .i64) s.t4.Sets w4_3 ∧ t[8]? = some (.ptr i8 0) ∧ h.get i8 = some (.arr [.bool s.t8.Base, .int .i64 s.t8.Set, .int .i64 s.t8.Cost]) ∧ i8 < h.next
def P6_5 (s : Fr6) (st : ASt) : Prop := P6_5' s st.tmps st.h
def P6_6' (s : Fr6) (t : List AVal) (h : AHeap) : Prop := ∃ w0_0 w0_1 w0_2 w0_3 w1_0, t.length = 22 ∧ t[0]? = some (.agg [w0_0, w0_1, w0_2, w0_3]) ∧ Sl rPick s.t0.Picks w0_0 ∧ Sl rS s.t0.Names w0_1 ∧ rTestT s.t0.Where [w0_2] ∧ Sl (rI .i64) s.t0.Sets w0_3 ∧ t[1]? = some w1_0 ∧ Sl rViewInfo s.t1 w1_0 ∧ t[2]? = some (.int .i64 s.t2) ∧ t[3]? = some (.int .i64 s.t3)
def P6_6 (s : Fr6) (st : ASt) : Prop := P6_6' s st.tmps st.h
noncomputable def m6_0 : Mo Fr6 := fun s => (G17 s.t9 s.t1 s.t2 s.t3).bind fun z1 => some (.nrm, { s with t8 := z1 })
noncomputable def m6_1 : Mo Fr6 := fun s => some (.nrm, { s with t1 := [] })
noncomputable def m6_2 : Mo Fr6 := fun s => some (.nrm, { s with t16 := s.t10 })
noncomputable def m6_3 : Mo Fr6 := fun s => (G7 s.t4).bind fun z13 => some (.nrm, { s with t9 := z13.1, t10 := z13.2 })
noncomputable def m6_4 : Mo Fr6 := fun s => some (.nrm, { s with t4 := s.t0, t8 := { Base := false, Set := 0, Cost := 0 } })
noncomputable def M6 : Mo Fr6 := seqM (m6_4) (seqM (m6_3) (seqM (seqM (m6_2) (condM (fun s => s.t16) (m6_1) (skipM))) (seqM (m6_0) (retM))))
def Spec6 (f : Bound → (List ViewInfo) → Int → Int → Option Plan) : Prop := ∀ (x0 : Bound) (x1 : (List ViewInfo)) (x2 : Int) (x3 : Int) (vx0_0 : AVal) (_ : Sl rPick x0.Picks vx0_0) (vx0_1 : AVal) (_ : Sl rS x0.Names vx0_1) (vx0_2 : AVal) (_ : rTestT x0.Where [vx0_2]) (vx0_3 : AVal) (_ : Sl (rI .i64) x0.Sets vx0_3) (vx1_0 : AVal) (_ : Sl rViewInfo x1 vx1_0) (r : Plan), f x0 x1 x2 x3 = some r → ∀ h, run Cl 6 [.agg [vx0_0, vx0_1, vx0_2, vx0_3], vx1_0, .int .i64 x2, .int .i64 x3] h = some (.ret (.agg [.bool r.Base, .int .i64 r.Set, .int .i64 r.Cost]), h)
theorem Spec6_of {f g : Bound → (List ViewInfo) → Int → Int → Option Plan} (hg : Spec6 g) (h : ∀ x0 x1 x2 x3 r, f x0 x1 x2 x3 = some r → g x0 x1 x2 x3 = some r) : Spec6 f := fun x0 x1 x2 x3 v0_ w0_ v1_ w1_ v2_ w2_ v3_ w3_ v4_ w4_ r hr => hg x0 x1 x2 x3 v0_ w0_ v1_ w1_ v2_ w2_ v3_ w3_ v4_ w4_ r (h x0 x1 x2 x3 r hr)
theorem R6_0 (pe : Nat → Fr6 → ASt → Prop) (pr : Fr6 → ASt → Prop) : Ref Cl P6_0 (Cat [true, true, true, false] (bodyOf Tryz.f6)) m6_0 (post P6_1 pe pr) := by
  rintro s ⟨t, h⟩ hp x s' hm
  have hp : P6_0' s t h := hp
  obtain ⟨w1_0, i8, hl, a1, r1_0, a2, a3, a8, g8, l8, a9⟩ := hp
  unfold m6_0 at hm
  obtain ⟨z7, hz7, hm⟩ := Option.bind_eq_some_iff.1 hm
  have iu8 := G17_spec s.t9 s.t1 s.t2 s.t3 _ r1_0 _ hz7
  obtain ⟨H9, eH9⟩ : ∃ x : AHeap, x = h.set i8 (some (.arr [.bool z7.Base, .int .i64 z7.Set, .int .i64 z7.Cost])) := ⟨_, rfl⟩
  have k10 : storeA h 3 (.ptr i8 0) (.agg [.bool z7.Base, .int .i64 z7.Set, .int .i64 z7.Cost]) = some H9 := by rw [eH9]; exact Heap.store_gen g8 (show (.agg [.bool z7.Base, .int .i64 z7.Set, .int .i64 z7.Cost] : AVal).cells = [.bool z7.Base, .int .i64 z7.Set, .int .i64 z7.Cost] by simp only [cl_i, cl_b, cl_s, cl_a, cl_nl, cl_np, cl_ip, cl_ls]) rfl (by simp only [List.all_cons, List.all_nil, Bool.and_self, Bool.and_true, c_i, c_b, c_s, c_nl, c_np, c_ip, c_ls]) (Nat.le_of_ble_eq_true rfl) rfl
  have k11 : H9.get i8 = some (.arr [.bool z7.Base, .int .i64 z7.Set, .int .i64 z7.Cost]) := by rw [eH9]; exact Heap.get_set_eq
  have k12 : i8 < H9.next := by rw [eH9]; exact l8
  cases hm
  refine ⟨⟨_, _⟩, by
      simp only [bodyOf, Tryz.f6, Cat, Bool.false_eq_true, e_seq, e_region, e_cond, e_block, ex_skip, ex_exit, ex_ret, o_cons, xops_nil, k_want_none, k_want_false, k_val, k_pan, k_call, k_ret, k_seq, k_seq_exit, k_seq_ret, k_true, k_false, k_block, k_block_exit, k_block_ret, k_loop, k_loop_exit, k_loop_ret, awanted, aoper, evalO, put, Option.getD_some, List.getElem?_set, acallOp, abuiltin, List.map_cons, List.map_nil, Nat.reduceEqDiff, Nat.reduceLT, List.length_set, Option.map_some, Option.bind_some, Option.bind_eq_bind, add_i, sub_i, mul_i, eql_i, neq_i, lss_i, leq_i, gtr_i, geq_i, ofV, ofCell, ↓reduceIte, List.cons_append, List.nil_append, List.append_nil, List.getElem?_toArray, List.getElem?_cons_succ, List.getElem?_cons_zero, e_draw, g_nil, g_cons, g_want, g_skip, g_val, g_call, g_ret, Option.map_none, hl, a1, a2, a3, a8, a9, CP, bq1, bq2, bq3, bq4, ex_tup, iu8, k10, TyB.st35]
      exact rfl, ?_⟩
  show P6_1 _ _
  exact ⟨i8, by simp [hl], by simp [a8], k11, k12⟩
theorem R6_1 (pe : Nat → Fr6 → ASt → Prop) (pr : Fr6 → ASt → Prop) : Ref Cl P6_2 (Cat [true, true, false, true, false] (bodyOf Tryz.f6)) m6_1 (post P6_0 pe pr) := by
  rintro s ⟨t, h⟩ hp x s' hm
  have hp : P6_2' s t h := hp
  obtain ⟨i8, hl, a2, a3, a8, g8, l8, a9⟩ := hp
  unfold m6_1 at hm
  cases hm
  refine ⟨⟨_, _⟩, by
      simp only [bodyOf, Tryz.f6, Cat, Bool.false_eq_true, e_seq, e_region, e_cond, e_block, ex_skip, ex_exit, ex_ret, o_cons, xops_nil, k_want_none, k_want_false, k_val, k_pan, k_call, k_ret, k_seq, k_seq_exit, k_seq_ret, k_true, k_false, k_block, k_block_exit, k_block_ret, k_loop, k_loop_exit, k_loop_ret, awanted, aoper, evalO, put, Option.getD_some, List.getElem?_set, acallOp, abuiltin, List.map_cons, List.map_nil, Nat.reduceEqDiff, Nat.reduceLT, List.length_set, Option.map_some, Option.bind_some, Option.bind_eq_bind, add_i, sub_i, mul_i, eql_i, neq_i, lss_i, leq_i, gtr_i, geq_i, ofV, ofCell, ↓reduceIte, List.cons_append, List.nil_append, List.append_nil, List.getElem?_toArray, List.getElem?_cons_succ, List.getElem?_cons_zero, e_draw, g_nil, g_cons, g_want, g_skip, g_val, g_call, g_ret, Option.map_none, hl, a2, a3, a8, a9, CP, bq1, bq2, bq3, bq4, ex_tup]
      exact rfl, ?_⟩
  show P6_0 _ _
  exact ⟨(.nilSl : AVal), i8, by simp [hl], by simp [hl], Sl.nil, by simp [a2], by simp [a3], by simp [a8], g8, l8, by simp [a9]⟩
theorem R6_2 (pe : Nat → Fr6 → ASt → Prop) (pr : Fr6 → ASt → Prop) : Ref Cl P6_4 (Cat [true, true, false, false] (bodyOf Tryz.f6)) m6_2 (post P6_3 pe pr) := by
  rintro s ⟨t, h⟩ hp x s' hm
  have hp : P6_4' s t h := hp
  obtain ⟨w1_0, i8, hl, a1, r1_0, a2, a3, a8, g8, l8, a9, a10⟩ := hp
  unfold m6_2 at hm
  cases hm
  refine ⟨⟨_, _⟩, by
      simp only [bodyOf, Tryz.f6, Cat, Bool.false_eq_true, e_seq, e_region, e_cond, e_block, ex_skip, ex_exit, ex_ret, o_cons, xops_nil, k_want_none, k_want_false, k_val, k_pan, k_call, k_ret, k_seq, k_seq_exit, k_seq_ret, k_true, k_false, k_block, k_block_exit, k_block_ret, k_loop, k_loop_exit, k_loop_ret, awanted, aoper, evalO, put, Option.getD_some, List.getElem?_set, acallOp, abuiltin, List.map_cons, List.map_nil, Nat.reduceEqDiff, Nat.reduceLT, List.length_set, Option.map_some, Option.bind_some, Option.bind_eq_bind, add_i, sub_i, mul_i, eql_i, neq_i, lss_i, leq_i, gtr_i, geq_i, ofV, ofCell, ↓reduceIte, List.cons_append, List.nil_append, List.append_nil, List.getElem?_toArray, List.getElem?_cons_succ, List.getElem?_cons_zero, e_draw, g_nil, g_cons, g_want, g_skip, g_val, g_call, g_ret, Option.map_none, hl, a1, a2, a3, a8, a9, a10, CP, bq1, bq2, bq3, bq4, ex_tup]
      exact rfl, ?_⟩
  show P6_3 _ _
  exact ⟨w1_0, i8, by simp [hl], by simp [a1], r1_0, by simp [a2], by simp [a3], by simp [a8], g8, l8, by simp [a9], by simp [hl]⟩
theorem R6_3 (pe : Nat → Fr6 → ASt → Prop) (pr : Fr6 → ASt → Prop) : Ref Cl P6_5 (Cat [true, false] (bodyOf Tryz.f6)) m6_3 (post P6_4 pe pr) := by
  rintro s ⟨t, h⟩ hp x s' hm
  have hp : P6_5' s t h := hp
  obtain ⟨w1_0, w4_0, w4_1, w4_2, w4_3, i8, hl, a1, r1_0, a2, a3, a4, r4_0, r4_1, r4_2, r4_3, a8, g8, l8⟩ := hp
  unfold m6_3 at hm
  obtain ⟨z15, hz15, hm⟩ := Option.bind_eq_some_iff.1 hm
  have iu16 := G7_spec s.t4 _ r4_0 _ r4_1 _ r4_2 _ r4_3 _ hz15
  cases hm
  refine ⟨⟨_, _⟩, by
      simp only [bodyOf, Tryz.f6, Cat, Bool.false_eq_true, e_seq, e_region, e_cond, e_block, ex_skip, ex_exit, ex_ret, o_cons, xops_nil, k_want_none, k_want_false, k_val, k_pan, k_call, k_ret, k_seq, k_seq_exit, k_seq_ret, k_true, k_false, k_block, k_block_exit, k_block_ret, k_loop, k_loop_exit, k_loop_ret, awanted, aoper, evalO, put, Option.getD_some, List.getElem?_set, acallOp, abuiltin, List.map_cons, List.map_nil, Nat.reduceEqDiff, Nat.reduceLT, List.length_set, Option.map_some, Option.bind_some, Option.bind_eq_bind, add_i, sub_i, mul_i, eql_i, neq_i, lss_i, leq_i, gtr_i, geq_i, ofV, ofCell, ↓reduceIte, List.cons_append, List.nil_append, List.append_nil, List.getElem?_toArray, List.getElem?_cons_succ, List.getElem?_cons_zero, e_draw, g_nil, g_cons, g_want, g_skip, g_val, g_call, g_ret, Option.map_none, hl, a1, a2, a3, a4, a8, CP, bq1, bq2, bq3, bq4, ex_tup, TyB.ld27, ld_ip, ofc4, List.drop_succ_cons, List.drop_zero, List.length_cons, List.length_nil, iu16]
      exact rfl, ?_⟩
  show P6_4 _ _
  exact ⟨w1_0, i8, by simp [hl], by simp [a1], r1_0, by simp [a2], by simp [a3], by simp [a8], g8, l8, by simp [hl], by simp [hl]⟩
theorem R6_4 (pe : Nat → Fr6 → ASt → Prop) (pr : Fr6 → ASt → Prop) : Ref Cl P6_6 (Cat [false] (bodyOf Tryz.f6)) m6_4 (post P6_5 pe pr) := by
  rintro s ⟨t, h⟩ hp x s' hm
  have hp : P6_6' s t h := hp
  obtain ⟨w0_0, w0_1, w0_2, w0_3, w1_0, hl, a0, r0_0, r0_1, r0_2, r0_3, a1, r1_0, a2, a3⟩ := hp
  unfold m6_4 at hm
  have ic26 : (w0_0 : AVal).isCell = true := Sl.isCell r0_0
  have ic27 : (w0_1 : AVal).isCell = true := Sl.isCell r0_1
  have ic28 : (w0_2 : AVal).isCell = true := rTestT_cell r0_2
  have ic29 : (w0_3 : AVal).isCell = true := Sl.isCell r0_3
  obtain ⟨H30, eH30⟩ : ∃ x : AHeap, x = h.new (.arr [.bool false, .int .i64 0, .int .i64 0]) := ⟨_, rfl⟩
  obtain ⟨id31, eid31⟩ : ∃ x : Nat, x = h.next := ⟨_, rfl⟩
  have k32 : H30.get id31 = some (.arr [.bool false, .int .i64 0, .int .i64 0]) := by rw [eH30, eid31]; exact Heap.get_new_eq
  have k33 : id31 < H30.next := by rw [eH30, eid31, Heap.new_next]; exact Nat.lt_succ_self _
  have k34 : abox h (.agg [.bool false, .int .i64 0, .int .i64 0]) = some (.ptr id31 0, H30) := by simp only [abox, eH30, eid31, bx_i, bx_b, bx_s, bx_a, bx_nl, bx_np, bx_ip, bx_ls, cl_i, cl_b, cl_s, cl_a, cl_nl, cl_np, cl_ip, cl_ls, List.all_cons, List.all_nil, Bool.and_self, Bool.and_true, c_i, c_b, c_s, c_nl, c_np, c_ip, c_ls, if_true]
  cases hm
  refine ⟨⟨_, _⟩, by
      simp only [bodyOf, Tryz.f6, Cat, Bool.false_eq_true, e_seq, e_region, e_cond, e_block, ex_skip, ex_exit, ex_ret, o_cons, xops_nil, k_want_none, k_want_false, k_val, k_pan, k_call, k_ret, k_seq, k_seq_exit, k_seq_ret, k_true, k_false, k_block, k_block_exit, k_block_ret, k_loop, k_loop_exit, k_loop_ret, awanted, aoper, evalO, put, Option.getD_some, List.getElem?_set, acallOp, abuiltin, List.map_cons, List.map_nil, Nat.reduceEqDiff, Nat.reduceLT, List.length_set, Option.map_some, Option.bind_some, Option.bind_eq_bind, add_i, sub_i, mul_i, eql_i, neq_i, lss_i, leq_i, gtr_i, geq_i, ofV, ofCell, ↓reduceIte, List.cons_append, List.nil_append, List.append_nil, List.getElem?_toArray, List.getElem?_cons_succ, List.getElem?_cons_zero, e_draw, g_nil, g_cons, g_want, g_skip, g_val, g_call, g_ret, Option.map_none, hl, a0, a1, a2, a3, CP, bq1, bq2, bq3, bq4, ex_tup, TyB.cb_parse_go_148, TyB.cb_parse_go_143, TyB.cb_parse_go_130, TyB.cb_plan_go_27, TyB.cb_plan_go_29, TyB.cb_plan_go_31, TyB.cb_plan_go_41, TyB.cb_cube_go_25, TyB.cb_law_go_47, ic26, bx_c ic26, cl_c ic26, ic27, bx_c ic27, cl_c ic27, ic28, bx_c ic28, cl_c ic28, ic29, bx_c ic29, cl_c ic29, bx_a, cl_a, bx_i, bx_b, bx_s, cl_i, cl_b, cl_s, List.all_cons, List.all_nil, Bool.and_self, Bool.and_true, c_i, c_b, c_s, c_nl, c_np, c_ip, c_ls, TyB.ze35, TyB.own_plan_go_41, k34]
      exact rfl, ?_⟩
  show P6_5 _ _
  exact ⟨w1_0, w0_0, w0_1, w0_2, w0_3, id31, by simp [hl], by simp [a1], r1_0, by simp [a2], by simp [a3], by simp [hl], r0_0, r0_1, r0_2, r0_3, by simp [hl], k32, k33⟩
theorem B6 : Ref Cl P6_6 (bodyOf Tryz.f6) (M6) (post P6_1 (fun _ _ _ => False) P6_1) := by
  rw [show bodyOf Tryz.f6 = .seq (Cat [false] (bodyOf Tryz.f6)) (.seq (Cat [true, false] (bodyOf Tryz.f6)) (.seq (.seq (Cat [true, true, false, false] (bodyOf Tryz.f6)) (.cond (.tmp 16) (Cat [true, true, false, true, false] (bodyOf Tryz.f6)) (.skip))) (.seq (Cat [true, true, true, false] (bodyOf Tryz.f6)) (.ret)))) from rfl]
  unfold M6
  exact ref_seq (M := P6_5) (R6_4 _ _) (ref_seq (M := P6_4) (R6_3 _ _) (ref_seq (M := P6_0) (ref_seq (M := P6_3) (R6_2 _ _) (ref_cond (P := P6_3) (c := fun s => s.t16) (fun s st hp => by obtain ⟨w1_0, i8, hl, a1, r1_0, a2, a3, a8, g8, l8, a9, a16⟩ := (hp : P6_3' s st.tmps st.h); simp only [evalO, a16, Option.getD_some]) (ref_weak (P' := P6_2) (fun s st hp => by obtain ⟨w1_0, i8, hl, a1, r1_0, a2, a3, a8, g8, l8, a9, a16⟩ := (hp : P6_3' s st.tmps st.h); exact (⟨i8, hl, a2, a3, a8, g8, l8, a9⟩ : P6_2' s st.tmps st.h)) (R6_1 _ _)) (ref_weak (P' := P6_0) (fun s st hp => by obtain ⟨w1_0, i8, hl, a1, r1_0, a2, a3, a8, g8, l8, a9, a16⟩ := (hp : P6_3' s st.tmps st.h); exact (⟨w1_0, i8, hl, a1, r1_0, a2, a3, a8, g8, l8, a9⟩ : P6_0' s st.tmps st.h)) (ref_skip (fun s st hp => hp))))) (ref_seq (M := P6_1) (R6_0 _ _) (ref_ret (fun s st hp => hp)))))
noncomputable def G6 (x0 : Bound) (x1 : (List ViewInfo)) (x2 : Int) (x3 : Int) : Option Plan := match M6 { (default : Fr6) with t0 := x0, t1 := x1, t2 := x2, t3 := x3 } with
  | some (.nrm, s) => some s.t8
  | some (.ret, s) => some s.t8
  | _ => none
theorem G6_spec : Spec6 (G6) := by
  intro x0 x1 x2 x3 vx0_0 hvx0_0 vx0_1 hvx0_1 vx0_2 hvx0_2 vx0_3 hvx0_3 vx1_0 hvx1_0 r hr
  unfold G6 at hr
  cases hm : M6 { (default : Fr6) with t0 := x0, t1 := x1, t2 := x2, t3 := x3 } with
  | none => rw [hm] at hr; cases hr
  | some q =>
    obtain ⟨x, s⟩ := q
    rw [hm] at hr
    have hx : x = .nrm ∨ x = .ret := by cases x <;> first | exact .inl rfl | exact .inr rfl | cases hr
    have hr : s.t8 = r := by cases x <;> first | exact Option.some.inj hr | cases hr
    subst hr
    have hp0 : P6_6' ({ (default : Fr6) with t0 := x0, t1 := x1, t2 := x2, t3 := x3 }) (slots Tryz.f6 (stripL [.agg [vx0_0, vx0_1, vx0_2, vx0_3], vx1_0, .int .i64 x2, .int .i64 x3])) bare := ⟨(strip vx0_0 : AVal), (strip vx0_1 : AVal), (strip vx0_2 : AVal), (strip vx0_3 : AVal), (strip vx1_0 : AVal), rfl, rfl, hvx0_0.strip rPick_p, hvx0_1.strip rS_p, rTestT_p.str _ _ hvx0_2, hvx0_3.strip (rI_p .i64), rfl, hvx1_0.strip rViewInfo_p, rfl, rfl⟩
    obtain ⟨v, hR, hrun⟩ := run_of_ref (C := Cl) (f := 6) (fn := Tryz.f6) Tryz.func6 rfl rfl rfl rfl (args := [.agg [vx0_0, vx0_1, vx0_2, vx0_3], vx1_0, .int .i64 x2, .int .i64 x3]) (by simp only [refsL, refs, List.append_nil, hvx0_0.refs rPick_p, hvx0_1.refs rS_p, refs_one (rTestT_p.ref _ _ hvx0_2), hvx0_3.refs (rI_p .i64), hvx1_0.refs rViewInfo_p]) (B6) (s0 := { (default : Fr6) with t0 := x0, t1 := x1, t2 := x2, t3 := x3 }) hp0 hm hx (R := fun v => v = .agg [.bool s.t8.Base, .int .i64 s.t8.Set, .int .i64 s.t8.Cost]) (by
      have key : ∀ st : ASt, P6_1 s st → ∃ vs v, aresults Cl Tryz.f6.results.toList st = some vs ∧ Nrm [] st.h (packRes vs) v ∧ (fun v => v = .agg [.bool s.t8.Base, .int .i64 s.t8.Set, .int .i64 s.t8.Cost]) v := by
        intro st hp
        obtain ⟨i8, hl, a8, g8, l8⟩ := (hp : P6_1' s st.tmps st.h)
        have ld8 : loadA st.h true 3 (.ptr i8 0) = some (.agg [.bool s.t8.Base, .int .i64 s.t8.Set, .int .i64 s.t8.Cost]) := by rw [Heap.load_gen g8 (Nat.zero_le _)]; first | rfl | exact ofc3 _ _ _ _
        exact ⟨[.agg [.bool s.t8.Base, .int .i64 s.t8.Set, .int .i64 s.t8.Cost]], _, by simp only [show Tryz.f6.results.toList = [ResultVar.cell 8 35] from rfl, aresults, ares1, CP, a8, Option.getD_some, ld8, TyB.ld35], (Nrm.of (w := .agg [.bool s.t8.Base, .int .i64 s.t8.Set, .int .i64 s.t8.Cost]) (by simp only [refsL, refs, List.append_nil])), rfl⟩
      intro st hq
      rcases hx with rfl | rfl
      · exact key st hq
      · exact key st hq)
    subst hR
    exact hrun
/-! ### caisson/caissonlaw19.awake -/
def Spec5 (f : Option Bool) : Prop := ∀ (r : Bool), f  = some r → ∀ h, run Cl 5 [] h = some (.ret (.bool r), h)
end Go.Proofs.Pln
