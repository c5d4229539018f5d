/-
  PLAN: functions (printed by wip/tools/tg.py).
-/
import Derived.Test.YtijnepmlnfcpnabGreatDoorPlnTypes
set_option linter.unusedVariables false
set_option linter.unusedSimpArgs false
set_option linter.unusedSimpArgs false
set_option linter.unusedVariables false
set_option maxRecDepth 100000
namespace Go.Proofs.Pln
open Go Go.Am Go.Proofs
def rFn0 (g : (ViewInfo → Option Bool)) (v : AVal) : Prop := ∃ F L, v = .fn (.func F) [] L ∧ refsL L = [] ∧ stripL L = L ∧ ∀ (x0 : ViewInfo) (r : Bool), g x0 = some r → ∀ h, run Cl F (.agg [.int .i64 x0.Set, .int .i64 x0.State, .int .i64 x0.Seq, .int .i64 x0.Rows, .int .i64 x0.Bytes, .int .i64 x0.Readers] :: L) h = some (.ret (.bool r), h)
theorem rFn0_strip {g : (ViewInfo → Option Bool)} {v : AVal} (h : rFn0 g v) : rFn0 g (strip v) := by
  obtain ⟨F, L, rfl, rL, sL, H⟩ := h
  exact ⟨F, L, by simp only [strip, stripL, sL], rL, sL, H⟩
theorem rFn0_refs {g : (ViewInfo → Option Bool)} {v : AVal} (h : rFn0 g v) : refs v = [] := by
  obtain ⟨F, L, rfl, rL, sL, H⟩ := h
  simp only [refs, refsL, rL, List.append_nil]
def rFn1 (g : (ViewInfo → ViewInfo → Option Int)) (v : AVal) : Prop := ∃ F L, v = .fn (.func F) [] L ∧ refsL L = [] ∧ stripL L = L ∧ ∀ (x0 : ViewInfo) (x1 : ViewInfo) (r : Int), g x0 x1 = some r → ∀ h, run Cl F (.agg [.int .i64 x0.Set, .int .i64 x0.State, .int .i64 x0.Seq, .int .i64 x0.Rows, .int .i64 x0.Bytes, .int .i64 x0.Readers] :: .agg [.int .i64 x1.Set, .int .i64 x1.State, .int .i64 x1.Seq, .int .i64 x1.Rows, .int .i64 x1.Bytes, .int .i64 x1.Readers] :: L) h = some (.ret (.int .i64 r), h)
theorem rFn1_strip {g : (ViewInfo → ViewInfo → Option Int)} {v : AVal} (h : rFn1 g v) : rFn1 g (strip v) := by
  obtain ⟨F, L, rfl, rL, sL, H⟩ := h
  exact ⟨F, L, by simp only [strip, stripL, sL], rL, sL, H⟩
theorem rFn1_refs {g : (ViewInfo → ViewInfo → Option Int)} {v : AVal} (h : rFn1 g v) : refs v = [] := by
  obtain ⟨F, L, rfl, rL, sL, H⟩ := h
  simp only [refs, refsL, rL, List.append_nil]
/-! ### math/bits.OnesCount64 -/
structure Fr100 where
  t0 : Int
  t2 : Int
instance : Inhabited Fr100 := ⟨⟨0, 0⟩⟩
def P100_0' (s : Fr100) (t : List AVal) (h : AHeap) : Prop := t.length = 35 ∧ t[0]? = some (.int .u64 s.t0)
def P100_0 (s : Fr100) (st : ASt) : Prop := P100_0' s st.tmps st.h
def P100_1' (s : Fr100) (t : List AVal) (h : AHeap) : Prop := t.length = 35 ∧ t[2]? = some (.int .i64 s.t2)
def P100_1 (s : Fr100) (st : ASt) : Prop := P100_1' s st.tmps st.h
noncomputable def m100_0 : Mo Fr100 := fun s => some (.nrm, { s with t2 := bits .and .i64 (IntKind.wrap .i64 s.t0) 127 })
noncomputable def m100_1 : Mo Fr100 := fun s => (shrT .u64 s.t0 32).bind fun z1 => some (.nrm, { s with t0 := IntKind.wrap .u64 (s.t0 + z1) })
noncomputable def m100_2 : Mo Fr100 := fun s => (shrT .u64 s.t0 16).bind fun z5 => some (.nrm, { s with t0 := IntKind.wrap .u64 (s.t0 + z5) })
noncomputable def m100_3 : Mo Fr100 := fun s => (shrT .u64 s.t0 8).bind fun z9 => some (.nrm, { s with t0 := IntKind.wrap .u64 (s.t0 + z9) })
noncomputable def m100_4 : Mo Fr100 := fun s => (shrT .u64 s.t0 4).bind fun z13 => some (.nrm, { s with t0 := bits .and .u64 (IntKind.wrap .u64 (z13 + s.t0)) 1085102592571150095 })
noncomputable def m100_5 : Mo Fr100 := fun s => (shrT .u64 s.t0 2).bind fun z17 => some (.nrm, { s with t0 := IntKind.wrap .u64 ((bits .and .u64 z17 3689348814741910323) + (bits .and .u64 s.t0 3689348814741910323)) })
noncomputable def m100_6 : Mo Fr100 := fun s => (shrT .u64 s.t0 1).bind fun z21 => some (.nrm, { s with t0 := IntKind.wrap .u64 ((bits .and .u64 z21 6148914691236517205) + (bits .and .u64 s.t0 6148914691236517205)) })
noncomputable def m100_7 : Mo Fr100 := fun s => some (.nrm, s)
noncomputable def M100 : Mo Fr100 := seqM (m100_7) (seqM (m100_6) (seqM (m100_5) (seqM (m100_4) (seqM (m100_3) (seqM (m100_2) (seqM (m100_1) (seqM (m100_0) (retM))))))))
def Spec100 (f : Int → Option Int) : Prop := ∀ (x0 : Int) (r : Int), f x0 = some r → ∀ h, run Cl 100 [.int .u64 x0] h = some (.ret (.int .i64 r), h)
theorem Spec100_of {f g : Int → Option Int} (hg : Spec100 g) (h : ∀ x0 r, f x0 = some r → g x0 = some r) : Spec100 f := fun x0 r hr => hg x0 r (h x0 r hr)
theorem R100_0 (pe : Nat → Fr100 → ASt → Prop) (pr : Fr100 → ASt → Prop) : Ref Cl P100_0 (Cat [true, true, true, true, true, true, true, false] (bodyOf Tryz.f100)) m100_0 (post P100_1 pe pr) := by
  rintro s ⟨t, h⟩ hp x s' hm
  have hp : P100_0' s t h := hp
  obtain ⟨hl, a0⟩ := hp
  unfold m100_0 at hm
  cases hm
  refine ⟨⟨_, _⟩, by
      simp only [bodyOf, Tryz.f100, Cat, Bool.false_eq_true, e_seq, e_region, e_cond, e_block, ex_skip, ex_exit, ex_ret, o_cons, xops_nil, k_want_none, k_want_false, k_val, k_pan, k_call, k_ret, k_seq, k_seq_exit, k_seq_ret, k_true, k_false, k_block, k_block_exit, k_block_ret, k_loop, k_loop_exit, k_loop_ret, awanted, aoper, evalO, put, Option.getD_some, List.getElem?_set, acallOp, abuiltin, List.map_cons, List.map_nil, Nat.reduceEqDiff, Nat.reduceLT, List.length_set, Option.map_some, Option.bind_some, Option.bind_eq_bind, add_i, sub_i, mul_i, eql_i, neq_i, lss_i, leq_i, gtr_i, geq_i, ofV, ofCell, ↓reduceIte, List.cons_append, List.nil_append, List.append_nil, List.getElem?_toArray, List.getElem?_cons_succ, List.getElem?_cons_zero, e_draw, g_nil, g_cons, g_want, g_skip, g_val, g_call, g_ret, Option.map_none, hl, a0, CP, bq1, bq2, bq3, bq4, ex_tup, Ty.cv164_3, Ty.and3]
      exact rfl, ?_⟩
  show P100_1 _ _
  exact ⟨by simp [hl], by simp [hl]⟩
theorem R100_1 (pe : Nat → Fr100 → ASt → Prop) (pr : Fr100 → ASt → Prop) : Ref Cl P100_0 (Cat [true, true, true, true, true, true, false] (bodyOf Tryz.f100)) m100_1 (post P100_0 pe pr) := by
  rintro s ⟨t, h⟩ hp x s' hm
  have hp : P100_0' s t h := hp
  obtain ⟨hl, a0⟩ := hp
  unfold m100_1 at hm
  obtain ⟨z3, hz3, hm⟩ := Option.bind_eq_some_iff.1 hm
  have iu4 := shr_v (C := Cl) hz3
  cases hm
  refine ⟨⟨_, _⟩, by
      simp only [bodyOf, Tryz.f100, Cat, Bool.false_eq_true, e_seq, e_region, e_cond, e_block, ex_skip, ex_exit, ex_ret, o_cons, xops_nil, k_want_none, k_want_false, k_val, k_pan, k_call, k_ret, k_seq, k_seq_exit, k_seq_ret, k_true, k_false, k_block, k_block_exit, k_block_ret, k_loop, k_loop_exit, k_loop_ret, awanted, aoper, evalO, put, Option.getD_some, List.getElem?_set, acallOp, abuiltin, List.map_cons, List.map_nil, Nat.reduceEqDiff, Nat.reduceLT, List.length_set, Option.map_some, Option.bind_some, Option.bind_eq_bind, add_i, sub_i, mul_i, eql_i, neq_i, lss_i, leq_i, gtr_i, geq_i, ofV, ofCell, ↓reduceIte, List.cons_append, List.nil_append, List.append_nil, List.getElem?_toArray, List.getElem?_cons_succ, List.getElem?_cons_zero, e_draw, g_nil, g_cons, g_want, g_skip, g_val, g_call, g_ret, Option.map_none, hl, a0, CP, bq1, bq2, bq3, bq4, ex_tup, iu4]
      exact rfl, ?_⟩
  show P100_0 _ _
  exact ⟨by simp [hl], by simp [hl]⟩
theorem R100_2 (pe : Nat → Fr100 → ASt → Prop) (pr : Fr100 → ASt → Prop) : Ref Cl P100_0 (Cat [true, true, true, true, true, false] (bodyOf Tryz.f100)) m100_2 (post P100_0 pe pr) := by
  rintro s ⟨t, h⟩ hp x s' hm
  have hp : P100_0' s t h := hp
  obtain ⟨hl, a0⟩ := hp
  unfold m100_2 at hm
  obtain ⟨z7, hz7, hm⟩ := Option.bind_eq_some_iff.1 hm
  have iu8 := shr_v (C := Cl) hz7
  cases hm
  refine ⟨⟨_, _⟩, by
      simp only [bodyOf, Tryz.f100, Cat, Bool.false_eq_true, e_seq, e_region, e_cond, e_block, ex_skip, ex_exit, ex_ret, o_cons, xops_nil, k_want_none, k_want_false, k_val, k_pan, k_call, k_ret, k_seq, k_seq_exit, k_seq_ret, k_true, k_false, k_block, k_block_exit, k_block_ret, k_loop, k_loop_exit, k_loop_ret, awanted, aoper, evalO, put, Option.getD_some, List.getElem?_set, acallOp, abuiltin, List.map_cons, List.map_nil, Nat.reduceEqDiff, Nat.reduceLT, List.length_set, Option.map_some, Option.bind_some, Option.bind_eq_bind, add_i, sub_i, mul_i, eql_i, neq_i, lss_i, leq_i, gtr_i, geq_i, ofV, ofCell, ↓reduceIte, List.cons_append, List.nil_append, List.append_nil, List.getElem?_toArray, List.getElem?_cons_succ, List.getElem?_cons_zero, e_draw, g_nil, g_cons, g_want, g_skip, g_val, g_call, g_ret, Option.map_none, hl, a0, CP, bq1, bq2, bq3, bq4, ex_tup, iu8]
      exact rfl, ?_⟩
  show P100_0 _ _
  exact ⟨by simp [hl], by simp [hl]⟩
theorem R100_3 (pe : Nat → Fr100 → ASt → Prop) (pr : Fr100 → ASt → Prop) : Ref Cl P100_0 (Cat [true, true, true, true, false] (bodyOf Tryz.f100)) m100_3 (post P100_0 pe pr) := by
  rintro s ⟨t, h⟩ hp x s' hm
  have hp : P100_0' s t h := hp
  obtain ⟨hl, a0⟩ := hp
  unfold m100_3 at hm
  obtain ⟨z11, hz11, hm⟩ := Option.bind_eq_some_iff.1 hm
  have iu12 := shr_v (C := Cl) hz11
  cases hm
  refine ⟨⟨_, _⟩, by
      simp only [bodyOf, Tryz.f100, Cat, Bool.false_eq_true, e_seq, e_region, e_cond, e_block, ex_skip, ex_exit, ex_ret, o_cons, xops_nil, k_want_none, k_want_false, k_val, k_pan, k_call, k_ret, k_seq, k_seq_exit, k_seq_ret, k_true, k_false, k_block, k_block_exit, k_block_ret, k_loop, k_loop_exit, k_loop_ret, awanted, aoper, evalO, put, Option.getD_some, List.getElem?_set, acallOp, abuiltin, List.map_cons, List.map_nil, Nat.reduceEqDiff, Nat.reduceLT, List.length_set, Option.map_some, Option.bind_some, Option.bind_eq_bind, add_i, sub_i, mul_i, eql_i, neq_i, lss_i, leq_i, gtr_i, geq_i, ofV, ofCell, ↓reduceIte, List.cons_append, List.nil_append, List.append_nil, List.getElem?_toArray, List.getElem?_cons_succ, List.getElem?_cons_zero, e_draw, g_nil, g_cons, g_want, g_skip, g_val, g_call, g_ret, Option.map_none, hl, a0, CP, bq1, bq2, bq3, bq4, ex_tup, iu12]
      exact rfl, ?_⟩
  show P100_0 _ _
  exact ⟨by simp [hl], by simp [hl]⟩
theorem R100_4 (pe : Nat → Fr100 → ASt → Prop) (pr : Fr100 → ASt → Prop) : Ref Cl P100_0 (Cat [true, true, true, false] (bodyOf Tryz.f100)) m100_4 (post P100_0 pe pr) := by
  rintro s ⟨t, h⟩ hp x s' hm
  have hp : P100_0' s t h := hp
  obtain ⟨hl, a0⟩ := hp
  unfold m100_4 at hm
  obtain ⟨z15, hz15, hm⟩ := Option.bind_eq_some_iff.1 hm
  have iu16 := shr_v (C := Cl) hz15
  cases hm
  refine ⟨⟨_, _⟩, by
      simp only [bodyOf, Tryz.f100, Cat, Bool.false_eq_true, e_seq, e_region, e_cond, e_block, ex_skip, ex_exit, ex_ret, o_cons, xops_nil, k_want_none, k_want_false, k_val, k_pan, k_call, k_ret, k_seq, k_seq_exit, k_seq_ret, k_true, k_false, k_block, k_block_exit, k_block_ret, k_loop, k_loop_exit, k_loop_ret, awanted, aoper, evalO, put, Option.getD_some, List.getElem?_set, acallOp, abuiltin, List.map_cons, List.map_nil, Nat.reduceEqDiff, Nat.reduceLT, List.length_set, Option.map_some, Option.bind_some, Option.bind_eq_bind, add_i, sub_i, mul_i, eql_i, neq_i, lss_i, leq_i, gtr_i, geq_i, ofV, ofCell, ↓reduceIte, List.cons_append, List.nil_append, List.append_nil, List.getElem?_toArray, List.getElem?_cons_succ, List.getElem?_cons_zero, e_draw, g_nil, g_cons, g_want, g_skip, g_val, g_call, g_ret, Option.map_none, hl, a0, CP, bq1, bq2, bq3, bq4, ex_tup, iu16, Ty.and164]
      exact rfl, ?_⟩
  show P100_0 _ _
  exact ⟨by simp [hl], by simp [hl]⟩
theorem R100_5 (pe : Nat → Fr100 → ASt → Prop) (pr : Fr100 → ASt → Prop) : Ref Cl P100_0 (Cat [true, true, false] (bodyOf Tryz.f100)) m100_5 (post P100_0 pe pr) := by
  rintro s ⟨t, h⟩ hp x s' hm
  have hp : P100_0' s t h := hp
  obtain ⟨hl, a0⟩ := hp
  unfold m100_5 at hm
  obtain ⟨z19, hz19, hm⟩ := Option.bind_eq_some_iff.1 hm
  have iu20 := shr_v (C := Cl) hz19
  cases hm
  refine ⟨⟨_, _⟩, by
      simp only [bodyOf, Tryz.f100, Cat, Bool.false_eq_true, e_seq, e_region, e_cond, e_block, ex_skip, ex_exit, ex_ret, o_cons, xops_nil, k_want_none, k_want_false, k_val, k_pan, k_call, k_ret, k_seq, k_seq_exit, k_seq_ret, k_true, k_false, k_block, k_block_exit, k_block_ret, k_loop, k_loop_exit, k_loop_ret, awanted, aoper, evalO, put, Option.getD_some, List.getElem?_set, acallOp, abuiltin, List.map_cons, List.map_nil, Nat.reduceEqDiff, Nat.reduceLT, List.length_set, Option.map_some, Option.bind_some, Option.bind_eq_bind, add_i, sub_i, mul_i, eql_i, neq_i, lss_i, leq_i, gtr_i, geq_i, ofV, ofCell, ↓reduceIte, List.cons_append, List.nil_append, List.append_nil, List.getElem?_toArray, List.getElem?_cons_succ, List.getElem?_cons_zero, e_draw, g_nil, g_cons, g_want, g_skip, g_val, g_call, g_ret, Option.map_none, hl, a0, CP, bq1, bq2, bq3, bq4, ex_tup, iu20, Ty.and164]
      exact rfl, ?_⟩
  show P100_0 _ _
  exact ⟨by simp [hl], by simp [hl]⟩
theorem R100_6 (pe : Nat → Fr100 → ASt → Prop) (pr : Fr100 → ASt → Prop) : Ref Cl P100_0 (Cat [true, false] (bodyOf Tryz.f100)) m100_6 (post P100_0 pe pr) := by
  rintro s ⟨t, h⟩ hp x s' hm
  have hp : P100_0' s t h := hp
  obtain ⟨hl, a0⟩ := hp
  unfold m100_6 at hm
  obtain ⟨z23, hz23, hm⟩ := Option.bind_eq_some_iff.1 hm
  have iu24 := shr_v (C := Cl) hz23
  cases hm
  refine ⟨⟨_, _⟩, by
      simp only [bodyOf, Tryz.f100, Cat, Bool.false_eq_true, e_seq, e_region, e_cond, e_block, ex_skip, ex_exit, ex_ret, o_cons, xops_nil, k_want_none, k_want_false, k_val, k_pan, k_call, k_ret, k_seq, k_seq_exit, k_seq_ret, k_true, k_false, k_block, k_block_exit, k_block_ret, k_loop, k_loop_exit, k_loop_ret, awanted, aoper, evalO, put, Option.getD_some, List.getElem?_set, acallOp, abuiltin, List.map_cons, List.map_nil, Nat.reduceEqDiff, Nat.reduceLT, List.length_set, Option.map_some, Option.bind_some, Option.bind_eq_bind, add_i, sub_i, mul_i, eql_i, neq_i, lss_i, leq_i, gtr_i, geq_i, ofV, ofCell, ↓reduceIte, List.cons_append, List.nil_append, List.append_nil, List.getElem?_toArray, List.getElem?_cons_succ, List.getElem?_cons_zero, e_draw, g_nil, g_cons, g_want, g_skip, g_val, g_call, g_ret, Option.map_none, hl, a0, CP, bq1, bq2, bq3, bq4, ex_tup, iu24, Ty.and164]
      exact rfl, ?_⟩
  show P100_0 _ _
  exact ⟨by simp [hl], by simp [hl]⟩
theorem R100_7 (pe : Nat → Fr100 → ASt → Prop) (pr : Fr100 → ASt → Prop) : Ref Cl P100_0 (Cat [false] (bodyOf Tryz.f100)) m100_7 (post P100_0 pe pr) := by
  rintro s ⟨t, h⟩ hp x s' hm
  have hp : P100_0' s t h := hp
  obtain ⟨hl, a0⟩ := hp
  unfold m100_7 at hm
  cases hm
  refine ⟨⟨_, _⟩, by
      simp only [bodyOf, Tryz.f100, Cat, Bool.false_eq_true, e_seq, e_region, e_cond, e_block, ex_skip, ex_exit, ex_ret, o_cons, xops_nil, k_want_none, k_want_false, k_val, k_pan, k_call, k_ret, k_seq, k_seq_exit, k_seq_ret, k_true, k_false, k_block, k_block_exit, k_block_ret, k_loop, k_loop_exit, k_loop_ret, awanted, aoper, evalO, put, Option.getD_some, List.getElem?_set, acallOp, abuiltin, List.map_cons, List.map_nil, Nat.reduceEqDiff, Nat.reduceLT, List.length_set, Option.map_some, Option.bind_some, Option.bind_eq_bind, add_i, sub_i, mul_i, eql_i, neq_i, lss_i, leq_i, gtr_i, geq_i, ofV, ofCell, ↓reduceIte, List.cons_append, List.nil_append, List.append_nil, List.getElem?_toArray, List.getElem?_cons_succ, List.getElem?_cons_zero, e_draw, g_nil, g_cons, g_want, g_skip, g_val, g_call, g_ret, Option.map_none, hl, a0, CP, bq1, bq2, bq3, bq4, ex_tup]
      exact rfl, ?_⟩
  show P100_0 _ _
  exact ⟨by simp [hl], by simp [a0]⟩
theorem B100 : Ref Cl P100_0 (bodyOf Tryz.f100) (M100) (post P100_1 (fun _ _ _ => False) P100_1) := by
  rw [show bodyOf Tryz.f100 = .seq (Cat [false] (bodyOf Tryz.f100)) (.seq (Cat [true, false] (bodyOf Tryz.f100)) (.seq (Cat [true, true, false] (bodyOf Tryz.f100)) (.seq (Cat [true, true, true, false] (bodyOf Tryz.f100)) (.seq (Cat [true, true, true, true, false] (bodyOf Tryz.f100)) (.seq (Cat [true, true, true, true, true, false] (bodyOf Tryz.f100)) (.seq (Cat [true, true, true, true, true, true, false] (bodyOf Tryz.f100)) (.seq (Cat [true, true, true, true, true, true, true, false] (bodyOf Tryz.f100)) (.ret)))))))) from rfl]
  unfold M100
  exact ref_seq (M := P100_0) (R100_7 _ _) (ref_seq (M := P100_0) (R100_6 _ _) (ref_seq (M := P100_0) (R100_5 _ _) (ref_seq (M := P100_0) (R100_4 _ _) (ref_seq (M := P100_0) (R100_3 _ _) (ref_seq (M := P100_0) (R100_2 _ _) (ref_seq (M := P100_0) (R100_1 _ _) (ref_seq (M := P100_1) (R100_0 _ _) (ref_ret (fun s st hp => hp)))))))))
noncomputable def G100 (x0 : Int) : Option Int := match M100 { (default : Fr100) with t0 := x0 } with
  | some (.nrm, s) => some s.t2
  | some (.ret, s) => some s.t2
  | _ => none
theorem G100_spec : Spec100 (G100) := by
  intro x0 r hr
  unfold G100 at hr
  cases hm : M100 { (default : Fr100) with t0 := x0 } with
  | none => rw [hm] at hr; cases hr
  | some q =>
    obtain ⟨x, s⟩ := q
    rw [hm] at hr
    have hx : x = .nrm ∨ x = .ret := by cases x <;> first | exact .inl rfl | exact .inr rfl | cases hr
    have hr : s.t2 = r := by cases x <;> first | exact Option.some.inj hr | cases hr
    subst hr
    have hp0 : P100_0' ({ (default : Fr100) with t0 := x0 }) (slots Tryz.f100 (stripL [.int .u64 x0])) bare := ⟨rfl, rfl⟩
    obtain ⟨v, hR, hrun⟩ := run_of_ref (C := Cl) (f := 100) (fn := Tryz.f100) Tryz.func100 rfl rfl rfl rfl (args := [.int .u64 x0]) (by simp only [refsL, refs, List.append_nil]) (B100) (s0 := { (default : Fr100) with t0 := x0 }) hp0 hm hx (R := fun v => v = .int .i64 s.t2) (by
      have key : ∀ st : ASt, P100_1 s st → ∃ vs v, aresults Cl Tryz.f100.results.toList st = some vs ∧ Nrm [] st.h (packRes vs) v ∧ (fun v => v = .int .i64 s.t2) v := by
        intro st hp
        obtain ⟨hl, a2⟩ := (hp : P100_1' s st.tmps st.h)
        exact ⟨[.int .i64 s.t2], _, by simp only [show Tryz.f100.results.toList = [ResultVar.tmp 2] from rfl, aresults, ares1, CP, a2, Option.getD_some], (Nrm.of (w := .int .i64 s.t2) (by simp only [refsL, refs, List.append_nil])), rfl⟩
      intro st hq
      rcases hx with rfl | rfl
      · exact key st hq
      · exact key st hq)
    subst hR
    exact hrun
/-! ### math/bits.OnesCount -/
structure Fr49 where
  t0 : Int
  t2 : Int
instance : Inhabited Fr49 := ⟨⟨0, 0⟩⟩
def P49_0' (s : Fr49) (t : List AVal) (h : AHeap) : Prop := t.length = 8 ∧ t[0]? = some (.int .u64 s.t0)
def P49_0 (s : Fr49) (st : ASt) : Prop := P49_0' s st.tmps st.h
def P49_1' (s : Fr49) (t : List AVal) (h : AHeap) : Prop := t.length = 8 ∧ t[2]? = some (.int .i64 s.t2)
def P49_1 (s : Fr49) (st : ASt) : Prop := P49_1' s st.tmps st.h
noncomputable def m49_0 : Mo Fr49 := fun s => (G100 s.t0).bind fun z1 => some (.nrm, { s with t2 := z1 })
noncomputable def m49_1 : Mo Fr49 := fun s => some (.nrm, s)
noncomputable def M49 : Mo Fr49 := seqM (m49_1) (seqM (skipM) (seqM (m49_0) (retM)))
def Spec49 (f : Int → Option Int) : Prop := ∀ (x0 : Int) (r : Int), f x0 = some r → ∀ h, run Cl 49 [.int .u64 x0] h = some (.ret (.int .i64 r), h)
theorem Spec49_of {f g : Int → Option Int} (hg : Spec49 g) (h : ∀ x0 r, f x0 = some r → g x0 = some r) : Spec49 f := fun x0 r hr => hg x0 r (h x0 r hr)
theorem R49_0 (pe : Nat → Fr49 → ASt → Prop) (pr : Fr49 → ASt → Prop) : Ref Cl P49_0 (Cat [true, true, false] (bodyOf Tryz.f49)) m49_0 (post P49_1 pe pr) := by
  rintro s ⟨t, h⟩ hp x s' hm
  have hp : P49_0' s t h := hp
  obtain ⟨hl, a0⟩ := hp
  unfold m49_0 at hm
  obtain ⟨z3, hz3, hm⟩ := Option.bind_eq_some_iff.1 hm
  have iu4 := G100_spec s.t0  _ hz3
  cases hm
  refine ⟨⟨_, _⟩, by
      simp only [bodyOf, Tryz.f49, Cat, Bool.false_eq_true, e_seq, e_region, e_cond, e_block, ex_skip, ex_exit, ex_ret, o_cons, xops_nil, k_want_none, k_want_false, k_val, k_pan, k_call, k_ret, k_seq, k_seq_exit, k_seq_ret, k_true, k_false, k_block, k_block_exit, k_block_ret, k_loop, k_loop_exit, k_loop_ret, awanted, aoper, evalO, put, Option.getD_some, List.getElem?_set, acallOp, abuiltin, List.map_cons, List.map_nil, Nat.reduceEqDiff, Nat.reduceLT, List.length_set, Option.map_some, Option.bind_some, Option.bind_eq_bind, add_i, sub_i, mul_i, eql_i, neq_i, lss_i, leq_i, gtr_i, geq_i, ofV, ofCell, ↓reduceIte, List.cons_append, List.nil_append, List.append_nil, List.getElem?_toArray, List.getElem?_cons_succ, List.getElem?_cons_zero, e_draw, g_nil, g_cons, g_want, g_skip, g_val, g_call, g_ret, Option.map_none, hl, a0, CP, bq1, bq2, bq3, bq4, ex_tup, iu4]
      exact rfl, ?_⟩
  show P49_1 _ _
  exact ⟨by simp [hl], by simp [hl]⟩
theorem R49_1 (pe : Nat → Fr49 → ASt → Prop) (pr : Fr49 → ASt → Prop) : Ref Cl P49_0 (Cat [false] (bodyOf Tryz.f49)) m49_1 (post P49_0 pe pr) := by
  rintro s ⟨t, h⟩ hp x s' hm
  have hp : P49_0' s t h := hp
  obtain ⟨hl, a0⟩ := hp
  unfold m49_1 at hm
  cases hm
  refine ⟨⟨_, _⟩, by
      simp only [bodyOf, Tryz.f49, Cat, Bool.false_eq_true, e_seq, e_region, e_cond, e_block, ex_skip, ex_exit, ex_ret, o_cons, xops_nil, k_want_none, k_want_false, k_val, k_pan, k_call, k_ret, k_seq, k_seq_exit, k_seq_ret, k_true, k_false, k_block, k_block_exit, k_block_ret, k_loop, k_loop_exit, k_loop_ret, awanted, aoper, evalO, put, Option.getD_some, List.getElem?_set, acallOp, abuiltin, List.map_cons, List.map_nil, Nat.reduceEqDiff, Nat.reduceLT, List.length_set, Option.map_some, Option.bind_some, Option.bind_eq_bind, add_i, sub_i, mul_i, eql_i, neq_i, lss_i, leq_i, gtr_i, geq_i, ofV, ofCell, ↓reduceIte, List.cons_append, List.nil_append, List.append_nil, List.getElem?_toArray, List.getElem?_cons_succ, List.getElem?_cons_zero, e_draw, g_nil, g_cons, g_want, g_skip, g_val, g_call, g_ret, Option.map_none, hl, a0, CP, bq1, bq2, bq3, bq4, ex_tup]
      exact rfl, ?_⟩
  show P49_0 _ _
  exact ⟨by simp [hl], by simp [a0]⟩
theorem B49 : Ref Cl P49_0 (bodyOf Tryz.f49) (M49) (post P49_1 (fun _ _ _ => False) P49_1) := by
  rw [show bodyOf Tryz.f49 = .seq (Cat [false] (bodyOf Tryz.f49)) (.seq (.cond (.const (.bool false)) (Cat [true, false, false] (bodyOf Tryz.f49)) (.skip)) (.seq (Cat [true, true, false] (bodyOf Tryz.f49)) (.ret))) from rfl]
  unfold M49
  exact ref_seq (M := P49_0) (R49_1 _ _) (ref_seq (M := P49_0) (ref_false (ref_skip (fun s st hp => hp))) (ref_seq (M := P49_1) (R49_0 _ _) (ref_ret (fun s st hp => hp))))
noncomputable def G49 (x0 : Int) : Option Int := match M49 { (default : Fr49) with t0 := x0 } with
  | some (.nrm, s) => some s.t2
  | some (.ret, s) => some s.t2
  | _ => none
theorem G49_spec : Spec49 (G49) := by
  intro x0 r hr
  unfold G49 at hr
  cases hm : M49 { (default : Fr49) with t0 := x0 } with
  | none => rw [hm] at hr; cases hr
  | some q =>
    obtain ⟨x, s⟩ := q
    rw [hm] at hr
    have hx : x = .nrm ∨ x = .ret := by cases x <;> first | exact .inl rfl | exact .inr rfl | cases hr
    have hr : s.t2 = r := by cases x <;> first | exact Option.some.inj hr | cases hr
    subst hr
    have hp0 : P49_0' ({ (default : Fr49) with t0 := x0 }) (slots Tryz.f49 (stripL [.int .u64 x0])) bare := ⟨rfl, rfl⟩
    obtain ⟨v, hR, hrun⟩ := run_of_ref (C := Cl) (f := 49) (fn := Tryz.f49) Tryz.func49 rfl rfl rfl rfl (args := [.int .u64 x0]) (by simp only [refsL, refs, List.append_nil]) (B49) (s0 := { (default : Fr49) with t0 := x0 }) hp0 hm hx (R := fun v => v = .int .i64 s.t2) (by
      have key : ∀ st : ASt, P49_1 s st → ∃ vs v, aresults Cl Tryz.f49.results.toList st = some vs ∧ Nrm [] st.h (packRes vs) v ∧ (fun v => v = .int .i64 s.t2) v := by
        intro st hp
        obtain ⟨hl, a2⟩ := (hp : P49_1' s st.tmps st.h)
        exact ⟨[.int .i64 s.t2], _, by simp only [show Tryz.f49.results.toList = [ResultVar.tmp 2] from rfl, aresults, ares1, CP, a2, Option.getD_some], (Nrm.of (w := .int .i64 s.t2) (by simp only [refsL, refs, List.append_nil])), rfl⟩
      intro st hq
      rcases hx with rfl | rfl
      · exact key st hq
      · exact key st hq)
    subst hR
    exact hrun
/-! ### cmp.isNaN[int] -/
structure Fr98 where
  t0 : Int
  t2 : Bool
instance : Inhabited Fr98 := ⟨⟨0, false⟩⟩
def P98_0' (s : Fr98) (t : List AVal) (h : AHeap) : Prop := t.length = 6 ∧ t[0]? = some (.int .i64 s.t0)
def P98_0 (s : Fr98) (st : ASt) : Prop := P98_0' s st.tmps st.h
def P98_1' (s : Fr98) (t : List AVal) (h : AHeap) : Prop := t.length = 6 ∧ t[2]? = some (.bool s.t2)
def P98_1 (s : Fr98) (st : ASt) : Prop := P98_1' s st.tmps st.h
noncomputable def m98_0 : Mo Fr98 := fun s => some (.nrm, { s with t2 := (s.t0 != s.t0) })
noncomputable def m98_1 : Mo Fr98 := fun s => some (.nrm, s)
noncomputable def M98 : Mo Fr98 := seqM (m98_1) (seqM (m98_0) (retM))
def Spec98 (f : Int → Option Bool) : Prop := ∀ (x0 : Int) (r : Bool), f x0 = some r → ∀ h, run Cl 98 [.int .i64 x0] h = some (.ret (.bool r), h)
theorem Spec98_of {f g : Int → Option Bool} (hg : Spec98 g) (h : ∀ x0 r, f x0 = some r → g x0 = some r) : Spec98 f := fun x0 r hr => hg x0 r (h x0 r hr)
theorem R98_0 (pe : Nat → Fr98 → ASt → Prop) (pr : Fr98 → ASt → Prop) : Ref Cl P98_0 (Cat [true, false] (bodyOf Tryz.f98)) m98_0 (post P98_1 pe pr) := by
  rintro s ⟨t, h⟩ hp x s' hm
  have hp : P98_0' s t h := hp
  obtain ⟨hl, a0⟩ := hp
  unfold m98_0 at hm
  cases hm
  refine ⟨⟨_, _⟩, by
      simp only [bodyOf, Tryz.f98, Cat, Bool.false_eq_true, e_seq, e_region, e_cond, e_block, ex_skip, ex_exit, ex_ret, o_cons, xops_nil, k_want_none, k_want_false, k_val, k_pan, k_call, k_ret, k_seq, k_seq_exit, k_seq_ret, k_true, k_false, k_block, k_block_exit, k_block_ret, k_loop, k_loop_exit, k_loop_ret, awanted, aoper, evalO, put, Option.getD_some, List.getElem?_set, acallOp, abuiltin, List.map_cons, List.map_nil, Nat.reduceEqDiff, Nat.reduceLT, List.length_set, Option.map_some, Option.bind_some, Option.bind_eq_bind, add_i, sub_i, mul_i, eql_i, neq_i, lss_i, leq_i, gtr_i, geq_i, ofV, ofCell, ↓reduceIte, List.cons_append, List.nil_append, List.append_nil, List.getElem?_toArray, List.getElem?_cons_succ, List.getElem?_cons_zero, e_draw, g_nil, g_cons, g_want, g_skip, g_val, g_call, g_ret, Option.map_none, hl, a0, CP, bq1, bq2, bq3, bq4, ex_tup]
      exact rfl, ?_⟩
  show P98_1 _ _
  exact ⟨by simp [hl], by simp [hl]⟩
theorem R98_1 (pe : Nat → Fr98 → ASt → Prop) (pr : Fr98 → ASt → Prop) : Ref Cl P98_0 (Cat [false] (bodyOf Tryz.f98)) m98_1 (post P98_0 pe pr) := by
  rintro s ⟨t, h⟩ hp x s' hm
  have hp : P98_0' s t h := hp
  obtain ⟨hl, a0⟩ := hp
  unfold m98_1 at hm
  cases hm
  refine ⟨⟨_, _⟩, by
      simp only [bodyOf, Tryz.f98, Cat, Bool.false_eq_true, e_seq, e_region, e_cond, e_block, ex_skip, ex_exit, ex_ret, o_cons, xops_nil, k_want_none, k_want_false, k_val, k_pan, k_call, k_ret, k_seq, k_seq_exit, k_seq_ret, k_true, k_false, k_block, k_block_exit, k_block_ret, k_loop, k_loop_exit, k_loop_ret, awanted, aoper, evalO, put, Option.getD_some, List.getElem?_set, acallOp, abuiltin, List.map_cons, List.map_nil, Nat.reduceEqDiff, Nat.reduceLT, List.length_set, Option.map_some, Option.bind_some, Option.bind_eq_bind, add_i, sub_i, mul_i, eql_i, neq_i, lss_i, leq_i, gtr_i, geq_i, ofV, ofCell, ↓reduceIte, List.cons_append, List.nil_append, List.append_nil, List.getElem?_toArray, List.getElem?_cons_succ, List.getElem?_cons_zero, e_draw, g_nil, g_cons, g_want, g_skip, g_val, g_call, g_ret, Option.map_none, hl, a0, CP, bq1, bq2, bq3, bq4, ex_tup]
      exact rfl, ?_⟩
  show P98_0 _ _
  exact ⟨by simp [hl], by simp [a0]⟩
theorem B98 : Ref Cl P98_0 (bodyOf Tryz.f98) (M98) (post P98_1 (fun _ _ _ => False) P98_1) := by
  rw [show bodyOf Tryz.f98 = .seq (Cat [false] (bodyOf Tryz.f98)) (.seq (Cat [true, false] (bodyOf Tryz.f98)) (.ret)) from rfl]
  unfold M98
  exact ref_seq (M := P98_0) (R98_1 _ _) (ref_seq (M := P98_1) (R98_0 _ _) (ref_ret (fun s st hp => hp)))
noncomputable def G98 (x0 : Int) : Option Bool := match M98 { (default : Fr98) with t0 := x0 } with
  | some (.nrm, s) => some s.t2
  | some (.ret, s) => some s.t2
  | _ => none
theorem G98_spec : Spec98 (G98) := by
  intro x0 r hr
  unfold G98 at hr
  cases hm : M98 { (default : Fr98) with t0 := x0 } with
  | none => rw [hm] at hr; cases hr
  | some q =>
    obtain ⟨x, s⟩ := q
    rw [hm] at hr
    have hx : x = .nrm ∨ x = .ret := by cases x <;> first | exact .inl rfl | exact .inr rfl | cases hr
    have hr : s.t2 = r := by cases x <;> first | exact Option.some.inj hr | cases hr
    subst hr
    have hp0 : P98_0' ({ (default : Fr98) with t0 := x0 }) (slots Tryz.f98 (stripL [.int .i64 x0])) bare := ⟨rfl, rfl⟩
    obtain ⟨v, hR, hrun⟩ := run_of_ref (C := Cl) (f := 98) (fn := Tryz.f98) Tryz.func98 rfl rfl rfl rfl (args := [.int .i64 x0]) (by simp only [refsL, refs, List.append_nil]) (B98) (s0 := { (default : Fr98) with t0 := x0 }) hp0 hm hx (R := fun v => v = .bool s.t2) (by
      have key : ∀ st : ASt, P98_1 s st → ∃ vs v, aresults Cl Tryz.f98.results.toList st = some vs ∧ Nrm [] st.h (packRes vs) v ∧ (fun v => v = .bool s.t2) v := by
        intro st hp
        obtain ⟨hl, a2⟩ := (hp : P98_1' s st.tmps st.h)
        exact ⟨[.bool s.t2], _, by simp only [show Tryz.f98.results.toList = [ResultVar.tmp 2] from rfl, aresults, ares1, CP, a2, Option.getD_some], (Nrm.of (w := .bool s.t2) (by simp only [refsL, refs, List.append_nil])), rfl⟩
      intro st hq
      rcases hx with rfl | rfl
      · exact key st hq
      · exact key st hq)
    subst hR
    exact hrun
/-! ### cmp.Compare[int] -/
structure Fr48 where
  t0 : Int
  t1 : Int
  t4 : Int
  t5 : Bool
  t6 : Bool
  t11 : Bool
  t12 : Bool
  t13 : Bool
  t16 : Bool
  t19 : Bool
instance : Inhabited Fr48 := ⟨⟨0, 0, 0, false, false, false, false, false, false, false⟩⟩
def P48_0' (s : Fr48) (t : List AVal) (h : AHeap) : Prop := t.length = 20 ∧ True
def P48_0 (s : Fr48) (st : ASt) : Prop := P48_0' s st.tmps st.h
def P48_1' (s : Fr48) (t : List AVal) (h : AHeap) : Prop := t.length = 20 ∧ t[4]? = some (.int .i64 s.t4)
def P48_1 (s : Fr48) (st : ASt) : Prop := P48_1' s st.tmps st.h
def P48_2' (s : Fr48) (t : List AVal) (h : AHeap) : Prop := t.length = 20 ∧ t[19]? = some (.bool s.t19)
def P48_2 (s : Fr48) (st : ASt) : Prop := P48_2' s st.tmps st.h
def P48_3' (s : Fr48) (t : List AVal) (h : AHeap) : Prop := t.length = 20 ∧ t[0]? = some (.int .i64 s.t0) ∧ t[1]? = some (.int .i64 s.t1)
def P48_3 (s : Fr48) (st : ASt) : Prop := P48_3' s st.tmps st.h
def P48_4' (s : Fr48) (t : List AVal) (h : AHeap) : Prop := t.length = 20 ∧ t[0]? = some (.int .i64 s.t0) ∧ t[1]? = some (.int .i64 s.t1) ∧ t[16]? = some (.bool s.t16)
def P48_4 (s : Fr48) (st : ASt) : Prop := P48_4' s st.tmps st.h
def P48_5' (s : Fr48) (t : List AVal) (h : AHeap) : Prop := t.length = 20 ∧ t[0]? = some (.int .i64 s.t0) ∧ t[1]? = some (.int .i64 s.t1) ∧ t[13]? = some (.bool s.t13)
def P48_5 (s : Fr48) (st : ASt) : Prop := P48_5' s st.tmps st.h
def P48_6' (s : Fr48) (t : List AVal) (h : AHeap) : Prop := t.length = 20 ∧ t[0]? = some (.int .i64 s.t0) ∧ t[1]? = some (.int .i64 s.t1) ∧ t[6]? = some (.bool s.t6)
def P48_6 (s : Fr48) (st : ASt) : Prop := P48_6' s st.tmps st.h
def P48_7' (s : Fr48) (t : List AVal) (h : AHeap) : Prop := t.length = 20 ∧ t[12]? = some (.bool s.t12)
def P48_7 (s : Fr48) (st : ASt) : Prop := P48_7' s st.tmps st.h
def P48_8' (s : Fr48) (t : List AVal) (h : AHeap) : Prop := t.length = 20 ∧ t[6]? = some (.bool s.t6)
def P48_8 (s : Fr48) (st : ASt) : Prop := P48_8' s st.tmps st.h
def P48_9' (s : Fr48) (t : List AVal) (h : AHeap) : Prop := t.length = 20 ∧ t[0]? = some (.int .i64 s.t0) ∧ t[1]? = some (.int .i64 s.t1) ∧ t[6]? = some (.bool s.t6) ∧ t[11]? = some (.bool s.t11)
def P48_9 (s : Fr48) (st : ASt) : Prop := P48_9' s st.tmps st.h
def P48_10' (s : Fr48) (t : List AVal) (h : AHeap) : Prop := t.length = 20 ∧ t[0]? = some (.int .i64 s.t0) ∧ t[1]? = some (.int .i64 s.t1) ∧ t[5]? = some (.bool s.t5) ∧ t[6]? = some (.bool s.t6)
def P48_10 (s : Fr48) (st : ASt) : Prop := P48_10' s st.tmps st.h
def P48_11' (s : Fr48) (t : List AVal) (h : AHeap) : Prop := t.length = 20 ∧ t[0]? = some (.int .i64 s.t0) ∧ t[1]? = some (.int .i64 s.t1) ∧ t[5]? = some (.bool s.t5)
def P48_11 (s : Fr48) (st : ASt) : Prop := P48_11' s st.tmps st.h
noncomputable def m48_0 : Mo Fr48 := fun s => some (.nrm, { s with t4 := 0 })
noncomputable def m48_1 : Mo Fr48 := fun s => some (.nrm, { s with t4 := 1 })
noncomputable def m48_2 : Mo Fr48 := fun s => some (.nrm, { s with t19 := decide (s.t0 > s.t1) })
noncomputable def m48_3 : Mo Fr48 := fun s => some (.nrm, { s with t4 := (-1) })
noncomputable def m48_4 : Mo Fr48 := fun s => some (.nrm, { s with t16 := decide (s.t0 < s.t1) })
noncomputable def m48_5 : Mo Fr48 := fun s => some (.nrm, { s with t4 := 1 })
noncomputable def m48_6 : Mo Fr48 := fun s => some (.nrm, { s with t13 := s.t6 })
noncomputable def m48_7 : Mo Fr48 := fun s => some (.nrm, { s with t4 := (-1) })
noncomputable def m48_8 : Mo Fr48 := fun s => some (.nrm, { s with t4 := 0 })
noncomputable def m48_9 : Mo Fr48 := fun s => some (.nrm, { s with t12 := s.t6 })
noncomputable def m48_10 : Mo Fr48 := fun s => some (.nrm, { s with t11 := s.t5 })
noncomputable def m48_11 : Mo Fr48 := fun s => (G98 s.t1).bind fun z1 => some (.nrm, { s with t6 := z1 })
noncomputable def m48_12 : Mo Fr48 := fun s => (G98 s.t0).bind fun z5 => some (.nrm, { s with t5 := z5 })
noncomputable def m48_13 : Mo Fr48 := fun s => some (.nrm, s)
noncomputable def M48 : Mo Fr48 := seqM (m48_13) (seqM (m48_12) (seqM (m48_11) (seqM (seqM (m48_10) (condM (fun s => s.t11) (seqM (seqM (m48_9) (condM (fun s => s.t12) (seqM (m48_8) (retM)) (skipM))) (seqM (m48_7) (retM))) (skipM))) (seqM (seqM (m48_6) (condM (fun s => s.t13) (seqM (m48_5) (retM)) (skipM))) (seqM (seqM (m48_4) (condM (fun s => s.t16) (seqM (m48_3) (retM)) (skipM))) (seqM (seqM (m48_2) (condM (fun s => s.t19) (seqM (m48_1) (retM)) (skipM))) (seqM (m48_0) (retM))))))))
def Spec48 (f : Int → Int → Option Int) : Prop := ∀ (x0 : Int) (x1 : Int) (r : Int), f x0 x1 = some r → ∀ h, run Cl 48 [.int .i64 x0, .int .i64 x1] h = some (.ret (.int .i64 r), h)
theorem Spec48_of {f g : Int → Int → Option Int} (hg : Spec48 g) (h : ∀ x0 x1 r, f x0 x1 = some r → g x0 x1 = some r) : Spec48 f := fun x0 x1 r hr => hg x0 x1 r (h x0 x1 r hr)
theorem R48_0 (pe : Nat → Fr48 → ASt → Prop) (pr : Fr48 → ASt → Prop) : Ref Cl P48_0 (Cat [true, true, true, true, true, true, true, false] (bodyOf Tryz.f48)) m48_0 (post P48_1 pe pr) := by
  rintro s ⟨t, h⟩ hp x s' hm
  have hp : P48_0' s t h := hp
  obtain ⟨hl, _⟩ := hp
  unfold m48_0 at hm
  cases hm
  refine ⟨⟨_, _⟩, by
      simp only [bodyOf, Tryz.f48, Cat, Bool.false_eq_true, e_seq, e_region, e_cond, e_block, ex_skip, ex_exit, ex_ret, o_cons, xops_nil, k_want_none, k_want_false, k_val, k_pan, k_call, k_ret, k_seq, k_seq_exit, k_seq_ret, k_true, k_false, k_block, k_block_exit, k_block_ret, k_loop, k_loop_exit, k_loop_ret, awanted, aoper, evalO, put, Option.getD_some, List.getElem?_set, acallOp, abuiltin, List.map_cons, List.map_nil, Nat.reduceEqDiff, Nat.reduceLT, List.length_set, Option.map_some, Option.bind_some, Option.bind_eq_bind, add_i, sub_i, mul_i, eql_i, neq_i, lss_i, leq_i, gtr_i, geq_i, ofV, ofCell, ↓reduceIte, List.cons_append, List.nil_append, List.append_nil, List.getElem?_toArray, List.getElem?_cons_succ, List.getElem?_cons_zero, e_draw, g_nil, g_cons, g_want, g_skip, g_val, g_call, g_ret, Option.map_none, hl, CP, bq1, bq2, bq3, bq4, ex_tup]
      exact rfl, ?_⟩
  show P48_1 _ _
  exact ⟨by simp [hl], by simp [hl]⟩
theorem R48_1 (pe : Nat → Fr48 → ASt → Prop) (pr : Fr48 → ASt → Prop) : Ref Cl P48_0 (Cat [true, true, true, true, true, true, false, true, false, false] (bodyOf Tryz.f48)) m48_1 (post P48_1 pe pr) := by
  rintro s ⟨t, h⟩ hp x s' hm
  have hp : P48_0' s t h := hp
  obtain ⟨hl, _⟩ := hp
  unfold m48_1 at hm
  cases hm
  refine ⟨⟨_, _⟩, by
      simp only [bodyOf, Tryz.f48, Cat, Bool.false_eq_true, e_seq, e_region, e_cond, e_block, ex_skip, ex_exit, ex_ret, o_cons, xops_nil, k_want_none, k_want_false, k_val, k_pan, k_call, k_ret, k_seq, k_seq_exit, k_seq_ret, k_true, k_false, k_block, k_block_exit, k_block_ret, k_loop, k_loop_exit, k_loop_ret, awanted, aoper, evalO, put, Option.getD_some, List.getElem?_set, acallOp, abuiltin, List.map_cons, List.map_nil, Nat.reduceEqDiff, Nat.reduceLT, List.length_set, Option.map_some, Option.bind_some, Option.bind_eq_bind, add_i, sub_i, mul_i, eql_i, neq_i, lss_i, leq_i, gtr_i, geq_i, ofV, ofCell, ↓reduceIte, List.cons_append, List.nil_append, List.append_nil, List.getElem?_toArray, List.getElem?_cons_succ, List.getElem?_cons_zero, e_draw, g_nil, g_cons, g_want, g_skip, g_val, g_call, g_ret, Option.map_none, hl, CP, bq1, bq2, bq3, bq4, ex_tup]
      exact rfl, ?_⟩
  show P48_1 _ _
  exact ⟨by simp [hl], by simp [hl]⟩
theorem R48_2 (pe : Nat → Fr48 → ASt → Prop) (pr : Fr48 → ASt → Prop) : Ref Cl P48_3 (Cat [true, true, true, true, true, true, false, false] (bodyOf Tryz.f48)) m48_2 (post P48_2 pe pr) := by
  rintro s ⟨t, h⟩ hp x s' hm
  have hp : P48_3' s t h := hp
  obtain ⟨hl, a0, a1⟩ := hp
  unfold m48_2 at hm
  cases hm
  refine ⟨⟨_, _⟩, by
      simp only [bodyOf, Tryz.f48, Cat, Bool.false_eq_true, e_seq, e_region, e_cond, e_block, ex_skip, ex_exit, ex_ret, o_cons, xops_nil, k_want_none, k_want_false, k_val, k_pan, k_call, k_ret, k_seq, k_seq_exit, k_seq_ret, k_true, k_false, k_block, k_block_exit, k_block_ret, k_loop, k_loop_exit, k_loop_ret, awanted, aoper, evalO, put, Option.getD_some, List.getElem?_set, acallOp, abuiltin, List.map_cons, List.map_nil, Nat.reduceEqDiff, Nat.reduceLT, List.length_set, Option.map_some, Option.bind_some, Option.bind_eq_bind, add_i, sub_i, mul_i, eql_i, neq_i, lss_i, leq_i, gtr_i, geq_i, ofV, ofCell, ↓reduceIte, List.cons_append, List.nil_append, List.append_nil, List.getElem?_toArray, List.getElem?_cons_succ, List.getElem?_cons_zero, e_draw, g_nil, g_cons, g_want, g_skip, g_val, g_call, g_ret, Option.map_none, hl, a0, a1, CP, bq1, bq2, bq3, bq4, ex_tup]
      exact rfl, ?_⟩
  show P48_2 _ _
  exact ⟨by simp [hl], by simp [hl]⟩
theorem R48_3 (pe : Nat → Fr48 → ASt → Prop) (pr : Fr48 → ASt → Prop) : Ref Cl P48_0 (Cat [true, true, true, true, true, false, true, false, false] (bodyOf Tryz.f48)) m48_3 (post P48_1 pe pr) := by
  rintro s ⟨t, h⟩ hp x s' hm
  have hp : P48_0' s t h := hp
  obtain ⟨hl, _⟩ := hp
  unfold m48_3 at hm
  cases hm
  refine ⟨⟨_, _⟩, by
      simp only [bodyOf, Tryz.f48, Cat, Bool.false_eq_true, e_seq, e_region, e_cond, e_block, ex_skip, ex_exit, ex_ret, o_cons, xops_nil, k_want_none, k_want_false, k_val, k_pan, k_call, k_ret, k_seq, k_seq_exit, k_seq_ret, k_true, k_false, k_block, k_block_exit, k_block_ret, k_loop, k_loop_exit, k_loop_ret, awanted, aoper, evalO, put, Option.getD_some, List.getElem?_set, acallOp, abuiltin, List.map_cons, List.map_nil, Nat.reduceEqDiff, Nat.reduceLT, List.length_set, Option.map_some, Option.bind_some, Option.bind_eq_bind, add_i, sub_i, mul_i, eql_i, neq_i, lss_i, leq_i, gtr_i, geq_i, ofV, ofCell, ↓reduceIte, List.cons_append, List.nil_append, List.append_nil, List.getElem?_toArray, List.getElem?_cons_succ, List.getElem?_cons_zero, e_draw, g_nil, g_cons, g_want, g_skip, g_val, g_call, g_ret, Option.map_none, hl, CP, bq1, bq2, bq3, bq4, ex_tup]
      exact rfl, ?_⟩
  show P48_1 _ _
  exact ⟨by simp [hl], by simp [hl]⟩
theorem R48_4 (pe : Nat → Fr48 → ASt → Prop) (pr : Fr48 → ASt → Prop) : Ref Cl P48_3 (Cat [true, true, true, true, true, false, false] (bodyOf Tryz.f48)) m48_4 (post P48_4 pe pr) := by
  rintro s ⟨t, h⟩ hp x s' hm
  have hp : P48_3' s t h := hp
  obtain ⟨hl, a0, a1⟩ := hp
  unfold m48_4 at hm
  cases hm
  refine ⟨⟨_, _⟩, by
      simp only [bodyOf, Tryz.f48, Cat, Bool.false_eq_true, e_seq, e_region, e_cond, e_block, ex_skip, ex_exit, ex_ret, o_cons, xops_nil, k_want_none, k_want_false, k_val, k_pan, k_call, k_ret, k_seq, k_seq_exit, k_seq_ret, k_true, k_false, k_block, k_block_exit, k_block_ret, k_loop, k_loop_exit, k_loop_ret, awanted, aoper, evalO, put, Option.getD_some, List.getElem?_set, acallOp, abuiltin, List.map_cons, List.map_nil, Nat.reduceEqDiff, Nat.reduceLT, List.length_set, Option.map_some, Option.bind_some, Option.bind_eq_bind, add_i, sub_i, mul_i, eql_i, neq_i, lss_i, leq_i, gtr_i, geq_i, ofV, ofCell, ↓reduceIte, List.cons_append, List.nil_append, List.append_nil, List.getElem?_toArray, List.getElem?_cons_succ, List.getElem?_cons_zero, e_draw, g_nil, g_cons, g_want, g_skip, g_val, g_call, g_ret, Option.map_none, hl, a0, a1, CP, bq1, bq2, bq3, bq4, ex_tup]
      exact rfl, ?_⟩
  show P48_4 _ _
  exact ⟨by simp [hl], by simp [a0], by simp [a1], by simp [hl]⟩
theorem R48_5 (pe : Nat → Fr48 → ASt → Prop) (pr : Fr48 → ASt → Prop) : Ref Cl P48_0 (Cat [true, true, true, true, false, true, false, false] (bodyOf Tryz.f48)) m48_5 (post P48_1 pe pr) := by
  rintro s ⟨t, h⟩ hp x s' hm
  have hp : P48_0' s t h := hp
  obtain ⟨hl, _⟩ := hp
  unfold m48_5 at hm
  cases hm
  refine ⟨⟨_, _⟩, by
      simp only [bodyOf, Tryz.f48, Cat, Bool.false_eq_true, e_seq, e_region, e_cond, e_block, ex_skip, ex_exit, ex_ret, o_cons, xops_nil, k_want_none, k_want_false, k_val, k_pan, k_call, k_ret, k_seq, k_seq_exit, k_seq_ret, k_true, k_false, k_block, k_block_exit, k_block_ret, k_loop, k_loop_exit, k_loop_ret, awanted, aoper, evalO, put, Option.getD_some, List.getElem?_set, acallOp, abuiltin, List.map_cons, List.map_nil, Nat.reduceEqDiff, Nat.reduceLT, List.length_set, Option.map_some, Option.bind_some, Option.bind_eq_bind, add_i, sub_i, mul_i, eql_i, neq_i, lss_i, leq_i, gtr_i, geq_i, ofV, ofCell, ↓reduceIte, List.cons_append, List.nil_append, List.append_nil, List.getElem?_toArray, List.getElem?_cons_succ, List.getElem?_cons_zero, e_draw, g_nil, g_cons, g_want, g_skip, g_val, g_call, g_ret, Option.map_none, hl, CP, bq1, bq2, bq3, bq4, ex_tup]
      exact rfl, ?_⟩
  show P48_1 _ _
  exact ⟨by simp [hl], by simp [hl]⟩
theorem R48_6 (pe : Nat → Fr48 → ASt → Prop) (pr : Fr48 → ASt → Prop) : Ref Cl P48_6 (Cat [true, true, true, true, false, false] (bodyOf Tryz.f48)) m48_6 (post P48_5 pe pr) := by
  rintro s ⟨t, h⟩ hp x s' hm
  have hp : P48_6' s t h := hp
  obtain ⟨hl, a0, a1, a6⟩ := hp
  unfold m48_6 at hm
  cases hm
  refine ⟨⟨_, _⟩, by
      simp only [bodyOf, Tryz.f48, Cat, Bool.false_eq_true, e_seq, e_region, e_cond, e_block, ex_skip, ex_exit, ex_ret, o_cons, xops_nil, k_want_none, k_want_false, k_val, k_pan, k_call, k_ret, k_seq, k_seq_exit, k_seq_ret, k_true, k_false, k_block, k_block_exit, k_block_ret, k_loop, k_loop_exit, k_loop_ret, awanted, aoper, evalO, put, Option.getD_some, List.getElem?_set, acallOp, abuiltin, List.map_cons, List.map_nil, Nat.reduceEqDiff, Nat.reduceLT, List.length_set, Option.map_some, Option.bind_some, Option.bind_eq_bind, add_i, sub_i, mul_i, eql_i, neq_i, lss_i, leq_i, gtr_i, geq_i, ofV, ofCell, ↓reduceIte, List.cons_append, List.nil_append, List.append_nil, List.getElem?_toArray, List.getElem?_cons_succ, List.getElem?_cons_zero, e_draw, g_nil, g_cons, g_want, g_skip, g_val, g_call, g_ret, Option.map_none, hl, a0, a1, a6, CP, bq1, bq2, bq3, bq4, ex_tup]
      exact rfl, ?_⟩
  show P48_5 _ _
  exact ⟨by simp [hl], by simp [a0], by simp [a1], by simp [hl]⟩
theorem R48_7 (pe : Nat → Fr48 → ASt → Prop) (pr : Fr48 → ASt → Prop) : Ref Cl P48_0 (Cat [true, true, true, false, true, false, true, false] (bodyOf Tryz.f48)) m48_7 (post P48_1 pe pr) := by
  rintro s ⟨t, h⟩ hp x s' hm
  have hp : P48_0' s t h := hp
  obtain ⟨hl, _⟩ := hp
  unfold m48_7 at hm
  cases hm
  refine ⟨⟨_, _⟩, by
      simp only [bodyOf, Tryz.f48, Cat, Bool.false_eq_true, e_seq, e_region, e_cond, e_block, ex_skip, ex_exit, ex_ret, o_cons, xops_nil, k_want_none, k_want_false, k_val, k_pan, k_call, k_ret, k_seq, k_seq_exit, k_seq_ret, k_true, k_false, k_block, k_block_exit, k_block_ret, k_loop, k_loop_exit, k_loop_ret, awanted, aoper, evalO, put, Option.getD_some, List.getElem?_set, acallOp, abuiltin, List.map_cons, List.map_nil, Nat.reduceEqDiff, Nat.reduceLT, List.length_set, Option.map_some, Option.bind_some, Option.bind_eq_bind, add_i, sub_i, mul_i, eql_i, neq_i, lss_i, leq_i, gtr_i, geq_i, ofV, ofCell, ↓reduceIte, List.cons_append, List.nil_append, List.append_nil, List.getElem?_toArray, List.getElem?_cons_succ, List.getElem?_cons_zero, e_draw, g_nil, g_cons, g_want, g_skip, g_val, g_call, g_ret, Option.map_none, hl, CP, bq1, bq2, bq3, bq4, ex_tup]
      exact rfl, ?_⟩
  show P48_1 _ _
  exact ⟨by simp [hl], by simp [hl]⟩
theorem R48_8 (pe : Nat → Fr48 → ASt → Prop) (pr : Fr48 → ASt → Prop) : Ref Cl P48_0 (Cat [true, true, true, false, true, false, false, true, false, false] (bodyOf Tryz.f48)) m48_8 (post P48_1 pe pr) := by
  rintro s ⟨t, h⟩ hp x s' hm
  have hp : P48_0' s t h := hp
  obtain ⟨hl, _⟩ := hp
  unfold m48_8 at hm
  cases hm
  refine ⟨⟨_, _⟩, by
      simp only [bodyOf, Tryz.f48, Cat, Bool.false_eq_true, e_seq, e_region, e_cond, e_block, ex_skip, ex_exit, ex_ret, o_cons, xops_nil, k_want_none, k_want_false, k_val, k_pan, k_call, k_ret, k_seq, k_seq_exit, k_seq_ret, k_true, k_false, k_block, k_block_exit, k_block_ret, k_loop, k_loop_exit, k_loop_ret, awanted, aoper, evalO, put, Option.getD_some, List.getElem?_set, acallOp, abuiltin, List.map_cons, List.map_nil, Nat.reduceEqDiff, Nat.reduceLT, List.length_set, Option.map_some, Option.bind_some, Option.bind_eq_bind, add_i, sub_i, mul_i, eql_i, neq_i, lss_i, leq_i, gtr_i, geq_i, ofV, ofCell, ↓reduceIte, List.cons_append, List.nil_append, List.append_nil, List.getElem?_toArray, List.getElem?_cons_succ, List.getElem?_cons_zero, e_draw, g_nil, g_cons, g_want, g_skip, g_val, g_call, g_ret, Option.map_none, hl, CP, bq1, bq2, bq3, bq4, ex_tup]
      exact rfl, ?_⟩
  show P48_1 _ _
  exact ⟨by simp [hl], by simp [hl]⟩
theorem R48_9 (pe : Nat → Fr48 → ASt → Prop) (pr : Fr48 → ASt → Prop) : Ref Cl P48_8 (Cat [true, true, true, false, true, false, false, false] (bodyOf Tryz.f48)) m48_9 (post P48_7 pe pr) := by
  rintro s ⟨t, h⟩ hp x s' hm
  have hp : P48_8' s t h := hp
  obtain ⟨hl, a6⟩ := hp
  unfold m48_9 at hm
  cases hm
  refine ⟨⟨_, _⟩, by
      simp only [bodyOf, Tryz.f48, Cat, Bool.false_eq_true, e_seq, e_region, e_cond, e_block, ex_skip, ex_exit, ex_ret, o_cons, xops_nil, k_want_none, k_want_false, k_val, k_pan, k_call, k_ret, k_seq, k_seq_exit, k_seq_ret, k_true, k_false, k_block, k_block_exit, k_block_ret, k_loop, k_loop_exit, k_loop_ret, awanted, aoper, evalO, put, Option.getD_some, List.getElem?_set, acallOp, abuiltin, List.map_cons, List.map_nil, Nat.reduceEqDiff, Nat.reduceLT, List.length_set, Option.map_some, Option.bind_some, Option.bind_eq_bind, add_i, sub_i, mul_i, eql_i, neq_i, lss_i, leq_i, gtr_i, geq_i, ofV, ofCell, ↓reduceIte, List.cons_append, List.nil_append, List.append_nil, List.getElem?_toArray, List.getElem?_cons_succ, List.getElem?_cons_zero, e_draw, g_nil, g_cons, g_want, g_skip, g_val, g_call, g_ret, Option.map_none, hl, a6, CP, bq1, bq2, bq3, bq4, ex_tup]
      exact rfl, ?_⟩
  show P48_7 _ _
  exact ⟨by simp [hl], by simp [hl]⟩
theorem R48_10 (pe : Nat → Fr48 → ASt → Prop) (pr : Fr48 → ASt → Prop) : Ref Cl P48_10 (Cat [true, true, true, false, false] (bodyOf Tryz.f48)) m48_10 (post P48_9 pe pr) := by
  rintro s ⟨t, h⟩ hp x s' hm
  have hp : P48_10' s t h := hp
  obtain ⟨hl, a0, a1, a5, a6⟩ := hp
  unfold m48_10 at hm
  cases hm
  refine ⟨⟨_, _⟩, by
      simp only [bodyOf, Tryz.f48, Cat, Bool.false_eq_true, e_seq, e_region, e_cond, e_block, ex_skip, ex_exit, ex_ret, o_cons, xops_nil, k_want_none, k_want_false, k_val, k_pan, k_call, k_ret, k_seq, k_seq_exit, k_seq_ret, k_true, k_false, k_block, k_block_exit, k_block_ret, k_loop, k_loop_exit, k_loop_ret, awanted, aoper, evalO, put, Option.getD_some, List.getElem?_set, acallOp, abuiltin, List.map_cons, List.map_nil, Nat.reduceEqDiff, Nat.reduceLT, List.length_set, Option.map_some, Option.bind_some, Option.bind_eq_bind, add_i, sub_i, mul_i, eql_i, neq_i, lss_i, leq_i, gtr_i, geq_i, ofV, ofCell, ↓reduceIte, List.cons_append, List.nil_append, List.append_nil, List.getElem?_toArray, List.getElem?_cons_succ, List.getElem?_cons_zero, e_draw, g_nil, g_cons, g_want, g_skip, g_val, g_call, g_ret, Option.map_none, hl, a0, a1, a5, a6, CP, bq1, bq2, bq3, bq4, ex_tup]
      exact rfl, ?_⟩
  show P48_9 _ _
  exact ⟨by simp [hl], by simp [a0], by simp [a1], by simp [a6], by simp [hl]⟩
theorem R48_11 (pe : Nat → Fr48 → ASt → Prop) (pr : Fr48 → ASt → Prop) : Ref Cl P48_11 (Cat [true, true, false] (bodyOf Tryz.f48)) m48_11 (post P48_10 pe pr) := by
  rintro s ⟨t, h⟩ hp x s' hm
  have hp : P48_11' s t h := hp
  obtain ⟨hl, a0, a1, a5⟩ := hp
  unfold m48_11 at hm
  obtain ⟨z3, hz3, hm⟩ := Option.bind_eq_some_iff.1 hm
  have iu4 := G98_spec s.t1  _ hz3
  cases hm
  refine ⟨⟨_, _⟩, by
      simp only [bodyOf, Tryz.f48, Cat, Bool.false_eq_true, e_seq, e_region, e_cond, e_block, ex_skip, ex_exit, ex_ret, o_cons, xops_nil, k_want_none, k_want_false, k_val, k_pan, k_call, k_ret, k_seq, k_seq_exit, k_seq_ret, k_true, k_false, k_block, k_block_exit, k_block_ret, k_loop, k_loop_exit, k_loop_ret, awanted, aoper, evalO, put, Option.getD_some, List.getElem?_set, acallOp, abuiltin, List.map_cons, List.map_nil, Nat.reduceEqDiff, Nat.reduceLT, List.length_set, Option.map_some, Option.bind_some, Option.bind_eq_bind, add_i, sub_i, mul_i, eql_i, neq_i, lss_i, leq_i, gtr_i, geq_i, ofV, ofCell, ↓reduceIte, List.cons_append, List.nil_append, List.append_nil, List.getElem?_toArray, List.getElem?_cons_succ, List.getElem?_cons_zero, e_draw, g_nil, g_cons, g_want, g_skip, g_val, g_call, g_ret, Option.map_none, hl, a0, a1, a5, CP, bq1, bq2, bq3, bq4, ex_tup, iu4]
      exact rfl, ?_⟩
  show P48_10 _ _
  exact ⟨by simp [hl], by simp [a0], by simp [a1], by simp [a5], by simp [hl]⟩
theorem R48_12 (pe : Nat → Fr48 → ASt → Prop) (pr : Fr48 → ASt → Prop) : Ref Cl P48_3 (Cat [true, false] (bodyOf Tryz.f48)) m48_12 (post P48_11 pe pr) := by
  rintro s ⟨t, h⟩ hp x s' hm
  have hp : P48_3' s t h := hp
  obtain ⟨hl, a0, a1⟩ := hp
  unfold m48_12 at hm
  obtain ⟨z7, hz7, hm⟩ := Option.bind_eq_some_iff.1 hm
  have iu8 := G98_spec s.t0  _ hz7
  cases hm
  refine ⟨⟨_, _⟩, by
      simp only [bodyOf, Tryz.f48, Cat, Bool.false_eq_true, e_seq, e_region, e_cond, e_block, ex_skip, ex_exit, ex_ret, o_cons, xops_nil, k_want_none, k_want_false, k_val, k_pan, k_call, k_ret, k_seq, k_seq_exit, k_seq_ret, k_true, k_false, k_block, k_block_exit, k_block_ret, k_loop, k_loop_exit, k_loop_ret, awanted, aoper, evalO, put, Option.getD_some, List.getElem?_set, acallOp, abuiltin, List.map_cons, List.map_nil, Nat.reduceEqDiff, Nat.reduceLT, List.length_set, Option.map_some, Option.bind_some, Option.bind_eq_bind, add_i, sub_i, mul_i, eql_i, neq_i, lss_i, leq_i, gtr_i, geq_i, ofV, ofCell, ↓reduceIte, List.cons_append, List.nil_append, List.append_nil, List.getElem?_toArray, List.getElem?_cons_succ, List.getElem?_cons_zero, e_draw, g_nil, g_cons, g_want, g_skip, g_val, g_call, g_ret, Option.map_none, hl, a0, a1, CP, bq1, bq2, bq3, bq4, ex_tup, iu8]
      exact rfl, ?_⟩
  show P48_11 _ _
  exact ⟨by simp [hl], by simp [a0], by simp [a1], by simp [hl]⟩
theorem R48_13 (pe : Nat → Fr48 → ASt → Prop) (pr : Fr48 → ASt → Prop) : Ref Cl P48_3 (Cat [false] (bodyOf Tryz.f48)) m48_13 (post P48_3 pe pr) := by
  rintro s ⟨t, h⟩ hp x s' hm
  have hp : P48_3' s t h := hp
  obtain ⟨hl, a0, a1⟩ := hp
  unfold m48_13 at hm
  cases hm
  refine ⟨⟨_, _⟩, by
      simp only [bodyOf, Tryz.f48, Cat, Bool.false_eq_true, e_seq, e_region, e_cond, e_block, ex_skip, ex_exit, ex_ret, o_cons, xops_nil, k_want_none, k_want_false, k_val, k_pan, k_call, k_ret, k_seq, k_seq_exit, k_seq_ret, k_true, k_false, k_block, k_block_exit, k_block_ret, k_loop, k_loop_exit, k_loop_ret, awanted, aoper, evalO, put, Option.getD_some, List.getElem?_set, acallOp, abuiltin, List.map_cons, List.map_nil, Nat.reduceEqDiff, Nat.reduceLT, List.length_set, Option.map_some, Option.bind_some, Option.bind_eq_bind, add_i, sub_i, mul_i, eql_i, neq_i, lss_i, leq_i, gtr_i, geq_i, ofV, ofCell, ↓reduceIte, List.cons_append, List.nil_append, List.append_nil, List.getElem?_toArray, List.getElem?_cons_succ, List.getElem?_cons_zero, e_draw, g_nil, g_cons, g_want, g_skip, g_val, g_call, g_ret, Option.map_none, hl, a0, a1, CP, bq1, bq2, bq3, bq4, ex_tup]
      exact rfl, ?_⟩
  show P48_3 _ _
  exact ⟨by simp [hl], by simp [a0], by simp [a1]⟩
theorem B48 : Ref Cl P48_3 (bodyOf Tryz.f48) (M48) (post P48_1 (fun _ _ _ => False) P48_1) := by
  rw [show bodyOf Tryz.f48 = .seq (Cat [false] (bodyOf Tryz.f48)) (.seq (Cat [true, false] (bodyOf Tryz.f48)) (.seq (Cat [true, true, false] (bodyOf Tryz.f48)) (.seq (.seq (Cat [true, true, true, false, false] (bodyOf Tryz.f48)) (.cond (.tmp 11) (.seq (.seq (Cat [true, true, true, false, true, false, false, false] (bodyOf Tryz.f48)) (.cond (.tmp 12) (.seq (Cat [true, true, true, false, true, false, false, true, false, false] (bodyOf Tryz.f48)) (.ret)) (.skip))) (.seq (Cat [true, true, true, false, true, false, true, false] (bodyOf Tryz.f48)) (.ret))) (.skip))) (.seq (.seq (Cat [true, true, true, true, false, false] (bodyOf Tryz.f48)) (.cond (.tmp 13) (.seq (Cat [true, true, true, true, false, true, false, false] (bodyOf Tryz.f48)) (.ret)) (.skip))) (.seq (.seq (Cat [true, true, true, true, true, false, false] (bodyOf Tryz.f48)) (.cond (.tmp 16) (.seq (Cat [true, true, true, true, true, false, true, false, false] (bodyOf Tryz.f48)) (.ret)) (.skip))) (.seq (.seq (Cat [true, true, true, true, true, true, false, false] (bodyOf Tryz.f48)) (.cond (.tmp 19) (.seq (Cat [true, true, true, true, true, true, false, true, false, false] (bodyOf Tryz.f48)) (.ret)) (.skip))) (.seq (Cat [true, true, true, true, true, true, true, false] (bodyOf Tryz.f48)) (.ret)))))))) from rfl]
  unfold M48
  exact ref_seq (M := P48_3) (R48_13 _ _) (ref_seq (M := P48_11) (R48_12 _ _) (ref_seq (M := P48_10) (R48_11 _ _) (ref_seq (M := P48_6) (ref_seq (M := P48_9) (R48_10 _ _) (ref_cond (P := P48_9) (c := fun s => s.t11) (fun s st hp => by obtain ⟨hl, a0, a1, a6, a11⟩ := (hp : P48_9' s st.tmps st.h); simp only [evalO, a11, Option.getD_some]) (ref_weak (P' := P48_8) (fun s st hp => by obtain ⟨hl, a0, a1, a6, a11⟩ := (hp : P48_9' s st.tmps st.h); exact (⟨hl, a6⟩ : P48_8' s st.tmps st.h)) (ref_seq (M := P48_0) (ref_seq (M := P48_7) (R48_9 _ _) (ref_cond (P := P48_7) (c := fun s => s.t12) (fun s st hp => by obtain ⟨hl, a12⟩ := (hp : P48_7' s st.tmps st.h); simp only [evalO, a12, Option.getD_some]) (ref_weak (P' := P48_0) (fun s st hp => by obtain ⟨hl, a12⟩ := (hp : P48_7' s st.tmps st.h); exact (⟨hl, trivial⟩ : P48_0' s st.tmps st.h)) (ref_seq (M := P48_1) (R48_8 _ _) (ref_ret (fun s st hp => hp)))) (ref_weak (P' := P48_0) (fun s st hp => by obtain ⟨hl, a12⟩ := (hp : P48_7' s st.tmps st.h); exact (⟨hl, trivial⟩ : P48_0' s st.tmps st.h)) (ref_skip (fun s st hp => hp))))) (ref_seq (M := P48_1) (R48_7 _ _) (ref_ret (fun s st hp => hp))))) (ref_weak (P' := P48_6) (fun s st hp => by obtain ⟨hl, a0, a1, a6, a11⟩ := (hp : P48_9' s st.tmps st.h); exact (⟨hl, a0, a1, a6⟩ : P48_6' s st.tmps st.h)) (ref_skip (fun s st hp => hp))))) (ref_seq (M := P48_3) (ref_seq (M := P48_5) (R48_6 _ _) (ref_cond (P := P48_5) (c := fun s => s.t13) (fun s st hp => by obtain ⟨hl, a0, a1, a13⟩ := (hp : P48_5' s st.tmps st.h); simp only [evalO, a13, Option.getD_some]) (ref_weak (P' := P48_0) (fun s st hp => by obtain ⟨hl, a0, a1, a13⟩ := (hp : P48_5' s st.tmps st.h); exact (⟨hl, trivial⟩ : P48_0' s st.tmps st.h)) (ref_seq (M := P48_1) (R48_5 _ _) (ref_ret (fun s st hp => hp)))) (ref_weak (P' := P48_3) (fun s st hp => by obtain ⟨hl, a0, a1, a13⟩ := (hp : P48_5' s st.tmps st.h); exact (⟨hl, a0, a1⟩ : P48_3' s st.tmps st.h)) (ref_skip (fun s st hp => hp))))) (ref_seq (M := P48_3) (ref_seq (M := P48_4) (R48_4 _ _) (ref_cond (P := P48_4) (c := fun s => s.t16) (fun s st hp => by obtain ⟨hl, a0, a1, a16⟩ := (hp : P48_4' s st.tmps st.h); simp only [evalO, a16, Option.getD_some]) (ref_weak (P' := P48_0) (fun s st hp => by obtain ⟨hl, a0, a1, a16⟩ := (hp : P48_4' s st.tmps st.h); exact (⟨hl, trivial⟩ : P48_0' s st.tmps st.h)) (ref_seq (M := P48_1) (R48_3 _ _) (ref_ret (fun s st hp => hp)))) (ref_weak (P' := P48_3) (fun s st hp => by obtain ⟨hl, a0, a1, a16⟩ := (hp : P48_4' s st.tmps st.h); exact (⟨hl, a0, a1⟩ : P48_3' s st.tmps st.h)) (ref_skip (fun s st hp => hp))))) (ref_seq (M := P48_0) (ref_seq (M := P48_2) (R48_2 _ _) (ref_cond (P := P48_2) (c := fun s => s.t19) (fun s st hp => by obtain ⟨hl, a19⟩ := (hp : P48_2' s st.tmps st.h); simp only [evalO, a19, Option.getD_some]) (ref_weak (P' := P48_0) (fun s st hp => by obtain ⟨hl, a19⟩ := (hp : P48_2' s st.tmps st.h); exact (⟨hl, trivial⟩ : P48_0' s st.tmps st.h)) (ref_seq (M := P48_1) (R48_1 _ _) (ref_ret (fun s st hp => hp)))) (ref_weak (P' := P48_0) (fun s st hp => by obtain ⟨hl, a19⟩ := (hp : P48_2' s st.tmps st.h); exact (⟨hl, trivial⟩ : P48_0' s st.tmps st.h)) (ref_skip (fun s st hp => hp))))) (ref_seq (M := P48_1) (R48_0 _ _) (ref_ret (fun s st hp => hp)))))))))
noncomputable def G48 (x0 : Int) (x1 : Int) : Option Int := match M48 { (default : Fr48) with t0 := x0, t1 := x1 } with
  | some (.nrm, s) => some s.t4
  | some (.ret, s) => some s.t4
  | _ => none
theorem G48_spec : Spec48 (G48) := by
  intro x0 x1 r hr
  unfold G48 at hr
  cases hm : M48 { (default : Fr48) with t0 := x0, t1 := x1 } with
  | none => rw [hm] at hr; cases hr
  | some q =>
    obtain ⟨x, s⟩ := q
    rw [hm] at hr
    have hx : x = .nrm ∨ x = .ret := by cases x <;> first | exact .inl rfl | exact .inr rfl | cases hr
    have hr : s.t4 = r := by cases x <;> first | exact Option.some.inj hr | cases hr
    subst hr
    have hp0 : P48_3' ({ (default : Fr48) with t0 := x0, t1 := x1 }) (slots Tryz.f48 (stripL [.int .i64 x0, .int .i64 x1])) bare := ⟨rfl, rfl, rfl⟩
    obtain ⟨v, hR, hrun⟩ := run_of_ref (C := Cl) (f := 48) (fn := Tryz.f48) Tryz.func48 rfl rfl rfl rfl (args := [.int .i64 x0, .int .i64 x1]) (by simp only [refsL, refs, List.append_nil]) (B48) (s0 := { (default : Fr48) with t0 := x0, t1 := x1 }) hp0 hm hx (R := fun v => v = .int .i64 s.t4) (by
      have key : ∀ st : ASt, P48_1 s st → ∃ vs v, aresults Cl Tryz.f48.results.toList st = some vs ∧ Nrm [] st.h (packRes vs) v ∧ (fun v => v = .int .i64 s.t4) v := by
        intro st hp
        obtain ⟨hl, a4⟩ := (hp : P48_1' s st.tmps st.h)
        exact ⟨[.int .i64 s.t4], _, by simp only [show Tryz.f48.results.toList = [ResultVar.tmp 4] from rfl, aresults, ares1, CP, a4, Option.getD_some], (Nrm.of (w := .int .i64 s.t4) (by simp only [refsL, refs, List.append_nil])), rfl⟩
      intro st hq
      rcases hx with rfl | rfl
      · exact key st hq
      · exact key st hq)
    subst hR
    exact hrun
/-! ### cmp.Or[int] -/
structure Fr47 where
  t0 : (List Int)
  t2 : Int
  t3 : Int
  t5 : Int
  t6 : (List Int)
  t7 : Int
  t8 : Int
  t9 : Bool
  t14 : Bool
instance : Inhabited Fr47 := ⟨⟨[], 0, 0, 0, [], 0, 0, false, false⟩⟩
def P47_0' (s : Fr47) (t : List AVal) (h : AHeap) : Prop := t.length = 18 ∧ t[3]? = some (.int .i64 s.t3)
def P47_0 (s : Fr47) (st : ASt) : Prop := P47_0' s st.tmps st.h
def P47_1' (s : Fr47) (t : List AVal) (h : AHeap) : Prop := t.length = 18 ∧ t[2]? = some (.int .i64 s.t2)
def P47_1 (s : Fr47) (st : ASt) : Prop := P47_1' s st.tmps st.h
def P47_2' (s : Fr47) (t : List AVal) (h : AHeap) : Prop := ∃ w6_0, t.length = 18 ∧ t[3]? = some (.int .i64 s.t3) ∧ t[6]? = some w6_0 ∧ Sl (rI .i64) s.t6 w6_0 ∧ t[7]? = some (.int .i64 s.t7) ∧ t[8]? = some (.int .i64 s.t8)
def P47_2 (s : Fr47) (st : ASt) : Prop := P47_2' s st.tmps st.h
def P47_3' (s : Fr47) (t : List AVal) (h : AHeap) : Prop := t.length = 18 ∧ t[5]? = some (.int .i64 s.t5)
def P47_3 (s : Fr47) (st : ASt) : Prop := P47_3' s st.tmps st.h
def P47_4' (s : Fr47) (t : List AVal) (h : AHeap) : Prop := ∃ w6_0, t.length = 18 ∧ t[3]? = some (.int .i64 s.t3) ∧ t[5]? = some (.int .i64 s.t5) ∧ t[6]? = some w6_0 ∧ Sl (rI .i64) s.t6 w6_0 ∧ t[7]? = some (.int .i64 s.t7) ∧ t[8]? = some (.int .i64 s.t8) ∧ t[14]? = some (.bool s.t14)
def P47_4 (s : Fr47) (st : ASt) : Prop := P47_4' s st.tmps st.h
def P47_5' (s : Fr47) (t : List AVal) (h : AHeap) : Prop := ∃ w6_0, t.length = 18 ∧ t[3]? = some (.int .i64 s.t3) ∧ t[5]? = some (.int .i64 s.t5) ∧ t[6]? = some w6_0 ∧ Sl (rI .i64) s.t6 w6_0 ∧ t[7]? = some (.int .i64 s.t7) ∧ t[8]? = some (.int .i64 s.t8)
def P47_5 (s : Fr47) (st : ASt) : Prop := P47_5' s st.tmps st.h
def P47_6' (s : Fr47) (t : List AVal) (h : AHeap) : Prop := ∃ w6_0, t.length = 18 ∧ t[3]? = some (.int .i64 s.t3) ∧ t[6]? = some w6_0 ∧ Sl (rI .i64) s.t6 w6_0 ∧ t[7]? = some (.int .i64 s.t7) ∧ t[8]? = some (.int .i64 s.t8) ∧ t[9]? = some (.bool s.t9)
def P47_6 (s : Fr47) (st : ASt) : Prop := P47_6' s st.tmps st.h
def P47_7' (s : Fr47) (t : List AVal) (h : AHeap) : Prop := ∃ w0_0, t.length = 18 ∧ t[0]? = some w0_0 ∧ Sl (rI .i64) s.t0 w0_0 ∧ t[3]? = some (.int .i64 s.t3)
def P47_7 (s : Fr47) (st : ASt) : Prop := P47_7' s st.tmps st.h
def P47_8' (s : Fr47) (t : List AVal) (h : AHeap) : Prop := ∃ w0_0, t.length = 18 ∧ t[0]? = some w0_0 ∧ Sl (rI .i64) s.t0 w0_0
def P47_8 (s : Fr47) (st : ASt) : Prop := P47_8' s st.tmps st.h
noncomputable def m47_0 : Mo Fr47 := fun s => some (.nrm, { s with t2 := s.t3 })
noncomputable def m47_1 : Mo Fr47 := fun s => some (.nrm, { s with t8 := IntKind.wrap .i64 (s.t8 + 1) })
noncomputable def m47_2 : Mo Fr47 := fun s => some (.nrm, { s with t2 := s.t5 })
noncomputable def m47_3 : Mo Fr47 := fun s => some (.nrm, { s with t14 := (s.t5 != s.t3) })
noncomputable def m47_4 : Mo Fr47 := fun s => (at? s.t6 s.t8).bind fun y1 => some (.nrm, { s with t5 := y1 })
noncomputable def m47_5 : Mo Fr47 := fun s => some (.nrm, { s with t9 := decide (s.t8 < s.t7) })
noncomputable def L47_6 : Mo Fr47 := seqM (m47_5) (seqM (condM (fun s => s.t9) (skipM) (exitM 0)) (seqM (blockM 1 (seqM (m47_4) (seqM (m47_3) (condM (fun s => s.t14) (seqM (m47_2) (retM)) (skipM))))) (m47_1)))
noncomputable def m47_7 : Mo Fr47 := fun s => some (.nrm, { s with t6 := s.t0, t7 := (s.t0.length : Int), t8 := 0 })
noncomputable def m47_8 : Mo Fr47 := fun s => some (.nrm, { s with t3 := 0 })
noncomputable def m47_9 : Mo Fr47 := fun s => some (.nrm, s)
noncomputable def M47 : Mo Fr47 := seqM (m47_9) (seqM (m47_8) (seqM (seqM (m47_7) (blockM 0 (loopM (L47_6)))) (seqM (m47_0) (retM))))
def Spec47 (f : (List Int) → Option Int) : Prop := ∀ (x0 : (List Int)) (vx0_0 : AVal) (_ : Sl (rI .i64) x0 vx0_0) (r : Int), f x0 = some r → ∀ h, run Cl 47 [vx0_0] h = some (.ret (.int .i64 r), h)
theorem Spec47_of {f g : (List Int) → Option Int} (hg : Spec47 g) (h : ∀ x0 r, f x0 = some r → g x0 = some r) : Spec47 f := fun x0 v0_ w0_ r hr => hg x0 v0_ w0_ r (h x0 r hr)
theorem R47_0 (pe : Nat → Fr47 → ASt → Prop) (pr : Fr47 → ASt → Prop) : Ref Cl P47_0 (Cat [true, true, true, false] (bodyOf Tryz.f47)) m47_0 (post P47_1 pe pr) := by
  rintro s ⟨t, h⟩ hp x s' hm
  have hp : P47_0' s t h := hp
  obtain ⟨hl, a3⟩ := hp
  unfold m47_0 at hm
  cases hm
  refine ⟨⟨_, _⟩, by
      simp only [bodyOf, Tryz.f47, Cat, Bool.false_eq_true, e_seq, e_region, e_cond, e_block, ex_skip, ex_exit, ex_ret, o_cons, xops_nil, k_want_none, k_want_false, k_val, k_pan, k_call, k_ret, k_seq, k_seq_exit, k_seq_ret, k_true, k_false, k_block, k_block_exit, k_block_ret, k_loop, k_loop_exit, k_loop_ret, awanted, aoper, evalO, put, Option.getD_some, List.getElem?_set, acallOp, abuiltin, List.map_cons, List.map_nil, Nat.reduceEqDiff, Nat.reduceLT, List.length_set, Option.map_some, Option.bind_some, Option.bind_eq_bind, add_i, sub_i, mul_i, eql_i, neq_i, lss_i, leq_i, gtr_i, geq_i, ofV, ofCell, ↓reduceIte, List.cons_append, List.nil_append, List.append_nil, List.getElem?_toArray, List.getElem?_cons_succ, List.getElem?_cons_zero, e_draw, g_nil, g_cons, g_want, g_skip, g_val, g_call, g_ret, Option.map_none, hl, a3, CP, bq1, bq2, bq3, bq4, ex_tup]
      exact rfl, ?_⟩
  show P47_1 _ _
  exact ⟨by simp [hl], by simp [hl]⟩
theorem R47_1 (pe : Nat → Fr47 → ASt → Prop) (pr : Fr47 → ASt → Prop) : Ref Cl P47_2 (Cat [true, true, false, true, true, true, true, true, true] (bodyOf Tryz.f47)) m47_1 (post P47_2 pe pr) := by
  rintro s ⟨t, h⟩ hp x s' hm
  have hp : P47_2' s t h := hp
  obtain ⟨w6_0, hl, a3, a6, r6_0, a7, a8⟩ := hp
  unfold m47_1 at hm
  cases hm
  refine ⟨⟨_, _⟩, by
      simp only [bodyOf, Tryz.f47, Cat, Bool.false_eq_true, e_seq, e_region, e_cond, e_block, ex_skip, ex_exit, ex_ret, o_cons, xops_nil, k_want_none, k_want_false, k_val, k_pan, k_call, k_ret, k_seq, k_seq_exit, k_seq_ret, k_true, k_false, k_block, k_block_exit, k_block_ret, k_loop, k_loop_exit, k_loop_ret, awanted, aoper, evalO, put, Option.getD_some, List.getElem?_set, acallOp, abuiltin, List.map_cons, List.map_nil, Nat.reduceEqDiff, Nat.reduceLT, List.length_set, Option.map_some, Option.bind_some, Option.bind_eq_bind, add_i, sub_i, mul_i, eql_i, neq_i, lss_i, leq_i, gtr_i, geq_i, ofV, ofCell, ↓reduceIte, List.cons_append, List.nil_append, List.append_nil, List.getElem?_toArray, List.getElem?_cons_succ, List.getElem?_cons_zero, e_draw, g_nil, g_cons, g_want, g_skip, g_val, g_call, g_ret, Option.map_none, hl, a3, a6, a7, a8, CP, bq1, bq2, bq3, bq4, ex_tup]
      exact rfl, ?_⟩
  show P47_2 _ _
  exact ⟨w6_0, by simp [hl], by simp [a3], by simp [a6], r6_0, by simp [a7], by simp [hl]⟩
theorem R47_2 (pe : Nat → Fr47 → ASt → Prop) (pr : Fr47 → ASt → Prop) : Ref Cl P47_3 (Cat [true, true, false, true, true, true, true, true, false, true, true, true, false, false] (bodyOf Tryz.f47)) m47_2 (post P47_1 pe pr) := by
  rintro s ⟨t, h⟩ hp x s' hm
  have hp : P47_3' s t h := hp
  obtain ⟨hl, a5⟩ := hp
  unfold m47_2 at hm
  cases hm
  refine ⟨⟨_, _⟩, by
      simp only [bodyOf, Tryz.f47, Cat, Bool.false_eq_true, e_seq, e_region, e_cond, e_block, ex_skip, ex_exit, ex_ret, o_cons, xops_nil, k_want_none, k_want_false, k_val, k_pan, k_call, k_ret, k_seq, k_seq_exit, k_seq_ret, k_true, k_false, k_block, k_block_exit, k_block_ret, k_loop, k_loop_exit, k_loop_ret, awanted, aoper, evalO, put, Option.getD_some, List.getElem?_set, acallOp, abuiltin, List.map_cons, List.map_nil, Nat.reduceEqDiff, Nat.reduceLT, List.length_set, Option.map_some, Option.bind_some, Option.bind_eq_bind, add_i, sub_i, mul_i, eql_i, neq_i, lss_i, leq_i, gtr_i, geq_i, ofV, ofCell, ↓reduceIte, List.cons_append, List.nil_append, List.append_nil, List.getElem?_toArray, List.getElem?_cons_succ, List.getElem?_cons_zero, e_draw, g_nil, g_cons, g_want, g_skip, g_val, g_call, g_ret, Option.map_none, hl, a5, CP, bq1, bq2, bq3, bq4, ex_tup]
      exact rfl, ?_⟩
  show P47_1 _ _
  exact ⟨by simp [hl], by simp [hl]⟩
theorem R47_3 (pe : Nat → Fr47 → ASt → Prop) (pr : Fr47 → ASt → Prop) : Ref Cl P47_5 (Cat [true, true, false, true, true, true, true, true, false, true, true, false] (bodyOf Tryz.f47)) m47_3 (post P47_4 pe pr) := by
  rintro s ⟨t, h⟩ hp x s' hm
  have hp : P47_5' s t h := hp
  obtain ⟨w6_0, hl, a3, a5, a6, r6_0, a7, a8⟩ := hp
  unfold m47_3 at hm
  cases hm
  refine ⟨⟨_, _⟩, by
      simp only [bodyOf, Tryz.f47, Cat, Bool.false_eq_true, e_seq, e_region, e_cond, e_block, ex_skip, ex_exit, ex_ret, o_cons, xops_nil, k_want_none, k_want_false, k_val, k_pan, k_call, k_ret, k_seq, k_seq_exit, k_seq_ret, k_true, k_false, k_block, k_block_exit, k_block_ret, k_loop, k_loop_exit, k_loop_ret, awanted, aoper, evalO, put, Option.getD_some, List.getElem?_set, acallOp, abuiltin, List.map_cons, List.map_nil, Nat.reduceEqDiff, Nat.reduceLT, List.length_set, Option.map_some, Option.bind_some, Option.bind_eq_bind, add_i, sub_i, mul_i, eql_i, neq_i, lss_i, leq_i, gtr_i, geq_i, ofV, ofCell, ↓reduceIte, List.cons_append, List.nil_append, List.append_nil, List.getElem?_toArray, List.getElem?_cons_succ, List.getElem?_cons_zero, e_draw, g_nil, g_cons, g_want, g_skip, g_val, g_call, g_ret, Option.map_none, hl, a3, a5, a6, a7, a8, CP, bq1, bq2, bq3, bq4, ex_tup]
      exact rfl, ?_⟩
  show P47_4 _ _
  exact ⟨w6_0, by simp [hl], by simp [a3], by simp [a5], by simp [a6], r6_0, by simp [a7], by simp [a8], by simp [hl]⟩
theorem R47_4 (pe : Nat → Fr47 → ASt → Prop) (pr : Fr47 → ASt → Prop) : Ref Cl P47_2 (Cat [true, true, false, true, true, true, true, true, false, true, false] (bodyOf Tryz.f47)) m47_4 (post P47_5 pe pr) := by
  rintro s ⟨t, h⟩ hp x s' hm
  have hp : P47_2' s t h := hp
  obtain ⟨w6_0, hl, a3, a6, r6_0, a7, a8⟩ := hp
  unfold m47_4 at hm
  obtain ⟨y3, hy3, hm⟩ := Option.bind_eq_some_iff.1 hm
  obtain ⟨cu4, du4, eu4, iu4, _⟩ := Sl.ix (rI_p .i64) r6_0 hy3
  subst eu4
  cases hm
  refine ⟨⟨_, _⟩, by
      simp only [bodyOf, Tryz.f47, Cat, Bool.false_eq_true, e_seq, e_region, e_cond, e_block, ex_skip, ex_exit, ex_ret, o_cons, xops_nil, k_want_none, k_want_false, k_val, k_pan, k_call, k_ret, k_seq, k_seq_exit, k_seq_ret, k_true, k_false, k_block, k_block_exit, k_block_ret, k_loop, k_loop_exit, k_loop_ret, awanted, aoper, evalO, put, Option.getD_some, List.getElem?_set, acallOp, abuiltin, List.map_cons, List.map_nil, Nat.reduceEqDiff, Nat.reduceLT, List.length_set, Option.map_some, Option.bind_some, Option.bind_eq_bind, add_i, sub_i, mul_i, eql_i, neq_i, lss_i, leq_i, gtr_i, geq_i, ofV, ofCell, ↓reduceIte, List.cons_append, List.nil_append, List.append_nil, List.getElem?_toArray, List.getElem?_cons_succ, List.getElem?_cons_zero, e_draw, g_nil, g_cons, g_want, g_skip, g_val, g_call, g_ret, Option.map_none, hl, a3, a6, a7, a8, CP, bq1, bq2, bq3, bq4, ex_tup, Ty.ix25, iu4, Ty.ld3, ld_ip, ofc1, List.drop_succ_cons, List.drop_zero]
      exact rfl, ?_⟩
  show P47_5 _ _
  exact ⟨w6_0, by simp [hl], by simp [a3], by simp [hl], by simp [a6], r6_0, by simp [a7], by simp [a8]⟩
theorem R47_5 (pe : Nat → Fr47 → ASt → Prop) (pr : Fr47 → ASt → Prop) : Ref Cl P47_2 (Cat [true, true, false, true, true, true, false] (bodyOf Tryz.f47)) m47_5 (post P47_6 pe pr) := by
  rintro s ⟨t, h⟩ hp x s' hm
  have hp : P47_2' s t h := hp
  obtain ⟨w6_0, hl, a3, a6, r6_0, a7, a8⟩ := hp
  unfold m47_5 at hm
  cases hm
  refine ⟨⟨_, _⟩, by
      simp only [bodyOf, Tryz.f47, Cat, Bool.false_eq_true, e_seq, e_region, e_cond, e_block, ex_skip, ex_exit, ex_ret, o_cons, xops_nil, k_want_none, k_want_false, k_val, k_pan, k_call, k_ret, k_seq, k_seq_exit, k_seq_ret, k_true, k_false, k_block, k_block_exit, k_block_ret, k_loop, k_loop_exit, k_loop_ret, awanted, aoper, evalO, put, Option.getD_some, List.getElem?_set, acallOp, abuiltin, List.map_cons, List.map_nil, Nat.reduceEqDiff, Nat.reduceLT, List.length_set, Option.map_some, Option.bind_some, Option.bind_eq_bind, add_i, sub_i, mul_i, eql_i, neq_i, lss_i, leq_i, gtr_i, geq_i, ofV, ofCell, ↓reduceIte, List.cons_append, List.nil_append, List.append_nil, List.getElem?_toArray, List.getElem?_cons_succ, List.getElem?_cons_zero, e_draw, g_nil, g_cons, g_want, g_skip, g_val, g_call, g_ret, Option.map_none, hl, a3, a6, a7, a8, CP, bq1, bq2, bq3, bq4, ex_tup]
      exact rfl, ?_⟩
  show P47_6 _ _
  exact ⟨w6_0, by simp [hl], by simp [a3], by simp [a6], r6_0, by simp [a7], by simp [a8], by simp [hl]⟩
theorem R47_7 (pe : Nat → Fr47 → ASt → Prop) (pr : Fr47 → ASt → Prop) : Ref Cl P47_7 (Cat [true, true, false, false] (bodyOf Tryz.f47)) m47_7 (post P47_2 pe pr) := by
  rintro s ⟨t, h⟩ hp x s' hm
  have hp : P47_7' s t h := hp
  obtain ⟨w0_0, hl, a0, r0_0, a3⟩ := hp
  unfold m47_7 at hm
  have lu6 := fun h => Sl.len r0_0 Ty.un25 h
  cases hm
  refine ⟨⟨_, _⟩, by
      simp only [bodyOf, Tryz.f47, Cat, Bool.false_eq_true, e_seq, e_region, e_cond, e_block, ex_skip, ex_exit, ex_ret, o_cons, xops_nil, k_want_none, k_want_false, k_val, k_pan, k_call, k_ret, k_seq, k_seq_exit, k_seq_ret, k_true, k_false, k_block, k_block_exit, k_block_ret, k_loop, k_loop_exit, k_loop_ret, awanted, aoper, evalO, put, Option.getD_some, List.getElem?_set, acallOp, abuiltin, List.map_cons, List.map_nil, Nat.reduceEqDiff, Nat.reduceLT, List.length_set, Option.map_some, Option.bind_some, Option.bind_eq_bind, add_i, sub_i, mul_i, eql_i, neq_i, lss_i, leq_i, gtr_i, geq_i, ofV, ofCell, ↓reduceIte, List.cons_append, List.nil_append, List.append_nil, List.getElem?_toArray, List.getElem?_cons_succ, List.getElem?_cons_zero, e_draw, g_nil, g_cons, g_want, g_skip, g_val, g_call, g_ret, Option.map_none, hl, a0, a3, CP, bq1, bq2, bq3, bq4, ex_tup, lu6]
      exact rfl, ?_⟩
  show P47_2 _ _
  exact ⟨w0_0, by simp [hl], by simp [a3], by simp [hl], r0_0, by simp [hl], by simp [hl]⟩
theorem R47_8 (pe : Nat → Fr47 → ASt → Prop) (pr : Fr47 → ASt → Prop) : Ref Cl P47_8 (Cat [true, false] (bodyOf Tryz.f47)) m47_8 (post P47_7 pe pr) := by
  rintro s ⟨t, h⟩ hp x s' hm
  have hp : P47_8' s t h := hp
  obtain ⟨w0_0, hl, a0, r0_0⟩ := hp
  unfold m47_8 at hm
  cases hm
  refine ⟨⟨_, _⟩, by
      simp only [bodyOf, Tryz.f47, Cat, Bool.false_eq_true, e_seq, e_region, e_cond, e_block, ex_skip, ex_exit, ex_ret, o_cons, xops_nil, k_want_none, k_want_false, k_val, k_pan, k_call, k_ret, k_seq, k_seq_exit, k_seq_ret, k_true, k_false, k_block, k_block_exit, k_block_ret, k_loop, k_loop_exit, k_loop_ret, awanted, aoper, evalO, put, Option.getD_some, List.getElem?_set, acallOp, abuiltin, List.map_cons, List.map_nil, Nat.reduceEqDiff, Nat.reduceLT, List.length_set, Option.map_some, Option.bind_some, Option.bind_eq_bind, add_i, sub_i, mul_i, eql_i, neq_i, lss_i, leq_i, gtr_i, geq_i, ofV, ofCell, ↓reduceIte, List.cons_append, List.nil_append, List.append_nil, List.getElem?_toArray, List.getElem?_cons_succ, List.getElem?_cons_zero, e_draw, g_nil, g_cons, g_want, g_skip, g_val, g_call, g_ret, Option.map_none, hl, a0, CP, bq1, bq2, bq3, bq4, ex_tup]
      exact rfl, ?_⟩
  show P47_7 _ _
  exact ⟨w0_0, by simp [hl], by simp [a0], r0_0, by simp [hl]⟩
theorem R47_9 (pe : Nat → Fr47 → ASt → Prop) (pr : Fr47 → ASt → Prop) : Ref Cl P47_8 (Cat [false] (bodyOf Tryz.f47)) m47_9 (post P47_8 pe pr) := by
  rintro s ⟨t, h⟩ hp x s' hm
  have hp : P47_8' s t h := hp
  obtain ⟨w0_0, hl, a0, r0_0⟩ := hp
  unfold m47_9 at hm
  cases hm
  refine ⟨⟨_, _⟩, by
      simp only [bodyOf, Tryz.f47, Cat, Bool.false_eq_true, e_seq, e_region, e_cond, e_block, ex_skip, ex_exit, ex_ret, o_cons, xops_nil, k_want_none, k_want_false, k_val, k_pan, k_call, k_ret, k_seq, k_seq_exit, k_seq_ret, k_true, k_false, k_block, k_block_exit, k_block_ret, k_loop, k_loop_exit, k_loop_ret, awanted, aoper, evalO, put, Option.getD_some, List.getElem?_set, acallOp, abuiltin, List.map_cons, List.map_nil, Nat.reduceEqDiff, Nat.reduceLT, List.length_set, Option.map_some, Option.bind_some, Option.bind_eq_bind, add_i, sub_i, mul_i, eql_i, neq_i, lss_i, leq_i, gtr_i, geq_i, ofV, ofCell, ↓reduceIte, List.cons_append, List.nil_append, List.append_nil, List.getElem?_toArray, List.getElem?_cons_succ, List.getElem?_cons_zero, e_draw, g_nil, g_cons, g_want, g_skip, g_val, g_call, g_ret, Option.map_none, hl, a0, CP, bq1, bq2, bq3, bq4, ex_tup]
      exact rfl, ?_⟩
  show P47_8 _ _
  exact ⟨w0_0, by simp [hl], by simp [a0], r0_0⟩
theorem B47 : Ref Cl P47_8 (bodyOf Tryz.f47) (M47) (post P47_1 (fun _ _ _ => False) P47_1) := by
  rw [show bodyOf Tryz.f47 = .seq (Cat [false] (bodyOf Tryz.f47)) (.seq (Cat [true, false] (bodyOf Tryz.f47)) (.seq (.seq (Cat [true, true, false, false] (bodyOf Tryz.f47)) (.block 0 (.loop (.seq (Cat [true, true, false, true, true, true, false] (bodyOf Tryz.f47)) (.seq (.cond (.tmp 9) (.skip) (.exit 0)) (.seq (.block 1 (.seq (Cat [true, true, false, true, true, true, true, true, false, true, false] (bodyOf Tryz.f47)) (.seq (Cat [true, true, false, true, true, true, true, true, false, true, true, false] (bodyOf Tryz.f47)) (.cond (.tmp 14) (.seq (Cat [true, true, false, true, true, true, true, true, false, true, true, true, false, false] (bodyOf Tryz.f47)) (.ret)) (.skip))))) (Cat [true, true, false, true, true, true, true, true, true] (bodyOf Tryz.f47)))))))) (.seq (Cat [true, true, true, false] (bodyOf Tryz.f47)) (.ret)))) from rfl]
  unfold M47
  exact ref_seq (M := P47_8) (R47_9 _ _) (ref_seq (M := P47_7) (R47_8 _ _) (ref_seq (M := P47_0) (ref_seq (M := P47_2) (R47_7 _ _) (ref_block (ref_loop (P := P47_2) (ref_weak (P' := P47_2) (fun s st hp => hp) (ref_seq (M := P47_6) (R47_5 _ _) (ref_seq (M := P47_2) (ref_cond (P := P47_6) (c := fun s => s.t9) (fun s st hp => by obtain ⟨w6_0, hl, a3, a6, r6_0, a7, a8, a9⟩ := (hp : P47_6' s st.tmps st.h); simp only [evalO, a9, Option.getD_some]) (ref_weak (P' := P47_2) (fun s st hp => by obtain ⟨w6_0, hl, a3, a6, r6_0, a7, a8, a9⟩ := (hp : P47_6' s st.tmps st.h); exact (⟨w6_0, hl, a3, a6, r6_0, a7, a8⟩ : P47_2' s st.tmps st.h)) (ref_skip (fun s st hp => hp))) (ref_weak (P' := P47_0) (fun s st hp => by obtain ⟨w6_0, hl, a3, a6, r6_0, a7, a8, a9⟩ := (hp : P47_6' s st.tmps st.h); exact (⟨hl, a3⟩ : P47_0' s st.tmps st.h)) (ref_exit (fun s st hp => hp)))) (ref_seq (M := P47_2) (ref_block (ref_seq (M := P47_5) (R47_4 _ _) (ref_seq (M := P47_4) (R47_3 _ _) (ref_cond (P := P47_4) (c := fun s => s.t14) (fun s st hp => by obtain ⟨w6_0, hl, a3, a5, a6, r6_0, a7, a8, a14⟩ := (hp : P47_4' s st.tmps st.h); simp only [evalO, a14, Option.getD_some]) (ref_weak (P' := P47_3) (fun s st hp => by obtain ⟨w6_0, hl, a3, a5, a6, r6_0, a7, a8, a14⟩ := (hp : P47_4' s st.tmps st.h); exact (⟨hl, a5⟩ : P47_3' s st.tmps st.h)) (ref_seq (M := P47_1) (R47_2 _ _) (ref_ret (fun s st hp => hp)))) (ref_weak (P' := P47_2) (fun s st hp => by obtain ⟨w6_0, hl, a3, a5, a6, r6_0, a7, a8, a14⟩ := (hp : P47_4' s st.tmps st.h); exact (⟨w6_0, hl, a3, a6, r6_0, a7, a8⟩ : P47_2' s st.tmps st.h)) (ref_skip (fun s st hp => hp))))))) (R47_1 _ _)))))))) (ref_seq (M := P47_1) (R47_0 _ _) (ref_ret (fun s st hp => hp)))))
noncomputable def G47 (x0 : (List Int)) : Option Int := match M47 { (default : Fr47) with t0 := x0 } with
  | some (.nrm, s) => some s.t2
  | some (.ret, s) => some s.t2
  | _ => none
theorem G47_spec : Spec47 (G47) := by
  intro x0 vx0_0 hvx0_0 r hr
  unfold G47 at hr
  cases hm : M47 { (default : Fr47) with t0 := x0 } with
  | none => rw [hm] at hr; cases hr
  | some q =>
    obtain ⟨x, s⟩ := q
    rw [hm] at hr
    have hx : x = .nrm ∨ x = .ret := by cases x <;> first | exact .inl rfl | exact .inr rfl | cases hr
    have hr : s.t2 = r := by cases x <;> first | exact Option.some.inj hr | cases hr
    subst hr
    have hp0 : P47_8' ({ (default : Fr47) with t0 := x0 }) (slots Tryz.f47 (stripL [vx0_0])) bare := ⟨(strip vx0_0 : AVal), rfl, rfl, hvx0_0.strip (rI_p .i64)⟩
    obtain ⟨v, hR, hrun⟩ := run_of_ref (C := Cl) (f := 47) (fn := Tryz.f47) Tryz.func47 rfl rfl rfl rfl (args := [vx0_0]) (by simp only [refsL, refs, List.append_nil, hvx0_0.refs (rI_p .i64)]) (B47) (s0 := { (default : Fr47) with t0 := x0 }) hp0 hm hx (R := fun v => v = .int .i64 s.t2) (by
      have key : ∀ st : ASt, P47_1 s st → ∃ vs v, aresults Cl Tryz.f47.results.toList st = some vs ∧ Nrm [] st.h (packRes vs) v ∧ (fun v => v = .int .i64 s.t2) v := by
        intro st hp
        obtain ⟨hl, a2⟩ := (hp : P47_1' s st.tmps st.h)
        exact ⟨[.int .i64 s.t2], _, by simp only [show Tryz.f47.results.toList = [ResultVar.tmp 2] from rfl, aresults, ares1, CP, a2, Option.getD_some], (Nrm.of (w := .int .i64 s.t2) (by simp only [refsL, refs, List.append_nil])), rfl⟩
      intro st hq
      rcases hx with rfl | rfl
      · exact key st hq
      · exact key st hq)
    subst hR
    exact hrun
/-! ### caisson/cube.isSet -/
structure Fr20 where
  t0 : Int
  t2 : Bool
instance : Inhabited Fr20 := ⟨⟨0, false⟩⟩
def P20_0' (s : Fr20) (t : List AVal) (h : AHeap) : Prop := t.length = 9 ∧ t[0]? = some (.int .i64 s.t0)
def P20_0 (s : Fr20) (st : ASt) : Prop := P20_0' s st.tmps st.h
def P20_1' (s : Fr20) (t : List AVal) (h : AHeap) : Prop := t.length = 9 ∧ t[2]? = some (.bool s.t2)
def P20_1 (s : Fr20) (st : ASt) : Prop := P20_1' s st.tmps st.h
noncomputable def m20_0 : Mo Fr20 := fun s => some (.nrm, { s with t2 := ((decide (s.t0 ≥ 0)) && (decide (s.t0 ≤ 63))) })
noncomputable def m20_1 : Mo Fr20 := fun s => some (.nrm, s)
noncomputable def M20 : Mo Fr20 := seqM (m20_1) (seqM (m20_0) (retM))
def Spec20 (f : Int → Option Bool) : Prop := ∀ (x0 : Int) (r : Bool), f x0 = some r → ∀ h, run Cl 20 [.int .i64 x0] h = some (.ret (.bool r), h)
theorem Spec20_of {f g : Int → Option Bool} (hg : Spec20 g) (h : ∀ x0 r, f x0 = some r → g x0 = some r) : Spec20 f := fun x0 r hr => hg x0 r (h x0 r hr)
theorem R20_0 (pe : Nat → Fr20 → ASt → Prop) (pr : Fr20 → ASt → Prop) : Ref Cl P20_0 (Cat [true, false] (bodyOf Tryz.f20)) m20_0 (post P20_1 pe pr) := by
  rintro s ⟨t, h⟩ hp x s' hm
  have hp : P20_0' s t h := hp
  obtain ⟨hl, a0⟩ := hp
  unfold m20_0 at hm
  cases hb1 : decide (s.t0 ≥ 0) with
  | true =>
    all_goals (
      try simp only [hb1, cond_true, cond_false, Option.bind_some, Option.bind_assoc, Bool.not_true, Bool.not_false, Bool.true_and, Bool.false_and, Bool.and_true, Bool.and_false, Bool.true_or, Bool.false_or] at hm
      cases hm
      refine ⟨⟨_, _⟩, by
          simp only [bodyOf, Tryz.f20, Cat, Bool.false_eq_true, e_seq, e_region, e_cond, e_block, ex_skip, ex_exit, ex_ret, o_cons, xops_nil, k_want_none, k_want_false, k_val, k_pan, k_call, k_ret, k_seq, k_seq_exit, k_seq_ret, k_true, k_false, k_block, k_block_exit, k_block_ret, k_loop, k_loop_exit, k_loop_ret, awanted, aoper, evalO, put, Option.getD_some, List.getElem?_set, acallOp, abuiltin, List.map_cons, List.map_nil, Nat.reduceEqDiff, Nat.reduceLT, List.length_set, Option.map_some, Option.bind_some, Option.bind_eq_bind, add_i, sub_i, mul_i, eql_i, neq_i, lss_i, leq_i, gtr_i, geq_i, ofV, ofCell, ↓reduceIte, List.cons_append, List.nil_append, List.append_nil, List.getElem?_toArray, List.getElem?_cons_succ, List.getElem?_cons_zero, e_draw, g_nil, g_cons, g_want, g_skip, g_val, g_call, g_ret, Option.map_none, hl, a0, CP, bq1, bq2, bq3, bq4, ex_tup, hb1]
          exact rfl, ?_⟩
      show P20_1 _ _
      exact ⟨by simp [hl], by simp [hl, hb1]⟩)
  | false =>
    all_goals (
      try simp only [hb1, cond_true, cond_false, Option.bind_some, Option.bind_assoc, Bool.not_true, Bool.not_false, Bool.true_and, Bool.false_and, Bool.and_true, Bool.and_false, Bool.true_or, Bool.false_or] at hm
      cases hm
      refine ⟨⟨_, _⟩, by
          simp only [bodyOf, Tryz.f20, Cat, Bool.false_eq_true, e_seq, e_region, e_cond, e_block, ex_skip, ex_exit, ex_ret, o_cons, xops_nil, k_want_none, k_want_false, k_val, k_pan, k_call, k_ret, k_seq, k_seq_exit, k_seq_ret, k_true, k_false, k_block, k_block_exit, k_block_ret, k_loop, k_loop_exit, k_loop_ret, awanted, aoper, evalO, put, Option.getD_some, List.getElem?_set, acallOp, abuiltin, List.map_cons, List.map_nil, Nat.reduceEqDiff, Nat.reduceLT, List.length_set, Option.map_some, Option.bind_some, Option.bind_eq_bind, add_i, sub_i, mul_i, eql_i, neq_i, lss_i, leq_i, gtr_i, geq_i, ofV, ofCell, ↓reduceIte, List.cons_append, List.nil_append, List.append_nil, List.getElem?_toArray, List.getElem?_cons_succ, List.getElem?_cons_zero, e_draw, g_nil, g_cons, g_want, g_skip, g_val, g_call, g_ret, Option.map_none, hl, a0, CP, bq1, bq2, bq3, bq4, ex_tup, hb1]
          exact rfl, ?_⟩
      show P20_1 _ _
      exact ⟨by simp [hl], by simp [hl, hb1]⟩)
theorem R20_1 (pe : Nat → Fr20 → ASt → Prop) (pr : Fr20 → ASt → Prop) : Ref Cl P20_0 (Cat [false] (bodyOf Tryz.f20)) m20_1 (post P20_0 pe pr) := by
  rintro s ⟨t, h⟩ hp x s' hm
  have hp : P20_0' s t h := hp
  obtain ⟨hl, a0⟩ := hp
  unfold m20_1 at hm
  cases hm
  refine ⟨⟨_, _⟩, by
      simp only [bodyOf, Tryz.f20, Cat, Bool.false_eq_true, e_seq, e_region, e_cond, e_block, ex_skip, ex_exit, ex_ret, o_cons, xops_nil, k_want_none, k_want_false, k_val, k_pan, k_call, k_ret, k_seq, k_seq_exit, k_seq_ret, k_true, k_false, k_block, k_block_exit, k_block_ret, k_loop, k_loop_exit, k_loop_ret, awanted, aoper, evalO, put, Option.getD_some, List.getElem?_set, acallOp, abuiltin, List.map_cons, List.map_nil, Nat.reduceEqDiff, Nat.reduceLT, List.length_set, Option.map_some, Option.bind_some, Option.bind_eq_bind, add_i, sub_i, mul_i, eql_i, neq_i, lss_i, leq_i, gtr_i, geq_i, ofV, ofCell, ↓reduceIte, List.cons_append, List.nil_append, List.append_nil, List.getElem?_toArray, List.getElem?_cons_succ, List.getElem?_cons_zero, e_draw, g_nil, g_cons, g_want, g_skip, g_val, g_call, g_ret, Option.map_none, hl, a0, CP, bq1, bq2, bq3, bq4, ex_tup]
      exact rfl, ?_⟩
  show P20_0 _ _
  exact ⟨by simp [hl], by simp [a0]⟩
theorem B20 : Ref Cl P20_0 (bodyOf Tryz.f20) (M20) (post P20_1 (fun _ _ _ => False) P20_1) := by
  rw [show bodyOf Tryz.f20 = .seq (Cat [false] (bodyOf Tryz.f20)) (.seq (Cat [true, false] (bodyOf Tryz.f20)) (.ret)) from rfl]
  unfold M20
  exact ref_seq (M := P20_0) (R20_1 _ _) (ref_seq (M := P20_1) (R20_0 _ _) (ref_ret (fun s st hp => hp)))
noncomputable def G20 (x0 : Int) : Option Bool := match M20 { (default : Fr20) with t0 := x0 } with
  | some (.nrm, s) => some s.t2
  | some (.ret, s) => some s.t2
  | _ => none
theorem G20_spec : Spec20 (G20) := by
  intro x0 r hr
  unfold G20 at hr
  cases hm : M20 { (default : Fr20) with t0 := x0 } with
  | none => rw [hm] at hr; cases hr
  | some q =>
    obtain ⟨x, s⟩ := q
    rw [hm] at hr
    have hx : x = .nrm ∨ x = .ret := by cases x <;> first | exact .inl rfl | exact .inr rfl | cases hr
    have hr : s.t2 = r := by cases x <;> first | exact Option.some.inj hr | cases hr
    subst hr
    have hp0 : P20_0' ({ (default : Fr20) with t0 := x0 }) (slots Tryz.f20 (stripL [.int .i64 x0])) bare := ⟨rfl, rfl⟩
    obtain ⟨v, hR, hrun⟩ := run_of_ref (C := Cl) (f := 20) (fn := Tryz.f20) Tryz.func20 rfl rfl rfl rfl (args := [.int .i64 x0]) (by simp only [refsL, refs, List.append_nil]) (B20) (s0 := { (default : Fr20) with t0 := x0 }) hp0 hm hx (R := fun v => v = .bool s.t2) (by
      have key : ∀ st : ASt, P20_1 s st → ∃ vs v, aresults Cl Tryz.f20.results.toList st = some vs ∧ Nrm [] st.h (packRes vs) v ∧ (fun v => v = .bool s.t2) v := by
        intro st hp
        obtain ⟨hl, a2⟩ := (hp : P20_1' s st.tmps st.h)
        exact ⟨[.bool s.t2], _, by simp only [show Tryz.f20.results.toList = [ResultVar.tmp 2] from rfl, aresults, ares1, CP, a2, Option.getD_some], (Nrm.of (w := .bool s.t2) (by simp only [refsL, refs, List.append_nil])), rfl⟩
      intro st hq
      rcases hx with rfl | rfl
      · exact key st hq
      · exact key st hq)
    subst hR
    exact hrun
/-! ### caisson/cube.Covers -/
structure Fr8 where
  t0 : Int
  t1 : Int
  t4 : Bool
instance : Inhabited Fr8 := ⟨⟨0, 0, false⟩⟩
def P8_0' (s : Fr8) (t : List AVal) (h : AHeap) : Prop := t.length = 17 ∧ t[0]? = some (.int .i64 s.t0) ∧ t[1]? = some (.int .i64 s.t1)
def P8_0 (s : Fr8) (st : ASt) : Prop := P8_0' s st.tmps st.h
def P8_1' (s : Fr8) (t : List AVal) (h : AHeap) : Prop := t.length = 17 ∧ t[4]? = some (.bool s.t4)
def P8_1 (s : Fr8) (st : ASt) : Prop := P8_1' s st.tmps st.h
noncomputable def m8_0 : Mo Fr8 := fun s => (G20 s.t0).bind fun z1 => (cond z1 ((G20 s.t1).bind fun z3 => some z3) (some false)).bind fun x5 => some (.nrm, { s with t4 := ((z1 && x5) && ((bits .andNot .i64 s.t1 s.t0) == 0)) })
noncomputable def m8_1 : Mo Fr8 := fun s => some (.nrm, s)
noncomputable def M8 : Mo Fr8 := seqM (m8_1) (seqM (m8_0) (retM))
def Spec8 (f : Int → Int → Option Bool) : Prop := ∀ (x0 : Int) (x1 : Int) (r : Bool), f x0 x1 = some r → ∀ h, run Cl 8 [.int .i64 x0, .int .i64 x1] h = some (.ret (.bool r), h)
theorem Spec8_of {f g : Int → Int → Option Bool} (hg : Spec8 g) (h : ∀ x0 x1 r, f x0 x1 = some r → g x0 x1 = some r) : Spec8 f := fun x0 x1 r hr => hg x0 x1 r (h x0 x1 r hr)
theorem R8_0 (pe : Nat → Fr8 → ASt → Prop) (pr : Fr8 → ASt → Prop) : Ref Cl P8_0 (Cat [true, false] (bodyOf Tryz.f8)) m8_0 (post P8_1 pe pr) := by
  rintro s ⟨t, h⟩ hp x s' hm
  have hp : P8_0' s t h := hp
  obtain ⟨hl, a0, a1⟩ := hp
  unfold m8_0 at hm
  obtain ⟨z6, hz6, hm⟩ := Option.bind_eq_some_iff.1 hm
  have iu7 := G20_spec s.t0  _ hz6
  cases hb8 : z6 with
  | true =>
    all_goals (
      try simp only [hb8, cond_true, cond_false, Option.bind_some, Option.bind_assoc, Bool.not_true, Bool.not_false, Bool.true_and, Bool.false_and, Bool.and_true, Bool.and_false, Bool.true_or, Bool.false_or] at hm
      obtain ⟨z9, hz9, hm⟩ := Option.bind_eq_some_iff.1 hm
      have iu10 := G20_spec s.t1  _ hz9
      try simp only [cond_true, cond_false, Option.bind_some, Option.bind_assoc, Bool.not_true, Bool.not_false, Bool.true_and, Bool.false_and, Bool.and_true, Bool.and_false, Bool.true_or, Bool.false_or] at hm
      cases hb11 : z9 with
      | true =>
        all_goals (
          try simp only [hb11, cond_true, cond_false, Option.bind_some, Option.bind_assoc, Bool.not_true, Bool.not_false, Bool.true_and, Bool.false_and, Bool.and_true, Bool.and_false, Bool.true_or, Bool.false_or] at hm
          cases hm
          refine ⟨⟨_, _⟩, by
              simp only [bodyOf, Tryz.f8, Cat, Bool.false_eq_true, e_seq, e_region, e_cond, e_block, ex_skip, ex_exit, ex_ret, o_cons, xops_nil, k_want_none, k_want_false, k_val, k_pan, k_call, k_ret, k_seq, k_seq_exit, k_seq_ret, k_true, k_false, k_block, k_block_exit, k_block_ret, k_loop, k_loop_exit, k_loop_ret, awanted, aoper, evalO, put, Option.getD_some, List.getElem?_set, acallOp, abuiltin, List.map_cons, List.map_nil, Nat.reduceEqDiff, Nat.reduceLT, List.length_set, Option.map_some, Option.bind_some, Option.bind_eq_bind, add_i, sub_i, mul_i, eql_i, neq_i, lss_i, leq_i, gtr_i, geq_i, ofV, ofCell, ↓reduceIte, List.cons_append, List.nil_append, List.append_nil, List.getElem?_toArray, List.getElem?_cons_succ, List.getElem?_cons_zero, e_draw, g_nil, g_cons, g_want, g_skip, g_val, g_call, g_ret, Option.map_none, hl, a0, a1, CP, bq1, bq2, bq3, bq4, ex_tup, iu7, iu10, Ty.andNot3, hb8, hb11]
              exact rfl, ?_⟩
          show P8_1 _ _
          exact ⟨by simp [hl], by simp [hl, hb8, hb11]⟩)
      | false =>
        all_goals (
          try simp only [hb11, cond_true, cond_false, Option.bind_some, Option.bind_assoc, Bool.not_true, Bool.not_false, Bool.true_and, Bool.false_and, Bool.and_true, Bool.and_false, Bool.true_or, Bool.false_or] at hm
          cases hm
          refine ⟨⟨_, _⟩, by
              simp only [bodyOf, Tryz.f8, Cat, Bool.false_eq_true, e_seq, e_region, e_cond, e_block, ex_skip, ex_exit, ex_ret, o_cons, xops_nil, k_want_none, k_want_false, k_val, k_pan, k_call, k_ret, k_seq, k_seq_exit, k_seq_ret, k_true, k_false, k_block, k_block_exit, k_block_ret, k_loop, k_loop_exit, k_loop_ret, awanted, aoper, evalO, put, Option.getD_some, List.getElem?_set, acallOp, abuiltin, List.map_cons, List.map_nil, Nat.reduceEqDiff, Nat.reduceLT, List.length_set, Option.map_some, Option.bind_some, Option.bind_eq_bind, add_i, sub_i, mul_i, eql_i, neq_i, lss_i, leq_i, gtr_i, geq_i, ofV, ofCell, ↓reduceIte, List.cons_append, List.nil_append, List.append_nil, List.getElem?_toArray, List.getElem?_cons_succ, List.getElem?_cons_zero, e_draw, g_nil, g_cons, g_want, g_skip, g_val, g_call, g_ret, Option.map_none, hl, a0, a1, CP, bq1, bq2, bq3, bq4, ex_tup, iu7, iu10, hb8, hb11]
              exact rfl, ?_⟩
          show P8_1 _ _
          exact ⟨by simp [hl], by simp [hl, hb8, hb11]⟩))
  | false =>
    all_goals (
      try simp only [hb8, cond_true, cond_false, Option.bind_some, Option.bind_assoc, Bool.not_true, Bool.not_false, Bool.true_and, Bool.false_and, Bool.and_true, Bool.and_false, Bool.true_or, Bool.false_or] at hm
      cases hm
      refine ⟨⟨_, _⟩, by
          simp only [bodyOf, Tryz.f8, Cat, Bool.false_eq_true, e_seq, e_region, e_cond, e_block, ex_skip, ex_exit, ex_ret, o_cons, xops_nil, k_want_none, k_want_false, k_val, k_pan, k_call, k_ret, k_seq, k_seq_exit, k_seq_ret, k_true, k_false, k_block, k_block_exit, k_block_ret, k_loop, k_loop_exit, k_loop_ret, awanted, aoper, evalO, put, Option.getD_some, List.getElem?_set, acallOp, abuiltin, List.map_cons, List.map_nil, Nat.reduceEqDiff, Nat.reduceLT, List.length_set, Option.map_some, Option.bind_some, Option.bind_eq_bind, add_i, sub_i, mul_i, eql_i, neq_i, lss_i, leq_i, gtr_i, geq_i, ofV, ofCell, ↓reduceIte, List.cons_append, List.nil_append, List.append_nil, List.getElem?_toArray, List.getElem?_cons_succ, List.getElem?_cons_zero, e_draw, g_nil, g_cons, g_want, g_skip, g_val, g_call, g_ret, Option.map_none, hl, a0, a1, CP, bq1, bq2, bq3, bq4, ex_tup, iu7, hb8]
          exact rfl, ?_⟩
      show P8_1 _ _
      exact ⟨by simp [hl], by simp [hl, hb8]⟩)
theorem R8_1 (pe : Nat → Fr8 → ASt → Prop) (pr : Fr8 → ASt → Prop) : Ref Cl P8_0 (Cat [false] (bodyOf Tryz.f8)) m8_1 (post P8_0 pe pr) := by
  rintro s ⟨t, h⟩ hp x s' hm
  have hp : P8_0' s t h := hp
  obtain ⟨hl, a0, a1⟩ := hp
  unfold m8_1 at hm
  cases hm
  refine ⟨⟨_, _⟩, by
      simp only [bodyOf, Tryz.f8, Cat, Bool.false_eq_true, e_seq, e_region, e_cond, e_block, ex_skip, ex_exit, ex_ret, o_cons, xops_nil, k_want_none, k_want_false, k_val, k_pan, k_call, k_ret, k_seq, k_seq_exit, k_seq_ret, k_true, k_false, k_block, k_block_exit, k_block_ret, k_loop, k_loop_exit, k_loop_ret, awanted, aoper, evalO, put, Option.getD_some, List.getElem?_set, acallOp, abuiltin, List.map_cons, List.map_nil, Nat.reduceEqDiff, Nat.reduceLT, List.length_set, Option.map_some, Option.bind_some, Option.bind_eq_bind, add_i, sub_i, mul_i, eql_i, neq_i, lss_i, leq_i, gtr_i, geq_i, ofV, ofCell, ↓reduceIte, List.cons_append, List.nil_append, List.append_nil, List.getElem?_toArray, List.getElem?_cons_succ, List.getElem?_cons_zero, e_draw, g_nil, g_cons, g_want, g_skip, g_val, g_call, g_ret, Option.map_none, hl, a0, a1, CP, bq1, bq2, bq3, bq4, ex_tup]
      exact rfl, ?_⟩
  show P8_0 _ _
  exact ⟨by simp [hl], by simp [a0], by simp [a1]⟩
theorem B8 : Ref Cl P8_0 (bodyOf Tryz.f8) (M8) (post P8_1 (fun _ _ _ => False) P8_1) := by
  rw [show bodyOf Tryz.f8 = .seq (Cat [false] (bodyOf Tryz.f8)) (.seq (Cat [true, false] (bodyOf Tryz.f8)) (.ret)) from rfl]
  unfold M8
  exact ref_seq (M := P8_0) (R8_1 _ _) (ref_seq (M := P8_1) (R8_0 _ _) (ref_ret (fun s st hp => hp)))
noncomputable def G8 (x0 : Int) (x1 : Int) : Option Bool := match M8 { (default : Fr8) with t0 := x0, t1 := x1 } with
  | some (.nrm, s) => some s.t4
  | some (.ret, s) => some s.t4
  | _ => none
theorem G8_spec : Spec8 (G8) := by
  intro x0 x1 r hr
  unfold G8 at hr
  cases hm : M8 { (default : Fr8) with t0 := x0, t1 := x1 } with
  | none => rw [hm] at hr; cases hr
  | some q =>
    obtain ⟨x, s⟩ := q
    rw [hm] at hr
    have hx : x = .nrm ∨ x = .ret := by cases x <;> first | exact .inl rfl | exact .inr rfl | cases hr
    have hr : s.t4 = r := by cases x <;> first | exact Option.some.inj hr | cases hr
    subst hr
    have hp0 : P8_0' ({ (default : Fr8) with t0 := x0, t1 := x1 }) (slots Tryz.f8 (stripL [.int .i64 x0, .int .i64 x1])) bare := ⟨rfl, rfl, rfl⟩
    obtain ⟨v, hR, hrun⟩ := run_of_ref (C := Cl) (f := 8) (fn := Tryz.f8) Tryz.func8 rfl rfl rfl rfl (args := [.int .i64 x0, .int .i64 x1]) (by simp only [refsL, refs, List.append_nil]) (B8) (s0 := { (default : Fr8) with t0 := x0, t1 := x1 }) hp0 hm hx (R := fun v => v = .bool s.t4) (by
      have key : ∀ st : ASt, P8_1 s st → ∃ vs v, aresults Cl Tryz.f8.results.toList st = some vs ∧ Nrm [] st.h (packRes vs) v ∧ (fun v => v = .bool s.t4) v := by
        intro st hp
        obtain ⟨hl, a4⟩ := (hp : P8_1' s st.tmps st.h)
        exact ⟨[.bool s.t4], _, by simp only [show Tryz.f8.results.toList = [ResultVar.tmp 4] from rfl, aresults, ares1, CP, a4, Option.getD_some], (Nrm.of (w := .bool s.t4) (by simp only [refsL, refs, List.append_nil])), rfl⟩
      intro st hq
      rcases hx with rfl | rfl
      · exact key st hq
      · exact key st hq)
    subst hR
    exact hrun
/-! ### caisson/sets.Of -/
structure Fr18 where
  t0 : (List Int)
  t2 : Int
  t3 : Int
  t5 : Int
  t6 : (List Int)
  t7 : Int
  t8 : Int
  t9 : Bool
  t17 : Bool
instance : Inhabited Fr18 := ⟨⟨[], 0, 0, 0, [], 0, 0, false, false⟩⟩
def P18_0' (s : Fr18) (t : List AVal) (h : AHeap) : Prop := t.length = 24 ∧ t[3]? = some (.int .i64 s.t3)
def P18_0 (s : Fr18) (st : ASt) : Prop := P18_0' s st.tmps st.h
def P18_1' (s : Fr18) (t : List AVal) (h : AHeap) : Prop := t.length = 24 ∧ t[2]? = some (.int .i64 s.t2)
def P18_1 (s : Fr18) (st : ASt) : Prop := P18_1' s st.tmps st.h
def P18_2' (s : Fr18) (t : List AVal) (h : AHeap) : Prop := ∃ w6_0, t.length = 24 ∧ t[3]? = some (.int .i64 s.t3) ∧ t[6]? = some w6_0 ∧ Sl (rI .i64) s.t6 w6_0 ∧ t[7]? = some (.int .i64 s.t7) ∧ t[8]? = some (.int .i64 s.t8)
def P18_2 (s : Fr18) (st : ASt) : Prop := P18_2' s st.tmps st.h
def P18_3' (s : Fr18) (t : List AVal) (h : AHeap) : Prop := ∃ w6_0, t.length = 24 ∧ t[3]? = some (.int .i64 s.t3) ∧ t[5]? = some (.int .i64 s.t5) ∧ t[6]? = some w6_0 ∧ Sl (rI .i64) s.t6 w6_0 ∧ t[7]? = some (.int .i64 s.t7) ∧ t[8]? = some (.int .i64 s.t8)
def P18_3 (s : Fr18) (st : ASt) : Prop := P18_3' s st.tmps st.h
def P18_4' (s : Fr18) (t : List AVal) (h : AHeap) : Prop := ∃ w6_0, t.length = 24 ∧ t[3]? = some (.int .i64 s.t3) ∧ t[5]? = some (.int .i64 s.t5) ∧ t[6]? = some w6_0 ∧ Sl (rI .i64) s.t6 w6_0 ∧ t[7]? = some (.int .i64 s.t7) ∧ t[8]? = some (.int .i64 s.t8) ∧ t[17]? = some (.bool s.t17)
def P18_4 (s : Fr18) (st : ASt) : Prop := P18_4' s st.tmps st.h
def P18_5' (s : Fr18) (t : List AVal) (h : AHeap) : Prop := ∃ w6_0, t.length = 24 ∧ t[3]? = some (.int .i64 s.t3) ∧ t[6]? = some w6_0 ∧ Sl (rI .i64) s.t6 w6_0 ∧ t[7]? = some (.int .i64 s.t7) ∧ t[8]? = some (.int .i64 s.t8) ∧ t[9]? = some (.bool s.t9)
def P18_5 (s : Fr18) (st : ASt) : Prop := P18_5' s st.tmps st.h
def P18_6' (s : Fr18) (t : List AVal) (h : AHeap) : Prop := ∃ w0_0, t.length = 24 ∧ t[0]? = some w0_0 ∧ Sl (rI .i64) s.t0 w0_0 ∧ t[3]? = some (.int .i64 s.t3)
def P18_6 (s : Fr18) (st : ASt) : Prop := P18_6' s st.tmps st.h
def P18_7' (s : Fr18) (t : List AVal) (h : AHeap) : Prop := ∃ w0_0, t.length = 24 ∧ t[0]? = some w0_0 ∧ Sl (rI .i64) s.t0 w0_0
def P18_7 (s : Fr18) (st : ASt) : Prop := P18_7' s st.tmps st.h
noncomputable def m18_0 : Mo Fr18 := fun s => some (.nrm, { s with t2 := s.t3 })
noncomputable def m18_1 : Mo Fr18 := fun s => some (.nrm, { s with t8 := IntKind.wrap .i64 (s.t8 + 1) })
noncomputable def m18_2 : Mo Fr18 := fun s => (shlT .i64 1 s.t5).bind fun z1 => some (.nrm, { s with t3 := bits .or .i64 s.t3 z1 })
noncomputable def m18_3 : Mo Fr18 := fun s => some (.nrm, { s with t17 := ((decide (s.t5 ≥ 0)) && (decide (s.t5 < 6))) })
noncomputable def m18_4 : Mo Fr18 := fun s => (at? s.t6 s.t8).bind fun y6 => some (.nrm, { s with t5 := y6 })
noncomputable def m18_5 : Mo Fr18 := fun s => some (.nrm, { s with t9 := decide (s.t8 < s.t7) })
noncomputable def L18_6 : Mo Fr18 := seqM (m18_5) (seqM (condM (fun s => s.t9) (skipM) (exitM 0)) (seqM (blockM 1 (seqM (m18_4) (seqM (m18_3) (condM (fun s => s.t17) (m18_2) (skipM))))) (m18_1)))
noncomputable def m18_7 : Mo Fr18 := fun s => some (.nrm, { s with t6 := s.t0, t7 := (s.t0.length : Int), t8 := 0 })
noncomputable def m18_8 : Mo Fr18 := fun s => some (.nrm, { s with t3 := 0 })
noncomputable def m18_9 : Mo Fr18 := fun s => some (.nrm, s)
noncomputable def M18 : Mo Fr18 := seqM (m18_9) (seqM (m18_8) (seqM (seqM (m18_7) (blockM 0 (loopM (L18_6)))) (seqM (m18_0) (retM))))
def Spec18 (f : (List Int) → Option Int) : Prop := ∀ (x0 : (List Int)) (vx0_0 : AVal) (_ : Sl (rI .i64) x0 vx0_0) (r : Int), f x0 = some r → ∀ h, run Cl 18 [vx0_0] h = some (.ret (.int .i64 r), h)
theorem Spec18_of {f g : (List Int) → Option Int} (hg : Spec18 g) (h : ∀ x0 r, f x0 = some r → g x0 = some r) : Spec18 f := fun x0 v0_ w0_ r hr => hg x0 v0_ w0_ r (h x0 r hr)
theorem R18_0 (pe : Nat → Fr18 → ASt → Prop) (pr : Fr18 → ASt → Prop) : Ref Cl P18_0 (Cat [true, true, true, false] (bodyOf Tryz.f18)) m18_0 (post P18_1 pe pr) := by
  rintro s ⟨t, h⟩ hp x s' hm
  have hp : P18_0' s t h := hp
  obtain ⟨hl, a3⟩ := hp
  unfold m18_0 at hm
  cases hm
  refine ⟨⟨_, _⟩, by
      simp only [bodyOf, Tryz.f18, Cat, Bool.false_eq_true, e_seq, e_region, e_cond, e_block, ex_skip, ex_exit, ex_ret, o_cons, xops_nil, k_want_none, k_want_false, k_val, k_pan, k_call, k_ret, k_seq, k_seq_exit, k_seq_ret, k_true, k_false, k_block, k_block_exit, k_block_ret, k_loop, k_loop_exit, k_loop_ret, awanted, aoper, evalO, put, Option.getD_some, List.getElem?_set, acallOp, abuiltin, List.map_cons, List.map_nil, Nat.reduceEqDiff, Nat.reduceLT, List.length_set, Option.map_some, Option.bind_some, Option.bind_eq_bind, add_i, sub_i, mul_i, eql_i, neq_i, lss_i, leq_i, gtr_i, geq_i, ofV, ofCell, ↓reduceIte, List.cons_append, List.nil_append, List.append_nil, List.getElem?_toArray, List.getElem?_cons_succ, List.getElem?_cons_zero, e_draw, g_nil, g_cons, g_want, g_skip, g_val, g_call, g_ret, Option.map_none, hl, a3, CP, bq1, bq2, bq3, bq4, ex_tup]
      exact rfl, ?_⟩
  show P18_1 _ _
  exact ⟨by simp [hl], by simp [hl]⟩
theorem R18_1 (pe : Nat → Fr18 → ASt → Prop) (pr : Fr18 → ASt → Prop) : Ref Cl P18_2 (Cat [true, true, false, true, true, true, true, true, true] (bodyOf Tryz.f18)) m18_1 (post P18_2 pe pr) := by
  rintro s ⟨t, h⟩ hp x s' hm
  have hp : P18_2' s t h := hp
  obtain ⟨w6_0, hl, a3, a6, r6_0, a7, a8⟩ := hp
  unfold m18_1 at hm
  cases hm
  refine ⟨⟨_, _⟩, by
      simp only [bodyOf, Tryz.f18, Cat, Bool.false_eq_true, e_seq, e_region, e_cond, e_block, ex_skip, ex_exit, ex_ret, o_cons, xops_nil, k_want_none, k_want_false, k_val, k_pan, k_call, k_ret, k_seq, k_seq_exit, k_seq_ret, k_true, k_false, k_block, k_block_exit, k_block_ret, k_loop, k_loop_exit, k_loop_ret, awanted, aoper, evalO, put, Option.getD_some, List.getElem?_set, acallOp, abuiltin, List.map_cons, List.map_nil, Nat.reduceEqDiff, Nat.reduceLT, List.length_set, Option.map_some, Option.bind_some, Option.bind_eq_bind, add_i, sub_i, mul_i, eql_i, neq_i, lss_i, leq_i, gtr_i, geq_i, ofV, ofCell, ↓reduceIte, List.cons_append, List.nil_append, List.append_nil, List.getElem?_toArray, List.getElem?_cons_succ, List.getElem?_cons_zero, e_draw, g_nil, g_cons, g_want, g_skip, g_val, g_call, g_ret, Option.map_none, hl, a3, a6, a7, a8, CP, bq1, bq2, bq3, bq4, ex_tup]
      exact rfl, ?_⟩
  show P18_2 _ _
  exact ⟨w6_0, by simp [hl], by simp [a3], by simp [a6], r6_0, by simp [a7], by simp [hl]⟩
theorem R18_2 (pe : Nat → Fr18 → ASt → Prop) (pr : Fr18 → ASt → Prop) : Ref Cl P18_3 (Cat [true, true, false, true, true, true, true, true, false, true, true, true, false] (bodyOf Tryz.f18)) m18_2 (post P18_2 pe pr) := by
  rintro s ⟨t, h⟩ hp x s' hm
  have hp : P18_3' s t h := hp
  obtain ⟨w6_0, hl, a3, a5, a6, r6_0, a7, a8⟩ := hp
  unfold m18_2 at hm
  obtain ⟨z3, hz3, hm⟩ := Option.bind_eq_some_iff.1 hm
  have iu4 := shl_v (C := Cl) hz3
  cases hm
  refine ⟨⟨_, _⟩, by
      simp only [bodyOf, Tryz.f18, Cat, Bool.false_eq_true, e_seq, e_region, e_cond, e_block, ex_skip, ex_exit, ex_ret, o_cons, xops_nil, k_want_none, k_want_false, k_val, k_pan, k_call, k_ret, k_seq, k_seq_exit, k_seq_ret, k_true, k_false, k_block, k_block_exit, k_block_ret, k_loop, k_loop_exit, k_loop_ret, awanted, aoper, evalO, put, Option.getD_some, List.getElem?_set, acallOp, abuiltin, List.map_cons, List.map_nil, Nat.reduceEqDiff, Nat.reduceLT, List.length_set, Option.map_some, Option.bind_some, Option.bind_eq_bind, add_i, sub_i, mul_i, eql_i, neq_i, lss_i, leq_i, gtr_i, geq_i, ofV, ofCell, ↓reduceIte, List.cons_append, List.nil_append, List.append_nil, List.getElem?_toArray, List.getElem?_cons_succ, List.getElem?_cons_zero, e_draw, g_nil, g_cons, g_want, g_skip, g_val, g_call, g_ret, Option.map_none, hl, a3, a5, a6, a7, a8, CP, bq1, bq2, bq3, bq4, ex_tup, iu4, Ty.or3]
      exact rfl, ?_⟩
  show P18_2 _ _
  exact ⟨w6_0, by simp [hl], by simp [hl], by simp [a6], r6_0, by simp [a7], by simp [a8]⟩
theorem R18_3 (pe : Nat → Fr18 → ASt → Prop) (pr : Fr18 → ASt → Prop) : Ref Cl P18_3 (Cat [true, true, false, true, true, true, true, true, false, true, true, false] (bodyOf Tryz.f18)) m18_3 (post P18_4 pe pr) := by
  rintro s ⟨t, h⟩ hp x s' hm
  have hp : P18_3' s t h := hp
  obtain ⟨w6_0, hl, a3, a5, a6, r6_0, a7, a8⟩ := hp
  unfold m18_3 at hm
  cases hb5 : decide (s.t5 ≥ 0) with
  | true =>
    all_goals (
      try simp only [hb5, cond_true, cond_false, Option.bind_some, Option.bind_assoc, Bool.not_true, Bool.not_false, Bool.true_and, Bool.false_and, Bool.and_true, Bool.and_false, Bool.true_or, Bool.false_or] at hm
      cases hm
      refine ⟨⟨_, _⟩, by
          simp only [bodyOf, Tryz.f18, Cat, Bool.false_eq_true, e_seq, e_region, e_cond, e_block, ex_skip, ex_exit, ex_ret, o_cons, xops_nil, k_want_none, k_want_false, k_val, k_pan, k_call, k_ret, k_seq, k_seq_exit, k_seq_ret, k_true, k_false, k_block, k_block_exit, k_block_ret, k_loop, k_loop_exit, k_loop_ret, awanted, aoper, evalO, put, Option.getD_some, List.getElem?_set, acallOp, abuiltin, List.map_cons, List.map_nil, Nat.reduceEqDiff, Nat.reduceLT, List.length_set, Option.map_some, Option.bind_some, Option.bind_eq_bind, add_i, sub_i, mul_i, eql_i, neq_i, lss_i, leq_i, gtr_i, geq_i, ofV, ofCell, ↓reduceIte, List.cons_append, List.nil_append, List.append_nil, List.getElem?_toArray, List.getElem?_cons_succ, List.getElem?_cons_zero, e_draw, g_nil, g_cons, g_want, g_skip, g_val, g_call, g_ret, Option.map_none, hl, a3, a5, a6, a7, a8, CP, bq1, bq2, bq3, bq4, ex_tup, hb5]
          exact rfl, ?_⟩
      show P18_4 _ _
      exact ⟨w6_0, by simp [hl], by simp [a3], by simp [a5], by simp [a6], r6_0, by simp [a7], by simp [a8], by simp [hl, hb5]⟩)
  | false =>
    all_goals (
      try simp only [hb5, cond_true, cond_false, Option.bind_some, Option.bind_assoc, Bool.not_true, Bool.not_false, Bool.true_and, Bool.false_and, Bool.and_true, Bool.and_false, Bool.true_or, Bool.false_or] at hm
      cases hm
      refine ⟨⟨_, _⟩, by
          simp only [bodyOf, Tryz.f18, Cat, Bool.false_eq_true, e_seq, e_region, e_cond, e_block, ex_skip, ex_exit, ex_ret, o_cons, xops_nil, k_want_none, k_want_false, k_val, k_pan, k_call, k_ret, k_seq, k_seq_exit, k_seq_ret, k_true, k_false, k_block, k_block_exit, k_block_ret, k_loop, k_loop_exit, k_loop_ret, awanted, aoper, evalO, put, Option.getD_some, List.getElem?_set, acallOp, abuiltin, List.map_cons, List.map_nil, Nat.reduceEqDiff, Nat.reduceLT, List.length_set, Option.map_some, Option.bind_some, Option.bind_eq_bind, add_i, sub_i, mul_i, eql_i, neq_i, lss_i, leq_i, gtr_i, geq_i, ofV, ofCell, ↓reduceIte, List.cons_append, List.nil_append, List.append_nil, List.getElem?_toArray, List.getElem?_cons_succ, List.getElem?_cons_zero, e_draw, g_nil, g_cons, g_want, g_skip, g_val, g_call, g_ret, Option.map_none, hl, a3, a5, a6, a7, a8, CP, bq1, bq2, bq3, bq4, ex_tup, hb5]
          exact rfl, ?_⟩
      show P18_4 _ _
      exact ⟨w6_0, by simp [hl], by simp [a3], by simp [a5], by simp [a6], r6_0, by simp [a7], by simp [a8], by simp [hl, hb5]⟩)
theorem R18_4 (pe : Nat → Fr18 → ASt → Prop) (pr : Fr18 → ASt → Prop) : Ref Cl P18_2 (Cat [true, true, false, true, true, true, true, true, false, true, false] (bodyOf Tryz.f18)) m18_4 (post P18_3 pe pr) := by
  rintro s ⟨t, h⟩ hp x s' hm
  have hp : P18_2' s t h := hp
  obtain ⟨w6_0, hl, a3, a6, r6_0, a7, a8⟩ := hp
  unfold m18_4 at hm
  obtain ⟨y8, hy8, hm⟩ := Option.bind_eq_some_iff.1 hm
  obtain ⟨cu9, du9, eu9, iu9, _⟩ := Sl.ix (rI_p .i64) r6_0 hy8
  subst eu9
  cases hm
  refine ⟨⟨_, _⟩, by
      simp only [bodyOf, Tryz.f18, Cat, Bool.false_eq_true, e_seq, e_region, e_cond, e_block, ex_skip, ex_exit, ex_ret, o_cons, xops_nil, k_want_none, k_want_false, k_val, k_pan, k_call, k_ret, k_seq, k_seq_exit, k_seq_ret, k_true, k_false, k_block, k_block_exit, k_block_ret, k_loop, k_loop_exit, k_loop_ret, awanted, aoper, evalO, put, Option.getD_some, List.getElem?_set, acallOp, abuiltin, List.map_cons, List.map_nil, Nat.reduceEqDiff, Nat.reduceLT, List.length_set, Option.map_some, Option.bind_some, Option.bind_eq_bind, add_i, sub_i, mul_i, eql_i, neq_i, lss_i, leq_i, gtr_i, geq_i, ofV, ofCell, ↓reduceIte, List.cons_append, List.nil_append, List.append_nil, List.getElem?_toArray, List.getElem?_cons_succ, List.getElem?_cons_zero, e_draw, g_nil, g_cons, g_want, g_skip, g_val, g_call, g_ret, Option.map_none, hl, a3, a6, a7, a8, CP, bq1, bq2, bq3, bq4, ex_tup, Ty.ix25, iu9, Ty.ld3, ld_ip, ofc1, List.drop_succ_cons, List.drop_zero]
      exact rfl, ?_⟩
  show P18_3 _ _
  exact ⟨w6_0, by simp [hl], by simp [a3], by simp [hl], by simp [a6], r6_0, by simp [a7], by simp [a8]⟩
theorem R18_5 (pe : Nat → Fr18 → ASt → Prop) (pr : Fr18 → ASt → Prop) : Ref Cl P18_2 (Cat [true, true, false, true, true, true, false] (bodyOf Tryz.f18)) m18_5 (post P18_5 pe pr) := by
  rintro s ⟨t, h⟩ hp x s' hm
  have hp : P18_2' s t h := hp
  obtain ⟨w6_0, hl, a3, a6, r6_0, a7, a8⟩ := hp
  unfold m18_5 at hm
  cases hm
  refine ⟨⟨_, _⟩, by
      simp only [bodyOf, Tryz.f18, Cat, Bool.false_eq_true, e_seq, e_region, e_cond, e_block, ex_skip, ex_exit, ex_ret, o_cons, xops_nil, k_want_none, k_want_false, k_val, k_pan, k_call, k_ret, k_seq, k_seq_exit, k_seq_ret, k_true, k_false, k_block, k_block_exit, k_block_ret, k_loop, k_loop_exit, k_loop_ret, awanted, aoper, evalO, put, Option.getD_some, List.getElem?_set, acallOp, abuiltin, List.map_cons, List.map_nil, Nat.reduceEqDiff, Nat.reduceLT, List.length_set, Option.map_some, Option.bind_some, Option.bind_eq_bind, add_i, sub_i, mul_i, eql_i, neq_i, lss_i, leq_i, gtr_i, geq_i, ofV, ofCell, ↓reduceIte, List.cons_append, List.nil_append, List.append_nil, List.getElem?_toArray, List.getElem?_cons_succ, List.getElem?_cons_zero, e_draw, g_nil, g_cons, g_want, g_skip, g_val, g_call, g_ret, Option.map_none, hl, a3, a6, a7, a8, CP, bq1, bq2, bq3, bq4, ex_tup]
      exact rfl, ?_⟩
  show P18_5 _ _
  exact ⟨w6_0, by simp [hl], by simp [a3], by simp [a6], r6_0, by simp [a7], by simp [a8], by simp [hl]⟩
theorem R18_7 (pe : Nat → Fr18 → ASt → Prop) (pr : Fr18 → ASt → Prop) : Ref Cl P18_6 (Cat [true, true, false, false] (bodyOf Tryz.f18)) m18_7 (post P18_2 pe pr) := by
  rintro s ⟨t, h⟩ hp x s' hm
  have hp : P18_6' s t h := hp
  obtain ⟨w0_0, hl, a0, r0_0, a3⟩ := hp
  unfold m18_7 at hm
  have lu11 := fun h => Sl.len r0_0 Ty.un25 h
  cases hm
  refine ⟨⟨_, _⟩, by
      simp only [bodyOf, Tryz.f18, Cat, Bool.false_eq_true, e_seq, e_region, e_cond, e_block, ex_skip, ex_exit, ex_ret, o_cons, xops_nil, k_want_none, k_want_false, k_val, k_pan, k_call, k_ret, k_seq, k_seq_exit, k_seq_ret, k_true, k_false, k_block, k_block_exit, k_block_ret, k_loop, k_loop_exit, k_loop_ret, awanted, aoper, evalO, put, Option.getD_some, List.getElem?_set, acallOp, abuiltin, List.map_cons, List.map_nil, Nat.reduceEqDiff, Nat.reduceLT, List.length_set, Option.map_some, Option.bind_some, Option.bind_eq_bind, add_i, sub_i, mul_i, eql_i, neq_i, lss_i, leq_i, gtr_i, geq_i, ofV, ofCell, ↓reduceIte, List.cons_append, List.nil_append, List.append_nil, List.getElem?_toArray, List.getElem?_cons_succ, List.getElem?_cons_zero, e_draw, g_nil, g_cons, g_want, g_skip, g_val, g_call, g_ret, Option.map_none, hl, a0, a3, CP, bq1, bq2, bq3, bq4, ex_tup, lu11]
      exact rfl, ?_⟩
  show P18_2 _ _
  exact ⟨w0_0, by simp [hl], by simp [a3], by simp [hl], r0_0, by simp [hl], by simp [hl]⟩
theorem R18_8 (pe : Nat → Fr18 → ASt → Prop) (pr : Fr18 → ASt → Prop) : Ref Cl P18_7 (Cat [true, false] (bodyOf Tryz.f18)) m18_8 (post P18_6 pe pr) := by
  rintro s ⟨t, h⟩ hp x s' hm
  have hp : P18_7' s t h := hp
  obtain ⟨w0_0, hl, a0, r0_0⟩ := hp
  unfold m18_8 at hm
  cases hm
  refine ⟨⟨_, _⟩, by
      simp only [bodyOf, Tryz.f18, Cat, Bool.false_eq_true, e_seq, e_region, e_cond, e_block, ex_skip, ex_exit, ex_ret, o_cons, xops_nil, k_want_none, k_want_false, k_val, k_pan, k_call, k_ret, k_seq, k_seq_exit, k_seq_ret, k_true, k_false, k_block, k_block_exit, k_block_ret, k_loop, k_loop_exit, k_loop_ret, awanted, aoper, evalO, put, Option.getD_some, List.getElem?_set, acallOp, abuiltin, List.map_cons, List.map_nil, Nat.reduceEqDiff, Nat.reduceLT, List.length_set, Option.map_some, Option.bind_some, Option.bind_eq_bind, add_i, sub_i, mul_i, eql_i, neq_i, lss_i, leq_i, gtr_i, geq_i, ofV, ofCell, ↓reduceIte, List.cons_append, List.nil_append, List.append_nil, List.getElem?_toArray, List.getElem?_cons_succ, List.getElem?_cons_zero, e_draw, g_nil, g_cons, g_want, g_skip, g_val, g_call, g_ret, Option.map_none, hl, a0, CP, bq1, bq2, bq3, bq4, ex_tup]
      exact rfl, ?_⟩
  show P18_6 _ _
  exact ⟨w0_0, by simp [hl], by simp [a0], r0_0, by simp [hl]⟩
theorem R18_9 (pe : Nat → Fr18 → ASt → Prop) (pr : Fr18 → ASt → Prop) : Ref Cl P18_7 (Cat [false] (bodyOf Tryz.f18)) m18_9 (post P18_7 pe pr) := by
  rintro s ⟨t, h⟩ hp x s' hm
  have hp : P18_7' s t h := hp
  obtain ⟨w0_0, hl, a0, r0_0⟩ := hp
  unfold m18_9 at hm
  cases hm
  refine ⟨⟨_, _⟩, by
      simp only [bodyOf, Tryz.f18, Cat, Bool.false_eq_true, e_seq, e_region, e_cond, e_block, ex_skip, ex_exit, ex_ret, o_cons, xops_nil, k_want_none, k_want_false, k_val, k_pan, k_call, k_ret, k_seq, k_seq_exit, k_seq_ret, k_true, k_false, k_block, k_block_exit, k_block_ret, k_loop, k_loop_exit, k_loop_ret, awanted, aoper, evalO, put, Option.getD_some, List.getElem?_set, acallOp, abuiltin, List.map_cons, List.map_nil, Nat.reduceEqDiff, Nat.reduceLT, List.length_set, Option.map_some, Option.bind_some, Option.bind_eq_bind, add_i, sub_i, mul_i, eql_i, neq_i, lss_i, leq_i, gtr_i, geq_i, ofV, ofCell, ↓reduceIte, List.cons_append, List.nil_append, List.append_nil, List.getElem?_toArray, List.getElem?_cons_succ, List.getElem?_cons_zero, e_draw, g_nil, g_cons, g_want, g_skip, g_val, g_call, g_ret, Option.map_none, hl, a0, CP, bq1, bq2, bq3, bq4, ex_tup]
      exact rfl, ?_⟩
  show P18_7 _ _
  exact ⟨w0_0, by simp [hl], by simp [a0], r0_0⟩
theorem B18 : Ref Cl P18_7 (bodyOf Tryz.f18) (M18) (post P18_1 (fun _ _ _ => False) P18_1) := by
  rw [show bodyOf Tryz.f18 = .seq (Cat [false] (bodyOf Tryz.f18)) (.seq (Cat [true, false] (bodyOf Tryz.f18)) (.seq (.seq (Cat [true, true, false, false] (bodyOf Tryz.f18)) (.block 0 (.loop (.seq (Cat [true, true, false, true, true, true, false] (bodyOf Tryz.f18)) (.seq (.cond (.tmp 9) (.skip) (.exit 0)) (.seq (.block 1 (.seq (Cat [true, true, false, true, true, true, true, true, false, true, false] (bodyOf Tryz.f18)) (.seq (Cat [true, true, false, true, true, true, true, true, false, true, true, false] (bodyOf Tryz.f18)) (.cond (.tmp 17) (Cat [true, true, false, true, true, true, true, true, false, true, true, true, false] (bodyOf Tryz.f18)) (.skip))))) (Cat [true, true, false, true, true, true, true, true, true] (bodyOf Tryz.f18)))))))) (.seq (Cat [true, true, true, false] (bodyOf Tryz.f18)) (.ret)))) from rfl]
  unfold M18
  exact ref_seq (M := P18_7) (R18_9 _ _) (ref_seq (M := P18_6) (R18_8 _ _) (ref_seq (M := P18_0) (ref_seq (M := P18_2) (R18_7 _ _) (ref_block (ref_loop (P := P18_2) (ref_weak (P' := P18_2) (fun s st hp => hp) (ref_seq (M := P18_5) (R18_5 _ _) (ref_seq (M := P18_2) (ref_cond (P := P18_5) (c := fun s => s.t9) (fun s st hp => by obtain ⟨w6_0, hl, a3, a6, r6_0, a7, a8, a9⟩ := (hp : P18_5' s st.tmps st.h); simp only [evalO, a9, Option.getD_some]) (ref_weak (P' := P18_2) (fun s st hp => by obtain ⟨w6_0, hl, a3, a6, r6_0, a7, a8, a9⟩ := (hp : P18_5' s st.tmps st.h); exact (⟨w6_0, hl, a3, a6, r6_0, a7, a8⟩ : P18_2' s st.tmps st.h)) (ref_skip (fun s st hp => hp))) (ref_weak (P' := P18_0) (fun s st hp => by obtain ⟨w6_0, hl, a3, a6, r6_0, a7, a8, a9⟩ := (hp : P18_5' s st.tmps st.h); exact (⟨hl, a3⟩ : P18_0' s st.tmps st.h)) (ref_exit (fun s st hp => hp)))) (ref_seq (M := P18_2) (ref_block (ref_seq (M := P18_3) (R18_4 _ _) (ref_seq (M := P18_4) (R18_3 _ _) (ref_cond (P := P18_4) (c := fun s => s.t17) (fun s st hp => by obtain ⟨w6_0, hl, a3, a5, a6, r6_0, a7, a8, a17⟩ := (hp : P18_4' s st.tmps st.h); simp only [evalO, a17, Option.getD_some]) (ref_weak (P' := P18_3) (fun s st hp => by obtain ⟨w6_0, hl, a3, a5, a6, r6_0, a7, a8, a17⟩ := (hp : P18_4' s st.tmps st.h); exact (⟨w6_0, hl, a3, a5, a6, r6_0, a7, a8⟩ : P18_3' s st.tmps st.h)) (R18_2 _ _)) (ref_weak (P' := P18_2) (fun s st hp => by obtain ⟨w6_0, hl, a3, a5, a6, r6_0, a7, a8, a17⟩ := (hp : P18_4' s st.tmps st.h); exact (⟨w6_0, hl, a3, a6, r6_0, a7, a8⟩ : P18_2' s st.tmps st.h)) (ref_skip (fun s st hp => hp))))))) (R18_1 _ _)))))))) (ref_seq (M := P18_1) (R18_0 _ _) (ref_ret (fun s st hp => hp)))))
noncomputable def G18 (x0 : (List Int)) : Option Int := match M18 { (default : Fr18) with t0 := x0 } with
  | some (.nrm, s) => some s.t2
  | some (.ret, s) => some s.t2
  | _ => none
theorem G18_spec : Spec18 (G18) := by
  intro x0 vx0_0 hvx0_0 r hr
  unfold G18 at hr
  cases hm : M18 { (default : Fr18) with t0 := x0 } with
  | none => rw [hm] at hr; cases hr
  | some q =>
    obtain ⟨x, s⟩ := q
    rw [hm] at hr
    have hx : x = .nrm ∨ x = .ret := by cases x <;> first | exact .inl rfl | exact .inr rfl | cases hr
    have hr : s.t2 = r := by cases x <;> first | exact Option.some.inj hr | cases hr
    subst hr
    have hp0 : P18_7' ({ (default : Fr18) with t0 := x0 }) (slots Tryz.f18 (stripL [vx0_0])) bare := ⟨(strip vx0_0 : AVal), rfl, rfl, hvx0_0.strip (rI_p .i64)⟩
    obtain ⟨v, hR, hrun⟩ := run_of_ref (C := Cl) (f := 18) (fn := Tryz.f18) Tryz.func18 rfl rfl rfl rfl (args := [vx0_0]) (by simp only [refsL, refs, List.append_nil, hvx0_0.refs (rI_p .i64)]) (B18) (s0 := { (default : Fr18) with t0 := x0 }) hp0 hm hx (R := fun v => v = .int .i64 s.t2) (by
      have key : ∀ st : ASt, P18_1 s st → ∃ vs v, aresults Cl Tryz.f18.results.toList st = some vs ∧ Nrm [] st.h (packRes vs) v ∧ (fun v => v = .int .i64 s.t2) v := by
        intro st hp
        obtain ⟨hl, a2⟩ := (hp : P18_1' s st.tmps st.h)
        exact ⟨[.int .i64 s.t2], _, by simp only [show Tryz.f18.results.toList = [ResultVar.tmp 2] from rfl, aresults, ares1, CP, a2, Option.getD_some], (Nrm.of (w := .int .i64 s.t2) (by simp only [refsL, refs, List.append_nil])), rfl⟩
      intro st hq
      rcases hx with rfl | rfl
      · exact key st hq
      · exact key st hq)
    subst hR
    exact hrun
/-! ### caisson/sets.List -/
structure Fr19 where
  t0 : Int
  t2 : (List Int)
  t3 : (List Int)
  t4 : Int
  t10 : Bool
  t15 : Int
  t16 : Bool
  t22 : Bool
instance : Inhabited Fr19 := ⟨⟨0, [], [], 0, false, 0, false, false⟩⟩
def P19_0' (s : Fr19) (t : List AVal) (h : AHeap) : Prop := ∃ w3_0, t.length = 29 ∧ t[3]? = some w3_0 ∧ Gr (rI .i64) 1 s.t3 w3_0 h
def P19_0 (s : Fr19) (st : ASt) : Prop := P19_0' s st.tmps st.h
def P19_1' (s : Fr19) (t : List AVal) (h : AHeap) : Prop := ∃ w2_0, t.length = 29 ∧ t[2]? = some w2_0 ∧ Sl (rI .i64) s.t2 w2_0
def P19_1 (s : Fr19) (st : ASt) : Prop := P19_1' s st.tmps st.h
def P19_2' (s : Fr19) (t : List AVal) (h : AHeap) : Prop := ∃ w3_0, t.length = 29 ∧ t[0]? = some (.int .i64 s.t0) ∧ t[3]? = some w3_0 ∧ Gr (rI .i64) 1 s.t3 w3_0 h ∧ t[15]? = some (.int .i64 s.t15)
def P19_2 (s : Fr19) (st : ASt) : Prop := P19_2' s st.tmps st.h
def P19_3' (s : Fr19) (t : List AVal) (h : AHeap) : Prop := ∃ w3_0, t.length = 29 ∧ t[0]? = some (.int .i64 s.t0) ∧ t[3]? = some w3_0 ∧ Gr (rI .i64) 1 s.t3 w3_0 h ∧ t[4]? = some (.int .i64 s.t4) ∧ t[15]? = some (.int .i64 s.t15)
def P19_3 (s : Fr19) (st : ASt) : Prop := P19_3' s st.tmps st.h
def P19_4' (s : Fr19) (t : List AVal) (h : AHeap) : Prop := ∃ w3_0, t.length = 29 ∧ t[0]? = some (.int .i64 s.t0) ∧ t[3]? = some w3_0 ∧ Gr (rI .i64) 1 s.t3 w3_0 h ∧ t[4]? = some (.int .i64 s.t4) ∧ t[15]? = some (.int .i64 s.t15) ∧ t[22]? = some (.bool s.t22)
def P19_4 (s : Fr19) (st : ASt) : Prop := P19_4' s st.tmps st.h
def P19_5' (s : Fr19) (t : List AVal) (h : AHeap) : Prop := ∃ w3_0, t.length = 29 ∧ t[0]? = some (.int .i64 s.t0) ∧ t[3]? = some w3_0 ∧ Gr (rI .i64) 1 s.t3 w3_0 h ∧ t[15]? = some (.int .i64 s.t15) ∧ t[16]? = some (.bool s.t16)
def P19_5 (s : Fr19) (st : ASt) : Prop := P19_5' s st.tmps st.h
def P19_6' (s : Fr19) (t : List AVal) (h : AHeap) : Prop := ∃ w3_0, t.length = 29 ∧ t[0]? = some (.int .i64 s.t0) ∧ t[3]? = some w3_0 ∧ Gr (rI .i64) 1 s.t3 w3_0 h
def P19_6 (s : Fr19) (st : ASt) : Prop := P19_6' s st.tmps st.h
def P19_7' (s : Fr19) (t : List AVal) (h : AHeap) : Prop := t.length = 29 ∧ t[0]? = some (.int .i64 s.t0)
def P19_7 (s : Fr19) (st : ASt) : Prop := P19_7' s st.tmps st.h
def P19_8' (s : Fr19) (t : List AVal) (h : AHeap) : Prop := t.length = 29 ∧ True
def P19_8 (s : Fr19) (st : ASt) : Prop := P19_8' s st.tmps st.h
def P19_9' (s : Fr19) (t : List AVal) (h : AHeap) : Prop := t.length = 29 ∧ t[0]? = some (.int .i64 s.t0) ∧ t[10]? = some (.bool s.t10)
def P19_9 (s : Fr19) (st : ASt) : Prop := P19_9' s st.tmps st.h
noncomputable def m19_0 : Mo Fr19 := fun s => some (.nrm, { s with t2 := s.t3 })
noncomputable def m19_1 : Mo Fr19 := fun s => some (.nrm, { s with t15 := IntKind.wrap .i64 (s.t15 + 1) })
noncomputable def m19_2 : Mo Fr19 := fun s => (appT 8 s.t3 [s.t4]).bind fun z5 => some (.nrm, { s with t3 := z5 })
noncomputable def m19_3 : Mo Fr19 := fun s => (shlT .i64 1 s.t4).bind fun z13 => some (.nrm, { s with t22 := ((bits .and .i64 s.t0 z13) != 0) })
noncomputable def m19_4 : Mo Fr19 := fun s => some (.nrm, { s with t4 := s.t15 })
noncomputable def m19_5 : Mo Fr19 := fun s => some (.nrm, { s with t16 := decide (s.t15 < 6) })
noncomputable def L19_6 : Mo Fr19 := seqM (m19_5) (seqM (condM (fun s => s.t16) (skipM) (exitM 0)) (seqM (blockM 1 (seqM (m19_4) (seqM (m19_3) (condM (fun s => s.t22) (m19_2) (skipM))))) (m19_1)))
noncomputable def m19_7 : Mo Fr19 := fun s => some (.nrm, { s with t15 := 0 })
noncomputable def m19_8 : Mo Fr19 := fun s => (G49 (IntKind.wrap .u64 s.t0)).bind fun z17 => (roomT 8 z17).bind fun z19 => some (.nrm, { s with t3 := [] })
noncomputable def m19_9 : Mo Fr19 := fun s => some (.nrm, { s with t2 := [] })
noncomputable def m19_10 : Mo Fr19 := fun s => some (.nrm, { s with t10 := ((decide (s.t0 < 0)) || (decide (s.t0 > 63))) })
noncomputable def m19_11 : Mo Fr19 := fun s => some (.nrm, s)
noncomputable def M19 : Mo Fr19 := seqM (m19_11) (seqM (seqM (m19_10) (condM (fun s => s.t10) (seqM (m19_9) (retM)) (skipM))) (seqM (m19_8) (seqM (seqM (m19_7) (blockM 0 (loopM (L19_6)))) (seqM (m19_0) (retM)))))
def Spec19 (f : Int → Option (List Int)) : Prop := ∀ (x0 : Int) (r : (List Int)), f x0 = some r → ∃ y0_0, Sl (rI .i64) r y0_0 ∧ ∀ h, run Cl 19 [.int .i64 x0] h = some (.ret (y0_0), h)
theorem Spec19_of {f g : Int → Option (List Int)} (hg : Spec19 g) (h : ∀ x0 r, f x0 = some r → g x0 = some r) : Spec19 f := fun x0 r hr => hg x0 r (h x0 r hr)
theorem R19_0 (pe : Nat → Fr19 → ASt → Prop) (pr : Fr19 → ASt → Prop) : Ref Cl P19_0 (Cat [true, true, true, true, false] (bodyOf Tryz.f19)) m19_0 (post P19_1 pe pr) := by
  rintro s ⟨t, h⟩ hp x s' hm
  have hp : P19_0' s t h := hp
  obtain ⟨w3_0, hl, a3, r3_0⟩ := hp
  unfold m19_0 at hm
  cases hm
  refine ⟨⟨_, _⟩, by
      simp only [bodyOf, Tryz.f19, Cat, Bool.false_eq_true, e_seq, e_region, e_cond, e_block, ex_skip, ex_exit, ex_ret, o_cons, xops_nil, k_want_none, k_want_false, k_val, k_pan, k_call, k_ret, k_seq, k_seq_exit, k_seq_ret, k_true, k_false, k_block, k_block_exit, k_block_ret, k_loop, k_loop_exit, k_loop_ret, awanted, aoper, evalO, put, Option.getD_some, List.getElem?_set, acallOp, abuiltin, List.map_cons, List.map_nil, Nat.reduceEqDiff, Nat.reduceLT, List.length_set, Option.map_some, Option.bind_some, Option.bind_eq_bind, add_i, sub_i, mul_i, eql_i, neq_i, lss_i, leq_i, gtr_i, geq_i, ofV, ofCell, ↓reduceIte, List.cons_append, List.nil_append, List.append_nil, List.getElem?_toArray, List.getElem?_cons_succ, List.getElem?_cons_zero, e_draw, g_nil, g_cons, g_want, g_skip, g_val, g_call, g_ret, Option.map_none, hl, a3, CP, bq1, bq2, bq3, bq4, ex_tup]
      exact rfl, ?_⟩
  show P19_1 _ _
  exact ⟨w3_0, by simp [hl], by simp [hl], r3_0.1⟩
theorem R19_1 (pe : Nat → Fr19 → ASt → Prop) (pr : Fr19 → ASt → Prop) : Ref Cl P19_2 (Cat [true, true, true, false, true, true, true, true, true, true] (bodyOf Tryz.f19)) m19_1 (post P19_2 pe pr) := by
  rintro s ⟨t, h⟩ hp x s' hm
  have hp : P19_2' s t h := hp
  obtain ⟨w3_0, hl, a0, a3, r3_0, a15⟩ := hp
  unfold m19_1 at hm
  cases hm
  refine ⟨⟨_, _⟩, by
      simp only [bodyOf, Tryz.f19, Cat, Bool.false_eq_true, e_seq, e_region, e_cond, e_block, ex_skip, ex_exit, ex_ret, o_cons, xops_nil, k_want_none, k_want_false, k_val, k_pan, k_call, k_ret, k_seq, k_seq_exit, k_seq_ret, k_true, k_false, k_block, k_block_exit, k_block_ret, k_loop, k_loop_exit, k_loop_ret, awanted, aoper, evalO, put, Option.getD_some, List.getElem?_set, acallOp, abuiltin, List.map_cons, List.map_nil, Nat.reduceEqDiff, Nat.reduceLT, List.length_set, Option.map_some, Option.bind_some, Option.bind_eq_bind, add_i, sub_i, mul_i, eql_i, neq_i, lss_i, leq_i, gtr_i, geq_i, ofV, ofCell, ↓reduceIte, List.cons_append, List.nil_append, List.append_nil, List.getElem?_toArray, List.getElem?_cons_succ, List.getElem?_cons_zero, e_draw, g_nil, g_cons, g_want, g_skip, g_val, g_call, g_ret, Option.map_none, hl, a0, a3, a15, CP, bq1, bq2, bq3, bq4, ex_tup]
      exact rfl, ?_⟩
  show P19_2 _ _
  exact ⟨w3_0, by simp [hl], by simp [a0], by simp [a3], r3_0, by simp [hl]⟩
theorem R19_2 (pe : Nat → Fr19 → ASt → Prop) (pr : Fr19 → ASt → Prop) : Ref Cl P19_3 (Cat [true, true, true, false, true, true, true, true, true, false, true, true, true, false] (bodyOf Tryz.f19)) m19_2 (post P19_2 pe pr) := by
  rintro s ⟨t, h⟩ hp x s' hm
  have hp : P19_3' s t h := hp
  obtain ⟨w3_0, hl, a0, a3, r3_0, a4, a15⟩ := hp
  unfold m19_2 at hm
  have bd7 : abuildSlice Tryz.prog 25 1 [(0, .int .i64 s.t4)] = some ([.int .i64 s.t4], 1) := by kernel_rfl
  have bs8 : Els (rI .i64) [s.t4] [[.int .i64 s.t4]] := (Els.cons rfl Els.nil)
  have sl9 : Sl (rI .i64) [s.t4] (.lst [.int .i64 s.t4] 1 .full) := Sl.lst .full bs8
  have gr10 : ∀ h, Gr (rI .i64) 1 [s.t4] (.lst [.int .i64 s.t4] 1 .full) h := fun h => Gr.full bs8 h
  obtain ⟨z11, hz11, hm⟩ := Option.bind_eq_some_iff.1 hm
  obtain ⟨vu12, hu12, pu12, gu12, nu12, ku12, fu12⟩ := Gr.app (rI_p .i64) r3_0 sl9 hz11
  cases hm
  refine ⟨⟨_, _⟩, by
      simp only [bodyOf, Tryz.f19, Cat, Bool.false_eq_true, e_seq, e_region, e_cond, e_block, ex_skip, ex_exit, ex_ret, o_cons, xops_nil, k_want_none, k_want_false, k_val, k_pan, k_call, k_ret, k_seq, k_seq_exit, k_seq_ret, k_true, k_false, k_block, k_block_exit, k_block_ret, k_loop, k_loop_exit, k_loop_ret, awanted, aoper, evalO, put, Option.getD_some, List.getElem?_set, acallOp, abuiltin, List.map_cons, List.map_nil, Nat.reduceEqDiff, Nat.reduceLT, List.length_set, Option.map_some, Option.bind_some, Option.bind_eq_bind, add_i, sub_i, mul_i, eql_i, neq_i, lss_i, leq_i, gtr_i, geq_i, ofV, ofCell, ↓reduceIte, List.cons_append, List.nil_append, List.append_nil, List.getElem?_toArray, List.getElem?_cons_succ, List.getElem?_cons_zero, e_draw, g_nil, g_cons, g_want, g_skip, g_val, g_call, g_ret, Option.map_none, hl, a0, a3, a4, a15, CP, bq1, bq2, bq3, bq4, ex_tup, bd7, Ty.own_sets_go_32, pu12, Ty.ap25]
      exact rfl, ?_⟩
  show P19_2 _ _
  exact ⟨vu12, by simp [hl], by simp [a0], by simp [hl], gu12, by simp [a15]⟩
theorem R19_3 (pe : Nat → Fr19 → ASt → Prop) (pr : Fr19 → ASt → Prop) : Ref Cl P19_3 (Cat [true, true, true, false, true, true, true, true, true, false, true, true, false] (bodyOf Tryz.f19)) m19_3 (post P19_4 pe pr) := by
  rintro s ⟨t, h⟩ hp x s' hm
  have hp : P19_3' s t h := hp
  obtain ⟨w3_0, hl, a0, a3, r3_0, a4, a15⟩ := hp
  unfold m19_3 at hm
  obtain ⟨z15, hz15, hm⟩ := Option.bind_eq_some_iff.1 hm
  have iu16 := shl_v (C := Cl) hz15
  cases hm
  refine ⟨⟨_, _⟩, by
      simp only [bodyOf, Tryz.f19, Cat, Bool.false_eq_true, e_seq, e_region, e_cond, e_block, ex_skip, ex_exit, ex_ret, o_cons, xops_nil, k_want_none, k_want_false, k_val, k_pan, k_call, k_ret, k_seq, k_seq_exit, k_seq_ret, k_true, k_false, k_block, k_block_exit, k_block_ret, k_loop, k_loop_exit, k_loop_ret, awanted, aoper, evalO, put, Option.getD_some, List.getElem?_set, acallOp, abuiltin, List.map_cons, List.map_nil, Nat.reduceEqDiff, Nat.reduceLT, List.length_set, Option.map_some, Option.bind_some, Option.bind_eq_bind, add_i, sub_i, mul_i, eql_i, neq_i, lss_i, leq_i, gtr_i, geq_i, ofV, ofCell, ↓reduceIte, List.cons_append, List.nil_append, List.append_nil, List.getElem?_toArray, List.getElem?_cons_succ, List.getElem?_cons_zero, e_draw, g_nil, g_cons, g_want, g_skip, g_val, g_call, g_ret, Option.map_none, hl, a0, a3, a4, a15, CP, bq1, bq2, bq3, bq4, ex_tup, iu16, Ty.and3]
      exact rfl, ?_⟩
  show P19_4 _ _
  exact ⟨w3_0, by simp [hl], by simp [a0], by simp [a3], r3_0, by simp [a4], by simp [a15], by simp [hl]⟩
theorem R19_4 (pe : Nat → Fr19 → ASt → Prop) (pr : Fr19 → ASt → Prop) : Ref Cl P19_2 (Cat [true, true, true, false, true, true, true, true, true, false, true, false] (bodyOf Tryz.f19)) m19_4 (post P19_3 pe pr) := by
  rintro s ⟨t, h⟩ hp x s' hm
  have hp : P19_2' s t h := hp
  obtain ⟨w3_0, hl, a0, a3, r3_0, a15⟩ := hp
  unfold m19_4 at hm
  cases hm
  refine ⟨⟨_, _⟩, by
      simp only [bodyOf, Tryz.f19, Cat, Bool.false_eq_true, e_seq, e_region, e_cond, e_block, ex_skip, ex_exit, ex_ret, o_cons, xops_nil, k_want_none, k_want_false, k_val, k_pan, k_call, k_ret, k_seq, k_seq_exit, k_seq_ret, k_true, k_false, k_block, k_block_exit, k_block_ret, k_loop, k_loop_exit, k_loop_ret, awanted, aoper, evalO, put, Option.getD_some, List.getElem?_set, acallOp, abuiltin, List.map_cons, List.map_nil, Nat.reduceEqDiff, Nat.reduceLT, List.length_set, Option.map_some, Option.bind_some, Option.bind_eq_bind, add_i, sub_i, mul_i, eql_i, neq_i, lss_i, leq_i, gtr_i, geq_i, ofV, ofCell, ↓reduceIte, List.cons_append, List.nil_append, List.append_nil, List.getElem?_toArray, List.getElem?_cons_succ, List.getElem?_cons_zero, e_draw, g_nil, g_cons, g_want, g_skip, g_val, g_call, g_ret, Option.map_none, hl, a0, a3, a15, CP, bq1, bq2, bq3, bq4, ex_tup]
      exact rfl, ?_⟩
  show P19_3 _ _
  exact ⟨w3_0, by simp [hl], by simp [a0], by simp [a3], r3_0, by simp [hl], by simp [a15]⟩
theorem R19_5 (pe : Nat → Fr19 → ASt → Prop) (pr : Fr19 → ASt → Prop) : Ref Cl P19_2 (Cat [true, true, true, false, true, true, true, false] (bodyOf Tryz.f19)) m19_5 (post P19_5 pe pr) := by
  rintro s ⟨t, h⟩ hp x s' hm
  have hp : P19_2' s t h := hp
  obtain ⟨w3_0, hl, a0, a3, r3_0, a15⟩ := hp
  unfold m19_5 at hm
  cases hm
  refine ⟨⟨_, _⟩, by
      simp only [bodyOf, Tryz.f19, Cat, Bool.false_eq_true, e_seq, e_region, e_cond, e_block, ex_skip, ex_exit, ex_ret, o_cons, xops_nil, k_want_none, k_want_false, k_val, k_pan, k_call, k_ret, k_seq, k_seq_exit, k_seq_ret, k_true, k_false, k_block, k_block_exit, k_block_ret, k_loop, k_loop_exit, k_loop_ret, awanted, aoper, evalO, put, Option.getD_some, List.getElem?_set, acallOp, abuiltin, List.map_cons, List.map_nil, Nat.reduceEqDiff, Nat.reduceLT, List.length_set, Option.map_some, Option.bind_some, Option.bind_eq_bind, add_i, sub_i, mul_i, eql_i, neq_i, lss_i, leq_i, gtr_i, geq_i, ofV, ofCell, ↓reduceIte, List.cons_append, List.nil_append, List.append_nil, List.getElem?_toArray, List.getElem?_cons_succ, List.getElem?_cons_zero, e_draw, g_nil, g_cons, g_want, g_skip, g_val, g_call, g_ret, Option.map_none, hl, a0, a3, a15, CP, bq1, bq2, bq3, bq4, ex_tup]
      exact rfl, ?_⟩
  show P19_5 _ _
  exact ⟨w3_0, by simp [hl], by simp [a0], by simp [a3], r3_0, by simp [a15], by simp [hl]⟩
theorem R19_7 (pe : Nat → Fr19 → ASt → Prop) (pr : Fr19 → ASt → Prop) : Ref Cl P19_6 (Cat [true, true, true, false, false] (bodyOf Tryz.f19)) m19_7 (post P19_2 pe pr) := by
  rintro s ⟨t, h⟩ hp x s' hm
  have hp : P19_6' s t h := hp
  obtain ⟨w3_0, hl, a0, a3, r3_0⟩ := hp
  unfold m19_7 at hm
  cases hm
  refine ⟨⟨_, _⟩, by
      simp only [bodyOf, Tryz.f19, Cat, Bool.false_eq_true, e_seq, e_region, e_cond, e_block, ex_skip, ex_exit, ex_ret, o_cons, xops_nil, k_want_none, k_want_false, k_val, k_pan, k_call, k_ret, k_seq, k_seq_exit, k_seq_ret, k_true, k_false, k_block, k_block_exit, k_block_ret, k_loop, k_loop_exit, k_loop_ret, awanted, aoper, evalO, put, Option.getD_some, List.getElem?_set, acallOp, abuiltin, List.map_cons, List.map_nil, Nat.reduceEqDiff, Nat.reduceLT, List.length_set, Option.map_some, Option.bind_some, Option.bind_eq_bind, add_i, sub_i, mul_i, eql_i, neq_i, lss_i, leq_i, gtr_i, geq_i, ofV, ofCell, ↓reduceIte, List.cons_append, List.nil_append, List.append_nil, List.getElem?_toArray, List.getElem?_cons_succ, List.getElem?_cons_zero, e_draw, g_nil, g_cons, g_want, g_skip, g_val, g_call, g_ret, Option.map_none, hl, a0, a3, CP, bq1, bq2, bq3, bq4, ex_tup]
      exact rfl, ?_⟩
  show P19_2 _ _
  exact ⟨w3_0, by simp [hl], by simp [a0], by simp [a3], r3_0, by simp [hl]⟩
theorem R19_8 (pe : Nat → Fr19 → ASt → Prop) (pr : Fr19 → ASt → Prop) : Ref Cl P19_7 (Cat [true, true, false] (bodyOf Tryz.f19)) m19_8 (post P19_6 pe pr) := by
  rintro s ⟨t, h⟩ hp x s' hm
  have hp : P19_7' s t h := hp
  obtain ⟨hl, a0⟩ := hp
  unfold m19_8 at hm
  obtain ⟨z23, hz23, hm⟩ := Option.bind_eq_some_iff.1 hm
  have iu24 := G49_spec (IntKind.wrap .u64 s.t0)  _ hz23
  obtain ⟨z25, hz25, hm⟩ := Option.bind_eq_some_iff.1 hm
  have mu26 := mk_room (C := Cl) (t := 25) (e := 3) (h := h) Ty.un25 Ty.in3 Ty.ze3 rfl (by decide) Ty.own_sets_go_29 hz25
  obtain ⟨H27, eH27⟩ : ∃ x : AHeap, x = h.new (.tok 1) := ⟨_, rfl⟩
  rw [← eH27] at mu26
  have k28 : Gr (rI .i64) 1 [] (.lst [] 0 (.tok h.next)) H27 := by rw [eH27]; exact Gr.room h
  cases hm
  refine ⟨⟨_, _⟩, by
      simp only [bodyOf, Tryz.f19, Cat, Bool.false_eq_true, e_seq, e_region, e_cond, e_block, ex_skip, ex_exit, ex_ret, o_cons, xops_nil, k_want_none, k_want_false, k_val, k_pan, k_call, k_ret, k_seq, k_seq_exit, k_seq_ret, k_true, k_false, k_block, k_block_exit, k_block_ret, k_loop, k_loop_exit, k_loop_ret, awanted, aoper, evalO, put, Option.getD_some, List.getElem?_set, acallOp, abuiltin, List.map_cons, List.map_nil, Nat.reduceEqDiff, Nat.reduceLT, List.length_set, Option.map_some, Option.bind_some, Option.bind_eq_bind, add_i, sub_i, mul_i, eql_i, neq_i, lss_i, leq_i, gtr_i, geq_i, ofV, ofCell, ↓reduceIte, List.cons_append, List.nil_append, List.append_nil, List.getElem?_toArray, List.getElem?_cons_succ, List.getElem?_cons_zero, e_draw, g_nil, g_cons, g_want, g_skip, g_val, g_call, g_ret, Option.map_none, hl, a0, CP, bq1, bq2, bq3, bq4, ex_tup, Ty.cv3_104, iu24, mu26]
      exact rfl, ?_⟩
  show P19_6 _ _
  exact ⟨(.lst [] 0 (.tok h.next) : AVal), by simp [hl], by simp [a0], by simp [hl], k28⟩
theorem R19_9 (pe : Nat → Fr19 → ASt → Prop) (pr : Fr19 → ASt → Prop) : Ref Cl P19_8 (Cat [true, false, true, false, false] (bodyOf Tryz.f19)) m19_9 (post P19_1 pe pr) := by
  rintro s ⟨t, h⟩ hp x s' hm
  have hp : P19_8' s t h := hp
  obtain ⟨hl, _⟩ := hp
  unfold m19_9 at hm
  cases hm
  refine ⟨⟨_, _⟩, by
      simp only [bodyOf, Tryz.f19, Cat, Bool.false_eq_true, e_seq, e_region, e_cond, e_block, ex_skip, ex_exit, ex_ret, o_cons, xops_nil, k_want_none, k_want_false, k_val, k_pan, k_call, k_ret, k_seq, k_seq_exit, k_seq_ret, k_true, k_false, k_block, k_block_exit, k_block_ret, k_loop, k_loop_exit, k_loop_ret, awanted, aoper, evalO, put, Option.getD_some, List.getElem?_set, acallOp, abuiltin, List.map_cons, List.map_nil, Nat.reduceEqDiff, Nat.reduceLT, List.length_set, Option.map_some, Option.bind_some, Option.bind_eq_bind, add_i, sub_i, mul_i, eql_i, neq_i, lss_i, leq_i, gtr_i, geq_i, ofV, ofCell, ↓reduceIte, List.cons_append, List.nil_append, List.append_nil, List.getElem?_toArray, List.getElem?_cons_succ, List.getElem?_cons_zero, e_draw, g_nil, g_cons, g_want, g_skip, g_val, g_call, g_ret, Option.map_none, hl, CP, bq1, bq2, bq3, bq4, ex_tup]
      exact rfl, ?_⟩
  show P19_1 _ _
  exact ⟨(.nilSl : AVal), by simp [hl], by simp [hl], Sl.nil⟩
theorem R19_10 (pe : Nat → Fr19 → ASt → Prop) (pr : Fr19 → ASt → Prop) : Ref Cl P19_7 (Cat [true, false, false] (bodyOf Tryz.f19)) m19_10 (post P19_9 pe pr) := by
  rintro s ⟨t, h⟩ hp x s' hm
  have hp : P19_7' s t h := hp
  obtain ⟨hl, a0⟩ := hp
  unfold m19_10 at hm
  cases hb29 : decide (s.t0 < 0) with
  | true =>
    all_goals (
      try simp only [hb29, cond_true, cond_false, Option.bind_some, Option.bind_assoc, Bool.not_true, Bool.not_false, Bool.true_and, Bool.false_and, Bool.and_true, Bool.and_false, Bool.true_or, Bool.false_or] at hm
      cases hm
      refine ⟨⟨_, _⟩, by
          simp only [bodyOf, Tryz.f19, Cat, Bool.false_eq_true, e_seq, e_region, e_cond, e_block, ex_skip, ex_exit, ex_ret, o_cons, xops_nil, k_want_none, k_want_false, k_val, k_pan, k_call, k_ret, k_seq, k_seq_exit, k_seq_ret, k_true, k_false, k_block, k_block_exit, k_block_ret, k_loop, k_loop_exit, k_loop_ret, awanted, aoper, evalO, put, Option.getD_some, List.getElem?_set, acallOp, abuiltin, List.map_cons, List.map_nil, Nat.reduceEqDiff, Nat.reduceLT, List.length_set, Option.map_some, Option.bind_some, Option.bind_eq_bind, add_i, sub_i, mul_i, eql_i, neq_i, lss_i, leq_i, gtr_i, geq_i, ofV, ofCell, ↓reduceIte, List.cons_append, List.nil_append, List.append_nil, List.getElem?_toArray, List.getElem?_cons_succ, List.getElem?_cons_zero, e_draw, g_nil, g_cons, g_want, g_skip, g_val, g_call, g_ret, Option.map_none, hl, a0, CP, bq1, bq2, bq3, bq4, ex_tup, hb29]
          exact rfl, ?_⟩
      show P19_9 _ _
      exact ⟨by simp [hl], by simp [a0], by simp [hl, hb29]⟩)
  | false =>
    all_goals (
      try simp only [hb29, cond_true, cond_false, Option.bind_some, Option.bind_assoc, Bool.not_true, Bool.not_false, Bool.true_and, Bool.false_and, Bool.and_true, Bool.and_false, Bool.true_or, Bool.false_or] at hm
      cases hm
      refine ⟨⟨_, _⟩, by
          simp only [bodyOf, Tryz.f19, Cat, Bool.false_eq_true, e_seq, e_region, e_cond, e_block, ex_skip, ex_exit, ex_ret, o_cons, xops_nil, k_want_none, k_want_false, k_val, k_pan, k_call, k_ret, k_seq, k_seq_exit, k_seq_ret, k_true, k_false, k_block, k_block_exit, k_block_ret, k_loop, k_loop_exit, k_loop_ret, awanted, aoper, evalO, put, Option.getD_some, List.getElem?_set, acallOp, abuiltin, List.map_cons, List.map_nil, Nat.reduceEqDiff, Nat.reduceLT, List.length_set, Option.map_some, Option.bind_some, Option.bind_eq_bind, add_i, sub_i, mul_i, eql_i, neq_i, lss_i, leq_i, gtr_i, geq_i, ofV, ofCell, ↓reduceIte, List.cons_append, List.nil_append, List.append_nil, List.getElem?_toArray, List.getElem?_cons_succ, List.getElem?_cons_zero, e_draw, g_nil, g_cons, g_want, g_skip, g_val, g_call, g_ret, Option.map_none, hl, a0, CP, bq1, bq2, bq3, bq4, ex_tup, hb29]
          exact rfl, ?_⟩
      show P19_9 _ _
      exact ⟨by simp [hl], by simp [a0], by simp [hl, hb29]⟩)
theorem R19_11 (pe : Nat → Fr19 → ASt → Prop) (pr : Fr19 → ASt → Prop) : Ref Cl P19_7 (Cat [false] (bodyOf Tryz.f19)) m19_11 (post P19_7 pe pr) := by
  rintro s ⟨t, h⟩ hp x s' hm
  have hp : P19_7' s t h := hp
  obtain ⟨hl, a0⟩ := hp
  unfold m19_11 at hm
  cases hm
  refine ⟨⟨_, _⟩, by
      simp only [bodyOf, Tryz.f19, Cat, Bool.false_eq_true, e_seq, e_region, e_cond, e_block, ex_skip, ex_exit, ex_ret, o_cons, xops_nil, k_want_none, k_want_false, k_val, k_pan, k_call, k_ret, k_seq, k_seq_exit, k_seq_ret, k_true, k_false, k_block, k_block_exit, k_block_ret, k_loop, k_loop_exit, k_loop_ret, awanted, aoper, evalO, put, Option.getD_some, List.getElem?_set, acallOp, abuiltin, List.map_cons, List.map_nil, Nat.reduceEqDiff, Nat.reduceLT, List.length_set, Option.map_some, Option.bind_some, Option.bind_eq_bind, add_i, sub_i, mul_i, eql_i, neq_i, lss_i, leq_i, gtr_i, geq_i, ofV, ofCell, ↓reduceIte, List.cons_append, List.nil_append, List.append_nil, List.getElem?_toArray, List.getElem?_cons_succ, List.getElem?_cons_zero, e_draw, g_nil, g_cons, g_want, g_skip, g_val, g_call, g_ret, Option.map_none, hl, a0, CP, bq1, bq2, bq3, bq4, ex_tup]
      exact rfl, ?_⟩
  show P19_7 _ _
  exact ⟨by simp [hl], by simp [a0]⟩
theorem B19 : Ref Cl P19_7 (bodyOf Tryz.f19) (M19) (post P19_1 (fun _ _ _ => False) P19_1) := by
  rw [show bodyOf Tryz.f19 = .seq (Cat [false] (bodyOf Tryz.f19)) (.seq (.seq (Cat [true, false, false] (bodyOf Tryz.f19)) (.cond (.tmp 10) (.seq (Cat [true, false, true, false, false] (bodyOf Tryz.f19)) (.ret)) (.skip))) (.seq (Cat [true, true, false] (bodyOf Tryz.f19)) (.seq (.seq (Cat [true, true, true, false, false] (bodyOf Tryz.f19)) (.block 0 (.loop (.seq (Cat [true, true, true, false, true, true, true, false] (bodyOf Tryz.f19)) (.seq (.cond (.tmp 16) (.skip) (.exit 0)) (.seq (.block 1 (.seq (Cat [true, true, true, false, true, true, true, true, true, false, true, false] (bodyOf Tryz.f19)) (.seq (Cat [true, true, true, false, true, true, true, true, true, false, true, true, false] (bodyOf Tryz.f19)) (.cond (.tmp 22) (Cat [true, true, true, false, true, true, true, true, true, false, true, true, true, false] (bodyOf Tryz.f19)) (.skip))))) (Cat [true, true, true, false, true, true, true, true, true, true] (bodyOf Tryz.f19)))))))) (.seq (Cat [true, true, true, true, false] (bodyOf Tryz.f19)) (.ret))))) from rfl]
  unfold M19
  exact ref_seq (M := P19_7) (R19_11 _ _) (ref_seq (M := P19_7) (ref_seq (M := P19_9) (R19_10 _ _) (ref_cond (P := P19_9) (c := fun s => s.t10) (fun s st hp => by obtain ⟨hl, a0, a10⟩ := (hp : P19_9' s st.tmps st.h); simp only [evalO, a10, Option.getD_some]) (ref_weak (P' := P19_8) (fun s st hp => by obtain ⟨hl, a0, a10⟩ := (hp : P19_9' s st.tmps st.h); exact (⟨hl, trivial⟩ : P19_8' s st.tmps st.h)) (ref_seq (M := P19_1) (R19_9 _ _) (ref_ret (fun s st hp => hp)))) (ref_weak (P' := P19_7) (fun s st hp => by obtain ⟨hl, a0, a10⟩ := (hp : P19_9' s st.tmps st.h); exact (⟨hl, a0⟩ : P19_7' s st.tmps st.h)) (ref_skip (fun s st hp => hp))))) (ref_seq (M := P19_6) (R19_8 _ _) (ref_seq (M := P19_0) (ref_seq (M := P19_2) (R19_7 _ _) (ref_block (ref_loop (P := P19_2) (ref_weak (P' := P19_2) (fun s st hp => hp) (ref_seq (M := P19_5) (R19_5 _ _) (ref_seq (M := P19_2) (ref_cond (P := P19_5) (c := fun s => s.t16) (fun s st hp => by obtain ⟨w3_0, hl, a0, a3, r3_0, a15, a16⟩ := (hp : P19_5' s st.tmps st.h); simp only [evalO, a16, Option.getD_some]) (ref_weak (P' := P19_2) (fun s st hp => by obtain ⟨w3_0, hl, a0, a3, r3_0, a15, a16⟩ := (hp : P19_5' s st.tmps st.h); exact (⟨w3_0, hl, a0, a3, r3_0, a15⟩ : P19_2' s st.tmps st.h)) (ref_skip (fun s st hp => hp))) (ref_weak (P' := P19_0) (fun s st hp => by obtain ⟨w3_0, hl, a0, a3, r3_0, a15, a16⟩ := (hp : P19_5' s st.tmps st.h); exact (⟨w3_0, hl, a3, r3_0⟩ : P19_0' s st.tmps st.h)) (ref_exit (fun s st hp => hp)))) (ref_seq (M := P19_2) (ref_block (ref_seq (M := P19_3) (R19_4 _ _) (ref_seq (M := P19_4) (R19_3 _ _) (ref_cond (P := P19_4) (c := fun s => s.t22) (fun s st hp => by obtain ⟨w3_0, hl, a0, a3, r3_0, a4, a15, a22⟩ := (hp : P19_4' s st.tmps st.h); simp only [evalO, a22, Option.getD_some]) (ref_weak (P' := P19_3) (fun s st hp => by obtain ⟨w3_0, hl, a0, a3, r3_0, a4, a15, a22⟩ := (hp : P19_4' s st.tmps st.h); exact (⟨w3_0, hl, a0, a3, r3_0, a4, a15⟩ : P19_3' s st.tmps st.h)) (R19_2 _ _)) (ref_weak (P' := P19_2) (fun s st hp => by obtain ⟨w3_0, hl, a0, a3, r3_0, a4, a15, a22⟩ := (hp : P19_4' s st.tmps st.h); exact (⟨w3_0, hl, a0, a3, r3_0, a15⟩ : P19_2' s st.tmps st.h)) (ref_skip (fun s st hp => hp))))))) (R19_1 _ _)))))))) (ref_seq (M := P19_1) (R19_0 _ _) (ref_ret (fun s st hp => hp))))))
noncomputable def G19 (x0 : Int) : Option (List Int) := match M19 { (default : Fr19) with t0 := x0 } with
  | some (.nrm, s) => some s.t2
  | some (.ret, s) => some s.t2
  | _ => none
theorem G19_spec : Spec19 (G19) := by
  intro x0 r hr
  unfold G19 at hr
  cases hm : M19 { (default : Fr19) with t0 := x0 } with
  | none => rw [hm] at hr; cases hr
  | some q =>
    obtain ⟨x, s⟩ := q
    rw [hm] at hr
    have hx : x = .nrm ∨ x = .ret := by cases x <;> first | exact .inl rfl | exact .inr rfl | cases hr
    have hr : s.t2 = r := by cases x <;> first | exact Option.some.inj hr | cases hr
    subst hr
    have hp0 : P19_7' ({ (default : Fr19) with t0 := x0 }) (slots Tryz.f19 (stripL [.int .i64 x0])) bare := ⟨rfl, rfl⟩
    obtain ⟨v, hR, hrun⟩ := run_of_ref (C := Cl) (f := 19) (fn := Tryz.f19) Tryz.func19 rfl rfl rfl rfl (args := [.int .i64 x0]) (by simp only [refsL, refs, List.append_nil]) (B19) (s0 := { (default : Fr19) with t0 := x0 }) hp0 hm hx (R := fun v => ∃ y0_0, Sl (rI .i64) s.t2 y0_0 ∧ v = y0_0) (by
      have key : ∀ st : ASt, P19_1 s st → ∃ vs v, aresults Cl Tryz.f19.results.toList st = some vs ∧ Nrm [] st.h (packRes vs) v ∧ (fun v => ∃ y0_0, Sl (rI .i64) s.t2 y0_0 ∧ v = y0_0) v := by
        intro st hp
        obtain ⟨w2_0, hl, a2, r2_0⟩ := (hp : P19_1' s st.tmps st.h)
        exact ⟨[w2_0], _, by simp only [show Tryz.f19.results.toList = [ResultVar.tmp 2] from rfl, aresults, ares1, CP, a2, Option.getD_some], (Nrm.of (w := w2_0) (by simp only [refsL, refs, List.append_nil, r2_0.refs (rI_p .i64)])), ⟨strip w2_0, r2_0.strip (rI_p .i64), rfl⟩⟩
      intro st hq
      rcases hx with rfl | rfl
      · exact key st hq
      · exact key st hq)
    obtain ⟨z0, g0, hv⟩ := hR
    exact ⟨z0, g0, fun h => by rw [hrun h, hv]⟩
/-! ### caisson/bind.nodes -/
def Spec41 (f : TestT → Option Int) : Prop := ∀ (x0 : TestT) (vx0_0 : AVal) (_ : rTestT x0 [vx0_0]) (r : Int), f x0 = some r → ∀ h, run Cl 41 [vx0_0] h = some (.ret (.int .i64 r), h)
theorem Spec41_of {f g : TestT → Option Int} (hg : Spec41 g) (h : ∀ x0 r, f x0 = some r → g x0 = some r) : Spec41 f := fun x0 v0_ w0_ r hr => hg x0 v0_ w0_ r (h x0 r hr)
/-! ### caisson/bind.reads -/
structure Fr42 where
  t0 : TestT
  t2 : Int
  t3 : Bool
  t4 : Int
  t5 : Bool
  t6 : Int
  t7 : Bool
  t8 : Bool
  t11 : Bool
  t47 : Bool
instance : Inhabited Fr42 := ⟨⟨default, 0, false, 0, false, 0, false, false, false, false⟩⟩
def P42_0' (s : Fr42) (t : List AVal) (h : AHeap) : Prop := ∃ w0_0, t.length = 58 ∧ t[0]? = some w0_0 ∧ rTestT s.t0 [w0_0]
def P42_0 (s : Fr42) (st : ASt) : Prop := P42_0' s st.tmps st.h
def P42_1' (s : Fr42) (t : List AVal) (h : AHeap) : Prop := t.length = 58 ∧ t[2]? = some (.int .i64 s.t2) ∧ t[3]? = some (.bool s.t3)
def P42_1 (s : Fr42) (st : ASt) : Prop := P42_1' s st.tmps st.h
def P42_2' (s : Fr42) (t : List AVal) (h : AHeap) : Prop := t.length = 58 ∧ True
def P42_2 (s : Fr42) (st : ASt) : Prop := P42_2' s st.tmps st.h
def P42_3' (s : Fr42) (t : List AVal) (h : AHeap) : Prop := t.length = 58 ∧ t[4]? = some (.int .i64 s.t4) ∧ t[5]? = some (.bool s.t5) ∧ t[6]? = some (.int .i64 s.t6) ∧ t[7]? = some (.bool s.t7)
def P42_3 (s : Fr42) (st : ASt) : Prop := P42_3' s st.tmps st.h
def P42_4' (s : Fr42) (t : List AVal) (h : AHeap) : Prop := ∃ w0_0, t.length = 58 ∧ t[0]? = some w0_0 ∧ rTestT s.t0 [w0_0] ∧ t[4]? = some (.int .i64 s.t4) ∧ t[5]? = some (.bool s.t5)
def P42_4 (s : Fr42) (st : ASt) : Prop := P42_4' s st.tmps st.h
def P42_5' (s : Fr42) (t : List AVal) (h : AHeap) : Prop := ∃ w0_0, t.length = 58 ∧ t[0]? = some w0_0 ∧ rTestT s.t0 [w0_0] ∧ t[47]? = some (.bool s.t47)
def P42_5 (s : Fr42) (st : ASt) : Prop := P42_5' s st.tmps st.h
def P42_6' (s : Fr42) (t : List AVal) (h : AHeap) : Prop := ∃ w0_0, t.length = 58 ∧ t[0]? = some w0_0 ∧ rTestT s.t0 [w0_0] ∧ t[11]? = some (.bool s.t11)
def P42_6 (s : Fr42) (st : ASt) : Prop := P42_6' s st.tmps st.h
def P42_7' (s : Fr42) (t : List AVal) (h : AHeap) : Prop := ∃ w0_0, t.length = 58 ∧ t[0]? = some w0_0 ∧ rTestT s.t0 [w0_0] ∧ t[8]? = some (.bool s.t8)
def P42_7 (s : Fr42) (st : ASt) : Prop := P42_7' s st.tmps st.h
noncomputable def m42_0 (rec42 : TestT → Option (Int × Bool)) : Mo Fr42 := fun s => (s.t0.get).bind fun n1 => (G18 [n1.Index]).bind fun z7 => some (.nrm, { s with t2 := z7, t3 := false })
noncomputable def m42_1 (rec42 : TestT → Option (Int × Bool)) : Mo Fr42 := fun s => some (.nrm, { s with t2 := 0, t3 := false })
noncomputable def m42_2 (rec42 : TestT → Option (Int × Bool)) : Mo Fr42 := fun s => some (.nrm, { s with t2 := bits .or .i64 s.t4 s.t6, t3 := (s.t5 || s.t7) })
noncomputable def m42_3 (rec42 : TestT → Option (Int × Bool)) : Mo Fr42 := fun s => (s.t0.get).bind fun n18 => (rec42 n18.Right).bind fun z20 => some (.nrm, { s with t6 := z20.1, t7 := z20.2 })
noncomputable def m42_4 (rec42 : TestT → Option (Int × Bool)) : Mo Fr42 := fun s => (s.t0.get).bind fun n26 => (rec42 n26.Left).bind fun z28 => some (.nrm, { s with t4 := z28.1, t5 := z28.2 })
noncomputable def m42_5 (rec42 : TestT → Option (Int × Bool)) : Mo Fr42 := fun s => some (.nrm, { s with t2 := 0, t3 := true })
noncomputable def m42_6 (rec42 : TestT → Option (Int × Bool)) : Mo Fr42 := fun s => (s.t0.get).bind fun n34 => some (.nrm, { s with t47 := n34.Meas })
noncomputable def m42_7 (rec42 : TestT → Option (Int × Bool)) : Mo Fr42 := fun s => (s.t0.get).bind fun n38 => some (.nrm, { s with t11 := ((n38.Kind != 4) && (n38.Kind != 5)) })
noncomputable def m42_8 (rec42 : TestT → Option (Int × Bool)) : Mo Fr42 := fun s => some (.nrm, { s with t8 := s.t0.isNil })
noncomputable def m42_9 (rec42 : TestT → Option (Int × Bool)) : Mo Fr42 := fun s => some (.nrm, s)
noncomputable def M42 (rec42 : TestT → Option (Int × Bool)) : Mo Fr42 := seqM (m42_9 rec42) (seqM (blockM 0 (seqM (m42_8 rec42) (condM (fun s => s.t8) (seqM (m42_1 rec42) (retM)) (seqM (m42_7 rec42) (condM (fun s => s.t11) (seqM (m42_4 rec42) (seqM (m42_3 rec42) (seqM (m42_2 rec42) (retM)))) (seqM (m42_6 rec42) (condM (fun s => s.t47) (seqM (m42_5 rec42) (retM)) (skipM)))))))) (seqM (m42_0 rec42) (retM)))
def Spec42 (f : TestT → Option (Int × Bool)) : Prop := ∀ (x0 : TestT) (vx0_0 : AVal) (_ : rTestT x0 [vx0_0]) (r : (Int × Bool)), f x0 = some r → ∀ h, run Cl 42 [vx0_0] h = some (.ret (.tup [.int .i64 r.1, .bool r.2]), h)
theorem Spec42_of {f g : TestT → Option (Int × Bool)} (hg : Spec42 g) (h : ∀ x0 r, f x0 = some r → g x0 = some r) : Spec42 f := fun x0 v0_ w0_ r hr => hg x0 v0_ w0_ r (h x0 r hr)
theorem R42_0 {rec42 : TestT → Option (Int × Bool)} (hrec42 : Spec42 rec42) (pe : Nat → Fr42 → ASt → Prop) (pr : Fr42 → ASt → Prop) : Ref Cl P42_0 (Cat [true, true, false] (bodyOf Tryz.f42)) (m42_0 rec42) (post P42_1 pe pr) := by
  rintro s ⟨t, h⟩ hp x s' hm
  have hp : P42_0' s t h := hp
  obtain ⟨w0_0, hl, a0, r0_0⟩ := hp
  unfold m42_0 at hm
  obtain ⟨n9, hn9, hm⟩ := Option.bind_eq_some_iff.1 hm
  obtain ⟨bu10_0, bu10_1, bu10_2, bu10_3, qu10, gu10_0, gu10_1, gu10_2, gu10_3⟩ := rTestT_get r0_0 hn9
  subst qu10
  have bd11 : abuildSlice Tryz.prog 25 1 [(0, .int .i64 n9.Index)] = some ([.int .i64 n9.Index], 1) := by kernel_rfl
  have bs12 : Els (rI .i64) [n9.Index] [[.int .i64 n9.Index]] := (Els.cons rfl Els.nil)
  have sl13 : Sl (rI .i64) [n9.Index] (.lst [.int .i64 n9.Index] 1 .full) := Sl.lst .full bs12
  have gr14 : ∀ h, Gr (rI .i64) 1 [n9.Index] (.lst [.int .i64 n9.Index] 1 .full) h := fun h => Gr.full bs12 h
  obtain ⟨z15, hz15, hm⟩ := Option.bind_eq_some_iff.1 hm
  have iu16 := G18_spec [n9.Index] _ sl13 _ hz15
  cases hm
  refine ⟨⟨_, _⟩, by
      simp only [bodyOf, Tryz.f42, Cat, Bool.false_eq_true, e_seq, e_region, e_cond, e_block, ex_skip, ex_exit, ex_ret, o_cons, xops_nil, k_want_none, k_want_false, k_val, k_pan, k_call, k_ret, k_seq, k_seq_exit, k_seq_ret, k_true, k_false, k_block, k_block_exit, k_block_ret, k_loop, k_loop_exit, k_loop_ret, awanted, aoper, evalO, put, Option.getD_some, List.getElem?_set, acallOp, abuiltin, List.map_cons, List.map_nil, Nat.reduceEqDiff, Nat.reduceLT, List.length_set, Option.map_some, Option.bind_some, Option.bind_eq_bind, add_i, sub_i, mul_i, eql_i, neq_i, lss_i, leq_i, gtr_i, geq_i, ofV, ofCell, ↓reduceIte, List.cons_append, List.nil_append, List.append_nil, List.getElem?_toArray, List.getElem?_cons_succ, List.getElem?_cons_zero, e_draw, g_nil, g_cons, g_want, g_skip, g_val, g_call, g_ret, Option.map_none, hl, a0, CP, bq1, bq2, bq3, bq4, ex_tup, Ty.fa144_4, dropCells, List.drop_succ_cons, List.drop_zero, Ty.ld3, ld_ip, ofc1, List.drop_succ_cons, List.drop_zero, bd11, Ty.own_bind_go_270, iu16]
      exact rfl, ?_⟩
  show P42_1 _ _
  exact ⟨by simp [hl], by simp [hl], by simp [hl]⟩
theorem R42_1 {rec42 : TestT → Option (Int × Bool)} (hrec42 : Spec42 rec42) (pe : Nat → Fr42 → ASt → Prop) (pr : Fr42 → ASt → Prop) : Ref Cl P42_2 (Cat [true, false, true, true, false, false] (bodyOf Tryz.f42)) (m42_1 rec42) (post P42_1 pe pr) := by
  rintro s ⟨t, h⟩ hp x s' hm
  have hp : P42_2' s t h := hp
  obtain ⟨hl, _⟩ := hp
  unfold m42_1 at hm
  cases hm
  refine ⟨⟨_, _⟩, by
      simp only [bodyOf, Tryz.f42, Cat, Bool.false_eq_true, e_seq, e_region, e_cond, e_block, ex_skip, ex_exit, ex_ret, o_cons, xops_nil, k_want_none, k_want_false, k_val, k_pan, k_call, k_ret, k_seq, k_seq_exit, k_seq_ret, k_true, k_false, k_block, k_block_exit, k_block_ret, k_loop, k_loop_exit, k_loop_ret, awanted, aoper, evalO, put, Option.getD_some, List.getElem?_set, acallOp, abuiltin, List.map_cons, List.map_nil, Nat.reduceEqDiff, Nat.reduceLT, List.length_set, Option.map_some, Option.bind_some, Option.bind_eq_bind, add_i, sub_i, mul_i, eql_i, neq_i, lss_i, leq_i, gtr_i, geq_i, ofV, ofCell, ↓reduceIte, List.cons_append, List.nil_append, List.append_nil, List.getElem?_toArray, List.getElem?_cons_succ, List.getElem?_cons_zero, e_draw, g_nil, g_cons, g_want, g_skip, g_val, g_call, g_ret, Option.map_none, hl, CP, bq1, bq2, bq3, bq4, ex_tup]
      exact rfl, ?_⟩
  show P42_1 _ _
  exact ⟨by simp [hl], by simp [hl], by simp [hl]⟩
theorem R42_2 {rec42 : TestT → Option (Int × Bool)} (hrec42 : Spec42 rec42) (pe : Nat → Fr42 → ASt → Prop) (pr : Fr42 → ASt → Prop) : Ref Cl P42_3 (Cat [true, false, true, true, true, true, false, true, true, false] (bodyOf Tryz.f42)) (m42_2 rec42) (post P42_1 pe pr) := by
  rintro s ⟨t, h⟩ hp x s' hm
  have hp : P42_3' s t h := hp
  obtain ⟨hl, a4, a5, a6, a7⟩ := hp
  unfold m42_2 at hm
  cases hb17 : s.t5 with
  | true =>
    all_goals (
      try simp only [hb17, cond_true, cond_false, Option.bind_some, Option.bind_assoc, Bool.not_true, Bool.not_false, Bool.true_and, Bool.false_and, Bool.and_true, Bool.and_false, Bool.true_or, Bool.false_or] at hm
      cases hm
      refine ⟨⟨_, _⟩, by
          simp only [bodyOf, Tryz.f42, Cat, Bool.false_eq_true, e_seq, e_region, e_cond, e_block, ex_skip, ex_exit, ex_ret, o_cons, xops_nil, k_want_none, k_want_false, k_val, k_pan, k_call, k_ret, k_seq, k_seq_exit, k_seq_ret, k_true, k_false, k_block, k_block_exit, k_block_ret, k_loop, k_loop_exit, k_loop_ret, awanted, aoper, evalO, put, Option.getD_some, List.getElem?_set, acallOp, abuiltin, List.map_cons, List.map_nil, Nat.reduceEqDiff, Nat.reduceLT, List.length_set, Option.map_some, Option.bind_some, Option.bind_eq_bind, add_i, sub_i, mul_i, eql_i, neq_i, lss_i, leq_i, gtr_i, geq_i, ofV, ofCell, ↓reduceIte, List.cons_append, List.nil_append, List.append_nil, List.getElem?_toArray, List.getElem?_cons_succ, List.getElem?_cons_zero, e_draw, g_nil, g_cons, g_want, g_skip, g_val, g_call, g_ret, Option.map_none, hl, a4, a5, a6, a7, CP, bq1, bq2, bq3, bq4, ex_tup, Ty.or3, hb17]
          exact rfl, ?_⟩
      show P42_1 _ _
      exact ⟨by simp [hl], by simp [hl, hb17], by simp [hl, hb17]⟩)
  | false =>
    all_goals (
      try simp only [hb17, cond_true, cond_false, Option.bind_some, Option.bind_assoc, Bool.not_true, Bool.not_false, Bool.true_and, Bool.false_and, Bool.and_true, Bool.and_false, Bool.true_or, Bool.false_or] at hm
      cases hm
      refine ⟨⟨_, _⟩, by
          simp only [bodyOf, Tryz.f42, Cat, Bool.false_eq_true, e_seq, e_region, e_cond, e_block, ex_skip, ex_exit, ex_ret, o_cons, xops_nil, k_want_none, k_want_false, k_val, k_pan, k_call, k_ret, k_seq, k_seq_exit, k_seq_ret, k_true, k_false, k_block, k_block_exit, k_block_ret, k_loop, k_loop_exit, k_loop_ret, awanted, aoper, evalO, put, Option.getD_some, List.getElem?_set, acallOp, abuiltin, List.map_cons, List.map_nil, Nat.reduceEqDiff, Nat.reduceLT, List.length_set, Option.map_some, Option.bind_some, Option.bind_eq_bind, add_i, sub_i, mul_i, eql_i, neq_i, lss_i, leq_i, gtr_i, geq_i, ofV, ofCell, ↓reduceIte, List.cons_append, List.nil_append, List.append_nil, List.getElem?_toArray, List.getElem?_cons_succ, List.getElem?_cons_zero, e_draw, g_nil, g_cons, g_want, g_skip, g_val, g_call, g_ret, Option.map_none, hl, a4, a5, a6, a7, CP, bq1, bq2, bq3, bq4, ex_tup, Ty.or3, hb17]
          exact rfl, ?_⟩
      show P42_1 _ _
      exact ⟨by simp [hl], by simp [hl, hb17], by simp [hl, hb17]⟩)
theorem R42_3 {rec42 : TestT → Option (Int × Bool)} (hrec42 : Spec42 rec42) (pe : Nat → Fr42 → ASt → Prop) (pr : Fr42 → ASt → Prop) : Ref Cl P42_4 (Cat [true, false, true, true, true, true, false, true, false] (bodyOf Tryz.f42)) (m42_3 rec42) (post P42_3 pe pr) := by
  rintro s ⟨t, h⟩ hp x s' hm
  have hp : P42_4' s t h := hp
  obtain ⟨w0_0, hl, a0, r0_0, a4, a5⟩ := hp
  unfold m42_3 at hm
  obtain ⟨n22, hn22, hm⟩ := Option.bind_eq_some_iff.1 hm
  obtain ⟨bu23_0, bu23_1, bu23_2, bu23_3, qu23, gu23_0, gu23_1, gu23_2, gu23_3⟩ := rTestT_get r0_0 hn22
  subst qu23
  obtain ⟨z24, hz24, hm⟩ := Option.bind_eq_some_iff.1 hm
  have iu25 := hrec42 n22.Right _ gu23_1 _ hz24
  cases hm
  refine ⟨⟨_, _⟩, by
      simp only [bodyOf, Tryz.f42, Cat, Bool.false_eq_true, e_seq, e_region, e_cond, e_block, ex_skip, ex_exit, ex_ret, o_cons, xops_nil, k_want_none, k_want_false, k_val, k_pan, k_call, k_ret, k_seq, k_seq_exit, k_seq_ret, k_true, k_false, k_block, k_block_exit, k_block_ret, k_loop, k_loop_exit, k_loop_ret, awanted, aoper, evalO, put, Option.getD_some, List.getElem?_set, acallOp, abuiltin, List.map_cons, List.map_nil, Nat.reduceEqDiff, Nat.reduceLT, List.length_set, Option.map_some, Option.bind_some, Option.bind_eq_bind, add_i, sub_i, mul_i, eql_i, neq_i, lss_i, leq_i, gtr_i, geq_i, ofV, ofCell, ↓reduceIte, List.cons_append, List.nil_append, List.append_nil, List.getElem?_toArray, List.getElem?_cons_succ, List.getElem?_cons_zero, e_draw, g_nil, g_cons, g_want, g_skip, g_val, g_call, g_ret, Option.map_none, hl, a0, a4, a5, CP, bq1, bq2, bq3, bq4, ex_tup, Ty.fa144_2, dropCells, List.drop_succ_cons, List.drop_zero, Ty.ld24, ld_ip, ofc1, List.drop_succ_cons, List.drop_zero, iu25]
      exact rfl, ?_⟩
  show P42_3 _ _
  exact ⟨by simp [hl], by simp [a4], by simp [a5], by simp [hl], by simp [hl]⟩
theorem R42_4 {rec42 : TestT → Option (Int × Bool)} (hrec42 : Spec42 rec42) (pe : Nat → Fr42 → ASt → Prop) (pr : Fr42 → ASt → Prop) : Ref Cl P42_0 (Cat [true, false, true, true, true, true, false, false] (bodyOf Tryz.f42)) (m42_4 rec42) (post P42_4 pe pr) := by
  rintro s ⟨t, h⟩ hp x s' hm
  have hp : P42_0' s t h := hp
  obtain ⟨w0_0, hl, a0, r0_0⟩ := hp
  unfold m42_4 at hm
  obtain ⟨n30, hn30, hm⟩ := Option.bind_eq_some_iff.1 hm
  obtain ⟨bu31_0, bu31_1, bu31_2, bu31_3, qu31, gu31_0, gu31_1, gu31_2, gu31_3⟩ := rTestT_get r0_0 hn30
  subst qu31
  obtain ⟨z32, hz32, hm⟩ := Option.bind_eq_some_iff.1 hm
  have iu33 := hrec42 n30.Left _ gu31_0 _ hz32
  cases hm
  refine ⟨⟨_, _⟩, by
      simp only [bodyOf, Tryz.f42, Cat, Bool.false_eq_true, e_seq, e_region, e_cond, e_block, ex_skip, ex_exit, ex_ret, o_cons, xops_nil, k_want_none, k_want_false, k_val, k_pan, k_call, k_ret, k_seq, k_seq_exit, k_seq_ret, k_true, k_false, k_block, k_block_exit, k_block_ret, k_loop, k_loop_exit, k_loop_ret, awanted, aoper, evalO, put, Option.getD_some, List.getElem?_set, acallOp, abuiltin, List.map_cons, List.map_nil, Nat.reduceEqDiff, Nat.reduceLT, List.length_set, Option.map_some, Option.bind_some, Option.bind_eq_bind, add_i, sub_i, mul_i, eql_i, neq_i, lss_i, leq_i, gtr_i, geq_i, ofV, ofCell, ↓reduceIte, List.cons_append, List.nil_append, List.append_nil, List.getElem?_toArray, List.getElem?_cons_succ, List.getElem?_cons_zero, e_draw, g_nil, g_cons, g_want, g_skip, g_val, g_call, g_ret, Option.map_none, hl, a0, CP, bq1, bq2, bq3, bq4, ex_tup, Ty.fa144_1, dropCells, List.drop_succ_cons, List.drop_zero, Ty.ld24, ld_ip, ofc1, List.drop_succ_cons, List.drop_zero, iu33]
      exact rfl, ?_⟩
  show P42_4 _ _
  exact ⟨(.iptr [.int .i64 n30.Kind, bu31_0, bu31_1, .bool n30.Meas, .int .i64 n30.Index, .int .i64 n30.Op, bu31_2, bu31_3] : AVal), by simp [hl], by simp [a0], r0_0, by simp [hl], by simp [hl]⟩
theorem R42_5 {rec42 : TestT → Option (Int × Bool)} (hrec42 : Spec42 rec42) (pe : Nat → Fr42 → ASt → Prop) (pr : Fr42 → ASt → Prop) : Ref Cl P42_2 (Cat [true, false, true, true, true, true, true, true, false, false] (bodyOf Tryz.f42)) (m42_5 rec42) (post P42_1 pe pr) := by
  rintro s ⟨t, h⟩ hp x s' hm
  have hp : P42_2' s t h := hp
  obtain ⟨hl, _⟩ := hp
  unfold m42_5 at hm
  cases hm
  refine ⟨⟨_, _⟩, by
      simp only [bodyOf, Tryz.f42, Cat, Bool.false_eq_true, e_seq, e_region, e_cond, e_block, ex_skip, ex_exit, ex_ret, o_cons, xops_nil, k_want_none, k_want_false, k_val, k_pan, k_call, k_ret, k_seq, k_seq_exit, k_seq_ret, k_true, k_false, k_block, k_block_exit, k_block_ret, k_loop, k_loop_exit, k_loop_ret, awanted, aoper, evalO, put, Option.getD_some, List.getElem?_set, acallOp, abuiltin, List.map_cons, List.map_nil, Nat.reduceEqDiff, Nat.reduceLT, List.length_set, Option.map_some, Option.bind_some, Option.bind_eq_bind, add_i, sub_i, mul_i, eql_i, neq_i, lss_i, leq_i, gtr_i, geq_i, ofV, ofCell, ↓reduceIte, List.cons_append, List.nil_append, List.append_nil, List.getElem?_toArray, List.getElem?_cons_succ, List.getElem?_cons_zero, e_draw, g_nil, g_cons, g_want, g_skip, g_val, g_call, g_ret, Option.map_none, hl, CP, bq1, bq2, bq3, bq4, ex_tup]
      exact rfl, ?_⟩
  show P42_1 _ _
  exact ⟨by simp [hl], by simp [hl], by simp [hl]⟩
theorem R42_6 {rec42 : TestT → Option (Int × Bool)} (hrec42 : Spec42 rec42) (pe : Nat → Fr42 → ASt → Prop) (pr : Fr42 → ASt → Prop) : Ref Cl P42_0 (Cat [true, false, true, true, true, true, true, false] (bodyOf Tryz.f42)) (m42_6 rec42) (post P42_5 pe pr) := by
  rintro s ⟨t, h⟩ hp x s' hm
  have hp : P42_0' s t h := hp
  obtain ⟨w0_0, hl, a0, r0_0⟩ := hp
  unfold m42_6 at hm
  obtain ⟨n36, hn36, hm⟩ := Option.bind_eq_some_iff.1 hm
  obtain ⟨bu37_0, bu37_1, bu37_2, bu37_3, qu37, gu37_0, gu37_1, gu37_2, gu37_3⟩ := rTestT_get r0_0 hn36
  subst qu37
  cases hm
  refine ⟨⟨_, _⟩, by
      simp only [bodyOf, Tryz.f42, Cat, Bool.false_eq_true, e_seq, e_region, e_cond, e_block, ex_skip, ex_exit, ex_ret, o_cons, xops_nil, k_want_none, k_want_false, k_val, k_pan, k_call, k_ret, k_seq, k_seq_exit, k_seq_ret, k_true, k_false, k_block, k_block_exit, k_block_ret, k_loop, k_loop_exit, k_loop_ret, awanted, aoper, evalO, put, Option.getD_some, List.getElem?_set, acallOp, abuiltin, List.map_cons, List.map_nil, Nat.reduceEqDiff, Nat.reduceLT, List.length_set, Option.map_some, Option.bind_some, Option.bind_eq_bind, add_i, sub_i, mul_i, eql_i, neq_i, lss_i, leq_i, gtr_i, geq_i, ofV, ofCell, ↓reduceIte, List.cons_append, List.nil_append, List.append_nil, List.getElem?_toArray, List.getElem?_cons_succ, List.getElem?_cons_zero, e_draw, g_nil, g_cons, g_want, g_skip, g_val, g_call, g_ret, Option.map_none, hl, a0, CP, bq1, bq2, bq3, bq4, ex_tup, Ty.fa144_3, dropCells, List.drop_succ_cons, List.drop_zero, Ty.ld4, ld_ip, ofc1, List.drop_succ_cons, List.drop_zero]
      exact rfl, ?_⟩
  show P42_5 _ _
  exact ⟨(.iptr [.int .i64 n36.Kind, bu37_0, bu37_1, .bool n36.Meas, .int .i64 n36.Index, .int .i64 n36.Op, bu37_2, bu37_3] : AVal), by simp [hl], by simp [a0], r0_0, by simp [hl]⟩
theorem R42_7 {rec42 : TestT → Option (Int × Bool)} (hrec42 : Spec42 rec42) (pe : Nat → Fr42 → ASt → Prop) (pr : Fr42 → ASt → Prop) : Ref Cl P42_0 (Cat [true, false, true, true, true, false] (bodyOf Tryz.f42)) (m42_7 rec42) (post P42_6 pe pr) := by
  rintro s ⟨t, h⟩ hp x s' hm
  have hp : P42_0' s t h := hp
  obtain ⟨w0_0, hl, a0, r0_0⟩ := hp
  unfold m42_7 at hm
  obtain ⟨n40, hn40, hm⟩ := Option.bind_eq_some_iff.1 hm
  obtain ⟨bu41_0, bu41_1, bu41_2, bu41_3, qu41, gu41_0, gu41_1, gu41_2, gu41_3⟩ := rTestT_get r0_0 hn40
  subst qu41
  cases hb42 : (n40.Kind != 4) with
  | true =>
    all_goals (
      try simp only [hb42, cond_true, cond_false, Option.bind_some, Option.bind_assoc, Bool.not_true, Bool.not_false, Bool.true_and, Bool.false_and, Bool.and_true, Bool.and_false, Bool.true_or, Bool.false_or] at hm
      cases hm
      refine ⟨⟨_, _⟩, by
          simp only [bodyOf, Tryz.f42, Cat, Bool.false_eq_true, e_seq, e_region, e_cond, e_block, ex_skip, ex_exit, ex_ret, o_cons, xops_nil, k_want_none, k_want_false, k_val, k_pan, k_call, k_ret, k_seq, k_seq_exit, k_seq_ret, k_true, k_false, k_block, k_block_exit, k_block_ret, k_loop, k_loop_exit, k_loop_ret, awanted, aoper, evalO, put, Option.getD_some, List.getElem?_set, acallOp, abuiltin, List.map_cons, List.map_nil, Nat.reduceEqDiff, Nat.reduceLT, List.length_set, Option.map_some, Option.bind_some, Option.bind_eq_bind, add_i, sub_i, mul_i, eql_i, neq_i, lss_i, leq_i, gtr_i, geq_i, ofV, ofCell, ↓reduceIte, List.cons_append, List.nil_append, List.append_nil, List.getElem?_toArray, List.getElem?_cons_succ, List.getElem?_cons_zero, e_draw, g_nil, g_cons, g_want, g_skip, g_val, g_call, g_ret, Option.map_none, hl, a0, CP, bq1, bq2, bq3, bq4, ex_tup, Ty.fa144_0, dropCells, List.drop_succ_cons, List.drop_zero, Ty.ld3, ld_ip, ofc1, List.drop_succ_cons, List.drop_zero, hb42]
          exact rfl, ?_⟩
      show P42_6 _ _
      exact ⟨(.iptr [.int .i64 n40.Kind, bu41_0, bu41_1, .bool n40.Meas, .int .i64 n40.Index, .int .i64 n40.Op, bu41_2, bu41_3] : AVal), by simp [hl], by simp [a0], r0_0, by simp [hl, hb42]⟩)
  | false =>
    all_goals (
      try simp only [hb42, cond_true, cond_false, Option.bind_some, Option.bind_assoc, Bool.not_true, Bool.not_false, Bool.true_and, Bool.false_and, Bool.and_true, Bool.and_false, Bool.true_or, Bool.false_or] at hm
      cases hm
      refine ⟨⟨_, _⟩, by
          simp only [bodyOf, Tryz.f42, Cat, Bool.false_eq_true, e_seq, e_region, e_cond, e_block, ex_skip, ex_exit, ex_ret, o_cons, xops_nil, k_want_none, k_want_false, k_val, k_pan, k_call, k_ret, k_seq, k_seq_exit, k_seq_ret, k_true, k_false, k_block, k_block_exit, k_block_ret, k_loop, k_loop_exit, k_loop_ret, awanted, aoper, evalO, put, Option.getD_some, List.getElem?_set, acallOp, abuiltin, List.map_cons, List.map_nil, Nat.reduceEqDiff, Nat.reduceLT, List.length_set, Option.map_some, Option.bind_some, Option.bind_eq_bind, add_i, sub_i, mul_i, eql_i, neq_i, lss_i, leq_i, gtr_i, geq_i, ofV, ofCell, ↓reduceIte, List.cons_append, List.nil_append, List.append_nil, List.getElem?_toArray, List.getElem?_cons_succ, List.getElem?_cons_zero, e_draw, g_nil, g_cons, g_want, g_skip, g_val, g_call, g_ret, Option.map_none, hl, a0, CP, bq1, bq2, bq3, bq4, ex_tup, Ty.fa144_0, dropCells, List.drop_succ_cons, List.drop_zero, Ty.ld3, ld_ip, ofc1, List.drop_succ_cons, List.drop_zero, hb42]
          exact rfl, ?_⟩
      show P42_6 _ _
      exact ⟨(.iptr [.int .i64 n40.Kind, bu41_0, bu41_1, .bool n40.Meas, .int .i64 n40.Index, .int .i64 n40.Op, bu41_2, bu41_3] : AVal), by simp [hl], by simp [a0], r0_0, by simp [hl, hb42]⟩)
theorem R42_8 {rec42 : TestT → Option (Int × Bool)} (hrec42 : Spec42 rec42) (pe : Nat → Fr42 → ASt → Prop) (pr : Fr42 → ASt → Prop) : Ref Cl P42_0 (Cat [true, false, true, false] (bodyOf Tryz.f42)) (m42_8 rec42) (post P42_7 pe pr) := by
  rintro s ⟨t, h⟩ hp x s' hm
  have hp : P42_0' s t h := hp
  obtain ⟨w0_0, hl, a0, r0_0⟩ := hp
  unfold m42_8 at hm
  cases hb43 : s.t0.isNil with
  | true =>
    all_goals (
      try simp only [hb43, cond_true, cond_false, Option.bind_some, Option.bind_assoc, Bool.not_true, Bool.not_false, Bool.true_and, Bool.false_and, Bool.and_true, Bool.and_false, Bool.true_or, Bool.false_or] at hm
      obtain ⟨_, qz44⟩ | ⟨qz44, _⟩ := rTestT_nil r0_0
      rotate_left
      · rw [hb43] at qz44; cases qz44
      have z44 : ∀ (xo : Operand) (h : AHeap), abin Cl .eql 24 xo (.const (.pointer none)) h (w0_0) .nilPtr = some (.bool true) := fun xo h => by rw [qz44]; exact Ty.eqn24 xo h
      cases hm
      refine ⟨⟨_, _⟩, by
          simp only [bodyOf, Tryz.f42, Cat, Bool.false_eq_true, e_seq, e_region, e_cond, e_block, ex_skip, ex_exit, ex_ret, o_cons, xops_nil, k_want_none, k_want_false, k_val, k_pan, k_call, k_ret, k_seq, k_seq_exit, k_seq_ret, k_true, k_false, k_block, k_block_exit, k_block_ret, k_loop, k_loop_exit, k_loop_ret, awanted, aoper, evalO, put, Option.getD_some, List.getElem?_set, acallOp, abuiltin, List.map_cons, List.map_nil, Nat.reduceEqDiff, Nat.reduceLT, List.length_set, Option.map_some, Option.bind_some, Option.bind_eq_bind, add_i, sub_i, mul_i, eql_i, neq_i, lss_i, leq_i, gtr_i, geq_i, ofV, ofCell, ↓reduceIte, List.cons_append, List.nil_append, List.append_nil, List.getElem?_toArray, List.getElem?_cons_succ, List.getElem?_cons_zero, e_draw, g_nil, g_cons, g_want, g_skip, g_val, g_call, g_ret, Option.map_none, hl, a0, CP, bq1, bq2, bq3, bq4, ex_tup, z44, hb43]
          exact rfl, ?_⟩
      show P42_7 _ _
      exact ⟨w0_0, by simp [hl], by simp [a0], r0_0, by simp [hl, hb43]⟩)
  | false =>
    all_goals (
      try simp only [hb43, cond_true, cond_false, Option.bind_some, Option.bind_assoc, Bool.not_true, Bool.not_false, Bool.true_and, Bool.false_and, Bool.and_true, Bool.and_false, Bool.true_or, Bool.false_or] at hm
      obtain ⟨qz45, _⟩ | ⟨_, csz45, qz45⟩ := rTestT_nil r0_0
      · rw [hb43] at qz45; cases qz45
      have z45 : ∀ (xo yo : Operand) (h : AHeap), abin Cl .eql 24 xo yo h (w0_0) .nilPtr = some (.bool false) := fun xo yo h => by rw [qz45]; exact Ty.eqp24 xo yo h _
      clear qz45
      cases hm
      refine ⟨⟨_, _⟩, by
          simp only [bodyOf, Tryz.f42, Cat, Bool.false_eq_true, e_seq, e_region, e_cond, e_block, ex_skip, ex_exit, ex_ret, o_cons, xops_nil, k_want_none, k_want_false, k_val, k_pan, k_call, k_ret, k_seq, k_seq_exit, k_seq_ret, k_true, k_false, k_block, k_block_exit, k_block_ret, k_loop, k_loop_exit, k_loop_ret, awanted, aoper, evalO, put, Option.getD_some, List.getElem?_set, acallOp, abuiltin, List.map_cons, List.map_nil, Nat.reduceEqDiff, Nat.reduceLT, List.length_set, Option.map_some, Option.bind_some, Option.bind_eq_bind, add_i, sub_i, mul_i, eql_i, neq_i, lss_i, leq_i, gtr_i, geq_i, ofV, ofCell, ↓reduceIte, List.cons_append, List.nil_append, List.append_nil, List.getElem?_toArray, List.getElem?_cons_succ, List.getElem?_cons_zero, e_draw, g_nil, g_cons, g_want, g_skip, g_val, g_call, g_ret, Option.map_none, hl, a0, CP, bq1, bq2, bq3, bq4, ex_tup, z45, hb43]
          exact rfl, ?_⟩
      show P42_7 _ _
      exact ⟨w0_0, by simp [hl], by simp [a0], r0_0, by simp [hl, hb43]⟩)
theorem R42_9 {rec42 : TestT → Option (Int × Bool)} (hrec42 : Spec42 rec42) (pe : Nat → Fr42 → ASt → Prop) (pr : Fr42 → ASt → Prop) : Ref Cl P42_0 (Cat [false] (bodyOf Tryz.f42)) (m42_9 rec42) (post P42_0 pe pr) := by
  rintro s ⟨t, h⟩ hp x s' hm
  have hp : P42_0' s t h := hp
  obtain ⟨w0_0, hl, a0, r0_0⟩ := hp
  unfold m42_9 at hm
  cases hm
  refine ⟨⟨_, _⟩, by
      simp only [bodyOf, Tryz.f42, Cat, Bool.false_eq_true, e_seq, e_region, e_cond, e_block, ex_skip, ex_exit, ex_ret, o_cons, xops_nil, k_want_none, k_want_false, k_val, k_pan, k_call, k_ret, k_seq, k_seq_exit, k_seq_ret, k_true, k_false, k_block, k_block_exit, k_block_ret, k_loop, k_loop_exit, k_loop_ret, awanted, aoper, evalO, put, Option.getD_some, List.getElem?_set, acallOp, abuiltin, List.map_cons, List.map_nil, Nat.reduceEqDiff, Nat.reduceLT, List.length_set, Option.map_some, Option.bind_some, Option.bind_eq_bind, add_i, sub_i, mul_i, eql_i, neq_i, lss_i, leq_i, gtr_i, geq_i, ofV, ofCell, ↓reduceIte, List.cons_append, List.nil_append, List.append_nil, List.getElem?_toArray, List.getElem?_cons_succ, List.getElem?_cons_zero, e_draw, g_nil, g_cons, g_want, g_skip, g_val, g_call, g_ret, Option.map_none, hl, a0, CP, bq1, bq2, bq3, bq4, ex_tup]
      exact rfl, ?_⟩
  show P42_0 _ _
  exact ⟨w0_0, by simp [hl], by simp [a0], r0_0⟩
theorem B42 {rec42 : TestT → Option (Int × Bool)} (hrec42 : Spec42 rec42) : Ref Cl P42_0 (bodyOf Tryz.f42) (M42 rec42) (post P42_1 (fun _ _ _ => False) P42_1) := by
  rw [show bodyOf Tryz.f42 = .seq (Cat [false] (bodyOf Tryz.f42)) (.seq (.block 0 (.seq (Cat [true, false, true, false] (bodyOf Tryz.f42)) (.cond (.tmp 8) (.seq (Cat [true, false, true, true, false, false] (bodyOf Tryz.f42)) (.ret)) (.seq (Cat [true, false, true, true, true, false] (bodyOf Tryz.f42)) (.cond (.tmp 11) (.seq (Cat [true, false, true, true, true, true, false, false] (bodyOf Tryz.f42)) (.seq (Cat [true, false, true, true, true, true, false, true, false] (bodyOf Tryz.f42)) (.seq (Cat [true, false, true, true, true, true, false, true, true, false] (bodyOf Tryz.f42)) (.ret)))) (.seq (Cat [true, false, true, true, true, true, true, false] (bodyOf Tryz.f42)) (.cond (.tmp 47) (.seq (Cat [true, false, true, true, true, true, true, true, false, false] (bodyOf Tryz.f42)) (.ret)) (.skip)))))))) (.seq (Cat [true, true, false] (bodyOf Tryz.f42)) (.ret))) from rfl]
  unfold M42
  exact ref_seq (M := P42_0) (R42_9 hrec42 _ _) (ref_seq (M := P42_0) (ref_block (ref_seq (M := P42_7) (R42_8 hrec42 _ _) (ref_cond (P := P42_7) (c := fun s => s.t8) (fun s st hp => by obtain ⟨w0_0, hl, a0, r0_0, a8⟩ := (hp : P42_7' s st.tmps st.h); simp only [evalO, a8, Option.getD_some]) (ref_weak (P' := P42_2) (fun s st hp => by obtain ⟨w0_0, hl, a0, r0_0, a8⟩ := (hp : P42_7' s st.tmps st.h); exact (⟨hl, trivial⟩ : P42_2' s st.tmps st.h)) (ref_seq (M := P42_1) (R42_1 hrec42 _ _) (ref_ret (fun s st hp => hp)))) (ref_weak (P' := P42_0) (fun s st hp => by obtain ⟨w0_0, hl, a0, r0_0, a8⟩ := (hp : P42_7' s st.tmps st.h); exact (⟨w0_0, hl, a0, r0_0⟩ : P42_0' s st.tmps st.h)) (ref_seq (M := P42_6) (R42_7 hrec42 _ _) (ref_cond (P := P42_6) (c := fun s => s.t11) (fun s st hp => by obtain ⟨w0_0, hl, a0, r0_0, a11⟩ := (hp : P42_6' s st.tmps st.h); simp only [evalO, a11, Option.getD_some]) (ref_weak (P' := P42_0) (fun s st hp => by obtain ⟨w0_0, hl, a0, r0_0, a11⟩ := (hp : P42_6' s st.tmps st.h); exact (⟨w0_0, hl, a0, r0_0⟩ : P42_0' s st.tmps st.h)) (ref_seq (M := P42_4) (R42_4 hrec42 _ _) (ref_seq (M := P42_3) (R42_3 hrec42 _ _) (ref_seq (M := P42_1) (R42_2 hrec42 _ _) (ref_ret (fun s st hp => hp)))))) (ref_weak (P' := P42_0) (fun s st hp => by obtain ⟨w0_0, hl, a0, r0_0, a11⟩ := (hp : P42_6' s st.tmps st.h); exact (⟨w0_0, hl, a0, r0_0⟩ : P42_0' s st.tmps st.h)) (ref_seq (M := P42_5) (R42_6 hrec42 _ _) (ref_cond (P := P42_5) (c := fun s => s.t47) (fun s st hp => by obtain ⟨w0_0, hl, a0, r0_0, a47⟩ := (hp : P42_5' s st.tmps st.h); simp only [evalO, a47, Option.getD_some]) (ref_weak (P' := P42_2) (fun s st hp => by obtain ⟨w0_0, hl, a0, r0_0, a47⟩ := (hp : P42_5' s st.tmps st.h); exact (⟨hl, trivial⟩ : P42_2' s st.tmps st.h)) (ref_seq (M := P42_1) (R42_5 hrec42 _ _) (ref_ret (fun s st hp => hp)))) (ref_weak (P' := P42_0) (fun s st hp => by obtain ⟨w0_0, hl, a0, r0_0, a47⟩ := (hp : P42_5' s st.tmps st.h); exact (⟨w0_0, hl, a0, r0_0⟩ : P42_0' s st.tmps st.h)) (ref_skip (fun s st hp => hp)))))))))))) (ref_seq (M := P42_1) (R42_0 hrec42 _ _) (ref_ret (fun s st hp => hp))))
noncomputable def G42 (rec42 : TestT → Option (Int × Bool)) (x0 : TestT) : Option (Int × Bool) := match M42 rec42 { (default : Fr42) with t0 := x0 } with
  | some (.nrm, s) => some (s.t2, s.t3)
  | some (.ret, s) => some (s.t2, s.t3)
  | _ => none
theorem G42_spec {rec42 : TestT → Option (Int × Bool)} (hrec42 : Spec42 rec42) : Spec42 (G42 rec42) := by
  intro x0 vx0_0 hvx0_0 r hr
  unfold G42 at hr
  cases hm : M42 rec42 { (default : Fr42) with t0 := x0 } with
  | none => rw [hm] at hr; cases hr
  | some q =>
    obtain ⟨x, s⟩ := q
    rw [hm] at hr
    have hx : x = .nrm ∨ x = .ret := by cases x <;> first | exact .inl rfl | exact .inr rfl | cases hr
    have hr : (s.t2, s.t3) = r := by cases x <;> first | exact Option.some.inj hr | cases hr
    subst hr
    have hp0 : P42_0' ({ (default : Fr42) with t0 := x0 }) (slots Tryz.f42 (stripL [vx0_0])) bare := ⟨(strip vx0_0 : AVal), rfl, rfl, rTestT_p.str _ _ hvx0_0⟩
    obtain ⟨v, hR, hrun⟩ := run_of_ref (C := Cl) (f := 42) (fn := Tryz.f42) Tryz.func42 rfl rfl rfl rfl (args := [vx0_0]) (by simp only [refsL, refs, List.append_nil, refs_one (rTestT_p.ref _ _ hvx0_0)]) (B42 hrec42) (s0 := { (default : Fr42) with t0 := x0 }) hp0 hm hx (R := fun v => v = .tup [.int .i64 s.t2, .bool s.t3]) (by
      have key : ∀ st : ASt, P42_1 s st → ∃ vs v, aresults Cl Tryz.f42.results.toList st = some vs ∧ Nrm [] st.h (packRes vs) v ∧ (fun v => v = .tup [.int .i64 s.t2, .bool s.t3]) v := by
        intro st hp
        obtain ⟨hl, a2, a3⟩ := (hp : P42_1' s st.tmps st.h)
        exact ⟨[.int .i64 s.t2, .bool s.t3], _, by simp only [show Tryz.f42.results.toList = [ResultVar.tmp 2, ResultVar.tmp 3] from rfl, aresults, ares1, CP, a2, a3, Option.getD_some], (Nrm.tup (NrmL.cons (Nrm.of (w := .int .i64 s.t2) (by simp only [refsL, refs, List.append_nil])) (NrmL.cons (Nrm.of (w := .bool s.t3) (by simp only [refsL, refs, List.append_nil])) NrmL.nil))), rfl⟩
      intro st hq
      rcases hx with rfl | rfl
      · exact key st hq
      · exact key st hq)
    subst hR
    exact hrun
noncomputable def F42 : Nat → TestT → Option (Int × Bool)
  | 0 => fun _ => none
  | n + 1 => G42 (F42 n)
theorem F42_spec : ∀ n, Spec42 (F42 n)
  | 0 => fun x0 vx0_0 hvx0_0 r hr => by cases hr
  | n + 1 => G42_spec (F42_spec n)
theorem Spec42_fuel {f : TestT → Option (Int × Bool)} (h : ∀ x0 r, f x0 = some r → ∃ n, F42 n x0 = some r) : Spec42 f := fun x0 vx0_0 hvx0_0 r hr => by
  obtain ⟨n, hn⟩ := h x0 r hr
  exact F42_spec n x0 vx0_0 hvx0_0 r hn
/-! ### caisson/plan.choose$1 -/
structure Fr45 where
  t0 : ViewInfo
  t1 : Int
  t2 : Int
  t3 : ViewInfo
  t4 : Bool
instance : Inhabited Fr45 := ⟨⟨default, 0, 0, default, false⟩⟩
def P45_0' (s : Fr45) (t : List AVal) (h : AHeap) : Prop := t.length = 20 ∧ t[1]? = some (.iptr [.int .i64 s.t1]) ∧ t[2]? = some (.iptr [.int .i64 s.t2]) ∧ t[3]? = some (.iptr [.int .i64 s.t3.Set, .int .i64 s.t3.State, .int .i64 s.t3.Seq, .int .i64 s.t3.Rows, .int .i64 s.t3.Bytes, .int .i64 s.t3.Readers])
def P45_0 (s : Fr45) (st : ASt) : Prop := P45_0' s st.tmps st.h
def P45_1' (s : Fr45) (t : List AVal) (h : AHeap) : Prop := t.length = 20 ∧ t[4]? = some (.bool s.t4)
def P45_1 (s : Fr45) (st : ASt) : Prop := P45_1' s st.tmps st.h
def P45_2' (s : Fr45) (t : List AVal) (h : AHeap) : Prop := t.length = 20 ∧ t[0]? = some (.agg [.int .i64 s.t0.Set, .int .i64 s.t0.State, .int .i64 s.t0.Seq, .int .i64 s.t0.Rows, .int .i64 s.t0.Bytes, .int .i64 s.t0.Readers]) ∧ t[1]? = some (.iptr [.int .i64 s.t1]) ∧ t[2]? = some (.iptr [.int .i64 s.t2])
def P45_2 (s : Fr45) (st : ASt) : Prop := P45_2' s st.tmps st.h
noncomputable def m45_0 : Mo Fr45 := fun s => (cond ((s.t3.State == 2) && (s.t3.Seq == s.t1)) ((G8 s.t3.Set s.t2).bind fun z1 => some z1) (some false)).bind fun x3 => some (.nrm, { s with t4 := (((s.t3.State == 2) && (s.t3.Seq == s.t1)) && x3) })
noncomputable def m45_1 : Mo Fr45 := fun s => some (.nrm, { s with t3 := s.t0 })
noncomputable def M45 : Mo Fr45 := seqM (m45_1) (seqM (m45_0) (retM))
def Spec45 (f : ViewInfo → Int → Int → Option Bool) : Prop := ∀ (x0 : ViewInfo) (x1 : Int) (x2 : Int) (r : Bool), f x0 x1 x2 = some r → ∀ h, run Cl 45 [.agg [.int .i64 x0.Set, .int .i64 x0.State, .int .i64 x0.Seq, .int .i64 x0.Rows, .int .i64 x0.Bytes, .int .i64 x0.Readers], .iptr [.int .i64 x1], .iptr [.int .i64 x2]] h = some (.ret (.bool r), h)
theorem Spec45_of {f g : ViewInfo → Int → Int → Option Bool} (hg : Spec45 g) (h : ∀ x0 x1 x2 r, f x0 x1 x2 = some r → g x0 x1 x2 = some r) : Spec45 f := fun x0 x1 x2 r hr => hg x0 x1 x2 r (h x0 x1 x2 r hr)
theorem R45_0 (pe : Nat → Fr45 → ASt → Prop) (pr : Fr45 → ASt → Prop) : Ref Cl P45_0 (Cat [true, false] (bodyOf Tryz.f45)) m45_0 (post P45_1 pe pr) := by
  rintro s ⟨t, h⟩ hp x s' hm
  have hp : P45_0' s t h := hp
  obtain ⟨hl, a1, a2, a3⟩ := hp
  unfold m45_0 at hm
  cases hb4 : (s.t3.State == 2) with
  | true =>
    all_goals (
      try simp only [hb4, cond_true, cond_false, Option.bind_some, Option.bind_assoc, Bool.not_true, Bool.not_false, Bool.true_and, Bool.false_and, Bool.and_true, Bool.and_false, Bool.true_or, Bool.false_or] at hm
      cases hb5 : (s.t3.Seq == s.t1) with
      | true =>
        all_goals (
          try simp only [hb5, cond_true, cond_false, Option.bind_some, Option.bind_assoc, Bool.not_true, Bool.not_false, Bool.true_and, Bool.false_and, Bool.and_true, Bool.and_false, Bool.true_or, Bool.false_or] at hm
          obtain ⟨z6, hz6, hm⟩ := Option.bind_eq_some_iff.1 hm
          have iu7 := G8_spec s.t3.Set s.t2  _ hz6
          try simp only [cond_true, cond_false, Option.bind_some, Option.bind_assoc, Bool.not_true, Bool.not_false, Bool.true_and, Bool.false_and, Bool.and_true, Bool.and_false, Bool.true_or, Bool.false_or] at hm
          cases hm
          refine ⟨⟨_, _⟩, by
              simp only [bodyOf, Tryz.f45, Cat, Bool.false_eq_true, e_seq, e_region, e_cond, e_block, ex_skip, ex_exit, ex_ret, o_cons, xops_nil, k_want_none, k_want_false, k_val, k_pan, k_call, k_ret, k_seq, k_seq_exit, k_seq_ret, k_true, k_false, k_block, k_block_exit, k_block_ret, k_loop, k_loop_exit, k_loop_ret, awanted, aoper, evalO, put, Option.getD_some, List.getElem?_set, acallOp, abuiltin, List.map_cons, List.map_nil, Nat.reduceEqDiff, Nat.reduceLT, List.length_set, Option.map_some, Option.bind_some, Option.bind_eq_bind, add_i, sub_i, mul_i, eql_i, neq_i, lss_i, leq_i, gtr_i, geq_i, ofV, ofCell, ↓reduceIte, List.cons_append, List.nil_append, List.append_nil, List.getElem?_toArray, List.getElem?_cons_succ, List.getElem?_cons_zero, e_draw, g_nil, g_cons, g_want, g_skip, g_val, g_call, g_ret, Option.map_none, hl, a1, a2, a3, CP, bq1, bq2, bq3, bq4, ex_tup, Ty.fa32_1, dropCells, List.drop_succ_cons, List.drop_zero, Ty.ld3, ld_ip, ofc1, List.drop_succ_cons, List.drop_zero, Ty.fa32_2, Ty.fa32_0, iu7, hb4, hb5]
              exact rfl, ?_⟩
          show P45_1 _ _
          exact ⟨by simp [hl], by simp [hl, hb4, hb5]⟩)
      | false =>
        all_goals (
          try simp only [hb5, cond_true, cond_false, Option.bind_some, Option.bind_assoc, Bool.not_true, Bool.not_false, Bool.true_and, Bool.false_and, Bool.and_true, Bool.and_false, Bool.true_or, Bool.false_or] at hm
          cases hm
          refine ⟨⟨_, _⟩, by
              simp only [bodyOf, Tryz.f45, Cat, Bool.false_eq_true, e_seq, e_region, e_cond, e_block, ex_skip, ex_exit, ex_ret, o_cons, xops_nil, k_want_none, k_want_false, k_val, k_pan, k_call, k_ret, k_seq, k_seq_exit, k_seq_ret, k_true, k_false, k_block, k_block_exit, k_block_ret, k_loop, k_loop_exit, k_loop_ret, awanted, aoper, evalO, put, Option.getD_some, List.getElem?_set, acallOp, abuiltin, List.map_cons, List.map_nil, Nat.reduceEqDiff, Nat.reduceLT, List.length_set, Option.map_some, Option.bind_some, Option.bind_eq_bind, add_i, sub_i, mul_i, eql_i, neq_i, lss_i, leq_i, gtr_i, geq_i, ofV, ofCell, ↓reduceIte, List.cons_append, List.nil_append, List.append_nil, List.getElem?_toArray, List.getElem?_cons_succ, List.getElem?_cons_zero, e_draw, g_nil, g_cons, g_want, g_skip, g_val, g_call, g_ret, Option.map_none, hl, a1, a2, a3, CP, bq1, bq2, bq3, bq4, ex_tup, Ty.fa32_1, dropCells, List.drop_succ_cons, List.drop_zero, Ty.ld3, ld_ip, ofc1, List.drop_succ_cons, List.drop_zero, Ty.fa32_2, hb4, hb5]
              exact rfl, ?_⟩
          show P45_1 _ _
          exact ⟨by simp [hl], by simp [hl, hb4, hb5]⟩))
  | false =>
    all_goals (
      try simp only [hb4, cond_true, cond_false, Option.bind_some, Option.bind_assoc, Bool.not_true, Bool.not_false, Bool.true_and, Bool.false_and, Bool.and_true, Bool.and_false, Bool.true_or, Bool.false_or] at hm
      cases hm
      refine ⟨⟨_, _⟩, by
          simp only [bodyOf, Tryz.f45, Cat, Bool.false_eq_true, e_seq, e_region, e_cond, e_block, ex_skip, ex_exit, ex_ret, o_cons, xops_nil, k_want_none, k_want_false, k_val, k_pan, k_call, k_ret, k_seq, k_seq_exit, k_seq_ret, k_true, k_false, k_block, k_block_exit, k_block_ret, k_loop, k_loop_exit, k_loop_ret, awanted, aoper, evalO, put, Option.getD_some, List.getElem?_set, acallOp, abuiltin, List.map_cons, List.map_nil, Nat.reduceEqDiff, Nat.reduceLT, List.length_set, Option.map_some, Option.bind_some, Option.bind_eq_bind, add_i, sub_i, mul_i, eql_i, neq_i, lss_i, leq_i, gtr_i, geq_i, ofV, ofCell, ↓reduceIte, List.cons_append, List.nil_append, List.append_nil, List.getElem?_toArray, List.getElem?_cons_succ, List.getElem?_cons_zero, e_draw, g_nil, g_cons, g_want, g_skip, g_val, g_call, g_ret, Option.map_none, hl, a1, a2, a3, CP, bq1, bq2, bq3, bq4, ex_tup, Ty.fa32_1, dropCells, List.drop_succ_cons, List.drop_zero, Ty.ld3, ld_ip, ofc1, List.drop_succ_cons, List.drop_zero, hb4]
          exact rfl, ?_⟩
      show P45_1 _ _
      exact ⟨by simp [hl], by simp [hl, hb4]⟩)
theorem R45_1 (pe : Nat → Fr45 → ASt → Prop) (pr : Fr45 → ASt → Prop) : Ref Cl P45_2 (Cat [false] (bodyOf Tryz.f45)) m45_1 (post P45_0 pe pr) := by
  rintro s ⟨t, h⟩ hp x s' hm
  have hp : P45_2' s t h := hp
  obtain ⟨hl, a0, a1, a2⟩ := hp
  unfold m45_1 at hm
  cases hm
  refine ⟨⟨_, _⟩, by
      simp only [bodyOf, Tryz.f45, Cat, Bool.false_eq_true, e_seq, e_region, e_cond, e_block, ex_skip, ex_exit, ex_ret, o_cons, xops_nil, k_want_none, k_want_false, k_val, k_pan, k_call, k_ret, k_seq, k_seq_exit, k_seq_ret, k_true, k_false, k_block, k_block_exit, k_block_ret, k_loop, k_loop_exit, k_loop_ret, awanted, aoper, evalO, put, Option.getD_some, List.getElem?_set, acallOp, abuiltin, List.map_cons, List.map_nil, Nat.reduceEqDiff, Nat.reduceLT, List.length_set, Option.map_some, Option.bind_some, Option.bind_eq_bind, add_i, sub_i, mul_i, eql_i, neq_i, lss_i, leq_i, gtr_i, geq_i, ofV, ofCell, ↓reduceIte, List.cons_append, List.nil_append, List.append_nil, List.getElem?_toArray, List.getElem?_cons_succ, List.getElem?_cons_zero, e_draw, g_nil, g_cons, g_want, g_skip, g_val, g_call, g_ret, Option.map_none, hl, a0, a1, a2, CP, bq1, bq2, bq3, bq4, ex_tup, Ty.cb_parse_go_148, Ty.cb_parse_go_143, Ty.cb_parse_go_130, Ty.cb_plan_go_27, Ty.cb_plan_go_29, Ty.cb_plan_go_31, Ty.cb_plan_go_41, Ty.cb_cube_go_25, Ty.cb_law_go_47, bx_a, cl_a, bx_i, bx_b, bx_s, cl_i, cl_b, cl_s, List.all_cons, List.all_nil, Bool.and_self, Bool.and_true, c_i, c_b, c_s, c_nl, c_np, c_ip, c_ls]
      exact rfl, ?_⟩
  show P45_0 _ _
  exact ⟨by simp [hl], by simp [a1], by simp [a2], by simp [hl]⟩
theorem B45 : Ref Cl P45_2 (bodyOf Tryz.f45) (M45) (post P45_1 (fun _ _ _ => False) P45_1) := by
  rw [show bodyOf Tryz.f45 = .seq (Cat [false] (bodyOf Tryz.f45)) (.seq (Cat [true, false] (bodyOf Tryz.f45)) (.ret)) from rfl]
  unfold M45
  exact ref_seq (M := P45_0) (R45_1 _ _) (ref_seq (M := P45_1) (R45_0 _ _) (ref_ret (fun s st hp => hp)))
noncomputable def G45 (x0 : ViewInfo) (x1 : Int) (x2 : Int) : Option Bool := match M45 { (default : Fr45) with t0 := x0, t1 := x1, t2 := x2 } with
  | some (.nrm, s) => some s.t4
  | some (.ret, s) => some s.t4
  | _ => none
theorem G45_spec : Spec45 (G45) := by
  intro x0 x1 x2 r hr
  unfold G45 at hr
  cases hm : M45 { (default : Fr45) with t0 := x0, t1 := x1, t2 := x2 } with
  | none => rw [hm] at hr; cases hr
  | some q =>
    obtain ⟨x, s⟩ := q
    rw [hm] at hr
    have hx : x = .nrm ∨ x = .ret := by cases x <;> first | exact .inl rfl | exact .inr rfl | cases hr
    have hr : s.t4 = r := by cases x <;> first | exact Option.some.inj hr | cases hr
    subst hr
    have hp0 : P45_2' ({ (default : Fr45) with t0 := x0, t1 := x1, t2 := x2 }) (slots Tryz.f45 (stripL [.agg [.int .i64 x0.Set, .int .i64 x0.State, .int .i64 x0.Seq, .int .i64 x0.Rows, .int .i64 x0.Bytes, .int .i64 x0.Readers], .iptr [.int .i64 x1], .iptr [.int .i64 x2]])) bare := ⟨rfl, rfl, rfl, rfl⟩
    obtain ⟨v, hR, hrun⟩ := run_of_ref (C := Cl) (f := 45) (fn := Tryz.f45) Tryz.func45 rfl rfl rfl rfl (args := [.agg [.int .i64 x0.Set, .int .i64 x0.State, .int .i64 x0.Seq, .int .i64 x0.Rows, .int .i64 x0.Bytes, .int .i64 x0.Readers], .iptr [.int .i64 x1], .iptr [.int .i64 x2]]) (by simp only [refsL, refs, List.append_nil]) (B45) (s0 := { (default : Fr45) with t0 := x0, t1 := x1, t2 := x2 }) hp0 hm hx (R := fun v => v = .bool s.t4) (by
      have key : ∀ st : ASt, P45_1 s st → ∃ vs v, aresults Cl Tryz.f45.results.toList st = some vs ∧ Nrm [] st.h (packRes vs) v ∧ (fun v => v = .bool s.t4) v := by
        intro st hp
        obtain ⟨hl, a4⟩ := (hp : P45_1' s st.tmps st.h)
        exact ⟨[.bool s.t4], _, by simp only [show Tryz.f45.results.toList = [ResultVar.tmp 4] from rfl, aresults, ares1, CP, a4, Option.getD_some], (Nrm.of (w := .bool s.t4) (by simp only [refsL, refs, List.append_nil])), rfl⟩
      intro st hq
      rcases hx with rfl | rfl
      · exact key st hq
      · exact key st hq)
    subst hR
    exact hrun
/-! ### caisson/plan.choose$2 -/
structure Fr46 where
  t0 : ViewInfo
  t1 : ViewInfo
  t2 : ViewInfo
  t3 : ViewInfo
  t4 : Int
instance : Inhabited Fr46 := ⟨⟨default, default, default, default, 0⟩⟩
def P46_0' (s : Fr46) (t : List AVal) (h : AHeap) : Prop := t.length = 19 ∧ t[2]? = some (.iptr [.int .i64 s.t2.Set, .int .i64 s.t2.State, .int .i64 s.t2.Seq, .int .i64 s.t2.Rows, .int .i64 s.t2.Bytes, .int .i64 s.t2.Readers]) ∧ t[3]? = some (.iptr [.int .i64 s.t3.Set, .int .i64 s.t3.State, .int .i64 s.t3.Seq, .int .i64 s.t3.Rows, .int .i64 s.t3.Bytes, .int .i64 s.t3.Readers])
def P46_0 (s : Fr46) (st : ASt) : Prop := P46_0' s st.tmps st.h
def P46_1' (s : Fr46) (t : List AVal) (h : AHeap) : Prop := t.length = 19 ∧ t[4]? = some (.int .i64 s.t4)
def P46_1 (s : Fr46) (st : ASt) : Prop := P46_1' s st.tmps st.h
def P46_2' (s : Fr46) (t : List AVal) (h : AHeap) : Prop := t.length = 19 ∧ t[0]? = some (.agg [.int .i64 s.t0.Set, .int .i64 s.t0.State, .int .i64 s.t0.Seq, .int .i64 s.t0.Rows, .int .i64 s.t0.Bytes, .int .i64 s.t0.Readers]) ∧ t[1]? = some (.agg [.int .i64 s.t1.Set, .int .i64 s.t1.State, .int .i64 s.t1.Seq, .int .i64 s.t1.Rows, .int .i64 s.t1.Bytes, .int .i64 s.t1.Readers])
def P46_2 (s : Fr46) (st : ASt) : Prop := P46_2' s st.tmps st.h
noncomputable def m46_0 : Mo Fr46 := fun s => (G48 (if 0 > s.t2.Rows then 0 else s.t2.Rows) (if 0 > s.t3.Rows then 0 else s.t3.Rows)).bind fun z1 => (G48 s.t2.Set s.t3.Set).bind fun z3 => (G47 [z1, z3]).bind fun z9 => some (.nrm, { s with t4 := z9 })
noncomputable def m46_1 : Mo Fr46 := fun s => some (.nrm, { s with t2 := s.t0, t3 := s.t1 })
noncomputable def M46 : Mo Fr46 := seqM (m46_1) (seqM (m46_0) (retM))
def Spec46 (f : ViewInfo → ViewInfo → Option Int) : Prop := ∀ (x0 : ViewInfo) (x1 : ViewInfo) (r : Int), f x0 x1 = some r → ∀ h, run Cl 46 [.agg [.int .i64 x0.Set, .int .i64 x0.State, .int .i64 x0.Seq, .int .i64 x0.Rows, .int .i64 x0.Bytes, .int .i64 x0.Readers], .agg [.int .i64 x1.Set, .int .i64 x1.State, .int .i64 x1.Seq, .int .i64 x1.Rows, .int .i64 x1.Bytes, .int .i64 x1.Readers]] h = some (.ret (.int .i64 r), h)
theorem Spec46_of {f g : ViewInfo → ViewInfo → Option Int} (hg : Spec46 g) (h : ∀ x0 x1 r, f x0 x1 = some r → g x0 x1 = some r) : Spec46 f := fun x0 x1 r hr => hg x0 x1 r (h x0 x1 r hr)
theorem R46_0 (pe : Nat → Fr46 → ASt → Prop) (pr : Fr46 → ASt → Prop) : Ref Cl P46_0 (Cat [true, false] (bodyOf Tryz.f46)) m46_0 (post P46_1 pe pr) := by
  rintro s ⟨t, h⟩ hp x s' hm
  have hp : P46_0' s t h := hp
  obtain ⟨hl, a2, a3⟩ := hp
  unfold m46_0 at hm
  obtain ⟨z11, hz11, hm⟩ := Option.bind_eq_some_iff.1 hm
  have iu12 := G48_spec (if 0 > s.t2.Rows then 0 else s.t2.Rows) (if 0 > s.t3.Rows then 0 else s.t3.Rows)  _ hz11
  obtain ⟨z13, hz13, hm⟩ := Option.bind_eq_some_iff.1 hm
  have iu14 := G48_spec s.t2.Set s.t3.Set  _ hz13
  have bd15 : abuildSlice Tryz.prog 25 2 [(0, .int .i64 z11), (1, .int .i64 z13)] = some ([.int .i64 z11, .int .i64 z13], 1) := by kernel_rfl
  have bs16 : Els (rI .i64) [z11, z13] [[.int .i64 z11], [.int .i64 z13]] := (Els.cons rfl (Els.cons rfl Els.nil))
  have sl17 : Sl (rI .i64) [z11, z13] (.lst [.int .i64 z11, .int .i64 z13] 2 .full) := Sl.lst .full bs16
  have gr18 : ∀ h, Gr (rI .i64) 1 [z11, z13] (.lst [.int .i64 z11, .int .i64 z13] 2 .full) h := fun h => Gr.full bs16 h
  obtain ⟨z19, hz19, hm⟩ := Option.bind_eq_some_iff.1 hm
  have iu20 := G47_spec [z11, z13] _ sl17 _ hz19
  have apu20 : apure Cl 47 [.lst [.int .i64 z11, .int .i64 z13] 2 .full] = true := apure_of rfl rfl (refs_cons (sl17.refs (rI_p .i64)) rfl)
  cases hm
  refine ⟨⟨_, _⟩, by
      simp only [bodyOf, Tryz.f46, Cat, Bool.false_eq_true, e_seq, e_region, e_cond, e_block, ex_skip, ex_exit, ex_ret, o_cons, xops_nil, k_want_none, k_want_false, k_val, k_pan, k_call, k_ret, k_seq, k_seq_exit, k_seq_ret, k_true, k_false, k_block, k_block_exit, k_block_ret, k_loop, k_loop_exit, k_loop_ret, awanted, aoper, evalO, put, Option.getD_some, List.getElem?_set, acallOp, abuiltin, List.map_cons, List.map_nil, Nat.reduceEqDiff, Nat.reduceLT, List.length_set, Option.map_some, Option.bind_some, Option.bind_eq_bind, add_i, sub_i, mul_i, eql_i, neq_i, lss_i, leq_i, gtr_i, geq_i, ofV, ofCell, ↓reduceIte, List.cons_append, List.nil_append, List.append_nil, List.getElem?_toArray, List.getElem?_cons_succ, List.getElem?_cons_zero, e_draw, g_nil, g_cons, g_want, g_skip, g_val, g_call, g_ret, Option.map_none, hl, a2, a3, CP, bq1, bq2, bq3, bq4, ex_tup, Ty.fa32_3, dropCells, List.drop_succ_cons, List.drop_zero, Ty.ld3, ld_ip, ofc1, List.drop_succ_cons, List.drop_zero, max_ii, iu12, Ty.fa32_0, iu14, bd15, Ty.own_plan_go_32, iu20, apu20, if_true]
      rw [k_draw _ _ _ (by kernel_rfl)]
      exact rfl, ?_⟩
  show P46_1 _ _
  exact ⟨by simp [hl], by simp [hl]⟩
theorem R46_1 (pe : Nat → Fr46 → ASt → Prop) (pr : Fr46 → ASt → Prop) : Ref Cl P46_2 (Cat [false] (bodyOf Tryz.f46)) m46_1 (post P46_0 pe pr) := by
  rintro s ⟨t, h⟩ hp x s' hm
  have hp : P46_2' s t h := hp
  obtain ⟨hl, a0, a1⟩ := hp
  unfold m46_1 at hm
  cases hm
  refine ⟨⟨_, _⟩, by
      simp only [bodyOf, Tryz.f46, Cat, Bool.false_eq_true, e_seq, e_region, e_cond, e_block, ex_skip, ex_exit, ex_ret, o_cons, xops_nil, k_want_none, k_want_false, k_val, k_pan, k_call, k_ret, k_seq, k_seq_exit, k_seq_ret, k_true, k_false, k_block, k_block_exit, k_block_ret, k_loop, k_loop_exit, k_loop_ret, awanted, aoper, evalO, put, Option.getD_some, List.getElem?_set, acallOp, abuiltin, List.map_cons, List.map_nil, Nat.reduceEqDiff, Nat.reduceLT, List.length_set, Option.map_some, Option.bind_some, Option.bind_eq_bind, add_i, sub_i, mul_i, eql_i, neq_i, lss_i, leq_i, gtr_i, geq_i, ofV, ofCell, ↓reduceIte, List.cons_append, List.nil_append, List.append_nil, List.getElem?_toArray, List.getElem?_cons_succ, List.getElem?_cons_zero, e_draw, g_nil, g_cons, g_want, g_skip, g_val, g_call, g_ret, Option.map_none, hl, a0, a1, CP, bq1, bq2, bq3, bq4, ex_tup, Ty.cb_parse_go_148, Ty.cb_parse_go_143, Ty.cb_parse_go_130, Ty.cb_plan_go_27, Ty.cb_plan_go_29, Ty.cb_plan_go_31, Ty.cb_plan_go_41, Ty.cb_cube_go_25, Ty.cb_law_go_47, bx_a, cl_a, bx_i, bx_b, bx_s, cl_i, cl_b, cl_s, List.all_cons, List.all_nil, Bool.and_self, Bool.and_true, c_i, c_b, c_s, c_nl, c_np, c_ip, c_ls]
      exact rfl, ?_⟩
  show P46_0 _ _
  exact ⟨by simp [hl], by simp [hl], by simp [hl]⟩
theorem B46 : Ref Cl P46_2 (bodyOf Tryz.f46) (M46) (post P46_1 (fun _ _ _ => False) P46_1) := by
  rw [show bodyOf Tryz.f46 = .seq (Cat [false] (bodyOf Tryz.f46)) (.seq (Cat [true, false] (bodyOf Tryz.f46)) (.ret)) from rfl]
  unfold M46
  exact ref_seq (M := P46_0) (R46_1 _ _) (ref_seq (M := P46_1) (R46_0 _ _) (ref_ret (fun s st hp => hp)))
noncomputable def G46 (x0 : ViewInfo) (x1 : ViewInfo) : Option Int := match M46 { (default : Fr46) with t0 := x0, t1 := x1 } with
  | some (.nrm, s) => some s.t4
  | some (.ret, s) => some s.t4
  | _ => none
theorem G46_spec : Spec46 (G46) := by
  intro x0 x1 r hr
  unfold G46 at hr
  cases hm : M46 { (default : Fr46) with t0 := x0, t1 := x1 } with
  | none => rw [hm] at hr; cases hr
  | some q =>
    obtain ⟨x, s⟩ := q
    rw [hm] at hr
    have hx : x = .nrm ∨ x = .ret := by cases x <;> first | exact .inl rfl | exact .inr rfl | cases hr
    have hr : s.t4 = r := by cases x <;> first | exact Option.some.inj hr | cases hr
    subst hr
    have hp0 : P46_2' ({ (default : Fr46) with t0 := x0, t1 := x1 }) (slots Tryz.f46 (stripL [.agg [.int .i64 x0.Set, .int .i64 x0.State, .int .i64 x0.Seq, .int .i64 x0.Rows, .int .i64 x0.Bytes, .int .i64 x0.Readers], .agg [.int .i64 x1.Set, .int .i64 x1.State, .int .i64 x1.Seq, .int .i64 x1.Rows, .int .i64 x1.Bytes, .int .i64 x1.Readers]])) bare := ⟨rfl, rfl, rfl⟩
    obtain ⟨v, hR, hrun⟩ := run_of_ref (C := Cl) (f := 46) (fn := Tryz.f46) Tryz.func46 rfl rfl rfl rfl (args := [.agg [.int .i64 x0.Set, .int .i64 x0.State, .int .i64 x0.Seq, .int .i64 x0.Rows, .int .i64 x0.Bytes, .int .i64 x0.Readers], .agg [.int .i64 x1.Set, .int .i64 x1.State, .int .i64 x1.Seq, .int .i64 x1.Rows, .int .i64 x1.Bytes, .int .i64 x1.Readers]]) (by simp only [refsL, refs, List.append_nil]) (B46) (s0 := { (default : Fr46) with t0 := x0, t1 := x1 }) hp0 hm hx (R := fun v => v = .int .i64 s.t4) (by
      have key : ∀ st : ASt, P46_1 s st → ∃ vs v, aresults Cl Tryz.f46.results.toList st = some vs ∧ Nrm [] st.h (packRes vs) v ∧ (fun v => v = .int .i64 s.t4) v := by
        intro st hp
        obtain ⟨hl, a4⟩ := (hp : P46_1' s st.tmps st.h)
        exact ⟨[.int .i64 s.t4], _, by simp only [show Tryz.f46.results.toList = [ResultVar.tmp 4] from rfl, aresults, ares1, CP, a4, Option.getD_some], (Nrm.of (w := .int .i64 s.t4) (by simp only [refsL, refs, List.append_nil])), rfl⟩
      intro st hq
      rcases hx with rfl | rfl
      · exact key st hq
      · exact key st hq)
    subst hR
    exact hrun
/-! ### caisson/plan.least[caisson/api.ViewInfo] -/
structure Fr44 where
  t0 : (List ViewInfo)
  t1 : (ViewInfo → Option Bool)
  t2 : (ViewInfo → ViewInfo → Option Int)
  t6 : ViewInfo
  t7 : Bool
  t8 : ViewInfo
  t9 : Bool
  t11 : ViewInfo
  t12 : (List ViewInfo)
  t13 : Int
  t14 : Int
  t15 : Bool
  t31 : Bool
instance : Inhabited Fr44 := ⟨⟨[], (fun _ => none), (fun _ _ => none), default, false, default, false, default, [], 0, 0, false, false⟩⟩
def P44_0' (s : Fr44) (t : List AVal) (h : AHeap) : Prop := ∃ i6 i8, t.length = 36 ∧ t[6]? = some (.ptr i6 0) ∧ h.get i6 = some (.arr [.int .i64 s.t6.Set, .int .i64 s.t6.State, .int .i64 s.t6.Seq, .int .i64 s.t6.Rows, .int .i64 s.t6.Bytes, .int .i64 s.t6.Readers]) ∧ i6 < h.next ∧ t[8]? = some (.ptr i8 0) ∧ h.get i8 = some (.arr [.int .i64 s.t8.Set, .int .i64 s.t8.State, .int .i64 s.t8.Seq, .int .i64 s.t8.Rows, .int .i64 s.t8.Bytes, .int .i64 s.t8.Readers]) ∧ i8 < h.next ∧ t[9]? = some (.bool s.t9) ∧ i6 ≠ i8
def P44_0 (s : Fr44) (st : ASt) : Prop := P44_0' s st.tmps st.h
def P44_1' (s : Fr44) (t : List AVal) (h : AHeap) : Prop := ∃ i6, t.length = 36 ∧ t[6]? = some (.ptr i6 0) ∧ h.get i6 = some (.arr [.int .i64 s.t6.Set, .int .i64 s.t6.State, .int .i64 s.t6.Seq, .int .i64 s.t6.Rows, .int .i64 s.t6.Bytes, .int .i64 s.t6.Readers]) ∧ i6 < h.next ∧ t[7]? = some (.bool s.t7)
def P44_1 (s : Fr44) (st : ASt) : Prop := P44_1' s st.tmps st.h
def P44_2' (s : Fr44) (t : List AVal) (h : AHeap) : Prop := ∃ w1_0 w2_0 i6 i8 w12_0, t.length = 36 ∧ t[1]? = some w1_0 ∧ rFn0 s.t1 w1_0 ∧ t[2]? = some w2_0 ∧ rFn1 s.t2 w2_0 ∧ t[6]? = some (.ptr i6 0) ∧ h.get i6 = some (.arr [.int .i64 s.t6.Set, .int .i64 s.t6.State, .int .i64 s.t6.Seq, .int .i64 s.t6.Rows, .int .i64 s.t6.Bytes, .int .i64 s.t6.Readers]) ∧ i6 < h.next ∧ t[8]? = some (.ptr i8 0) ∧ h.get i8 = some (.arr [.int .i64 s.t8.Set, .int .i64 s.t8.State, .int .i64 s.t8.Seq, .int .i64 s.t8.Rows, .int .i64 s.t8.Bytes, .int .i64 s.t8.Readers]) ∧ i8 < h.next ∧ t[9]? = some (.bool s.t9) ∧ t[12]? = some w12_0 ∧ Sl rViewInfo s.t12 w12_0 ∧ t[13]? = some (.int .i64 s.t13) ∧ t[14]? = some (.int .i64 s.t14) ∧ i6 ≠ i8
def P44_2 (s : Fr44) (st : ASt) : Prop := P44_2' s st.tmps st.h
def P44_3' (s : Fr44) (t : List AVal) (h : AHeap) : Prop := ∃ w1_0 w2_0 i6 i8 i11 w12_0, t.length = 36 ∧ t[1]? = some w1_0 ∧ rFn0 s.t1 w1_0 ∧ t[2]? = some w2_0 ∧ rFn1 s.t2 w2_0 ∧ t[6]? = some (.ptr i6 0) ∧ h.get i6 = some (.arr [.int .i64 s.t6.Set, .int .i64 s.t6.State, .int .i64 s.t6.Seq, .int .i64 s.t6.Rows, .int .i64 s.t6.Bytes, .int .i64 s.t6.Readers]) ∧ i6 < h.next ∧ t[8]? = some (.ptr i8 0) ∧ h.get i8 = some (.arr [.int .i64 s.t8.Set, .int .i64 s.t8.State, .int .i64 s.t8.Seq, .int .i64 s.t8.Rows, .int .i64 s.t8.Bytes, .int .i64 s.t8.Readers]) ∧ i8 < h.next ∧ t[11]? = some (.ptr i11 0) ∧ h.get i11 = some (.arr [.int .i64 s.t11.Set, .int .i64 s.t11.State, .int .i64 s.t11.Seq, .int .i64 s.t11.Rows, .int .i64 s.t11.Bytes, .int .i64 s.t11.Readers]) ∧ i11 < h.next ∧ t[12]? = some w12_0 ∧ Sl rViewInfo s.t12 w12_0 ∧ t[13]? = some (.int .i64 s.t13) ∧ t[14]? = some (.int .i64 s.t14) ∧ i6 ≠ i8 ∧ i6 ≠ i11 ∧ i8 ≠ i11
def P44_3 (s : Fr44) (st : ASt) : Prop := P44_3' s st.tmps st.h
def P44_4' (s : Fr44) (t : List AVal) (h : AHeap) : Prop := ∃ w1_0 w2_0 i6 i8 i11 w12_0, t.length = 36 ∧ t[1]? = some w1_0 ∧ rFn0 s.t1 w1_0 ∧ t[2]? = some w2_0 ∧ rFn1 s.t2 w2_0 ∧ t[6]? = some (.ptr i6 0) ∧ h.get i6 = some (.arr [.int .i64 s.t6.Set, .int .i64 s.t6.State, .int .i64 s.t6.Seq, .int .i64 s.t6.Rows, .int .i64 s.t6.Bytes, .int .i64 s.t6.Readers]) ∧ i6 < h.next ∧ t[8]? = some (.ptr i8 0) ∧ h.get i8 = some (.arr [.int .i64 s.t8.Set, .int .i64 s.t8.State, .int .i64 s.t8.Seq, .int .i64 s.t8.Rows, .int .i64 s.t8.Bytes, .int .i64 s.t8.Readers]) ∧ i8 < h.next ∧ t[9]? = some (.bool s.t9) ∧ t[11]? = some (.ptr i11 0) ∧ h.get i11 = some (.arr [.int .i64 s.t11.Set, .int .i64 s.t11.State, .int .i64 s.t11.Seq, .int .i64 s.t11.Rows, .int .i64 s.t11.Bytes, .int .i64 s.t11.Readers]) ∧ i11 < h.next ∧ t[12]? = some w12_0 ∧ Sl rViewInfo s.t12 w12_0 ∧ t[13]? = some (.int .i64 s.t13) ∧ t[14]? = some (.int .i64 s.t14) ∧ t[31]? = some (.bool s.t31) ∧ i6 ≠ i8 ∧ i6 ≠ i11 ∧ i8 ≠ i11
def P44_4 (s : Fr44) (st : ASt) : Prop := P44_4' s st.tmps st.h
def P44_5' (s : Fr44) (t : List AVal) (h : AHeap) : Prop := ∃ w1_0 w2_0 i6 i8 i11 w12_0, t.length = 36 ∧ t[1]? = some w1_0 ∧ rFn0 s.t1 w1_0 ∧ t[2]? = some w2_0 ∧ rFn1 s.t2 w2_0 ∧ t[6]? = some (.ptr i6 0) ∧ h.get i6 = some (.arr [.int .i64 s.t6.Set, .int .i64 s.t6.State, .int .i64 s.t6.Seq, .int .i64 s.t6.Rows, .int .i64 s.t6.Bytes, .int .i64 s.t6.Readers]) ∧ i6 < h.next ∧ t[8]? = some (.ptr i8 0) ∧ h.get i8 = some (.arr [.int .i64 s.t8.Set, .int .i64 s.t8.State, .int .i64 s.t8.Seq, .int .i64 s.t8.Rows, .int .i64 s.t8.Bytes, .int .i64 s.t8.Readers]) ∧ i8 < h.next ∧ t[9]? = some (.bool s.t9) ∧ t[11]? = some (.ptr i11 0) ∧ h.get i11 = some (.arr [.int .i64 s.t11.Set, .int .i64 s.t11.State, .int .i64 s.t11.Seq, .int .i64 s.t11.Rows, .int .i64 s.t11.Bytes, .int .i64 s.t11.Readers]) ∧ i11 < h.next ∧ t[12]? = some w12_0 ∧ Sl rViewInfo s.t12 w12_0 ∧ t[13]? = some (.int .i64 s.t13) ∧ t[14]? = some (.int .i64 s.t14) ∧ i6 ≠ i8 ∧ i6 ≠ i11 ∧ i8 ≠ i11
def P44_5 (s : Fr44) (st : ASt) : Prop := P44_5' s st.tmps st.h
def P44_6' (s : Fr44) (t : List AVal) (h : AHeap) : Prop := ∃ w1_0 w2_0 i6 i8 w12_0, t.length = 36 ∧ t[1]? = some w1_0 ∧ rFn0 s.t1 w1_0 ∧ t[2]? = some w2_0 ∧ rFn1 s.t2 w2_0 ∧ t[6]? = some (.ptr i6 0) ∧ h.get i6 = some (.arr [.int .i64 s.t6.Set, .int .i64 s.t6.State, .int .i64 s.t6.Seq, .int .i64 s.t6.Rows, .int .i64 s.t6.Bytes, .int .i64 s.t6.Readers]) ∧ i6 < h.next ∧ t[8]? = some (.ptr i8 0) ∧ h.get i8 = some (.arr [.int .i64 s.t8.Set, .int .i64 s.t8.State, .int .i64 s.t8.Seq, .int .i64 s.t8.Rows, .int .i64 s.t8.Bytes, .int .i64 s.t8.Readers]) ∧ i8 < h.next ∧ t[9]? = some (.bool s.t9) ∧ t[12]? = some w12_0 ∧ Sl rViewInfo s.t12 w12_0 ∧ t[13]? = some (.int .i64 s.t13) ∧ t[14]? = some (.int .i64 s.t14) ∧ t[15]? = some (.bool s.t15) ∧ i6 ≠ i8
def P44_6 (s : Fr44) (st : ASt) : Prop := P44_6' s st.tmps st.h
def P44_7' (s : Fr44) (t : List AVal) (h : AHeap) : Prop := ∃ w0_0 w1_0 w2_0 i6 i8, t.length = 36 ∧ t[0]? = some w0_0 ∧ Sl rViewInfo s.t0 w0_0 ∧ t[1]? = some w1_0 ∧ rFn0 s.t1 w1_0 ∧ t[2]? = some w2_0 ∧ rFn1 s.t2 w2_0 ∧ t[6]? = some (.ptr i6 0) ∧ h.get i6 = some (.arr [.int .i64 s.t6.Set, .int .i64 s.t6.State, .int .i64 s.t6.Seq, .int .i64 s.t6.Rows, .int .i64 s.t6.Bytes, .int .i64 s.t6.Readers]) ∧ i6 < h.next ∧ t[8]? = some (.ptr i8 0) ∧ h.get i8 = some (.arr [.int .i64 s.t8.Set, .int .i64 s.t8.State, .int .i64 s.t8.Seq, .int .i64 s.t8.Rows, .int .i64 s.t8.Bytes, .int .i64 s.t8.Readers]) ∧ i8 < h.next ∧ t[9]? = some (.bool s.t9) ∧ i6 ≠ i8
def P44_7 (s : Fr44) (st : ASt) : Prop := P44_7' s st.tmps st.h
def P44_8' (s : Fr44) (t : List AVal) (h : AHeap) : Prop := ∃ w0_0 w1_0 w2_0 i6 i8, t.length = 36 ∧ t[0]? = some w0_0 ∧ Sl rViewInfo s.t0 w0_0 ∧ t[1]? = some w1_0 ∧ rFn0 s.t1 w1_0 ∧ t[2]? = some w2_0 ∧ rFn1 s.t2 w2_0 ∧ t[6]? = some (.ptr i6 0) ∧ h.get i6 = some (.arr [.int .i64 s.t6.Set, .int .i64 s.t6.State, .int .i64 s.t6.Seq, .int .i64 s.t6.Rows, .int .i64 s.t6.Bytes, .int .i64 s.t6.Readers]) ∧ i6 < h.next ∧ t[8]? = some (.ptr i8 0) ∧ h.get i8 = some (.arr [.int .i64 s.t8.Set, .int .i64 s.t8.State, .int .i64 s.t8.Seq, .int .i64 s.t8.Rows, .int .i64 s.t8.Bytes, .int .i64 s.t8.Readers]) ∧ i8 < h.next ∧ i6 ≠ i8
def P44_8 (s : Fr44) (st : ASt) : Prop := P44_8' s st.tmps st.h
def P44_9' (s : Fr44) (t : List AVal) (h : AHeap) : Prop := ∃ w0_0 w1_0 w2_0 i6, t.length = 36 ∧ t[0]? = some w0_0 ∧ Sl rViewInfo s.t0 w0_0 ∧ t[1]? = some w1_0 ∧ rFn0 s.t1 w1_0 ∧ t[2]? = some w2_0 ∧ rFn1 s.t2 w2_0 ∧ t[6]? = some (.ptr i6 0) ∧ h.get i6 = some (.arr [.int .i64 s.t6.Set, .int .i64 s.t6.State, .int .i64 s.t6.Seq, .int .i64 s.t6.Rows, .int .i64 s.t6.Bytes, .int .i64 s.t6.Readers]) ∧ i6 < h.next
def P44_9 (s : Fr44) (st : ASt) : Prop := P44_9' s st.tmps st.h
def P44_10' (s : Fr44) (t : List AVal) (h : AHeap) : Prop := ∃ w0_0 w1_0 w2_0, t.length = 36 ∧ t[0]? = some w0_0 ∧ Sl rViewInfo s.t0 w0_0 ∧ t[1]? = some w1_0 ∧ rFn0 s.t1 w1_0 ∧ t[2]? = some w2_0 ∧ rFn1 s.t2 w2_0
def P44_10 (s : Fr44) (st : ASt) : Prop := P44_10' s st.tmps st.h
noncomputable def m44_0 : Mo Fr44 := fun s => some (.nrm, { s with t6 := s.t8, t7 := s.t9 })
noncomputable def m44_1 : Mo Fr44 := fun s => some (.nrm, { s with t14 := IntKind.wrap .i64 (s.t14 + 1) })
noncomputable def m44_2 : Mo Fr44 := fun s => some (.nrm, { s with t8 := s.t11, t9 := true })
noncomputable def m44_3 : Mo Fr44 := fun s => (s.t1 s.t11).bind fun z34 => (cond z34 ((cond (!(!s.t9)) ((s.t2 s.t11 s.t8).bind fun z38 => some (decide (z38 < 0))) (some false)).bind fun x40 => some ((!s.t9) || x40)) (some false)).bind fun x41 => some (.nrm, { s with t31 := (z34 && x41) })
noncomputable def m44_4 : Mo Fr44 := fun s => (at? s.t12 s.t14).bind fun y51 => some (.nrm, { s with t11 := y51 })
noncomputable def m44_5 : Mo Fr44 := fun s => some (.nrm, { s with t15 := decide (s.t14 < s.t13) })
noncomputable def L44_6 : Mo Fr44 := seqM (m44_5) (seqM (condM (fun s => s.t15) (skipM) (exitM 0)) (seqM (blockM 1 (seqM (m44_4) (seqM (m44_3) (condM (fun s => s.t31) (m44_2) (skipM))))) (m44_1)))
noncomputable def m44_7 : Mo Fr44 := fun s => some (.nrm, { s with t12 := s.t0, t13 := (s.t0.length : Int), t14 := 0 })
noncomputable def m44_8 : Mo Fr44 := fun s => some (.nrm, { s with t9 := false })
noncomputable def m44_9 : Mo Fr44 := fun s => some (.nrm, { s with t8 := { Set := 0, State := 0, Seq := 0, Rows := 0, Bytes := 0, Readers := 0 } })
noncomputable def m44_10 : Mo Fr44 := fun s => some (.nrm, { s with t6 := { Set := 0, State := 0, Seq := 0, Rows := 0, Bytes := 0, Readers := 0 } })
noncomputable def M44 : Mo Fr44 := seqM (m44_10) (seqM (m44_9) (seqM (m44_8) (seqM (seqM (m44_7) (blockM 0 (loopM (L44_6)))) (seqM (m44_0) (retM)))))
def Spec44 (f : (List ViewInfo) → (ViewInfo → Option Bool) → (ViewInfo → ViewInfo → Option Int) → Option (ViewInfo × Bool)) : Prop := ∀ (x0 : (List ViewInfo)) (x1 : (ViewInfo → Option Bool)) (x2 : (ViewInfo → ViewInfo → Option Int)) (vx0_0 : AVal) (_ : Sl rViewInfo x0 vx0_0) (vx1_0 : AVal) (_ : rFn0 x1 vx1_0) (vx2_0 : AVal) (_ : rFn1 x2 vx2_0) (r : (ViewInfo × Bool)), f x0 x1 x2 = some r → ∀ h, run Cl 44 [vx0_0, vx1_0, vx2_0] h = some (.ret (.tup [.agg [.int .i64 r.1.Set, .int .i64 r.1.State, .int .i64 r.1.Seq, .int .i64 r.1.Rows, .int .i64 r.1.Bytes, .int .i64 r.1.Readers], .bool r.2]), h)
theorem Spec44_of {f g : (List ViewInfo) → (ViewInfo → Option Bool) → (ViewInfo → ViewInfo → Option Int) → Option (ViewInfo × Bool)} (hg : Spec44 g) (h : ∀ x0 x1 x2 r, f x0 x1 x2 = some r → g x0 x1 x2 = some r) : Spec44 f := fun x0 x1 x2 v0_ w0_ v1_ w1_ v2_ w2_ r hr => hg x0 x1 x2 v0_ w0_ v1_ w1_ v2_ w2_ r (h x0 x1 x2 r hr)
theorem R44_0 (pe : Nat → Fr44 → ASt → Prop) (pr : Fr44 → ASt → Prop) : Ref Cl P44_0 (Cat [true, true, true, true, false] (bodyOf Tryz.f44)) m44_0 (post P44_1 pe pr) := by
  rintro s ⟨t, h⟩ hp x s' hm
  have hp : P44_0' s t h := hp
  obtain ⟨i6, i8, hl, a6, g6, l6, a8, g8, l8, a9, ne6_8⟩ := hp
  unfold m44_0 at hm
  have k8 : loadA h true 6 (.ptr i8 0) = some (.agg [.int .i64 s.t8.Set, .int .i64 s.t8.State, .int .i64 s.t8.Seq, .int .i64 s.t8.Rows, .int .i64 s.t8.Bytes, .int .i64 s.t8.Readers]) := by rw [Heap.load_gen g8 (Nat.le_of_ble_eq_true rfl)]; first | rfl | exact ofc6 _ _ _ _ _ _ _
  obtain ⟨H9, eH9⟩ : ∃ x : AHeap, x = h.set i6 (some (.arr [.int .i64 s.t8.Set, .int .i64 s.t8.State, .int .i64 s.t8.Seq, .int .i64 s.t8.Rows, .int .i64 s.t8.Bytes, .int .i64 s.t8.Readers])) := ⟨_, rfl⟩
  have k10 : storeA h 6 (.ptr i6 0) (.agg [.int .i64 s.t8.Set, .int .i64 s.t8.State, .int .i64 s.t8.Seq, .int .i64 s.t8.Rows, .int .i64 s.t8.Bytes, .int .i64 s.t8.Readers]) = some H9 := by rw [eH9]; exact Heap.store_gen g6 (show (.agg [.int .i64 s.t8.Set, .int .i64 s.t8.State, .int .i64 s.t8.Seq, .int .i64 s.t8.Rows, .int .i64 s.t8.Bytes, .int .i64 s.t8.Readers] : AVal).cells = [.int .i64 s.t8.Set, .int .i64 s.t8.State, .int .i64 s.t8.Seq, .int .i64 s.t8.Rows, .int .i64 s.t8.Bytes, .int .i64 s.t8.Readers] by simp only [cl_i, cl_b, cl_s, cl_a, cl_nl, cl_np, cl_ip, cl_ls]) rfl (by simp only [List.all_cons, List.all_nil, Bool.and_self, Bool.and_true, c_i, c_b, c_s, c_nl, c_np, c_ip, c_ls]) (Nat.le_of_ble_eq_true rfl) rfl
  have k11 : H9.get i8 = some (.arr [.int .i64 s.t8.Set, .int .i64 s.t8.State, .int .i64 s.t8.Seq, .int .i64 s.t8.Rows, .int .i64 s.t8.Bytes, .int .i64 s.t8.Readers]) := by rw [eH9, Heap.get_set_ne (Ne.symm ne6_8)]; exact g8
  have k12 : i8 < H9.next := by rw [eH9]; exact l8
  have k13 : H9.get i6 = some (.arr [.int .i64 s.t8.Set, .int .i64 s.t8.State, .int .i64 s.t8.Seq, .int .i64 s.t8.Rows, .int .i64 s.t8.Bytes, .int .i64 s.t8.Readers]) := by rw [eH9]; exact Heap.get_set_eq
  have k14 : i6 < H9.next := by rw [eH9]; exact l6
  cases hm
  refine ⟨⟨_, _⟩, by
      simp only [bodyOf, Tryz.f44, Cat, Bool.false_eq_true, e_seq, e_region, e_cond, e_block, ex_skip, ex_exit, ex_ret, o_cons, xops_nil, k_want_none, k_want_false, k_val, k_pan, k_call, k_ret, k_seq, k_seq_exit, k_seq_ret, k_true, k_false, k_block, k_block_exit, k_block_ret, k_loop, k_loop_exit, k_loop_ret, awanted, aoper, evalO, put, Option.getD_some, List.getElem?_set, acallOp, abuiltin, List.map_cons, List.map_nil, Nat.reduceEqDiff, Nat.reduceLT, List.length_set, Option.map_some, Option.bind_some, Option.bind_eq_bind, add_i, sub_i, mul_i, eql_i, neq_i, lss_i, leq_i, gtr_i, geq_i, ofV, ofCell, ↓reduceIte, List.cons_append, List.nil_append, List.append_nil, List.getElem?_toArray, List.getElem?_cons_succ, List.getElem?_cons_zero, e_draw, g_nil, g_cons, g_want, g_skip, g_val, g_call, g_ret, Option.map_none, hl, a6, a8, a9, CP, bq1, bq2, bq3, bq4, ex_tup, k8, Ty.ld32, k10, Ty.st32]
      exact rfl, ?_⟩
  show P44_1 _ _
  exact ⟨i6, by simp [hl], by simp [a6], k13, k14, by simp [hl]⟩
theorem R44_1 (pe : Nat → Fr44 → ASt → Prop) (pr : Fr44 → ASt → Prop) : Ref Cl P44_2 (Cat [true, true, true, false, true, true, true, true, true, true] (bodyOf Tryz.f44)) m44_1 (post P44_2 pe pr) := by
  rintro s ⟨t, h⟩ hp x s' hm
  have hp : P44_2' s t h := hp
  obtain ⟨w1_0, w2_0, i6, i8, w12_0, hl, a1, r1_0, a2, r2_0, a6, g6, l6, a8, g8, l8, a9, a12, r12_0, a13, a14, ne6_8⟩ := hp
  unfold m44_1 at hm
  cases hm
  refine ⟨⟨_, _⟩, by
      simp only [bodyOf, Tryz.f44, Cat, Bool.false_eq_true, e_seq, e_region, e_cond, e_block, ex_skip, ex_exit, ex_ret, o_cons, xops_nil, k_want_none, k_want_false, k_val, k_pan, k_call, k_ret, k_seq, k_seq_exit, k_seq_ret, k_true, k_false, k_block, k_block_exit, k_block_ret, k_loop, k_loop_exit, k_loop_ret, awanted, aoper, evalO, put, Option.getD_some, List.getElem?_set, acallOp, abuiltin, List.map_cons, List.map_nil, Nat.reduceEqDiff, Nat.reduceLT, List.length_set, Option.map_some, Option.bind_some, Option.bind_eq_bind, add_i, sub_i, mul_i, eql_i, neq_i, lss_i, leq_i, gtr_i, geq_i, ofV, ofCell, ↓reduceIte, List.cons_append, List.nil_append, List.append_nil, List.getElem?_toArray, List.getElem?_cons_succ, List.getElem?_cons_zero, e_draw, g_nil, g_cons, g_want, g_skip, g_val, g_call, g_ret, Option.map_none, hl, a1, a2, a6, a8, a9, a12, a13, a14, CP, bq1, bq2, bq3, bq4, ex_tup]
      exact rfl, ?_⟩
  show P44_2 _ _
  exact ⟨w1_0, w2_0, i6, i8, w12_0, by simp [hl], by simp [a1], r1_0, by simp [a2], r2_0, by simp [a6], g6, l6, by simp [a8], g8, l8, by simp [a9], by simp [a12], r12_0, by simp [a13], by simp [hl], ne6_8⟩
theorem R44_2 (pe : Nat → Fr44 → ASt → Prop) (pr : Fr44 → ASt → Prop) : Ref Cl P44_3 (Cat [true, true, true, false, true, true, true, true, true, false, true, true, true, false] (bodyOf Tryz.f44)) m44_2 (post P44_2 pe pr) := by
  rintro s ⟨t, h⟩ hp x s' hm
  have hp : P44_3' s t h := hp
  obtain ⟨w1_0, w2_0, i6, i8, i11, w12_0, hl, a1, r1_0, a2, r2_0, a6, g6, l6, a8, g8, l8, a11, g11, l11, a12, r12_0, a13, a14, ne6_8, ne6_11, ne8_11⟩ := hp
  unfold m44_2 at hm
  have k24 : loadA h true 6 (.ptr i11 0) = some (.agg [.int .i64 s.t11.Set, .int .i64 s.t11.State, .int .i64 s.t11.Seq, .int .i64 s.t11.Rows, .int .i64 s.t11.Bytes, .int .i64 s.t11.Readers]) := by rw [Heap.load_gen g11 (Nat.le_of_ble_eq_true rfl)]; first | rfl | exact ofc6 _ _ _ _ _ _ _
  obtain ⟨H25, eH25⟩ : ∃ x : AHeap, x = h.set i8 (some (.arr [.int .i64 s.t11.Set, .int .i64 s.t11.State, .int .i64 s.t11.Seq, .int .i64 s.t11.Rows, .int .i64 s.t11.Bytes, .int .i64 s.t11.Readers])) := ⟨_, rfl⟩
  have k26 : storeA h 6 (.ptr i8 0) (.agg [.int .i64 s.t11.Set, .int .i64 s.t11.State, .int .i64 s.t11.Seq, .int .i64 s.t11.Rows, .int .i64 s.t11.Bytes, .int .i64 s.t11.Readers]) = some H25 := by rw [eH25]; exact Heap.store_gen g8 (show (.agg [.int .i64 s.t11.Set, .int .i64 s.t11.State, .int .i64 s.t11.Seq, .int .i64 s.t11.Rows, .int .i64 s.t11.Bytes, .int .i64 s.t11.Readers] : AVal).cells = [.int .i64 s.t11.Set, .int .i64 s.t11.State, .int .i64 s.t11.Seq, .int .i64 s.t11.Rows, .int .i64 s.t11.Bytes, .int .i64 s.t11.Readers] by simp only [cl_i, cl_b, cl_s, cl_a, cl_nl, cl_np, cl_ip, cl_ls]) rfl (by simp only [List.all_cons, List.all_nil, Bool.and_self, Bool.and_true, c_i, c_b, c_s, c_nl, c_np, c_ip, c_ls]) (Nat.le_of_ble_eq_true rfl) rfl
  have k27 : H25.get i6 = some (.arr [.int .i64 s.t6.Set, .int .i64 s.t6.State, .int .i64 s.t6.Seq, .int .i64 s.t6.Rows, .int .i64 s.t6.Bytes, .int .i64 s.t6.Readers]) := by rw [eH25, Heap.get_set_ne ne6_8]; exact g6
  have k28 : i6 < H25.next := by rw [eH25]; exact l6
  have k29 : H25.get i11 = some (.arr [.int .i64 s.t11.Set, .int .i64 s.t11.State, .int .i64 s.t11.Seq, .int .i64 s.t11.Rows, .int .i64 s.t11.Bytes, .int .i64 s.t11.Readers]) := by rw [eH25, Heap.get_set_ne (Ne.symm ne8_11)]; exact g11
  have k30 : i11 < H25.next := by rw [eH25]; exact l11
  have k31 : H25.get i8 = some (.arr [.int .i64 s.t11.Set, .int .i64 s.t11.State, .int .i64 s.t11.Seq, .int .i64 s.t11.Rows, .int .i64 s.t11.Bytes, .int .i64 s.t11.Readers]) := by rw [eH25]; exact Heap.get_set_eq
  have k32 : i8 < H25.next := by rw [eH25]; exact l8
  cases hm
  refine ⟨⟨_, _⟩, by
      simp only [bodyOf, Tryz.f44, Cat, Bool.false_eq_true, e_seq, e_region, e_cond, e_block, ex_skip, ex_exit, ex_ret, o_cons, xops_nil, k_want_none, k_want_false, k_val, k_pan, k_call, k_ret, k_seq, k_seq_exit, k_seq_ret, k_true, k_false, k_block, k_block_exit, k_block_ret, k_loop, k_loop_exit, k_loop_ret, awanted, aoper, evalO, put, Option.getD_some, List.getElem?_set, acallOp, abuiltin, List.map_cons, List.map_nil, Nat.reduceEqDiff, Nat.reduceLT, List.length_set, Option.map_some, Option.bind_some, Option.bind_eq_bind, add_i, sub_i, mul_i, eql_i, neq_i, lss_i, leq_i, gtr_i, geq_i, ofV, ofCell, ↓reduceIte, List.cons_append, List.nil_append, List.append_nil, List.getElem?_toArray, List.getElem?_cons_succ, List.getElem?_cons_zero, e_draw, g_nil, g_cons, g_want, g_skip, g_val, g_call, g_ret, Option.map_none, hl, a1, a2, a6, a8, a11, a12, a13, a14, CP, bq1, bq2, bq3, bq4, ex_tup, k24, Ty.ld32, k26, Ty.st32]
      exact rfl, ?_⟩
  show P44_2 _ _
  exact ⟨w1_0, w2_0, i6, i8, w12_0, by simp [hl], by simp [a1], r1_0, by simp [a2], r2_0, by simp [a6], k27, k28, by simp [a8], k31, k32, by simp [hl], by simp [a12], r12_0, by simp [a13], by simp [a14], ne6_8⟩
theorem R44_3 (pe : Nat → Fr44 → ASt → Prop) (pr : Fr44 → ASt → Prop) : Ref Cl P44_5 (Cat [true, true, true, false, true, true, true, true, true, false, true, true, false] (bodyOf Tryz.f44)) m44_3 (post P44_4 pe pr) := by
  rintro s ⟨t, h⟩ hp x s' hm
  have hp : P44_5' s t h := hp
  obtain ⟨w1_0, w2_0, i6, i8, i11, w12_0, hl, a1, r1_0, a2, r2_0, a6, g6, l6, a8, g8, l8, a9, a11, g11, l11, a12, r12_0, a13, a14, ne6_8, ne6_11, ne8_11⟩ := hp
  unfold m44_3 at hm
  have k42 : loadA h true 6 (.ptr i11 0) = some (.agg [.int .i64 s.t11.Set, .int .i64 s.t11.State, .int .i64 s.t11.Seq, .int .i64 s.t11.Rows, .int .i64 s.t11.Bytes, .int .i64 s.t11.Readers]) := by rw [Heap.load_gen g11 (Nat.le_of_ble_eq_true rfl)]; first | rfl | exact ofc6 _ _ _ _ _ _ _
  obtain ⟨z43, hz43, hm⟩ := Option.bind_eq_some_iff.1 hm
  obtain ⟨Fu44, Lu44, qu44, rLu44, sLu44, Hu44⟩ := r1_0
  subst qu44
  have iu44 := Hu44 s.t11  _ hz43
  cases hb45 : z43 with
  | true =>
    all_goals (
      try simp only [hb45, cond_true, cond_false, Option.bind_some, Option.bind_assoc, Bool.not_true, Bool.not_false, Bool.true_and, Bool.false_and, Bool.and_true, Bool.and_false, Bool.true_or, Bool.false_or] at hm
      cases hb46 : (!s.t9) with
      | true =>
        all_goals (
          try simp only [hb46, cond_true, cond_false, Option.bind_some, Option.bind_assoc, Bool.not_true, Bool.not_false, Bool.true_and, Bool.false_and, Bool.and_true, Bool.and_false, Bool.true_or, Bool.false_or] at hm
          cases hm
          refine ⟨⟨_, _⟩, by
              simp only [bodyOf, Tryz.f44, Cat, Bool.false_eq_true, e_seq, e_region, e_cond, e_block, ex_skip, ex_exit, ex_ret, o_cons, xops_nil, k_want_none, k_want_false, k_val, k_pan, k_call, k_ret, k_seq, k_seq_exit, k_seq_ret, k_true, k_false, k_block, k_block_exit, k_block_ret, k_loop, k_loop_exit, k_loop_ret, awanted, aoper, evalO, put, Option.getD_some, List.getElem?_set, acallOp, abuiltin, List.map_cons, List.map_nil, Nat.reduceEqDiff, Nat.reduceLT, List.length_set, Option.map_some, Option.bind_some, Option.bind_eq_bind, add_i, sub_i, mul_i, eql_i, neq_i, lss_i, leq_i, gtr_i, geq_i, ofV, ofCell, ↓reduceIte, List.cons_append, List.nil_append, List.append_nil, List.getElem?_toArray, List.getElem?_cons_succ, List.getElem?_cons_zero, e_draw, g_nil, g_cons, g_want, g_skip, g_val, g_call, g_ret, Option.map_none, hl, a1, a2, a6, a8, a9, a11, a12, a13, a14, CP, bq1, bq2, bq3, bq4, ex_tup, k42, Ty.ld32, iu44, aun_not, hb45, hb46]
              exact rfl, ?_⟩
          show P44_4 _ _
          exact ⟨(.fn (.func Fu44) [] Lu44 : AVal), w2_0, i6, i8, i11, w12_0, by simp [hl], by simp [a1], ⟨Fu44, Lu44, rfl, rLu44, sLu44, Hu44⟩, by simp [a2], r2_0, by simp [a6], g6, l6, by simp [a8], g8, l8, by simp [a9], by simp [a11], g11, l11, by simp [a12], r12_0, by simp [a13], by simp [a14], by simp [hl, hb45, hb46], ne6_8, ne6_11, ne8_11⟩)
      | false =>
        all_goals (
          try simp only [hb46, cond_true, cond_false, Option.bind_some, Option.bind_assoc, Bool.not_true, Bool.not_false, Bool.true_and, Bool.false_and, Bool.and_true, Bool.and_false, Bool.true_or, Bool.false_or] at hm
          have k47 : loadA h true 6 (.ptr i11 0) = some (.agg [.int .i64 s.t11.Set, .int .i64 s.t11.State, .int .i64 s.t11.Seq, .int .i64 s.t11.Rows, .int .i64 s.t11.Bytes, .int .i64 s.t11.Readers]) := by rw [Heap.load_gen g11 (Nat.le_of_ble_eq_true rfl)]; first | rfl | exact ofc6 _ _ _ _ _ _ _
          have k48 : loadA h true 6 (.ptr i8 0) = some (.agg [.int .i64 s.t8.Set, .int .i64 s.t8.State, .int .i64 s.t8.Seq, .int .i64 s.t8.Rows, .int .i64 s.t8.Bytes, .int .i64 s.t8.Readers]) := by rw [Heap.load_gen g8 (Nat.le_of_ble_eq_true rfl)]; first | rfl | exact ofc6 _ _ _ _ _ _ _
          obtain ⟨z49, hz49, hm⟩ := Option.bind_eq_some_iff.1 hm
          obtain ⟨Fu50, Lu50, qu50, rLu50, sLu50, Hu50⟩ := r2_0
          subst qu50
          have iu50 := Hu50 s.t11 s.t8  _ hz49
          try simp only [cond_true, cond_false, Option.bind_some, Option.bind_assoc, Bool.not_true, Bool.not_false, Bool.true_and, Bool.false_and, Bool.and_true, Bool.and_false, Bool.true_or, Bool.false_or] at hm
          cases hm
          refine ⟨⟨_, _⟩, by
              simp only [bodyOf, Tryz.f44, Cat, Bool.false_eq_true, e_seq, e_region, e_cond, e_block, ex_skip, ex_exit, ex_ret, o_cons, xops_nil, k_want_none, k_want_false, k_val, k_pan, k_call, k_ret, k_seq, k_seq_exit, k_seq_ret, k_true, k_false, k_block, k_block_exit, k_block_ret, k_loop, k_loop_exit, k_loop_ret, awanted, aoper, evalO, put, Option.getD_some, List.getElem?_set, acallOp, abuiltin, List.map_cons, List.map_nil, Nat.reduceEqDiff, Nat.reduceLT, List.length_set, Option.map_some, Option.bind_some, Option.bind_eq_bind, add_i, sub_i, mul_i, eql_i, neq_i, lss_i, leq_i, gtr_i, geq_i, ofV, ofCell, ↓reduceIte, List.cons_append, List.nil_append, List.append_nil, List.getElem?_toArray, List.getElem?_cons_succ, List.getElem?_cons_zero, e_draw, g_nil, g_cons, g_want, g_skip, g_val, g_call, g_ret, Option.map_none, hl, a1, a2, a6, a8, a9, a11, a12, a13, a14, CP, bq1, bq2, bq3, bq4, ex_tup, k42, Ty.ld32, iu44, aun_not, k47, k48, iu50, hb45, hb46]
              exact rfl, ?_⟩
          show P44_4 _ _
          exact ⟨(.fn (.func Fu44) [] Lu44 : AVal), (.fn (.func Fu50) [] Lu50 : AVal), i6, i8, i11, w12_0, by simp [hl], by simp [a1], ⟨Fu44, Lu44, rfl, rLu44, sLu44, Hu44⟩, by simp [a2], ⟨Fu50, Lu50, rfl, rLu50, sLu50, Hu50⟩, by simp [a6], g6, l6, by simp [a8], g8, l8, by simp [a9], by simp [a11], g11, l11, by simp [a12], r12_0, by simp [a13], by simp [a14], by simp [hl, hb45, hb46], ne6_8, ne6_11, ne8_11⟩))
  | false =>
    all_goals (
      try simp only [hb45, cond_true, cond_false, Option.bind_some, Option.bind_assoc, Bool.not_true, Bool.not_false, Bool.true_and, Bool.false_and, Bool.and_true, Bool.and_false, Bool.true_or, Bool.false_or] at hm
      cases hm
      refine ⟨⟨_, _⟩, by
          simp only [bodyOf, Tryz.f44, Cat, Bool.false_eq_true, e_seq, e_region, e_cond, e_block, ex_skip, ex_exit, ex_ret, o_cons, xops_nil, k_want_none, k_want_false, k_val, k_pan, k_call, k_ret, k_seq, k_seq_exit, k_seq_ret, k_true, k_false, k_block, k_block_exit, k_block_ret, k_loop, k_loop_exit, k_loop_ret, awanted, aoper, evalO, put, Option.getD_some, List.getElem?_set, acallOp, abuiltin, List.map_cons, List.map_nil, Nat.reduceEqDiff, Nat.reduceLT, List.length_set, Option.map_some, Option.bind_some, Option.bind_eq_bind, add_i, sub_i, mul_i, eql_i, neq_i, lss_i, leq_i, gtr_i, geq_i, ofV, ofCell, ↓reduceIte, List.cons_append, List.nil_append, List.append_nil, List.getElem?_toArray, List.getElem?_cons_succ, List.getElem?_cons_zero, e_draw, g_nil, g_cons, g_want, g_skip, g_val, g_call, g_ret, Option.map_none, hl, a1, a2, a6, a8, a9, a11, a12, a13, a14, CP, bq1, bq2, bq3, bq4, ex_tup, k42, Ty.ld32, iu44, hb45]
          exact rfl, ?_⟩
      show P44_4 _ _
      exact ⟨(.fn (.func Fu44) [] Lu44 : AVal), w2_0, i6, i8, i11, w12_0, by simp [hl], by simp [a1], ⟨Fu44, Lu44, rfl, rLu44, sLu44, Hu44⟩, by simp [a2], r2_0, by simp [a6], g6, l6, by simp [a8], g8, l8, by simp [a9], by simp [a11], g11, l11, by simp [a12], r12_0, by simp [a13], by simp [a14], by simp [hl, hb45], ne6_8, ne6_11, ne8_11⟩)
theorem R44_4 (pe : Nat → Fr44 → ASt → Prop) (pr : Fr44 → ASt → Prop) : Ref Cl P44_2 (Cat [true, true, true, false, true, true, true, true, true, false, true, false] (bodyOf Tryz.f44)) m44_4 (post P44_5 pe pr) := by
  rintro s ⟨t, h⟩ hp x s' hm
  have hp : P44_2' s t h := hp
  obtain ⟨w1_0, w2_0, i6, i8, w12_0, hl, a1, r1_0, a2, r2_0, a6, g6, l6, a8, g8, l8, a9, a12, r12_0, a13, a14, ne6_8⟩ := hp
  unfold m44_4 at hm
  obtain ⟨y72, hy72, hm⟩ := Option.bind_eq_some_iff.1 hm
  obtain ⟨cu73, du73, eu73, iu73, _⟩ := Sl.ix rViewInfo_p r12_0 hy72
  have eu73 := eu73; unfold rViewInfo at eu73; subst eu73
  obtain ⟨H74, eH74⟩ : ∃ x : AHeap, x = h.new (.arr [.int .i64 0, .int .i64 0, .int .i64 0, .int .i64 0, .int .i64 0, .int .i64 0]) := ⟨_, rfl⟩
  obtain ⟨id75, eid75⟩ : ∃ x : Nat, x = h.next := ⟨_, rfl⟩
  have k76 : H74.get i6 = some (.arr [.int .i64 s.t6.Set, .int .i64 s.t6.State, .int .i64 s.t6.Seq, .int .i64 s.t6.Rows, .int .i64 s.t6.Bytes, .int .i64 s.t6.Readers]) := by rw [eH74, Heap.get_new_lt l6]; exact g6
  have k77 : i6 < H74.next := by rw [eH74, Heap.new_next]; exact Nat.lt_succ_of_lt l6
  have k78 : H74.get i8 = some (.arr [.int .i64 s.t8.Set, .int .i64 s.t8.State, .int .i64 s.t8.Seq, .int .i64 s.t8.Rows, .int .i64 s.t8.Bytes, .int .i64 s.t8.Readers]) := by rw [eH74, Heap.get_new_lt l8]; exact g8
  have k79 : i8 < H74.next := by rw [eH74, Heap.new_next]; exact Nat.lt_succ_of_lt l8
  have k80 : H74.get id75 = some (.arr [.int .i64 0, .int .i64 0, .int .i64 0, .int .i64 0, .int .i64 0, .int .i64 0]) := by rw [eH74, eid75]; exact Heap.get_new_eq
  have k81 : id75 < H74.next := by rw [eH74, eid75, Heap.new_next]; exact Nat.lt_succ_self _
  have k82 : i6 ≠ id75 := by rw [eid75]; exact Nat.ne_of_lt l6
  have k83 : i8 ≠ id75 := by rw [eid75]; exact Nat.ne_of_lt l8
  have k84 : abox h (.agg [.int .i64 0, .int .i64 0, .int .i64 0, .int .i64 0, .int .i64 0, .int .i64 0]) = some (.ptr id75 0, H74) := by simp only [abox, eH74, eid75, bx_i, bx_b, bx_s, bx_a, bx_nl, bx_np, bx_ip, bx_ls, cl_i, cl_b, cl_s, cl_a, cl_nl, cl_np, cl_ip, cl_ls, List.all_cons, List.all_nil, Bool.and_self, Bool.and_true, c_i, c_b, c_s, c_nl, c_np, c_ip, c_ls, if_true]
  obtain ⟨H85, eH85⟩ : ∃ x : AHeap, x = H74.set id75 (some (.arr [.int .i64 y72.Set, .int .i64 y72.State, .int .i64 y72.Seq, .int .i64 y72.Rows, .int .i64 y72.Bytes, .int .i64 y72.Readers])) := ⟨_, rfl⟩
  have k86 : storeA H74 6 (.ptr id75 0) (.agg [.int .i64 y72.Set, .int .i64 y72.State, .int .i64 y72.Seq, .int .i64 y72.Rows, .int .i64 y72.Bytes, .int .i64 y72.Readers]) = some H85 := by rw [eH85]; exact Heap.store_gen k80 (show (.agg [.int .i64 y72.Set, .int .i64 y72.State, .int .i64 y72.Seq, .int .i64 y72.Rows, .int .i64 y72.Bytes, .int .i64 y72.Readers] : AVal).cells = [.int .i64 y72.Set, .int .i64 y72.State, .int .i64 y72.Seq, .int .i64 y72.Rows, .int .i64 y72.Bytes, .int .i64 y72.Readers] by simp only [cl_i, cl_b, cl_s, cl_a, cl_nl, cl_np, cl_ip, cl_ls]) rfl (by simp only [List.all_cons, List.all_nil, Bool.and_self, Bool.and_true, c_i, c_b, c_s, c_nl, c_np, c_ip, c_ls]) (Nat.le_of_ble_eq_true rfl) rfl
  have k87 : H85.get i6 = some (.arr [.int .i64 s.t6.Set, .int .i64 s.t6.State, .int .i64 s.t6.Seq, .int .i64 s.t6.Rows, .int .i64 s.t6.Bytes, .int .i64 s.t6.Readers]) := by rw [eH85, Heap.get_set_ne k82]; exact k76
  have k88 : i6 < H85.next := by rw [eH85]; exact k77
  have k89 : H85.get i8 = some (.arr [.int .i64 s.t8.Set, .int .i64 s.t8.State, .int .i64 s.t8.Seq, .int .i64 s.t8.Rows, .int .i64 s.t8.Bytes, .int .i64 s.t8.Readers]) := by rw [eH85, Heap.get_set_ne k83]; exact k78
  have k90 : i8 < H85.next := by rw [eH85]; exact k79
  have k91 : H85.get id75 = some (.arr [.int .i64 y72.Set, .int .i64 y72.State, .int .i64 y72.Seq, .int .i64 y72.Rows, .int .i64 y72.Bytes, .int .i64 y72.Readers]) := by rw [eH85]; exact Heap.get_set_eq
  have k92 : id75 < H85.next := by rw [eH85]; exact k81
  cases hm
  refine ⟨⟨_, _⟩, by
      simp only [bodyOf, Tryz.f44, Cat, Bool.false_eq_true, e_seq, e_region, e_cond, e_block, ex_skip, ex_exit, ex_ret, o_cons, xops_nil, k_want_none, k_want_false, k_val, k_pan, k_call, k_ret, k_seq, k_seq_exit, k_seq_ret, k_true, k_false, k_block, k_block_exit, k_block_ret, k_loop, k_loop_exit, k_loop_ret, awanted, aoper, evalO, put, Option.getD_some, List.getElem?_set, acallOp, abuiltin, List.map_cons, List.map_nil, Nat.reduceEqDiff, Nat.reduceLT, List.length_set, Option.map_some, Option.bind_some, Option.bind_eq_bind, add_i, sub_i, mul_i, eql_i, neq_i, lss_i, leq_i, gtr_i, geq_i, ofV, ofCell, ↓reduceIte, List.cons_append, List.nil_append, List.append_nil, List.getElem?_toArray, List.getElem?_cons_succ, List.getElem?_cons_zero, e_draw, g_nil, g_cons, g_want, g_skip, g_val, g_call, g_ret, Option.map_none, hl, a1, a2, a6, a8, a9, a12, a13, a14, CP, bq1, bq2, bq3, bq4, ex_tup, Ty.ix28, iu73, Ty.ld32, ld_ip, ofc6, List.drop_succ_cons, List.drop_zero, List.length_cons, List.length_nil, Ty.ze32, Ty.own_plan_go_18, k84, k86, Ty.st32]
      exact rfl, ?_⟩
  show P44_5 _ _
  exact ⟨w1_0, w2_0, i6, i8, id75, w12_0, by simp [hl], by simp [a1], r1_0, by simp [a2], r2_0, by simp [a6], k87, k88, by simp [a8], k89, k90, by simp [a9], by simp [hl], k91, k92, by simp [a12], r12_0, by simp [a13], by simp [a14], ne6_8, k82, k83⟩
theorem R44_5 (pe : Nat → Fr44 → ASt → Prop) (pr : Fr44 → ASt → Prop) : Ref Cl P44_2 (Cat [true, true, true, false, true, true, true, false] (bodyOf Tryz.f44)) m44_5 (post P44_6 pe pr) := by
  rintro s ⟨t, h⟩ hp x s' hm
  have hp : P44_2' s t h := hp
  obtain ⟨w1_0, w2_0, i6, i8, w12_0, hl, a1, r1_0, a2, r2_0, a6, g6, l6, a8, g8, l8, a9, a12, r12_0, a13, a14, ne6_8⟩ := hp
  unfold m44_5 at hm
  cases hm
  refine ⟨⟨_, _⟩, by
      simp only [bodyOf, Tryz.f44, Cat, Bool.false_eq_true, e_seq, e_region, e_cond, e_block, ex_skip, ex_exit, ex_ret, o_cons, xops_nil, k_want_none, k_want_false, k_val, k_pan, k_call, k_ret, k_seq, k_seq_exit, k_seq_ret, k_true, k_false, k_block, k_block_exit, k_block_ret, k_loop, k_loop_exit, k_loop_ret, awanted, aoper, evalO, put, Option.getD_some, List.getElem?_set, acallOp, abuiltin, List.map_cons, List.map_nil, Nat.reduceEqDiff, Nat.reduceLT, List.length_set, Option.map_some, Option.bind_some, Option.bind_eq_bind, add_i, sub_i, mul_i, eql_i, neq_i, lss_i, leq_i, gtr_i, geq_i, ofV, ofCell, ↓reduceIte, List.cons_append, List.nil_append, List.append_nil, List.getElem?_toArray, List.getElem?_cons_succ, List.getElem?_cons_zero, e_draw, g_nil, g_cons, g_want, g_skip, g_val, g_call, g_ret, Option.map_none, hl, a1, a2, a6, a8, a9, a12, a13, a14, CP, bq1, bq2, bq3, bq4, ex_tup]
      exact rfl, ?_⟩
  show P44_6 _ _
  exact ⟨w1_0, w2_0, i6, i8, w12_0, by simp [hl], by simp [a1], r1_0, by simp [a2], r2_0, by simp [a6], g6, l6, by simp [a8], g8, l8, by simp [a9], by simp [a12], r12_0, by simp [a13], by simp [a14], by simp [hl], ne6_8⟩
theorem R44_7 (pe : Nat → Fr44 → ASt → Prop) (pr : Fr44 → ASt → Prop) : Ref Cl P44_7 (Cat [true, true, true, false, false] (bodyOf Tryz.f44)) m44_7 (post P44_2 pe pr) := by
  rintro s ⟨t, h⟩ hp x s' hm
  have hp : P44_7' s t h := hp
  obtain ⟨w0_0, w1_0, w2_0, i6, i8, hl, a0, r0_0, a1, r1_0, a2, r2_0, a6, g6, l6, a8, g8, l8, a9, ne6_8⟩ := hp
  unfold m44_7 at hm
  have lu94 := fun h => Sl.len r0_0 Ty.un28 h
  cases hm
  refine ⟨⟨_, _⟩, by
      simp only [bodyOf, Tryz.f44, Cat, Bool.false_eq_true, e_seq, e_region, e_cond, e_block, ex_skip, ex_exit, ex_ret, o_cons, xops_nil, k_want_none, k_want_false, k_val, k_pan, k_call, k_ret, k_seq, k_seq_exit, k_seq_ret, k_true, k_false, k_block, k_block_exit, k_block_ret, k_loop, k_loop_exit, k_loop_ret, awanted, aoper, evalO, put, Option.getD_some, List.getElem?_set, acallOp, abuiltin, List.map_cons, List.map_nil, Nat.reduceEqDiff, Nat.reduceLT, List.length_set, Option.map_some, Option.bind_some, Option.bind_eq_bind, add_i, sub_i, mul_i, eql_i, neq_i, lss_i, leq_i, gtr_i, geq_i, ofV, ofCell, ↓reduceIte, List.cons_append, List.nil_append, List.append_nil, List.getElem?_toArray, List.getElem?_cons_succ, List.getElem?_cons_zero, e_draw, g_nil, g_cons, g_want, g_skip, g_val, g_call, g_ret, Option.map_none, hl, a0, a1, a2, a6, a8, a9, CP, bq1, bq2, bq3, bq4, ex_tup, lu94]
      exact rfl, ?_⟩
  show P44_2 _ _
  exact ⟨w1_0, w2_0, i6, i8, w0_0, by simp [hl], by simp [a1], r1_0, by simp [a2], r2_0, by simp [a6], g6, l6, by simp [a8], g8, l8, by simp [a9], by simp [hl], r0_0, by simp [hl], by simp [hl], ne6_8⟩
theorem R44_8 (pe : Nat → Fr44 → ASt → Prop) (pr : Fr44 → ASt → Prop) : Ref Cl P44_8 (Cat [true, true, false] (bodyOf Tryz.f44)) m44_8 (post P44_7 pe pr) := by
  rintro s ⟨t, h⟩ hp x s' hm
  have hp : P44_8' s t h := hp
  obtain ⟨w0_0, w1_0, w2_0, i6, i8, hl, a0, r0_0, a1, r1_0, a2, r2_0, a6, g6, l6, a8, g8, l8, ne6_8⟩ := hp
  unfold m44_8 at hm
  cases hm
  refine ⟨⟨_, _⟩, by
      simp only [bodyOf, Tryz.f44, Cat, Bool.false_eq_true, e_seq, e_region, e_cond, e_block, ex_skip, ex_exit, ex_ret, o_cons, xops_nil, k_want_none, k_want_false, k_val, k_pan, k_call, k_ret, k_seq, k_seq_exit, k_seq_ret, k_true, k_false, k_block, k_block_exit, k_block_ret, k_loop, k_loop_exit, k_loop_ret, awanted, aoper, evalO, put, Option.getD_some, List.getElem?_set, acallOp, abuiltin, List.map_cons, List.map_nil, Nat.reduceEqDiff, Nat.reduceLT, List.length_set, Option.map_some, Option.bind_some, Option.bind_eq_bind, add_i, sub_i, mul_i, eql_i, neq_i, lss_i, leq_i, gtr_i, geq_i, ofV, ofCell, ↓reduceIte, List.cons_append, List.nil_append, List.append_nil, List.getElem?_toArray, List.getElem?_cons_succ, List.getElem?_cons_zero, e_draw, g_nil, g_cons, g_want, g_skip, g_val, g_call, g_ret, Option.map_none, hl, a0, a1, a2, a6, a8, CP, bq1, bq2, bq3, bq4, ex_tup]
      exact rfl, ?_⟩
  show P44_7 _ _
  exact ⟨w0_0, w1_0, w2_0, i6, i8, by simp [hl], by simp [a0], r0_0, by simp [a1], r1_0, by simp [a2], r2_0, by simp [a6], g6, l6, by simp [a8], g8, l8, by simp [hl], ne6_8⟩
theorem R44_9 (pe : Nat → Fr44 → ASt → Prop) (pr : Fr44 → ASt → Prop) : Ref Cl P44_9 (Cat [true, false] (bodyOf Tryz.f44)) m44_9 (post P44_8 pe pr) := by
  rintro s ⟨t, h⟩ hp x s' hm
  have hp : P44_9' s t h := hp
  obtain ⟨w0_0, w1_0, w2_0, i6, hl, a0, r0_0, a1, r1_0, a2, r2_0, a6, g6, l6⟩ := hp
  unfold m44_9 at hm
  obtain ⟨H103, eH103⟩ : ∃ x : AHeap, x = h.new (.arr [.int .i64 0, .int .i64 0, .int .i64 0, .int .i64 0, .int .i64 0, .int .i64 0]) := ⟨_, rfl⟩
  obtain ⟨id104, eid104⟩ : ∃ x : Nat, x = h.next := ⟨_, rfl⟩
  have k105 : H103.get i6 = some (.arr [.int .i64 s.t6.Set, .int .i64 s.t6.State, .int .i64 s.t6.Seq, .int .i64 s.t6.Rows, .int .i64 s.t6.Bytes, .int .i64 s.t6.Readers]) := by rw [eH103, Heap.get_new_lt l6]; exact g6
  have k106 : i6 < H103.next := by rw [eH103, Heap.new_next]; exact Nat.lt_succ_of_lt l6
  have k107 : H103.get id104 = some (.arr [.int .i64 0, .int .i64 0, .int .i64 0, .int .i64 0, .int .i64 0, .int .i64 0]) := by rw [eH103, eid104]; exact Heap.get_new_eq
  have k108 : id104 < H103.next := by rw [eH103, eid104, Heap.new_next]; exact Nat.lt_succ_self _
  have k109 : i6 ≠ id104 := by rw [eid104]; exact Nat.ne_of_lt l6
  have k110 : abox h (.agg [.int .i64 0, .int .i64 0, .int .i64 0, .int .i64 0, .int .i64 0, .int .i64 0]) = some (.ptr id104 0, H103) := by simp only [abox, eH103, eid104, bx_i, bx_b, bx_s, bx_a, bx_nl, bx_np, bx_ip, bx_ls, cl_i, cl_b, cl_s, cl_a, cl_nl, cl_np, cl_ip, cl_ls, List.all_cons, List.all_nil, Bool.and_self, Bool.and_true, c_i, c_b, c_s, c_nl, c_np, c_ip, c_ls, if_true]
  cases hm
  refine ⟨⟨_, _⟩, by
      simp only [bodyOf, Tryz.f44, Cat, Bool.false_eq_true, e_seq, e_region, e_cond, e_block, ex_skip, ex_exit, ex_ret, o_cons, xops_nil, k_want_none, k_want_false, k_val, k_pan, k_call, k_ret, k_seq, k_seq_exit, k_seq_ret, k_true, k_false, k_block, k_block_exit, k_block_ret, k_loop, k_loop_exit, k_loop_ret, awanted, aoper, evalO, put, Option.getD_some, List.getElem?_set, acallOp, abuiltin, List.map_cons, List.map_nil, Nat.reduceEqDiff, Nat.reduceLT, List.length_set, Option.map_some, Option.bind_some, Option.bind_eq_bind, add_i, sub_i, mul_i, eql_i, neq_i, lss_i, leq_i, gtr_i, geq_i, ofV, ofCell, ↓reduceIte, List.cons_append, List.nil_append, List.append_nil, List.getElem?_toArray, List.getElem?_cons_succ, List.getElem?_cons_zero, e_draw, g_nil, g_cons, g_want, g_skip, g_val, g_call, g_ret, Option.map_none, hl, a0, a1, a2, a6, CP, bq1, bq2, bq3, bq4, ex_tup, Ty.ze32, Ty.own_plan_go_16, k110]
      exact rfl, ?_⟩
  show P44_8 _ _
  exact ⟨w0_0, w1_0, w2_0, i6, id104, by simp [hl], by simp [a0], r0_0, by simp [a1], r1_0, by simp [a2], r2_0, by simp [a6], k105, k106, by simp [hl], k107, k108, k109⟩
theorem R44_10 (pe : Nat → Fr44 → ASt → Prop) (pr : Fr44 → ASt → Prop) : Ref Cl P44_10 (Cat [false] (bodyOf Tryz.f44)) m44_10 (post P44_9 pe pr) := by
  rintro s ⟨t, h⟩ hp x s' hm
  have hp : P44_10' s t h := hp
  obtain ⟨w0_0, w1_0, w2_0, hl, a0, r0_0, a1, r1_0, a2, r2_0⟩ := hp
  unfold m44_10 at hm
  obtain ⟨H116, eH116⟩ : ∃ x : AHeap, x = h.new (.arr [.int .i64 0, .int .i64 0, .int .i64 0, .int .i64 0, .int .i64 0, .int .i64 0]) := ⟨_, rfl⟩
  obtain ⟨id117, eid117⟩ : ∃ x : Nat, x = h.next := ⟨_, rfl⟩
  have k118 : H116.get id117 = some (.arr [.int .i64 0, .int .i64 0, .int .i64 0, .int .i64 0, .int .i64 0, .int .i64 0]) := by rw [eH116, eid117]; exact Heap.get_new_eq
  have k119 : id117 < H116.next := by rw [eH116, eid117, Heap.new_next]; exact Nat.lt_succ_self _
  have k120 : abox h (.agg [.int .i64 0, .int .i64 0, .int .i64 0, .int .i64 0, .int .i64 0, .int .i64 0]) = some (.ptr id117 0, H116) := by simp only [abox, eH116, eid117, bx_i, bx_b, bx_s, bx_a, bx_nl, bx_np, bx_ip, bx_ls, cl_i, cl_b, cl_s, cl_a, cl_nl, cl_np, cl_ip, cl_ls, List.all_cons, List.all_nil, Bool.and_self, Bool.and_true, c_i, c_b, c_s, c_nl, c_np, c_ip, c_ls, if_true]
  cases hm
  refine ⟨⟨_, _⟩, by
      simp only [bodyOf, Tryz.f44, Cat, Bool.false_eq_true, e_seq, e_region, e_cond, e_block, ex_skip, ex_exit, ex_ret, o_cons, xops_nil, k_want_none, k_want_false, k_val, k_pan, k_call, k_ret, k_seq, k_seq_exit, k_seq_ret, k_true, k_false, k_block, k_block_exit, k_block_ret, k_loop, k_loop_exit, k_loop_ret, awanted, aoper, evalO, put, Option.getD_some, List.getElem?_set, acallOp, abuiltin, List.map_cons, List.map_nil, Nat.reduceEqDiff, Nat.reduceLT, List.length_set, Option.map_some, Option.bind_some, Option.bind_eq_bind, add_i, sub_i, mul_i, eql_i, neq_i, lss_i, leq_i, gtr_i, geq_i, ofV, ofCell, ↓reduceIte, List.cons_append, List.nil_append, List.append_nil, List.getElem?_toArray, List.getElem?_cons_succ, List.getElem?_cons_zero, e_draw, g_nil, g_cons, g_want, g_skip, g_val, g_call, g_ret, Option.map_none, hl, a0, a1, a2, CP, bq1, bq2, bq3, bq4, ex_tup, Ty.ze32, Ty.own_plan_go_15, k120]
      exact rfl, ?_⟩
  show P44_9 _ _
  exact ⟨w0_0, w1_0, w2_0, id117, by simp [hl], by simp [a0], r0_0, by simp [a1], r1_0, by simp [a2], r2_0, by simp [hl], k118, k119⟩
theorem B44 : Ref Cl P44_10 (bodyOf Tryz.f44) (M44) (post P44_1 (fun _ _ _ => False) P44_1) := by
  rw [show bodyOf Tryz.f44 = .seq (Cat [false] (bodyOf Tryz.f44)) (.seq (Cat [true, false] (bodyOf Tryz.f44)) (.seq (Cat [true, true, false] (bodyOf Tryz.f44)) (.seq (.seq (Cat [true, true, true, false, false] (bodyOf Tryz.f44)) (.block 0 (.loop (.seq (Cat [true, true, true, false, true, true, true, false] (bodyOf Tryz.f44)) (.seq (.cond (.tmp 15) (.skip) (.exit 0)) (.seq (.block 1 (.seq (Cat [true, true, true, false, true, true, true, true, true, false, true, false] (bodyOf Tryz.f44)) (.seq (Cat [true, true, true, false, true, true, true, true, true, false, true, true, false] (bodyOf Tryz.f44)) (.cond (.tmp 31) (Cat [true, true, true, false, true, true, true, true, true, false, true, true, true, false] (bodyOf Tryz.f44)) (.skip))))) (Cat [true, true, true, false, true, true, true, true, true, true] (bodyOf Tryz.f44)))))))) (.seq (Cat [true, true, true, true, false] (bodyOf Tryz.f44)) (.ret))))) from rfl]
  unfold M44
  exact ref_seq (M := P44_9) (R44_10 _ _) (ref_seq (M := P44_8) (R44_9 _ _) (ref_seq (M := P44_7) (R44_8 _ _) (ref_seq (M := P44_0) (ref_seq (M := P44_2) (R44_7 _ _) (ref_block (ref_loop (P := P44_2) (ref_weak (P' := P44_2) (fun s st hp => hp) (ref_seq (M := P44_6) (R44_5 _ _) (ref_seq (M := P44_2) (ref_cond (P := P44_6) (c := fun s => s.t15) (fun s st hp => by obtain ⟨w1_0, w2_0, i6, i8, w12_0, hl, a1, r1_0, a2, r2_0, a6, g6, l6, a8, g8, l8, a9, a12, r12_0, a13, a14, a15, ne6_8⟩ := (hp : P44_6' s st.tmps st.h); simp only [evalO, a15, Option.getD_some]) (ref_weak (P' := P44_2) (fun s st hp => by obtain ⟨w1_0, w2_0, i6, i8, w12_0, hl, a1, r1_0, a2, r2_0, a6, g6, l6, a8, g8, l8, a9, a12, r12_0, a13, a14, a15, ne6_8⟩ := (hp : P44_6' s st.tmps st.h); exact (⟨w1_0, w2_0, i6, i8, w12_0, hl, a1, r1_0, a2, r2_0, a6, g6, l6, a8, g8, l8, a9, a12, r12_0, a13, a14, ne6_8⟩ : P44_2' s st.tmps st.h)) (ref_skip (fun s st hp => hp))) (ref_weak (P' := P44_0) (fun s st hp => by obtain ⟨w1_0, w2_0, i6, i8, w12_0, hl, a1, r1_0, a2, r2_0, a6, g6, l6, a8, g8, l8, a9, a12, r12_0, a13, a14, a15, ne6_8⟩ := (hp : P44_6' s st.tmps st.h); exact (⟨i6, i8, hl, a6, g6, l6, a8, g8, l8, a9, ne6_8⟩ : P44_0' s st.tmps st.h)) (ref_exit (fun s st hp => hp)))) (ref_seq (M := P44_2) (ref_block (ref_seq (M := P44_5) (R44_4 _ _) (ref_seq (M := P44_4) (R44_3 _ _) (ref_cond (P := P44_4) (c := fun s => s.t31) (fun s st hp => by obtain ⟨w1_0, w2_0, i6, i8, i11, w12_0, hl, a1, r1_0, a2, r2_0, a6, g6, l6, a8, g8, l8, a9, a11, g11, l11, a12, r12_0, a13, a14, a31, ne6_8, ne6_11, ne8_11⟩ := (hp : P44_4' s st.tmps st.h); simp only [evalO, a31, Option.getD_some]) (ref_weak (P' := P44_3) (fun s st hp => by obtain ⟨w1_0, w2_0, i6, i8, i11, w12_0, hl, a1, r1_0, a2, r2_0, a6, g6, l6, a8, g8, l8, a9, a11, g11, l11, a12, r12_0, a13, a14, a31, ne6_8, ne6_11, ne8_11⟩ := (hp : P44_4' s st.tmps st.h); exact (⟨w1_0, w2_0, i6, i8, i11, w12_0, hl, a1, r1_0, a2, r2_0, a6, g6, l6, a8, g8, l8, a11, g11, l11, a12, r12_0, a13, a14, ne6_8, ne6_11, ne8_11⟩ : P44_3' s st.tmps st.h)) (R44_2 _ _)) (ref_weak (P' := P44_2) (fun s st hp => by obtain ⟨w1_0, w2_0, i6, i8, i11, w12_0, hl, a1, r1_0, a2, r2_0, a6, g6, l6, a8, g8, l8, a9, a11, g11, l11, a12, r12_0, a13, a14, a31, ne6_8, ne6_11, ne8_11⟩ := (hp : P44_4' s st.tmps st.h); exact (⟨w1_0, w2_0, i6, i8, w12_0, hl, a1, r1_0, a2, r2_0, a6, g6, l6, a8, g8, l8, a9, a12, r12_0, a13, a14, ne6_8⟩ : P44_2' s st.tmps st.h)) (ref_skip (fun s st hp => hp))))))) (R44_1 _ _)))))))) (ref_seq (M := P44_1) (R44_0 _ _) (ref_ret (fun s st hp => hp))))))
noncomputable def G44 (x0 : (List ViewInfo)) (x1 : (ViewInfo → Option Bool)) (x2 : (ViewInfo → ViewInfo → Option Int)) : Option (ViewInfo × Bool) := match M44 { (default : Fr44) with t0 := x0, t1 := x1, t2 := x2 } with
  | some (.nrm, s) => some (s.t6, s.t7)
  | some (.ret, s) => some (s.t6, s.t7)
  | _ => none
theorem G44_spec : Spec44 (G44) := by
  intro x0 x1 x2 vx0_0 hvx0_0 vx1_0 hvx1_0 vx2_0 hvx2_0 r hr
  unfold G44 at hr
  cases hm : M44 { (default : Fr44) with t0 := x0, t1 := x1, t2 := x2 } with
  | none => rw [hm] at hr; cases hr
  | some q =>
    obtain ⟨x, s⟩ := q
    rw [hm] at hr
    have hx : x = .nrm ∨ x = .ret := by cases x <;> first | exact .inl rfl | exact .inr rfl | cases hr
    have hr : (s.t6, s.t7) = r := by cases x <;> first | exact Option.some.inj hr | cases hr
    subst hr
    have hp0 : P44_10' ({ (default : Fr44) with t0 := x0, t1 := x1, t2 := x2 }) (slots Tryz.f44 (stripL [vx0_0, vx1_0, vx2_0])) bare := ⟨(strip vx0_0 : AVal), (strip vx1_0 : AVal), (strip vx2_0 : AVal), rfl, rfl, hvx0_0.strip rViewInfo_p, rfl, rFn0_strip hvx1_0, rfl, rFn1_strip hvx2_0⟩
    obtain ⟨v, hR, hrun⟩ := run_of_ref (C := Cl) (f := 44) (fn := Tryz.f44) Tryz.func44 rfl rfl rfl rfl (args := [vx0_0, vx1_0, vx2_0]) (by simp only [refsL, refs, List.append_nil, hvx0_0.refs rViewInfo_p, rFn0_refs hvx1_0, rFn1_refs hvx2_0]) (B44) (s0 := { (default : Fr44) with t0 := x0, t1 := x1, t2 := x2 }) hp0 hm hx (R := fun v => v = .tup [.agg [.int .i64 s.t6.Set, .int .i64 s.t6.State, .int .i64 s.t6.Seq, .int .i64 s.t6.Rows, .int .i64 s.t6.Bytes, .int .i64 s.t6.Readers], .bool s.t7]) (by
      have key : ∀ st : ASt, P44_1 s st → ∃ vs v, aresults Cl Tryz.f44.results.toList st = some vs ∧ Nrm [] st.h (packRes vs) v ∧ (fun v => v = .tup [.agg [.int .i64 s.t6.Set, .int .i64 s.t6.State, .int .i64 s.t6.Seq, .int .i64 s.t6.Rows, .int .i64 s.t6.Bytes, .int .i64 s.t6.Readers], .bool s.t7]) v := by
        intro st hp
        obtain ⟨i6, hl, a6, g6, l6, a7⟩ := (hp : P44_1' s st.tmps st.h)
        have ld6 : loadA st.h true 6 (.ptr i6 0) = some (.agg [.int .i64 s.t6.Set, .int .i64 s.t6.State, .int .i64 s.t6.Seq, .int .i64 s.t6.Rows, .int .i64 s.t6.Bytes, .int .i64 s.t6.Readers]) := by rw [Heap.load_gen g6 (Nat.zero_le _)]; first | rfl | exact ofc6 _ _ _ _ _ _ _
        exact ⟨[.agg [.int .i64 s.t6.Set, .int .i64 s.t6.State, .int .i64 s.t6.Seq, .int .i64 s.t6.Rows, .int .i64 s.t6.Bytes, .int .i64 s.t6.Readers], .bool s.t7], _, by simp only [show Tryz.f44.results.toList = [ResultVar.cell 6 32, ResultVar.tmp 7] from rfl, aresults, ares1, CP, a6, a7, Option.getD_some, ld6, Ty.ld32], (Nrm.tup (NrmL.cons (Nrm.of (w := .agg [.int .i64 s.t6.Set, .int .i64 s.t6.State, .int .i64 s.t6.Seq, .int .i64 s.t6.Rows, .int .i64 s.t6.Bytes, .int .i64 s.t6.Readers]) (by simp only [refsL, refs, List.append_nil])) (NrmL.cons (Nrm.of (w := .bool s.t7) (by simp only [refsL, refs, List.append_nil])) NrmL.nil))), rfl⟩
      intro st hq
      rcases hx with rfl | rfl
      · exact key st hq
      · exact key st hq)
    subst hR
    exact hrun
end Go.Proofs.Pln
