/-
  PLAN (aa): functions (printed by wip/tools/tg.py).
-/
import Derived.Test.YtijnepmlnfcpnaaGreatDoorPlmTypes
import Derived.Test.YtijnepmlnfcpnaaGreatDoorAmPack
import Derived.Test.YtijnepmlnfcpnaaGreatDoorPlmFnsa
set_option linter.unusedVariables false
set_option linter.unusedSimpArgs false
set_option linter.unusedSimpArgs false
set_option linter.unusedVariables false
set_option maxRecDepth 100000
namespace Go.Proofs.Plm
open Go Go.Am Go.Proofs
/-! ### caisson/caissonref11.Of -/
structure Fr158 where
  t0 : (List Int)
  t2 : Int
  t3 : Int
  t4 : Int
  t8 : Bool
  t22 : Bool
instance : Inhabited Fr158 := ⟨⟨[], 0, 0, 0, false, false⟩⟩
def P158_0' (s : Fr158) (t : List AVal) (h : AHeap) : Prop := t.length = 31 ∧ t[3]? = some (.int .i64 s.t3)
def P158_0 (s : Fr158) (st : ASt) : Prop := P158_0' s st.tmps st.h
def P158_1' (s : Fr158) (t : List AVal) (h : AHeap) : Prop := t.length = 31 ∧ t[2]? = some (.int .i64 s.t2)
def P158_1 (s : Fr158) (st : ASt) : Prop := P158_1' s st.tmps st.h
def P158_2' (s : Fr158) (t : List AVal) (h : AHeap) : Prop := ∃ w0_0, t.length = 31 ∧ t[0]? = some w0_0 ∧ Sl (rI .i64) s.t0 w0_0 ∧ t[3]? = some (.int .i64 s.t3) ∧ t[4]? = some (.int .i64 s.t4)
def P158_2 (s : Fr158) (st : ASt) : Prop := P158_2' s st.tmps st.h
def P158_3' (s : Fr158) (t : List AVal) (h : AHeap) : Prop := ∃ w0_0, t.length = 31 ∧ t[0]? = some w0_0 ∧ Sl (rI .i64) s.t0 w0_0 ∧ t[3]? = some (.int .i64 s.t3) ∧ t[4]? = some (.int .i64 s.t4) ∧ t[22]? = some (.bool s.t22)
def P158_3 (s : Fr158) (st : ASt) : Prop := P158_3' s st.tmps st.h
def P158_4' (s : Fr158) (t : List AVal) (h : AHeap) : Prop := ∃ w0_0, t.length = 31 ∧ t[0]? = some w0_0 ∧ Sl (rI .i64) s.t0 w0_0 ∧ t[3]? = some (.int .i64 s.t3) ∧ t[4]? = some (.int .i64 s.t4) ∧ t[8]? = some (.bool s.t8)
def P158_4 (s : Fr158) (st : ASt) : Prop := P158_4' s st.tmps st.h
def P158_5' (s : Fr158) (t : List AVal) (h : AHeap) : Prop := ∃ w0_0, t.length = 31 ∧ t[0]? = some w0_0 ∧ Sl (rI .i64) s.t0 w0_0 ∧ t[3]? = some (.int .i64 s.t3)
def P158_5 (s : Fr158) (st : ASt) : Prop := P158_5' s st.tmps st.h
def P158_6' (s : Fr158) (t : List AVal) (h : AHeap) : Prop := ∃ w0_0, t.length = 31 ∧ t[0]? = some w0_0 ∧ Sl (rI .i64) s.t0 w0_0
def P158_6 (s : Fr158) (st : ASt) : Prop := P158_6' s st.tmps st.h
noncomputable def m158_0 : Mo Fr158 := fun s => some (.nrm, { s with t2 := s.t3 })
noncomputable def m158_1 : Mo Fr158 := fun s => some (.nrm, { s with t4 := IntKind.wrap .i64 (s.t4 + 1) })
noncomputable def m158_2 : Mo Fr158 := fun s => (at? s.t0 s.t4).bind fun y1 => (G175 y1).bind fun z3 => (G117 s.t3 z3).bind fun z5 => some (.nrm, { s with t3 := z5 })
noncomputable def m158_3 : Mo Fr158 := fun s => (at? s.t0 s.t4).bind fun y13 => some (.nrm, { s with t22 := ((decide (y13 ≥ 0)) && (decide (y13 < 6))) })
noncomputable def m158_4 : Mo Fr158 := fun s => some (.nrm, { s with t8 := decide (s.t4 < (s.t0.length : Int)) })
noncomputable def L158_5 : Mo Fr158 := seqM (seqM (m158_4) (condM (fun s => s.t8) (skipM) (exitM 0))) (seqM (blockM 1 (seqM (m158_3) (condM (fun s => s.t22) (m158_2) (skipM)))) (m158_1))
noncomputable def m158_6 : Mo Fr158 := fun s => some (.nrm, { s with t4 := 0 })
noncomputable def m158_7 : Mo Fr158 := fun s => some (.nrm, { s with t3 := 0 })
noncomputable def m158_8 : Mo Fr158 := fun s => some (.nrm, s)
noncomputable def M158 : Mo Fr158 := seqM (m158_8) (seqM (m158_7) (seqM (seqM (m158_6) (blockM 0 (loopM (L158_5)))) (seqM (m158_0) (retM))))
def Spec158 (f : (List Int) → Option Int) : Prop := ∀ (x0 : (List Int)) (vx0_0 : AVal) (_ : Sl (rI .i64) x0 vx0_0) (r : Int), f x0 = some r → ∀ h, run Cl 158 [vx0_0] h = some (.ret (.int .i64 r), h)
theorem Spec158_of {f g : (List Int) → Option Int} (hg : Spec158 g) (h : ∀ x0 r, f x0 = some r → g x0 = some r) : Spec158 f := fun x0 v0_ w0_ r hr => hg x0 v0_ w0_ r (h x0 r hr)
theorem R158_0 (pe pr) : Ref Cl P158_0 (Cat [true, true, true, false] (bodyOf Tryz.f158)) m158_0 (post P158_1 pe pr) := by
  rintro s ⟨t, h⟩ hp x s' hm
  obtain ⟨hl, a3⟩ : P158_0' s t h := hp
  unfold m158_0 at hm
  cases hm
  refine ⟨⟨_, _⟩, by simp only [bodyOf, Tryz.f158, Cat, Zs, awanted, aoper, evalO, put, acallOp, abuiltin, Nat.reduceEqDiff, Nat.reduceLT, ofV, ofCell, ↓reduceIte, hl, a3, CP]; exact rfl, ?_⟩
  show P158_1 _ _
  exact ⟨by simp [hl], by simp [hl]⟩
theorem R158_1 (pe pr) : Ref Cl P158_2 (Cat [true, true, false, true, true, true, true, true] (bodyOf Tryz.f158)) m158_1 (post P158_2 pe pr) := by
  rintro s ⟨t, h⟩ hp x s' hm
  obtain ⟨w0_0, hl, a0, r0_0, a3, a4⟩ : P158_2' s t h := hp
  unfold m158_1 at hm
  cases hm
  refine ⟨⟨_, _⟩, by simp only [bodyOf, Tryz.f158, Cat, Zs, awanted, aoper, evalO, put, acallOp, abuiltin, Nat.reduceEqDiff, Nat.reduceLT, ofV, ofCell, ↓reduceIte, hl, a0, a3, a4, CP]; exact rfl, ?_⟩
  show P158_2 _ _
  exact ⟨w0_0, by simp [hl], by simp [a0], r0_0, by simp [a3], by simp [hl]⟩
theorem R158_2 (pe pr) : Ref Cl P158_2 (Cat [true, true, false, true, true, true, true, false, true, true, false] (bodyOf Tryz.f158)) m158_2 (post P158_2 pe pr) := by
  rintro s ⟨t, h⟩ hp x s' hm
  obtain ⟨w0_0, hl, a0, r0_0, a3, a4⟩ : P158_2' s t h := hp
  unfold m158_2 at hm
  obtain ⟨y7, hy7, hm⟩ := Option.bind_eq_some_iff.1 hm
  obtain ⟨cu8, du8, eu8, iu8, _⟩ := Sl.ix (rI_p .i64) r0_0 hy7
  subst eu8
  obtain ⟨z9, hz9, hm⟩ := Option.bind_eq_some_iff.1 hm
  have iu10 := G175_spec y7  _ hz9
  obtain ⟨z11, hz11, hm⟩ := Option.bind_eq_some_iff.1 hm
  have iu12 := G117_spec s.t3 z9  _ hz11
  cases hm
  refine ⟨⟨_, _⟩, by simp only [bodyOf, Tryz.f158, Cat, Zs, awanted, aoper, evalO, put, acallOp, abuiltin, Nat.reduceEqDiff, Nat.reduceLT, ofV, ofCell, ↓reduceIte, hl, a0, a3, a4, CP, Ty.ix33, iu8, Ty.ld3, ld_ip, ofc1, List.drop_succ_cons, List.drop_zero, iu10, iu12]; exact rfl, ?_⟩
  show P158_2 _ _
  exact ⟨w0_0, by simp [hl], by simp [a0], r0_0, by simp [hl], by simp [a4]⟩
theorem R158_3 (pe pr) : Ref Cl P158_2 (Cat [true, true, false, true, true, true, true, false, true, false] (bodyOf Tryz.f158)) m158_3 (post P158_3 pe pr) := by
  rintro s ⟨t, h⟩ hp x s' hm
  obtain ⟨w0_0, hl, a0, r0_0, a3, a4⟩ : P158_2' s t h := hp
  unfold m158_3 at hm
  obtain ⟨y15, hy15, hm⟩ := Option.bind_eq_some_iff.1 hm
  obtain ⟨cu16, du16, eu16, iu16, _⟩ := Sl.ix (rI_p .i64) r0_0 hy15
  subst eu16
  cases hb17 : decide (y15 ≥ 0) with
  | true =>
    all_goals (
      try simp only [hb17, Zb] at hm
      cases hm
      refine ⟨⟨_, _⟩, by simp only [bodyOf, Tryz.f158, Cat, Zs, awanted, aoper, evalO, put, acallOp, abuiltin, Nat.reduceEqDiff, Nat.reduceLT, ofV, ofCell, ↓reduceIte, hl, a0, a3, a4, CP, Ty.ix33, iu16, Ty.ld3, ld_ip, ofc1, List.drop_succ_cons, List.drop_zero, hb17]; exact rfl, ?_⟩
      show P158_3 _ _
      exact ⟨w0_0, by simp [hl], by simp [a0], r0_0, by simp [a3], by simp [a4], by simp [hl, hb17]⟩)
  | false =>
    all_goals (
      try simp only [hb17, Zb] at hm
      cases hm
      refine ⟨⟨_, _⟩, by simp only [bodyOf, Tryz.f158, Cat, Zs, awanted, aoper, evalO, put, acallOp, abuiltin, Nat.reduceEqDiff, Nat.reduceLT, ofV, ofCell, ↓reduceIte, hl, a0, a3, a4, CP, Ty.ix33, iu16, Ty.ld3, ld_ip, ofc1, List.drop_succ_cons, List.drop_zero, hb17]; exact rfl, ?_⟩
      show P158_3 _ _
      exact ⟨w0_0, by simp [hl], by simp [a0], r0_0, by simp [a3], by simp [a4], by simp [hl, hb17]⟩)
theorem R158_4 (pe pr) : Ref Cl P158_2 (Cat [true, true, false, true, true, true, false, false] (bodyOf Tryz.f158)) m158_4 (post P158_4 pe pr) := by
  rintro s ⟨t, h⟩ hp x s' hm
  obtain ⟨w0_0, hl, a0, r0_0, a3, a4⟩ : P158_2' s t h := hp
  unfold m158_4 at hm
  have lu19 := fun h => Sl.len r0_0 Ty.un33 h
  cases hm
  refine ⟨⟨_, _⟩, by simp only [bodyOf, Tryz.f158, Cat, Zs, awanted, aoper, evalO, put, acallOp, abuiltin, Nat.reduceEqDiff, Nat.reduceLT, ofV, ofCell, ↓reduceIte, hl, a0, a3, a4, CP, lu19]; exact rfl, ?_⟩
  show P158_4 _ _
  exact ⟨w0_0, by simp [hl], by simp [a0], r0_0, by simp [a3], by simp [a4], by simp [hl]⟩
theorem R158_6 (pe pr) : Ref Cl P158_5 (Cat [true, true, false, false] (bodyOf Tryz.f158)) m158_6 (post P158_2 pe pr) := by
  rintro s ⟨t, h⟩ hp x s' hm
  obtain ⟨w0_0, hl, a0, r0_0, a3⟩ : P158_5' s t h := hp
  unfold m158_6 at hm
  cases hm
  refine ⟨⟨_, _⟩, by simp only [bodyOf, Tryz.f158, Cat, Zs, awanted, aoper, evalO, put, acallOp, abuiltin, Nat.reduceEqDiff, Nat.reduceLT, ofV, ofCell, ↓reduceIte, hl, a0, a3, CP]; exact rfl, ?_⟩
  show P158_2 _ _
  exact ⟨w0_0, by simp [hl], by simp [a0], r0_0, by simp [a3], by simp [hl]⟩
theorem R158_7 (pe pr) : Ref Cl P158_6 (Cat [true, false] (bodyOf Tryz.f158)) m158_7 (post P158_5 pe pr) := by
  rintro s ⟨t, h⟩ hp x s' hm
  obtain ⟨w0_0, hl, a0, r0_0⟩ : P158_6' s t h := hp
  unfold m158_7 at hm
  cases hm
  refine ⟨⟨_, _⟩, by simp only [bodyOf, Tryz.f158, Cat, Zs, awanted, aoper, evalO, put, acallOp, abuiltin, Nat.reduceEqDiff, Nat.reduceLT, ofV, ofCell, ↓reduceIte, hl, a0, CP]; exact rfl, ?_⟩
  show P158_5 _ _
  exact ⟨w0_0, by simp [hl], by simp [a0], r0_0, by simp [hl]⟩
theorem R158_8 (pe pr) : Ref Cl P158_6 (Cat [false] (bodyOf Tryz.f158)) m158_8 (post P158_6 pe pr) := by
  rintro s ⟨t, h⟩ hp x s' hm
  obtain ⟨w0_0, hl, a0, r0_0⟩ : P158_6' s t h := hp
  unfold m158_8 at hm
  cases hm
  refine ⟨⟨_, _⟩, by simp only [bodyOf, Tryz.f158, Cat, Zs, awanted, aoper, evalO, put, acallOp, abuiltin, Nat.reduceEqDiff, Nat.reduceLT, ofV, ofCell, ↓reduceIte, hl, a0, CP]; exact rfl, ?_⟩
  show P158_6 _ _
  exact ⟨w0_0, by simp [hl], by simp [a0], r0_0⟩
theorem B158 : Ref Cl P158_6 (bodyOf Tryz.f158) (M158) (post P158_1 (fun _ _ _ => False) P158_1) := by
  rw [show bodyOf Tryz.f158 = .seq (Cat [false] (bodyOf Tryz.f158)) (.seq (Cat [true, false] (bodyOf Tryz.f158)) (.seq (.seq (Cat [true, true, false, false] (bodyOf Tryz.f158)) (.block 0 (.loop (.seq (.seq (Cat [true, true, false, true, true, true, false, false] (bodyOf Tryz.f158)) (.cond (.tmp 8) (.skip) (.exit 0))) (.seq (.block 1 (.seq (Cat [true, true, false, true, true, true, true, false, true, false] (bodyOf Tryz.f158)) (.cond (.tmp 22) (Cat [true, true, false, true, true, true, true, false, true, true, false] (bodyOf Tryz.f158)) (.skip)))) (Cat [true, true, false, true, true, true, true, true] (bodyOf Tryz.f158))))))) (.seq (Cat [true, true, true, false] (bodyOf Tryz.f158)) (.ret)))) from rfl]
  unfold M158
  exact ref_seq (R158_8 _ _) (ref_seq (R158_7 _ _) (ref_seq (ref_seq (R158_6 _ _) (ref_block (ref_loop (P := P158_2) (ref_weak (P' := P158_2) (fun s st hp => hp) (ref_seq (ref_seq (R158_4 _ _) (ref_cond (P := P158_4) (c := fun s => s.t8) (fun s st hp => by obtain ⟨w0_0, hl, a0, r0_0, a3, a4, a8⟩ := (hp : P158_4' s st.tmps st.h); simp only [evalO, a8, Option.getD_some]) (ref_weak (P' := P158_2) (fun s st hp => by obtain ⟨w0_0, hl, a0, r0_0, a3, a4, a8⟩ := (hp : P158_4' s st.tmps st.h); exact (⟨w0_0, hl, a0, r0_0, a3, a4⟩ : P158_2' s st.tmps st.h)) (ref_skip (fun s st hp => hp))) (ref_weak (P' := P158_0) (fun s st hp => by obtain ⟨w0_0, hl, a0, r0_0, a3, a4, a8⟩ := (hp : P158_4' s st.tmps st.h); exact (⟨hl, a3⟩ : P158_0' s st.tmps st.h)) (ref_exit (fun s st hp => hp))))) (ref_seq (ref_block (ref_seq (R158_3 _ _) (ref_cond (P := P158_3) (c := fun s => s.t22) (fun s st hp => by obtain ⟨w0_0, hl, a0, r0_0, a3, a4, a22⟩ := (hp : P158_3' s st.tmps st.h); simp only [evalO, a22, Option.getD_some]) (ref_weak (P' := P158_2) (fun s st hp => by obtain ⟨w0_0, hl, a0, r0_0, a3, a4, a22⟩ := (hp : P158_3' s st.tmps st.h); exact (⟨w0_0, hl, a0, r0_0, a3, a4⟩ : P158_2' s st.tmps st.h)) (R158_2 _ _)) (ref_weak (P' := P158_2) (fun s st hp => by obtain ⟨w0_0, hl, a0, r0_0, a3, a4, a22⟩ := (hp : P158_3' s st.tmps st.h); exact (⟨w0_0, hl, a0, r0_0, a3, a4⟩ : P158_2' s st.tmps st.h)) (ref_skip (fun s st hp => hp)))))) (R158_1 _ _))))))) (ref_seq (R158_0 _ _) (ref_ret (fun s st hp => hp)))))
noncomputable def G158 (x0 : (List Int)) : Option Int := match M158 { (default : Fr158) with t0 := x0 } with
  | some (.nrm, s) => some s.t2
  | some (.ret, s) => some s.t2
  | _ => none
theorem G158_spec : Spec158 (G158) := by
  intro x0 vx0_0 hvx0_0 r hr
  unfold G158 at hr
  cases hm : M158 { (default : Fr158) with t0 := x0 } with
  | none => rw [hm] at hr; cases hr
  | some q =>
    obtain ⟨x, s⟩ := q
    rw [hm] at hr
    have hx : x = .nrm ∨ x = .ret := by cases x <;> first | exact .inl rfl | exact .inr rfl | cases hr
    have hr : s.t2 = r := by cases x <;> first | exact Option.some.inj hr | cases hr
    subst hr
    have hp0 : P158_6' ({ (default : Fr158) with t0 := x0 }) (slots Tryz.f158 (stripL [vx0_0])) bare := ⟨(strip vx0_0 : AVal), rfl, rfl, hvx0_0.strip (rI_p .i64)⟩
    obtain ⟨v, hR, hrun⟩ := run_of_ref (C := Cl) (f := 158) (fn := Tryz.f158) Tryz.func158 rfl rfl rfl rfl (args := [vx0_0]) (by simp only [refsL, refs, List.append_nil, hvx0_0.refs (rI_p .i64)]) (B158) (s0 := { (default : Fr158) with t0 := x0 }) hp0 hm hx (R := fun v => v = .int .i64 s.t2) (by
      have key : ∀ st : ASt, P158_1 s st → ∃ vs v, aresults Cl Tryz.f158.results.toList st = some vs ∧ Nrm [] st.h (packRes vs) v ∧ (fun v => v = .int .i64 s.t2) v := by
        intro st hp
        obtain ⟨hl, a2⟩ := (hp : P158_1' s st.tmps st.h)
        exact ⟨[.int .i64 s.t2], _, by simp only [show Tryz.f158.results.toList = [ResultVar.tmp 2] from rfl, aresults, ares1, CP, a2, Option.getD_some], (Nrm.of (w := .int .i64 s.t2) (by simp only [refsL, refs, List.append_nil])), rfl⟩
      intro st hq
      rcases hx with rfl | rfl
      · exact key st hq
      · exact key st hq)
    subst hR
    exact hrun
/-! ### caisson/caissonref16.isSet -/
structure Fr161 where
  t0 : Int
  t2 : Bool
instance : Inhabited Fr161 := ⟨⟨0, false⟩⟩
def P161_0' (s : Fr161) (t : List AVal) (h : AHeap) : Prop := t.length = 9 ∧ t[0]? = some (.int .i64 s.t0)
def P161_0 (s : Fr161) (st : ASt) : Prop := P161_0' s st.tmps st.h
def P161_1' (s : Fr161) (t : List AVal) (h : AHeap) : Prop := t.length = 9 ∧ t[2]? = some (.bool s.t2)
def P161_1 (s : Fr161) (st : ASt) : Prop := P161_1' s st.tmps st.h
noncomputable def m161_0 : Mo Fr161 := fun s => some (.nrm, { s with t2 := ((decide (s.t0 ≥ 0)) && (decide (s.t0 < 64))) })
noncomputable def m161_1 : Mo Fr161 := fun s => some (.nrm, s)
noncomputable def M161 : Mo Fr161 := seqM (m161_1) (seqM (m161_0) (retM))
def Spec161 (f : Int → Option Bool) : Prop := ∀ (x0 : Int) (r : Bool), f x0 = some r → ∀ h, run Cl 161 [.int .i64 x0] h = some (.ret (.bool r), h)
theorem Spec161_of {f g : Int → Option Bool} (hg : Spec161 g) (h : ∀ x0 r, f x0 = some r → g x0 = some r) : Spec161 f := fun x0 r hr => hg x0 r (h x0 r hr)
theorem R161_0 (pe pr) : Ref Cl P161_0 (Cat [true, false] (bodyOf Tryz.f161)) m161_0 (post P161_1 pe pr) := by
  rintro s ⟨t, h⟩ hp x s' hm
  obtain ⟨hl, a0⟩ : P161_0' s t h := hp
  unfold m161_0 at hm
  cases hb1 : decide (s.t0 ≥ 0) with
  | true =>
    all_goals (
      try simp only [hb1, Zb] at hm
      cases hm
      refine ⟨⟨_, _⟩, by simp only [bodyOf, Tryz.f161, Cat, Zs, awanted, aoper, evalO, put, acallOp, abuiltin, Nat.reduceEqDiff, Nat.reduceLT, ofV, ofCell, ↓reduceIte, hl, a0, CP, hb1]; exact rfl, ?_⟩
      show P161_1 _ _
      exact ⟨by simp [hl], by simp [hl, hb1]⟩)
  | false =>
    all_goals (
      try simp only [hb1, Zb] at hm
      cases hm
      refine ⟨⟨_, _⟩, by simp only [bodyOf, Tryz.f161, Cat, Zs, awanted, aoper, evalO, put, acallOp, abuiltin, Nat.reduceEqDiff, Nat.reduceLT, ofV, ofCell, ↓reduceIte, hl, a0, CP, hb1]; exact rfl, ?_⟩
      show P161_1 _ _
      exact ⟨by simp [hl], by simp [hl, hb1]⟩)
theorem R161_1 (pe pr) : Ref Cl P161_0 (Cat [false] (bodyOf Tryz.f161)) m161_1 (post P161_0 pe pr) := by
  rintro s ⟨t, h⟩ hp x s' hm
  obtain ⟨hl, a0⟩ : P161_0' s t h := hp
  unfold m161_1 at hm
  cases hm
  refine ⟨⟨_, _⟩, by simp only [bodyOf, Tryz.f161, Cat, Zs, awanted, aoper, evalO, put, acallOp, abuiltin, Nat.reduceEqDiff, Nat.reduceLT, ofV, ofCell, ↓reduceIte, hl, a0, CP]; exact rfl, ?_⟩
  show P161_0 _ _
  exact ⟨by simp [hl], by simp [a0]⟩
theorem B161 : Ref Cl P161_0 (bodyOf Tryz.f161) (M161) (post P161_1 (fun _ _ _ => False) P161_1) := by
  rw [show bodyOf Tryz.f161 = .seq (Cat [false] (bodyOf Tryz.f161)) (.seq (Cat [true, false] (bodyOf Tryz.f161)) (.ret)) from rfl]
  unfold M161
  exact ref_seq (R161_1 _ _) (ref_seq (R161_0 _ _) (ref_ret (fun s st hp => hp)))
noncomputable def G161 (x0 : Int) : Option Bool := match M161 { (default : Fr161) with t0 := x0 } with
  | some (.nrm, s) => some s.t2
  | some (.ret, s) => some s.t2
  | _ => none
theorem G161_spec : Spec161 (G161) := by
  intro x0 r hr
  unfold G161 at hr
  cases hm : M161 { (default : Fr161) with t0 := x0 } with
  | none => rw [hm] at hr; cases hr
  | some q =>
    obtain ⟨x, s⟩ := q
    rw [hm] at hr
    have hx : x = .nrm ∨ x = .ret := by cases x <;> first | exact .inl rfl | exact .inr rfl | cases hr
    have hr : s.t2 = r := by cases x <;> first | exact Option.some.inj hr | cases hr
    subst hr
    have hp0 : P161_0' ({ (default : Fr161) with t0 := x0 }) (slots Tryz.f161 (stripL [.int .i64 x0])) bare := ⟨rfl, rfl⟩
    obtain ⟨v, hR, hrun⟩ := run_of_ref (C := Cl) (f := 161) (fn := Tryz.f161) Tryz.func161 rfl rfl rfl rfl (args := [.int .i64 x0]) (by simp only [refsL, refs, List.append_nil]) (B161) (s0 := { (default : Fr161) with t0 := x0 }) hp0 hm hx (R := fun v => v = .bool s.t2) (by
      have key : ∀ st : ASt, P161_1 s st → ∃ vs v, aresults Cl Tryz.f161.results.toList st = some vs ∧ Nrm [] st.h (packRes vs) v ∧ (fun v => v = .bool s.t2) v := by
        intro st hp
        obtain ⟨hl, a2⟩ := (hp : P161_1' s st.tmps st.h)
        exact ⟨[.bool s.t2], _, by simp only [show Tryz.f161.results.toList = [ResultVar.tmp 2] from rfl, aresults, ares1, CP, a2, Option.getD_some], (Nrm.of (w := .bool s.t2) (by simp only [refsL, refs, List.append_nil])), rfl⟩
      intro st hq
      rcases hx with rfl | rfl
      · exact key st hq
      · exact key st hq)
    subst hR
    exact hrun
/-! ### caisson/caissonref16.has -/
structure Fr162 where
  t0 : Int
  t1 : Int
  t4 : Bool
  t5 : (List Int)
  t6 : Int
  t12 : Bool
  t20 : Bool
instance : Inhabited Fr162 := ⟨⟨0, 0, false, [], 0, false, false⟩⟩
def P162_0' (s : Fr162) (t : List AVal) (h : AHeap) : Prop := t.length = 21 ∧ True
def P162_0 (s : Fr162) (st : ASt) : Prop := P162_0' s st.tmps st.h
def P162_1' (s : Fr162) (t : List AVal) (h : AHeap) : Prop := t.length = 21 ∧ t[4]? = some (.bool s.t4)
def P162_1 (s : Fr162) (st : ASt) : Prop := P162_1' s st.tmps st.h
def P162_2' (s : Fr162) (t : List AVal) (h : AHeap) : Prop := ∃ w5_0, t.length = 21 ∧ t[1]? = some (.int .i64 s.t1) ∧ t[5]? = some w5_0 ∧ Sl (rI .i64) s.t5 w5_0 ∧ t[6]? = some (.int .i64 s.t6)
def P162_2 (s : Fr162) (st : ASt) : Prop := P162_2' s st.tmps st.h
def P162_3' (s : Fr162) (t : List AVal) (h : AHeap) : Prop := ∃ w5_0, t.length = 21 ∧ t[1]? = some (.int .i64 s.t1) ∧ t[5]? = some w5_0 ∧ Sl (rI .i64) s.t5 w5_0 ∧ t[6]? = some (.int .i64 s.t6) ∧ t[20]? = some (.bool s.t20)
def P162_3 (s : Fr162) (st : ASt) : Prop := P162_3' s st.tmps st.h
def P162_4' (s : Fr162) (t : List AVal) (h : AHeap) : Prop := ∃ w5_0, t.length = 21 ∧ t[1]? = some (.int .i64 s.t1) ∧ t[5]? = some w5_0 ∧ Sl (rI .i64) s.t5 w5_0 ∧ t[6]? = some (.int .i64 s.t6) ∧ t[12]? = some (.bool s.t12)
def P162_4 (s : Fr162) (st : ASt) : Prop := P162_4' s st.tmps st.h
def P162_5' (s : Fr162) (t : List AVal) (h : AHeap) : Prop := ∃ w5_0, t.length = 21 ∧ t[1]? = some (.int .i64 s.t1) ∧ t[5]? = some w5_0 ∧ Sl (rI .i64) s.t5 w5_0
def P162_5 (s : Fr162) (st : ASt) : Prop := P162_5' s st.tmps st.h
def P162_6' (s : Fr162) (t : List AVal) (h : AHeap) : Prop := t.length = 21 ∧ t[0]? = some (.int .i64 s.t0) ∧ t[1]? = some (.int .i64 s.t1)
def P162_6 (s : Fr162) (st : ASt) : Prop := P162_6' s st.tmps st.h
noncomputable def m162_0 : Mo Fr162 := fun s => some (.nrm, { s with t4 := false })
noncomputable def m162_1 : Mo Fr162 := fun s => some (.nrm, { s with t6 := IntKind.wrap .i64 (s.t6 + 1) })
noncomputable def m162_2 : Mo Fr162 := fun s => some (.nrm, { s with t4 := true })
noncomputable def m162_3 : Mo Fr162 := fun s => (at? s.t5 s.t6).bind fun y1 => some (.nrm, { s with t20 := (y1 == s.t1) })
noncomputable def m162_4 : Mo Fr162 := fun s => some (.nrm, { s with t12 := decide (s.t6 < (s.t5.length : Int)) })
noncomputable def L162_5 : Mo Fr162 := seqM (seqM (m162_4) (condM (fun s => s.t12) (skipM) (exitM 0))) (seqM (blockM 1 (seqM (m162_3) (condM (fun s => s.t20) (seqM (m162_2) (retM)) (skipM)))) (m162_1))
noncomputable def m162_6 : Mo Fr162 := fun s => some (.nrm, { s with t6 := 0 })
noncomputable def m162_7 : Mo Fr162 := fun s => (G49 s.t0).bind fun z7 => some (.nrm, { s with t5 := z7 })
noncomputable def m162_8 : Mo Fr162 := fun s => some (.nrm, s)
noncomputable def M162 : Mo Fr162 := seqM (m162_8) (seqM (m162_7) (seqM (seqM (m162_6) (blockM 0 (loopM (L162_5)))) (seqM (m162_0) (retM))))
def Spec162 (f : Int → Int → Option Bool) : Prop := ∀ (x0 : Int) (x1 : Int) (r : Bool), f x0 x1 = some r → ∀ h, run Cl 162 [.int .i64 x0, .int .i64 x1] h = some (.ret (.bool r), h)
theorem Spec162_of {f g : Int → Int → Option Bool} (hg : Spec162 g) (h : ∀ x0 x1 r, f x0 x1 = some r → g x0 x1 = some r) : Spec162 f := fun x0 x1 r hr => hg x0 x1 r (h x0 x1 r hr)
theorem R162_0 (pe pr) : Ref Cl P162_0 (Cat [true, true, true, false] (bodyOf Tryz.f162)) m162_0 (post P162_1 pe pr) := by
  rintro s ⟨t, h⟩ hp x s' hm
  obtain ⟨hl, _⟩ : P162_0' s t h := hp
  unfold m162_0 at hm
  cases hm
  refine ⟨⟨_, _⟩, by simp only [bodyOf, Tryz.f162, Cat, Zs, awanted, aoper, evalO, put, acallOp, abuiltin, Nat.reduceEqDiff, Nat.reduceLT, ofV, ofCell, ↓reduceIte, hl, CP]; exact rfl, ?_⟩
  show P162_1 _ _
  exact ⟨by simp [hl], by simp [hl]⟩
theorem R162_1 (pe pr) : Ref Cl P162_2 (Cat [true, true, false, true, true, true, true, true] (bodyOf Tryz.f162)) m162_1 (post P162_2 pe pr) := by
  rintro s ⟨t, h⟩ hp x s' hm
  obtain ⟨w5_0, hl, a1, a5, r5_0, a6⟩ : P162_2' s t h := hp
  unfold m162_1 at hm
  cases hm
  refine ⟨⟨_, _⟩, by simp only [bodyOf, Tryz.f162, Cat, Zs, awanted, aoper, evalO, put, acallOp, abuiltin, Nat.reduceEqDiff, Nat.reduceLT, ofV, ofCell, ↓reduceIte, hl, a1, a5, a6, CP]; exact rfl, ?_⟩
  show P162_2 _ _
  exact ⟨w5_0, by simp [hl], by simp [a1], by simp [a5], r5_0, by simp [hl]⟩
theorem R162_2 (pe pr) : Ref Cl P162_0 (Cat [true, true, false, true, true, true, true, false, true, true, false, false] (bodyOf Tryz.f162)) m162_2 (post P162_1 pe pr) := by
  rintro s ⟨t, h⟩ hp x s' hm
  obtain ⟨hl, _⟩ : P162_0' s t h := hp
  unfold m162_2 at hm
  cases hm
  refine ⟨⟨_, _⟩, by simp only [bodyOf, Tryz.f162, Cat, Zs, awanted, aoper, evalO, put, acallOp, abuiltin, Nat.reduceEqDiff, Nat.reduceLT, ofV, ofCell, ↓reduceIte, hl, CP]; exact rfl, ?_⟩
  show P162_1 _ _
  exact ⟨by simp [hl], by simp [hl]⟩
theorem R162_3 (pe pr) : Ref Cl P162_2 (Cat [true, true, false, true, true, true, true, false, true, false] (bodyOf Tryz.f162)) m162_3 (post P162_3 pe pr) := by
  rintro s ⟨t, h⟩ hp x s' hm
  obtain ⟨w5_0, hl, a1, a5, r5_0, a6⟩ : P162_2' s t h := hp
  unfold m162_3 at hm
  obtain ⟨y3, hy3, hm⟩ := Option.bind_eq_some_iff.1 hm
  obtain ⟨cu4, du4, eu4, iu4, _⟩ := Sl.ix (rI_p .i64) r5_0 hy3
  subst eu4
  cases hm
  refine ⟨⟨_, _⟩, by simp only [bodyOf, Tryz.f162, Cat, Zs, awanted, aoper, evalO, put, acallOp, abuiltin, Nat.reduceEqDiff, Nat.reduceLT, ofV, ofCell, ↓reduceIte, hl, a1, a5, a6, CP, Ty.ix33, iu4, Ty.ld3, ld_ip, ofc1, List.drop_succ_cons, List.drop_zero]; exact rfl, ?_⟩
  show P162_3 _ _
  exact ⟨w5_0, by simp [hl], by simp [a1], by simp [a5], r5_0, by simp [a6], by simp [hl]⟩
theorem R162_4 (pe pr) : Ref Cl P162_2 (Cat [true, true, false, true, true, true, false, false] (bodyOf Tryz.f162)) m162_4 (post P162_4 pe pr) := by
  rintro s ⟨t, h⟩ hp x s' hm
  obtain ⟨w5_0, hl, a1, a5, r5_0, a6⟩ : P162_2' s t h := hp
  unfold m162_4 at hm
  have lu6 := fun h => Sl.len r5_0 Ty.un33 h
  cases hm
  refine ⟨⟨_, _⟩, by simp only [bodyOf, Tryz.f162, Cat, Zs, awanted, aoper, evalO, put, acallOp, abuiltin, Nat.reduceEqDiff, Nat.reduceLT, ofV, ofCell, ↓reduceIte, hl, a1, a5, a6, CP, lu6]; exact rfl, ?_⟩
  show P162_4 _ _
  exact ⟨w5_0, by simp [hl], by simp [a1], by simp [a5], r5_0, by simp [a6], by simp [hl]⟩
theorem R162_6 (pe pr) : Ref Cl P162_5 (Cat [true, true, false, false] (bodyOf Tryz.f162)) m162_6 (post P162_2 pe pr) := by
  rintro s ⟨t, h⟩ hp x s' hm
  obtain ⟨w5_0, hl, a1, a5, r5_0⟩ : P162_5' s t h := hp
  unfold m162_6 at hm
  cases hm
  refine ⟨⟨_, _⟩, by simp only [bodyOf, Tryz.f162, Cat, Zs, awanted, aoper, evalO, put, acallOp, abuiltin, Nat.reduceEqDiff, Nat.reduceLT, ofV, ofCell, ↓reduceIte, hl, a1, a5, CP]; exact rfl, ?_⟩
  show P162_2 _ _
  exact ⟨w5_0, by simp [hl], by simp [a1], by simp [a5], r5_0, by simp [hl]⟩
theorem R162_7 (pe pr) : Ref Cl P162_6 (Cat [true, false] (bodyOf Tryz.f162)) m162_7 (post P162_5 pe pr) := by
  rintro s ⟨t, h⟩ hp x s' hm
  obtain ⟨hl, a0, a1⟩ : P162_6' s t h := hp
  unfold m162_7 at hm
  obtain ⟨z9, hz9, hm⟩ := Option.bind_eq_some_iff.1 hm
  obtain ⟨bu10_0, gu10_0, iu10⟩ := G49_spec s.t0  _ hz9
  cases hm
  refine ⟨⟨_, _⟩, by simp only [bodyOf, Tryz.f162, Cat, Zs, awanted, aoper, evalO, put, acallOp, abuiltin, Nat.reduceEqDiff, Nat.reduceLT, ofV, ofCell, ↓reduceIte, hl, a0, a1, CP, iu10]; exact rfl, ?_⟩
  show P162_5 _ _
  exact ⟨bu10_0, by simp [hl], by simp [a1], by simp [hl], gu10_0⟩
theorem R162_8 (pe pr) : Ref Cl P162_6 (Cat [false] (bodyOf Tryz.f162)) m162_8 (post P162_6 pe pr) := by
  rintro s ⟨t, h⟩ hp x s' hm
  obtain ⟨hl, a0, a1⟩ : P162_6' s t h := hp
  unfold m162_8 at hm
  cases hm
  refine ⟨⟨_, _⟩, by simp only [bodyOf, Tryz.f162, Cat, Zs, awanted, aoper, evalO, put, acallOp, abuiltin, Nat.reduceEqDiff, Nat.reduceLT, ofV, ofCell, ↓reduceIte, hl, a0, a1, CP]; exact rfl, ?_⟩
  show P162_6 _ _
  exact ⟨by simp [hl], by simp [a0], by simp [a1]⟩
theorem B162 : Ref Cl P162_6 (bodyOf Tryz.f162) (M162) (post P162_1 (fun _ _ _ => False) P162_1) := by
  rw [show bodyOf Tryz.f162 = .seq (Cat [false] (bodyOf Tryz.f162)) (.seq (Cat [true, false] (bodyOf Tryz.f162)) (.seq (.seq (Cat [true, true, false, false] (bodyOf Tryz.f162)) (.block 0 (.loop (.seq (.seq (Cat [true, true, false, true, true, true, false, false] (bodyOf Tryz.f162)) (.cond (.tmp 12) (.skip) (.exit 0))) (.seq (.block 1 (.seq (Cat [true, true, false, true, true, true, true, false, true, false] (bodyOf Tryz.f162)) (.cond (.tmp 20) (.seq (Cat [true, true, false, true, true, true, true, false, true, true, false, false] (bodyOf Tryz.f162)) (.ret)) (.skip)))) (Cat [true, true, false, true, true, true, true, true] (bodyOf Tryz.f162))))))) (.seq (Cat [true, true, true, false] (bodyOf Tryz.f162)) (.ret)))) from rfl]
  unfold M162
  exact ref_seq (R162_8 _ _) (ref_seq (R162_7 _ _) (ref_seq (ref_seq (R162_6 _ _) (ref_block (ref_loop (P := P162_2) (ref_weak (P' := P162_2) (fun s st hp => hp) (ref_seq (ref_seq (R162_4 _ _) (ref_cond (P := P162_4) (c := fun s => s.t12) (fun s st hp => by obtain ⟨w5_0, hl, a1, a5, r5_0, a6, a12⟩ := (hp : P162_4' s st.tmps st.h); simp only [evalO, a12, Option.getD_some]) (ref_weak (P' := P162_2) (fun s st hp => by obtain ⟨w5_0, hl, a1, a5, r5_0, a6, a12⟩ := (hp : P162_4' s st.tmps st.h); exact (⟨w5_0, hl, a1, a5, r5_0, a6⟩ : P162_2' s st.tmps st.h)) (ref_skip (fun s st hp => hp))) (ref_weak (P' := P162_0) (fun s st hp => by obtain ⟨w5_0, hl, a1, a5, r5_0, a6, a12⟩ := (hp : P162_4' s st.tmps st.h); exact (⟨hl, trivial⟩ : P162_0' s st.tmps st.h)) (ref_exit (fun s st hp => hp))))) (ref_seq (ref_block (ref_seq (R162_3 _ _) (ref_cond (P := P162_3) (c := fun s => s.t20) (fun s st hp => by obtain ⟨w5_0, hl, a1, a5, r5_0, a6, a20⟩ := (hp : P162_3' s st.tmps st.h); simp only [evalO, a20, Option.getD_some]) (ref_weak (P' := P162_0) (fun s st hp => by obtain ⟨w5_0, hl, a1, a5, r5_0, a6, a20⟩ := (hp : P162_3' s st.tmps st.h); exact (⟨hl, trivial⟩ : P162_0' s st.tmps st.h)) (ref_seq (R162_2 _ _) (ref_ret (fun s st hp => hp)))) (ref_weak (P' := P162_2) (fun s st hp => by obtain ⟨w5_0, hl, a1, a5, r5_0, a6, a20⟩ := (hp : P162_3' s st.tmps st.h); exact (⟨w5_0, hl, a1, a5, r5_0, a6⟩ : P162_2' s st.tmps st.h)) (ref_skip (fun s st hp => hp)))))) (R162_1 _ _))))))) (ref_seq (R162_0 _ _) (ref_ret (fun s st hp => hp)))))
noncomputable def G162 (x0 : Int) (x1 : Int) : Option Bool := match M162 { (default : Fr162) with t0 := x0, t1 := x1 } with
  | some (.nrm, s) => some s.t4
  | some (.ret, s) => some s.t4
  | _ => none
theorem G162_spec : Spec162 (G162) := by
  intro x0 x1 r hr
  unfold G162 at hr
  cases hm : M162 { (default : Fr162) with t0 := x0, t1 := x1 } with
  | none => rw [hm] at hr; cases hr
  | some q =>
    obtain ⟨x, s⟩ := q
    rw [hm] at hr
    have hx : x = .nrm ∨ x = .ret := by cases x <;> first | exact .inl rfl | exact .inr rfl | cases hr
    have hr : s.t4 = r := by cases x <;> first | exact Option.some.inj hr | cases hr
    subst hr
    have hp0 : P162_6' ({ (default : Fr162) with t0 := x0, t1 := x1 }) (slots Tryz.f162 (stripL [.int .i64 x0, .int .i64 x1])) bare := ⟨rfl, rfl, rfl⟩
    obtain ⟨v, hR, hrun⟩ := run_of_ref (C := Cl) (f := 162) (fn := Tryz.f162) Tryz.func162 rfl rfl rfl rfl (args := [.int .i64 x0, .int .i64 x1]) (by simp only [refsL, refs, List.append_nil]) (B162) (s0 := { (default : Fr162) with t0 := x0, t1 := x1 }) hp0 hm hx (R := fun v => v = .bool s.t4) (by
      have key : ∀ st : ASt, P162_1 s st → ∃ vs v, aresults Cl Tryz.f162.results.toList st = some vs ∧ Nrm [] st.h (packRes vs) v ∧ (fun v => v = .bool s.t4) v := by
        intro st hp
        obtain ⟨hl, a4⟩ := (hp : P162_1' s st.tmps st.h)
        exact ⟨[.bool s.t4], _, by simp only [show Tryz.f162.results.toList = [ResultVar.tmp 4] from rfl, aresults, ares1, CP, a4, Option.getD_some], (Nrm.of (w := .bool s.t4) (by simp only [refsL, refs, List.append_nil])), rfl⟩
      intro st hq
      rcases hx with rfl | rfl
      · exact key st hq
      · exact key st hq)
    subst hR
    exact hrun
/-! ### caisson/caissonref16.Covers -/
structure Fr86 where
  t0 : Int
  t1 : Int
  t4 : Bool
  t5 : Bool
  t6 : Bool
  t7 : Int
  t8 : Bool
  t9 : Bool
  t19 : Bool
  t21 : Bool
  t34 : Bool
instance : Inhabited Fr86 := ⟨⟨0, 0, false, false, false, 0, false, false, false, false, false⟩⟩
def P86_0' (s : Fr86) (t : List AVal) (h : AHeap) : Prop := t.length = 35 ∧ True
def P86_0 (s : Fr86) (st : ASt) : Prop := P86_0' s st.tmps st.h
def P86_1' (s : Fr86) (t : List AVal) (h : AHeap) : Prop := t.length = 35 ∧ t[4]? = some (.bool s.t4)
def P86_1 (s : Fr86) (st : ASt) : Prop := P86_1' s st.tmps st.h
def P86_2' (s : Fr86) (t : List AVal) (h : AHeap) : Prop := t.length = 35 ∧ t[0]? = some (.int .i64 s.t0) ∧ t[1]? = some (.int .i64 s.t1) ∧ t[7]? = some (.int .i64 s.t7)
def P86_2 (s : Fr86) (st : ASt) : Prop := P86_2' s st.tmps st.h
def P86_3' (s : Fr86) (t : List AVal) (h : AHeap) : Prop := t.length = 35 ∧ t[0]? = some (.int .i64 s.t0) ∧ t[1]? = some (.int .i64 s.t1) ∧ t[7]? = some (.int .i64 s.t7) ∧ t[34]? = some (.bool s.t34)
def P86_3 (s : Fr86) (st : ASt) : Prop := P86_3' s st.tmps st.h
def P86_4' (s : Fr86) (t : List AVal) (h : AHeap) : Prop := t.length = 35 ∧ t[0]? = some (.int .i64 s.t0) ∧ t[1]? = some (.int .i64 s.t1) ∧ t[7]? = some (.int .i64 s.t7) ∧ t[8]? = some (.bool s.t8) ∧ t[9]? = some (.bool s.t9)
def P86_4 (s : Fr86) (st : ASt) : Prop := P86_4' s st.tmps st.h
def P86_5' (s : Fr86) (t : List AVal) (h : AHeap) : Prop := t.length = 35 ∧ t[0]? = some (.int .i64 s.t0) ∧ t[1]? = some (.int .i64 s.t1) ∧ t[7]? = some (.int .i64 s.t7) ∧ t[8]? = some (.bool s.t8)
def P86_5 (s : Fr86) (st : ASt) : Prop := P86_5' s st.tmps st.h
def P86_6' (s : Fr86) (t : List AVal) (h : AHeap) : Prop := t.length = 35 ∧ t[0]? = some (.int .i64 s.t0) ∧ t[1]? = some (.int .i64 s.t1) ∧ t[7]? = some (.int .i64 s.t7) ∧ t[21]? = some (.bool s.t21)
def P86_6 (s : Fr86) (st : ASt) : Prop := P86_6' s st.tmps st.h
def P86_7' (s : Fr86) (t : List AVal) (h : AHeap) : Prop := t.length = 35 ∧ t[0]? = some (.int .i64 s.t0) ∧ t[1]? = some (.int .i64 s.t1)
def P86_7 (s : Fr86) (st : ASt) : Prop := P86_7' s st.tmps st.h
def P86_8' (s : Fr86) (t : List AVal) (h : AHeap) : Prop := t.length = 35 ∧ t[0]? = some (.int .i64 s.t0) ∧ t[1]? = some (.int .i64 s.t1) ∧ t[19]? = some (.bool s.t19)
def P86_8 (s : Fr86) (st : ASt) : Prop := P86_8' s st.tmps st.h
def P86_9' (s : Fr86) (t : List AVal) (h : AHeap) : Prop := t.length = 35 ∧ t[0]? = some (.int .i64 s.t0) ∧ t[1]? = some (.int .i64 s.t1) ∧ t[5]? = some (.bool s.t5) ∧ t[6]? = some (.bool s.t6)
def P86_9 (s : Fr86) (st : ASt) : Prop := P86_9' s st.tmps st.h
def P86_10' (s : Fr86) (t : List AVal) (h : AHeap) : Prop := t.length = 35 ∧ t[0]? = some (.int .i64 s.t0) ∧ t[1]? = some (.int .i64 s.t1) ∧ t[5]? = some (.bool s.t5)
def P86_10 (s : Fr86) (st : ASt) : Prop := P86_10' s st.tmps st.h
noncomputable def m86_0 : Mo Fr86 := fun s => some (.nrm, { s with t4 := true })
noncomputable def m86_1 : Mo Fr86 := fun s => some (.nrm, { s with t7 := IntKind.wrap .i64 (s.t7 + 1) })
noncomputable def m86_2 : Mo Fr86 := fun s => some (.nrm, { s with t4 := false })
noncomputable def m86_3 : Mo Fr86 := fun s => some (.nrm, { s with t34 := (s.t8 && (!s.t9)) })
noncomputable def m86_4 : Mo Fr86 := fun s => (G162 s.t0 s.t7).bind fun z2 => some (.nrm, { s with t9 := z2 })
noncomputable def m86_5 : Mo Fr86 := fun s => (G162 s.t1 s.t7).bind fun z6 => some (.nrm, { s with t8 := z6 })
noncomputable def m86_6 : Mo Fr86 := fun s => some (.nrm, { s with t21 := decide (s.t7 < 6) })
noncomputable def L86_7 : Mo Fr86 := seqM (seqM (m86_6) (condM (fun s => s.t21) (skipM) (exitM 0))) (seqM (blockM 1 (seqM (m86_5) (seqM (m86_4) (seqM (m86_3) (condM (fun s => s.t34) (seqM (m86_2) (retM)) (skipM)))))) (m86_1))
noncomputable def m86_8 : Mo Fr86 := fun s => some (.nrm, { s with t7 := 0 })
noncomputable def m86_9 : Mo Fr86 := fun s => some (.nrm, { s with t4 := false })
noncomputable def m86_10 : Mo Fr86 := fun s => some (.nrm, { s with t19 := ((!s.t5) || (!s.t6)) })
noncomputable def m86_11 : Mo Fr86 := fun s => (G161 s.t1).bind fun z11 => some (.nrm, { s with t6 := z11 })
noncomputable def m86_12 : Mo Fr86 := fun s => (G161 s.t0).bind fun z15 => some (.nrm, { s with t5 := z15 })
noncomputable def m86_13 : Mo Fr86 := fun s => some (.nrm, s)
noncomputable def M86 : Mo Fr86 := seqM (m86_13) (seqM (m86_12) (seqM (m86_11) (seqM (seqM (m86_10) (condM (fun s => s.t19) (seqM (m86_9) (retM)) (skipM))) (seqM (seqM (m86_8) (blockM 0 (loopM (L86_7)))) (seqM (m86_0) (retM))))))
def Spec86 (f : Int → Int → Option Bool) : Prop := ∀ (x0 : Int) (x1 : Int) (r : Bool), f x0 x1 = some r → ∀ h, run Cl 86 [.int .i64 x0, .int .i64 x1] h = some (.ret (.bool r), h)
theorem Spec86_of {f g : Int → Int → Option Bool} (hg : Spec86 g) (h : ∀ x0 x1 r, f x0 x1 = some r → g x0 x1 = some r) : Spec86 f := fun x0 x1 r hr => hg x0 x1 r (h x0 x1 r hr)
theorem R86_0 (pe pr) : Ref Cl P86_0 (Cat [true, true, true, true, true, false] (bodyOf Tryz.f86)) m86_0 (post P86_1 pe pr) := by
  rintro s ⟨t, h⟩ hp x s' hm
  obtain ⟨hl, _⟩ : P86_0' s t h := hp
  unfold m86_0 at hm
  cases hm
  refine ⟨⟨_, _⟩, by simp only [bodyOf, Tryz.f86, Cat, Zs, awanted, aoper, evalO, put, acallOp, abuiltin, Nat.reduceEqDiff, Nat.reduceLT, ofV, ofCell, ↓reduceIte, hl, CP]; exact rfl, ?_⟩
  show P86_1 _ _
  exact ⟨by simp [hl], by simp [hl]⟩
theorem R86_1 (pe pr) : Ref Cl P86_2 (Cat [true, true, true, true, false, true, true, true, true, true] (bodyOf Tryz.f86)) m86_1 (post P86_2 pe pr) := by
  rintro s ⟨t, h⟩ hp x s' hm
  obtain ⟨hl, a0, a1, a7⟩ : P86_2' s t h := hp
  unfold m86_1 at hm
  cases hm
  refine ⟨⟨_, _⟩, by simp only [bodyOf, Tryz.f86, Cat, Zs, awanted, aoper, evalO, put, acallOp, abuiltin, Nat.reduceEqDiff, Nat.reduceLT, ofV, ofCell, ↓reduceIte, hl, a0, a1, a7, CP]; exact rfl, ?_⟩
  show P86_2 _ _
  exact ⟨by simp [hl], by simp [a0], by simp [a1], by simp [hl]⟩
theorem R86_2 (pe pr) : Ref Cl P86_0 (Cat [true, true, true, true, false, true, true, true, true, false, true, true, true, true, false, false] (bodyOf Tryz.f86)) m86_2 (post P86_1 pe pr) := by
  rintro s ⟨t, h⟩ hp x s' hm
  obtain ⟨hl, _⟩ : P86_0' s t h := hp
  unfold m86_2 at hm
  cases hm
  refine ⟨⟨_, _⟩, by simp only [bodyOf, Tryz.f86, Cat, Zs, awanted, aoper, evalO, put, acallOp, abuiltin, Nat.reduceEqDiff, Nat.reduceLT, ofV, ofCell, ↓reduceIte, hl, CP]; exact rfl, ?_⟩
  show P86_1 _ _
  exact ⟨by simp [hl], by simp [hl]⟩
theorem R86_3 (pe pr) : Ref Cl P86_4 (Cat [true, true, true, true, false, true, true, true, true, false, true, true, true, false] (bodyOf Tryz.f86)) m86_3 (post P86_3 pe pr) := by
  rintro s ⟨t, h⟩ hp x s' hm
  obtain ⟨hl, a0, a1, a7, a8, a9⟩ : P86_4' s t h := hp
  unfold m86_3 at hm
  cases hb1 : s.t8 with
  | true =>
    all_goals (
      try simp only [hb1, Zb] at hm
      cases hm
      refine ⟨⟨_, _⟩, by simp only [bodyOf, Tryz.f86, Cat, Zs, awanted, aoper, evalO, put, acallOp, abuiltin, Nat.reduceEqDiff, Nat.reduceLT, ofV, ofCell, ↓reduceIte, hl, a0, a1, a7, a8, a9, CP, aun_not, hb1]; exact rfl, ?_⟩
      show P86_3 _ _
      exact ⟨by simp [hl], by simp [a0], by simp [a1], by simp [a7], by simp [hl, hb1]⟩)
  | false =>
    all_goals (
      try simp only [hb1, Zb] at hm
      cases hm
      refine ⟨⟨_, _⟩, by simp only [bodyOf, Tryz.f86, Cat, Zs, awanted, aoper, evalO, put, acallOp, abuiltin, Nat.reduceEqDiff, Nat.reduceLT, ofV, ofCell, ↓reduceIte, hl, a0, a1, a7, a8, a9, CP, hb1]; exact rfl, ?_⟩
      show P86_3 _ _
      exact ⟨by simp [hl], by simp [a0], by simp [a1], by simp [a7], by simp [hl, hb1]⟩)
theorem R86_4 (pe pr) : Ref Cl P86_5 (Cat [true, true, true, true, false, true, true, true, true, false, true, true, false] (bodyOf Tryz.f86)) m86_4 (post P86_4 pe pr) := by
  rintro s ⟨t, h⟩ hp x s' hm
  obtain ⟨hl, a0, a1, a7, a8⟩ : P86_5' s t h := hp
  unfold m86_4 at hm
  obtain ⟨z4, hz4, hm⟩ := Option.bind_eq_some_iff.1 hm
  have iu5 := G162_spec s.t0 s.t7  _ hz4
  cases hm
  refine ⟨⟨_, _⟩, by simp only [bodyOf, Tryz.f86, Cat, Zs, awanted, aoper, evalO, put, acallOp, abuiltin, Nat.reduceEqDiff, Nat.reduceLT, ofV, ofCell, ↓reduceIte, hl, a0, a1, a7, a8, CP, iu5]; exact rfl, ?_⟩
  show P86_4 _ _
  exact ⟨by simp [hl], by simp [a0], by simp [a1], by simp [a7], by simp [a8], by simp [hl]⟩
theorem R86_5 (pe pr) : Ref Cl P86_2 (Cat [true, true, true, true, false, true, true, true, true, false, true, false] (bodyOf Tryz.f86)) m86_5 (post P86_5 pe pr) := by
  rintro s ⟨t, h⟩ hp x s' hm
  obtain ⟨hl, a0, a1, a7⟩ : P86_2' s t h := hp
  unfold m86_5 at hm
  obtain ⟨z8, hz8, hm⟩ := Option.bind_eq_some_iff.1 hm
  have iu9 := G162_spec s.t1 s.t7  _ hz8
  cases hm
  refine ⟨⟨_, _⟩, by simp only [bodyOf, Tryz.f86, Cat, Zs, awanted, aoper, evalO, put, acallOp, abuiltin, Nat.reduceEqDiff, Nat.reduceLT, ofV, ofCell, ↓reduceIte, hl, a0, a1, a7, CP, iu9]; exact rfl, ?_⟩
  show P86_5 _ _
  exact ⟨by simp [hl], by simp [a0], by simp [a1], by simp [a7], by simp [hl]⟩
theorem R86_6 (pe pr) : Ref Cl P86_2 (Cat [true, true, true, true, false, true, true, true, false, false] (bodyOf Tryz.f86)) m86_6 (post P86_6 pe pr) := by
  rintro s ⟨t, h⟩ hp x s' hm
  obtain ⟨hl, a0, a1, a7⟩ : P86_2' s t h := hp
  unfold m86_6 at hm
  cases hm
  refine ⟨⟨_, _⟩, by simp only [bodyOf, Tryz.f86, Cat, Zs, awanted, aoper, evalO, put, acallOp, abuiltin, Nat.reduceEqDiff, Nat.reduceLT, ofV, ofCell, ↓reduceIte, hl, a0, a1, a7, CP]; exact rfl, ?_⟩
  show P86_6 _ _
  exact ⟨by simp [hl], by simp [a0], by simp [a1], by simp [a7], by simp [hl]⟩
theorem R86_8 (pe pr) : Ref Cl P86_7 (Cat [true, true, true, true, false, false] (bodyOf Tryz.f86)) m86_8 (post P86_2 pe pr) := by
  rintro s ⟨t, h⟩ hp x s' hm
  obtain ⟨hl, a0, a1⟩ : P86_7' s t h := hp
  unfold m86_8 at hm
  cases hm
  refine ⟨⟨_, _⟩, by simp only [bodyOf, Tryz.f86, Cat, Zs, awanted, aoper, evalO, put, acallOp, abuiltin, Nat.reduceEqDiff, Nat.reduceLT, ofV, ofCell, ↓reduceIte, hl, a0, a1, CP]; exact rfl, ?_⟩
  show P86_2 _ _
  exact ⟨by simp [hl], by simp [a0], by simp [a1], by simp [hl]⟩
theorem R86_9 (pe pr) : Ref Cl P86_0 (Cat [true, true, true, false, true, false, false] (bodyOf Tryz.f86)) m86_9 (post P86_1 pe pr) := by
  rintro s ⟨t, h⟩ hp x s' hm
  obtain ⟨hl, _⟩ : P86_0' s t h := hp
  unfold m86_9 at hm
  cases hm
  refine ⟨⟨_, _⟩, by simp only [bodyOf, Tryz.f86, Cat, Zs, awanted, aoper, evalO, put, acallOp, abuiltin, Nat.reduceEqDiff, Nat.reduceLT, ofV, ofCell, ↓reduceIte, hl, CP]; exact rfl, ?_⟩
  show P86_1 _ _
  exact ⟨by simp [hl], by simp [hl]⟩
theorem R86_10 (pe pr) : Ref Cl P86_9 (Cat [true, true, true, false, false] (bodyOf Tryz.f86)) m86_10 (post P86_8 pe pr) := by
  rintro s ⟨t, h⟩ hp x s' hm
  obtain ⟨hl, a0, a1, a5, a6⟩ : P86_9' s t h := hp
  unfold m86_10 at hm
  cases hb10 : (!s.t5) with
  | true =>
    all_goals (
      try simp only [hb10, Zb] at hm
      cases hm
      refine ⟨⟨_, _⟩, by simp only [bodyOf, Tryz.f86, Cat, Zs, awanted, aoper, evalO, put, acallOp, abuiltin, Nat.reduceEqDiff, Nat.reduceLT, ofV, ofCell, ↓reduceIte, hl, a0, a1, a5, a6, CP, aun_not, hb10]; exact rfl, ?_⟩
      show P86_8 _ _
      exact ⟨by simp [hl], by simp [a0], by simp [a1], by simp [hl, hb10]⟩)
  | false =>
    all_goals (
      try simp only [hb10, Zb] at hm
      cases hm
      refine ⟨⟨_, _⟩, by simp only [bodyOf, Tryz.f86, Cat, Zs, awanted, aoper, evalO, put, acallOp, abuiltin, Nat.reduceEqDiff, Nat.reduceLT, ofV, ofCell, ↓reduceIte, hl, a0, a1, a5, a6, CP, aun_not, hb10]; exact rfl, ?_⟩
      show P86_8 _ _
      exact ⟨by simp [hl], by simp [a0], by simp [a1], by simp [hl, hb10]⟩)
theorem R86_11 (pe pr) : Ref Cl P86_10 (Cat [true, true, false] (bodyOf Tryz.f86)) m86_11 (post P86_9 pe pr) := by
  rintro s ⟨t, h⟩ hp x s' hm
  obtain ⟨hl, a0, a1, a5⟩ : P86_10' s t h := hp
  unfold m86_11 at hm
  obtain ⟨z13, hz13, hm⟩ := Option.bind_eq_some_iff.1 hm
  have iu14 := G161_spec s.t1  _ hz13
  cases hm
  refine ⟨⟨_, _⟩, by simp only [bodyOf, Tryz.f86, Cat, Zs, awanted, aoper, evalO, put, acallOp, abuiltin, Nat.reduceEqDiff, Nat.reduceLT, ofV, ofCell, ↓reduceIte, hl, a0, a1, a5, CP, iu14]; exact rfl, ?_⟩
  show P86_9 _ _
  exact ⟨by simp [hl], by simp [a0], by simp [a1], by simp [a5], by simp [hl]⟩
theorem R86_12 (pe pr) : Ref Cl P86_7 (Cat [true, false] (bodyOf Tryz.f86)) m86_12 (post P86_10 pe pr) := by
  rintro s ⟨t, h⟩ hp x s' hm
  obtain ⟨hl, a0, a1⟩ : P86_7' s t h := hp
  unfold m86_12 at hm
  obtain ⟨z17, hz17, hm⟩ := Option.bind_eq_some_iff.1 hm
  have iu18 := G161_spec s.t0  _ hz17
  cases hm
  refine ⟨⟨_, _⟩, by simp only [bodyOf, Tryz.f86, Cat, Zs, awanted, aoper, evalO, put, acallOp, abuiltin, Nat.reduceEqDiff, Nat.reduceLT, ofV, ofCell, ↓reduceIte, hl, a0, a1, CP, iu18]; exact rfl, ?_⟩
  show P86_10 _ _
  exact ⟨by simp [hl], by simp [a0], by simp [a1], by simp [hl]⟩
theorem R86_13 (pe pr) : Ref Cl P86_7 (Cat [false] (bodyOf Tryz.f86)) m86_13 (post P86_7 pe pr) := by
  rintro s ⟨t, h⟩ hp x s' hm
  obtain ⟨hl, a0, a1⟩ : P86_7' s t h := hp
  unfold m86_13 at hm
  cases hm
  refine ⟨⟨_, _⟩, by simp only [bodyOf, Tryz.f86, Cat, Zs, awanted, aoper, evalO, put, acallOp, abuiltin, Nat.reduceEqDiff, Nat.reduceLT, ofV, ofCell, ↓reduceIte, hl, a0, a1, CP]; exact rfl, ?_⟩
  show P86_7 _ _
  exact ⟨by simp [hl], by simp [a0], by simp [a1]⟩
theorem B86 : Ref Cl P86_7 (bodyOf Tryz.f86) (M86) (post P86_1 (fun _ _ _ => False) P86_1) := by
  rw [show bodyOf Tryz.f86 = .seq (Cat [false] (bodyOf Tryz.f86)) (.seq (Cat [true, false] (bodyOf Tryz.f86)) (.seq (Cat [true, true, false] (bodyOf Tryz.f86)) (.seq (.seq (Cat [true, true, true, false, false] (bodyOf Tryz.f86)) (.cond (.tmp 19) (.seq (Cat [true, true, true, false, true, false, false] (bodyOf Tryz.f86)) (.ret)) (.skip))) (.seq (.seq (Cat [true, true, true, true, false, false] (bodyOf Tryz.f86)) (.block 0 (.loop (.seq (.seq (Cat [true, true, true, true, false, true, true, true, false, false] (bodyOf Tryz.f86)) (.cond (.tmp 21) (.skip) (.exit 0))) (.seq (.block 1 (.seq (Cat [true, true, true, true, false, true, true, true, true, false, true, false] (bodyOf Tryz.f86)) (.seq (Cat [true, true, true, true, false, true, true, true, true, false, true, true, false] (bodyOf Tryz.f86)) (.seq (Cat [true, true, true, true, false, true, true, true, true, false, true, true, true, false] (bodyOf Tryz.f86)) (.cond (.tmp 34) (.seq (Cat [true, true, true, true, false, true, true, true, true, false, true, true, true, true, false, false] (bodyOf Tryz.f86)) (.ret)) (.skip)))))) (Cat [true, true, true, true, false, true, true, true, true, true] (bodyOf Tryz.f86))))))) (.seq (Cat [true, true, true, true, true, false] (bodyOf Tryz.f86)) (.ret)))))) from rfl]
  unfold M86
  exact ref_seq (R86_13 _ _) (ref_seq (R86_12 _ _) (ref_seq (R86_11 _ _) (ref_seq (ref_seq (R86_10 _ _) (ref_cond (P := P86_8) (c := fun s => s.t19) (fun s st hp => by obtain ⟨hl, a0, a1, a19⟩ := (hp : P86_8' s st.tmps st.h); simp only [evalO, a19, Option.getD_some]) (ref_weak (P' := P86_0) (fun s st hp => by obtain ⟨hl, a0, a1, a19⟩ := (hp : P86_8' s st.tmps st.h); exact (⟨hl, trivial⟩ : P86_0' s st.tmps st.h)) (ref_seq (R86_9 _ _) (ref_ret (fun s st hp => hp)))) (ref_weak (P' := P86_7) (fun s st hp => by obtain ⟨hl, a0, a1, a19⟩ := (hp : P86_8' s st.tmps st.h); exact (⟨hl, a0, a1⟩ : P86_7' s st.tmps st.h)) (ref_skip (fun s st hp => hp))))) (ref_seq (ref_seq (R86_8 _ _) (ref_block (ref_loop (P := P86_2) (ref_weak (P' := P86_2) (fun s st hp => hp) (ref_seq (ref_seq (R86_6 _ _) (ref_cond (P := P86_6) (c := fun s => s.t21) (fun s st hp => by obtain ⟨hl, a0, a1, a7, a21⟩ := (hp : P86_6' s st.tmps st.h); simp only [evalO, a21, Option.getD_some]) (ref_weak (P' := P86_2) (fun s st hp => by obtain ⟨hl, a0, a1, a7, a21⟩ := (hp : P86_6' s st.tmps st.h); exact (⟨hl, a0, a1, a7⟩ : P86_2' s st.tmps st.h)) (ref_skip (fun s st hp => hp))) (ref_weak (P' := P86_0) (fun s st hp => by obtain ⟨hl, a0, a1, a7, a21⟩ := (hp : P86_6' s st.tmps st.h); exact (⟨hl, trivial⟩ : P86_0' s st.tmps st.h)) (ref_exit (fun s st hp => hp))))) (ref_seq (ref_block (ref_seq (R86_5 _ _) (ref_seq (R86_4 _ _) (ref_seq (R86_3 _ _) (ref_cond (P := P86_3) (c := fun s => s.t34) (fun s st hp => by obtain ⟨hl, a0, a1, a7, a34⟩ := (hp : P86_3' s st.tmps st.h); simp only [evalO, a34, Option.getD_some]) (ref_weak (P' := P86_0) (fun s st hp => by obtain ⟨hl, a0, a1, a7, a34⟩ := (hp : P86_3' s st.tmps st.h); exact (⟨hl, trivial⟩ : P86_0' s st.tmps st.h)) (ref_seq (R86_2 _ _) (ref_ret (fun s st hp => hp)))) (ref_weak (P' := P86_2) (fun s st hp => by obtain ⟨hl, a0, a1, a7, a34⟩ := (hp : P86_3' s st.tmps st.h); exact (⟨hl, a0, a1, a7⟩ : P86_2' s st.tmps st.h)) (ref_skip (fun s st hp => hp)))))))) (R86_1 _ _))))))) (ref_seq (R86_0 _ _) (ref_ret (fun s st hp => hp)))))))
noncomputable def G86 (x0 : Int) (x1 : Int) : Option Bool := match M86 { (default : Fr86) with t0 := x0, t1 := x1 } with
  | some (.nrm, s) => some s.t4
  | some (.ret, s) => some s.t4
  | _ => none
theorem G86_spec : Spec86 (G86) := by
  intro x0 x1 r hr
  unfold G86 at hr
  cases hm : M86 { (default : Fr86) with t0 := x0, t1 := x1 } with
  | none => rw [hm] at hr; cases hr
  | some q =>
    obtain ⟨x, s⟩ := q
    rw [hm] at hr
    have hx : x = .nrm ∨ x = .ret := by cases x <;> first | exact .inl rfl | exact .inr rfl | cases hr
    have hr : s.t4 = r := by cases x <;> first | exact Option.some.inj hr | cases hr
    subst hr
    have hp0 : P86_7' ({ (default : Fr86) with t0 := x0, t1 := x1 }) (slots Tryz.f86 (stripL [.int .i64 x0, .int .i64 x1])) bare := ⟨rfl, rfl, rfl⟩
    obtain ⟨v, hR, hrun⟩ := run_of_ref (C := Cl) (f := 86) (fn := Tryz.f86) Tryz.func86 rfl rfl rfl rfl (args := [.int .i64 x0, .int .i64 x1]) (by simp only [refsL, refs, List.append_nil]) (B86) (s0 := { (default : Fr86) with t0 := x0, t1 := x1 }) hp0 hm hx (R := fun v => v = .bool s.t4) (by
      have key : ∀ st : ASt, P86_1 s st → ∃ vs v, aresults Cl Tryz.f86.results.toList st = some vs ∧ Nrm [] st.h (packRes vs) v ∧ (fun v => v = .bool s.t4) v := by
        intro st hp
        obtain ⟨hl, a4⟩ := (hp : P86_1' s st.tmps st.h)
        exact ⟨[.bool s.t4], _, by simp only [show Tryz.f86.results.toList = [ResultVar.tmp 4] from rfl, aresults, ares1, CP, a4, Option.getD_some], (Nrm.of (w := .bool s.t4) (by simp only [refsL, refs, List.append_nil])), rfl⟩
      intro st hq
      rcases hx with rfl | rfl
      · exact key st hq
      · exact key st hq)
    subst hR
    exact hrun
/-! ### caisson/caissonref12.Nodes -/
structure Fr20 where
  t0 : TestT
  t1 : Int
  t4 : Int
  t5 : Int
  t11 : Bool
instance : Inhabited Fr20 := ⟨⟨default, 0, 0, 0, false⟩⟩
def P20_0' (s : Fr20) (t : List AVal) (h : AHeap) : Prop := ∃ w0_0, t.length = 30 ∧ t[0]? = some w0_0 ∧ rTestT s.t0 [w0_0] ∧ t[1]? = some (.int .i64 s.t1) ∧ t[5]? = some (.int .i64 s.t5)
def P20_0 (s : Fr20) (st : ASt) : Prop := P20_0' s st.tmps st.h
def P20_1' (s : Fr20) (t : List AVal) (h : AHeap) : Prop := t.length = 30 ∧ t[4]? = some (.int .i64 s.t4)
def P20_1 (s : Fr20) (st : ASt) : Prop := P20_1' s st.tmps st.h
def P20_2' (s : Fr20) (t : List AVal) (h : AHeap) : Prop := ∃ w0_0, t.length = 30 ∧ t[0]? = some w0_0 ∧ rTestT s.t0 [w0_0] ∧ t[1]? = some (.int .i64 s.t1)
def P20_2 (s : Fr20) (st : ASt) : Prop := P20_2' s st.tmps st.h
def P20_3' (s : Fr20) (t : List AVal) (h : AHeap) : Prop := t.length = 30 ∧ True
def P20_3 (s : Fr20) (st : ASt) : Prop := P20_3' s st.tmps st.h
def P20_4' (s : Fr20) (t : List AVal) (h : AHeap) : Prop := ∃ w0_0, t.length = 30 ∧ t[0]? = some w0_0 ∧ rTestT s.t0 [w0_0] ∧ t[1]? = some (.int .i64 s.t1) ∧ t[11]? = some (.bool s.t11)
def P20_4 (s : Fr20) (st : ASt) : Prop := P20_4' s st.tmps st.h
noncomputable def m20_0 (rec20 : TestT → Int → Option Int) : Mo Fr20 := fun s => (s.t0.get).bind fun n1 => (rec20 n1.Right (IntKind.wrap .i64 (s.t1 - s.t5))).bind fun z3 => some (.nrm, { s with t4 := IntKind.wrap .i64 (s.t5 + z3) })
noncomputable def m20_1 (rec20 : TestT → Int → Option Int) : Mo Fr20 := fun s => (s.t0.get).bind fun n9 => (rec20 n9.Left (IntKind.wrap .i64 (s.t1 - 1))).bind fun z11 => some (.nrm, { s with t5 := IntKind.wrap .i64 (1 + z11) })
noncomputable def m20_2 (rec20 : TestT → Int → Option Int) : Mo Fr20 := fun s => some (.nrm, { s with t4 := 0 })
noncomputable def m20_3 (rec20 : TestT → Int → Option Int) : Mo Fr20 := fun s => some (.nrm, { s with t11 := (s.t0.isNil || (decide (s.t1 ≤ 0))) })
noncomputable def m20_4 (rec20 : TestT → Int → Option Int) : Mo Fr20 := fun s => some (.nrm, s)
noncomputable def M20 (rec20 : TestT → Int → Option Int) : Mo Fr20 := seqM (m20_4 rec20) (seqM (seqM (m20_3 rec20) (condM (fun s => s.t11) (seqM (m20_2 rec20) (retM)) (skipM))) (seqM (m20_1 rec20) (seqM (m20_0 rec20) (retM))))
def Spec20 (f : TestT → Int → Option Int) : Prop := ∀ (x0 : TestT) (x1 : Int) (vx0_0 : AVal) (_ : rTestT x0 [vx0_0]) (r : Int), f x0 x1 = some r → ∀ h, run Cl 20 [vx0_0, .int .i64 x1] h = some (.ret (.int .i64 r), h)
theorem Spec20_of {f g : TestT → Int → Option Int} (hg : Spec20 g) (h : ∀ x0 x1 r, f x0 x1 = some r → g x0 x1 = some r) : Spec20 f := fun x0 x1 v0_ w0_ r hr => hg x0 x1 v0_ w0_ r (h x0 x1 r hr)
theorem R20_0 {rec20 : TestT → Int → Option Int} (hrec20 : Spec20 rec20) (pe pr) : Ref Cl P20_0 (Cat [true, true, true, false] (bodyOf Tryz.f20)) (m20_0 rec20) (post P20_1 pe pr) := by
  rintro s ⟨t, h⟩ hp x s' hm
  obtain ⟨w0_0, hl, a0, r0_0, a1, a5⟩ : P20_0' s t h := hp
  unfold m20_0 at hm
  obtain ⟨n5, hn5, hm⟩ := Option.bind_eq_some_iff.1 hm
  obtain ⟨bu6_0, bu6_1, bu6_2, bu6_3, qu6, gu6_0, gu6_1, gu6_2, gu6_3⟩ := rTestT_get r0_0 hn5
  subst qu6
  obtain ⟨z7, hz7, hm⟩ := Option.bind_eq_some_iff.1 hm
  have iu8 := hrec20 n5.Right (IntKind.wrap .i64 (s.t1 - s.t5)) _ gu6_1 _ hz7
  cases hm
  refine ⟨⟨_, _⟩, by simp only [bodyOf, Tryz.f20, Cat, Zs, awanted, aoper, evalO, put, acallOp, abuiltin, Nat.reduceEqDiff, Nat.reduceLT, ofV, ofCell, ↓reduceIte, hl, a0, a1, a5, CP, Ty.fa57_2, dropCells, List.drop_succ_cons, List.drop_zero, Ty.ld32, ld_ip, ofc1, List.drop_succ_cons, List.drop_zero, iu8]; exact rfl, ?_⟩
  show P20_1 _ _
  exact ⟨by simp [hl], by simp [hl]⟩
theorem R20_1 {rec20 : TestT → Int → Option Int} (hrec20 : Spec20 rec20) (pe pr) : Ref Cl P20_2 (Cat [true, true, false] (bodyOf Tryz.f20)) (m20_1 rec20) (post P20_0 pe pr) := by
  rintro s ⟨t, h⟩ hp x s' hm
  obtain ⟨w0_0, hl, a0, r0_0, a1⟩ : P20_2' s t h := hp
  unfold m20_1 at hm
  obtain ⟨n13, hn13, hm⟩ := Option.bind_eq_some_iff.1 hm
  obtain ⟨bu14_0, bu14_1, bu14_2, bu14_3, qu14, gu14_0, gu14_1, gu14_2, gu14_3⟩ := rTestT_get r0_0 hn13
  subst qu14
  obtain ⟨z15, hz15, hm⟩ := Option.bind_eq_some_iff.1 hm
  have iu16 := hrec20 n13.Left (IntKind.wrap .i64 (s.t1 - 1)) _ gu14_0 _ hz15
  cases hm
  refine ⟨⟨_, _⟩, by simp only [bodyOf, Tryz.f20, Cat, Zs, awanted, aoper, evalO, put, acallOp, abuiltin, Nat.reduceEqDiff, Nat.reduceLT, ofV, ofCell, ↓reduceIte, hl, a0, a1, CP, Ty.fa57_1, dropCells, List.drop_succ_cons, List.drop_zero, Ty.ld32, ld_ip, ofc1, List.drop_succ_cons, List.drop_zero, iu16]; exact rfl, ?_⟩
  show P20_0 _ _
  exact ⟨(.iptr [.int .i64 n13.Kind, bu14_0, bu14_1, .bool n13.Meas, .int .i64 n13.Index, .int .i64 n13.Op, bu14_2, bu14_3] : AVal), by simp [hl], by simp [a0], r0_0, by simp [a1], by simp [hl]⟩
theorem R20_2 {rec20 : TestT → Int → Option Int} (hrec20 : Spec20 rec20) (pe pr) : Ref Cl P20_3 (Cat [true, false, true, false, false] (bodyOf Tryz.f20)) (m20_2 rec20) (post P20_1 pe pr) := by
  rintro s ⟨t, h⟩ hp x s' hm
  obtain ⟨hl, _⟩ : P20_3' s t h := hp
  unfold m20_2 at hm
  cases hm
  refine ⟨⟨_, _⟩, by simp only [bodyOf, Tryz.f20, Cat, Zs, awanted, aoper, evalO, put, acallOp, abuiltin, Nat.reduceEqDiff, Nat.reduceLT, ofV, ofCell, ↓reduceIte, hl, CP]; exact rfl, ?_⟩
  show P20_1 _ _
  exact ⟨by simp [hl], by simp [hl]⟩
theorem R20_3 {rec20 : TestT → Int → Option Int} (hrec20 : Spec20 rec20) (pe pr) : Ref Cl P20_2 (Cat [true, false, false] (bodyOf Tryz.f20)) (m20_3 rec20) (post P20_4 pe pr) := by
  rintro s ⟨t, h⟩ hp x s' hm
  obtain ⟨w0_0, hl, a0, r0_0, a1⟩ : P20_2' s t h := hp
  unfold m20_3 at hm
  cases hb17 : s.t0.isNil with
  | true =>
    all_goals (
      try simp only [hb17, Zb] at hm
      obtain ⟨_, qz18⟩ | ⟨qz18, _⟩ := rTestT_nil r0_0
      rotate_left
      · rw [hb17] at qz18; cases qz18
      have z18 : ∀ (xo : Operand) (h : AHeap), abin Cl .eql 32 xo (.const (.pointer none)) h (w0_0) .nilPtr = some (.bool true) := fun xo h => by rw [qz18]; exact Ty.eqn32 xo h
      cases hm
      refine ⟨⟨_, _⟩, by simp only [bodyOf, Tryz.f20, Cat, Zs, awanted, aoper, evalO, put, acallOp, abuiltin, Nat.reduceEqDiff, Nat.reduceLT, ofV, ofCell, ↓reduceIte, hl, a0, a1, CP, z18, hb17]; exact rfl, ?_⟩
      show P20_4 _ _
      exact ⟨w0_0, by simp [hl], by simp [a0], r0_0, by simp [a1], by simp [hl, hb17]⟩)
  | false =>
    all_goals (
      try simp only [hb17, Zb] at hm
      obtain ⟨qz19, _⟩ | ⟨_, csz19, qz19⟩ := rTestT_nil r0_0
      · rw [hb17] at qz19; cases qz19
      have z19 : ∀ (xo yo : Operand) (h : AHeap), abin Cl .eql 32 xo yo h (w0_0) .nilPtr = some (.bool false) := fun xo yo h => by rw [qz19]; exact Ty.eqp32 xo yo h _
      clear qz19
      cases hm
      refine ⟨⟨_, _⟩, by simp only [bodyOf, Tryz.f20, Cat, Zs, awanted, aoper, evalO, put, acallOp, abuiltin, Nat.reduceEqDiff, Nat.reduceLT, ofV, ofCell, ↓reduceIte, hl, a0, a1, CP, z19, hb17]; exact rfl, ?_⟩
      show P20_4 _ _
      exact ⟨w0_0, by simp [hl], by simp [a0], r0_0, by simp [a1], by simp [hl, hb17]⟩)
theorem R20_4 {rec20 : TestT → Int → Option Int} (hrec20 : Spec20 rec20) (pe pr) : Ref Cl P20_2 (Cat [false] (bodyOf Tryz.f20)) (m20_4 rec20) (post P20_2 pe pr) := by
  rintro s ⟨t, h⟩ hp x s' hm
  obtain ⟨w0_0, hl, a0, r0_0, a1⟩ : P20_2' s t h := hp
  unfold m20_4 at hm
  cases hm
  refine ⟨⟨_, _⟩, by simp only [bodyOf, Tryz.f20, Cat, Zs, awanted, aoper, evalO, put, acallOp, abuiltin, Nat.reduceEqDiff, Nat.reduceLT, ofV, ofCell, ↓reduceIte, hl, a0, a1, CP]; exact rfl, ?_⟩
  show P20_2 _ _
  exact ⟨w0_0, by simp [hl], by simp [a0], r0_0, by simp [a1]⟩
theorem B20 {rec20 : TestT → Int → Option Int} (hrec20 : Spec20 rec20) : Ref Cl P20_2 (bodyOf Tryz.f20) (M20 rec20) (post P20_1 (fun _ _ _ => False) P20_1) := by
  rw [show bodyOf Tryz.f20 = .seq (Cat [false] (bodyOf Tryz.f20)) (.seq (.seq (Cat [true, false, false] (bodyOf Tryz.f20)) (.cond (.tmp 11) (.seq (Cat [true, false, true, false, false] (bodyOf Tryz.f20)) (.ret)) (.skip))) (.seq (Cat [true, true, false] (bodyOf Tryz.f20)) (.seq (Cat [true, true, true, false] (bodyOf Tryz.f20)) (.ret)))) from rfl]
  unfold M20
  exact ref_seq (R20_4 hrec20 _ _) (ref_seq (ref_seq (R20_3 hrec20 _ _) (ref_cond (P := P20_4) (c := fun s => s.t11) (fun s st hp => by obtain ⟨w0_0, hl, a0, r0_0, a1, a11⟩ := (hp : P20_4' s st.tmps st.h); simp only [evalO, a11, Option.getD_some]) (ref_weak (P' := P20_3) (fun s st hp => by obtain ⟨w0_0, hl, a0, r0_0, a1, a11⟩ := (hp : P20_4' s st.tmps st.h); exact (⟨hl, trivial⟩ : P20_3' s st.tmps st.h)) (ref_seq (R20_2 hrec20 _ _) (ref_ret (fun s st hp => hp)))) (ref_weak (P' := P20_2) (fun s st hp => by obtain ⟨w0_0, hl, a0, r0_0, a1, a11⟩ := (hp : P20_4' s st.tmps st.h); exact (⟨w0_0, hl, a0, r0_0, a1⟩ : P20_2' s st.tmps st.h)) (ref_skip (fun s st hp => hp))))) (ref_seq (R20_1 hrec20 _ _) (ref_seq (R20_0 hrec20 _ _) (ref_ret (fun s st hp => hp)))))
noncomputable def G20 (rec20 : TestT → Int → Option Int) (x0 : TestT) (x1 : Int) : Option Int := match M20 rec20 { (default : Fr20) with t0 := x0, t1 := x1 } with
  | some (.nrm, s) => some s.t4
  | some (.ret, s) => some s.t4
  | _ => none
theorem G20_spec {rec20 : TestT → Int → Option Int} (hrec20 : Spec20 rec20) : Spec20 (G20 rec20) := by
  intro x0 x1 vx0_0 hvx0_0 r hr
  unfold G20 at hr
  cases hm : M20 rec20 { (default : Fr20) with t0 := x0, t1 := x1 } with
  | none => rw [hm] at hr; cases hr
  | some q =>
    obtain ⟨x, s⟩ := q
    rw [hm] at hr
    have hx : x = .nrm ∨ x = .ret := by cases x <;> first | exact .inl rfl | exact .inr rfl | cases hr
    have hr : s.t4 = r := by cases x <;> first | exact Option.some.inj hr | cases hr
    subst hr
    have hp0 : P20_2' ({ (default : Fr20) with t0 := x0, t1 := x1 }) (slots Tryz.f20 (stripL [vx0_0, .int .i64 x1])) bare := ⟨(strip vx0_0 : AVal), rfl, rfl, rTestT_p.str _ _ hvx0_0, rfl⟩
    obtain ⟨v, hR, hrun⟩ := run_of_ref (C := Cl) (f := 20) (fn := Tryz.f20) Tryz.func20 rfl rfl rfl rfl (args := [vx0_0, .int .i64 x1]) (by simp only [refsL, refs, List.append_nil, refs_one (rTestT_p.ref _ _ hvx0_0)]) (B20 hrec20) (s0 := { (default : Fr20) with t0 := x0, t1 := x1 }) hp0 hm hx (R := fun v => v = .int .i64 s.t4) (by
      have key : ∀ st : ASt, P20_1 s st → ∃ vs v, aresults Cl Tryz.f20.results.toList st = some vs ∧ Nrm [] st.h (packRes vs) v ∧ (fun v => v = .int .i64 s.t4) v := by
        intro st hp
        obtain ⟨hl, a4⟩ := (hp : P20_1' s st.tmps st.h)
        exact ⟨[.int .i64 s.t4], _, by simp only [show Tryz.f20.results.toList = [ResultVar.tmp 4] from rfl, aresults, ares1, CP, a4, Option.getD_some], (Nrm.of (w := .int .i64 s.t4) (by simp only [refsL, refs, List.append_nil])), rfl⟩
      intro st hq
      rcases hx with rfl | rfl
      · exact key st hq
      · exact key st hq)
    subst hR
    exact hrun
noncomputable def F20 : Nat → TestT → Int → Option Int
  | 0 => fun _ _ => none
  | n + 1 => G20 (F20 n)
theorem F20_spec : ∀ n, Spec20 (F20 n)
  | 0 => fun x0 x1 vx0_0 hvx0_0 r hr => by cases hr
  | n + 1 => G20_spec (F20_spec n)
theorem Spec20_fuel {f : TestT → Int → Option Int} (h : ∀ x0 x1 r, f x0 x1 = some r → ∃ n, F20 n x0 x1 = some r) : Spec20 f := fun x0 x1 vx0_0 hvx0_0 r hr => by
  obtain ⟨n, hn⟩ := h x0 x1 r hr
  exact F20_spec n x0 x1 vx0_0 hvx0_0 r hn
/-! ### caisson/caissonref12.reads -/
structure Fr203 where
  t0 : TestT
  t2 : Int
  t3 : Bool
  t4 : Int
  t5 : Bool
  t6 : Int
  t7 : Bool
  t8 : (List Int)
  t10 : Bool
  t22 : Bool
  t26 : Bool
instance : Inhabited Fr203 := ⟨⟨default, 0, false, 0, false, 0, false, [], false, false, false⟩⟩
def P203_0' (s : Fr203) (t : List AVal) (h : AHeap) : Prop := ∃ w8_0, t.length = 63 ∧ t[5]? = some (.bool s.t5) ∧ t[7]? = some (.bool s.t7) ∧ t[8]? = some w8_0 ∧ Gr (rI .i64) 1 s.t8 w8_0 h
def P203_0 (s : Fr203) (st : ASt) : Prop := P203_0' s st.tmps st.h
def P203_1' (s : Fr203) (t : List AVal) (h : AHeap) : Prop := t.length = 63 ∧ t[2]? = some (.int .i64 s.t2) ∧ t[3]? = some (.bool s.t3)
def P203_1 (s : Fr203) (st : ASt) : Prop := P203_1' s st.tmps st.h
def P203_2' (s : Fr203) (t : List AVal) (h : AHeap) : Prop := ∃ w8_0, t.length = 63 ∧ t[5]? = some (.bool s.t5) ∧ t[6]? = some (.int .i64 s.t6) ∧ t[7]? = some (.bool s.t7) ∧ t[8]? = some w8_0 ∧ Gr (rI .i64) 1 s.t8 w8_0 h
def P203_2 (s : Fr203) (st : ASt) : Prop := P203_2' s st.tmps st.h
def P203_3' (s : Fr203) (t : List AVal) (h : AHeap) : Prop := ∃ w8_0, t.length = 63 ∧ t[4]? = some (.int .i64 s.t4) ∧ t[5]? = some (.bool s.t5) ∧ t[6]? = some (.int .i64 s.t6) ∧ t[7]? = some (.bool s.t7) ∧ t[8]? = some w8_0 ∧ Gr (rI .i64) 1 s.t8 w8_0 h
def P203_3 (s : Fr203) (st : ASt) : Prop := P203_3' s st.tmps st.h
def P203_4' (s : Fr203) (t : List AVal) (h : AHeap) : Prop := t.length = 63 ∧ t[4]? = some (.int .i64 s.t4) ∧ t[5]? = some (.bool s.t5) ∧ t[6]? = some (.int .i64 s.t6) ∧ t[7]? = some (.bool s.t7)
def P203_4 (s : Fr203) (st : ASt) : Prop := P203_4' s st.tmps st.h
def P203_5' (s : Fr203) (t : List AVal) (h : AHeap) : Prop := ∃ w0_0, t.length = 63 ∧ t[0]? = some w0_0 ∧ rTestT s.t0 [w0_0] ∧ t[4]? = some (.int .i64 s.t4) ∧ t[5]? = some (.bool s.t5)
def P203_5 (s : Fr203) (st : ASt) : Prop := P203_5' s st.tmps st.h
def P203_6' (s : Fr203) (t : List AVal) (h : AHeap) : Prop := ∃ w0_0, t.length = 63 ∧ t[0]? = some w0_0 ∧ rTestT s.t0 [w0_0]
def P203_6 (s : Fr203) (st : ASt) : Prop := P203_6' s st.tmps st.h
def P203_7' (s : Fr203) (t : List AVal) (h : AHeap) : Prop := t.length = 63 ∧ True
def P203_7 (s : Fr203) (st : ASt) : Prop := P203_7' s st.tmps st.h
def P203_8' (s : Fr203) (t : List AVal) (h : AHeap) : Prop := ∃ w0_0, t.length = 63 ∧ t[0]? = some w0_0 ∧ rTestT s.t0 [w0_0] ∧ t[26]? = some (.bool s.t26)
def P203_8 (s : Fr203) (st : ASt) : Prop := P203_8' s st.tmps st.h
def P203_9' (s : Fr203) (t : List AVal) (h : AHeap) : Prop := ∃ w0_0, t.length = 63 ∧ t[0]? = some w0_0 ∧ rTestT s.t0 [w0_0] ∧ t[22]? = some (.bool s.t22)
def P203_9 (s : Fr203) (st : ASt) : Prop := P203_9' s st.tmps st.h
def P203_10' (s : Fr203) (t : List AVal) (h : AHeap) : Prop := ∃ w0_0, t.length = 63 ∧ t[0]? = some w0_0 ∧ rTestT s.t0 [w0_0] ∧ t[10]? = some (.bool s.t10)
def P203_10 (s : Fr203) (st : ASt) : Prop := P203_10' s st.tmps st.h
noncomputable def m203_0 (rec203 : TestT → Option (Int × Bool)) : Mo Fr203 := fun s => (G158 s.t8).bind fun z1 => some (.nrm, { s with t2 := z1, t3 := (s.t5 || s.t7) })
noncomputable def m203_1 (rec203 : TestT → Option (Int × Bool)) : Mo Fr203 := fun s => (G49 s.t6).bind fun z6 => (appT 8 s.t8 z6).bind fun z8 => some (.nrm, { s with t8 := z8 })
noncomputable def m203_2 (rec203 : TestT → Option (Int × Bool)) : Mo Fr203 := fun s => (G49 s.t4).bind fun z14 => (appT 8 s.t8 z14).bind fun z16 => some (.nrm, { s with t8 := z16 })
noncomputable def m203_3 (rec203 : TestT → Option (Int × Bool)) : Mo Fr203 := fun s => some (.nrm, { s with t8 := [] })
noncomputable def m203_4 (rec203 : TestT → Option (Int × Bool)) : Mo Fr203 := fun s => (s.t0.get).bind fun n22 => (rec203 n22.Right).bind fun z24 => some (.nrm, { s with t6 := z24.1, t7 := z24.2 })
noncomputable def m203_5 (rec203 : TestT → Option (Int × Bool)) : Mo Fr203 := fun s => (s.t0.get).bind fun n30 => (rec203 n30.Left).bind fun z32 => some (.nrm, { s with t4 := z32.1, t5 := z32.2 })
noncomputable def m203_6 (rec203 : TestT → Option (Int × Bool)) : Mo Fr203 := fun s => (s.t0.get).bind fun n38 => (G158 [n38.Index]).bind fun z44 => some (.nrm, { s with t2 := z44, t3 := false })
noncomputable def m203_7 (rec203 : TestT → Option (Int × Bool)) : Mo Fr203 := fun s => some (.nrm, { s with t2 := 0, t3 := true })
noncomputable def m203_8 (rec203 : TestT → Option (Int × Bool)) : Mo Fr203 := fun s => (s.t0.get).bind fun n54 => some (.nrm, { s with t26 := n54.Meas })
noncomputable def m203_9 (rec203 : TestT → Option (Int × Bool)) : Mo Fr203 := fun s => (s.t0.get).bind fun n58 => some (.nrm, { s with t22 := ((n58.Kind == 4) || (n58.Kind == 5)) })
noncomputable def m203_10 (rec203 : TestT → Option (Int × Bool)) : Mo Fr203 := fun s => some (.nrm, { s with t2 := 0, t3 := false })
noncomputable def m203_11 (rec203 : TestT → Option (Int × Bool)) : Mo Fr203 := fun s => some (.nrm, { s with t10 := s.t0.isNil })
noncomputable def m203_12 (rec203 : TestT → Option (Int × Bool)) : Mo Fr203 := fun s => some (.nrm, s)
noncomputable def M203 (rec203 : TestT → Option (Int × Bool)) : Mo Fr203 := seqM (m203_12 rec203) (seqM (seqM (m203_11 rec203) (condM (fun s => s.t10) (seqM (m203_10 rec203) (retM)) (skipM))) (seqM (seqM (m203_9 rec203) (condM (fun s => s.t22) (seqM (seqM (m203_8 rec203) (condM (fun s => s.t26) (seqM (m203_7 rec203) (retM)) (skipM))) (seqM (m203_6 rec203) (retM))) (skipM))) (seqM (m203_5 rec203) (seqM (m203_4 rec203) (seqM (m203_3 rec203) (seqM (m203_2 rec203) (seqM (m203_1 rec203) (seqM (m203_0 rec203) (retM)))))))))
def Spec203 (f : TestT → Option (Int × Bool)) : Prop := ∀ (x0 : TestT) (vx0_0 : AVal) (_ : rTestT x0 [vx0_0]) (r : (Int × Bool)), f x0 = some r → ∀ h, run Cl 203 [vx0_0] h = some (.ret (.tup [.int .i64 r.1, .bool r.2]), h)
theorem Spec203_of {f g : TestT → Option (Int × Bool)} (hg : Spec203 g) (h : ∀ x0 r, f x0 = some r → g x0 = some r) : Spec203 f := fun x0 v0_ w0_ r hr => hg x0 v0_ w0_ r (h x0 r hr)
theorem R203_0 {rec203 : TestT → Option (Int × Bool)} (hrec203 : Spec203 rec203) (pe pr) : Ref Cl P203_0 (Cat [true, true, true, true, true, true, true, true, false] (bodyOf Tryz.f203)) (m203_0 rec203) (post P203_1 pe pr) := by
  rintro s ⟨t, h⟩ hp x s' hm
  obtain ⟨w8_0, hl, a5, a7, a8, r8_0⟩ : P203_0' s t h := hp
  unfold m203_0 at hm
  obtain ⟨z3, hz3, hm⟩ := Option.bind_eq_some_iff.1 hm
  have iu4 := G158_spec s.t8 _ r8_0.1 _ hz3
  cases hb5 : s.t5 with
  | true =>
    all_goals (
      try simp only [hb5, Zb] at hm
      cases hm
      refine ⟨⟨_, _⟩, by simp only [bodyOf, Tryz.f203, Cat, Zs, awanted, aoper, evalO, put, acallOp, abuiltin, Nat.reduceEqDiff, Nat.reduceLT, ofV, ofCell, ↓reduceIte, hl, a5, a7, a8, CP, iu4, hb5]; exact rfl, ?_⟩
      show P203_1 _ _
      exact ⟨by simp [hl], by simp [hl, hb5], by simp [hl, hb5]⟩)
  | false =>
    all_goals (
      try simp only [hb5, Zb] at hm
      cases hm
      refine ⟨⟨_, _⟩, by simp only [bodyOf, Tryz.f203, Cat, Zs, awanted, aoper, evalO, put, acallOp, abuiltin, Nat.reduceEqDiff, Nat.reduceLT, ofV, ofCell, ↓reduceIte, hl, a5, a7, a8, CP, iu4, hb5]; exact rfl, ?_⟩
      show P203_1 _ _
      exact ⟨by simp [hl], by simp [hl, hb5], by simp [hl, hb5]⟩)
theorem R203_1 {rec203 : TestT → Option (Int × Bool)} (hrec203 : Spec203 rec203) (pe pr) : Ref Cl P203_2 (Cat [true, true, true, true, true, true, true, false] (bodyOf Tryz.f203)) (m203_1 rec203) (post P203_0 pe pr) := by
  rintro s ⟨t, h⟩ hp x s' hm
  obtain ⟨w8_0, hl, a5, a6, a7, a8, r8_0⟩ : P203_2' s t h := hp
  unfold m203_1 at hm
  obtain ⟨z10, hz10, hm⟩ := Option.bind_eq_some_iff.1 hm
  obtain ⟨bu11_0, gu11_0, iu11⟩ := G49_spec s.t6  _ hz10
  obtain ⟨z12, hz12, hm⟩ := Option.bind_eq_some_iff.1 hm
  obtain ⟨vu13, hu13, pu13, gu13, nu13, ku13, fu13⟩ := Gr.app (rI_p .i64) r8_0 gu11_0 hz12
  cases hm
  refine ⟨⟨_, _⟩, by simp only [bodyOf, Tryz.f203, Cat, Zs, awanted, aoper, evalO, put, acallOp, abuiltin, Nat.reduceEqDiff, Nat.reduceLT, ofV, ofCell, ↓reduceIte, hl, a5, a6, a7, a8, CP, iu11, pu13, Ty.ap33, Ty.own_ref_go_316]; exact rfl, ?_⟩
  show P203_0 _ _
  exact ⟨vu13, by simp [hl], by simp [a5], by simp [a7], by simp [hl], gu13⟩
theorem R203_2 {rec203 : TestT → Option (Int × Bool)} (hrec203 : Spec203 rec203) (pe pr) : Ref Cl P203_3 (Cat [true, true, true, true, true, true, false] (bodyOf Tryz.f203)) (m203_2 rec203) (post P203_2 pe pr) := by
  rintro s ⟨t, h⟩ hp x s' hm
  obtain ⟨w8_0, hl, a4, a5, a6, a7, a8, r8_0⟩ : P203_3' s t h := hp
  unfold m203_2 at hm
  obtain ⟨z18, hz18, hm⟩ := Option.bind_eq_some_iff.1 hm
  obtain ⟨bu19_0, gu19_0, iu19⟩ := G49_spec s.t4  _ hz18
  obtain ⟨z20, hz20, hm⟩ := Option.bind_eq_some_iff.1 hm
  obtain ⟨vu21, hu21, pu21, gu21, nu21, ku21, fu21⟩ := Gr.app (rI_p .i64) r8_0 gu19_0 hz20
  cases hm
  refine ⟨⟨_, _⟩, by simp only [bodyOf, Tryz.f203, Cat, Zs, awanted, aoper, evalO, put, acallOp, abuiltin, Nat.reduceEqDiff, Nat.reduceLT, ofV, ofCell, ↓reduceIte, hl, a4, a5, a6, a7, a8, CP, iu19, pu21, Ty.ap33, Ty.own_ref_go_315]; exact rfl, ?_⟩
  show P203_2 _ _
  exact ⟨vu21, by simp [hl], by simp [a5], by simp [a6], by simp [a7], by simp [hl], gu21⟩
theorem R203_3 {rec203 : TestT → Option (Int × Bool)} (hrec203 : Spec203 rec203) (pe pr) : Ref Cl P203_4 (Cat [true, true, true, true, true, false] (bodyOf Tryz.f203)) (m203_3 rec203) (post P203_3 pe pr) := by
  rintro s ⟨t, h⟩ hp x s' hm
  obtain ⟨hl, a4, a5, a6, a7⟩ : P203_4' s t h := hp
  unfold m203_3 at hm
  cases hm
  refine ⟨⟨_, _⟩, by simp only [bodyOf, Tryz.f203, Cat, Zs, awanted, aoper, evalO, put, acallOp, abuiltin, Nat.reduceEqDiff, Nat.reduceLT, ofV, ofCell, ↓reduceIte, hl, a4, a5, a6, a7, CP]; exact rfl, ?_⟩
  show P203_3 _ _
  exact ⟨(.nilSl : AVal), by simp [hl], by simp [a4], by simp [a5], by simp [a6], by simp [a7], by simp [hl], (Gr.nil h)⟩
theorem R203_4 {rec203 : TestT → Option (Int × Bool)} (hrec203 : Spec203 rec203) (pe pr) : Ref Cl P203_5 (Cat [true, true, true, true, false] (bodyOf Tryz.f203)) (m203_4 rec203) (post P203_4 pe pr) := by
  rintro s ⟨t, h⟩ hp x s' hm
  obtain ⟨w0_0, hl, a0, r0_0, a4, a5⟩ : P203_5' s t h := hp
  unfold m203_4 at hm
  obtain ⟨n26, hn26, hm⟩ := Option.bind_eq_some_iff.1 hm
  obtain ⟨bu27_0, bu27_1, bu27_2, bu27_3, qu27, gu27_0, gu27_1, gu27_2, gu27_3⟩ := rTestT_get r0_0 hn26
  subst qu27
  obtain ⟨z28, hz28, hm⟩ := Option.bind_eq_some_iff.1 hm
  have iu29 := hrec203 n26.Right _ gu27_1 _ hz28
  cases hm
  refine ⟨⟨_, _⟩, by simp only [bodyOf, Tryz.f203, Cat, Zs, awanted, aoper, evalO, put, acallOp, abuiltin, Nat.reduceEqDiff, Nat.reduceLT, ofV, ofCell, ↓reduceIte, hl, a0, a4, a5, CP, Ty.fa57_2, dropCells, List.drop_succ_cons, List.drop_zero, Ty.ld32, ld_ip, ofc1, List.drop_succ_cons, List.drop_zero, iu29]; exact rfl, ?_⟩
  show P203_4 _ _
  exact ⟨by simp [hl], by simp [a4], by simp [a5], by simp [hl], by simp [hl]⟩
theorem R203_5 {rec203 : TestT → Option (Int × Bool)} (hrec203 : Spec203 rec203) (pe pr) : Ref Cl P203_6 (Cat [true, true, true, false] (bodyOf Tryz.f203)) (m203_5 rec203) (post P203_5 pe pr) := by
  rintro s ⟨t, h⟩ hp x s' hm
  obtain ⟨w0_0, hl, a0, r0_0⟩ : P203_6' s t h := hp
  unfold m203_5 at hm
  obtain ⟨n34, hn34, hm⟩ := Option.bind_eq_some_iff.1 hm
  obtain ⟨bu35_0, bu35_1, bu35_2, bu35_3, qu35, gu35_0, gu35_1, gu35_2, gu35_3⟩ := rTestT_get r0_0 hn34
  subst qu35
  obtain ⟨z36, hz36, hm⟩ := Option.bind_eq_some_iff.1 hm
  have iu37 := hrec203 n34.Left _ gu35_0 _ hz36
  cases hm
  refine ⟨⟨_, _⟩, by simp only [bodyOf, Tryz.f203, Cat, Zs, awanted, aoper, evalO, put, acallOp, abuiltin, Nat.reduceEqDiff, Nat.reduceLT, ofV, ofCell, ↓reduceIte, hl, a0, CP, Ty.fa57_1, dropCells, List.drop_succ_cons, List.drop_zero, Ty.ld32, ld_ip, ofc1, List.drop_succ_cons, List.drop_zero, iu37]; exact rfl, ?_⟩
  show P203_5 _ _
  exact ⟨(.iptr [.int .i64 n34.Kind, bu35_0, bu35_1, .bool n34.Meas, .int .i64 n34.Index, .int .i64 n34.Op, bu35_2, bu35_3] : AVal), by simp [hl], by simp [a0], r0_0, by simp [hl], by simp [hl]⟩
theorem R203_6 {rec203 : TestT → Option (Int × Bool)} (hrec203 : Spec203 rec203) (pe pr) : Ref Cl P203_6 (Cat [true, true, false, true, false, true, false] (bodyOf Tryz.f203)) (m203_6 rec203) (post P203_1 pe pr) := by
  rintro s ⟨t, h⟩ hp x s' hm
  obtain ⟨w0_0, hl, a0, r0_0⟩ : P203_6' s t h := hp
  unfold m203_6 at hm
  obtain ⟨n46, hn46, hm⟩ := Option.bind_eq_some_iff.1 hm
  obtain ⟨bu47_0, bu47_1, bu47_2, bu47_3, qu47, gu47_0, gu47_1, gu47_2, gu47_3⟩ := rTestT_get r0_0 hn46
  subst qu47
  have bd48 : abuildSlice Tryz.prog 33 1 [(0, .int .i64 n46.Index)] = some ([.int .i64 n46.Index], 1) := by kernel_rfl
  have bs49 : Els (rI .i64) [n46.Index] [[.int .i64 n46.Index]] := (Els.cons rfl Els.nil)
  have sl50 : Sl (rI .i64) [n46.Index] (.lst [.int .i64 n46.Index] 1 .full) := Sl.lst .full bs49
  have gr51 : ∀ h, Gr (rI .i64) 1 [n46.Index] (.lst [.int .i64 n46.Index] 1 .full) h := fun h => Gr.full bs49 h
  obtain ⟨z52, hz52, hm⟩ := Option.bind_eq_some_iff.1 hm
  have iu53 := G158_spec [n46.Index] _ sl50 _ hz52
  cases hm
  refine ⟨⟨_, _⟩, by simp only [bodyOf, Tryz.f203, Cat, Zs, awanted, aoper, evalO, put, acallOp, abuiltin, Nat.reduceEqDiff, Nat.reduceLT, ofV, ofCell, ↓reduceIte, hl, a0, CP, Ty.fa57_4, dropCells, List.drop_succ_cons, List.drop_zero, Ty.ld3, ld_ip, ofc1, List.drop_succ_cons, List.drop_zero, bd48, Ty.own_ref_go_310, iu53]; exact rfl, ?_⟩
  show P203_1 _ _
  exact ⟨by simp [hl], by simp [hl], by simp [hl]⟩
theorem R203_7 {rec203 : TestT → Option (Int × Bool)} (hrec203 : Spec203 rec203) (pe pr) : Ref Cl P203_7 (Cat [true, true, false, true, false, false, true, false, false] (bodyOf Tryz.f203)) (m203_7 rec203) (post P203_1 pe pr) := by
  rintro s ⟨t, h⟩ hp x s' hm
  obtain ⟨hl, _⟩ : P203_7' s t h := hp
  unfold m203_7 at hm
  cases hm
  refine ⟨⟨_, _⟩, by simp only [bodyOf, Tryz.f203, Cat, Zs, awanted, aoper, evalO, put, acallOp, abuiltin, Nat.reduceEqDiff, Nat.reduceLT, ofV, ofCell, ↓reduceIte, hl, CP]; exact rfl, ?_⟩
  show P203_1 _ _
  exact ⟨by simp [hl], by simp [hl], by simp [hl]⟩
theorem R203_8 {rec203 : TestT → Option (Int × Bool)} (hrec203 : Spec203 rec203) (pe pr) : Ref Cl P203_6 (Cat [true, true, false, true, false, false, false] (bodyOf Tryz.f203)) (m203_8 rec203) (post P203_8 pe pr) := by
  rintro s ⟨t, h⟩ hp x s' hm
  obtain ⟨w0_0, hl, a0, r0_0⟩ : P203_6' s t h := hp
  unfold m203_8 at hm
  obtain ⟨n56, hn56, hm⟩ := Option.bind_eq_some_iff.1 hm
  obtain ⟨bu57_0, bu57_1, bu57_2, bu57_3, qu57, gu57_0, gu57_1, gu57_2, gu57_3⟩ := rTestT_get r0_0 hn56
  subst qu57
  cases hm
  refine ⟨⟨_, _⟩, by simp only [bodyOf, Tryz.f203, Cat, Zs, awanted, aoper, evalO, put, acallOp, abuiltin, Nat.reduceEqDiff, Nat.reduceLT, ofV, ofCell, ↓reduceIte, hl, a0, CP, Ty.fa57_3, dropCells, List.drop_succ_cons, List.drop_zero, Ty.ld4, ld_ip, ofc1, List.drop_succ_cons, List.drop_zero]; exact rfl, ?_⟩
  show P203_8 _ _
  exact ⟨(.iptr [.int .i64 n56.Kind, bu57_0, bu57_1, .bool n56.Meas, .int .i64 n56.Index, .int .i64 n56.Op, bu57_2, bu57_3] : AVal), by simp [hl], by simp [a0], r0_0, by simp [hl]⟩
theorem R203_9 {rec203 : TestT → Option (Int × Bool)} (hrec203 : Spec203 rec203) (pe pr) : Ref Cl P203_6 (Cat [true, true, false, false] (bodyOf Tryz.f203)) (m203_9 rec203) (post P203_9 pe pr) := by
  rintro s ⟨t, h⟩ hp x s' hm
  obtain ⟨w0_0, hl, a0, r0_0⟩ : P203_6' s t h := hp
  unfold m203_9 at hm
  obtain ⟨n60, hn60, hm⟩ := Option.bind_eq_some_iff.1 hm
  obtain ⟨bu61_0, bu61_1, bu61_2, bu61_3, qu61, gu61_0, gu61_1, gu61_2, gu61_3⟩ := rTestT_get r0_0 hn60
  subst qu61
  cases hb62 : (n60.Kind == 4) with
  | true =>
    all_goals (
      try simp only [hb62, Zb] at hm
      cases hm
      refine ⟨⟨_, _⟩, by simp only [bodyOf, Tryz.f203, Cat, Zs, awanted, aoper, evalO, put, acallOp, abuiltin, Nat.reduceEqDiff, Nat.reduceLT, ofV, ofCell, ↓reduceIte, hl, a0, CP, Ty.fa57_0, dropCells, List.drop_succ_cons, List.drop_zero, Ty.ld3, ld_ip, ofc1, List.drop_succ_cons, List.drop_zero, hb62]; exact rfl, ?_⟩
      show P203_9 _ _
      exact ⟨(.iptr [.int .i64 n60.Kind, bu61_0, bu61_1, .bool n60.Meas, .int .i64 n60.Index, .int .i64 n60.Op, bu61_2, bu61_3] : AVal), by simp [hl], by simp [a0], r0_0, by simp [hl, hb62]⟩)
  | false =>
    all_goals (
      try simp only [hb62, Zb] at hm
      cases hm
      refine ⟨⟨_, _⟩, by simp only [bodyOf, Tryz.f203, Cat, Zs, awanted, aoper, evalO, put, acallOp, abuiltin, Nat.reduceEqDiff, Nat.reduceLT, ofV, ofCell, ↓reduceIte, hl, a0, CP, Ty.fa57_0, dropCells, List.drop_succ_cons, List.drop_zero, Ty.ld3, ld_ip, ofc1, List.drop_succ_cons, List.drop_zero, hb62]; exact rfl, ?_⟩
      show P203_9 _ _
      exact ⟨(.iptr [.int .i64 n60.Kind, bu61_0, bu61_1, .bool n60.Meas, .int .i64 n60.Index, .int .i64 n60.Op, bu61_2, bu61_3] : AVal), by simp [hl], by simp [a0], r0_0, by simp [hl, hb62]⟩)
theorem R203_10 {rec203 : TestT → Option (Int × Bool)} (hrec203 : Spec203 rec203) (pe pr) : Ref Cl P203_7 (Cat [true, false, true, false, false] (bodyOf Tryz.f203)) (m203_10 rec203) (post P203_1 pe pr) := by
  rintro s ⟨t, h⟩ hp x s' hm
  obtain ⟨hl, _⟩ : P203_7' s t h := hp
  unfold m203_10 at hm
  cases hm
  refine ⟨⟨_, _⟩, by simp only [bodyOf, Tryz.f203, Cat, Zs, awanted, aoper, evalO, put, acallOp, abuiltin, Nat.reduceEqDiff, Nat.reduceLT, ofV, ofCell, ↓reduceIte, hl, CP]; exact rfl, ?_⟩
  show P203_1 _ _
  exact ⟨by simp [hl], by simp [hl], by simp [hl]⟩
theorem R203_11 {rec203 : TestT → Option (Int × Bool)} (hrec203 : Spec203 rec203) (pe pr) : Ref Cl P203_6 (Cat [true, false, false] (bodyOf Tryz.f203)) (m203_11 rec203) (post P203_10 pe pr) := by
  rintro s ⟨t, h⟩ hp x s' hm
  obtain ⟨w0_0, hl, a0, r0_0⟩ : P203_6' s t h := hp
  unfold m203_11 at hm
  cases hb63 : s.t0.isNil with
  | true =>
    all_goals (
      try simp only [hb63, Zb] at hm
      obtain ⟨_, qz64⟩ | ⟨qz64, _⟩ := rTestT_nil r0_0
      rotate_left
      · rw [hb63] at qz64; cases qz64
      have z64 : ∀ (xo : Operand) (h : AHeap), abin Cl .eql 32 xo (.const (.pointer none)) h (w0_0) .nilPtr = some (.bool true) := fun xo h => by rw [qz64]; exact Ty.eqn32 xo h
      cases hm
      refine ⟨⟨_, _⟩, by simp only [bodyOf, Tryz.f203, Cat, Zs, awanted, aoper, evalO, put, acallOp, abuiltin, Nat.reduceEqDiff, Nat.reduceLT, ofV, ofCell, ↓reduceIte, hl, a0, CP, z64, hb63]; exact rfl, ?_⟩
      show P203_10 _ _
      exact ⟨w0_0, by simp [hl], by simp [a0], r0_0, by simp [hl, hb63]⟩)
  | false =>
    all_goals (
      try simp only [hb63, Zb] at hm
      obtain ⟨qz65, _⟩ | ⟨_, csz65, qz65⟩ := rTestT_nil r0_0
      · rw [hb63] at qz65; cases qz65
      have z65 : ∀ (xo yo : Operand) (h : AHeap), abin Cl .eql 32 xo yo h (w0_0) .nilPtr = some (.bool false) := fun xo yo h => by rw [qz65]; exact Ty.eqp32 xo yo h _
      clear qz65
      cases hm
      refine ⟨⟨_, _⟩, by simp only [bodyOf, Tryz.f203, Cat, Zs, awanted, aoper, evalO, put, acallOp, abuiltin, Nat.reduceEqDiff, Nat.reduceLT, ofV, ofCell, ↓reduceIte, hl, a0, CP, z65, hb63]; exact rfl, ?_⟩
      show P203_10 _ _
      exact ⟨w0_0, by simp [hl], by simp [a0], r0_0, by simp [hl, hb63]⟩)
theorem R203_12 {rec203 : TestT → Option (Int × Bool)} (hrec203 : Spec203 rec203) (pe pr) : Ref Cl P203_6 (Cat [false] (bodyOf Tryz.f203)) (m203_12 rec203) (post P203_6 pe pr) := by
  rintro s ⟨t, h⟩ hp x s' hm
  obtain ⟨w0_0, hl, a0, r0_0⟩ : P203_6' s t h := hp
  unfold m203_12 at hm
  cases hm
  refine ⟨⟨_, _⟩, by simp only [bodyOf, Tryz.f203, Cat, Zs, awanted, aoper, evalO, put, acallOp, abuiltin, Nat.reduceEqDiff, Nat.reduceLT, ofV, ofCell, ↓reduceIte, hl, a0, CP]; exact rfl, ?_⟩
  show P203_6 _ _
  exact ⟨w0_0, by simp [hl], by simp [a0], r0_0⟩
theorem B203 {rec203 : TestT → Option (Int × Bool)} (hrec203 : Spec203 rec203) : Ref Cl P203_6 (bodyOf Tryz.f203) (M203 rec203) (post P203_1 (fun _ _ _ => False) P203_1) := by
  rw [show bodyOf Tryz.f203 = .seq (Cat [false] (bodyOf Tryz.f203)) (.seq (.seq (Cat [true, false, false] (bodyOf Tryz.f203)) (.cond (.tmp 10) (.seq (Cat [true, false, true, false, false] (bodyOf Tryz.f203)) (.ret)) (.skip))) (.seq (.seq (Cat [true, true, false, false] (bodyOf Tryz.f203)) (.cond (.tmp 22) (.seq (.seq (Cat [true, true, false, true, false, false, false] (bodyOf Tryz.f203)) (.cond (.tmp 26) (.seq (Cat [true, true, false, true, false, false, true, false, false] (bodyOf Tryz.f203)) (.ret)) (.skip))) (.seq (Cat [true, true, false, true, false, true, false] (bodyOf Tryz.f203)) (.ret))) (.skip))) (.seq (Cat [true, true, true, false] (bodyOf Tryz.f203)) (.seq (Cat [true, true, true, true, false] (bodyOf Tryz.f203)) (.seq (Cat [true, true, true, true, true, false] (bodyOf Tryz.f203)) (.seq (Cat [true, true, true, true, true, true, false] (bodyOf Tryz.f203)) (.seq (Cat [true, true, true, true, true, true, true, false] (bodyOf Tryz.f203)) (.seq (Cat [true, true, true, true, true, true, true, true, false] (bodyOf Tryz.f203)) (.ret))))))))) from rfl]
  unfold M203
  exact ref_seq (R203_12 hrec203 _ _) (ref_seq (ref_seq (R203_11 hrec203 _ _) (ref_cond (P := P203_10) (c := fun s => s.t10) (fun s st hp => by obtain ⟨w0_0, hl, a0, r0_0, a10⟩ := (hp : P203_10' s st.tmps st.h); simp only [evalO, a10, Option.getD_some]) (ref_weak (P' := P203_7) (fun s st hp => by obtain ⟨w0_0, hl, a0, r0_0, a10⟩ := (hp : P203_10' s st.tmps st.h); exact (⟨hl, trivial⟩ : P203_7' s st.tmps st.h)) (ref_seq (R203_10 hrec203 _ _) (ref_ret (fun s st hp => hp)))) (ref_weak (P' := P203_6) (fun s st hp => by obtain ⟨w0_0, hl, a0, r0_0, a10⟩ := (hp : P203_10' s st.tmps st.h); exact (⟨w0_0, hl, a0, r0_0⟩ : P203_6' s st.tmps st.h)) (ref_skip (fun s st hp => hp))))) (ref_seq (ref_seq (R203_9 hrec203 _ _) (ref_cond (P := P203_9) (c := fun s => s.t22) (fun s st hp => by obtain ⟨w0_0, hl, a0, r0_0, a22⟩ := (hp : P203_9' s st.tmps st.h); simp only [evalO, a22, Option.getD_some]) (ref_weak (P' := P203_6) (fun s st hp => by obtain ⟨w0_0, hl, a0, r0_0, a22⟩ := (hp : P203_9' s st.tmps st.h); exact (⟨w0_0, hl, a0, r0_0⟩ : P203_6' s st.tmps st.h)) (ref_seq (ref_seq (R203_8 hrec203 _ _) (ref_cond (P := P203_8) (c := fun s => s.t26) (fun s st hp => by obtain ⟨w0_0, hl, a0, r0_0, a26⟩ := (hp : P203_8' s st.tmps st.h); simp only [evalO, a26, Option.getD_some]) (ref_weak (P' := P203_7) (fun s st hp => by obtain ⟨w0_0, hl, a0, r0_0, a26⟩ := (hp : P203_8' s st.tmps st.h); exact (⟨hl, trivial⟩ : P203_7' s st.tmps st.h)) (ref_seq (R203_7 hrec203 _ _) (ref_ret (fun s st hp => hp)))) (ref_weak (P' := P203_6) (fun s st hp => by obtain ⟨w0_0, hl, a0, r0_0, a26⟩ := (hp : P203_8' s st.tmps st.h); exact (⟨w0_0, hl, a0, r0_0⟩ : P203_6' s st.tmps st.h)) (ref_skip (fun s st hp => hp))))) (ref_seq (R203_6 hrec203 _ _) (ref_ret (fun s st hp => hp))))) (ref_weak (P' := P203_6) (fun s st hp => by obtain ⟨w0_0, hl, a0, r0_0, a22⟩ := (hp : P203_9' s st.tmps st.h); exact (⟨w0_0, hl, a0, r0_0⟩ : P203_6' s st.tmps st.h)) (ref_skip (fun s st hp => hp))))) (ref_seq (R203_5 hrec203 _ _) (ref_seq (R203_4 hrec203 _ _) (ref_seq (R203_3 hrec203 _ _) (ref_seq (R203_2 hrec203 _ _) (ref_seq (R203_1 hrec203 _ _) (ref_seq (R203_0 hrec203 _ _) (ref_ret (fun s st hp => hp))))))))))
noncomputable def G203 (rec203 : TestT → Option (Int × Bool)) (x0 : TestT) : Option (Int × Bool) := match M203 rec203 { (default : Fr203) with t0 := x0 } with
  | some (.nrm, s) => some (s.t2, s.t3)
  | some (.ret, s) => some (s.t2, s.t3)
  | _ => none
theorem G203_spec {rec203 : TestT → Option (Int × Bool)} (hrec203 : Spec203 rec203) : Spec203 (G203 rec203) := by
  intro x0 vx0_0 hvx0_0 r hr
  unfold G203 at hr
  cases hm : M203 rec203 { (default : Fr203) with t0 := x0 } with
  | none => rw [hm] at hr; cases hr
  | some q =>
    obtain ⟨x, s⟩ := q
    rw [hm] at hr
    have hx : x = .nrm ∨ x = .ret := by cases x <;> first | exact .inl rfl | exact .inr rfl | cases hr
    have hr : (s.t2, s.t3) = r := by cases x <;> first | exact Option.some.inj hr | cases hr
    subst hr
    have hp0 : P203_6' ({ (default : Fr203) with t0 := x0 }) (slots Tryz.f203 (stripL [vx0_0])) bare := ⟨(strip vx0_0 : AVal), rfl, rfl, rTestT_p.str _ _ hvx0_0⟩
    obtain ⟨v, hR, hrun⟩ := run_of_ref (C := Cl) (f := 203) (fn := Tryz.f203) Tryz.func203 rfl rfl rfl rfl (args := [vx0_0]) (by simp only [refsL, refs, List.append_nil, refs_one (rTestT_p.ref _ _ hvx0_0)]) (B203 hrec203) (s0 := { (default : Fr203) with t0 := x0 }) hp0 hm hx (R := fun v => v = .tup [.int .i64 s.t2, .bool s.t3]) (by
      have key : ∀ st : ASt, P203_1 s st → ∃ vs v, aresults Cl Tryz.f203.results.toList st = some vs ∧ Nrm [] st.h (packRes vs) v ∧ (fun v => v = .tup [.int .i64 s.t2, .bool s.t3]) v := by
        intro st hp
        obtain ⟨hl, a2, a3⟩ := (hp : P203_1' s st.tmps st.h)
        exact ⟨[.int .i64 s.t2, .bool s.t3], _, by simp only [show Tryz.f203.results.toList = [ResultVar.tmp 2, ResultVar.tmp 3] from rfl, aresults, ares1, CP, a2, a3, Option.getD_some], (Nrm.tup (NrmL.cons (Nrm.of (w := .int .i64 s.t2) (by simp only [refsL, refs, List.append_nil])) (NrmL.cons (Nrm.of (w := .bool s.t3) (by simp only [refsL, refs, List.append_nil])) NrmL.nil))), rfl⟩
      intro st hq
      rcases hx with rfl | rfl
      · exact key st hq
      · exact key st hq)
    subst hR
    exact hrun
noncomputable def F203 : Nat → TestT → Option (Int × Bool)
  | 0 => fun _ => none
  | n + 1 => G203 (F203 n)
theorem F203_spec : ∀ n, Spec203 (F203 n)
  | 0 => fun x0 vx0_0 hvx0_0 r hr => by cases hr
  | n + 1 => G203_spec (F203_spec n)
theorem Spec203_fuel {f : TestT → Option (Int × Bool)} (h : ∀ x0 r, f x0 = some r → ∃ n, F203 n x0 = some r) : Spec203 f := fun x0 vx0_0 hvx0_0 r hr => by
  obtain ⟨n, hn⟩ := h x0 r hr
  exact F203_spec n x0 vx0_0 hvx0_0 r hn
/-! ### caisson/caissonref12.Reads -/
structure Fr157 where
  t0 : TestT
  t2 : Int
  t3 : Bool
  t6 : Bool
instance : Inhabited Fr157 := ⟨⟨default, 0, false, false⟩⟩
def P157_0' (s : Fr157) (t : List AVal) (h : AHeap) : Prop := ∃ w0_0, t.length = 11 ∧ t[0]? = some w0_0 ∧ rTestT s.t0 [w0_0]
def P157_0 (s : Fr157) (st : ASt) : Prop := P157_0' s st.tmps st.h
def P157_1' (s : Fr157) (t : List AVal) (h : AHeap) : Prop := t.length = 11 ∧ t[2]? = some (.int .i64 s.t2) ∧ t[3]? = some (.bool s.t3)
def P157_1 (s : Fr157) (st : ASt) : Prop := P157_1' s st.tmps st.h
def P157_2' (s : Fr157) (t : List AVal) (h : AHeap) : Prop := t.length = 11 ∧ True
def P157_2 (s : Fr157) (st : ASt) : Prop := P157_2' s st.tmps st.h
def P157_3' (s : Fr157) (t : List AVal) (h : AHeap) : Prop := ∃ w0_0, t.length = 11 ∧ t[0]? = some w0_0 ∧ rTestT s.t0 [w0_0] ∧ t[6]? = some (.bool s.t6)
def P157_3 (s : Fr157) (st : ASt) : Prop := P157_3' s st.tmps st.h
noncomputable def m157_0 : Mo Fr157 := fun s => (F203 5000 s.t0).bind fun z1 => some (.nrm, { s with t2 := z1.1, t3 := z1.2 })
noncomputable def m157_1 : Mo Fr157 := fun s => some (.nrm, { s with t2 := 63, t3 := true })
noncomputable def m157_2 : Mo Fr157 := fun s => (F20 5000 s.t0 4097).bind fun z5 => some (.nrm, { s with t6 := decide (z5 > 4096) })
noncomputable def m157_3 : Mo Fr157 := fun s => some (.nrm, s)
noncomputable def M157 : Mo Fr157 := seqM (m157_3) (seqM (seqM (m157_2) (condM (fun s => s.t6) (seqM (m157_1) (retM)) (skipM))) (seqM (m157_0) (retM)))
def Spec157 (f : TestT → Option (Int × Bool)) : Prop := ∀ (x0 : TestT) (vx0_0 : AVal) (_ : rTestT x0 [vx0_0]) (r : (Int × Bool)), f x0 = some r → ∀ h, run Cl 157 [vx0_0] h = some (.ret (.tup [.int .i64 r.1, .bool r.2]), h)
theorem Spec157_of {f g : TestT → Option (Int × Bool)} (hg : Spec157 g) (h : ∀ x0 r, f x0 = some r → g x0 = some r) : Spec157 f := fun x0 v0_ w0_ r hr => hg x0 v0_ w0_ r (h x0 r hr)
theorem R157_0 (pe pr) : Ref Cl P157_0 (Cat [true, true, false] (bodyOf Tryz.f157)) m157_0 (post P157_1 pe pr) := by
  rintro s ⟨t, h⟩ hp x s' hm
  obtain ⟨w0_0, hl, a0, r0_0⟩ : P157_0' s t h := hp
  unfold m157_0 at hm
  obtain ⟨z3, hz3, hm⟩ := Option.bind_eq_some_iff.1 hm
  have iu4 := (F203_spec 5000) s.t0 _ r0_0 _ hz3
  cases hm
  refine ⟨⟨_, _⟩, by simp only [bodyOf, Tryz.f157, Cat, Zs, awanted, aoper, evalO, put, acallOp, abuiltin, Nat.reduceEqDiff, Nat.reduceLT, ofV, ofCell, ↓reduceIte, hl, a0, CP, iu4]; exact rfl, ?_⟩
  show P157_1 _ _
  exact ⟨by simp [hl], by simp [hl], by simp [hl]⟩
theorem R157_1 (pe pr) : Ref Cl P157_2 (Cat [true, false, true, false, false] (bodyOf Tryz.f157)) m157_1 (post P157_1 pe pr) := by
  rintro s ⟨t, h⟩ hp x s' hm
  obtain ⟨hl, _⟩ : P157_2' s t h := hp
  unfold m157_1 at hm
  cases hm
  refine ⟨⟨_, _⟩, by simp only [bodyOf, Tryz.f157, Cat, Zs, awanted, aoper, evalO, put, acallOp, abuiltin, Nat.reduceEqDiff, Nat.reduceLT, ofV, ofCell, ↓reduceIte, hl, CP]; exact rfl, ?_⟩
  show P157_1 _ _
  exact ⟨by simp [hl], by simp [hl], by simp [hl]⟩
theorem R157_2 (pe pr) : Ref Cl P157_0 (Cat [true, false, false] (bodyOf Tryz.f157)) m157_2 (post P157_3 pe pr) := by
  rintro s ⟨t, h⟩ hp x s' hm
  obtain ⟨w0_0, hl, a0, r0_0⟩ : P157_0' s t h := hp
  unfold m157_2 at hm
  obtain ⟨z7, hz7, hm⟩ := Option.bind_eq_some_iff.1 hm
  have iu8 := (F20_spec 5000) s.t0 4097 _ r0_0 _ hz7
  cases hm
  refine ⟨⟨_, _⟩, by simp only [bodyOf, Tryz.f157, Cat, Zs, awanted, aoper, evalO, put, acallOp, abuiltin, Nat.reduceEqDiff, Nat.reduceLT, ofV, ofCell, ↓reduceIte, hl, a0, CP, iu8]; exact rfl, ?_⟩
  show P157_3 _ _
  exact ⟨w0_0, by simp [hl], by simp [a0], r0_0, by simp [hl]⟩
theorem R157_3 (pe pr) : Ref Cl P157_0 (Cat [false] (bodyOf Tryz.f157)) m157_3 (post P157_0 pe pr) := by
  rintro s ⟨t, h⟩ hp x s' hm
  obtain ⟨w0_0, hl, a0, r0_0⟩ : P157_0' s t h := hp
  unfold m157_3 at hm
  cases hm
  refine ⟨⟨_, _⟩, by simp only [bodyOf, Tryz.f157, Cat, Zs, awanted, aoper, evalO, put, acallOp, abuiltin, Nat.reduceEqDiff, Nat.reduceLT, ofV, ofCell, ↓reduceIte, hl, a0, CP]; exact rfl, ?_⟩
  show P157_0 _ _
  exact ⟨w0_0, by simp [hl], by simp [a0], r0_0⟩
theorem B157 : Ref Cl P157_0 (bodyOf Tryz.f157) (M157) (post P157_1 (fun _ _ _ => False) P157_1) := by
  rw [show bodyOf Tryz.f157 = .seq (Cat [false] (bodyOf Tryz.f157)) (.seq (.seq (Cat [true, false, false] (bodyOf Tryz.f157)) (.cond (.tmp 6) (.seq (Cat [true, false, true, false, false] (bodyOf Tryz.f157)) (.ret)) (.skip))) (.seq (Cat [true, true, false] (bodyOf Tryz.f157)) (.ret))) from rfl]
  unfold M157
  exact ref_seq (R157_3 _ _) (ref_seq (ref_seq (R157_2 _ _) (ref_cond (P := P157_3) (c := fun s => s.t6) (fun s st hp => by obtain ⟨w0_0, hl, a0, r0_0, a6⟩ := (hp : P157_3' s st.tmps st.h); simp only [evalO, a6, Option.getD_some]) (ref_weak (P' := P157_2) (fun s st hp => by obtain ⟨w0_0, hl, a0, r0_0, a6⟩ := (hp : P157_3' s st.tmps st.h); exact (⟨hl, trivial⟩ : P157_2' s st.tmps st.h)) (ref_seq (R157_1 _ _) (ref_ret (fun s st hp => hp)))) (ref_weak (P' := P157_0) (fun s st hp => by obtain ⟨w0_0, hl, a0, r0_0, a6⟩ := (hp : P157_3' s st.tmps st.h); exact (⟨w0_0, hl, a0, r0_0⟩ : P157_0' s st.tmps st.h)) (ref_skip (fun s st hp => hp))))) (ref_seq (R157_0 _ _) (ref_ret (fun s st hp => hp))))
noncomputable def G157 (x0 : TestT) : Option (Int × Bool) := match M157 { (default : Fr157) with t0 := x0 } with
  | some (.nrm, s) => some (s.t2, s.t3)
  | some (.ret, s) => some (s.t2, s.t3)
  | _ => none
theorem G157_spec : Spec157 (G157) := by
  intro x0 vx0_0 hvx0_0 r hr
  unfold G157 at hr
  cases hm : M157 { (default : Fr157) with t0 := x0 } with
  | none => rw [hm] at hr; cases hr
  | some q =>
    obtain ⟨x, s⟩ := q
    rw [hm] at hr
    have hx : x = .nrm ∨ x = .ret := by cases x <;> first | exact .inl rfl | exact .inr rfl | cases hr
    have hr : (s.t2, s.t3) = r := by cases x <;> first | exact Option.some.inj hr | cases hr
    subst hr
    have hp0 : P157_0' ({ (default : Fr157) with t0 := x0 }) (slots Tryz.f157 (stripL [vx0_0])) bare := ⟨(strip vx0_0 : AVal), rfl, rfl, rTestT_p.str _ _ hvx0_0⟩
    obtain ⟨v, hR, hrun⟩ := run_of_ref (C := Cl) (f := 157) (fn := Tryz.f157) Tryz.func157 rfl rfl rfl rfl (args := [vx0_0]) (by simp only [refsL, refs, List.append_nil, refs_one (rTestT_p.ref _ _ hvx0_0)]) (B157) (s0 := { (default : Fr157) with t0 := x0 }) hp0 hm hx (R := fun v => v = .tup [.int .i64 s.t2, .bool s.t3]) (by
      have key : ∀ st : ASt, P157_1 s st → ∃ vs v, aresults Cl Tryz.f157.results.toList st = some vs ∧ Nrm [] st.h (packRes vs) v ∧ (fun v => v = .tup [.int .i64 s.t2, .bool s.t3]) v := by
        intro st hp
        obtain ⟨hl, a2, a3⟩ := (hp : P157_1' s st.tmps st.h)
        exact ⟨[.int .i64 s.t2, .bool s.t3], _, by simp only [show Tryz.f157.results.toList = [ResultVar.tmp 2, ResultVar.tmp 3] from rfl, aresults, ares1, CP, a2, a3, Option.getD_some], (Nrm.tup (NrmL.cons (Nrm.of (w := .int .i64 s.t2) (by simp only [refsL, refs, List.append_nil])) (NrmL.cons (Nrm.of (w := .bool s.t3) (by simp only [refsL, refs, List.append_nil])) NrmL.nil))), rfl⟩
      intro st hq
      rcases hx with rfl | rfl
      · exact key st hq
      · exact key st hq)
    subst hR
    exact hrun
/-! ### caisson/caissonref16.Need -/
structure Fr83 where
  t0 : Bound
  t1 : Bound
  t2 : Int
  t3 : Bool
  t4 : Int
  t5 : Bool
  t6 : (List Int)
  t7 : Int
  t22 : Bool
instance : Inhabited Fr83 := ⟨⟨default, default, 0, false, 0, false, [], 0, false⟩⟩
def P83_0' (s : Fr83) (t : List AVal) (h : AHeap) : Prop := ∃ w6_0, t.length = 36 ∧ t[5]? = some (.bool s.t5) ∧ t[6]? = some w6_0 ∧ Gr (rI .i64) 1 s.t6 w6_0 h
def P83_0 (s : Fr83) (st : ASt) : Prop := P83_0' s st.tmps st.h
def P83_1' (s : Fr83) (t : List AVal) (h : AHeap) : Prop := t.length = 36 ∧ t[2]? = some (.int .i64 s.t2) ∧ t[3]? = some (.bool s.t3)
def P83_1 (s : Fr83) (st : ASt) : Prop := P83_1' s st.tmps st.h
def P83_2' (s : Fr83) (t : List AVal) (h : AHeap) : Prop := ∃ w1_0 w1_1 w1_2 w1_3 w6_0, t.length = 36 ∧ t[1]? = some (.iptr [w1_0, w1_1, w1_2, w1_3]) ∧ Sl rPick s.t1.Picks w1_0 ∧ Sl rS s.t1.Names w1_1 ∧ rTestT s.t1.Where [w1_2] ∧ Sl (rI .i64) s.t1.Sets w1_3 ∧ t[5]? = some (.bool s.t5) ∧ t[6]? = some w6_0 ∧ Gr (rI .i64) 1 s.t6 w6_0 h ∧ t[7]? = some (.int .i64 s.t7)
def P83_2 (s : Fr83) (st : ASt) : Prop := P83_2' s st.tmps st.h
def P83_3' (s : Fr83) (t : List AVal) (h : AHeap) : Prop := ∃ w1_0 w1_1 w1_2 w1_3 w6_0, t.length = 36 ∧ t[1]? = some (.iptr [w1_0, w1_1, w1_2, w1_3]) ∧ Sl rPick s.t1.Picks w1_0 ∧ Sl rS s.t1.Names w1_1 ∧ rTestT s.t1.Where [w1_2] ∧ Sl (rI .i64) s.t1.Sets w1_3 ∧ t[5]? = some (.bool s.t5) ∧ t[6]? = some w6_0 ∧ Gr (rI .i64) 1 s.t6 w6_0 h ∧ t[7]? = some (.int .i64 s.t7) ∧ t[22]? = some (.bool s.t22)
def P83_3 (s : Fr83) (st : ASt) : Prop := P83_3' s st.tmps st.h
def P83_4' (s : Fr83) (t : List AVal) (h : AHeap) : Prop := ∃ w1_0 w1_1 w1_2 w1_3 w6_0, t.length = 36 ∧ t[1]? = some (.iptr [w1_0, w1_1, w1_2, w1_3]) ∧ Sl rPick s.t1.Picks w1_0 ∧ Sl rS s.t1.Names w1_1 ∧ rTestT s.t1.Where [w1_2] ∧ Sl (rI .i64) s.t1.Sets w1_3 ∧ t[5]? = some (.bool s.t5) ∧ t[6]? = some w6_0 ∧ Gr (rI .i64) 1 s.t6 w6_0 h
def P83_4 (s : Fr83) (st : ASt) : Prop := P83_4' s st.tmps st.h
def P83_5' (s : Fr83) (t : List AVal) (h : AHeap) : Prop := ∃ w1_0 w1_1 w1_2 w1_3 w6_0, t.length = 36 ∧ t[1]? = some (.iptr [w1_0, w1_1, w1_2, w1_3]) ∧ Sl rPick s.t1.Picks w1_0 ∧ Sl rS s.t1.Names w1_1 ∧ rTestT s.t1.Where [w1_2] ∧ Sl (rI .i64) s.t1.Sets w1_3 ∧ t[4]? = some (.int .i64 s.t4) ∧ t[5]? = some (.bool s.t5) ∧ t[6]? = some w6_0 ∧ Gr (rI .i64) 1 s.t6 w6_0 h
def P83_5 (s : Fr83) (st : ASt) : Prop := P83_5' s st.tmps st.h
def P83_6' (s : Fr83) (t : List AVal) (h : AHeap) : Prop := ∃ w1_0 w1_1 w1_2 w1_3, t.length = 36 ∧ t[1]? = some (.iptr [w1_0, w1_1, w1_2, w1_3]) ∧ Sl rPick s.t1.Picks w1_0 ∧ Sl rS s.t1.Names w1_1 ∧ rTestT s.t1.Where [w1_2] ∧ Sl (rI .i64) s.t1.Sets w1_3 ∧ t[4]? = some (.int .i64 s.t4) ∧ t[5]? = some (.bool s.t5)
def P83_6 (s : Fr83) (st : ASt) : Prop := P83_6' s st.tmps st.h
def P83_7' (s : Fr83) (t : List AVal) (h : AHeap) : Prop := ∃ w1_0 w1_1 w1_2 w1_3, t.length = 36 ∧ t[1]? = some (.iptr [w1_0, w1_1, w1_2, w1_3]) ∧ Sl rPick s.t1.Picks w1_0 ∧ Sl rS s.t1.Names w1_1 ∧ rTestT s.t1.Where [w1_2] ∧ Sl (rI .i64) s.t1.Sets w1_3
def P83_7 (s : Fr83) (st : ASt) : Prop := P83_7' s st.tmps st.h
def P83_8' (s : Fr83) (t : List AVal) (h : AHeap) : Prop := ∃ w0_0 w0_1 w0_2 w0_3, t.length = 36 ∧ t[0]? = some (.agg [w0_0, w0_1, w0_2, w0_3]) ∧ Sl rPick s.t0.Picks w0_0 ∧ Sl rS s.t0.Names w0_1 ∧ rTestT s.t0.Where [w0_2] ∧ Sl (rI .i64) s.t0.Sets w0_3
def P83_8 (s : Fr83) (st : ASt) : Prop := P83_8' s st.tmps st.h
noncomputable def m83_0 : Mo Fr83 := fun s => (G158 s.t6).bind fun z1 => some (.nrm, { s with t2 := z1, t3 := s.t5 })
noncomputable def m83_1 : Mo Fr83 := fun s => some (.nrm, { s with t7 := IntKind.wrap .i64 (s.t7 + 1) })
noncomputable def m83_2 : Mo Fr83 := fun s => (at? s.t1.Sets s.t7).bind fun y5 => (G49 y5).bind fun z7 => (appT 8 s.t6 z7).bind fun z9 => some (.nrm, { s with t6 := z9 })
noncomputable def m83_3 : Mo Fr83 := fun s => some (.nrm, { s with t22 := decide (s.t7 < (s.t1.Sets.length : Int)) })
noncomputable def L83_4 : Mo Fr83 := seqM (seqM (m83_3) (condM (fun s => s.t22) (skipM) (exitM 0))) (seqM (blockM 1 (m83_2)) (m83_1))
noncomputable def m83_5 : Mo Fr83 := fun s => some (.nrm, { s with t7 := 0 })
noncomputable def m83_6 : Mo Fr83 := fun s => (G49 s.t4).bind fun z19 => (appT 8 s.t6 z19).bind fun z21 => some (.nrm, { s with t6 := z21 })
noncomputable def m83_7 : Mo Fr83 := fun s => some (.nrm, { s with t6 := [] })
noncomputable def m83_8 : Mo Fr83 := fun s => (G157 s.t1.Where).bind fun z27 => some (.nrm, { s with t4 := z27.1, t5 := z27.2 })
noncomputable def m83_9 : Mo Fr83 := fun s => some (.nrm, { s with t1 := s.t0 })
noncomputable def M83 : Mo Fr83 := seqM (m83_9) (seqM (m83_8) (seqM (m83_7) (seqM (m83_6) (seqM (seqM (m83_5) (blockM 0 (loopM (L83_4)))) (seqM (m83_0) (retM))))))
def Spec83 (f : Bound → Option (Int × Bool)) : Prop := ∀ (x0 : Bound) (vx0_0 : AVal) (_ : Sl rPick x0.Picks vx0_0) (vx0_1 : AVal) (_ : Sl rS x0.Names vx0_1) (vx0_2 : AVal) (_ : rTestT x0.Where [vx0_2]) (vx0_3 : AVal) (_ : Sl (rI .i64) x0.Sets vx0_3) (r : (Int × Bool)), f x0 = some r → ∀ h, run Cl 83 [.agg [vx0_0, vx0_1, vx0_2, vx0_3]] h = some (.ret (.tup [.int .i64 r.1, .bool r.2]), h)
theorem Spec83_of {f g : Bound → Option (Int × Bool)} (hg : Spec83 g) (h : ∀ x0 r, f x0 = some r → g x0 = some r) : Spec83 f := fun x0 v0_ w0_ v1_ w1_ v2_ w2_ v3_ w3_ r hr => hg x0 v0_ w0_ v1_ w1_ v2_ w2_ v3_ w3_ r (h x0 r hr)
theorem R83_0 (pe pr) : Ref Cl P83_0 (Cat [true, true, true, true, true, false] (bodyOf Tryz.f83)) m83_0 (post P83_1 pe pr) := by
  rintro s ⟨t, h⟩ hp x s' hm
  obtain ⟨w6_0, hl, a5, a6, r6_0⟩ : P83_0' s t h := hp
  unfold m83_0 at hm
  obtain ⟨z3, hz3, hm⟩ := Option.bind_eq_some_iff.1 hm
  have iu4 := G158_spec s.t6 _ r6_0.1 _ hz3
  cases hm
  refine ⟨⟨_, _⟩, by simp only [bodyOf, Tryz.f83, Cat, Zs, awanted, aoper, evalO, put, acallOp, abuiltin, Nat.reduceEqDiff, Nat.reduceLT, ofV, ofCell, ↓reduceIte, hl, a5, a6, CP, iu4]; exact rfl, ?_⟩
  show P83_1 _ _
  exact ⟨by simp [hl], by simp [hl], by simp [hl]⟩
theorem R83_1 (pe pr) : Ref Cl P83_2 (Cat [true, true, true, true, false, true, true, true, true, true] (bodyOf Tryz.f83)) m83_1 (post P83_2 pe pr) := by
  rintro s ⟨t, h⟩ hp x s' hm
  obtain ⟨w1_0, w1_1, w1_2, w1_3, w6_0, hl, a1, r1_0, r1_1, r1_2, r1_3, a5, a6, r6_0, a7⟩ : P83_2' s t h := hp
  unfold m83_1 at hm
  cases hm
  refine ⟨⟨_, _⟩, by simp only [bodyOf, Tryz.f83, Cat, Zs, awanted, aoper, evalO, put, acallOp, abuiltin, Nat.reduceEqDiff, Nat.reduceLT, ofV, ofCell, ↓reduceIte, hl, a1, a5, a6, a7, CP]; exact rfl, ?_⟩
  show P83_2 _ _
  exact ⟨w1_0, w1_1, w1_2, w1_3, w6_0, by simp [hl], by simp [a1], r1_0, r1_1, r1_2, r1_3, by simp [a5], by simp [a6], r6_0, by simp [hl]⟩
theorem R83_2 (pe pr) : Ref Cl P83_2 (Cat [true, true, true, true, false, true, true, true, true, false, true] (bodyOf Tryz.f83)) m83_2 (post P83_2 pe pr) := by
  rintro s ⟨t, h⟩ hp x s' hm
  obtain ⟨w1_0, w1_1, w1_2, w1_3, w6_0, hl, a1, r1_0, r1_1, r1_2, r1_3, a5, a6, r6_0, a7⟩ : P83_2' s t h := hp
  unfold m83_2 at hm
  obtain ⟨y11, hy11, hm⟩ := Option.bind_eq_some_iff.1 hm
  obtain ⟨cu12, du12, eu12, iu12, _⟩ := Sl.ix (rI_p .i64) r1_3 hy11
  subst eu12
  obtain ⟨z13, hz13, hm⟩ := Option.bind_eq_some_iff.1 hm
  obtain ⟨bu14_0, gu14_0, iu14⟩ := G49_spec y11  _ hz13
  obtain ⟨z15, hz15, hm⟩ := Option.bind_eq_some_iff.1 hm
  obtain ⟨vu16, hu16, pu16, gu16, nu16, ku16, fu16⟩ := Gr.app (rI_p .i64) r6_0 gu14_0 hz15
  cases hm
  refine ⟨⟨_, _⟩, by simp only [bodyOf, Tryz.f83, Cat, Zs, awanted, aoper, evalO, put, acallOp, abuiltin, Nat.reduceEqDiff, Nat.reduceLT, ofV, ofCell, ↓reduceIte, hl, a1, a5, a6, a7, CP, Ty.fa35_3, dropCells, List.drop_succ_cons, List.drop_zero, Ty.ld33, ld_ip, ofc1, List.drop_succ_cons, List.drop_zero, Ty.ix33, iu12, Ty.ld3, iu14, pu16, Ty.ap33, Ty.own_ref_go_31]; exact rfl, ?_⟩
  show P83_2 _ _
  exact ⟨w1_0, w1_1, w1_2, w1_3, vu16, by simp [hl], by simp [a1], r1_0, r1_1, r1_2, r1_3, by simp [a5], by simp [hl], gu16, by simp [a7]⟩
theorem R83_3 (pe pr) : Ref Cl P83_2 (Cat [true, true, true, true, false, true, true, true, false, false] (bodyOf Tryz.f83)) m83_3 (post P83_3 pe pr) := by
  rintro s ⟨t, h⟩ hp x s' hm
  obtain ⟨w1_0, w1_1, w1_2, w1_3, w6_0, hl, a1, r1_0, r1_1, r1_2, r1_3, a5, a6, r6_0, a7⟩ : P83_2' s t h := hp
  unfold m83_3 at hm
  have lu18 := fun h => Sl.len r1_3 Ty.un33 h
  cases hm
  refine ⟨⟨_, _⟩, by simp only [bodyOf, Tryz.f83, Cat, Zs, awanted, aoper, evalO, put, acallOp, abuiltin, Nat.reduceEqDiff, Nat.reduceLT, ofV, ofCell, ↓reduceIte, hl, a1, a5, a6, a7, CP, Ty.fa35_3, dropCells, List.drop_succ_cons, List.drop_zero, Ty.ld33, ld_ip, ofc1, List.drop_succ_cons, List.drop_zero, lu18]; exact rfl, ?_⟩
  show P83_3 _ _
  exact ⟨w1_0, w1_1, w1_2, w1_3, w6_0, by simp [hl], by simp [a1], r1_0, r1_1, r1_2, r1_3, by simp [a5], by simp [a6], r6_0, by simp [a7], by simp [hl]⟩
theorem R83_5 (pe pr) : Ref Cl P83_4 (Cat [true, true, true, true, false, false] (bodyOf Tryz.f83)) m83_5 (post P83_2 pe pr) := by
  rintro s ⟨t, h⟩ hp x s' hm
  obtain ⟨w1_0, w1_1, w1_2, w1_3, w6_0, hl, a1, r1_0, r1_1, r1_2, r1_3, a5, a6, r6_0⟩ : P83_4' s t h := hp
  unfold m83_5 at hm
  cases hm
  refine ⟨⟨_, _⟩, by simp only [bodyOf, Tryz.f83, Cat, Zs, awanted, aoper, evalO, put, acallOp, abuiltin, Nat.reduceEqDiff, Nat.reduceLT, ofV, ofCell, ↓reduceIte, hl, a1, a5, a6, CP]; exact rfl, ?_⟩
  show P83_2 _ _
  exact ⟨w1_0, w1_1, w1_2, w1_3, w6_0, by simp [hl], by simp [a1], r1_0, r1_1, r1_2, r1_3, by simp [a5], by simp [a6], r6_0, by simp [hl]⟩
theorem R83_6 (pe pr) : Ref Cl P83_5 (Cat [true, true, true, false] (bodyOf Tryz.f83)) m83_6 (post P83_4 pe pr) := by
  rintro s ⟨t, h⟩ hp x s' hm
  obtain ⟨w1_0, w1_1, w1_2, w1_3, w6_0, hl, a1, r1_0, r1_1, r1_2, r1_3, a4, a5, a6, r6_0⟩ : P83_5' s t h := hp
  unfold m83_6 at hm
  obtain ⟨z23, hz23, hm⟩ := Option.bind_eq_some_iff.1 hm
  obtain ⟨bu24_0, gu24_0, iu24⟩ := G49_spec s.t4  _ hz23
  obtain ⟨z25, hz25, hm⟩ := Option.bind_eq_some_iff.1 hm
  obtain ⟨vu26, hu26, pu26, gu26, nu26, ku26, fu26⟩ := Gr.app (rI_p .i64) r6_0 gu24_0 hz25
  cases hm
  refine ⟨⟨_, _⟩, by simp only [bodyOf, Tryz.f83, Cat, Zs, awanted, aoper, evalO, put, acallOp, abuiltin, Nat.reduceEqDiff, Nat.reduceLT, ofV, ofCell, ↓reduceIte, hl, a1, a4, a5, a6, CP, iu24, pu26, Ty.ap33, Ty.own_ref_go_29]; exact rfl, ?_⟩
  show P83_4 _ _
  exact ⟨w1_0, w1_1, w1_2, w1_3, vu26, by simp [hl], by simp [a1], r1_0, r1_1, r1_2, r1_3, by simp [a5], by simp [hl], gu26⟩
theorem R83_7 (pe pr) : Ref Cl P83_6 (Cat [true, true, false] (bodyOf Tryz.f83)) m83_7 (post P83_5 pe pr) := by
  rintro s ⟨t, h⟩ hp x s' hm
  obtain ⟨w1_0, w1_1, w1_2, w1_3, hl, a1, r1_0, r1_1, r1_2, r1_3, a4, a5⟩ : P83_6' s t h := hp
  unfold m83_7 at hm
  cases hm
  refine ⟨⟨_, _⟩, by simp only [bodyOf, Tryz.f83, Cat, Zs, awanted, aoper, evalO, put, acallOp, abuiltin, Nat.reduceEqDiff, Nat.reduceLT, ofV, ofCell, ↓reduceIte, hl, a1, a4, a5, CP]; exact rfl, ?_⟩
  show P83_5 _ _
  exact ⟨w1_0, w1_1, w1_2, w1_3, (.nilSl : AVal), by simp [hl], by simp [a1], r1_0, r1_1, r1_2, r1_3, by simp [a4], by simp [a5], by simp [hl], (Gr.nil h)⟩
theorem R83_8 (pe pr) : Ref Cl P83_7 (Cat [true, false] (bodyOf Tryz.f83)) m83_8 (post P83_6 pe pr) := by
  rintro s ⟨t, h⟩ hp x s' hm
  obtain ⟨w1_0, w1_1, w1_2, w1_3, hl, a1, r1_0, r1_1, r1_2, r1_3⟩ : P83_7' s t h := hp
  unfold m83_8 at hm
  obtain ⟨z29, hz29, hm⟩ := Option.bind_eq_some_iff.1 hm
  have iu30 := G157_spec s.t1.Where _ r1_2 _ hz29
  cases hm
  refine ⟨⟨_, _⟩, by simp only [bodyOf, Tryz.f83, Cat, Zs, awanted, aoper, evalO, put, acallOp, abuiltin, Nat.reduceEqDiff, Nat.reduceLT, ofV, ofCell, ↓reduceIte, hl, a1, CP, Ty.fa35_2, dropCells, List.drop_succ_cons, List.drop_zero, Ty.ld32, ld_ip, ofc1, List.drop_succ_cons, List.drop_zero, iu30]; exact rfl, ?_⟩
  show P83_6 _ _
  exact ⟨w1_0, w1_1, w1_2, w1_3, by simp [hl], by simp [a1], r1_0, r1_1, r1_2, r1_3, by simp [hl], by simp [hl]⟩
theorem R83_9 (pe pr) : Ref Cl P83_8 (Cat [false] (bodyOf Tryz.f83)) m83_9 (post P83_7 pe pr) := by
  rintro s ⟨t, h⟩ hp x s' hm
  obtain ⟨w0_0, w0_1, w0_2, w0_3, hl, a0, r0_0, r0_1, r0_2, r0_3⟩ : P83_8' s t h := hp
  unfold m83_9 at hm
  have ic35 : (w0_0 : AVal).isCell = true := Sl.isCell r0_0
  have ic36 : (w0_1 : AVal).isCell = true := Sl.isCell r0_1
  have ic37 : (w0_2 : AVal).isCell = true := rTestT_cell r0_2
  have ic38 : (w0_3 : AVal).isCell = true := Sl.isCell r0_3
  cases hm
  refine ⟨⟨_, _⟩, by simp only [bodyOf, Tryz.f83, Cat, Zs, awanted, aoper, evalO, put, acallOp, abuiltin, Nat.reduceEqDiff, Nat.reduceLT, ofV, ofCell, ↓reduceIte, hl, a0, CP, Ty.cb_parse_go_148, Ty.cb_parse_go_143, Ty.cb_parse_go_130, Ty.cb_plan_go_27, Ty.cb_plan_go_29, Ty.cb_plan_go_31, Ty.cb_plan_go_41, Ty.cb_plan_go_61, Ty.cb_cube_go_25, Ty.cb_law_go_39, Ty.cb_ref_go_26, Ty.cb_ref_go_48, Ty.cb_ref_go_57, Ty.cb_ref_go_65, ic35, bx_c ic35, cl_c ic35, ic36, bx_c ic36, cl_c ic36, ic37, bx_c ic37, cl_c ic37, ic38, bx_c ic38, cl_c ic38, Zc]; exact rfl, ?_⟩
  show P83_7 _ _
  exact ⟨w0_0, w0_1, w0_2, w0_3, by simp [hl], by simp [hl], r0_0, r0_1, r0_2, r0_3⟩
theorem B83 : Ref Cl P83_8 (bodyOf Tryz.f83) (M83) (post P83_1 (fun _ _ _ => False) P83_1) := by
  rw [show bodyOf Tryz.f83 = .seq (Cat [false] (bodyOf Tryz.f83)) (.seq (Cat [true, false] (bodyOf Tryz.f83)) (.seq (Cat [true, true, false] (bodyOf Tryz.f83)) (.seq (Cat [true, true, true, false] (bodyOf Tryz.f83)) (.seq (.seq (Cat [true, true, true, true, false, false] (bodyOf Tryz.f83)) (.block 0 (.loop (.seq (.seq (Cat [true, true, true, true, false, true, true, true, false, false] (bodyOf Tryz.f83)) (.cond (.tmp 22) (.skip) (.exit 0))) (.seq (.block 1 (Cat [true, true, true, true, false, true, true, true, true, false, true] (bodyOf Tryz.f83))) (Cat [true, true, true, true, false, true, true, true, true, true] (bodyOf Tryz.f83))))))) (.seq (Cat [true, true, true, true, true, false] (bodyOf Tryz.f83)) (.ret)))))) from rfl]
  unfold M83
  exact ref_seq (R83_9 _ _) (ref_seq (R83_8 _ _) (ref_seq (R83_7 _ _) (ref_seq (R83_6 _ _) (ref_seq (ref_seq (R83_5 _ _) (ref_block (ref_loop (P := P83_2) (ref_weak (P' := P83_2) (fun s st hp => hp) (ref_seq (ref_seq (R83_3 _ _) (ref_cond (P := P83_3) (c := fun s => s.t22) (fun s st hp => by obtain ⟨w1_0, w1_1, w1_2, w1_3, w6_0, hl, a1, r1_0, r1_1, r1_2, r1_3, a5, a6, r6_0, a7, a22⟩ := (hp : P83_3' s st.tmps st.h); simp only [evalO, a22, Option.getD_some]) (ref_weak (P' := P83_2) (fun s st hp => by obtain ⟨w1_0, w1_1, w1_2, w1_3, w6_0, hl, a1, r1_0, r1_1, r1_2, r1_3, a5, a6, r6_0, a7, a22⟩ := (hp : P83_3' s st.tmps st.h); exact (⟨w1_0, w1_1, w1_2, w1_3, w6_0, hl, a1, r1_0, r1_1, r1_2, r1_3, a5, a6, r6_0, a7⟩ : P83_2' s st.tmps st.h)) (ref_skip (fun s st hp => hp))) (ref_weak (P' := P83_0) (fun s st hp => by obtain ⟨w1_0, w1_1, w1_2, w1_3, w6_0, hl, a1, r1_0, r1_1, r1_2, r1_3, a5, a6, r6_0, a7, a22⟩ := (hp : P83_3' s st.tmps st.h); exact (⟨w6_0, hl, a5, a6, r6_0⟩ : P83_0' s st.tmps st.h)) (ref_exit (fun s st hp => hp))))) (ref_seq (ref_block (R83_2 _ _)) (R83_1 _ _))))))) (ref_seq (R83_0 _ _) (ref_ret (fun s st hp => hp)))))))
noncomputable def G83 (x0 : Bound) : Option (Int × Bool) := match M83 { (default : Fr83) with t0 := x0 } with
  | some (.nrm, s) => some (s.t2, s.t3)
  | some (.ret, s) => some (s.t2, s.t3)
  | _ => none
theorem G83_spec : Spec83 (G83) := by
  intro x0 vx0_0 hvx0_0 vx0_1 hvx0_1 vx0_2 hvx0_2 vx0_3 hvx0_3 r hr
  unfold G83 at hr
  cases hm : M83 { (default : Fr83) with t0 := x0 } with
  | none => rw [hm] at hr; cases hr
  | some q =>
    obtain ⟨x, s⟩ := q
    rw [hm] at hr
    have hx : x = .nrm ∨ x = .ret := by cases x <;> first | exact .inl rfl | exact .inr rfl | cases hr
    have hr : (s.t2, s.t3) = r := by cases x <;> first | exact Option.some.inj hr | cases hr
    subst hr
    have hp0 : P83_8' ({ (default : Fr83) with t0 := x0 }) (slots Tryz.f83 (stripL [.agg [vx0_0, vx0_1, vx0_2, vx0_3]])) bare := ⟨(strip vx0_0 : AVal), (strip vx0_1 : AVal), (strip vx0_2 : AVal), (strip vx0_3 : AVal), rfl, rfl, hvx0_0.strip rPick_p, hvx0_1.strip rS_p, rTestT_p.str _ _ hvx0_2, hvx0_3.strip (rI_p .i64)⟩
    obtain ⟨v, hR, hrun⟩ := run_of_ref (C := Cl) (f := 83) (fn := Tryz.f83) Tryz.func83 rfl rfl rfl rfl (args := [.agg [vx0_0, vx0_1, vx0_2, vx0_3]]) (by simp only [refsL, refs, List.append_nil, hvx0_0.refs rPick_p, hvx0_1.refs rS_p, refs_one (rTestT_p.ref _ _ hvx0_2), hvx0_3.refs (rI_p .i64)]) (B83) (s0 := { (default : Fr83) with t0 := x0 }) hp0 hm hx (R := fun v => v = .tup [.int .i64 s.t2, .bool s.t3]) (by
      have key : ∀ st : ASt, P83_1 s st → ∃ vs v, aresults Cl Tryz.f83.results.toList st = some vs ∧ Nrm [] st.h (packRes vs) v ∧ (fun v => v = .tup [.int .i64 s.t2, .bool s.t3]) v := by
        intro st hp
        obtain ⟨hl, a2, a3⟩ := (hp : P83_1' s st.tmps st.h)
        exact ⟨[.int .i64 s.t2, .bool s.t3], _, by simp only [show Tryz.f83.results.toList = [ResultVar.tmp 2, ResultVar.tmp 3] from rfl, aresults, ares1, CP, a2, a3, Option.getD_some], (Nrm.tup (NrmL.cons (Nrm.of (w := .int .i64 s.t2) (by simp only [refsL, refs, List.append_nil])) (NrmL.cons (Nrm.of (w := .bool s.t3) (by simp only [refsL, refs, List.append_nil])) NrmL.nil))), rfl⟩
      intro st hq
      rcases hx with rfl | rfl
      · exact key st hq
      · exact key st hq)
    subst hR
    exact hrun
/-! ### caisson/caissonref19.keep -/
structure Fr87 where
  t0 : Int
  t2 : Int
  t4 : Bool
instance : Inhabited Fr87 := ⟨⟨0, 0, false⟩⟩
def P87_0' (s : Fr87) (t : List AVal) (h : AHeap) : Prop := t.length = 6 ∧ t[0]? = some (.int .i64 s.t0)
def P87_0 (s : Fr87) (st : ASt) : Prop := P87_0' s st.tmps st.h
def P87_1' (s : Fr87) (t : List AVal) (h : AHeap) : Prop := t.length = 6 ∧ t[2]? = some (.int .i64 s.t2)
def P87_1 (s : Fr87) (st : ASt) : Prop := P87_1' s st.tmps st.h
def P87_2' (s : Fr87) (t : List AVal) (h : AHeap) : Prop := t.length = 6 ∧ True
def P87_2 (s : Fr87) (st : ASt) : Prop := P87_2' s st.tmps st.h
def P87_3' (s : Fr87) (t : List AVal) (h : AHeap) : Prop := t.length = 6 ∧ t[0]? = some (.int .i64 s.t0) ∧ t[4]? = some (.bool s.t4)
def P87_3 (s : Fr87) (st : ASt) : Prop := P87_3' s st.tmps st.h
noncomputable def m87_0 : Mo Fr87 := fun s => some (.nrm, { s with t2 := s.t0 })
noncomputable def m87_1 : Mo Fr87 := fun s => some (.nrm, { s with t2 := 0 })
noncomputable def m87_2 : Mo Fr87 := fun s => some (.nrm, { s with t4 := decide (s.t0 < 0) })
noncomputable def m87_3 : Mo Fr87 := fun s => some (.nrm, s)
noncomputable def M87 : Mo Fr87 := seqM (m87_3) (seqM (seqM (m87_2) (condM (fun s => s.t4) (seqM (m87_1) (retM)) (skipM))) (seqM (m87_0) (retM)))
def Spec87 (f : Int → Option Int) : Prop := ∀ (x0 : Int) (r : Int), f x0 = some r → ∀ h, run Cl 87 [.int .i64 x0] h = some (.ret (.int .i64 r), h)
theorem Spec87_of {f g : Int → Option Int} (hg : Spec87 g) (h : ∀ x0 r, f x0 = some r → g x0 = some r) : Spec87 f := fun x0 r hr => hg x0 r (h x0 r hr)
theorem R87_0 (pe pr) : Ref Cl P87_0 (Cat [true, true, false] (bodyOf Tryz.f87)) m87_0 (post P87_1 pe pr) := by
  rintro s ⟨t, h⟩ hp x s' hm
  obtain ⟨hl, a0⟩ : P87_0' s t h := hp
  unfold m87_0 at hm
  cases hm
  refine ⟨⟨_, _⟩, by simp only [bodyOf, Tryz.f87, Cat, Zs, awanted, aoper, evalO, put, acallOp, abuiltin, Nat.reduceEqDiff, Nat.reduceLT, ofV, ofCell, ↓reduceIte, hl, a0, CP]; exact rfl, ?_⟩
  show P87_1 _ _
  exact ⟨by simp [hl], by simp [hl]⟩
theorem R87_1 (pe pr) : Ref Cl P87_2 (Cat [true, false, true, false, false] (bodyOf Tryz.f87)) m87_1 (post P87_1 pe pr) := by
  rintro s ⟨t, h⟩ hp x s' hm
  obtain ⟨hl, _⟩ : P87_2' s t h := hp
  unfold m87_1 at hm
  cases hm
  refine ⟨⟨_, _⟩, by simp only [bodyOf, Tryz.f87, Cat, Zs, awanted, aoper, evalO, put, acallOp, abuiltin, Nat.reduceEqDiff, Nat.reduceLT, ofV, ofCell, ↓reduceIte, hl, CP]; exact rfl, ?_⟩
  show P87_1 _ _
  exact ⟨by simp [hl], by simp [hl]⟩
theorem R87_2 (pe pr) : Ref Cl P87_0 (Cat [true, false, false] (bodyOf Tryz.f87)) m87_2 (post P87_3 pe pr) := by
  rintro s ⟨t, h⟩ hp x s' hm
  obtain ⟨hl, a0⟩ : P87_0' s t h := hp
  unfold m87_2 at hm
  cases hm
  refine ⟨⟨_, _⟩, by simp only [bodyOf, Tryz.f87, Cat, Zs, awanted, aoper, evalO, put, acallOp, abuiltin, Nat.reduceEqDiff, Nat.reduceLT, ofV, ofCell, ↓reduceIte, hl, a0, CP]; exact rfl, ?_⟩
  show P87_3 _ _
  exact ⟨by simp [hl], by simp [a0], by simp [hl]⟩
theorem R87_3 (pe pr) : Ref Cl P87_0 (Cat [false] (bodyOf Tryz.f87)) m87_3 (post P87_0 pe pr) := by
  rintro s ⟨t, h⟩ hp x s' hm
  obtain ⟨hl, a0⟩ : P87_0' s t h := hp
  unfold m87_3 at hm
  cases hm
  refine ⟨⟨_, _⟩, by simp only [bodyOf, Tryz.f87, Cat, Zs, awanted, aoper, evalO, put, acallOp, abuiltin, Nat.reduceEqDiff, Nat.reduceLT, ofV, ofCell, ↓reduceIte, hl, a0, CP]; exact rfl, ?_⟩
  show P87_0 _ _
  exact ⟨by simp [hl], by simp [a0]⟩
theorem B87 : Ref Cl P87_0 (bodyOf Tryz.f87) (M87) (post P87_1 (fun _ _ _ => False) P87_1) := by
  rw [show bodyOf Tryz.f87 = .seq (Cat [false] (bodyOf Tryz.f87)) (.seq (.seq (Cat [true, false, false] (bodyOf Tryz.f87)) (.cond (.tmp 4) (.seq (Cat [true, false, true, false, false] (bodyOf Tryz.f87)) (.ret)) (.skip))) (.seq (Cat [true, true, false] (bodyOf Tryz.f87)) (.ret))) from rfl]
  unfold M87
  exact ref_seq (R87_3 _ _) (ref_seq (ref_seq (R87_2 _ _) (ref_cond (P := P87_3) (c := fun s => s.t4) (fun s st hp => by obtain ⟨hl, a0, a4⟩ := (hp : P87_3' s st.tmps st.h); simp only [evalO, a4, Option.getD_some]) (ref_weak (P' := P87_2) (fun s st hp => by obtain ⟨hl, a0, a4⟩ := (hp : P87_3' s st.tmps st.h); exact (⟨hl, trivial⟩ : P87_2' s st.tmps st.h)) (ref_seq (R87_1 _ _) (ref_ret (fun s st hp => hp)))) (ref_weak (P' := P87_0) (fun s st hp => by obtain ⟨hl, a0, a4⟩ := (hp : P87_3' s st.tmps st.h); exact (⟨hl, a0⟩ : P87_0' s st.tmps st.h)) (ref_skip (fun s st hp => hp))))) (ref_seq (R87_0 _ _) (ref_ret (fun s st hp => hp))))
noncomputable def G87 (x0 : Int) : Option Int := match M87 { (default : Fr87) with t0 := x0 } with
  | some (.nrm, s) => some s.t2
  | some (.ret, s) => some s.t2
  | _ => none
theorem G87_spec : Spec87 (G87) := by
  intro x0 r hr
  unfold G87 at hr
  cases hm : M87 { (default : Fr87) with t0 := x0 } with
  | none => rw [hm] at hr; cases hr
  | some q =>
    obtain ⟨x, s⟩ := q
    rw [hm] at hr
    have hx : x = .nrm ∨ x = .ret := by cases x <;> first | exact .inl rfl | exact .inr rfl | cases hr
    have hr : s.t2 = r := by cases x <;> first | exact Option.some.inj hr | cases hr
    subst hr
    have hp0 : P87_0' ({ (default : Fr87) with t0 := x0 }) (slots Tryz.f87 (stripL [.int .i64 x0])) bare := ⟨rfl, rfl⟩
    obtain ⟨v, hR, hrun⟩ := run_of_ref (C := Cl) (f := 87) (fn := Tryz.f87) Tryz.func87 rfl rfl rfl rfl (args := [.int .i64 x0]) (by simp only [refsL, refs, List.append_nil]) (B87) (s0 := { (default : Fr87) with t0 := x0 }) hp0 hm hx (R := fun v => v = .int .i64 s.t2) (by
      have key : ∀ st : ASt, P87_1 s st → ∃ vs v, aresults Cl Tryz.f87.results.toList st = some vs ∧ Nrm [] st.h (packRes vs) v ∧ (fun v => v = .int .i64 s.t2) v := by
        intro st hp
        obtain ⟨hl, a2⟩ := (hp : P87_1' s st.tmps st.h)
        exact ⟨[.int .i64 s.t2], _, by simp only [show Tryz.f87.results.toList = [ResultVar.tmp 2] from rfl, aresults, ares1, CP, a2, Option.getD_some], (Nrm.of (w := .int .i64 s.t2) (by simp only [refsL, refs, List.append_nil])), rfl⟩
      intro st hq
      rcases hx with rfl | rfl
      · exact key st hq
      · exact key st hq)
    subst hR
    exact hrun
/-! ### caisson/caissonref19.least -/
structure Fr159 where
  t0 : Int
  t1 : (List ViewInfo)
  t2 : Int
  t6 : Int
  t7 : Int
  t8 : Int
  t9 : ViewInfo
  t10 : Bool
  t14 : Bool
  t37 : Bool
  t73 : Bool
instance : Inhabited Fr159 := ⟨⟨0, [], 0, 0, 0, 0, default, false, false, false, false⟩⟩
def P159_0' (s : Fr159) (t : List AVal) (h : AHeap) : Prop := t.length = 76 ∧ t[7]? = some (.int .i64 s.t7)
def P159_0 (s : Fr159) (st : ASt) : Prop := P159_0' s st.tmps st.h
def P159_1' (s : Fr159) (t : List AVal) (h : AHeap) : Prop := t.length = 76 ∧ t[6]? = some (.int .i64 s.t6)
def P159_1 (s : Fr159) (st : ASt) : Prop := P159_1' s st.tmps st.h
def P159_2' (s : Fr159) (t : List AVal) (h : AHeap) : Prop := ∃ w1_0, t.length = 76 ∧ t[0]? = some (.int .i64 s.t0) ∧ t[1]? = some w1_0 ∧ Sl rViewInfo s.t1 w1_0 ∧ t[2]? = some (.int .i64 s.t2) ∧ t[7]? = some (.int .i64 s.t7) ∧ t[8]? = some (.int .i64 s.t8)
def P159_2 (s : Fr159) (st : ASt) : Prop := P159_2' s st.tmps st.h
def P159_3' (s : Fr159) (t : List AVal) (h : AHeap) : Prop := ∃ w1_0, t.length = 76 ∧ t[0]? = some (.int .i64 s.t0) ∧ t[1]? = some w1_0 ∧ Sl rViewInfo s.t1 w1_0 ∧ t[2]? = some (.int .i64 s.t2) ∧ t[8]? = some (.int .i64 s.t8)
def P159_3 (s : Fr159) (st : ASt) : Prop := P159_3' s st.tmps st.h
def P159_4' (s : Fr159) (t : List AVal) (h : AHeap) : Prop := ∃ w1_0, t.length = 76 ∧ t[0]? = some (.int .i64 s.t0) ∧ t[1]? = some w1_0 ∧ Sl rViewInfo s.t1 w1_0 ∧ t[2]? = some (.int .i64 s.t2) ∧ t[7]? = some (.int .i64 s.t7) ∧ t[8]? = some (.int .i64 s.t8) ∧ t[73]? = some (.bool s.t73)
def P159_4 (s : Fr159) (st : ASt) : Prop := P159_4' s st.tmps st.h
def P159_5' (s : Fr159) (t : List AVal) (h : AHeap) : Prop := ∃ w1_0 i9, t.length = 76 ∧ t[0]? = some (.int .i64 s.t0) ∧ t[1]? = some w1_0 ∧ Sl rViewInfo s.t1 w1_0 ∧ t[2]? = some (.int .i64 s.t2) ∧ t[7]? = some (.int .i64 s.t7) ∧ t[8]? = some (.int .i64 s.t8) ∧ t[9]? = some (.ptr i9 0) ∧ h.get i9 = some (.arr [.int .i64 s.t9.Set, .int .i64 s.t9.State, .int .i64 s.t9.Seq, .int .i64 s.t9.Rows, .int .i64 s.t9.Bytes, .int .i64 s.t9.Readers]) ∧ i9 < h.next
def P159_5 (s : Fr159) (st : ASt) : Prop := P159_5' s st.tmps st.h
def P159_6' (s : Fr159) (t : List AVal) (h : AHeap) : Prop := ∃ w1_0 i9, t.length = 76 ∧ t[0]? = some (.int .i64 s.t0) ∧ t[1]? = some w1_0 ∧ Sl rViewInfo s.t1 w1_0 ∧ t[2]? = some (.int .i64 s.t2) ∧ t[7]? = some (.int .i64 s.t7) ∧ t[8]? = some (.int .i64 s.t8) ∧ t[9]? = some (.ptr i9 0) ∧ h.get i9 = some (.arr [.int .i64 s.t9.Set, .int .i64 s.t9.State, .int .i64 s.t9.Seq, .int .i64 s.t9.Rows, .int .i64 s.t9.Bytes, .int .i64 s.t9.Readers]) ∧ i9 < h.next ∧ t[37]? = some (.bool s.t37)
def P159_6 (s : Fr159) (st : ASt) : Prop := P159_6' s st.tmps st.h
def P159_7' (s : Fr159) (t : List AVal) (h : AHeap) : Prop := ∃ w1_0 i9, t.length = 76 ∧ t[0]? = some (.int .i64 s.t0) ∧ t[1]? = some w1_0 ∧ Sl rViewInfo s.t1 w1_0 ∧ t[2]? = some (.int .i64 s.t2) ∧ t[7]? = some (.int .i64 s.t7) ∧ t[8]? = some (.int .i64 s.t8) ∧ t[9]? = some (.ptr i9 0) ∧ h.get i9 = some (.arr [.int .i64 s.t9.Set, .int .i64 s.t9.State, .int .i64 s.t9.Seq, .int .i64 s.t9.Rows, .int .i64 s.t9.Bytes, .int .i64 s.t9.Readers]) ∧ i9 < h.next ∧ t[10]? = some (.bool s.t10)
def P159_7 (s : Fr159) (st : ASt) : Prop := P159_7' s st.tmps st.h
def P159_8' (s : Fr159) (t : List AVal) (h : AHeap) : Prop := ∃ w1_0, t.length = 76 ∧ t[0]? = some (.int .i64 s.t0) ∧ t[1]? = some w1_0 ∧ Sl rViewInfo s.t1 w1_0 ∧ t[2]? = some (.int .i64 s.t2) ∧ t[7]? = some (.int .i64 s.t7) ∧ t[8]? = some (.int .i64 s.t8) ∧ t[14]? = some (.bool s.t14)
def P159_8 (s : Fr159) (st : ASt) : Prop := P159_8' s st.tmps st.h
def P159_9' (s : Fr159) (t : List AVal) (h : AHeap) : Prop := ∃ w1_0, t.length = 76 ∧ t[0]? = some (.int .i64 s.t0) ∧ t[1]? = some w1_0 ∧ Sl rViewInfo s.t1 w1_0 ∧ t[2]? = some (.int .i64 s.t2) ∧ t[7]? = some (.int .i64 s.t7)
def P159_9 (s : Fr159) (st : ASt) : Prop := P159_9' s st.tmps st.h
def P159_10' (s : Fr159) (t : List AVal) (h : AHeap) : Prop := ∃ w1_0, t.length = 76 ∧ t[0]? = some (.int .i64 s.t0) ∧ t[1]? = some w1_0 ∧ Sl rViewInfo s.t1 w1_0 ∧ t[2]? = some (.int .i64 s.t2)
def P159_10 (s : Fr159) (st : ASt) : Prop := P159_10' s st.tmps st.h
noncomputable def m159_0 : Mo Fr159 := fun s => some (.nrm, { s with t6 := s.t7 })
noncomputable def m159_1 : Mo Fr159 := fun s => some (.nrm, { s with t8 := IntKind.wrap .i64 (s.t8 + 1) })
noncomputable def m159_2 : Mo Fr159 := fun s => some (.nrm, { s with t7 := s.t8 })
noncomputable def m159_3 : Mo Fr159 := fun s => (cond (!(decide (s.t7 < 0))) ((G87 s.t9.Rows).bind fun z2 => (at? s.t1 s.t7).bind fun y4 => (G87 y4.Rows).bind fun z6 => some (decide (z2 < z6))) (some false)).bind fun x8 => (cond (!((decide (s.t7 < 0)) || x8)) ((G87 s.t9.Rows).bind fun z10 => (at? s.t1 s.t7).bind fun y12 => (G87 y12.Rows).bind fun z14 => some ((z10 == z14) && (decide (s.t9.Set < y12.Set)))) (some false)).bind fun x17 => some (.nrm, { s with t73 := (((decide (s.t7 < 0)) || x8) || x17) })
noncomputable def m159_4 : Mo Fr159 := fun s => some (.nrm, { s with t37 := (((!s.t10) || (s.t9.State != 2)) || (s.t9.Seq != s.t2)) })
noncomputable def m159_5 : Mo Fr159 := fun s => (G86 s.t9.Set s.t0).bind fun z40 => some (.nrm, { s with t10 := z40 })
noncomputable def m159_6 : Mo Fr159 := fun s => (at? s.t1 s.t8).bind fun y45 => some (.nrm, { s with t9 := y45 })
noncomputable def m159_7 : Mo Fr159 := fun s => some (.nrm, { s with t14 := decide (s.t8 < (s.t1.length : Int)) })
noncomputable def L159_8 : Mo Fr159 := seqM (seqM (m159_7) (condM (fun s => s.t14) (skipM) (exitM 0))) (seqM (blockM 1 (seqM (m159_6) (seqM (m159_5) (seqM (seqM (m159_4) (condM (fun s => s.t37) (exitM 1) (skipM))) (seqM (m159_3) (condM (fun s => s.t73) (m159_2) (skipM))))))) (m159_1))
noncomputable def m159_9 : Mo Fr159 := fun s => some (.nrm, { s with t8 := 0 })
noncomputable def m159_10 : Mo Fr159 := fun s => some (.nrm, { s with t7 := (-1) })
noncomputable def m159_11 : Mo Fr159 := fun s => some (.nrm, s)
noncomputable def M159 : Mo Fr159 := seqM (m159_11) (seqM (m159_10) (seqM (seqM (m159_9) (blockM 0 (loopM (L159_8)))) (seqM (m159_0) (retM))))
def Spec159 (f : Int → (List ViewInfo) → Int → Option Int) : Prop := ∀ (x0 : Int) (x1 : (List ViewInfo)) (x2 : Int) (vx1_0 : AVal) (_ : Sl rViewInfo x1 vx1_0) (r : Int), f x0 x1 x2 = some r → ∀ h, run Cl 159 [.int .i64 x0, vx1_0, .int .i64 x2] h = some (.ret (.int .i64 r), h)
theorem Spec159_of {f g : Int → (List ViewInfo) → Int → Option Int} (hg : Spec159 g) (h : ∀ x0 x1 x2 r, f x0 x1 x2 = some r → g x0 x1 x2 = some r) : Spec159 f := fun x0 x1 x2 v0_ w0_ r hr => hg x0 x1 x2 v0_ w0_ r (h x0 x1 x2 r hr)
theorem R159_0 (pe pr) : Ref Cl P159_0 (Cat [true, true, true, false] (bodyOf Tryz.f159)) m159_0 (post P159_1 pe pr) := by
  rintro s ⟨t, h⟩ hp x s' hm
  obtain ⟨hl, a7⟩ : P159_0' s t h := hp
  unfold m159_0 at hm
  cases hm
  refine ⟨⟨_, _⟩, by simp only [bodyOf, Tryz.f159, Cat, Zs, awanted, aoper, evalO, put, acallOp, abuiltin, Nat.reduceEqDiff, Nat.reduceLT, ofV, ofCell, ↓reduceIte, hl, a7, CP]; exact rfl, ?_⟩
  show P159_1 _ _
  exact ⟨by simp [hl], by simp [hl]⟩
theorem R159_1 (pe pr) : Ref Cl P159_2 (Cat [true, true, false, true, true, true, true, true] (bodyOf Tryz.f159)) m159_1 (post P159_2 pe pr) := by
  rintro s ⟨t, h⟩ hp x s' hm
  obtain ⟨w1_0, hl, a0, a1, r1_0, a2, a7, a8⟩ : P159_2' s t h := hp
  unfold m159_1 at hm
  cases hm
  refine ⟨⟨_, _⟩, by simp only [bodyOf, Tryz.f159, Cat, Zs, awanted, aoper, evalO, put, acallOp, abuiltin, Nat.reduceEqDiff, Nat.reduceLT, ofV, ofCell, ↓reduceIte, hl, a0, a1, a2, a7, a8, CP]; exact rfl, ?_⟩
  show P159_2 _ _
  exact ⟨w1_0, by simp [hl], by simp [a0], by simp [a1], r1_0, by simp [a2], by simp [a7], by simp [hl]⟩
theorem R159_2 (pe pr) : Ref Cl P159_3 (Cat [true, true, false, true, true, true, true, false, true, true, true, true, true, false] (bodyOf Tryz.f159)) m159_2 (post P159_2 pe pr) := by
  rintro s ⟨t, h⟩ hp x s' hm
  obtain ⟨w1_0, hl, a0, a1, r1_0, a2, a8⟩ : P159_3' s t h := hp
  unfold m159_2 at hm
  cases hm
  refine ⟨⟨_, _⟩, by simp only [bodyOf, Tryz.f159, Cat, Zs, awanted, aoper, evalO, put, acallOp, abuiltin, Nat.reduceEqDiff, Nat.reduceLT, ofV, ofCell, ↓reduceIte, hl, a0, a1, a2, a8, CP]; exact rfl, ?_⟩
  show P159_2 _ _
  exact ⟨w1_0, by simp [hl], by simp [a0], by simp [a1], r1_0, by simp [a2], by simp [hl], by simp [a8]⟩
set_option maxHeartbeats 8000000 in
theorem R159_3 (pe pr) : Ref Cl P159_5 (Cat [true, true, false, true, true, true, true, false, true, true, true, true, false] (bodyOf Tryz.f159)) m159_3 (post P159_4 pe pr) := by
  rintro s ⟨t, h⟩ hp x s' hm
  obtain ⟨w1_0, i9, hl, a0, a1, r1_0, a2, a7, a8, a9, g9, l9⟩ : P159_5' s t h := hp
  unfold m159_3 at hm
  cases hb18 : decide (s.t7 < 0) with
  | true =>
    all_goals (
      try simp only [hb18, Zb] at hm
      cases hm
      refine ⟨⟨_, _⟩, by
          simp only [bodyOf, Tryz.f159, Cat, Zs, awanted, aoper, evalO, put, acallOp, abuiltin, Nat.reduceEqDiff, Nat.reduceLT, ofV, ofCell, ↓reduceIte, hl, a0, a1, a2, a7, a8, a9, CP, List.append_eq, hb18]
          rw [k_draw _ _ _ (by kernel_rfl)]
          exact rfl, ?_⟩
      show P159_4 _ _
      exact ⟨w1_0, by simp [hl], by simp [a0], by simp [a1], r1_0, by simp [a2], by simp [a7], by simp [a8], by simp [hl, hb18]⟩)
  | false =>
    all_goals (
      try simp only [hb18, Zb] at hm
      have k19 : loadA h false 1 (.ptr i9 3) = some (.int .i64 s.t9.Rows) := by rw [Heap.load_gen g9 (Nat.le_of_ble_eq_true rfl)]; first | rfl | exact ofc1 _ _ _
      obtain ⟨z20, hz20, hm⟩ := Option.bind_eq_some_iff.1 hm
      have iu21 := G87_spec s.t9.Rows  _ hz20
      obtain ⟨y22, hy22, hm⟩ := Option.bind_eq_some_iff.1 hm
      obtain ⟨cu23, du23, eu23, iu23, _⟩ := Sl.ix rViewInfo_p r1_0 hy22
      have eu23 := eu23; unfold rViewInfo at eu23; subst eu23
      obtain ⟨z24, hz24, hm⟩ := Option.bind_eq_some_iff.1 hm
      have iu25 := G87_spec y22.Rows  _ hz24
      try simp only [Zb] at hm
      cases hb26 : decide (z20 < z24) with
      | true =>
        all_goals (
          try simp only [hb26, Zb] at hm
          cases hm
          refine ⟨⟨_, _⟩, by
              simp only [bodyOf, Tryz.f159, Cat, Zs, awanted, aoper, evalO, put, acallOp, abuiltin, Nat.reduceEqDiff, Nat.reduceLT, ofV, ofCell, ↓reduceIte, hl, a0, a1, a2, a7, a8, a9, CP, List.append_eq, Ty.fa207_3, dropCells, Nat.zero_add, Nat.reduceAdd, k19, Ty.ld3, iu21, Ty.ix68, iu23, List.drop_succ_cons, List.drop_zero, ld_ip, ofc1, List.drop_succ_cons, List.drop_zero, iu25, hb18, hb26]
              rw [k_draw _ _ _ (by kernel_rfl)]
              exact rfl, ?_⟩
          show P159_4 _ _
          exact ⟨w1_0, by simp [hl], by simp [a0], by simp [a1], r1_0, by simp [a2], by simp [a7], by simp [a8], by simp [hl, hb18, hb26]⟩)
      | false =>
        all_goals (
          try simp only [hb26, Zb] at hm
          have k27 : loadA h false 1 (.ptr i9 3) = some (.int .i64 s.t9.Rows) := by rw [Heap.load_gen g9 (Nat.le_of_ble_eq_true rfl)]; first | rfl | exact ofc1 _ _ _
          obtain ⟨z28, hz28, hm⟩ := Option.bind_eq_some_iff.1 hm
          obtain rfl := Option.some.inj (hz20.symm.trans hz28)
          obtain ⟨y29, hy29, hm⟩ := Option.bind_eq_some_iff.1 hm
          obtain rfl := Option.some.inj (hy22.symm.trans hy29)
          obtain ⟨z30, hz30, hm⟩ := Option.bind_eq_some_iff.1 hm
          obtain rfl := Option.some.inj (hz24.symm.trans hz30)
          cases hb31 : (z20 == z24) with
          | true =>
            all_goals (
              try simp only [hb31, Zb] at hm
              have k32 : loadA h false 1 (.ptr i9 0) = some (.int .i64 s.t9.Set) := by rw [Heap.load_gen g9 (Nat.le_of_ble_eq_true rfl)]; first | rfl | exact ofc1 _ _ _
              try simp only [Zb] at hm
              cases hm
              refine ⟨⟨_, _⟩, by
                  simp only [bodyOf, Tryz.f159, Cat, Zs, awanted, aoper, evalO, put, acallOp, abuiltin, Nat.reduceEqDiff, Nat.reduceLT, ofV, ofCell, ↓reduceIte, hl, a0, a1, a2, a7, a8, a9, CP, List.append_eq, Ty.fa207_3, dropCells, Nat.zero_add, Nat.reduceAdd, k19, Ty.ld3, iu21, Ty.ix68, iu23, List.drop_succ_cons, List.drop_zero, ld_ip, ofc1, List.drop_succ_cons, List.drop_zero, iu25, k27, Ty.fa207_0, k32, hb18, hb26, hb31]
                  rw [k_draw _ _ _ (by kernel_rfl)]
                  exact rfl, ?_⟩
              show P159_4 _ _
              exact ⟨w1_0, by simp [hl], by simp [a0], by simp [a1], r1_0, by simp [a2], by simp [a7], by simp [a8], by simp [hl, hb18, hb26, hb31]⟩)
          | false =>
            all_goals (
              try simp only [hb31, Zb] at hm
              try simp only [Zb] at hm
              cases hm
              refine ⟨⟨_, _⟩, by
                  simp only [bodyOf, Tryz.f159, Cat, Zs, awanted, aoper, evalO, put, acallOp, abuiltin, Nat.reduceEqDiff, Nat.reduceLT, ofV, ofCell, ↓reduceIte, hl, a0, a1, a2, a7, a8, a9, CP, List.append_eq, Ty.fa207_3, dropCells, Nat.zero_add, Nat.reduceAdd, k19, Ty.ld3, iu21, Ty.ix68, iu23, List.drop_succ_cons, List.drop_zero, ld_ip, ofc1, List.drop_succ_cons, List.drop_zero, iu25, k27, hb18, hb26, hb31]
                  rw [k_draw _ _ _ (by kernel_rfl)]
                  exact rfl, ?_⟩
              show P159_4 _ _
              exact ⟨w1_0, by simp [hl], by simp [a0], by simp [a1], r1_0, by simp [a2], by simp [a7], by simp [a8], by simp [hl, hb18, hb26, hb31]⟩)))
theorem R159_4 (pe pr) : Ref Cl P159_7 (Cat [true, true, false, true, true, true, true, false, true, true, true, false, false] (bodyOf Tryz.f159)) m159_4 (post P159_6 pe pr) := by
  rintro s ⟨t, h⟩ hp x s' hm
  obtain ⟨w1_0, i9, hl, a0, a1, r1_0, a2, a7, a8, a9, g9, l9, a10⟩ : P159_7' s t h := hp
  unfold m159_4 at hm
  cases hb35 : (!s.t10) with
  | true =>
    all_goals (
      try simp only [hb35, Zb] at hm
      cases hm
      refine ⟨⟨_, _⟩, by simp only [bodyOf, Tryz.f159, Cat, Zs, awanted, aoper, evalO, put, acallOp, abuiltin, Nat.reduceEqDiff, Nat.reduceLT, ofV, ofCell, ↓reduceIte, hl, a0, a1, a2, a7, a8, a9, a10, CP, aun_not, hb35]; exact rfl, ?_⟩
      show P159_6 _ _
      exact ⟨w1_0, i9, by simp [hl], by simp [a0], by simp [a1], r1_0, by simp [a2], by simp [a7], by simp [a8], by simp [a9], g9, l9, by simp [hl, hb35]⟩)
  | false =>
    all_goals (
      try simp only [hb35, Zb] at hm
      have k36 : loadA h false 1 (.ptr i9 1) = some (.int .i64 s.t9.State) := by rw [Heap.load_gen g9 (Nat.le_of_ble_eq_true rfl)]; first | rfl | exact ofc1 _ _ _
      cases hb37 : (s.t9.State != 2) with
      | true =>
        all_goals (
          try simp only [hb37, Zb] at hm
          cases hm
          refine ⟨⟨_, _⟩, by simp only [bodyOf, Tryz.f159, Cat, Zs, awanted, aoper, evalO, put, acallOp, abuiltin, Nat.reduceEqDiff, Nat.reduceLT, ofV, ofCell, ↓reduceIte, hl, a0, a1, a2, a7, a8, a9, a10, CP, aun_not, Ty.fa207_1, dropCells, Nat.zero_add, Nat.reduceAdd, k36, Ty.ld3, hb35, hb37]; exact rfl, ?_⟩
          show P159_6 _ _
          exact ⟨w1_0, i9, by simp [hl], by simp [a0], by simp [a1], r1_0, by simp [a2], by simp [a7], by simp [a8], by simp [a9], g9, l9, by simp [hl, hb35, hb37]⟩)
      | false =>
        all_goals (
          try simp only [hb37, Zb] at hm
          have k38 : loadA h false 1 (.ptr i9 2) = some (.int .i64 s.t9.Seq) := by rw [Heap.load_gen g9 (Nat.le_of_ble_eq_true rfl)]; first | rfl | exact ofc1 _ _ _
          cases hm
          refine ⟨⟨_, _⟩, by simp only [bodyOf, Tryz.f159, Cat, Zs, awanted, aoper, evalO, put, acallOp, abuiltin, Nat.reduceEqDiff, Nat.reduceLT, ofV, ofCell, ↓reduceIte, hl, a0, a1, a2, a7, a8, a9, a10, CP, aun_not, Ty.fa207_1, dropCells, Nat.zero_add, Nat.reduceAdd, k36, Ty.ld3, Ty.fa207_2, k38, hb35, hb37]; exact rfl, ?_⟩
          show P159_6 _ _
          exact ⟨w1_0, i9, by simp [hl], by simp [a0], by simp [a1], r1_0, by simp [a2], by simp [a7], by simp [a8], by simp [a9], g9, l9, by simp [hl, hb35, hb37]⟩))
theorem R159_5 (pe pr) : Ref Cl P159_5 (Cat [true, true, false, true, true, true, true, false, true, true, false] (bodyOf Tryz.f159)) m159_5 (post P159_7 pe pr) := by
  rintro s ⟨t, h⟩ hp x s' hm
  obtain ⟨w1_0, i9, hl, a0, a1, r1_0, a2, a7, a8, a9, g9, l9⟩ : P159_5' s t h := hp
  unfold m159_5 at hm
  have k42 : loadA h false 1 (.ptr i9 0) = some (.int .i64 s.t9.Set) := by rw [Heap.load_gen g9 (Nat.le_of_ble_eq_true rfl)]; first | rfl | exact ofc1 _ _ _
  obtain ⟨z43, hz43, hm⟩ := Option.bind_eq_some_iff.1 hm
  have iu44 := G86_spec s.t9.Set s.t0  _ hz43
  cases hm
  refine ⟨⟨_, _⟩, by simp only [bodyOf, Tryz.f159, Cat, Zs, awanted, aoper, evalO, put, acallOp, abuiltin, Nat.reduceEqDiff, Nat.reduceLT, ofV, ofCell, ↓reduceIte, hl, a0, a1, a2, a7, a8, a9, CP, Ty.fa207_0, dropCells, Nat.zero_add, Nat.reduceAdd, k42, Ty.ld3, iu44]; exact rfl, ?_⟩
  show P159_7 _ _
  exact ⟨w1_0, i9, by simp [hl], by simp [a0], by simp [a1], r1_0, by simp [a2], by simp [a7], by simp [a8], by simp [a9], g9, l9, by simp [hl]⟩
theorem R159_6 (pe pr) : Ref Cl P159_2 (Cat [true, true, false, true, true, true, true, false, true, false] (bodyOf Tryz.f159)) m159_6 (post P159_5 pe pr) := by
  rintro s ⟨t, h⟩ hp x s' hm
  obtain ⟨w1_0, hl, a0, a1, r1_0, a2, a7, a8⟩ : P159_2' s t h := hp
  unfold m159_6 at hm
  obtain ⟨y56, hy56, hm⟩ := Option.bind_eq_some_iff.1 hm
  obtain ⟨cu57, du57, eu57, iu57, _⟩ := Sl.ix rViewInfo_p r1_0 hy56
  have eu57 := eu57; unfold rViewInfo at eu57; subst eu57
  obtain ⟨H58, eH58⟩ : ∃ x : AHeap, x = h.new (.arr [.int .i64 0, .int .i64 0, .int .i64 0, .int .i64 0, .int .i64 0, .int .i64 0]) := ⟨_, rfl⟩
  obtain ⟨id59, eid59⟩ : ∃ x : Nat, x = h.next := ⟨_, rfl⟩
  have k60 : H58.get id59 = some (.arr [.int .i64 0, .int .i64 0, .int .i64 0, .int .i64 0, .int .i64 0, .int .i64 0]) := by rw [eH58, eid59]; exact Heap.get_new_eq
  have k61 : id59 < H58.next := by rw [eH58, eid59, Heap.new_next]; exact Nat.lt_succ_self _
  have k62 : abox h (.agg [.int .i64 0, .int .i64 0, .int .i64 0, .int .i64 0, .int .i64 0, .int .i64 0]) = some (.ptr id59 0, H58) := by simp only [abox, eH58, eid59, Zc, if_true]
  obtain ⟨H63, eH63⟩ : ∃ x : AHeap, x = H58.set id59 (some (.arr [.int .i64 y56.Set, .int .i64 y56.State, .int .i64 y56.Seq, .int .i64 y56.Rows, .int .i64 y56.Bytes, .int .i64 y56.Readers])) := ⟨_, rfl⟩
  have k64 : storeA H58 6 (.ptr id59 0) (.agg [.int .i64 y56.Set, .int .i64 y56.State, .int .i64 y56.Seq, .int .i64 y56.Rows, .int .i64 y56.Bytes, .int .i64 y56.Readers]) = some H63 := by rw [eH63]; exact Heap.store_gen k60 (show (.agg [.int .i64 y56.Set, .int .i64 y56.State, .int .i64 y56.Seq, .int .i64 y56.Rows, .int .i64 y56.Bytes, .int .i64 y56.Readers] : AVal).cells = [.int .i64 y56.Set, .int .i64 y56.State, .int .i64 y56.Seq, .int .i64 y56.Rows, .int .i64 y56.Bytes, .int .i64 y56.Readers] by simp only [Zc]) rfl (by simp only [Zc]) (Nat.le_of_ble_eq_true rfl) rfl
  have k65 := gse eH63
  have k66 := nxs eH63 k61
  cases hm
  refine ⟨⟨_, _⟩, by simp only [bodyOf, Tryz.f159, Cat, Zs, awanted, aoper, evalO, put, acallOp, abuiltin, Nat.reduceEqDiff, Nat.reduceLT, ofV, ofCell, ↓reduceIte, hl, a0, a1, a2, a7, a8, CP, Ty.ix68, iu57, Ty.ld207, ld_ip, ofc6, List.drop_succ_cons, List.drop_zero, List.length_cons, List.length_nil, Ty.ze207, Ty.own_ref_go_23, k62, k64, Ty.st207]; exact rfl, ?_⟩
  show P159_5 _ _
  exact ⟨w1_0, id59, by simp [hl], by simp [a0], by simp [a1], r1_0, by simp [a2], by simp [a7], by simp [a8], by simp [hl], k65, k66⟩
theorem R159_7 (pe pr) : Ref Cl P159_2 (Cat [true, true, false, true, true, true, false, false] (bodyOf Tryz.f159)) m159_7 (post P159_8 pe pr) := by
  rintro s ⟨t, h⟩ hp x s' hm
  obtain ⟨w1_0, hl, a0, a1, r1_0, a2, a7, a8⟩ : P159_2' s t h := hp
  unfold m159_7 at hm
  have lu68 := fun h => Sl.len r1_0 Ty.un68 h
  cases hm
  refine ⟨⟨_, _⟩, by simp only [bodyOf, Tryz.f159, Cat, Zs, awanted, aoper, evalO, put, acallOp, abuiltin, Nat.reduceEqDiff, Nat.reduceLT, ofV, ofCell, ↓reduceIte, hl, a0, a1, a2, a7, a8, CP, lu68]; exact rfl, ?_⟩
  show P159_8 _ _
  exact ⟨w1_0, by simp [hl], by simp [a0], by simp [a1], r1_0, by simp [a2], by simp [a7], by simp [a8], by simp [hl]⟩
theorem R159_9 (pe pr) : Ref Cl P159_9 (Cat [true, true, false, false] (bodyOf Tryz.f159)) m159_9 (post P159_2 pe pr) := by
  rintro s ⟨t, h⟩ hp x s' hm
  obtain ⟨w1_0, hl, a0, a1, r1_0, a2, a7⟩ : P159_9' s t h := hp
  unfold m159_9 at hm
  cases hm
  refine ⟨⟨_, _⟩, by simp only [bodyOf, Tryz.f159, Cat, Zs, awanted, aoper, evalO, put, acallOp, abuiltin, Nat.reduceEqDiff, Nat.reduceLT, ofV, ofCell, ↓reduceIte, hl, a0, a1, a2, a7, CP]; exact rfl, ?_⟩
  show P159_2 _ _
  exact ⟨w1_0, by simp [hl], by simp [a0], by simp [a1], r1_0, by simp [a2], by simp [a7], by simp [hl]⟩
theorem R159_10 (pe pr) : Ref Cl P159_10 (Cat [true, false] (bodyOf Tryz.f159)) m159_10 (post P159_9 pe pr) := by
  rintro s ⟨t, h⟩ hp x s' hm
  obtain ⟨w1_0, hl, a0, a1, r1_0, a2⟩ : P159_10' s t h := hp
  unfold m159_10 at hm
  cases hm
  refine ⟨⟨_, _⟩, by simp only [bodyOf, Tryz.f159, Cat, Zs, awanted, aoper, evalO, put, acallOp, abuiltin, Nat.reduceEqDiff, Nat.reduceLT, ofV, ofCell, ↓reduceIte, hl, a0, a1, a2, CP]; exact rfl, ?_⟩
  show P159_9 _ _
  exact ⟨w1_0, by simp [hl], by simp [a0], by simp [a1], r1_0, by simp [a2], by simp [hl]⟩
theorem R159_11 (pe pr) : Ref Cl P159_10 (Cat [false] (bodyOf Tryz.f159)) m159_11 (post P159_10 pe pr) := by
  rintro s ⟨t, h⟩ hp x s' hm
  obtain ⟨w1_0, hl, a0, a1, r1_0, a2⟩ : P159_10' s t h := hp
  unfold m159_11 at hm
  cases hm
  refine ⟨⟨_, _⟩, by simp only [bodyOf, Tryz.f159, Cat, Zs, awanted, aoper, evalO, put, acallOp, abuiltin, Nat.reduceEqDiff, Nat.reduceLT, ofV, ofCell, ↓reduceIte, hl, a0, a1, a2, CP]; exact rfl, ?_⟩
  show P159_10 _ _
  exact ⟨w1_0, by simp [hl], by simp [a0], by simp [a1], r1_0, by simp [a2]⟩
theorem B159 : Ref Cl P159_10 (bodyOf Tryz.f159) (M159) (post P159_1 (fun _ _ _ => False) P159_1) := by
  rw [show bodyOf Tryz.f159 = .seq (Cat [false] (bodyOf Tryz.f159)) (.seq (Cat [true, false] (bodyOf Tryz.f159)) (.seq (.seq (Cat [true, true, false, false] (bodyOf Tryz.f159)) (.block 0 (.loop (.seq (.seq (Cat [true, true, false, true, true, true, false, false] (bodyOf Tryz.f159)) (.cond (.tmp 14) (.skip) (.exit 0))) (.seq (.block 1 (.seq (Cat [true, true, false, true, true, true, true, false, true, false] (bodyOf Tryz.f159)) (.seq (Cat [true, true, false, true, true, true, true, false, true, true, false] (bodyOf Tryz.f159)) (.seq (.seq (Cat [true, true, false, true, true, true, true, false, true, true, true, false, false] (bodyOf Tryz.f159)) (.cond (.tmp 37) (.exit 1) (.skip))) (.seq (Cat [true, true, false, true, true, true, true, false, true, true, true, true, false] (bodyOf Tryz.f159)) (.cond (.tmp 73) (Cat [true, true, false, true, true, true, true, false, true, true, true, true, true, false] (bodyOf Tryz.f159)) (.skip))))))) (Cat [true, true, false, true, true, true, true, true] (bodyOf Tryz.f159))))))) (.seq (Cat [true, true, true, false] (bodyOf Tryz.f159)) (.ret)))) from rfl]
  unfold M159
  exact ref_seq (R159_11 _ _) (ref_seq (R159_10 _ _) (ref_seq (ref_seq (R159_9 _ _) (ref_block (ref_loop (P := P159_2) (ref_weak (P' := P159_2) (fun s st hp => hp) (ref_seq (ref_seq (R159_7 _ _) (ref_cond (P := P159_8) (c := fun s => s.t14) (fun s st hp => by obtain ⟨w1_0, hl, a0, a1, r1_0, a2, a7, a8, a14⟩ := (hp : P159_8' s st.tmps st.h); simp only [evalO, a14, Option.getD_some]) (ref_weak (P' := P159_2) (fun s st hp => by obtain ⟨w1_0, hl, a0, a1, r1_0, a2, a7, a8, a14⟩ := (hp : P159_8' s st.tmps st.h); exact (⟨w1_0, hl, a0, a1, r1_0, a2, a7, a8⟩ : P159_2' s st.tmps st.h)) (ref_skip (fun s st hp => hp))) (ref_weak (P' := P159_0) (fun s st hp => by obtain ⟨w1_0, hl, a0, a1, r1_0, a2, a7, a8, a14⟩ := (hp : P159_8' s st.tmps st.h); exact (⟨hl, a7⟩ : P159_0' s st.tmps st.h)) (ref_exit (fun s st hp => hp))))) (ref_seq (ref_block (ref_seq (R159_6 _ _) (ref_seq (R159_5 _ _) (ref_seq (ref_seq (R159_4 _ _) (ref_cond (P := P159_6) (c := fun s => s.t37) (fun s st hp => by obtain ⟨w1_0, i9, hl, a0, a1, r1_0, a2, a7, a8, a9, g9, l9, a37⟩ := (hp : P159_6' s st.tmps st.h); simp only [evalO, a37, Option.getD_some]) (ref_weak (P' := P159_2) (fun s st hp => by obtain ⟨w1_0, i9, hl, a0, a1, r1_0, a2, a7, a8, a9, g9, l9, a37⟩ := (hp : P159_6' s st.tmps st.h); exact (⟨w1_0, hl, a0, a1, r1_0, a2, a7, a8⟩ : P159_2' s st.tmps st.h)) (ref_exit (fun s st hp => hp))) (ref_weak (P' := P159_5) (fun s st hp => by obtain ⟨w1_0, i9, hl, a0, a1, r1_0, a2, a7, a8, a9, g9, l9, a37⟩ := (hp : P159_6' s st.tmps st.h); exact (⟨w1_0, i9, hl, a0, a1, r1_0, a2, a7, a8, a9, g9, l9⟩ : P159_5' s st.tmps st.h)) (ref_skip (fun s st hp => hp))))) (ref_seq (R159_3 _ _) (ref_cond (P := P159_4) (c := fun s => s.t73) (fun s st hp => by obtain ⟨w1_0, hl, a0, a1, r1_0, a2, a7, a8, a73⟩ := (hp : P159_4' s st.tmps st.h); simp only [evalO, a73, Option.getD_some]) (ref_weak (P' := P159_3) (fun s st hp => by obtain ⟨w1_0, hl, a0, a1, r1_0, a2, a7, a8, a73⟩ := (hp : P159_4' s st.tmps st.h); exact (⟨w1_0, hl, a0, a1, r1_0, a2, a8⟩ : P159_3' s st.tmps st.h)) (R159_2 _ _)) (ref_weak (P' := P159_2) (fun s st hp => by obtain ⟨w1_0, hl, a0, a1, r1_0, a2, a7, a8, a73⟩ := (hp : P159_4' s st.tmps st.h); exact (⟨w1_0, hl, a0, a1, r1_0, a2, a7, a8⟩ : P159_2' s st.tmps st.h)) (ref_skip (fun s st hp => hp))))))))) (R159_1 _ _))))))) (ref_seq (R159_0 _ _) (ref_ret (fun s st hp => hp)))))
noncomputable def G159 (x0 : Int) (x1 : (List ViewInfo)) (x2 : Int) : Option Int := match M159 { (default : Fr159) with t0 := x0, t1 := x1, t2 := x2 } with
  | some (.nrm, s) => some s.t6
  | some (.ret, s) => some s.t6
  | _ => none
theorem G159_spec : Spec159 (G159) := by
  intro x0 x1 x2 vx1_0 hvx1_0 r hr
  unfold G159 at hr
  cases hm : M159 { (default : Fr159) with t0 := x0, t1 := x1, t2 := x2 } with
  | none => rw [hm] at hr; cases hr
  | some q =>
    obtain ⟨x, s⟩ := q
    rw [hm] at hr
    have hx : x = .nrm ∨ x = .ret := by cases x <;> first | exact .inl rfl | exact .inr rfl | cases hr
    have hr : s.t6 = r := by cases x <;> first | exact Option.some.inj hr | cases hr
    subst hr
    have hp0 : P159_10' ({ (default : Fr159) with t0 := x0, t1 := x1, t2 := x2 }) (slots Tryz.f159 (stripL [.int .i64 x0, vx1_0, .int .i64 x2])) bare := ⟨(strip vx1_0 : AVal), rfl, rfl, rfl, hvx1_0.strip rViewInfo_p, rfl⟩
    obtain ⟨v, hR, hrun⟩ := run_of_ref (C := Cl) (f := 159) (fn := Tryz.f159) Tryz.func159 rfl rfl rfl rfl (args := [.int .i64 x0, vx1_0, .int .i64 x2]) (by simp only [refsL, refs, List.append_nil, hvx1_0.refs rViewInfo_p]) (B159) (s0 := { (default : Fr159) with t0 := x0, t1 := x1, t2 := x2 }) hp0 hm hx (R := fun v => v = .int .i64 s.t6) (by
      have key : ∀ st : ASt, P159_1 s st → ∃ vs v, aresults Cl Tryz.f159.results.toList st = some vs ∧ Nrm [] st.h (packRes vs) v ∧ (fun v => v = .int .i64 s.t6) v := by
        intro st hp
        obtain ⟨hl, a6⟩ := (hp : P159_1' s st.tmps st.h)
        exact ⟨[.int .i64 s.t6], _, by simp only [show Tryz.f159.results.toList = [ResultVar.tmp 6] from rfl, aresults, ares1, CP, a6, Option.getD_some], (Nrm.of (w := .int .i64 s.t6) (by simp only [refsL, refs, List.append_nil])), rfl⟩
      intro st hq
      rcases hx with rfl | rfl
      · exact key st hq
      · exact key st hq)
    subst hR
    exact hrun
/-! ### caisson/caissonref19.choose -/
structure Fr84 where
  t0 : Int
  t1 : (List ViewInfo)
  t2 : Int
  t3 : Int
  t8 : Plan
  t9 : Int
  t11 : Bool
  t26 : Bool
instance : Inhabited Fr84 := ⟨⟨0, [], 0, 0, default, 0, false, false⟩⟩
def P84_0' (s : Fr84) (t : List AVal) (h : AHeap) : Prop := ∃ w1_0 i8, t.length = 41 ∧ t[1]? = some w1_0 ∧ Sl rViewInfo s.t1 w1_0 ∧ t[8]? = some (.ptr i8 0) ∧ h.get i8 = some (.arr [.bool s.t8.Base, .int .i64 s.t8.Set, .int .i64 s.t8.Cost]) ∧ i8 < h.next ∧ t[9]? = some (.int .i64 s.t9)
def P84_0 (s : Fr84) (st : ASt) : Prop := P84_0' s st.tmps st.h
def P84_1' (s : Fr84) (t : List AVal) (h : AHeap) : Prop := ∃ i8, t.length = 41 ∧ t[8]? = some (.ptr i8 0) ∧ h.get i8 = some (.arr [.bool s.t8.Base, .int .i64 s.t8.Set, .int .i64 s.t8.Cost]) ∧ i8 < h.next
def P84_1 (s : Fr84) (st : ASt) : Prop := P84_1' s st.tmps st.h
def P84_2' (s : Fr84) (t : List AVal) (h : AHeap) : Prop := ∃ i8, t.length = 41 ∧ t[3]? = some (.int .i64 s.t3) ∧ t[8]? = some (.ptr i8 0) ∧ h.get i8 = some (.arr [.bool s.t8.Base, .int .i64 s.t8.Set, .int .i64 s.t8.Cost]) ∧ i8 < h.next
def P84_2 (s : Fr84) (st : ASt) : Prop := P84_2' s st.tmps st.h
def P84_3' (s : Fr84) (t : List AVal) (h : AHeap) : Prop := ∃ w1_0 i8, t.length = 41 ∧ t[1]? = some w1_0 ∧ Sl rViewInfo s.t1 w1_0 ∧ t[3]? = some (.int .i64 s.t3) ∧ t[8]? = some (.ptr i8 0) ∧ h.get i8 = some (.arr [.bool s.t8.Base, .int .i64 s.t8.Set, .int .i64 s.t8.Cost]) ∧ i8 < h.next ∧ t[9]? = some (.int .i64 s.t9) ∧ t[26]? = some (.bool s.t26)
def P84_3 (s : Fr84) (st : ASt) : Prop := P84_3' s st.tmps st.h
def P84_4' (s : Fr84) (t : List AVal) (h : AHeap) : Prop := ∃ w1_0 i8, t.length = 41 ∧ t[1]? = some w1_0 ∧ Sl rViewInfo s.t1 w1_0 ∧ t[3]? = some (.int .i64 s.t3) ∧ t[8]? = some (.ptr i8 0) ∧ h.get i8 = some (.arr [.bool s.t8.Base, .int .i64 s.t8.Set, .int .i64 s.t8.Cost]) ∧ i8 < h.next ∧ t[9]? = some (.int .i64 s.t9)
def P84_4 (s : Fr84) (st : ASt) : Prop := P84_4' s st.tmps st.h
def P84_5' (s : Fr84) (t : List AVal) (h : AHeap) : Prop := ∃ w1_0 i8, t.length = 41 ∧ t[0]? = some (.int .i64 s.t0) ∧ t[1]? = some w1_0 ∧ Sl rViewInfo s.t1 w1_0 ∧ t[2]? = some (.int .i64 s.t2) ∧ t[3]? = some (.int .i64 s.t3) ∧ t[8]? = some (.ptr i8 0) ∧ h.get i8 = some (.arr [.bool s.t8.Base, .int .i64 s.t8.Set, .int .i64 s.t8.Cost]) ∧ i8 < h.next
def P84_5 (s : Fr84) (st : ASt) : Prop := P84_5' s st.tmps st.h
def P84_6' (s : Fr84) (t : List AVal) (h : AHeap) : Prop := ∃ w1_0 i8, t.length = 41 ∧ t[0]? = some (.int .i64 s.t0) ∧ t[1]? = some w1_0 ∧ Sl rViewInfo s.t1 w1_0 ∧ t[2]? = some (.int .i64 s.t2) ∧ t[8]? = some (.ptr i8 0) ∧ h.get i8 = some (.arr [.bool s.t8.Base, .int .i64 s.t8.Set, .int .i64 s.t8.Cost]) ∧ i8 < h.next
def P84_6 (s : Fr84) (st : ASt) : Prop := P84_6' s st.tmps st.h
def P84_7' (s : Fr84) (t : List AVal) (h : AHeap) : Prop := ∃ w1_0 i8, t.length = 41 ∧ t[0]? = some (.int .i64 s.t0) ∧ t[1]? = some w1_0 ∧ Sl rViewInfo s.t1 w1_0 ∧ t[2]? = some (.int .i64 s.t2) ∧ t[3]? = some (.int .i64 s.t3) ∧ t[8]? = some (.ptr i8 0) ∧ h.get i8 = some (.arr [.bool s.t8.Base, .int .i64 s.t8.Set, .int .i64 s.t8.Cost]) ∧ i8 < h.next ∧ t[11]? = some (.bool s.t11)
def P84_7 (s : Fr84) (st : ASt) : Prop := P84_7' s st.tmps st.h
def P84_8' (s : Fr84) (t : List AVal) (h : AHeap) : Prop := ∃ w1_0, t.length = 41 ∧ t[0]? = some (.int .i64 s.t0) ∧ t[1]? = some w1_0 ∧ Sl rViewInfo s.t1 w1_0 ∧ t[2]? = some (.int .i64 s.t2) ∧ t[3]? = some (.int .i64 s.t3)
def P84_8 (s : Fr84) (st : ASt) : Prop := P84_8' s st.tmps st.h
noncomputable def m84_0 : Mo Fr84 := fun s => (at? s.t1 s.t9).bind fun y1 => (G87 y1.Rows).bind fun z3 => some (.nrm, { s with t8 := { Base := false, Set := y1.Set, Cost := z3 } })
noncomputable def m84_1 : Mo Fr84 := fun s => some (.nrm, { s with t8 := { Base := true, Set := 0, Cost := s.t3 } })
noncomputable def m84_2 : Mo Fr84 := fun s => (cond (!(decide (s.t9 < 0))) ((at? s.t1 s.t9).bind fun y29 => some (decide (y29.Rows > s.t3))) (some false)).bind fun x31 => some (.nrm, { s with t26 := ((decide (s.t9 < 0)) || x31) })
noncomputable def m84_3 : Mo Fr84 := fun s => (G159 s.t0 s.t1 s.t2).bind fun z35 => some (.nrm, { s with t9 := z35 })
noncomputable def m84_4 : Mo Fr84 := fun s => some (.nrm, { s with t3 := 0 })
noncomputable def m84_5 : Mo Fr84 := fun s => some (.nrm, { s with t11 := decide (s.t3 < 0) })
noncomputable def m84_6 : Mo Fr84 := fun s => some (.nrm, { s with t8 := { Base := false, Set := 0, Cost := 0 } })
noncomputable def M84 : Mo Fr84 := seqM (m84_6) (seqM (seqM (m84_5) (condM (fun s => s.t11) (m84_4) (skipM))) (seqM (m84_3) (seqM (seqM (m84_2) (condM (fun s => s.t26) (seqM (m84_1) (retM)) (skipM))) (seqM (m84_0) (retM)))))
def Spec84 (f : Int → (List ViewInfo) → Int → Int → Option Plan) : Prop := ∀ (x0 : Int) (x1 : (List ViewInfo)) (x2 : Int) (x3 : Int) (vx1_0 : AVal) (_ : Sl rViewInfo x1 vx1_0) (r : Plan), f x0 x1 x2 x3 = some r → ∀ h, run Cl 84 [.int .i64 x0, vx1_0, .int .i64 x2, .int .i64 x3] h = some (.ret (.agg [.bool r.Base, .int .i64 r.Set, .int .i64 r.Cost]), h)
theorem Spec84_of {f g : Int → (List ViewInfo) → Int → Int → Option Plan} (hg : Spec84 g) (h : ∀ x0 x1 x2 x3 r, f x0 x1 x2 x3 = some r → g x0 x1 x2 x3 = some r) : Spec84 f := fun x0 x1 x2 x3 v0_ w0_ r hr => hg x0 x1 x2 x3 v0_ w0_ r (h x0 x1 x2 x3 r hr)
theorem R84_0 (pe pr) : Ref Cl P84_0 (Cat [true, true, true, true, false] (bodyOf Tryz.f84)) m84_0 (post P84_1 pe pr) := by
  rintro s ⟨t, h⟩ hp x s' hm
  obtain ⟨w1_0, i8, hl, a1, r1_0, a8, g8, l8, a9⟩ : P84_0' s t h := hp
  unfold m84_0 at hm
  obtain ⟨y10, hy10, hm⟩ := Option.bind_eq_some_iff.1 hm
  obtain ⟨cu11, du11, eu11, iu11, _⟩ := Sl.ix rViewInfo_p r1_0 hy10
  have eu11 := eu11; unfold rViewInfo at eu11; subst eu11
  obtain ⟨z12, hz12, hm⟩ := Option.bind_eq_some_iff.1 hm
  have iu13 := G87_spec y10.Rows  _ hz12
  have bd14 : abuild Tryz.prog 72 [(1, .int .i64 y10.Set), (2, .int .i64 z12)] = some (.agg [.bool false, .int .i64 y10.Set, .int .i64 z12]) := by simp only [Ty.bu72, List.getElem?_toArray, fillA, Zc, List.length_cons, List.length_nil, setRange, List.set_cons_zero, List.set_cons_succ, Option.bind_eq_bind, Option.bind_some, Nat.zero_add, Nat.reduceAdd, and_self, Nat.reduceLeDiff, if_true, and_true, true_and, Nat.le_refl, Nat.zero_le, List.getElem?_cons_zero, List.getElem?_cons_succ, Option.map_some]
  obtain ⟨H15, eH15⟩ : ∃ x : AHeap, x = h.set i8 (some (.arr [.bool false, .int .i64 y10.Set, .int .i64 z12])) := ⟨_, rfl⟩
  have k16 : storeA h 3 (.ptr i8 0) (.agg [.bool false, .int .i64 y10.Set, .int .i64 z12]) = some H15 := by rw [eH15]; exact Heap.store_gen g8 (show (.agg [.bool false, .int .i64 y10.Set, .int .i64 z12] : AVal).cells = [.bool false, .int .i64 y10.Set, .int .i64 z12] by simp only [Zc]) rfl (by simp only [Zc]) (Nat.le_of_ble_eq_true rfl) rfl
  have k17 := gse eH15
  have k18 := nxs eH15 l8
  cases hm
  refine ⟨⟨_, _⟩, by
      simp only [bodyOf, Tryz.f84, Cat, Zs, awanted, aoper, evalO, put, acallOp, abuiltin, Nat.reduceEqDiff, Nat.reduceLT, ofV, ofCell, ↓reduceIte, hl, a1, a8, a9, CP, Ty.ix68, iu11, Ty.fa207_0, dropCells, List.drop_succ_cons, List.drop_zero, Ty.ld3, ld_ip, ofc1, List.drop_succ_cons, List.drop_zero, Ty.fa207_3, iu13, bd14, k16, Ty.st72]
      rw [k_draw _ _ _ (by kernel_rfl)]
      exact rfl, ?_⟩
  show P84_1 _ _
  exact ⟨i8, by simp [hl], by simp [a8], k17, k18⟩
theorem R84_1 (pe pr) : Ref Cl P84_2 (Cat [true, true, true, false, true, false, false] (bodyOf Tryz.f84)) m84_1 (post P84_1 pe pr) := by
  rintro s ⟨t, h⟩ hp x s' hm
  obtain ⟨i8, hl, a3, a8, g8, l8⟩ : P84_2' s t h := hp
  unfold m84_1 at hm
  have bd24 : abuild Tryz.prog 72 [(0, .bool true), (2, .int .i64 s.t3)] = some (.agg [.bool true, .int .i64 0, .int .i64 s.t3]) := by simp only [Ty.bu72, List.getElem?_toArray, fillA, Zc, List.length_cons, List.length_nil, setRange, List.set_cons_zero, List.set_cons_succ, Option.bind_eq_bind, Option.bind_some, Nat.zero_add, Nat.reduceAdd, and_self, Nat.reduceLeDiff, if_true, and_true, true_and, Nat.le_refl, Nat.zero_le, List.getElem?_cons_zero, List.getElem?_cons_succ, Option.map_some]
  obtain ⟨H25, eH25⟩ : ∃ x : AHeap, x = h.set i8 (some (.arr [.bool true, .int .i64 0, .int .i64 s.t3])) := ⟨_, rfl⟩
  have k26 : storeA h 3 (.ptr i8 0) (.agg [.bool true, .int .i64 0, .int .i64 s.t3]) = some H25 := by rw [eH25]; exact Heap.store_gen g8 (show (.agg [.bool true, .int .i64 0, .int .i64 s.t3] : AVal).cells = [.bool true, .int .i64 0, .int .i64 s.t3] by simp only [Zc]) rfl (by simp only [Zc]) (Nat.le_of_ble_eq_true rfl) rfl
  have k27 := gse eH25
  have k28 := nxs eH25 l8
  cases hm
  refine ⟨⟨_, _⟩, by simp only [bodyOf, Tryz.f84, Cat, Zs, awanted, aoper, evalO, put, acallOp, abuiltin, Nat.reduceEqDiff, Nat.reduceLT, ofV, ofCell, ↓reduceIte, hl, a3, a8, CP, bd24, k26, Ty.st72]; exact rfl, ?_⟩
  show P84_1 _ _
  exact ⟨i8, by simp [hl], by simp [a8], k27, k28⟩
theorem R84_2 (pe pr) : Ref Cl P84_4 (Cat [true, true, true, false, false] (bodyOf Tryz.f84)) m84_2 (post P84_3 pe pr) := by
  rintro s ⟨t, h⟩ hp x s' hm
  obtain ⟨w1_0, i8, hl, a1, r1_0, a3, a8, g8, l8, a9⟩ : P84_4' s t h := hp
  unfold m84_2 at hm
  cases hb32 : decide (s.t9 < 0) with
  | true =>
    all_goals (
      try simp only [hb32, Zb] at hm
      cases hm
      refine ⟨⟨_, _⟩, by simp only [bodyOf, Tryz.f84, Cat, Zs, awanted, aoper, evalO, put, acallOp, abuiltin, Nat.reduceEqDiff, Nat.reduceLT, ofV, ofCell, ↓reduceIte, hl, a1, a3, a8, a9, CP, hb32]; exact rfl, ?_⟩
      show P84_3 _ _
      exact ⟨w1_0, i8, by simp [hl], by simp [a1], r1_0, by simp [a3], by simp [a8], g8, l8, by simp [a9], by simp [hl, hb32]⟩)
  | false =>
    all_goals (
      try simp only [hb32, Zb] at hm
      obtain ⟨y33, hy33, hm⟩ := Option.bind_eq_some_iff.1 hm
      obtain ⟨cu34, du34, eu34, iu34, _⟩ := Sl.ix rViewInfo_p r1_0 hy33
      have eu34 := eu34; unfold rViewInfo at eu34; subst eu34
      try simp only [Zb] at hm
      cases hm
      refine ⟨⟨_, _⟩, by simp only [bodyOf, Tryz.f84, Cat, Zs, awanted, aoper, evalO, put, acallOp, abuiltin, Nat.reduceEqDiff, Nat.reduceLT, ofV, ofCell, ↓reduceIte, hl, a1, a3, a8, a9, CP, Ty.ix68, iu34, Ty.fa207_3, dropCells, List.drop_succ_cons, List.drop_zero, Ty.ld3, ld_ip, ofc1, List.drop_succ_cons, List.drop_zero, hb32]; exact rfl, ?_⟩
      show P84_3 _ _
      exact ⟨w1_0, i8, by simp [hl], by simp [a1], r1_0, by simp [a3], by simp [a8], g8, l8, by simp [a9], by simp [hl, hb32]⟩)
theorem R84_3 (pe pr) : Ref Cl P84_5 (Cat [true, true, false] (bodyOf Tryz.f84)) m84_3 (post P84_4 pe pr) := by
  rintro s ⟨t, h⟩ hp x s' hm
  obtain ⟨w1_0, i8, hl, a0, a1, r1_0, a2, a3, a8, g8, l8⟩ : P84_5' s t h := hp
  unfold m84_3 at hm
  obtain ⟨z37, hz37, hm⟩ := Option.bind_eq_some_iff.1 hm
  have iu38 := G159_spec s.t0 s.t1 s.t2 _ r1_0 _ hz37
  cases hm
  refine ⟨⟨_, _⟩, by simp only [bodyOf, Tryz.f84, Cat, Zs, awanted, aoper, evalO, put, acallOp, abuiltin, Nat.reduceEqDiff, Nat.reduceLT, ofV, ofCell, ↓reduceIte, hl, a0, a1, a2, a3, a8, CP, iu38]; exact rfl, ?_⟩
  show P84_4 _ _
  exact ⟨w1_0, i8, by simp [hl], by simp [a1], r1_0, by simp [a3], by simp [a8], g8, l8, by simp [hl]⟩
theorem R84_4 (pe pr) : Ref Cl P84_6 (Cat [true, false, true, false] (bodyOf Tryz.f84)) m84_4 (post P84_5 pe pr) := by
  rintro s ⟨t, h⟩ hp x s' hm
  obtain ⟨w1_0, i8, hl, a0, a1, r1_0, a2, a8, g8, l8⟩ : P84_6' s t h := hp
  unfold m84_4 at hm
  cases hm
  refine ⟨⟨_, _⟩, by simp only [bodyOf, Tryz.f84, Cat, Zs, awanted, aoper, evalO, put, acallOp, abuiltin, Nat.reduceEqDiff, Nat.reduceLT, ofV, ofCell, ↓reduceIte, hl, a0, a1, a2, a8, CP]; exact rfl, ?_⟩
  show P84_5 _ _
  exact ⟨w1_0, i8, by simp [hl], by simp [a0], by simp [a1], r1_0, by simp [a2], by simp [hl], by simp [a8], g8, l8⟩
theorem R84_5 (pe pr) : Ref Cl P84_5 (Cat [true, false, false] (bodyOf Tryz.f84)) m84_5 (post P84_7 pe pr) := by
  rintro s ⟨t, h⟩ hp x s' hm
  obtain ⟨w1_0, i8, hl, a0, a1, r1_0, a2, a3, a8, g8, l8⟩ : P84_5' s t h := hp
  unfold m84_5 at hm
  cases hm
  refine ⟨⟨_, _⟩, by simp only [bodyOf, Tryz.f84, Cat, Zs, awanted, aoper, evalO, put, acallOp, abuiltin, Nat.reduceEqDiff, Nat.reduceLT, ofV, ofCell, ↓reduceIte, hl, a0, a1, a2, a3, a8, CP]; exact rfl, ?_⟩
  show P84_7 _ _
  exact ⟨w1_0, i8, by simp [hl], by simp [a0], by simp [a1], r1_0, by simp [a2], by simp [a3], by simp [a8], g8, l8, by simp [hl]⟩
theorem R84_6 (pe pr) : Ref Cl P84_8 (Cat [false] (bodyOf Tryz.f84)) m84_6 (post P84_5 pe pr) := by
  rintro s ⟨t, h⟩ hp x s' hm
  obtain ⟨w1_0, hl, a0, a1, r1_0, a2, a3⟩ : P84_8' s t h := hp
  unfold m84_6 at hm
  obtain ⟨H44, eH44⟩ : ∃ x : AHeap, x = h.new (.arr [.bool false, .int .i64 0, .int .i64 0]) := ⟨_, rfl⟩
  obtain ⟨id45, eid45⟩ : ∃ x : Nat, x = h.next := ⟨_, rfl⟩
  have k46 : H44.get id45 = some (.arr [.bool false, .int .i64 0, .int .i64 0]) := by rw [eH44, eid45]; exact Heap.get_new_eq
  have k47 : id45 < H44.next := by rw [eH44, eid45, Heap.new_next]; exact Nat.lt_succ_self _
  have k48 : abox h (.agg [.bool false, .int .i64 0, .int .i64 0]) = some (.ptr id45 0, H44) := by simp only [abox, eH44, eid45, Zc, if_true]
  cases hm
  refine ⟨⟨_, _⟩, by simp only [bodyOf, Tryz.f84, Cat, Zs, awanted, aoper, evalO, put, acallOp, abuiltin, Nat.reduceEqDiff, Nat.reduceLT, ofV, ofCell, ↓reduceIte, hl, a0, a1, a2, a3, CP, Ty.ze72, Ty.own_ref_go_36, k48]; exact rfl, ?_⟩
  show P84_5 _ _
  exact ⟨w1_0, id45, by simp [hl], by simp [a0], by simp [a1], r1_0, by simp [a2], by simp [a3], by simp [hl], k46, k47⟩
theorem B84 : Ref Cl P84_8 (bodyOf Tryz.f84) (M84) (post P84_1 (fun _ _ _ => False) P84_1) := by
  rw [show bodyOf Tryz.f84 = .seq (Cat [false] (bodyOf Tryz.f84)) (.seq (.seq (Cat [true, false, false] (bodyOf Tryz.f84)) (.cond (.tmp 11) (Cat [true, false, true, false] (bodyOf Tryz.f84)) (.skip))) (.seq (Cat [true, true, false] (bodyOf Tryz.f84)) (.seq (.seq (Cat [true, true, true, false, false] (bodyOf Tryz.f84)) (.cond (.tmp 26) (.seq (Cat [true, true, true, false, true, false, false] (bodyOf Tryz.f84)) (.ret)) (.skip))) (.seq (Cat [true, true, true, true, false] (bodyOf Tryz.f84)) (.ret))))) from rfl]
  unfold M84
  exact ref_seq (R84_6 _ _) (ref_seq (ref_seq (R84_5 _ _) (ref_cond (P := P84_7) (c := fun s => s.t11) (fun s st hp => by obtain ⟨w1_0, i8, hl, a0, a1, r1_0, a2, a3, a8, g8, l8, a11⟩ := (hp : P84_7' s st.tmps st.h); simp only [evalO, a11, Option.getD_some]) (ref_weak (P' := P84_6) (fun s st hp => by obtain ⟨w1_0, i8, hl, a0, a1, r1_0, a2, a3, a8, g8, l8, a11⟩ := (hp : P84_7' s st.tmps st.h); exact (⟨w1_0, i8, hl, a0, a1, r1_0, a2, a8, g8, l8⟩ : P84_6' s st.tmps st.h)) (R84_4 _ _)) (ref_weak (P' := P84_5) (fun s st hp => by obtain ⟨w1_0, i8, hl, a0, a1, r1_0, a2, a3, a8, g8, l8, a11⟩ := (hp : P84_7' s st.tmps st.h); exact (⟨w1_0, i8, hl, a0, a1, r1_0, a2, a3, a8, g8, l8⟩ : P84_5' s st.tmps st.h)) (ref_skip (fun s st hp => hp))))) (ref_seq (R84_3 _ _) (ref_seq (ref_seq (R84_2 _ _) (ref_cond (P := P84_3) (c := fun s => s.t26) (fun s st hp => by obtain ⟨w1_0, i8, hl, a1, r1_0, a3, a8, g8, l8, a9, a26⟩ := (hp : P84_3' s st.tmps st.h); simp only [evalO, a26, Option.getD_some]) (ref_weak (P' := P84_2) (fun s st hp => by obtain ⟨w1_0, i8, hl, a1, r1_0, a3, a8, g8, l8, a9, a26⟩ := (hp : P84_3' s st.tmps st.h); exact (⟨i8, hl, a3, a8, g8, l8⟩ : P84_2' s st.tmps st.h)) (ref_seq (R84_1 _ _) (ref_ret (fun s st hp => hp)))) (ref_weak (P' := P84_0) (fun s st hp => by obtain ⟨w1_0, i8, hl, a1, r1_0, a3, a8, g8, l8, a9, a26⟩ := (hp : P84_3' s st.tmps st.h); exact (⟨w1_0, i8, hl, a1, r1_0, a8, g8, l8, a9⟩ : P84_0' s st.tmps st.h)) (ref_skip (fun s st hp => hp))))) (ref_seq (R84_0 _ _) (ref_ret (fun s st hp => hp))))))
noncomputable def G84 (x0 : Int) (x1 : (List ViewInfo)) (x2 : Int) (x3 : Int) : Option Plan := match M84 { (default : Fr84) with t0 := x0, t1 := x1, t2 := x2, t3 := x3 } with
  | some (.nrm, s) => some s.t8
  | some (.ret, s) => some s.t8
  | _ => none
theorem G84_spec : Spec84 (G84) := by
  intro x0 x1 x2 x3 vx1_0 hvx1_0 r hr
  unfold G84 at hr
  cases hm : M84 { (default : Fr84) with t0 := x0, t1 := x1, t2 := x2, t3 := x3 } with
  | none => rw [hm] at hr; cases hr
  | some q =>
    obtain ⟨x, s⟩ := q
    rw [hm] at hr
    have hx : x = .nrm ∨ x = .ret := by cases x <;> first | exact .inl rfl | exact .inr rfl | cases hr
    have hr : s.t8 = r := by cases x <;> first | exact Option.some.inj hr | cases hr
    subst hr
    have hp0 : P84_8' ({ (default : Fr84) with t0 := x0, t1 := x1, t2 := x2, t3 := x3 }) (slots Tryz.f84 (stripL [.int .i64 x0, vx1_0, .int .i64 x2, .int .i64 x3])) bare := ⟨(strip vx1_0 : AVal), rfl, rfl, rfl, hvx1_0.strip rViewInfo_p, rfl, rfl⟩
    obtain ⟨v, hR, hrun⟩ := run_of_ref (C := Cl) (f := 84) (fn := Tryz.f84) Tryz.func84 rfl rfl rfl rfl (args := [.int .i64 x0, vx1_0, .int .i64 x2, .int .i64 x3]) (by simp only [refsL, refs, List.append_nil, hvx1_0.refs rViewInfo_p]) (B84) (s0 := { (default : Fr84) with t0 := x0, t1 := x1, t2 := x2, t3 := x3 }) hp0 hm hx (R := fun v => v = .agg [.bool s.t8.Base, .int .i64 s.t8.Set, .int .i64 s.t8.Cost]) (by
      have key : ∀ st : ASt, P84_1 s st → ∃ vs v, aresults Cl Tryz.f84.results.toList st = some vs ∧ Nrm [] st.h (packRes vs) v ∧ (fun v => v = .agg [.bool s.t8.Base, .int .i64 s.t8.Set, .int .i64 s.t8.Cost]) v := by
        intro st hp
        obtain ⟨i8, hl, a8, g8, l8⟩ := (hp : P84_1' s st.tmps st.h)
        have ld8 : loadA st.h true 3 (.ptr i8 0) = some (.agg [.bool s.t8.Base, .int .i64 s.t8.Set, .int .i64 s.t8.Cost]) := by rw [Heap.load_gen g8 (Nat.zero_le _)]; first | rfl | exact ofc3 _ _ _ _
        exact ⟨[.agg [.bool s.t8.Base, .int .i64 s.t8.Set, .int .i64 s.t8.Cost]], _, by simp only [show Tryz.f84.results.toList = [ResultVar.cell 8 72] from rfl, aresults, ares1, CP, a8, Option.getD_some, ld8, Ty.ld72], (Nrm.of (w := .agg [.bool s.t8.Base, .int .i64 s.t8.Set, .int .i64 s.t8.Cost]) (by simp only [refsL, refs, List.append_nil])), rfl⟩
      intro st hq
      rcases hx with rfl | rfl
      · exact key st hq
      · exact key st hq)
    subst hR
    exact hrun
/-! ### caisson/caissonref19.Choose -/
structure Fr28 where
  t0 : Bound
  t1 : (List ViewInfo)
  t2 : Int
  t3 : Int
  t4 : Bound
  t8 : Plan
  t9 : Int
  t10 : Bool
  t16 : Bool
instance : Inhabited Fr28 := ⟨⟨default, [], 0, 0, default, default, 0, false, false⟩⟩
def P28_0' (s : Fr28) (t : List AVal) (h : AHeap) : Prop := ∃ w1_0 i8, t.length = 26 ∧ t[1]? = some w1_0 ∧ Sl rViewInfo s.t1 w1_0 ∧ t[2]? = some (.int .i64 s.t2) ∧ t[3]? = some (.int .i64 s.t3) ∧ t[8]? = some (.ptr i8 0) ∧ h.get i8 = some (.arr [.bool s.t8.Base, .int .i64 s.t8.Set, .int .i64 s.t8.Cost]) ∧ i8 < h.next ∧ t[9]? = some (.int .i64 s.t9)
def P28_0 (s : Fr28) (st : ASt) : Prop := P28_0' s st.tmps st.h
def P28_1' (s : Fr28) (t : List AVal) (h : AHeap) : Prop := ∃ i8, t.length = 26 ∧ t[8]? = some (.ptr i8 0) ∧ h.get i8 = some (.arr [.bool s.t8.Base, .int .i64 s.t8.Set, .int .i64 s.t8.Cost]) ∧ i8 < h.next
def P28_1 (s : Fr28) (st : ASt) : Prop := P28_1' s st.tmps st.h
def P28_2' (s : Fr28) (t : List AVal) (h : AHeap) : Prop := ∃ i8, t.length = 26 ∧ t[2]? = some (.int .i64 s.t2) ∧ t[3]? = some (.int .i64 s.t3) ∧ t[8]? = some (.ptr i8 0) ∧ h.get i8 = some (.arr [.bool s.t8.Base, .int .i64 s.t8.Set, .int .i64 s.t8.Cost]) ∧ i8 < h.next ∧ t[9]? = some (.int .i64 s.t9)
def P28_2 (s : Fr28) (st : ASt) : Prop := P28_2' s st.tmps st.h
def P28_3' (s : Fr28) (t : List AVal) (h : AHeap) : Prop := ∃ w1_0 i8, t.length = 26 ∧ t[1]? = some w1_0 ∧ Sl rViewInfo s.t1 w1_0 ∧ t[2]? = some (.int .i64 s.t2) ∧ t[3]? = some (.int .i64 s.t3) ∧ t[8]? = some (.ptr i8 0) ∧ h.get i8 = some (.arr [.bool s.t8.Base, .int .i64 s.t8.Set, .int .i64 s.t8.Cost]) ∧ i8 < h.next ∧ t[9]? = some (.int .i64 s.t9) ∧ t[16]? = some (.bool s.t16)
def P28_3 (s : Fr28) (st : ASt) : Prop := P28_3' s st.tmps st.h
def P28_4' (s : Fr28) (t : List AVal) (h : AHeap) : Prop := ∃ w1_0 i8, t.length = 26 ∧ t[1]? = some w1_0 ∧ Sl rViewInfo s.t1 w1_0 ∧ t[2]? = some (.int .i64 s.t2) ∧ t[3]? = some (.int .i64 s.t3) ∧ t[8]? = some (.ptr i8 0) ∧ h.get i8 = some (.arr [.bool s.t8.Base, .int .i64 s.t8.Set, .int .i64 s.t8.Cost]) ∧ i8 < h.next ∧ t[9]? = some (.int .i64 s.t9) ∧ t[10]? = some (.bool s.t10)
def P28_4 (s : Fr28) (st : ASt) : Prop := P28_4' s st.tmps st.h
def P28_5' (s : Fr28) (t : List AVal) (h : AHeap) : Prop := ∃ w1_0 w4_0 w4_1 w4_2 w4_3 i8, t.length = 26 ∧ t[1]? = some w1_0 ∧ Sl rViewInfo s.t1 w1_0 ∧ t[2]? = some (.int .i64 s.t2) ∧ t[3]? = some (.int .i64 s.t3) ∧ t[4]? = some (.iptr [w4_0, w4_1, w4_2, w4_3]) ∧ Sl rPick s.t4.Picks w4_0 ∧ Sl rS s.t4.Names w4_1 ∧ rTestT s.t4.Where [w4_2] ∧ Sl (rI .i64) s.t4.Sets w4_3 ∧ t[8]? = some (.ptr i8 0) ∧ h.get i8 = some (.arr [.bool s.t8.Base, .int .i64 s.t8.Set, .int .i64 s.t8.Cost]) ∧ i8 < h.next
def P28_5 (s : Fr28) (st : ASt) : Prop := P28_5' s st.tmps st.h
def P28_6' (s : Fr28) (t : List AVal) (h : AHeap) : Prop := ∃ w0_0 w0_1 w0_2 w0_3 w1_0, t.length = 26 ∧ t[0]? = some (.agg [w0_0, w0_1, w0_2, w0_3]) ∧ Sl rPick s.t0.Picks w0_0 ∧ Sl rS s.t0.Names w0_1 ∧ rTestT s.t0.Where [w0_2] ∧ Sl (rI .i64) s.t0.Sets w0_3 ∧ t[1]? = some w1_0 ∧ Sl rViewInfo s.t1 w1_0 ∧ t[2]? = some (.int .i64 s.t2) ∧ t[3]? = some (.int .i64 s.t3)
def P28_6 (s : Fr28) (st : ASt) : Prop := P28_6' s st.tmps st.h
noncomputable def m28_0 : Mo Fr28 := fun s => (G84 s.t9 s.t1 s.t2 s.t3).bind fun z1 => some (.nrm, { s with t8 := z1 })
noncomputable def m28_1 : Mo Fr28 := fun s => (G84 s.t9 [] s.t2 s.t3).bind fun z13 => some (.nrm, { s with t8 := z13 })
noncomputable def m28_2 : Mo Fr28 := fun s => some (.nrm, { s with t16 := s.t10 })
noncomputable def m28_3 : Mo Fr28 := fun s => (G83 s.t4).bind fun z25 => some (.nrm, { s with t9 := z25.1, t10 := z25.2 })
noncomputable def m28_4 : Mo Fr28 := fun s => some (.nrm, { s with t4 := s.t0, t8 := { Base := false, Set := 0, Cost := 0 } })
noncomputable def M28 : Mo Fr28 := seqM (m28_4) (seqM (m28_3) (seqM (seqM (m28_2) (condM (fun s => s.t16) (seqM (m28_1) (retM)) (skipM))) (seqM (m28_0) (retM))))
def Spec28 (f : Bound → (List ViewInfo) → Int → Int → Option Plan) : Prop := ∀ (x0 : Bound) (x1 : (List ViewInfo)) (x2 : Int) (x3 : Int) (vx0_0 : AVal) (_ : Sl rPick x0.Picks vx0_0) (vx0_1 : AVal) (_ : Sl rS x0.Names vx0_1) (vx0_2 : AVal) (_ : rTestT x0.Where [vx0_2]) (vx0_3 : AVal) (_ : Sl (rI .i64) x0.Sets vx0_3) (vx1_0 : AVal) (_ : Sl rViewInfo x1 vx1_0) (r : Plan), f x0 x1 x2 x3 = some r → ∀ h, run Cl 28 [.agg [vx0_0, vx0_1, vx0_2, vx0_3], vx1_0, .int .i64 x2, .int .i64 x3] h = some (.ret (.agg [.bool r.Base, .int .i64 r.Set, .int .i64 r.Cost]), h)
theorem Spec28_of {f g : Bound → (List ViewInfo) → Int → Int → Option Plan} (hg : Spec28 g) (h : ∀ x0 x1 x2 x3 r, f x0 x1 x2 x3 = some r → g x0 x1 x2 x3 = some r) : Spec28 f := fun x0 x1 x2 x3 v0_ w0_ v1_ w1_ v2_ w2_ v3_ w3_ v4_ w4_ r hr => hg x0 x1 x2 x3 v0_ w0_ v1_ w1_ v2_ w2_ v3_ w3_ v4_ w4_ r (h x0 x1 x2 x3 r hr)
theorem R28_0 (pe pr) : Ref Cl P28_0 (Cat [true, true, true, false] (bodyOf Tryz.f28)) m28_0 (post P28_1 pe pr) := by
  rintro s ⟨t, h⟩ hp x s' hm
  obtain ⟨w1_0, i8, hl, a1, r1_0, a2, a3, a8, g8, l8, a9⟩ : P28_0' s t h := hp
  unfold m28_0 at hm
  obtain ⟨z7, hz7, hm⟩ := Option.bind_eq_some_iff.1 hm
  have iu8 := G84_spec s.t9 s.t1 s.t2 s.t3 _ r1_0 _ hz7
  obtain ⟨H9, eH9⟩ : ∃ x : AHeap, x = h.set i8 (some (.arr [.bool z7.Base, .int .i64 z7.Set, .int .i64 z7.Cost])) := ⟨_, rfl⟩
  have k10 : storeA h 3 (.ptr i8 0) (.agg [.bool z7.Base, .int .i64 z7.Set, .int .i64 z7.Cost]) = some H9 := by rw [eH9]; exact Heap.store_gen g8 (show (.agg [.bool z7.Base, .int .i64 z7.Set, .int .i64 z7.Cost] : AVal).cells = [.bool z7.Base, .int .i64 z7.Set, .int .i64 z7.Cost] by simp only [Zc]) rfl (by simp only [Zc]) (Nat.le_of_ble_eq_true rfl) rfl
  have k11 := gse eH9
  have k12 := nxs eH9 l8
  cases hm
  refine ⟨⟨_, _⟩, by simp only [bodyOf, Tryz.f28, Cat, Zs, awanted, aoper, evalO, put, acallOp, abuiltin, Nat.reduceEqDiff, Nat.reduceLT, ofV, ofCell, ↓reduceIte, hl, a1, a2, a3, a8, a9, CP, iu8, k10, Ty.st72]; exact rfl, ?_⟩
  show P28_1 _ _
  exact ⟨i8, by simp [hl], by simp [a8], k11, k12⟩
theorem R28_1 (pe pr) : Ref Cl P28_2 (Cat [true, true, false, true, false, false] (bodyOf Tryz.f28)) m28_1 (post P28_1 pe pr) := by
  rintro s ⟨t, h⟩ hp x s' hm
  obtain ⟨i8, hl, a2, a3, a8, g8, l8, a9⟩ : P28_2' s t h := hp
  unfold m28_1 at hm
  obtain ⟨z19, hz19, hm⟩ := Option.bind_eq_some_iff.1 hm
  have iu20 := G84_spec s.t9 [] s.t2 s.t3 _ Sl.nil _ hz19
  obtain ⟨H21, eH21⟩ : ∃ x : AHeap, x = h.set i8 (some (.arr [.bool z19.Base, .int .i64 z19.Set, .int .i64 z19.Cost])) := ⟨_, rfl⟩
  have k22 : storeA h 3 (.ptr i8 0) (.agg [.bool z19.Base, .int .i64 z19.Set, .int .i64 z19.Cost]) = some H21 := by rw [eH21]; exact Heap.store_gen g8 (show (.agg [.bool z19.Base, .int .i64 z19.Set, .int .i64 z19.Cost] : AVal).cells = [.bool z19.Base, .int .i64 z19.Set, .int .i64 z19.Cost] by simp only [Zc]) rfl (by simp only [Zc]) (Nat.le_of_ble_eq_true rfl) rfl
  have k23 := gse eH21
  have k24 := nxs eH21 l8
  cases hm
  refine ⟨⟨_, _⟩, by simp only [bodyOf, Tryz.f28, Cat, Zs, awanted, aoper, evalO, put, acallOp, abuiltin, Nat.reduceEqDiff, Nat.reduceLT, ofV, ofCell, ↓reduceIte, hl, a2, a3, a8, a9, CP, iu20, k22, Ty.st72]; exact rfl, ?_⟩
  show P28_1 _ _
  exact ⟨i8, by simp [hl], by simp [a8], k23, k24⟩
theorem R28_2 (pe pr) : Ref Cl P28_4 (Cat [true, true, false, false] (bodyOf Tryz.f28)) m28_2 (post P28_3 pe pr) := by
  rintro s ⟨t, h⟩ hp x s' hm
  obtain ⟨w1_0, i8, hl, a1, r1_0, a2, a3, a8, g8, l8, a9, a10⟩ : P28_4' s t h := hp
  unfold m28_2 at hm
  cases hm
  refine ⟨⟨_, _⟩, by simp only [bodyOf, Tryz.f28, Cat, Zs, awanted, aoper, evalO, put, acallOp, abuiltin, Nat.reduceEqDiff, Nat.reduceLT, ofV, ofCell, ↓reduceIte, hl, a1, a2, a3, a8, a9, a10, CP]; exact rfl, ?_⟩
  show P28_3 _ _
  exact ⟨w1_0, i8, by simp [hl], by simp [a1], r1_0, by simp [a2], by simp [a3], by simp [a8], g8, l8, by simp [a9], by simp [hl]⟩
theorem R28_3 (pe pr) : Ref Cl P28_5 (Cat [true, false] (bodyOf Tryz.f28)) m28_3 (post P28_4 pe pr) := by
  rintro s ⟨t, h⟩ hp x s' hm
  obtain ⟨w1_0, w4_0, w4_1, w4_2, w4_3, i8, hl, a1, r1_0, a2, a3, a4, r4_0, r4_1, r4_2, r4_3, a8, g8, l8⟩ : P28_5' s t h := hp
  unfold m28_3 at hm
  obtain ⟨z27, hz27, hm⟩ := Option.bind_eq_some_iff.1 hm
  have iu28 := G83_spec s.t4 _ r4_0 _ r4_1 _ r4_2 _ r4_3 _ hz27
  cases hm
  refine ⟨⟨_, _⟩, by simp only [bodyOf, Tryz.f28, Cat, Zs, awanted, aoper, evalO, put, acallOp, abuiltin, Nat.reduceEqDiff, Nat.reduceLT, ofV, ofCell, ↓reduceIte, hl, a1, a2, a3, a4, a8, CP, Ty.ld35, ld_ip, ofc4, List.drop_succ_cons, List.drop_zero, List.length_cons, List.length_nil, iu28]; exact rfl, ?_⟩
  show P28_4 _ _
  exact ⟨w1_0, i8, by simp [hl], by simp [a1], r1_0, by simp [a2], by simp [a3], by simp [a8], g8, l8, by simp [hl], by simp [hl]⟩
theorem R28_4 (pe pr) : Ref Cl P28_6 (Cat [false] (bodyOf Tryz.f28)) m28_4 (post P28_5 pe pr) := by
  rintro s ⟨t, h⟩ hp x s' hm
  obtain ⟨w0_0, w0_1, w0_2, w0_3, w1_0, hl, a0, r0_0, r0_1, r0_2, r0_3, a1, r1_0, a2, a3⟩ : P28_6' s t h := hp
  unfold m28_4 at hm
  have ic38 : (w0_0 : AVal).isCell = true := Sl.isCell r0_0
  have ic39 : (w0_1 : AVal).isCell = true := Sl.isCell r0_1
  have ic40 : (w0_2 : AVal).isCell = true := rTestT_cell r0_2
  have ic41 : (w0_3 : AVal).isCell = true := Sl.isCell r0_3
  obtain ⟨H42, eH42⟩ : ∃ x : AHeap, x = h.new (.arr [.bool false, .int .i64 0, .int .i64 0]) := ⟨_, rfl⟩
  obtain ⟨id43, eid43⟩ : ∃ x : Nat, x = h.next := ⟨_, rfl⟩
  have k44 : H42.get id43 = some (.arr [.bool false, .int .i64 0, .int .i64 0]) := by rw [eH42, eid43]; exact Heap.get_new_eq
  have k45 : id43 < H42.next := by rw [eH42, eid43, Heap.new_next]; exact Nat.lt_succ_self _
  have k46 : abox h (.agg [.bool false, .int .i64 0, .int .i64 0]) = some (.ptr id43 0, H42) := by simp only [abox, eH42, eid43, Zc, if_true]
  cases hm
  refine ⟨⟨_, _⟩, by simp only [bodyOf, Tryz.f28, Cat, Zs, awanted, aoper, evalO, put, acallOp, abuiltin, Nat.reduceEqDiff, Nat.reduceLT, ofV, ofCell, ↓reduceIte, hl, a0, a1, a2, a3, CP, Ty.cb_parse_go_148, Ty.cb_parse_go_143, Ty.cb_parse_go_130, Ty.cb_plan_go_27, Ty.cb_plan_go_29, Ty.cb_plan_go_31, Ty.cb_plan_go_41, Ty.cb_plan_go_61, Ty.cb_cube_go_25, Ty.cb_law_go_39, Ty.cb_ref_go_26, Ty.cb_ref_go_48, Ty.cb_ref_go_57, Ty.cb_ref_go_65, ic38, bx_c ic38, cl_c ic38, ic39, bx_c ic39, cl_c ic39, ic40, bx_c ic40, cl_c ic40, ic41, bx_c ic41, cl_c ic41, Zc, Ty.ze72, Ty.own_ref_go_48, k46]; exact rfl, ?_⟩
  show P28_5 _ _
  exact ⟨w1_0, w0_0, w0_1, w0_2, w0_3, id43, by simp [hl], by simp [a1], r1_0, by simp [a2], by simp [a3], by simp [hl], r0_0, r0_1, r0_2, r0_3, by simp [hl], k44, k45⟩
theorem B28 : Ref Cl P28_6 (bodyOf Tryz.f28) (M28) (post P28_1 (fun _ _ _ => False) P28_1) := by
  rw [show bodyOf Tryz.f28 = .seq (Cat [false] (bodyOf Tryz.f28)) (.seq (Cat [true, false] (bodyOf Tryz.f28)) (.seq (.seq (Cat [true, true, false, false] (bodyOf Tryz.f28)) (.cond (.tmp 16) (.seq (Cat [true, true, false, true, false, false] (bodyOf Tryz.f28)) (.ret)) (.skip))) (.seq (Cat [true, true, true, false] (bodyOf Tryz.f28)) (.ret)))) from rfl]
  unfold M28
  exact ref_seq (R28_4 _ _) (ref_seq (R28_3 _ _) (ref_seq (ref_seq (R28_2 _ _) (ref_cond (P := P28_3) (c := fun s => s.t16) (fun s st hp => by obtain ⟨w1_0, i8, hl, a1, r1_0, a2, a3, a8, g8, l8, a9, a16⟩ := (hp : P28_3' s st.tmps st.h); simp only [evalO, a16, Option.getD_some]) (ref_weak (P' := P28_2) (fun s st hp => by obtain ⟨w1_0, i8, hl, a1, r1_0, a2, a3, a8, g8, l8, a9, a16⟩ := (hp : P28_3' s st.tmps st.h); exact (⟨i8, hl, a2, a3, a8, g8, l8, a9⟩ : P28_2' s st.tmps st.h)) (ref_seq (R28_1 _ _) (ref_ret (fun s st hp => hp)))) (ref_weak (P' := P28_0) (fun s st hp => by obtain ⟨w1_0, i8, hl, a1, r1_0, a2, a3, a8, g8, l8, a9, a16⟩ := (hp : P28_3' s st.tmps st.h); exact (⟨w1_0, i8, hl, a1, r1_0, a2, a3, a8, g8, l8, a9⟩ : P28_0' s st.tmps st.h)) (ref_skip (fun s st hp => hp))))) (ref_seq (R28_0 _ _) (ref_ret (fun s st hp => hp)))))
noncomputable def G28 (x0 : Bound) (x1 : (List ViewInfo)) (x2 : Int) (x3 : Int) : Option Plan := match M28 { (default : Fr28) with t0 := x0, t1 := x1, t2 := x2, t3 := x3 } with
  | some (.nrm, s) => some s.t8
  | some (.ret, s) => some s.t8
  | _ => none
theorem G28_spec : Spec28 (G28) := by
  intro x0 x1 x2 x3 vx0_0 hvx0_0 vx0_1 hvx0_1 vx0_2 hvx0_2 vx0_3 hvx0_3 vx1_0 hvx1_0 r hr
  unfold G28 at hr
  cases hm : M28 { (default : Fr28) with t0 := x0, t1 := x1, t2 := x2, t3 := x3 } with
  | none => rw [hm] at hr; cases hr
  | some q =>
    obtain ⟨x, s⟩ := q
    rw [hm] at hr
    have hx : x = .nrm ∨ x = .ret := by cases x <;> first | exact .inl rfl | exact .inr rfl | cases hr
    have hr : s.t8 = r := by cases x <;> first | exact Option.some.inj hr | cases hr
    subst hr
    have hp0 : P28_6' ({ (default : Fr28) with t0 := x0, t1 := x1, t2 := x2, t3 := x3 }) (slots Tryz.f28 (stripL [.agg [vx0_0, vx0_1, vx0_2, vx0_3], vx1_0, .int .i64 x2, .int .i64 x3])) bare := ⟨(strip vx0_0 : AVal), (strip vx0_1 : AVal), (strip vx0_2 : AVal), (strip vx0_3 : AVal), (strip vx1_0 : AVal), rfl, rfl, hvx0_0.strip rPick_p, hvx0_1.strip rS_p, rTestT_p.str _ _ hvx0_2, hvx0_3.strip (rI_p .i64), rfl, hvx1_0.strip rViewInfo_p, rfl, rfl⟩
    obtain ⟨v, hR, hrun⟩ := run_of_ref (C := Cl) (f := 28) (fn := Tryz.f28) Tryz.func28 rfl rfl rfl rfl (args := [.agg [vx0_0, vx0_1, vx0_2, vx0_3], vx1_0, .int .i64 x2, .int .i64 x3]) (by simp only [refsL, refs, List.append_nil, hvx0_0.refs rPick_p, hvx0_1.refs rS_p, refs_one (rTestT_p.ref _ _ hvx0_2), hvx0_3.refs (rI_p .i64), hvx1_0.refs rViewInfo_p]) (B28) (s0 := { (default : Fr28) with t0 := x0, t1 := x1, t2 := x2, t3 := x3 }) hp0 hm hx (R := fun v => v = .agg [.bool s.t8.Base, .int .i64 s.t8.Set, .int .i64 s.t8.Cost]) (by
      have key : ∀ st : ASt, P28_1 s st → ∃ vs v, aresults Cl Tryz.f28.results.toList st = some vs ∧ Nrm [] st.h (packRes vs) v ∧ (fun v => v = .agg [.bool s.t8.Base, .int .i64 s.t8.Set, .int .i64 s.t8.Cost]) v := by
        intro st hp
        obtain ⟨i8, hl, a8, g8, l8⟩ := (hp : P28_1' s st.tmps st.h)
        have ld8 : loadA st.h true 3 (.ptr i8 0) = some (.agg [.bool s.t8.Base, .int .i64 s.t8.Set, .int .i64 s.t8.Cost]) := by rw [Heap.load_gen g8 (Nat.zero_le _)]; first | rfl | exact ofc3 _ _ _ _
        exact ⟨[.agg [.bool s.t8.Base, .int .i64 s.t8.Set, .int .i64 s.t8.Cost]], _, by simp only [show Tryz.f28.results.toList = [ResultVar.cell 8 72] from rfl, aresults, ares1, CP, a8, Option.getD_some, ld8, Ty.ld72], (Nrm.of (w := .agg [.bool s.t8.Base, .int .i64 s.t8.Set, .int .i64 s.t8.Cost]) (by simp only [refsL, refs, List.append_nil])), rfl⟩
      intro st hq
      rcases hx with rfl | rfl
      · exact key st hq
      · exact key st hq)
    subst hR
    exact hrun
/-! ### caisson/caissonref19.Gain -/
structure Fr32 where
  t0 : Int
  t1 : Int
  t2 : Offer
  t5 : Offer
  t6 : Int
  t7 : Bool
  t8 : Int
  t30 : Bool
instance : Inhabited Fr32 := ⟨⟨0, 0, default, default, 0, false, 0, false⟩⟩
def P32_0' (s : Fr32) (t : List AVal) (h : AHeap) : Prop := t.length = 32 ∧ t[8]? = some (.int .i64 s.t8)
def P32_0 (s : Fr32) (st : ASt) : Prop := P32_0' s st.tmps st.h
def P32_1' (s : Fr32) (t : List AVal) (h : AHeap) : Prop := t.length = 32 ∧ t[6]? = some (.int .i64 s.t6)
def P32_1 (s : Fr32) (st : ASt) : Prop := P32_1' s st.tmps st.h
def P32_2' (s : Fr32) (t : List AVal) (h : AHeap) : Prop := t.length = 32 ∧ True
def P32_2 (s : Fr32) (st : ASt) : Prop := P32_2' s st.tmps st.h
def P32_3' (s : Fr32) (t : List AVal) (h : AHeap) : Prop := t.length = 32 ∧ t[8]? = some (.int .i64 s.t8) ∧ t[30]? = some (.bool s.t30)
def P32_3 (s : Fr32) (st : ASt) : Prop := P32_3' s st.tmps st.h
def P32_4' (s : Fr32) (t : List AVal) (h : AHeap) : Prop := t.length = 32 ∧ t[7]? = some (.bool s.t7) ∧ t[8]? = some (.int .i64 s.t8)
def P32_4 (s : Fr32) (st : ASt) : Prop := P32_4' s st.tmps st.h
def P32_5' (s : Fr32) (t : List AVal) (h : AHeap) : Prop := ∃ w5_0, t.length = 32 ∧ t[0]? = some (.int .i64 s.t0) ∧ t[5]? = some (.iptr [.int .i64 s.t5.Rows, .int .i64 s.t5.Head, .int .i64 s.t5.Facts, w5_0]) ∧ Sl rViewInfo s.t5.Views w5_0 ∧ t[7]? = some (.bool s.t7)
def P32_5 (s : Fr32) (st : ASt) : Prop := P32_5' s st.tmps st.h
def P32_6' (s : Fr32) (t : List AVal) (h : AHeap) : Prop := ∃ w5_0, t.length = 32 ∧ t[0]? = some (.int .i64 s.t0) ∧ t[1]? = some (.int .i64 s.t1) ∧ t[5]? = some (.iptr [.int .i64 s.t5.Rows, .int .i64 s.t5.Head, .int .i64 s.t5.Facts, w5_0]) ∧ Sl rViewInfo s.t5.Views w5_0
def P32_6 (s : Fr32) (st : ASt) : Prop := P32_6' s st.tmps st.h
def P32_7' (s : Fr32) (t : List AVal) (h : AHeap) : Prop := ∃ w2_0, t.length = 32 ∧ t[0]? = some (.int .i64 s.t0) ∧ t[1]? = some (.int .i64 s.t1) ∧ t[2]? = some (.agg [.int .i64 s.t2.Rows, .int .i64 s.t2.Head, .int .i64 s.t2.Facts, w2_0]) ∧ Sl rViewInfo s.t2.Views w2_0
def P32_7 (s : Fr32) (st : ASt) : Prop := P32_7' s st.tmps st.h
noncomputable def m32_0 : Mo Fr32 := fun s => some (.nrm, { s with t6 := s.t8 })
noncomputable def m32_1 : Mo Fr32 := fun s => some (.nrm, { s with t6 := 0 })
noncomputable def m32_2 : Mo Fr32 := fun s => some (.nrm, { s with t30 := ((!s.t7) || (decide (s.t8 < 0))) })
noncomputable def m32_3 : Mo Fr32 := fun s => (G84 s.t0 s.t5.Views s.t5.Head s.t5.Facts).bind fun z2 => (G87 s.t5.Rows).bind fun z4 => some (.nrm, { s with t8 := IntKind.wrap .i64 (z2.Cost - z4) })
noncomputable def m32_4 : Mo Fr32 := fun s => (G86 s.t1 s.t0).bind fun z10 => some (.nrm, { s with t7 := z10 })
noncomputable def m32_5 : Mo Fr32 := fun s => some (.nrm, { s with t5 := s.t2 })
noncomputable def M32 : Mo Fr32 := seqM (m32_5) (seqM (m32_4) (seqM (m32_3) (seqM (seqM (m32_2) (condM (fun s => s.t30) (seqM (m32_1) (retM)) (skipM))) (seqM (m32_0) (retM)))))
def Spec32 (f : Int → Int → Offer → Option Int) : Prop := ∀ (x0 : Int) (x1 : Int) (x2 : Offer) (vx2_0 : AVal) (_ : Sl rViewInfo x2.Views vx2_0) (r : Int), f x0 x1 x2 = some r → ∀ h, run Cl 32 [.int .i64 x0, .int .i64 x1, .agg [.int .i64 x2.Rows, .int .i64 x2.Head, .int .i64 x2.Facts, vx2_0]] h = some (.ret (.int .i64 r), h)
theorem Spec32_of {f g : Int → Int → Offer → Option Int} (hg : Spec32 g) (h : ∀ x0 x1 x2 r, f x0 x1 x2 = some r → g x0 x1 x2 = some r) : Spec32 f := fun x0 x1 x2 v0_ w0_ r hr => hg x0 x1 x2 v0_ w0_ r (h x0 x1 x2 r hr)
theorem R32_0 (pe pr) : Ref Cl P32_0 (Cat [true, true, true, true, false] (bodyOf Tryz.f32)) m32_0 (post P32_1 pe pr) := by
  rintro s ⟨t, h⟩ hp x s' hm
  obtain ⟨hl, a8⟩ : P32_0' s t h := hp
  unfold m32_0 at hm
  cases hm
  refine ⟨⟨_, _⟩, by simp only [bodyOf, Tryz.f32, Cat, Zs, awanted, aoper, evalO, put, acallOp, abuiltin, Nat.reduceEqDiff, Nat.reduceLT, ofV, ofCell, ↓reduceIte, hl, a8, CP]; exact rfl, ?_⟩
  show P32_1 _ _
  exact ⟨by simp [hl], by simp [hl]⟩
theorem R32_1 (pe pr) : Ref Cl P32_2 (Cat [true, true, true, false, true, false, false] (bodyOf Tryz.f32)) m32_1 (post P32_1 pe pr) := by
  rintro s ⟨t, h⟩ hp x s' hm
  obtain ⟨hl, _⟩ : P32_2' s t h := hp
  unfold m32_1 at hm
  cases hm
  refine ⟨⟨_, _⟩, by simp only [bodyOf, Tryz.f32, Cat, Zs, awanted, aoper, evalO, put, acallOp, abuiltin, Nat.reduceEqDiff, Nat.reduceLT, ofV, ofCell, ↓reduceIte, hl, CP]; exact rfl, ?_⟩
  show P32_1 _ _
  exact ⟨by simp [hl], by simp [hl]⟩
theorem R32_2 (pe pr) : Ref Cl P32_4 (Cat [true, true, true, false, false] (bodyOf Tryz.f32)) m32_2 (post P32_3 pe pr) := by
  rintro s ⟨t, h⟩ hp x s' hm
  obtain ⟨hl, a7, a8⟩ : P32_4' s t h := hp
  unfold m32_2 at hm
  cases hb1 : (!s.t7) with
  | true =>
    all_goals (
      try simp only [hb1, Zb] at hm
      cases hm
      refine ⟨⟨_, _⟩, by simp only [bodyOf, Tryz.f32, Cat, Zs, awanted, aoper, evalO, put, acallOp, abuiltin, Nat.reduceEqDiff, Nat.reduceLT, ofV, ofCell, ↓reduceIte, hl, a7, a8, CP, aun_not, hb1]; exact rfl, ?_⟩
      show P32_3 _ _
      exact ⟨by simp [hl], by simp [a8], by simp [hl, hb1]⟩)
  | false =>
    all_goals (
      try simp only [hb1, Zb] at hm
      cases hm
      refine ⟨⟨_, _⟩, by simp only [bodyOf, Tryz.f32, Cat, Zs, awanted, aoper, evalO, put, acallOp, abuiltin, Nat.reduceEqDiff, Nat.reduceLT, ofV, ofCell, ↓reduceIte, hl, a7, a8, CP, aun_not, hb1]; exact rfl, ?_⟩
      show P32_3 _ _
      exact ⟨by simp [hl], by simp [a8], by simp [hl, hb1]⟩)
theorem R32_3 (pe pr) : Ref Cl P32_5 (Cat [true, true, false] (bodyOf Tryz.f32)) m32_3 (post P32_4 pe pr) := by
  rintro s ⟨t, h⟩ hp x s' hm
  obtain ⟨w5_0, hl, a0, a5, r5_0, a7⟩ : P32_5' s t h := hp
  unfold m32_3 at hm
  obtain ⟨z6, hz6, hm⟩ := Option.bind_eq_some_iff.1 hm
  have iu7 := G84_spec s.t0 s.t5.Views s.t5.Head s.t5.Facts _ r5_0 _ hz6
  have apu7 : apure Cl 84 [.int .i64 s.t0, w5_0, .int .i64 s.t5.Head, .int .i64 s.t5.Facts] = true := apure_of rfl rfl (refs_cons rfl (refs_cons (r5_0.refs rViewInfo_p) (refs_cons rfl (refs_cons rfl rfl))))
  obtain ⟨z8, hz8, hm⟩ := Option.bind_eq_some_iff.1 hm
  have iu9 := G87_spec s.t5.Rows  _ hz8
  cases hm
  refine ⟨⟨_, _⟩, by
      simp only [bodyOf, Tryz.f32, Cat, Zs, awanted, aoper, evalO, put, acallOp, abuiltin, Nat.reduceEqDiff, Nat.reduceLT, ofV, ofCell, ↓reduceIte, hl, a0, a5, a7, CP, Ty.fa70_3, dropCells, List.drop_succ_cons, List.drop_zero, Ty.ld68, ld_ip, ofc1, List.drop_succ_cons, List.drop_zero, Ty.fa70_1, Ty.ld3, Ty.fa70_2, iu7, apu7, if_true, Ty.fi72_2, List.length_cons, List.length_nil, Nat.zero_add, Nat.reduceAdd, Nat.reduceLeDiff, Nat.zero_le, Ty.fa70_0, iu9]
      rw [k_draw _ _ _ (by kernel_rfl)]
      exact rfl, ?_⟩
  show P32_4 _ _
  exact ⟨by simp [hl], by simp [a7], by simp [hl]⟩
theorem R32_4 (pe pr) : Ref Cl P32_6 (Cat [true, false] (bodyOf Tryz.f32)) m32_4 (post P32_5 pe pr) := by
  rintro s ⟨t, h⟩ hp x s' hm
  obtain ⟨w5_0, hl, a0, a1, a5, r5_0⟩ : P32_6' s t h := hp
  unfold m32_4 at hm
  obtain ⟨z12, hz12, hm⟩ := Option.bind_eq_some_iff.1 hm
  have iu13 := G86_spec s.t1 s.t0  _ hz12
  cases hm
  refine ⟨⟨_, _⟩, by simp only [bodyOf, Tryz.f32, Cat, Zs, awanted, aoper, evalO, put, acallOp, abuiltin, Nat.reduceEqDiff, Nat.reduceLT, ofV, ofCell, ↓reduceIte, hl, a0, a1, a5, CP, iu13]; exact rfl, ?_⟩
  show P32_5 _ _
  exact ⟨w5_0, by simp [hl], by simp [a0], by simp [a5], r5_0, by simp [hl]⟩
theorem R32_5 (pe pr) : Ref Cl P32_7 (Cat [false] (bodyOf Tryz.f32)) m32_5 (post P32_6 pe pr) := by
  rintro s ⟨t, h⟩ hp x s' hm
  obtain ⟨w2_0, hl, a0, a1, a2, r2_0⟩ : P32_7' s t h := hp
  unfold m32_5 at hm
  have ic15 : (w2_0 : AVal).isCell = true := Sl.isCell r2_0
  cases hm
  refine ⟨⟨_, _⟩, by simp only [bodyOf, Tryz.f32, Cat, Zs, awanted, aoper, evalO, put, acallOp, abuiltin, Nat.reduceEqDiff, Nat.reduceLT, ofV, ofCell, ↓reduceIte, hl, a0, a1, a2, CP, Ty.cb_parse_go_148, Ty.cb_parse_go_143, Ty.cb_parse_go_130, Ty.cb_plan_go_27, Ty.cb_plan_go_29, Ty.cb_plan_go_31, Ty.cb_plan_go_41, Ty.cb_plan_go_61, Ty.cb_cube_go_25, Ty.cb_law_go_39, Ty.cb_ref_go_26, Ty.cb_ref_go_48, Ty.cb_ref_go_57, Ty.cb_ref_go_65, ic15, bx_c ic15, cl_c ic15, Zc]; exact rfl, ?_⟩
  show P32_6 _ _
  exact ⟨w2_0, by simp [hl], by simp [a0], by simp [a1], by simp [hl], r2_0⟩
theorem B32 : Ref Cl P32_7 (bodyOf Tryz.f32) (M32) (post P32_1 (fun _ _ _ => False) P32_1) := by
  rw [show bodyOf Tryz.f32 = .seq (Cat [false] (bodyOf Tryz.f32)) (.seq (Cat [true, false] (bodyOf Tryz.f32)) (.seq (Cat [true, true, false] (bodyOf Tryz.f32)) (.seq (.seq (Cat [true, true, true, false, false] (bodyOf Tryz.f32)) (.cond (.tmp 30) (.seq (Cat [true, true, true, false, true, false, false] (bodyOf Tryz.f32)) (.ret)) (.skip))) (.seq (Cat [true, true, true, true, false] (bodyOf Tryz.f32)) (.ret))))) from rfl]
  unfold M32
  exact ref_seq (R32_5 _ _) (ref_seq (R32_4 _ _) (ref_seq (R32_3 _ _) (ref_seq (ref_seq (R32_2 _ _) (ref_cond (P := P32_3) (c := fun s => s.t30) (fun s st hp => by obtain ⟨hl, a8, a30⟩ := (hp : P32_3' s st.tmps st.h); simp only [evalO, a30, Option.getD_some]) (ref_weak (P' := P32_2) (fun s st hp => by obtain ⟨hl, a8, a30⟩ := (hp : P32_3' s st.tmps st.h); exact (⟨hl, trivial⟩ : P32_2' s st.tmps st.h)) (ref_seq (R32_1 _ _) (ref_ret (fun s st hp => hp)))) (ref_weak (P' := P32_0) (fun s st hp => by obtain ⟨hl, a8, a30⟩ := (hp : P32_3' s st.tmps st.h); exact (⟨hl, a8⟩ : P32_0' s st.tmps st.h)) (ref_skip (fun s st hp => hp))))) (ref_seq (R32_0 _ _) (ref_ret (fun s st hp => hp))))))
noncomputable def G32 (x0 : Int) (x1 : Int) (x2 : Offer) : Option Int := match M32 { (default : Fr32) with t0 := x0, t1 := x1, t2 := x2 } with
  | some (.nrm, s) => some s.t6
  | some (.ret, s) => some s.t6
  | _ => none
theorem G32_spec : Spec32 (G32) := by
  intro x0 x1 x2 vx2_0 hvx2_0 r hr
  unfold G32 at hr
  cases hm : M32 { (default : Fr32) with t0 := x0, t1 := x1, t2 := x2 } with
  | none => rw [hm] at hr; cases hr
  | some q =>
    obtain ⟨x, s⟩ := q
    rw [hm] at hr
    have hx : x = .nrm ∨ x = .ret := by cases x <;> first | exact .inl rfl | exact .inr rfl | cases hr
    have hr : s.t6 = r := by cases x <;> first | exact Option.some.inj hr | cases hr
    subst hr
    have hp0 : P32_7' ({ (default : Fr32) with t0 := x0, t1 := x1, t2 := x2 }) (slots Tryz.f32 (stripL [.int .i64 x0, .int .i64 x1, .agg [.int .i64 x2.Rows, .int .i64 x2.Head, .int .i64 x2.Facts, vx2_0]])) bare := ⟨(strip vx2_0 : AVal), rfl, rfl, rfl, rfl, hvx2_0.strip rViewInfo_p⟩
    obtain ⟨v, hR, hrun⟩ := run_of_ref (C := Cl) (f := 32) (fn := Tryz.f32) Tryz.func32 rfl rfl rfl rfl (args := [.int .i64 x0, .int .i64 x1, .agg [.int .i64 x2.Rows, .int .i64 x2.Head, .int .i64 x2.Facts, vx2_0]]) (by simp only [refsL, refs, List.append_nil, hvx2_0.refs rViewInfo_p]) (B32) (s0 := { (default : Fr32) with t0 := x0, t1 := x1, t2 := x2 }) hp0 hm hx (R := fun v => v = .int .i64 s.t6) (by
      have key : ∀ st : ASt, P32_1 s st → ∃ vs v, aresults Cl Tryz.f32.results.toList st = some vs ∧ Nrm [] st.h (packRes vs) v ∧ (fun v => v = .int .i64 s.t6) v := by
        intro st hp
        obtain ⟨hl, a6⟩ := (hp : P32_1' s st.tmps st.h)
        exact ⟨[.int .i64 s.t6], _, by simp only [show Tryz.f32.results.toList = [ResultVar.tmp 6] from rfl, aresults, ares1, CP, a6, Option.getD_some], (Nrm.of (w := .int .i64 s.t6) (by simp only [refsL, refs, List.append_nil])), rfl⟩
      intro st hq
      rcases hx with rfl | rfl
      · exact key st hq
      · exact key st hq)
    subst hR
    exact hrun
/-! ### strconv.Itoa -/
def Spec75 (f : Int → Option (List UInt8)) : Prop := ∀ (x0 : Int) (r : (List UInt8)), f x0 = some r → ∀ h, run Cl 75 [.int .i64 x0] h = some (.ret (.str r), h)
theorem Spec75_of {f g : Int → Option (List UInt8)} (hg : Spec75 g) (h : ∀ x0 r, f x0 = some r → g x0 = some r) : Spec75 f := fun x0 r hr => hg x0 r (h x0 r hr)
end Go.Proofs.Plm
