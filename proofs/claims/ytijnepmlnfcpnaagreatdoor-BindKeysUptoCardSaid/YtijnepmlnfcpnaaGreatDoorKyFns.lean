/-
  KEYS: functions (printed by wip/tools/tg.py).
-/
import Derived.Test.YtijnepmlnfcpnaaGreatDoorKyTypes
import Derived.Test.YtijnepmlnfcpnaaGreatDoorAmPack
set_option linter.unusedVariables false
set_option linter.unusedSimpArgs false
set_option linter.unusedSimpArgs false
set_option linter.unusedVariables false
set_option maxRecDepth 100000
namespace Go.Proofs.Ky
open Go Go.Am Go.Proofs
/-! ### caisson/caissonref12.Nodes -/
structure Fr20 where
  t0 : TestT
  t1 : Int
  t4 : Int
  t5 : Int
  t11 : Bool
instance : Inhabited Fr20 := ⟨⟨default, 0, 0, 0, false⟩⟩
def P20_0' (s : Fr20) (t : List AVal) (h : AHeap) : Prop := ∃ w0_0, t.length = 30 ∧ t[0]? = some w0_0 ∧ rTestT s.t0 [w0_0] ∧ t[1]? = some (.int .i64 s.t1) ∧ t[5]? = some (.int .i64 s.t5)
def P20_0 (s : Fr20) (st : ASt) : Prop := P20_0' s st.tmps st.h
def P20_1' (s : Fr20) (t : List AVal) (h : AHeap) : Prop := t.length = 30 ∧ t[4]? = some (.int .i64 s.t4)
def P20_1 (s : Fr20) (st : ASt) : Prop := P20_1' s st.tmps st.h
def P20_2' (s : Fr20) (t : List AVal) (h : AHeap) : Prop := ∃ w0_0, t.length = 30 ∧ t[0]? = some w0_0 ∧ rTestT s.t0 [w0_0] ∧ t[1]? = some (.int .i64 s.t1)
def P20_2 (s : Fr20) (st : ASt) : Prop := P20_2' s st.tmps st.h
def P20_3' (s : Fr20) (t : List AVal) (h : AHeap) : Prop := t.length = 30 ∧ True
def P20_3 (s : Fr20) (st : ASt) : Prop := P20_3' s st.tmps st.h
def P20_4' (s : Fr20) (t : List AVal) (h : AHeap) : Prop := ∃ w0_0, t.length = 30 ∧ t[0]? = some w0_0 ∧ rTestT s.t0 [w0_0] ∧ t[1]? = some (.int .i64 s.t1) ∧ t[11]? = some (.bool s.t11)
def P20_4 (s : Fr20) (st : ASt) : Prop := P20_4' s st.tmps st.h
noncomputable def m20_0 (rec20 : TestT → Int → Option Int) : Mo Fr20 := fun s => (s.t0.get).bind fun n1 => (rec20 n1.Right (IntKind.wrap .i64 (s.t1 - s.t5))).bind fun z3 => some (.nrm, { s with t4 := IntKind.wrap .i64 (s.t5 + z3) })
noncomputable def m20_1 (rec20 : TestT → Int → Option Int) : Mo Fr20 := fun s => (s.t0.get).bind fun n9 => (rec20 n9.Left (IntKind.wrap .i64 (s.t1 - 1))).bind fun z11 => some (.nrm, { s with t5 := IntKind.wrap .i64 (1 + z11) })
noncomputable def m20_2 (rec20 : TestT → Int → Option Int) : Mo Fr20 := fun s => some (.nrm, { s with t4 := 0 })
noncomputable def m20_3 (rec20 : TestT → Int → Option Int) : Mo Fr20 := fun s => some (.nrm, { s with t11 := (s.t0.isNil || (decide (s.t1 ≤ 0))) })
noncomputable def m20_4 (rec20 : TestT → Int → Option Int) : Mo Fr20 := fun s => some (.nrm, s)
noncomputable def M20 (rec20 : TestT → Int → Option Int) : Mo Fr20 := seqM (m20_4 rec20) (seqM (seqM (m20_3 rec20) (condM (fun s => s.t11) (seqM (m20_2 rec20) (retM)) (skipM))) (seqM (m20_1 rec20) (seqM (m20_0 rec20) (retM))))
def Spec20 (f : TestT → Int → Option Int) : Prop := ∀ (x0 : TestT) (x1 : Int) (vx0_0 : AVal) (_ : rTestT x0 [vx0_0]) (r : Int), f x0 x1 = some r → ∀ h, run Cl 20 [vx0_0, .int .i64 x1] h = some (.ret (.int .i64 r), h)
theorem Spec20_of {f g : TestT → Int → Option Int} (hg : Spec20 g) (h : ∀ x0 x1 r, f x0 x1 = some r → g x0 x1 = some r) : Spec20 f := fun x0 x1 v0_ w0_ r hr => hg x0 x1 v0_ w0_ r (h x0 x1 r hr)
theorem R20_0 {rec20 : TestT → Int → Option Int} (hrec20 : Spec20 rec20) (pe pr) : Ref Cl P20_0 (Cat [true, true, true, false] (bodyOf Tryz.f20)) (m20_0 rec20) (post P20_1 pe pr) := by
  rintro s ⟨t, h⟩ hp x s' hm
  obtain ⟨w0_0, hl, a0, r0_0, a1, a5⟩ : P20_0' s t h := hp
  unfold m20_0 at hm
  obtain ⟨n5, hn5, hm⟩ := Option.bind_eq_some_iff.1 hm
  obtain ⟨bu6_0, bu6_1, bu6_2, bu6_3, qu6, gu6_0, gu6_1, gu6_2, gu6_3⟩ := rTestT_get r0_0 hn5
  subst qu6
  obtain ⟨z7, hz7, hm⟩ := Option.bind_eq_some_iff.1 hm
  have iu8 := hrec20 n5.Right (IntKind.wrap .i64 (s.t1 - s.t5)) _ gu6_1 _ hz7
  cases hm
  refine ⟨⟨_, _⟩, by simp only [bodyOf, Tryz.f20, Cat, Zs, awanted, aoper, evalO, put, acallOp, abuiltin, Nat.reduceEqDiff, Nat.reduceLT, ofV, ofCell, ↓reduceIte, hl, a0, a1, a5, CP, Ty.fa57_2, dropCells, List.drop_succ_cons, List.drop_zero, Ty.ld32, ld_ip, ofc1, List.drop_succ_cons, List.drop_zero, iu8]; exact rfl, ?_⟩
  show P20_1 _ _
  exact ⟨by simp [hl], by simp [hl]⟩
theorem R20_1 {rec20 : TestT → Int → Option Int} (hrec20 : Spec20 rec20) (pe pr) : Ref Cl P20_2 (Cat [true, true, false] (bodyOf Tryz.f20)) (m20_1 rec20) (post P20_0 pe pr) := by
  rintro s ⟨t, h⟩ hp x s' hm
  obtain ⟨w0_0, hl, a0, r0_0, a1⟩ : P20_2' s t h := hp
  unfold m20_1 at hm
  obtain ⟨n13, hn13, hm⟩ := Option.bind_eq_some_iff.1 hm
  obtain ⟨bu14_0, bu14_1, bu14_2, bu14_3, qu14, gu14_0, gu14_1, gu14_2, gu14_3⟩ := rTestT_get r0_0 hn13
  subst qu14
  obtain ⟨z15, hz15, hm⟩ := Option.bind_eq_some_iff.1 hm
  have iu16 := hrec20 n13.Left (IntKind.wrap .i64 (s.t1 - 1)) _ gu14_0 _ hz15
  cases hm
  refine ⟨⟨_, _⟩, by simp only [bodyOf, Tryz.f20, Cat, Zs, awanted, aoper, evalO, put, acallOp, abuiltin, Nat.reduceEqDiff, Nat.reduceLT, ofV, ofCell, ↓reduceIte, hl, a0, a1, CP, Ty.fa57_1, dropCells, List.drop_succ_cons, List.drop_zero, Ty.ld32, ld_ip, ofc1, List.drop_succ_cons, List.drop_zero, iu16]; exact rfl, ?_⟩
  show P20_0 _ _
  exact ⟨(.iptr [.int .i64 n13.Kind, bu14_0, bu14_1, .bool n13.Meas, .int .i64 n13.Index, .int .i64 n13.Op, bu14_2, bu14_3] : AVal), by simp [hl], by simp [a0], r0_0, by simp [a1], by simp [hl]⟩
theorem R20_2 {rec20 : TestT → Int → Option Int} (hrec20 : Spec20 rec20) (pe pr) : Ref Cl P20_3 (Cat [true, false, true, false, false] (bodyOf Tryz.f20)) (m20_2 rec20) (post P20_1 pe pr) := by
  rintro s ⟨t, h⟩ hp x s' hm
  obtain ⟨hl, _⟩ : P20_3' s t h := hp
  unfold m20_2 at hm
  cases hm
  refine ⟨⟨_, _⟩, by simp only [bodyOf, Tryz.f20, Cat, Zs, awanted, aoper, evalO, put, acallOp, abuiltin, Nat.reduceEqDiff, Nat.reduceLT, ofV, ofCell, ↓reduceIte, hl, CP]; exact rfl, ?_⟩
  show P20_1 _ _
  exact ⟨by simp [hl], by simp [hl]⟩
theorem R20_3 {rec20 : TestT → Int → Option Int} (hrec20 : Spec20 rec20) (pe pr) : Ref Cl P20_2 (Cat [true, false, false] (bodyOf Tryz.f20)) (m20_3 rec20) (post P20_4 pe pr) := by
  rintro s ⟨t, h⟩ hp x s' hm
  obtain ⟨w0_0, hl, a0, r0_0, a1⟩ : P20_2' s t h := hp
  unfold m20_3 at hm
  cases hb17 : s.t0.isNil with
  | true =>
    all_goals (
      try simp only [hb17, Zb] at hm
      obtain ⟨_, qz18⟩ | ⟨qz18, _⟩ := rTestT_nil r0_0
      rotate_left
      · rw [hb17] at qz18; cases qz18
      have z18 : ∀ (xo : Operand) (h : AHeap), abin Cl .eql 32 xo (.const (.pointer none)) h (w0_0) .nilPtr = some (.bool true) := fun xo h => by rw [qz18]; exact Ty.eqn32 xo h
      cases hm
      refine ⟨⟨_, _⟩, by simp only [bodyOf, Tryz.f20, Cat, Zs, awanted, aoper, evalO, put, acallOp, abuiltin, Nat.reduceEqDiff, Nat.reduceLT, ofV, ofCell, ↓reduceIte, hl, a0, a1, CP, z18, hb17]; exact rfl, ?_⟩
      show P20_4 _ _
      exact ⟨w0_0, by simp [hl], by simp [a0], r0_0, by simp [a1], by simp [hl, hb17]⟩)
  | false =>
    all_goals (
      try simp only [hb17, Zb] at hm
      obtain ⟨qz19, _⟩ | ⟨_, csz19, qz19⟩ := rTestT_nil r0_0
      · rw [hb17] at qz19; cases qz19
      have z19 : ∀ (xo yo : Operand) (h : AHeap), abin Cl .eql 32 xo yo h (w0_0) .nilPtr = some (.bool false) := fun xo yo h => by rw [qz19]; exact Ty.eqp32 xo yo h _
      clear qz19
      cases hm
      refine ⟨⟨_, _⟩, by simp only [bodyOf, Tryz.f20, Cat, Zs, awanted, aoper, evalO, put, acallOp, abuiltin, Nat.reduceEqDiff, Nat.reduceLT, ofV, ofCell, ↓reduceIte, hl, a0, a1, CP, z19, hb17]; exact rfl, ?_⟩
      show P20_4 _ _
      exact ⟨w0_0, by simp [hl], by simp [a0], r0_0, by simp [a1], by simp [hl, hb17]⟩)
theorem R20_4 {rec20 : TestT → Int → Option Int} (hrec20 : Spec20 rec20) (pe pr) : Ref Cl P20_2 (Cat [false] (bodyOf Tryz.f20)) (m20_4 rec20) (post P20_2 pe pr) := by
  rintro s ⟨t, h⟩ hp x s' hm
  obtain ⟨w0_0, hl, a0, r0_0, a1⟩ : P20_2' s t h := hp
  unfold m20_4 at hm
  cases hm
  refine ⟨⟨_, _⟩, by simp only [bodyOf, Tryz.f20, Cat, Zs, awanted, aoper, evalO, put, acallOp, abuiltin, Nat.reduceEqDiff, Nat.reduceLT, ofV, ofCell, ↓reduceIte, hl, a0, a1, CP]; exact rfl, ?_⟩
  show P20_2 _ _
  exact ⟨w0_0, by simp [hl], by simp [a0], r0_0, by simp [a1]⟩
theorem B20 {rec20 : TestT → Int → Option Int} (hrec20 : Spec20 rec20) : Ref Cl P20_2 (bodyOf Tryz.f20) (M20 rec20) (post P20_1 (fun _ _ _ => False) P20_1) := by
  rw [show bodyOf Tryz.f20 = .seq (Cat [false] (bodyOf Tryz.f20)) (.seq (.seq (Cat [true, false, false] (bodyOf Tryz.f20)) (.cond (.tmp 11) (.seq (Cat [true, false, true, false, false] (bodyOf Tryz.f20)) (.ret)) (.skip))) (.seq (Cat [true, true, false] (bodyOf Tryz.f20)) (.seq (Cat [true, true, true, false] (bodyOf Tryz.f20)) (.ret)))) from rfl]
  unfold M20
  exact ref_seq (R20_4 hrec20 _ _) (ref_seq (ref_seq (R20_3 hrec20 _ _) (ref_cond (P := P20_4) (c := fun s => s.t11) (fun s st hp => by obtain ⟨w0_0, hl, a0, r0_0, a1, a11⟩ := (hp : P20_4' s st.tmps st.h); simp only [evalO, a11, Option.getD_some]) (ref_weak (P' := P20_3) (fun s st hp => by obtain ⟨w0_0, hl, a0, r0_0, a1, a11⟩ := (hp : P20_4' s st.tmps st.h); exact (⟨hl, trivial⟩ : P20_3' s st.tmps st.h)) (ref_seq (R20_2 hrec20 _ _) (ref_ret (fun s st hp => hp)))) (ref_weak (P' := P20_2) (fun s st hp => by obtain ⟨w0_0, hl, a0, r0_0, a1, a11⟩ := (hp : P20_4' s st.tmps st.h); exact (⟨w0_0, hl, a0, r0_0, a1⟩ : P20_2' s st.tmps st.h)) (ref_skip (fun s st hp => hp))))) (ref_seq (R20_1 hrec20 _ _) (ref_seq (R20_0 hrec20 _ _) (ref_ret (fun s st hp => hp)))))
noncomputable def G20 (rec20 : TestT → Int → Option Int) (x0 : TestT) (x1 : Int) : Option Int := match M20 rec20 { (default : Fr20) with t0 := x0, t1 := x1 } with
  | some (.nrm, s) => some s.t4
  | some (.ret, s) => some s.t4
  | _ => none
theorem G20_spec {rec20 : TestT → Int → Option Int} (hrec20 : Spec20 rec20) : Spec20 (G20 rec20) := by
  intro x0 x1 vx0_0 hvx0_0 r hr
  unfold G20 at hr
  cases hm : M20 rec20 { (default : Fr20) with t0 := x0, t1 := x1 } with
  | none => rw [hm] at hr; cases hr
  | some q =>
    obtain ⟨x, s⟩ := q
    rw [hm] at hr
    have hx : x = .nrm ∨ x = .ret := by cases x <;> first | exact .inl rfl | exact .inr rfl | cases hr
    have hr : s.t4 = r := by cases x <;> first | exact Option.some.inj hr | cases hr
    subst hr
    have hp0 : P20_2' ({ (default : Fr20) with t0 := x0, t1 := x1 }) (slots Tryz.f20 (stripL [vx0_0, .int .i64 x1])) bare := ⟨(strip vx0_0 : AVal), rfl, rfl, rTestT_p.str _ _ hvx0_0, rfl⟩
    obtain ⟨v, hR, hrun⟩ := run_of_ref (C := Cl) (f := 20) (fn := Tryz.f20) Tryz.func20 rfl rfl rfl rfl (args := [vx0_0, .int .i64 x1]) (by simp only [refsL, refs, List.append_nil, refs_one (rTestT_p.ref _ _ hvx0_0)]) (B20 hrec20) (s0 := { (default : Fr20) with t0 := x0, t1 := x1 }) hp0 hm hx (R := fun v => v = .int .i64 s.t4) (by
      have key : ∀ st : ASt, P20_1 s st → ∃ vs v, aresults Cl Tryz.f20.results.toList st = some vs ∧ Nrm [] st.h (packRes vs) v ∧ (fun v => v = .int .i64 s.t4) v := by
        intro st hp
        obtain ⟨hl, a4⟩ := (hp : P20_1' s st.tmps st.h)
        exact ⟨[.int .i64 s.t4], _, by simp only [show Tryz.f20.results.toList = [ResultVar.tmp 4] from rfl, aresults, ares1, CP, a4, Option.getD_some], (Nrm.of (w := .int .i64 s.t4) (by simp only [refsL, refs, List.append_nil])), rfl⟩
      intro st hq
      rcases hx with rfl | rfl
      · exact key st hq
      · exact key st hq)
    subst hR
    exact hrun
noncomputable def F20 : Nat → TestT → Int → Option Int
  | 0 => fun _ _ => none
  | n + 1 => G20 (F20 n)
theorem F20_spec : ∀ n, Spec20 (F20 n)
  | 0 => fun x0 x1 vx0_0 hvx0_0 r hr => by cases hr
  | n + 1 => G20_spec (F20_spec n)
theorem Spec20_fuel {f : TestT → Int → Option Int} (h : ∀ x0 x1 r, f x0 x1 = some r → ∃ n, F20 n x0 x1 = some r) : Spec20 f := fun x0 x1 vx0_0 hvx0_0 r hr => by
  obtain ⟨n, hn⟩ := h x0 x1 r hr
  exact F20_spec n x0 x1 vx0_0 hvx0_0 r hn
/-! ### caisson/caissonlaw12.few -/
structure Fr18 where
  t0 : TestT
  t2 : Bool
instance : Inhabited Fr18 := ⟨⟨default, false⟩⟩
def P18_0' (s : Fr18) (t : List AVal) (h : AHeap) : Prop := ∃ w0_0, t.length = 6 ∧ t[0]? = some w0_0 ∧ rTestT s.t0 [w0_0]
def P18_0 (s : Fr18) (st : ASt) : Prop := P18_0' s st.tmps st.h
def P18_1' (s : Fr18) (t : List AVal) (h : AHeap) : Prop := t.length = 6 ∧ t[2]? = some (.bool s.t2)
def P18_1 (s : Fr18) (st : ASt) : Prop := P18_1' s st.tmps st.h
noncomputable def m18_0 : Mo Fr18 := fun s => (F20 5000 s.t0 4097).bind fun z1 => some (.nrm, { s with t2 := decide (z1 ≤ 4096) })
noncomputable def m18_1 : Mo Fr18 := fun s => some (.nrm, s)
noncomputable def M18 : Mo Fr18 := seqM (m18_1) (seqM (m18_0) (retM))
def Spec18 (f : TestT → Option Bool) : Prop := ∀ (x0 : TestT) (vx0_0 : AVal) (_ : rTestT x0 [vx0_0]) (r : Bool), f x0 = some r → ∀ h, run Cl 18 [vx0_0] h = some (.ret (.bool r), h)
theorem Spec18_of {f g : TestT → Option Bool} (hg : Spec18 g) (h : ∀ x0 r, f x0 = some r → g x0 = some r) : Spec18 f := fun x0 v0_ w0_ r hr => hg x0 v0_ w0_ r (h x0 r hr)
theorem R18_0 (pe pr) : Ref Cl P18_0 (Cat [true, false] (bodyOf Tryz.f18)) m18_0 (post P18_1 pe pr) := by
  rintro s ⟨t, h⟩ hp x s' hm
  obtain ⟨w0_0, hl, a0, r0_0⟩ : P18_0' s t h := hp
  unfold m18_0 at hm
  obtain ⟨z3, hz3, hm⟩ := Option.bind_eq_some_iff.1 hm
  have iu4 := (F20_spec 5000) s.t0 4097 _ r0_0 _ hz3
  cases hm
  refine ⟨⟨_, _⟩, by simp only [bodyOf, Tryz.f18, Cat, Zs, awanted, aoper, evalO, put, acallOp, abuiltin, Nat.reduceEqDiff, Nat.reduceLT, ofV, ofCell, ↓reduceIte, hl, a0, CP, iu4]; exact rfl, ?_⟩
  show P18_1 _ _
  exact ⟨by simp [hl], by simp [hl]⟩
theorem R18_1 (pe pr) : Ref Cl P18_0 (Cat [false] (bodyOf Tryz.f18)) m18_1 (post P18_0 pe pr) := by
  rintro s ⟨t, h⟩ hp x s' hm
  obtain ⟨w0_0, hl, a0, r0_0⟩ : P18_0' s t h := hp
  unfold m18_1 at hm
  cases hm
  refine ⟨⟨_, _⟩, by simp only [bodyOf, Tryz.f18, Cat, Zs, awanted, aoper, evalO, put, acallOp, abuiltin, Nat.reduceEqDiff, Nat.reduceLT, ofV, ofCell, ↓reduceIte, hl, a0, CP]; exact rfl, ?_⟩
  show P18_0 _ _
  exact ⟨w0_0, by simp [hl], by simp [a0], r0_0⟩
theorem B18 : Ref Cl P18_0 (bodyOf Tryz.f18) (M18) (post P18_1 (fun _ _ _ => False) P18_1) := by
  rw [show bodyOf Tryz.f18 = .seq (Cat [false] (bodyOf Tryz.f18)) (.seq (Cat [true, false] (bodyOf Tryz.f18)) (.ret)) from rfl]
  unfold M18
  exact ref_seq (R18_1 _ _) (ref_seq (R18_0 _ _) (ref_ret (fun s st hp => hp)))
noncomputable def G18 (x0 : TestT) : Option Bool := match M18 { (default : Fr18) with t0 := x0 } with
  | some (.nrm, s) => some s.t2
  | some (.ret, s) => some s.t2
  | _ => none
theorem G18_spec : Spec18 (G18) := by
  intro x0 vx0_0 hvx0_0 r hr
  unfold G18 at hr
  cases hm : M18 { (default : Fr18) with t0 := x0 } with
  | none => rw [hm] at hr; cases hr
  | some q =>
    obtain ⟨x, s⟩ := q
    rw [hm] at hr
    have hx : x = .nrm ∨ x = .ret := by cases x <;> first | exact .inl rfl | exact .inr rfl | cases hr
    have hr : s.t2 = r := by cases x <;> first | exact Option.some.inj hr | cases hr
    subst hr
    have hp0 : P18_0' ({ (default : Fr18) with t0 := x0 }) (slots Tryz.f18 (stripL [vx0_0])) bare := ⟨(strip vx0_0 : AVal), rfl, rfl, rTestT_p.str _ _ hvx0_0⟩
    obtain ⟨v, hR, hrun⟩ := run_of_ref (C := Cl) (f := 18) (fn := Tryz.f18) Tryz.func18 rfl rfl rfl rfl (args := [vx0_0]) (by simp only [refsL, refs, List.append_nil, refs_one (rTestT_p.ref _ _ hvx0_0)]) (B18) (s0 := { (default : Fr18) with t0 := x0 }) hp0 hm hx (R := fun v => v = .bool s.t2) (by
      have key : ∀ st : ASt, P18_1 s st → ∃ vs v, aresults Cl Tryz.f18.results.toList st = some vs ∧ Nrm [] st.h (packRes vs) v ∧ (fun v => v = .bool s.t2) v := by
        intro st hp
        obtain ⟨hl, a2⟩ := (hp : P18_1' s st.tmps st.h)
        exact ⟨[.bool s.t2], _, by simp only [show Tryz.f18.results.toList = [ResultVar.tmp 2] from rfl, aresults, ares1, CP, a2, Option.getD_some], (Nrm.of (w := .bool s.t2) (by simp only [refsL, refs, List.append_nil])), rfl⟩
      intro st hq
      rcases hx with rfl | rfl
      · exact key st hq
      · exact key st hq)
    subst hR
    exact hrun
/-! ### internal/strconv.FormatBool -/
structure Fr194 where
  t0 : Bool
  t2 : (List UInt8)
  t3 : Bool
instance : Inhabited Fr194 := ⟨⟨false, [], false⟩⟩
def P194_0' (s : Fr194) (t : List AVal) (h : AHeap) : Prop := t.length = 4 ∧ True
def P194_0 (s : Fr194) (st : ASt) : Prop := P194_0' s st.tmps st.h
def P194_1' (s : Fr194) (t : List AVal) (h : AHeap) : Prop := t.length = 4 ∧ t[2]? = some (.str s.t2)
def P194_1 (s : Fr194) (st : ASt) : Prop := P194_1' s st.tmps st.h
def P194_2' (s : Fr194) (t : List AVal) (h : AHeap) : Prop := t.length = 4 ∧ t[3]? = some (.bool s.t3)
def P194_2 (s : Fr194) (st : ASt) : Prop := P194_2' s st.tmps st.h
def P194_3' (s : Fr194) (t : List AVal) (h : AHeap) : Prop := t.length = 4 ∧ t[0]? = some (.bool s.t0)
def P194_3 (s : Fr194) (st : ASt) : Prop := P194_3' s st.tmps st.h
noncomputable def m194_0 : Mo Fr194 := fun s => some (.nrm, { s with t2 := ([102, 97, 108, 115, 101] : List UInt8) })
noncomputable def m194_1 : Mo Fr194 := fun s => some (.nrm, { s with t2 := ([116, 114, 117, 101] : List UInt8) })
noncomputable def m194_2 : Mo Fr194 := fun s => some (.nrm, { s with t3 := s.t0 })
noncomputable def m194_3 : Mo Fr194 := fun s => some (.nrm, s)
noncomputable def M194 : Mo Fr194 := seqM (m194_3) (seqM (seqM (m194_2) (condM (fun s => s.t3) (seqM (m194_1) (retM)) (skipM))) (seqM (m194_0) (retM)))
def Spec194 (f : Bool → Option (List UInt8)) : Prop := ∀ (x0 : Bool) (r : (List UInt8)), f x0 = some r → ∀ h, run Cl 194 [.bool x0] h = some (.ret (.str r), h)
theorem Spec194_of {f g : Bool → Option (List UInt8)} (hg : Spec194 g) (h : ∀ x0 r, f x0 = some r → g x0 = some r) : Spec194 f := fun x0 r hr => hg x0 r (h x0 r hr)
theorem R194_0 (pe pr) : Ref Cl P194_0 (Cat [true, true, false] (bodyOf Tryz.f194)) m194_0 (post P194_1 pe pr) := by
  rintro s ⟨t, h⟩ hp x s' hm
  obtain ⟨hl, _⟩ : P194_0' s t h := hp
  unfold m194_0 at hm
  cases hm
  refine ⟨⟨_, _⟩, by simp only [bodyOf, Tryz.f194, Cat, Zs, awanted, aoper, evalO, put, acallOp, abuiltin, Nat.reduceEqDiff, Nat.reduceLT, ofV, ofCell, ↓reduceIte, hl, CP]; exact rfl, ?_⟩
  show P194_1 _ _
  exact ⟨by simp [hl], by simp [hl]⟩
theorem R194_1 (pe pr) : Ref Cl P194_0 (Cat [true, false, true, false, false] (bodyOf Tryz.f194)) m194_1 (post P194_1 pe pr) := by
  rintro s ⟨t, h⟩ hp x s' hm
  obtain ⟨hl, _⟩ : P194_0' s t h := hp
  unfold m194_1 at hm
  cases hm
  refine ⟨⟨_, _⟩, by simp only [bodyOf, Tryz.f194, Cat, Zs, awanted, aoper, evalO, put, acallOp, abuiltin, Nat.reduceEqDiff, Nat.reduceLT, ofV, ofCell, ↓reduceIte, hl, CP]; exact rfl, ?_⟩
  show P194_1 _ _
  exact ⟨by simp [hl], by simp [hl]⟩
theorem R194_2 (pe pr) : Ref Cl P194_3 (Cat [true, false, false] (bodyOf Tryz.f194)) m194_2 (post P194_2 pe pr) := by
  rintro s ⟨t, h⟩ hp x s' hm
  obtain ⟨hl, a0⟩ : P194_3' s t h := hp
  unfold m194_2 at hm
  cases hm
  refine ⟨⟨_, _⟩, by simp only [bodyOf, Tryz.f194, Cat, Zs, awanted, aoper, evalO, put, acallOp, abuiltin, Nat.reduceEqDiff, Nat.reduceLT, ofV, ofCell, ↓reduceIte, hl, a0, CP]; exact rfl, ?_⟩
  show P194_2 _ _
  exact ⟨by simp [hl], by simp [hl]⟩
theorem R194_3 (pe pr) : Ref Cl P194_3 (Cat [false] (bodyOf Tryz.f194)) m194_3 (post P194_3 pe pr) := by
  rintro s ⟨t, h⟩ hp x s' hm
  obtain ⟨hl, a0⟩ : P194_3' s t h := hp
  unfold m194_3 at hm
  cases hm
  refine ⟨⟨_, _⟩, by simp only [bodyOf, Tryz.f194, Cat, Zs, awanted, aoper, evalO, put, acallOp, abuiltin, Nat.reduceEqDiff, Nat.reduceLT, ofV, ofCell, ↓reduceIte, hl, a0, CP]; exact rfl, ?_⟩
  show P194_3 _ _
  exact ⟨by simp [hl], by simp [a0]⟩
theorem B194 : Ref Cl P194_3 (bodyOf Tryz.f194) (M194) (post P194_1 (fun _ _ _ => False) P194_1) := by
  rw [show bodyOf Tryz.f194 = .seq (Cat [false] (bodyOf Tryz.f194)) (.seq (.seq (Cat [true, false, false] (bodyOf Tryz.f194)) (.cond (.tmp 3) (.seq (Cat [true, false, true, false, false] (bodyOf Tryz.f194)) (.ret)) (.skip))) (.seq (Cat [true, true, false] (bodyOf Tryz.f194)) (.ret))) from rfl]
  unfold M194
  exact ref_seq (R194_3 _ _) (ref_seq (ref_seq (R194_2 _ _) (ref_cond (P := P194_2) (c := fun s => s.t3) (fun s st hp => by obtain ⟨hl, a3⟩ := (hp : P194_2' s st.tmps st.h); simp only [evalO, a3, Option.getD_some]) (ref_weak (P' := P194_0) (fun s st hp => by obtain ⟨hl, a3⟩ := (hp : P194_2' s st.tmps st.h); exact (⟨hl, trivial⟩ : P194_0' s st.tmps st.h)) (ref_seq (R194_1 _ _) (ref_ret (fun s st hp => hp)))) (ref_weak (P' := P194_0) (fun s st hp => by obtain ⟨hl, a3⟩ := (hp : P194_2' s st.tmps st.h); exact (⟨hl, trivial⟩ : P194_0' s st.tmps st.h)) (ref_skip (fun s st hp => hp))))) (ref_seq (R194_0 _ _) (ref_ret (fun s st hp => hp))))
noncomputable def G194 (x0 : Bool) : Option (List UInt8) := match M194 { (default : Fr194) with t0 := x0 } with
  | some (.nrm, s) => some s.t2
  | some (.ret, s) => some s.t2
  | _ => none
theorem G194_spec : Spec194 (G194) := by
  intro x0 r hr
  unfold G194 at hr
  cases hm : M194 { (default : Fr194) with t0 := x0 } with
  | none => rw [hm] at hr; cases hr
  | some q =>
    obtain ⟨x, s⟩ := q
    rw [hm] at hr
    have hx : x = .nrm ∨ x = .ret := by cases x <;> first | exact .inl rfl | exact .inr rfl | cases hr
    have hr : s.t2 = r := by cases x <;> first | exact Option.some.inj hr | cases hr
    subst hr
    have hp0 : P194_3' ({ (default : Fr194) with t0 := x0 }) (slots Tryz.f194 (stripL [.bool x0])) bare := ⟨rfl, rfl⟩
    obtain ⟨v, hR, hrun⟩ := run_of_ref (C := Cl) (f := 194) (fn := Tryz.f194) Tryz.func194 rfl rfl rfl rfl (args := [.bool x0]) (by simp only [refsL, refs, List.append_nil]) (B194) (s0 := { (default : Fr194) with t0 := x0 }) hp0 hm hx (R := fun v => v = .str s.t2) (by
      have key : ∀ st : ASt, P194_1 s st → ∃ vs v, aresults Cl Tryz.f194.results.toList st = some vs ∧ Nrm [] st.h (packRes vs) v ∧ (fun v => v = .str s.t2) v := by
        intro st hp
        obtain ⟨hl, a2⟩ := (hp : P194_1' s st.tmps st.h)
        exact ⟨[.str s.t2], _, by simp only [show Tryz.f194.results.toList = [ResultVar.tmp 2] from rfl, aresults, ares1, CP, a2, Option.getD_some], (Nrm.of (w := .str s.t2) (by simp only [refsL, refs, List.append_nil])), rfl⟩
      intro st hq
      rcases hx with rfl | rfl
      · exact key st hq
      · exact key st hq)
    subst hR
    exact hrun
/-! ### strconv.FormatBool -/
structure Fr144 where
  t0 : Bool
  t2 : (List UInt8)
instance : Inhabited Fr144 := ⟨⟨false, []⟩⟩
def P144_0' (s : Fr144) (t : List AVal) (h : AHeap) : Prop := t.length = 5 ∧ t[0]? = some (.bool s.t0)
def P144_0 (s : Fr144) (st : ASt) : Prop := P144_0' s st.tmps st.h
def P144_1' (s : Fr144) (t : List AVal) (h : AHeap) : Prop := t.length = 5 ∧ t[2]? = some (.str s.t2)
def P144_1 (s : Fr144) (st : ASt) : Prop := P144_1' s st.tmps st.h
noncomputable def m144_0 : Mo Fr144 := fun s => (G194 s.t0).bind fun z1 => some (.nrm, { s with t2 := z1 })
noncomputable def m144_1 : Mo Fr144 := fun s => some (.nrm, s)
noncomputable def M144 : Mo Fr144 := seqM (m144_1) (seqM (m144_0) (retM))
def Spec144 (f : Bool → Option (List UInt8)) : Prop := ∀ (x0 : Bool) (r : (List UInt8)), f x0 = some r → ∀ h, run Cl 144 [.bool x0] h = some (.ret (.str r), h)
theorem Spec144_of {f g : Bool → Option (List UInt8)} (hg : Spec144 g) (h : ∀ x0 r, f x0 = some r → g x0 = some r) : Spec144 f := fun x0 r hr => hg x0 r (h x0 r hr)
theorem R144_0 (pe pr) : Ref Cl P144_0 (Cat [true, false] (bodyOf Tryz.f144)) m144_0 (post P144_1 pe pr) := by
  rintro s ⟨t, h⟩ hp x s' hm
  obtain ⟨hl, a0⟩ : P144_0' s t h := hp
  unfold m144_0 at hm
  obtain ⟨z3, hz3, hm⟩ := Option.bind_eq_some_iff.1 hm
  have iu4 := G194_spec s.t0  _ hz3
  cases hm
  refine ⟨⟨_, _⟩, by simp only [bodyOf, Tryz.f144, Cat, Zs, awanted, aoper, evalO, put, acallOp, abuiltin, Nat.reduceEqDiff, Nat.reduceLT, ofV, ofCell, ↓reduceIte, hl, a0, CP, iu4]; exact rfl, ?_⟩
  show P144_1 _ _
  exact ⟨by simp [hl], by simp [hl]⟩
theorem R144_1 (pe pr) : Ref Cl P144_0 (Cat [false] (bodyOf Tryz.f144)) m144_1 (post P144_0 pe pr) := by
  rintro s ⟨t, h⟩ hp x s' hm
  obtain ⟨hl, a0⟩ : P144_0' s t h := hp
  unfold m144_1 at hm
  cases hm
  refine ⟨⟨_, _⟩, by simp only [bodyOf, Tryz.f144, Cat, Zs, awanted, aoper, evalO, put, acallOp, abuiltin, Nat.reduceEqDiff, Nat.reduceLT, ofV, ofCell, ↓reduceIte, hl, a0, CP]; exact rfl, ?_⟩
  show P144_0 _ _
  exact ⟨by simp [hl], by simp [a0]⟩
theorem B144 : Ref Cl P144_0 (bodyOf Tryz.f144) (M144) (post P144_1 (fun _ _ _ => False) P144_1) := by
  rw [show bodyOf Tryz.f144 = .seq (Cat [false] (bodyOf Tryz.f144)) (.seq (Cat [true, false] (bodyOf Tryz.f144)) (.ret)) from rfl]
  unfold M144
  exact ref_seq (R144_1 _ _) (ref_seq (R144_0 _ _) (ref_ret (fun s st hp => hp)))
noncomputable def G144 (x0 : Bool) : Option (List UInt8) := match M144 { (default : Fr144) with t0 := x0 } with
  | some (.nrm, s) => some s.t2
  | some (.ret, s) => some s.t2
  | _ => none
theorem G144_spec : Spec144 (G144) := by
  intro x0 r hr
  unfold G144 at hr
  cases hm : M144 { (default : Fr144) with t0 := x0 } with
  | none => rw [hm] at hr; cases hr
  | some q =>
    obtain ⟨x, s⟩ := q
    rw [hm] at hr
    have hx : x = .nrm ∨ x = .ret := by cases x <;> first | exact .inl rfl | exact .inr rfl | cases hr
    have hr : s.t2 = r := by cases x <;> first | exact Option.some.inj hr | cases hr
    subst hr
    have hp0 : P144_0' ({ (default : Fr144) with t0 := x0 }) (slots Tryz.f144 (stripL [.bool x0])) bare := ⟨rfl, rfl⟩
    obtain ⟨v, hR, hrun⟩ := run_of_ref (C := Cl) (f := 144) (fn := Tryz.f144) Tryz.func144 rfl rfl rfl rfl (args := [.bool x0]) (by simp only [refsL, refs, List.append_nil]) (B144) (s0 := { (default : Fr144) with t0 := x0 }) hp0 hm hx (R := fun v => v = .str s.t2) (by
      have key : ∀ st : ASt, P144_1 s st → ∃ vs v, aresults Cl Tryz.f144.results.toList st = some vs ∧ Nrm [] st.h (packRes vs) v ∧ (fun v => v = .str s.t2) v := by
        intro st hp
        obtain ⟨hl, a2⟩ := (hp : P144_1' s st.tmps st.h)
        exact ⟨[.str s.t2], _, by simp only [show Tryz.f144.results.toList = [ResultVar.tmp 2] from rfl, aresults, ares1, CP, a2, Option.getD_some], (Nrm.of (w := .str s.t2) (by simp only [refsL, refs, List.append_nil])), rfl⟩
      intro st hq
      rcases hx with rfl | rfl
      · exact key st hq
      · exact key st hq)
    subst hR
    exact hrun
/-! ### caisson/bind.nodes -/
def Spec66 (f : TestT → Option Int) : Prop := ∀ (x0 : TestT) (vx0_0 : AVal) (_ : rTestT x0 [vx0_0]) (r : Int), f x0 = some r → ∀ h, run Cl 66 [vx0_0] h = some (.ret (.int .i64 r), h)
theorem Spec66_of {f g : TestT → Option Int} (hg : Spec66 g) (h : ∀ x0 r, f x0 = some r → g x0 = some r) : Spec66 f := fun x0 v0_ w0_ r hr => hg x0 v0_ w0_ r (h x0 r hr)
/-! ### strconv.Itoa -/
def Spec75 (f : Int → Option (List UInt8)) : Prop := ∀ (x0 : Int) (r : (List UInt8)), f x0 = some r → ∀ h, run Cl 75 [.int .i64 x0] h = some (.ret (.str r), h)
theorem Spec75_of {f g : Int → Option (List UInt8)} (hg : Spec75 g) (h : ∀ x0 r, f x0 = some r → g x0 = some r) : Spec75 f := fun x0 r hr => hg x0 r (h x0 r hr)
/-! ### strconv.FormatInt -/
def Spec147 (f : Int → Int → Option (List UInt8)) : Prop := ∀ (x0 : Int) (x1 : Int) (r : (List UInt8)), f x0 x1 = some r → ∀ h, run Cl 147 [.int .i64 x0, .int .i64 x1] h = some (.ret (.str r), h)
theorem Spec147_of {f g : Int → Int → Option (List UInt8)} (hg : Spec147 g) (h : ∀ x0 x1 r, f x0 x1 = some r → g x0 x1 = some r) : Spec147 f := fun x0 x1 r hr => hg x0 x1 r (h x0 x1 r hr)
/-! ### caisson/bind.Key -/
def Spec17 (f : Bound → Option (List UInt8)) : Prop := ∀ (x0 : Bound) (vx0_0 : AVal) (_ : Sl rPick x0.Picks vx0_0) (vx0_1 : AVal) (_ : Sl rS x0.Names vx0_1) (vx0_2 : AVal) (_ : rTestT x0.Where [vx0_2]) (vx0_3 : AVal) (_ : Sl (rI .i64) x0.Sets vx0_3) (r : (List UInt8)), f x0 = some r → ∀ h, run Cl 17 [.agg [vx0_0, vx0_1, vx0_2, vx0_3]] h = some (.ret (.str r), h)
theorem Spec17_of {f g : Bound → Option (List UInt8)} (hg : Spec17 g) (h : ∀ x0 r, f x0 = some r → g x0 = some r) : Spec17 f := fun x0 v0_ w0_ v1_ w1_ v2_ w2_ v3_ w3_ r hr => hg x0 v0_ w0_ v1_ w1_ v2_ w2_ v3_ w3_ r (h x0 r hr)
/-! ### caisson/caissonlaw12.awake -/
def Spec9 (f : Option Bool) : Prop := ∀ (r : Bool), f  = some r → ∀ h, run Cl 9 [] h = some (.ret (.bool r), h)
end Go.Proofs.Ky
