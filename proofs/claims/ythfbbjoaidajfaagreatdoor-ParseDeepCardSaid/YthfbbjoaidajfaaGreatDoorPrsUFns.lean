import Derived.Test.YthfbbjoaidajfaaGreatDoorPrsUTypes
import Derived.Test.YthfbbjoaidajfaaGreatDoorAmPack
set_option linter.unusedVariables false
set_option linter.unusedSimpArgs false
set_option linter.unusedSimpArgs false
set_option linter.unusedVariables false
set_option maxRecDepth 100000
namespace Go.Proofs.Q.Par
open Go Go.Am Go.Proofs
structure Fr21 where
  t0 : CondT
  t2 : Int
  t3 : Int
  t4 : Int
  t6 : Bool
  t19 : Bool
instance : Inhabited Fr21 := ⟨⟨default, 0, 0, 0, false, false⟩⟩
def P21_0' (s : Fr21) (t : List AVal) (h : AHeap) : Prop := t.length = 23 ∧ t[3]? = some (.int .i64 s.t3)
def P21_0 (s : Fr21) (st : ASt) : Prop := P21_0' s st.tmps st.h
def P21_1' (s : Fr21) (t : List AVal) (h : AHeap) : Prop := t.length = 23 ∧ t[2]? = some (.int .i64 s.t2)
def P21_1 (s : Fr21) (st : ASt) : Prop := P21_1' s st.tmps st.h
def P21_2' (s : Fr21) (t : List AVal) (h : AHeap) : Prop := t.length = 23 ∧ t[4]? = some (.int .i64 s.t4)
def P21_2 (s : Fr21) (st : ASt) : Prop := P21_2' s st.tmps st.h
def P21_3' (s : Fr21) (t : List AVal) (h : AHeap) : Prop := t.length = 23 ∧ t[3]? = some (.int .i64 s.t3) ∧ t[4]? = some (.int .i64 s.t4) ∧ t[19]? = some (.bool s.t19)
def P21_3 (s : Fr21) (st : ASt) : Prop := P21_3' s st.tmps st.h
def P21_4' (s : Fr21) (t : List AVal) (h : AHeap) : Prop := t.length = 23 ∧ t[3]? = some (.int .i64 s.t3) ∧ t[4]? = some (.int .i64 s.t4)
def P21_4 (s : Fr21) (st : ASt) : Prop := P21_4' s st.tmps st.h
def P21_5' (s : Fr21) (t : List AVal) (h : AHeap) : Prop := ∃ w0_0, t.length = 23 ∧ t[0]? = some w0_0 ∧ rCondT s.t0 [w0_0] ∧ t[3]? = some (.int .i64 s.t3)
def P21_5 (s : Fr21) (st : ASt) : Prop := P21_5' s st.tmps st.h
def P21_6' (s : Fr21) (t : List AVal) (h : AHeap) : Prop := ∃ w0_0, t.length = 23 ∧ t[0]? = some w0_0 ∧ rCondT s.t0 [w0_0]
def P21_6 (s : Fr21) (st : ASt) : Prop := P21_6' s st.tmps st.h
def P21_7' (s : Fr21) (t : List AVal) (h : AHeap) : Prop := t.length = 23 ∧ True
def P21_7 (s : Fr21) (st : ASt) : Prop := P21_7' s st.tmps st.h
def P21_8' (s : Fr21) (t : List AVal) (h : AHeap) : Prop := ∃ w0_0, t.length = 23 ∧ t[0]? = some w0_0 ∧ rCondT s.t0 [w0_0] ∧ t[6]? = some (.bool s.t6)
def P21_8 (s : Fr21) (st : ASt) : Prop := P21_8' s st.tmps st.h
noncomputable def m21_0 (rec21 : CondT → Option Int) : Mo Fr21 := fun s => some (.nrm, { s with t2 := IntKind.wrap .i64 (s.t3 + 1) })
noncomputable def m21_1 (rec21 : CondT → Option Int) : Mo Fr21 := fun s => some (.nrm, { s with t3 := s.t4 })
noncomputable def m21_2 (rec21 : CondT → Option Int) : Mo Fr21 := fun s => some (.nrm, { s with t19 := decide (s.t4 > s.t3) })
noncomputable def m21_3 (rec21 : CondT → Option Int) : Mo Fr21 := fun s => (s.t0.get).bind fun n1 => (rec21 n1.Right).bind fun z3 => some (.nrm, { s with t4 := z3 })
noncomputable def m21_4 (rec21 : CondT → Option Int) : Mo Fr21 := fun s => (s.t0.get).bind fun n9 => (rec21 n9.Left).bind fun z11 => some (.nrm, { s with t3 := z11 })
noncomputable def m21_5 (rec21 : CondT → Option Int) : Mo Fr21 := fun s => some (.nrm, { s with t2 := 0 })
noncomputable def m21_6 (rec21 : CondT → Option Int) : Mo Fr21 := fun s => some (.nrm, { s with t6 := s.t0.isNil })
noncomputable def m21_7 (rec21 : CondT → Option Int) : Mo Fr21 := fun s => some (.nrm, s)
noncomputable def M21 (rec21 : CondT → Option Int) : Mo Fr21 := seqM (m21_7 rec21) (seqM (seqM (m21_6 rec21) (condM (fun s => s.t6) (seqM (m21_5 rec21) (retM)) (skipM))) (seqM (m21_4 rec21) (seqM (m21_3 rec21) (seqM (seqM (m21_2 rec21) (condM (fun s => s.t19) (m21_1 rec21) (skipM))) (seqM (m21_0 rec21) (retM))))))
def Spec21 (f : CondT → Option Int) : Prop := ∀ (x0 : CondT) (vx0_0 : AVal) (_ : rCondT x0 [vx0_0]) (r : Int), f x0 = some r → ∀ h, run Cp 21 [vx0_0] h = some (.ret (.int .i64 r), h)
theorem R21_0 {rec21 : CondT → Option Int} (hrec21 : Spec21 rec21) (pe pr) : Ref Cp P21_0 (Cat [true, true, true, true, true, false] (bodyOf Tryz.f21)) (m21_0 rec21) (post P21_1 pe pr) := by
  rintro s ⟨t, h⟩ hp x s' hm
  obtain ⟨hl, a3⟩ : P21_0' s t h := hp
  unfold m21_0 at hm
  cases hm
  refine ⟨⟨_, _⟩, by simp only [bodyOf, Tryz.f21, Cat, Zs, awanted, aoper, evalO, put, acallOp, abuiltin, Nat.reduceEqDiff, Nat.reduceLT, ofV, ofCell, ↓reduceIte, hl, a3, CP, Bool.not_false, Bool.not_true]; exact rfl, ?_⟩
  show P21_1 _ _
  exact ⟨by simp [hl], by simp [hl]⟩
theorem R21_1 {rec21 : CondT → Option Int} (hrec21 : Spec21 rec21) (pe pr) : Ref Cp P21_2 (Cat [true, true, true, true, false, true, false] (bodyOf Tryz.f21)) (m21_1 rec21) (post P21_0 pe pr) := by
  rintro s ⟨t, h⟩ hp x s' hm
  obtain ⟨hl, a4⟩ : P21_2' s t h := hp
  unfold m21_1 at hm
  cases hm
  refine ⟨⟨_, _⟩, by simp only [bodyOf, Tryz.f21, Cat, Zs, awanted, aoper, evalO, put, acallOp, abuiltin, Nat.reduceEqDiff, Nat.reduceLT, ofV, ofCell, ↓reduceIte, hl, a4, CP, Bool.not_false, Bool.not_true]; exact rfl, ?_⟩
  show P21_0 _ _
  exact ⟨by simp [hl], by simp [hl]⟩
theorem R21_2 {rec21 : CondT → Option Int} (hrec21 : Spec21 rec21) (pe pr) : Ref Cp P21_4 (Cat [true, true, true, true, false, false] (bodyOf Tryz.f21)) (m21_2 rec21) (post P21_3 pe pr) := by
  rintro s ⟨t, h⟩ hp x s' hm
  obtain ⟨hl, a3, a4⟩ : P21_4' s t h := hp
  unfold m21_2 at hm
  cases hm
  refine ⟨⟨_, _⟩, by simp only [bodyOf, Tryz.f21, Cat, Zs, awanted, aoper, evalO, put, acallOp, abuiltin, Nat.reduceEqDiff, Nat.reduceLT, ofV, ofCell, ↓reduceIte, hl, a3, a4, CP, Bool.not_false, Bool.not_true]; exact rfl, ?_⟩
  show P21_3 _ _
  exact ⟨by simp [hl], by simp [a3], by simp [a4], by simp [hl]⟩
theorem R21_3 {rec21 : CondT → Option Int} (hrec21 : Spec21 rec21) (pe pr) : Ref Cp P21_5 (Cat [true, true, true, false] (bodyOf Tryz.f21)) (m21_3 rec21) (post P21_4 pe pr) := by
  rintro s ⟨t, h⟩ hp x s' hm
  obtain ⟨w0_0, hl, a0, r0_0, a3⟩ : P21_5' s t h := hp
  unfold m21_3 at hm
  obtain ⟨n5, hn5, hm⟩ := Option.bind_eq_some_iff.1 hm
  obtain ⟨bu6_0, bu6_1, bu6_2, qu6, gu6_0, gu6_1, gu6_2⟩ := rCondT_get r0_0 hn5
  subst qu6
  obtain ⟨z7, hz7, hm⟩ := Option.bind_eq_some_iff.1 hm
  have iu8 := hrec21 n5.Right _ gu6_1 _ hz7
  cases hm
  refine ⟨⟨_, _⟩, by simp only [bodyOf, Tryz.f21, Cat, Zs, awanted, aoper, evalO, put, acallOp, abuiltin, Nat.reduceEqDiff, Nat.reduceLT, ofV, ofCell, ↓reduceIte, hl, a0, a3, CP, Bool.not_false, Bool.not_true, TyU.fa50_2, dropCells, List.drop_succ_cons, List.drop_zero, TyU.ld24, ld_ip, ofc1, List.drop_succ_cons, List.drop_zero, iu8]; exact rfl, ?_⟩
  show P21_4 _ _
  exact ⟨by simp [hl], by simp [a3], by simp [hl]⟩
theorem R21_4 {rec21 : CondT → Option Int} (hrec21 : Spec21 rec21) (pe pr) : Ref Cp P21_6 (Cat [true, true, false] (bodyOf Tryz.f21)) (m21_4 rec21) (post P21_5 pe pr) := by
  rintro s ⟨t, h⟩ hp x s' hm
  obtain ⟨w0_0, hl, a0, r0_0⟩ : P21_6' s t h := hp
  unfold m21_4 at hm
  obtain ⟨n13, hn13, hm⟩ := Option.bind_eq_some_iff.1 hm
  obtain ⟨bu14_0, bu14_1, bu14_2, qu14, gu14_0, gu14_1, gu14_2⟩ := rCondT_get r0_0 hn13
  subst qu14
  obtain ⟨z15, hz15, hm⟩ := Option.bind_eq_some_iff.1 hm
  have iu16 := hrec21 n13.Left _ gu14_0 _ hz15
  cases hm
  refine ⟨⟨_, _⟩, by simp only [bodyOf, Tryz.f21, Cat, Zs, awanted, aoper, evalO, put, acallOp, abuiltin, Nat.reduceEqDiff, Nat.reduceLT, ofV, ofCell, ↓reduceIte, hl, a0, CP, Bool.not_false, Bool.not_true, TyU.fa50_1, dropCells, List.drop_succ_cons, List.drop_zero, TyU.ld24, ld_ip, ofc1, List.drop_succ_cons, List.drop_zero, iu16]; exact rfl, ?_⟩
  show P21_5 _ _
  exact ⟨(.iptr [.int .i64 n13.Kind, bu14_0, bu14_1, .str n13.Column, .int .i64 n13.Op, bu14_2] : AVal), by simp [hl], by simp [a0], r0_0, by simp [hl]⟩
theorem R21_5 {rec21 : CondT → Option Int} (hrec21 : Spec21 rec21) (pe pr) : Ref Cp P21_7 (Cat [true, false, true, false, false] (bodyOf Tryz.f21)) (m21_5 rec21) (post P21_1 pe pr) := by
  rintro s ⟨t, h⟩ hp x s' hm
  obtain ⟨hl, _⟩ : P21_7' s t h := hp
  unfold m21_5 at hm
  cases hm
  refine ⟨⟨_, _⟩, by simp only [bodyOf, Tryz.f21, Cat, Zs, awanted, aoper, evalO, put, acallOp, abuiltin, Nat.reduceEqDiff, Nat.reduceLT, ofV, ofCell, ↓reduceIte, hl, CP, Bool.not_false, Bool.not_true]; exact rfl, ?_⟩
  show P21_1 _ _
  exact ⟨by simp [hl], by simp [hl]⟩
theorem R21_6 {rec21 : CondT → Option Int} (hrec21 : Spec21 rec21) (pe pr) : Ref Cp P21_6 (Cat [true, false, false] (bodyOf Tryz.f21)) (m21_6 rec21) (post P21_8 pe pr) := by
  rintro s ⟨t, h⟩ hp x s' hm
  obtain ⟨w0_0, hl, a0, r0_0⟩ : P21_6' s t h := hp
  unfold m21_6 at hm
  cases hb17 : s.t0.isNil with
  | true =>
    all_goals (
      try simp only [hb17, Zb] at hm
      obtain ⟨_, qz18⟩ | ⟨qz18, _⟩ := rCondT_nil r0_0
      rotate_left
      · rw [hb17] at qz18; cases qz18
      have z18 : ∀ (xo : Operand) (h : AHeap), abin Cp .eql 24 xo (.const (.pointer none)) h (w0_0) .nilPtr = some (.bool true) := fun xo h => by rw [qz18]; exact TyU.eqn24 xo h
      cases hm
      refine ⟨⟨_, _⟩, by simp only [bodyOf, Tryz.f21, Cat, Zs, awanted, aoper, evalO, put, acallOp, abuiltin, Nat.reduceEqDiff, Nat.reduceLT, ofV, ofCell, ↓reduceIte, hl, a0, CP, Bool.not_false, Bool.not_true, z18, hb17]; exact rfl, ?_⟩
      show P21_8 _ _
      exact ⟨w0_0, by simp [hl], by simp [a0], r0_0, by simp [hl, hb17]⟩)
  | false =>
    all_goals (
      try simp only [hb17, Zb] at hm
      obtain ⟨qz19, _⟩ | ⟨_, csz19, qz19⟩ := rCondT_nil r0_0
      · rw [hb17] at qz19; cases qz19
      have z19 : ∀ (xo yo : Operand) (h : AHeap), abin Cp .eql 24 xo yo h (w0_0) .nilPtr = some (.bool false) := fun xo yo h => by rw [qz19]; exact TyU.eqp24 xo yo h _
      clear qz19
      cases hm
      refine ⟨⟨_, _⟩, by simp only [bodyOf, Tryz.f21, Cat, Zs, awanted, aoper, evalO, put, acallOp, abuiltin, Nat.reduceEqDiff, Nat.reduceLT, ofV, ofCell, ↓reduceIte, hl, a0, CP, Bool.not_false, Bool.not_true, z19, hb17]; exact rfl, ?_⟩
      show P21_8 _ _
      exact ⟨w0_0, by simp [hl], by simp [a0], r0_0, by simp [hl, hb17]⟩)
theorem R21_7 {rec21 : CondT → Option Int} (hrec21 : Spec21 rec21) (pe pr) : Ref Cp P21_6 (Cat [false] (bodyOf Tryz.f21)) (m21_7 rec21) (post P21_6 pe pr) := by
  rintro s ⟨t, h⟩ hp x s' hm
  obtain ⟨w0_0, hl, a0, r0_0⟩ : P21_6' s t h := hp
  unfold m21_7 at hm
  cases hm
  refine ⟨⟨_, _⟩, by simp only [bodyOf, Tryz.f21, Cat, Zs, awanted, aoper, evalO, put, acallOp, abuiltin, Nat.reduceEqDiff, Nat.reduceLT, ofV, ofCell, ↓reduceIte, hl, a0, CP, Bool.not_false, Bool.not_true]; exact rfl, ?_⟩
  show P21_6 _ _
  exact ⟨w0_0, by simp [hl], by simp [a0], r0_0⟩
theorem B21 {rec21 : CondT → Option Int} (hrec21 : Spec21 rec21) : Ref Cp P21_6 (bodyOf Tryz.f21) (M21 rec21) (post P21_1 (fun _ _ _ => False) P21_1) := by
  rw [show bodyOf Tryz.f21 = .seq (Cat [false] (bodyOf Tryz.f21)) (.seq (.seq (Cat [true, false, false] (bodyOf Tryz.f21)) (.cond (.tmp 6) (.seq (Cat [true, false, true, false, false] (bodyOf Tryz.f21)) (.ret)) (.skip))) (.seq (Cat [true, true, false] (bodyOf Tryz.f21)) (.seq (Cat [true, true, true, false] (bodyOf Tryz.f21)) (.seq (.seq (Cat [true, true, true, true, false, false] (bodyOf Tryz.f21)) (.cond (.tmp 19) (Cat [true, true, true, true, false, true, false] (bodyOf Tryz.f21)) (.skip))) (.seq (Cat [true, true, true, true, true, false] (bodyOf Tryz.f21)) (.ret)))))) from rfl]
  unfold M21
  exact ref_seq (R21_7 hrec21 _ _) (ref_seq (ref_seq (R21_6 hrec21 _ _) (ref_cond (P := P21_8) (c := fun s => s.t6) (fun s st hp => by obtain ⟨w0_0, hl, a0, r0_0, a6⟩ := (hp : P21_8' s st.tmps st.h); simp only [evalO, a6, Option.getD_some]) (ref_weak (P' := P21_7) (fun s st hp => by obtain ⟨w0_0, hl, a0, r0_0, a6⟩ := (hp : P21_8' s st.tmps st.h); exact (⟨hl, trivial⟩ : P21_7' s st.tmps st.h)) (ref_seq (R21_5 hrec21 _ _) (ref_ret (fun s st hp => hp)))) (ref_weak (P' := P21_6) (fun s st hp => by obtain ⟨w0_0, hl, a0, r0_0, a6⟩ := (hp : P21_8' s st.tmps st.h); exact (⟨w0_0, hl, a0, r0_0⟩ : P21_6' s st.tmps st.h)) (ref_skip (fun s st hp => hp))))) (ref_seq (R21_4 hrec21 _ _) (ref_seq (R21_3 hrec21 _ _) (ref_seq (ref_seq (R21_2 hrec21 _ _) (ref_cond (P := P21_3) (c := fun s => s.t19) (fun s st hp => by obtain ⟨hl, a3, a4, a19⟩ := (hp : P21_3' s st.tmps st.h); simp only [evalO, a19, Option.getD_some]) (ref_weak (P' := P21_2) (fun s st hp => by obtain ⟨hl, a3, a4, a19⟩ := (hp : P21_3' s st.tmps st.h); exact (⟨hl, a4⟩ : P21_2' s st.tmps st.h)) (R21_1 hrec21 _ _)) (ref_weak (P' := P21_0) (fun s st hp => by obtain ⟨hl, a3, a4, a19⟩ := (hp : P21_3' s st.tmps st.h); exact (⟨hl, a3⟩ : P21_0' s st.tmps st.h)) (ref_skip (fun s st hp => hp))))) (ref_seq (R21_0 hrec21 _ _) (ref_ret (fun s st hp => hp)))))))
noncomputable def G21 (rec21 : CondT → Option Int) (x0 : CondT) : Option Int := match M21 rec21 { (default : Fr21) with t0 := x0 } with
  | some (.nrm, s) => some s.t2
  | some (.ret, s) => some s.t2
  | _ => none
theorem G21_spec {rec21 : CondT → Option Int} (hrec21 : Spec21 rec21) : Spec21 (G21 rec21) := by
  intro x0 vx0_0 hvx0_0 r hr
  unfold G21 at hr
  cases hm : M21 rec21 { (default : Fr21) with t0 := x0 } with
  | none => rw [hm] at hr; cases hr
  | some q =>
    obtain ⟨x, s⟩ := q
    rw [hm] at hr
    have hx : x = .nrm ∨ x = .ret := by cases x <;> first | exact .inl rfl | exact .inr rfl | cases hr
    have hr : s.t2 = r := by cases x <;> first | exact Option.some.inj hr | cases hr
    subst hr
    have hp0 : P21_6' ({ (default : Fr21) with t0 := x0 }) (slots Tryz.f21 (stripL [vx0_0])) bare := ⟨(strip vx0_0 : AVal), rfl, rfl, rCondT_p.str _ _ hvx0_0⟩
    obtain ⟨v, hR, hrun⟩ := run_of_ref (C := Cp) (f := 21) (fn := Tryz.f21) Tryz.func21 rfl rfl rfl rfl (args := [vx0_0]) (by simp only [refsL, refs, List.append_nil, refs_one (rCondT_p.ref _ _ hvx0_0)]) (B21 hrec21) (s0 := { (default : Fr21) with t0 := x0 }) hp0 hm hx (R := fun v => v = .int .i64 s.t2) (by
      have key : ∀ st : ASt, P21_1 s st → ∃ vs v, aresults Cp Tryz.f21.results.toList st = some vs ∧ Nrm [] st.h (packRes vs) v ∧ (fun v => v = .int .i64 s.t2) v := by
        intro st hp
        obtain ⟨hl, a2⟩ := (hp : P21_1' s st.tmps st.h)
        exact ⟨[.int .i64 s.t2], _, by simp only [show Tryz.f21.results.toList = [ResultVar.tmp 2] from rfl, aresults, ares1, CP, a2, Option.getD_some], (Nrm.of (w := .int .i64 s.t2) (by simp only [refsL, refs, List.append_nil])), rfl⟩
      intro st hq
      rcases hx with rfl | rfl
      · exact key st hq
      · exact key st hq)
    subst hR
    exact hrun
noncomputable def F21 : Nat → CondT → Option Int
  | 0 => fun _ => none
  | n + 1 => G21 (F21 n)
theorem F21_spec : ∀ n, Spec21 (F21 n)
  | 0 => fun x0 vx0_0 hvx0_0 r hr => by cases hr
  | n + 1 => G21_spec (F21_spec n)
def S11 : Option Bool := some true
def Spec11 (f : Option Bool) : Prop := ∀ (r : Bool), f  = some r → ∀ h, run Cp 11 [] h = some (.ret (.bool r), h)
theorem S11_spec : Spec11 S11 := fun r hr h => by cases hr; exact awake_run h
structure Fr10 where
  t0 : Int
  t1 : Int
  t4 : Bool
  t5 : Bool
  t6 : Int
  t7 : (List UInt8)
  t8 : (List (List UInt8))
  t9 : Int
  t10 : Int
  t11 : Query
  t12 : Fault
  t17 : Bool
  t24 : Bool
  t29 : Bool
  t46 : Bool
instance : Inhabited Fr10 := ⟨⟨0, 0, false, false, 0, [], [], 0, 0, default, default, false, false, false, false⟩⟩
def P10_0' (s : Fr10) (t : List AVal) (h : AHeap) : Prop := ∃ i11 w11_0 w11_1 w11_2 i12, t.length = 72 ∧ t[5]? = some (.bool s.t5) ∧ t[6]? = some (.int .i64 s.t6) ∧ t[11]? = some (.ptr i11 0) ∧ h.get i11 = some (.arr [w11_0, .str s.t11.Table, w11_1, .bool s.t11.Grouped, w11_2]) ∧ i11 < h.next ∧ Sl rItem s.t11.Items w11_0 ∧ rCondT s.t11.Where [w11_1] ∧ Sl rGroup s.t11.Groups w11_2 ∧ t[12]? = some (.ptr i12 0) ∧ h.get i12 = some (.arr [.int .i64 s.t12.Code, .int .i64 s.t12.At]) ∧ i12 < h.next ∧ i11 ≠ i12
def P10_0 (s : Fr10) (st : ASt) : Prop := P10_0' s st.tmps st.h
def P10_1' (s : Fr10) (t : List AVal) (h : AHeap) : Prop := t.length = 72 ∧ t[4]? = some (.bool s.t4)
def P10_1 (s : Fr10) (st : ASt) : Prop := P10_1' s st.tmps st.h
def P10_2' (s : Fr10) (t : List AVal) (h : AHeap) : Prop := ∃ i11 w11_0 w11_1 w11_2 i12, t.length = 72 ∧ t[5]? = some (.bool s.t5) ∧ t[11]? = some (.ptr i11 0) ∧ h.get i11 = some (.arr [w11_0, .str s.t11.Table, w11_1, .bool s.t11.Grouped, w11_2]) ∧ i11 < h.next ∧ Sl rItem s.t11.Items w11_0 ∧ rCondT s.t11.Where [w11_1] ∧ Sl rGroup s.t11.Groups w11_2 ∧ t[12]? = some (.ptr i12 0) ∧ h.get i12 = some (.arr [.int .i64 s.t12.Code, .int .i64 s.t12.At]) ∧ i12 < h.next ∧ i11 ≠ i12
def P10_2 (s : Fr10) (st : ASt) : Prop := P10_2' s st.tmps st.h
def P10_3' (s : Fr10) (t : List AVal) (h : AHeap) : Prop := ∃ i11 w11_0 w11_1 w11_2 i12, t.length = 72 ∧ t[5]? = some (.bool s.t5) ∧ t[6]? = some (.int .i64 s.t6) ∧ t[11]? = some (.ptr i11 0) ∧ h.get i11 = some (.arr [w11_0, .str s.t11.Table, w11_1, .bool s.t11.Grouped, w11_2]) ∧ i11 < h.next ∧ Sl rItem s.t11.Items w11_0 ∧ rCondT s.t11.Where [w11_1] ∧ Sl rGroup s.t11.Groups w11_2 ∧ t[12]? = some (.ptr i12 0) ∧ h.get i12 = some (.arr [.int .i64 s.t12.Code, .int .i64 s.t12.At]) ∧ i12 < h.next ∧ t[46]? = some (.bool s.t46) ∧ i11 ≠ i12
def P10_3 (s : Fr10) (st : ASt) : Prop := P10_3' s st.tmps st.h
def P10_4' (s : Fr10) (t : List AVal) (h : AHeap) : Prop := t.length = 72 ∧ t[5]? = some (.bool s.t5) ∧ t[6]? = some (.int .i64 s.t6) ∧ t[7]? = some (.str s.t7)
def P10_4 (s : Fr10) (st : ASt) : Prop := P10_4' s st.tmps st.h
def P10_5' (s : Fr10) (t : List AVal) (h : AHeap) : Prop := ∃ w8_0, t.length = 72 ∧ t[5]? = some (.bool s.t5) ∧ t[6]? = some (.int .i64 s.t6) ∧ t[7]? = some (.str s.t7) ∧ t[8]? = some w8_0 ∧ Sl rS s.t8 w8_0 ∧ t[9]? = some (.int .i64 s.t9) ∧ t[10]? = some (.int .i64 s.t10)
def P10_5 (s : Fr10) (st : ASt) : Prop := P10_5' s st.tmps st.h
def P10_6' (s : Fr10) (t : List AVal) (h : AHeap) : Prop := ∃ w8_0, t.length = 72 ∧ t[5]? = some (.bool s.t5) ∧ t[6]? = some (.int .i64 s.t6) ∧ t[7]? = some (.str s.t7) ∧ t[8]? = some w8_0 ∧ Sl rS s.t8 w8_0 ∧ t[9]? = some (.int .i64 s.t9) ∧ t[10]? = some (.int .i64 s.t10) ∧ t[29]? = some (.bool s.t29)
def P10_6 (s : Fr10) (st : ASt) : Prop := P10_6' s st.tmps st.h
def P10_7' (s : Fr10) (t : List AVal) (h : AHeap) : Prop := ∃ w8_0, t.length = 72 ∧ t[5]? = some (.bool s.t5) ∧ t[6]? = some (.int .i64 s.t6) ∧ t[7]? = some (.str s.t7) ∧ t[8]? = some w8_0 ∧ Sl rS s.t8 w8_0 ∧ t[9]? = some (.int .i64 s.t9)
def P10_7 (s : Fr10) (st : ASt) : Prop := P10_7' s st.tmps st.h
def P10_8' (s : Fr10) (t : List AVal) (h : AHeap) : Prop := ∃ w8_0, t.length = 72 ∧ t[5]? = some (.bool s.t5) ∧ t[6]? = some (.int .i64 s.t6) ∧ t[7]? = some (.str s.t7) ∧ t[8]? = some w8_0 ∧ Sl rS s.t8 w8_0 ∧ t[9]? = some (.int .i64 s.t9) ∧ t[24]? = some (.bool s.t24)
def P10_8 (s : Fr10) (st : ASt) : Prop := P10_8' s st.tmps st.h
def P10_9' (s : Fr10) (t : List AVal) (h : AHeap) : Prop := ∃ w8_0, t.length = 72 ∧ t[1]? = some (.int .i64 s.t1) ∧ t[5]? = some (.bool s.t5) ∧ t[6]? = some (.int .i64 s.t6) ∧ t[7]? = some (.str s.t7) ∧ t[8]? = some w8_0 ∧ Sl rS s.t8 w8_0
def P10_9 (s : Fr10) (st : ASt) : Prop := P10_9' s st.tmps st.h
def P10_10' (s : Fr10) (t : List AVal) (h : AHeap) : Prop := t.length = 72 ∧ t[1]? = some (.int .i64 s.t1) ∧ t[5]? = some (.bool s.t5) ∧ t[6]? = some (.int .i64 s.t6) ∧ t[7]? = some (.str s.t7)
def P10_10 (s : Fr10) (st : ASt) : Prop := P10_10' s st.tmps st.h
def P10_11' (s : Fr10) (t : List AVal) (h : AHeap) : Prop := t.length = 72 ∧ t[1]? = some (.int .i64 s.t1) ∧ t[5]? = some (.bool s.t5) ∧ t[6]? = some (.int .i64 s.t6)
def P10_11 (s : Fr10) (st : ASt) : Prop := P10_11' s st.tmps st.h
def P10_12' (s : Fr10) (t : List AVal) (h : AHeap) : Prop := t.length = 72 ∧ t[1]? = some (.int .i64 s.t1) ∧ t[5]? = some (.bool s.t5) ∧ t[6]? = some (.int .i64 s.t6) ∧ t[17]? = some (.bool s.t17)
def P10_12 (s : Fr10) (st : ASt) : Prop := P10_12' s st.tmps st.h
def P10_13' (s : Fr10) (t : List AVal) (h : AHeap) : Prop := t.length = 72 ∧ t[0]? = some (.int .i64 s.t0) ∧ t[1]? = some (.int .i64 s.t1) ∧ t[5]? = some (.bool s.t5)
def P10_13 (s : Fr10) (st : ASt) : Prop := P10_13' s st.tmps st.h
def P10_14' (s : Fr10) (t : List AVal) (h : AHeap) : Prop := t.length = 72 ∧ t[0]? = some (.int .i64 s.t0) ∧ t[1]? = some (.int .i64 s.t1)
def P10_14 (s : Fr10) (st : ASt) : Prop := P10_14' s st.tmps st.h
noncomputable def m10_0 : Mo Fr10 := fun s => (cond (s.t5 && (eqFault s.t12 ({ Code := 0, At := 0 }))) ((F21 5000 s.t11.Where).bind fun z5 => some (z5 == (IntKind.wrap .i64 (s.t6 + 1)))) (some false)).bind fun x7 => some (.nrm, { s with t4 := ((s.t5 && (eqFault s.t12 ({ Code := 0, At := 0 }))) && x7) })
noncomputable def m10_1 : Mo Fr10 := fun s => some (.nrm, { s with t4 := ((s.t5 && (eqFault s.t12 ({ Code := 47, At := 0 }))) && s.t11.Where.isNil) })
noncomputable def m10_2 : Mo Fr10 := fun s => some (.nrm, { s with t46 := decide ((IntKind.wrap .i64 (s.t6 + 1)) > 32) })
noncomputable def m10_3 : Mo Fr10 := fun s => (catT s.t7 ([98, 32, 61, 32, 50] : List UInt8)).bind fun z29 => (G12 z29).bind fun z31 => some (.nrm, { s with t11 := z31.1, t12 := z31.2 })
noncomputable def m10_4 : Mo Fr10 := fun s => some (.nrm, { s with t10 := IntKind.wrap .i64 (s.t10 + 1) })
noncomputable def m10_5 : Mo Fr10 := fun s => (at? s.t8 s.t9).bind fun y93 => (catT s.t7 y93).bind fun z95 => some (.nrm, { s with t7 := z95 })
noncomputable def m10_6 : Mo Fr10 := fun s => some (.nrm, { s with t29 := decide (s.t10 < s.t6) })
noncomputable def L10_7 : Mo Fr10 := seqM (seqM (m10_6) (condM (fun s => s.t29) (skipM) (exitM 0))) (seqM (blockM 1 (m10_5)) (m10_4))
noncomputable def m10_8 : Mo Fr10 := fun s => some (.nrm, { s with t10 := 0 })
noncomputable def m10_9 : Mo Fr10 := fun s => some (.nrm, { s with t9 := IntKind.wrap .i64 (0 - s.t9) })
noncomputable def m10_10 : Mo Fr10 := fun s => some (.nrm, { s with t24 := decide (s.t9 < 0) })
noncomputable def m10_11 : Mo Fr10 := fun s => some (.nrm, { s with t9 := s.t1.tmod 3 })
noncomputable def m10_12 : Mo Fr10 := fun s => some (.nrm, { s with t8 := [([78, 79, 84, 32] : List UInt8), ([97, 32, 61, 32, 49, 32, 65, 78, 68, 32] : List UInt8), ([97, 32, 61, 32, 49, 32, 79, 82, 32] : List UInt8)] })
noncomputable def m10_13 : Mo Fr10 := fun s => some (.nrm, { s with t7 := ([83, 69, 76, 69, 67, 84, 32, 67, 79, 85, 78, 84, 40, 42, 41, 32, 70, 82, 79, 77, 32, 102, 97, 99, 116, 115, 32, 87, 72, 69, 82, 69, 32] : List UInt8) })
noncomputable def m10_14 : Mo Fr10 := fun s => some (.nrm, { s with t6 := IntKind.wrap .i64 (0 - s.t6) })
noncomputable def m10_15 : Mo Fr10 := fun s => some (.nrm, { s with t17 := decide (s.t6 < 0) })
noncomputable def m10_16 : Mo Fr10 := fun s => some (.nrm, { s with t6 := s.t0.tmod 61 })
noncomputable def m10_17 : Mo Fr10 := fun s => (S11 ).bind fun z109 => some (.nrm, { s with t5 := z109 })
noncomputable def m10_18 : Mo Fr10 := fun s => some (.nrm, s)
noncomputable def M10 : Mo Fr10 := seqM (m10_18) (seqM (m10_17) (seqM (m10_16) (seqM (seqM (m10_15) (condM (fun s => s.t17) (m10_14) (skipM))) (seqM (m10_13) (seqM (m10_12) (seqM (m10_11) (seqM (seqM (m10_10) (condM (fun s => s.t24) (m10_9) (skipM))) (seqM (seqM (m10_8) (blockM 0 (loopM (L10_7)))) (seqM (m10_3) (seqM (seqM (m10_2) (condM (fun s => s.t46) (seqM (m10_1) (retM)) (skipM))) (seqM (m10_0) (retM))))))))))))
def Spec10 (f : Int → Int → Option Bool) : Prop := ∀ (x0 : Int) (x1 : Int) (r : Bool), f x0 x1 = some r → ∀ h, run Cp 10 [.int .i64 x0, .int .i64 x1] h = some (.ret (.bool r), h)
theorem R10_0 (pe pr) : Ref Cp P10_0 (Cat [true, true, true, true, true, true, true, true, true, true, true, false] (bodyOf Tryz.f10)) m10_0 (post P10_1 pe pr) := by
  rintro s ⟨t, h⟩ hp x s' hm
  obtain ⟨i11, w11_0, w11_1, w11_2, i12, hl, a5, a6, a11, g11, l11, r11_0, r11_1, r11_2, a12, g12, l12, ne11_12⟩ : P10_0' s t h := hp
  unfold m10_0 at hm
  cases hb8 : s.t5 with
  | true =>
    all_goals (
      try simp only [hb8, Zb] at hm
      have k9 : loadA h true 2 (.ptr i12 0) = some (.agg [.int .i64 s.t12.Code, .int .i64 s.t12.At]) := by rw [Heap.load_gen g12 (Nat.le_of_ble_eq_true rfl)]; first | rfl | exact ofc2 _ _ _
      have bd10 : abuild Tryz.prog 30 [] = some (.agg [.int .i64 0, .int .i64 0]) := by simp only [TyU.bu30, List.getElem?_toArray, fillA, Zc, List.length_cons, List.length_nil, setRange, List.set_cons_zero, List.set_cons_succ, Option.bind_eq_bind, Option.bind_some, Nat.zero_add, Nat.reduceAdd, and_self, Nat.reduceLeDiff, if_true, and_true, true_and, Nat.le_refl, Nat.zero_le, List.getElem?_cons_zero, List.getElem?_cons_succ, Option.map_some]
      have k11 : ∀ (xo yo : Operand) (h : AHeap), abin Cp .eql 30 xo yo h (.agg [.int .i64 s.t12.Code, .int .i64 s.t12.At]) (.agg [.int .i64 0, .int .i64 0]) = some (.bool (eqFault s.t12 ({ Code := 0, At := 0 }))) := fun xo yo h => TyU.eqls30 xo yo h s.t12 ({ Code := 0, At := 0 })
      cases hb12 : eqFault s.t12 ({ Code := 0, At := 0 }) with
      | true =>
        all_goals (
          try simp only [hb12, Zb] at hm
          have k13 : loadA h false 1 (.ptr i11 2) = some w11_1 := by rw [Heap.load_gen g11 (Nat.le_of_ble_eq_true rfl)]; first | rfl | exact ofc1 _ _ _
          obtain ⟨z14, hz14, hm⟩ := Option.bind_eq_some_iff.1 hm
          have iu15 := (F21_spec 5000) s.t11.Where _ r11_1 _ hz14
          try simp only [Zb] at hm
          cases hm
          refine ⟨⟨_, _⟩, by simp only [bodyOf, Tryz.f10, Cat, Zs, awanted, aoper, evalO, put, acallOp, abuiltin, Nat.reduceEqDiff, Nat.reduceLT, ofV, ofCell, ↓reduceIte, hl, a5, a6, a11, a12, CP, Bool.not_false, Bool.not_true, k9, TyU.ld30, bd10, k11, TyU.fa27_2, dropCells, Nat.zero_add, Nat.reduceAdd, k13, TyU.ld24, iu15, hb8, hb12]; exact rfl, ?_⟩
          show P10_1 _ _
          exact ⟨by simp [hl], by simp [hl, hb8, hb12]⟩)
      | false =>
        all_goals (
          try simp only [hb12, Zb] at hm
          cases hm
          refine ⟨⟨_, _⟩, by simp only [bodyOf, Tryz.f10, Cat, Zs, awanted, aoper, evalO, put, acallOp, abuiltin, Nat.reduceEqDiff, Nat.reduceLT, ofV, ofCell, ↓reduceIte, hl, a5, a6, a11, a12, CP, Bool.not_false, Bool.not_true, k9, TyU.ld30, bd10, k11, hb8, hb12]; exact rfl, ?_⟩
          show P10_1 _ _
          exact ⟨by simp [hl], by simp [hl, hb8, hb12]⟩))
  | false =>
    all_goals (
      try simp only [hb8, Zb] at hm
      cases hm
      refine ⟨⟨_, _⟩, by simp only [bodyOf, Tryz.f10, Cat, Zs, awanted, aoper, evalO, put, acallOp, abuiltin, Nat.reduceEqDiff, Nat.reduceLT, ofV, ofCell, ↓reduceIte, hl, a5, a6, a11, a12, CP, Bool.not_false, Bool.not_true, hb8]; exact rfl, ?_⟩
      show P10_1 _ _
      exact ⟨by simp [hl], by simp [hl, hb8]⟩)
theorem R10_1 (pe pr) : Ref Cp P10_2 (Cat [true, true, true, true, true, true, true, true, true, true, false, true, false, false] (bodyOf Tryz.f10)) m10_1 (post P10_1 pe pr) := by
  rintro s ⟨t, h⟩ hp x s' hm
  obtain ⟨i11, w11_0, w11_1, w11_2, i12, hl, a5, a11, g11, l11, r11_0, r11_1, r11_2, a12, g12, l12, ne11_12⟩ : P10_2' s t h := hp
  unfold m10_1 at hm
  cases hb20 : s.t5 with
  | true =>
    all_goals (
      try simp only [hb20, Zb] at hm
      have k21 : loadA h true 2 (.ptr i12 0) = some (.agg [.int .i64 s.t12.Code, .int .i64 s.t12.At]) := by rw [Heap.load_gen g12 (Nat.le_of_ble_eq_true rfl)]; first | rfl | exact ofc2 _ _ _
      have bd22 : abuild Tryz.prog 30 [(0, .int .i64 47)] = some (.agg [.int .i64 47, .int .i64 0]) := by simp only [TyU.bu30, List.getElem?_toArray, fillA, Zc, List.length_cons, List.length_nil, setRange, List.set_cons_zero, List.set_cons_succ, Option.bind_eq_bind, Option.bind_some, Nat.zero_add, Nat.reduceAdd, and_self, Nat.reduceLeDiff, if_true, and_true, true_and, Nat.le_refl, Nat.zero_le, List.getElem?_cons_zero, List.getElem?_cons_succ, Option.map_some]
      have k23 : ∀ (xo yo : Operand) (h : AHeap), abin Cp .eql 30 xo yo h (.agg [.int .i64 s.t12.Code, .int .i64 s.t12.At]) (.agg [.int .i64 47, .int .i64 0]) = some (.bool (eqFault s.t12 ({ Code := 47, At := 0 }))) := fun xo yo h => TyU.eqls30 xo yo h s.t12 ({ Code := 47, At := 0 })
      cases hb24 : eqFault s.t12 ({ Code := 47, At := 0 }) with
      | true =>
        all_goals (
          try simp only [hb24, Zb] at hm
          have k25 : loadA h false 1 (.ptr i11 2) = some w11_1 := by rw [Heap.load_gen g11 (Nat.le_of_ble_eq_true rfl)]; first | rfl | exact ofc1 _ _ _
          cases hb26 : s.t11.Where.isNil with
          | true =>
            all_goals (
              try simp only [hb26, Zb] at hm
              obtain ⟨_, qz27⟩ | ⟨qz27, _⟩ := rCondT_nil r11_1
              rotate_left
              · rw [hb26] at qz27; cases qz27
              have z27 : ∀ (xo : Operand) (h : AHeap), abin Cp .eql 24 xo (.const (.pointer none)) h (w11_1) .nilPtr = some (.bool true) := fun xo h => by rw [qz27]; exact TyU.eqn24 xo h
              cases hm
              refine ⟨⟨_, _⟩, by simp only [bodyOf, Tryz.f10, Cat, Zs, awanted, aoper, evalO, put, acallOp, abuiltin, Nat.reduceEqDiff, Nat.reduceLT, ofV, ofCell, ↓reduceIte, hl, a5, a11, a12, CP, Bool.not_false, Bool.not_true, k21, TyU.ld30, bd22, k23, TyU.fa27_2, dropCells, Nat.zero_add, Nat.reduceAdd, k25, TyU.ld24, z27, hb20, hb24, hb26]; exact rfl, ?_⟩
              show P10_1 _ _
              exact ⟨by simp [hl], by simp [hl, hb20, hb24, hb26]⟩)
          | false =>
            all_goals (
              try simp only [hb26, Zb] at hm
              obtain ⟨qz28, _⟩ | ⟨_, csz28, qz28⟩ := rCondT_nil r11_1
              · rw [hb26] at qz28; cases qz28
              have z28 : ∀ (xo yo : Operand) (h : AHeap), abin Cp .eql 24 xo yo h (w11_1) .nilPtr = some (.bool false) := fun xo yo h => by rw [qz28]; exact TyU.eqp24 xo yo h _
              clear qz28
              cases hm
              refine ⟨⟨_, _⟩, by simp only [bodyOf, Tryz.f10, Cat, Zs, awanted, aoper, evalO, put, acallOp, abuiltin, Nat.reduceEqDiff, Nat.reduceLT, ofV, ofCell, ↓reduceIte, hl, a5, a11, a12, CP, Bool.not_false, Bool.not_true, k21, TyU.ld30, bd22, k23, TyU.fa27_2, dropCells, Nat.zero_add, Nat.reduceAdd, k25, TyU.ld24, z28, hb20, hb24, hb26]; exact rfl, ?_⟩
              show P10_1 _ _
              exact ⟨by simp [hl], by simp [hl, hb20, hb24, hb26]⟩))
      | false =>
        all_goals (
          try simp only [hb24, Zb] at hm
          cases hm
          refine ⟨⟨_, _⟩, by simp only [bodyOf, Tryz.f10, Cat, Zs, awanted, aoper, evalO, put, acallOp, abuiltin, Nat.reduceEqDiff, Nat.reduceLT, ofV, ofCell, ↓reduceIte, hl, a5, a11, a12, CP, Bool.not_false, Bool.not_true, k21, TyU.ld30, bd22, k23, hb20, hb24]; exact rfl, ?_⟩
          show P10_1 _ _
          exact ⟨by simp [hl], by simp [hl, hb20, hb24]⟩))
  | false =>
    all_goals (
      try simp only [hb20, Zb] at hm
      cases hm
      refine ⟨⟨_, _⟩, by simp only [bodyOf, Tryz.f10, Cat, Zs, awanted, aoper, evalO, put, acallOp, abuiltin, Nat.reduceEqDiff, Nat.reduceLT, ofV, ofCell, ↓reduceIte, hl, a5, a11, a12, CP, Bool.not_false, Bool.not_true, hb20]; exact rfl, ?_⟩
      show P10_1 _ _
      exact ⟨by simp [hl], by simp [hl, hb20]⟩)
theorem R10_2 (pe pr) : Ref Cp P10_0 (Cat [true, true, true, true, true, true, true, true, true, true, false, false] (bodyOf Tryz.f10)) m10_2 (post P10_3 pe pr) := by
  rintro s ⟨t, h⟩ hp x s' hm
  obtain ⟨i11, w11_0, w11_1, w11_2, i12, hl, a5, a6, a11, g11, l11, r11_0, r11_1, r11_2, a12, g12, l12, ne11_12⟩ : P10_0' s t h := hp
  unfold m10_2 at hm
  cases hm
  refine ⟨⟨_, _⟩, by simp only [bodyOf, Tryz.f10, Cat, Zs, awanted, aoper, evalO, put, acallOp, abuiltin, Nat.reduceEqDiff, Nat.reduceLT, ofV, ofCell, ↓reduceIte, hl, a5, a6, a11, a12, CP, Bool.not_false, Bool.not_true]; exact rfl, ?_⟩
  show P10_3 _ _
  exact ⟨i11, w11_0, w11_1, w11_2, i12, by simp [hl], by simp [a5], by simp [a6], by simp [a11], g11, l11, r11_0, r11_1, r11_2, by simp [a12], g12, l12, by simp [hl], ne11_12⟩
theorem R10_3 (pe pr) : Ref Cp P10_4 (Cat [true, true, true, true, true, true, true, true, true, false] (bodyOf Tryz.f10)) m10_3 (post P10_0 pe pr) := by
  rintro s ⟨t, h⟩ hp x s' hm
  obtain ⟨hl, a5, a6, a7⟩ : P10_4' s t h := hp
  unfold m10_3 at hm
  obtain ⟨z61, hz61, hm⟩ := Option.bind_eq_some_iff.1 hm
  have iu62 := cat_v (C := Cp) hz61
  obtain ⟨z63, hz63, hm⟩ := Option.bind_eq_some_iff.1 hm
  obtain ⟨bu64a_0, bu64a_1, bu64a_2, gu64a_0, gu64a_1, gu64a_2, iu64⟩ := G12_spec z61  _ hz63
  obtain ⟨H65, eH65⟩ : ∃ x : AHeap, x = h.new (.arr [.nilSl, .str [], .nilPtr, .bool false, .nilSl]) := ⟨_, rfl⟩
  obtain ⟨id66, eid66⟩ : ∃ x : Nat, x = h.next := ⟨_, rfl⟩
  have k67 : H65.get id66 = some (.arr [.nilSl, .str [], .nilPtr, .bool false, .nilSl]) := by rw [eH65, eid66]; exact Heap.get_new_eq
  have k68 : id66 < H65.next := by rw [eH65, eid66, Heap.new_next]; exact Nat.lt_succ_self _
  have k69 : abox h (.agg [.nilSl, .str [], .nilPtr, .bool false, .nilSl]) = some (.ptr id66 0, H65) := by simp only [abox, eH65, eid66, Zc, if_true]
  obtain ⟨H70, eH70⟩ : ∃ x : AHeap, x = H65.new (.arr [.int .i64 0, .int .i64 0]) := ⟨_, rfl⟩
  obtain ⟨id71, eid71⟩ : ∃ x : Nat, x = H65.next := ⟨_, rfl⟩
  have k72 := gnl eH70 k68 k67
  have k73 : id66 < H70.next := by rw [eH70, Heap.new_next]; exact Nat.lt_succ_of_lt k68
  have k74 : H70.get id71 = some (.arr [.int .i64 0, .int .i64 0]) := by rw [eH70, eid71]; exact Heap.get_new_eq
  have k75 : id71 < H70.next := by rw [eH70, eid71, Heap.new_next]; exact Nat.lt_succ_self _
  have k76 : id66 ≠ id71 := by rw [eid71]; exact Nat.ne_of_lt k68
  have k77 : abox H65 (.agg [.int .i64 0, .int .i64 0]) = some (.ptr id71 0, H70) := by simp only [abox, eH70, eid71, Zc, if_true]
  have ic78 : (bu64a_0 : AVal).isCell = true := Sl.isCell gu64a_0
  have ic79 : (bu64a_1 : AVal).isCell = true := rCondT_cell gu64a_1
  have ic80 : (bu64a_2 : AVal).isCell = true := Sl.isCell gu64a_2
  obtain ⟨H81, eH81⟩ : ∃ x : AHeap, x = H70.set id66 (some (.arr [bu64a_0, .str z63.1.Table, bu64a_1, .bool z63.1.Grouped, bu64a_2])) := ⟨_, rfl⟩
  have k82 : storeA H70 5 (.ptr id66 0) (.agg [bu64a_0, .str z63.1.Table, bu64a_1, .bool z63.1.Grouped, bu64a_2]) = some H81 := by rw [eH81]; exact Heap.store_gen k72 (show (.agg [bu64a_0, .str z63.1.Table, bu64a_1, .bool z63.1.Grouped, bu64a_2] : AVal).cells = [bu64a_0, .str z63.1.Table, bu64a_1, .bool z63.1.Grouped, bu64a_2] by simp only [Zc, ic78, bx_c ic78, cl_c ic78, ic79, bx_c ic79, cl_c ic79, ic80, bx_c ic80, cl_c ic80]) rfl (by simp only [Zc, ic78, bx_c ic78, cl_c ic78, ic79, bx_c ic79, cl_c ic79, ic80, bx_c ic80, cl_c ic80]) (Nat.le_of_ble_eq_true rfl) rfl
  have k83 := gsn eH81 (Ne.symm k76) k74
  have k84 := nxs eH81 k75
  have k85 := gse eH81
  have k86 := nxs eH81 k73
  obtain ⟨H87, eH87⟩ : ∃ x : AHeap, x = H81.set id71 (some (.arr [.int .i64 z63.2.Code, .int .i64 z63.2.At])) := ⟨_, rfl⟩
  have k88 : storeA H81 2 (.ptr id71 0) (.agg [.int .i64 z63.2.Code, .int .i64 z63.2.At]) = some H87 := by rw [eH87]; exact Heap.store_gen k83 (show (.agg [.int .i64 z63.2.Code, .int .i64 z63.2.At] : AVal).cells = [.int .i64 z63.2.Code, .int .i64 z63.2.At] by simp only [Zc]) rfl (by simp only [Zc]) (Nat.le_of_ble_eq_true rfl) rfl
  have k89 := gsn eH87 k76 k85
  have k90 := nxs eH87 k86
  have k91 := gse eH87
  have k92 := nxs eH87 k84
  cases hm
  refine ⟨⟨_, _⟩, by simp only [bodyOf, Tryz.f10, Cat, Zs, awanted, aoper, evalO, put, acallOp, abuiltin, Nat.reduceEqDiff, Nat.reduceLT, ofV, ofCell, ↓reduceIte, hl, a5, a6, a7, CP, Bool.not_false, Bool.not_true, iu62, iu64, TyU.ze27, TyU.own_law_go_158, k69, TyU.ze30, k77, k82, TyU.st27, k88, TyU.st30]; exact rfl, ?_⟩
  show P10_0 _ _
  exact ⟨id66, bu64a_0, bu64a_1, bu64a_2, id71, by simp [hl], by simp [a5], by simp [a6], by simp [hl], k89, k90, gu64a_0, gu64a_1, gu64a_2, by simp [hl], k91, k92, k76⟩
theorem R10_4 (pe pr) : Ref Cp P10_5 (Cat [true, true, true, true, true, true, true, true, false, true, true, true, true, true] (bodyOf Tryz.f10)) m10_4 (post P10_5 pe pr) := by
  rintro s ⟨t, h⟩ hp x s' hm
  obtain ⟨w8_0, hl, a5, a6, a7, a8, r8_0, a9, a10⟩ : P10_5' s t h := hp
  unfold m10_4 at hm
  cases hm
  refine ⟨⟨_, _⟩, by simp only [bodyOf, Tryz.f10, Cat, Zs, awanted, aoper, evalO, put, acallOp, abuiltin, Nat.reduceEqDiff, Nat.reduceLT, ofV, ofCell, ↓reduceIte, hl, a5, a6, a7, a8, a9, a10, CP, Bool.not_false, Bool.not_true]; exact rfl, ?_⟩
  show P10_5 _ _
  exact ⟨w8_0, by simp [hl], by simp [a5], by simp [a6], by simp [a7], by simp [a8], r8_0, by simp [a9], by simp [hl]⟩
theorem R10_5 (pe pr) : Ref Cp P10_5 (Cat [true, true, true, true, true, true, true, true, false, true, true, true, true, false, true] (bodyOf Tryz.f10)) m10_5 (post P10_5 pe pr) := by
  rintro s ⟨t, h⟩ hp x s' hm
  obtain ⟨w8_0, hl, a5, a6, a7, a8, r8_0, a9, a10⟩ : P10_5' s t h := hp
  unfold m10_5 at hm
  obtain ⟨y97, hy97, hm⟩ := Option.bind_eq_some_iff.1 hm
  obtain ⟨cu98, du98, eu98, iu98, _⟩ := Sl.ix rS_p r8_0 hy97
  subst eu98
  obtain ⟨z99, hz99, hm⟩ := Option.bind_eq_some_iff.1 hm
  have iu100 := cat_v (C := Cp) hz99
  cases hm
  refine ⟨⟨_, _⟩, by simp only [bodyOf, Tryz.f10, Cat, Zs, awanted, aoper, evalO, put, acallOp, abuiltin, Nat.reduceEqDiff, Nat.reduceLT, ofV, ofCell, ↓reduceIte, hl, a5, a6, a7, a8, a9, a10, CP, Bool.not_false, Bool.not_true, TyU.ix52, iu98, TyU.ld9, ld_ip, ofc1, List.drop_succ_cons, List.drop_zero, iu100]; exact rfl, ?_⟩
  show P10_5 _ _
  exact ⟨w8_0, by simp [hl], by simp [a5], by simp [a6], by simp [hl], by simp [a8], r8_0, by simp [a9], by simp [a10]⟩
theorem R10_6 (pe pr) : Ref Cp P10_5 (Cat [true, true, true, true, true, true, true, true, false, true, true, true, false, false] (bodyOf Tryz.f10)) m10_6 (post P10_6 pe pr) := by
  rintro s ⟨t, h⟩ hp x s' hm
  obtain ⟨w8_0, hl, a5, a6, a7, a8, r8_0, a9, a10⟩ : P10_5' s t h := hp
  unfold m10_6 at hm
  cases hm
  refine ⟨⟨_, _⟩, by simp only [bodyOf, Tryz.f10, Cat, Zs, awanted, aoper, evalO, put, acallOp, abuiltin, Nat.reduceEqDiff, Nat.reduceLT, ofV, ofCell, ↓reduceIte, hl, a5, a6, a7, a8, a9, a10, CP, Bool.not_false, Bool.not_true]; exact rfl, ?_⟩
  show P10_6 _ _
  exact ⟨w8_0, by simp [hl], by simp [a5], by simp [a6], by simp [a7], by simp [a8], r8_0, by simp [a9], by simp [a10], by simp [hl]⟩
theorem R10_8 (pe pr) : Ref Cp P10_7 (Cat [true, true, true, true, true, true, true, true, false, false] (bodyOf Tryz.f10)) m10_8 (post P10_5 pe pr) := by
  rintro s ⟨t, h⟩ hp x s' hm
  obtain ⟨w8_0, hl, a5, a6, a7, a8, r8_0, a9⟩ : P10_7' s t h := hp
  unfold m10_8 at hm
  cases hm
  refine ⟨⟨_, _⟩, by simp only [bodyOf, Tryz.f10, Cat, Zs, awanted, aoper, evalO, put, acallOp, abuiltin, Nat.reduceEqDiff, Nat.reduceLT, ofV, ofCell, ↓reduceIte, hl, a5, a6, a7, a8, a9, CP, Bool.not_false, Bool.not_true]; exact rfl, ?_⟩
  show P10_5 _ _
  exact ⟨w8_0, by simp [hl], by simp [a5], by simp [a6], by simp [a7], by simp [a8], r8_0, by simp [a9], by simp [hl]⟩
theorem R10_9 (pe pr) : Ref Cp P10_7 (Cat [true, true, true, true, true, true, true, false, true, false] (bodyOf Tryz.f10)) m10_9 (post P10_7 pe pr) := by
  rintro s ⟨t, h⟩ hp x s' hm
  obtain ⟨w8_0, hl, a5, a6, a7, a8, r8_0, a9⟩ : P10_7' s t h := hp
  unfold m10_9 at hm
  cases hm
  refine ⟨⟨_, _⟩, by simp only [bodyOf, Tryz.f10, Cat, Zs, awanted, aoper, evalO, put, acallOp, abuiltin, Nat.reduceEqDiff, Nat.reduceLT, ofV, ofCell, ↓reduceIte, hl, a5, a6, a7, a8, a9, CP, Bool.not_false, Bool.not_true, aun_neg]; exact rfl, ?_⟩
  show P10_7 _ _
  exact ⟨w8_0, by simp [hl], by simp [a5], by simp [a6], by simp [a7], by simp [a8], r8_0, by simp [hl]⟩
theorem R10_10 (pe pr) : Ref Cp P10_7 (Cat [true, true, true, true, true, true, true, false, false] (bodyOf Tryz.f10)) m10_10 (post P10_8 pe pr) := by
  rintro s ⟨t, h⟩ hp x s' hm
  obtain ⟨w8_0, hl, a5, a6, a7, a8, r8_0, a9⟩ : P10_7' s t h := hp
  unfold m10_10 at hm
  cases hm
  refine ⟨⟨_, _⟩, by simp only [bodyOf, Tryz.f10, Cat, Zs, awanted, aoper, evalO, put, acallOp, abuiltin, Nat.reduceEqDiff, Nat.reduceLT, ofV, ofCell, ↓reduceIte, hl, a5, a6, a7, a8, a9, CP, Bool.not_false, Bool.not_true]; exact rfl, ?_⟩
  show P10_8 _ _
  exact ⟨w8_0, by simp [hl], by simp [a5], by simp [a6], by simp [a7], by simp [a8], r8_0, by simp [a9], by simp [hl]⟩
theorem R10_11 (pe pr) : Ref Cp P10_9 (Cat [true, true, true, true, true, true, false] (bodyOf Tryz.f10)) m10_11 (post P10_7 pe pr) := by
  rintro s ⟨t, h⟩ hp x s' hm
  obtain ⟨w8_0, hl, a1, a5, a6, a7, a8, r8_0⟩ : P10_9' s t h := hp
  unfold m10_11 at hm
  cases hm
  refine ⟨⟨_, _⟩, by simp only [bodyOf, Tryz.f10, Cat, Zs, awanted, aoper, evalO, put, acallOp, abuiltin, Nat.reduceEqDiff, Nat.reduceLT, ofV, ofCell, ↓reduceIte, hl, a1, a5, a6, a7, a8, CP, Bool.not_false, Bool.not_true, rem_c (show (3 : Int) ≠ 0 by decide)]; exact rfl, ?_⟩
  show P10_7 _ _
  exact ⟨w8_0, by simp [hl], by simp [a5], by simp [a6], by simp [a7], by simp [a8], r8_0, by simp [hl]⟩
theorem R10_12 (pe pr) : Ref Cp P10_10 (Cat [true, true, true, true, true, false] (bodyOf Tryz.f10)) m10_12 (post P10_9 pe pr) := by
  rintro s ⟨t, h⟩ hp x s' hm
  obtain ⟨hl, a1, a5, a6, a7⟩ : P10_10' s t h := hp
  unfold m10_12 at hm
  have bd105 : abuildSlice Tryz.prog 52 3 [(0, .str ([78, 79, 84, 32] : List UInt8)), (1, .str ([97, 32, 61, 32, 49, 32, 65, 78, 68, 32] : List UInt8)), (2, .str ([97, 32, 61, 32, 49, 32, 79, 82, 32] : List UInt8))] = some ([.str ([78, 79, 84, 32] : List UInt8), .str ([97, 32, 61, 32, 49, 32, 65, 78, 68, 32] : List UInt8), .str ([97, 32, 61, 32, 49, 32, 79, 82, 32] : List UInt8)], 1) := by kernel_rfl
  have bs106 : Els rS [([78, 79, 84, 32] : List UInt8), ([97, 32, 61, 32, 49, 32, 65, 78, 68, 32] : List UInt8), ([97, 32, 61, 32, 49, 32, 79, 82, 32] : List UInt8)] [[.str ([78, 79, 84, 32] : List UInt8)], [.str ([97, 32, 61, 32, 49, 32, 65, 78, 68, 32] : List UInt8)], [.str ([97, 32, 61, 32, 49, 32, 79, 82, 32] : List UInt8)]] := (Els.cons rfl (Els.cons rfl (Els.cons rfl Els.nil)))
  have sl107 : Sl rS [([78, 79, 84, 32] : List UInt8), ([97, 32, 61, 32, 49, 32, 65, 78, 68, 32] : List UInt8), ([97, 32, 61, 32, 49, 32, 79, 82, 32] : List UInt8)] (.lst [.str ([78, 79, 84, 32] : List UInt8), .str ([97, 32, 61, 32, 49, 32, 65, 78, 68, 32] : List UInt8), .str ([97, 32, 61, 32, 49, 32, 79, 82, 32] : List UInt8)] 3 .full) := Sl.lst .full bs106
  have gr108 : ∀ h, Gr rS 1 [([78, 79, 84, 32] : List UInt8), ([97, 32, 61, 32, 49, 32, 65, 78, 68, 32] : List UInt8), ([97, 32, 61, 32, 49, 32, 79, 82, 32] : List UInt8)] (.lst [.str ([78, 79, 84, 32] : List UInt8), .str ([97, 32, 61, 32, 49, 32, 65, 78, 68, 32] : List UInt8), .str ([97, 32, 61, 32, 49, 32, 79, 82, 32] : List UInt8)] 3 .full) h := fun h => Gr.full bs106 h
  cases hm
  refine ⟨⟨_, _⟩, by simp only [bodyOf, Tryz.f10, Cat, Zs, awanted, aoper, evalO, put, acallOp, abuiltin, Nat.reduceEqDiff, Nat.reduceLT, ofV, ofCell, ↓reduceIte, hl, a1, a5, a6, a7, CP, Bool.not_false, Bool.not_true, bd105, TyU.own_law_go_150]; exact rfl, ?_⟩
  show P10_9 _ _
  exact ⟨(.lst [.str ([78, 79, 84, 32] : List UInt8), .str ([97, 32, 61, 32, 49, 32, 65, 78, 68, 32] : List UInt8), .str ([97, 32, 61, 32, 49, 32, 79, 82, 32] : List UInt8)] 3 .full : AVal), by simp [hl], by simp [a1], by simp [a5], by simp [a6], by simp [a7], by simp [hl], sl107⟩
theorem R10_13 (pe pr) : Ref Cp P10_11 (Cat [true, true, true, true, false] (bodyOf Tryz.f10)) m10_13 (post P10_10 pe pr) := by
  rintro s ⟨t, h⟩ hp x s' hm
  obtain ⟨hl, a1, a5, a6⟩ : P10_11' s t h := hp
  unfold m10_13 at hm
  cases hm
  refine ⟨⟨_, _⟩, by simp only [bodyOf, Tryz.f10, Cat, Zs, awanted, aoper, evalO, put, acallOp, abuiltin, Nat.reduceEqDiff, Nat.reduceLT, ofV, ofCell, ↓reduceIte, hl, a1, a5, a6, CP, Bool.not_false, Bool.not_true]; exact rfl, ?_⟩
  show P10_10 _ _
  exact ⟨by simp [hl], by simp [a1], by simp [a5], by simp [a6], by simp [hl]⟩
theorem R10_14 (pe pr) : Ref Cp P10_11 (Cat [true, true, true, false, true, false] (bodyOf Tryz.f10)) m10_14 (post P10_11 pe pr) := by
  rintro s ⟨t, h⟩ hp x s' hm
  obtain ⟨hl, a1, a5, a6⟩ : P10_11' s t h := hp
  unfold m10_14 at hm
  cases hm
  refine ⟨⟨_, _⟩, by simp only [bodyOf, Tryz.f10, Cat, Zs, awanted, aoper, evalO, put, acallOp, abuiltin, Nat.reduceEqDiff, Nat.reduceLT, ofV, ofCell, ↓reduceIte, hl, a1, a5, a6, CP, Bool.not_false, Bool.not_true, aun_neg]; exact rfl, ?_⟩
  show P10_11 _ _
  exact ⟨by simp [hl], by simp [a1], by simp [a5], by simp [hl]⟩
theorem R10_15 (pe pr) : Ref Cp P10_11 (Cat [true, true, true, false, false] (bodyOf Tryz.f10)) m10_15 (post P10_12 pe pr) := by
  rintro s ⟨t, h⟩ hp x s' hm
  obtain ⟨hl, a1, a5, a6⟩ : P10_11' s t h := hp
  unfold m10_15 at hm
  cases hm
  refine ⟨⟨_, _⟩, by simp only [bodyOf, Tryz.f10, Cat, Zs, awanted, aoper, evalO, put, acallOp, abuiltin, Nat.reduceEqDiff, Nat.reduceLT, ofV, ofCell, ↓reduceIte, hl, a1, a5, a6, CP, Bool.not_false, Bool.not_true]; exact rfl, ?_⟩
  show P10_12 _ _
  exact ⟨by simp [hl], by simp [a1], by simp [a5], by simp [a6], by simp [hl]⟩
theorem R10_16 (pe pr) : Ref Cp P10_13 (Cat [true, true, false] (bodyOf Tryz.f10)) m10_16 (post P10_11 pe pr) := by
  rintro s ⟨t, h⟩ hp x s' hm
  obtain ⟨hl, a0, a1, a5⟩ : P10_13' s t h := hp
  unfold m10_16 at hm
  cases hm
  refine ⟨⟨_, _⟩, by simp only [bodyOf, Tryz.f10, Cat, Zs, awanted, aoper, evalO, put, acallOp, abuiltin, Nat.reduceEqDiff, Nat.reduceLT, ofV, ofCell, ↓reduceIte, hl, a0, a1, a5, CP, Bool.not_false, Bool.not_true, rem_c (show (61 : Int) ≠ 0 by decide)]; exact rfl, ?_⟩
  show P10_11 _ _
  exact ⟨by simp [hl], by simp [a1], by simp [a5], by simp [hl]⟩
theorem R10_17 (pe pr) : Ref Cp P10_14 (Cat [true, false] (bodyOf Tryz.f10)) m10_17 (post P10_13 pe pr) := by
  rintro s ⟨t, h⟩ hp x s' hm
  obtain ⟨hl, a0, a1⟩ : P10_14' s t h := hp
  unfold m10_17 at hm
  obtain ⟨z111, hz111, hm⟩ := Option.bind_eq_some_iff.1 hm
  have iu112 := S11_spec   _ hz111
  cases hm
  refine ⟨⟨_, _⟩, by simp only [bodyOf, Tryz.f10, Cat, Zs, awanted, aoper, evalO, put, acallOp, abuiltin, Nat.reduceEqDiff, Nat.reduceLT, ofV, ofCell, ↓reduceIte, hl, a0, a1, CP, Bool.not_false, Bool.not_true, iu112]; exact rfl, ?_⟩
  show P10_13 _ _
  exact ⟨by simp [hl], by simp [a0], by simp [a1], by simp [hl]⟩
theorem R10_18 (pe pr) : Ref Cp P10_14 (Cat [false] (bodyOf Tryz.f10)) m10_18 (post P10_14 pe pr) := by
  rintro s ⟨t, h⟩ hp x s' hm
  obtain ⟨hl, a0, a1⟩ : P10_14' s t h := hp
  unfold m10_18 at hm
  cases hm
  refine ⟨⟨_, _⟩, by simp only [bodyOf, Tryz.f10, Cat, Zs, awanted, aoper, evalO, put, acallOp, abuiltin, Nat.reduceEqDiff, Nat.reduceLT, ofV, ofCell, ↓reduceIte, hl, a0, a1, CP, Bool.not_false, Bool.not_true]; exact rfl, ?_⟩
  show P10_14 _ _
  exact ⟨by simp [hl], by simp [a0], by simp [a1]⟩
theorem B10 : Ref Cp P10_14 (bodyOf Tryz.f10) (M10) (post P10_1 (fun _ _ _ => False) P10_1) := by
  rw [show bodyOf Tryz.f10 = .seq (Cat [false] (bodyOf Tryz.f10)) (.seq (Cat [true, false] (bodyOf Tryz.f10)) (.seq (Cat [true, true, false] (bodyOf Tryz.f10)) (.seq (.seq (Cat [true, true, true, false, false] (bodyOf Tryz.f10)) (.cond (.tmp 17) (Cat [true, true, true, false, true, false] (bodyOf Tryz.f10)) (.skip))) (.seq (Cat [true, true, true, true, false] (bodyOf Tryz.f10)) (.seq (Cat [true, true, true, true, true, false] (bodyOf Tryz.f10)) (.seq (Cat [true, true, true, true, true, true, false] (bodyOf Tryz.f10)) (.seq (.seq (Cat [true, true, true, true, true, true, true, false, false] (bodyOf Tryz.f10)) (.cond (.tmp 24) (Cat [true, true, true, true, true, true, true, false, true, false] (bodyOf Tryz.f10)) (.skip))) (.seq (.seq (Cat [true, true, true, true, true, true, true, true, false, false] (bodyOf Tryz.f10)) (.block 0 (.loop (.seq (.seq (Cat [true, true, true, true, true, true, true, true, false, true, true, true, false, false] (bodyOf Tryz.f10)) (.cond (.tmp 29) (.skip) (.exit 0))) (.seq (.block 1 (Cat [true, true, true, true, true, true, true, true, false, true, true, true, true, false, true] (bodyOf Tryz.f10))) (Cat [true, true, true, true, true, true, true, true, false, true, true, true, true, true] (bodyOf Tryz.f10))))))) (.seq (Cat [true, true, true, true, true, true, true, true, true, false] (bodyOf Tryz.f10)) (.seq (.seq (Cat [true, true, true, true, true, true, true, true, true, true, false, false] (bodyOf Tryz.f10)) (.cond (.tmp 46) (.seq (Cat [true, true, true, true, true, true, true, true, true, true, false, true, false, false] (bodyOf Tryz.f10)) (.ret)) (.skip))) (.seq (Cat [true, true, true, true, true, true, true, true, true, true, true, false] (bodyOf Tryz.f10)) (.ret)))))))))))) from rfl]
  unfold M10
  exact ref_seq (R10_18 _ _) (ref_seq (R10_17 _ _) (ref_seq (R10_16 _ _) (ref_seq (ref_seq (R10_15 _ _) (ref_cond (P := P10_12) (c := fun s => s.t17) (fun s st hp => by obtain ⟨hl, a1, a5, a6, a17⟩ := (hp : P10_12' s st.tmps st.h); simp only [evalO, a17, Option.getD_some]) (ref_weak (P' := P10_11) (fun s st hp => by obtain ⟨hl, a1, a5, a6, a17⟩ := (hp : P10_12' s st.tmps st.h); exact (⟨hl, a1, a5, a6⟩ : P10_11' s st.tmps st.h)) (R10_14 _ _)) (ref_weak (P' := P10_11) (fun s st hp => by obtain ⟨hl, a1, a5, a6, a17⟩ := (hp : P10_12' s st.tmps st.h); exact (⟨hl, a1, a5, a6⟩ : P10_11' s st.tmps st.h)) (ref_skip (fun s st hp => hp))))) (ref_seq (R10_13 _ _) (ref_seq (R10_12 _ _) (ref_seq (R10_11 _ _) (ref_seq (ref_seq (R10_10 _ _) (ref_cond (P := P10_8) (c := fun s => s.t24) (fun s st hp => by obtain ⟨w8_0, hl, a5, a6, a7, a8, r8_0, a9, a24⟩ := (hp : P10_8' s st.tmps st.h); simp only [evalO, a24, Option.getD_some]) (ref_weak (P' := P10_7) (fun s st hp => by obtain ⟨w8_0, hl, a5, a6, a7, a8, r8_0, a9, a24⟩ := (hp : P10_8' s st.tmps st.h); exact (⟨w8_0, hl, a5, a6, a7, a8, r8_0, a9⟩ : P10_7' s st.tmps st.h)) (R10_9 _ _)) (ref_weak (P' := P10_7) (fun s st hp => by obtain ⟨w8_0, hl, a5, a6, a7, a8, r8_0, a9, a24⟩ := (hp : P10_8' s st.tmps st.h); exact (⟨w8_0, hl, a5, a6, a7, a8, r8_0, a9⟩ : P10_7' s st.tmps st.h)) (ref_skip (fun s st hp => hp))))) (ref_seq (ref_seq (R10_8 _ _) (ref_block (ref_loop (P := P10_5) (ref_weak (P' := P10_5) (fun s st hp => hp) (ref_seq (ref_seq (R10_6 _ _) (ref_cond (P := P10_6) (c := fun s => s.t29) (fun s st hp => by obtain ⟨w8_0, hl, a5, a6, a7, a8, r8_0, a9, a10, a29⟩ := (hp : P10_6' s st.tmps st.h); simp only [evalO, a29, Option.getD_some]) (ref_weak (P' := P10_5) (fun s st hp => by obtain ⟨w8_0, hl, a5, a6, a7, a8, r8_0, a9, a10, a29⟩ := (hp : P10_6' s st.tmps st.h); exact (⟨w8_0, hl, a5, a6, a7, a8, r8_0, a9, a10⟩ : P10_5' s st.tmps st.h)) (ref_skip (fun s st hp => hp))) (ref_weak (P' := P10_4) (fun s st hp => by obtain ⟨w8_0, hl, a5, a6, a7, a8, r8_0, a9, a10, a29⟩ := (hp : P10_6' s st.tmps st.h); exact (⟨hl, a5, a6, a7⟩ : P10_4' s st.tmps st.h)) (ref_exit (fun s st hp => hp))))) (ref_seq (ref_block (R10_5 _ _)) (R10_4 _ _))))))) (ref_seq (R10_3 _ _) (ref_seq (ref_seq (R10_2 _ _) (ref_cond (P := P10_3) (c := fun s => s.t46) (fun s st hp => by obtain ⟨i11, w11_0, w11_1, w11_2, i12, hl, a5, a6, a11, g11, l11, r11_0, r11_1, r11_2, a12, g12, l12, a46, ne11_12⟩ := (hp : P10_3' s st.tmps st.h); simp only [evalO, a46, Option.getD_some]) (ref_weak (P' := P10_2) (fun s st hp => by obtain ⟨i11, w11_0, w11_1, w11_2, i12, hl, a5, a6, a11, g11, l11, r11_0, r11_1, r11_2, a12, g12, l12, a46, ne11_12⟩ := (hp : P10_3' s st.tmps st.h); exact (⟨i11, w11_0, w11_1, w11_2, i12, hl, a5, a11, g11, l11, r11_0, r11_1, r11_2, a12, g12, l12, ne11_12⟩ : P10_2' s st.tmps st.h)) (ref_seq (R10_1 _ _) (ref_ret (fun s st hp => hp)))) (ref_weak (P' := P10_0) (fun s st hp => by obtain ⟨i11, w11_0, w11_1, w11_2, i12, hl, a5, a6, a11, g11, l11, r11_0, r11_1, r11_2, a12, g12, l12, a46, ne11_12⟩ := (hp : P10_3' s st.tmps st.h); exact (⟨i11, w11_0, w11_1, w11_2, i12, hl, a5, a6, a11, g11, l11, r11_0, r11_1, r11_2, a12, g12, l12, ne11_12⟩ : P10_0' s st.tmps st.h)) (ref_skip (fun s st hp => hp))))) (ref_seq (R10_0 _ _) (ref_ret (fun s st hp => hp)))))))))))))
noncomputable def G10 (x0 : Int) (x1 : Int) : Option Bool := match M10 { (default : Fr10) with t0 := x0, t1 := x1 } with
  | some (.nrm, s) => some s.t4
  | some (.ret, s) => some s.t4
  | _ => none
theorem G10_spec : Spec10 (G10) := by
  intro x0 x1 r hr
  unfold G10 at hr
  cases hm : M10 { (default : Fr10) with t0 := x0, t1 := x1 } with
  | none => rw [hm] at hr; cases hr
  | some q =>
    obtain ⟨x, s⟩ := q
    rw [hm] at hr
    have hx : x = .nrm ∨ x = .ret := by cases x <;> first | exact .inl rfl | exact .inr rfl | cases hr
    have hr : s.t4 = r := by cases x <;> first | exact Option.some.inj hr | cases hr
    subst hr
    have hp0 : P10_14' ({ (default : Fr10) with t0 := x0, t1 := x1 }) (slots Tryz.f10 (stripL [.int .i64 x0, .int .i64 x1])) bare := ⟨rfl, rfl, rfl⟩
    obtain ⟨v, hR, hrun⟩ := run_of_ref (C := Cp) (f := 10) (fn := Tryz.f10) Tryz.func10 rfl rfl rfl rfl (args := [.int .i64 x0, .int .i64 x1]) (by simp only [refsL, refs, List.append_nil]) (B10) (s0 := { (default : Fr10) with t0 := x0, t1 := x1 }) hp0 hm hx (R := fun v => v = .bool s.t4) (by
      have key : ∀ st : ASt, P10_1 s st → ∃ vs v, aresults Cp Tryz.f10.results.toList st = some vs ∧ Nrm [] st.h (packRes vs) v ∧ (fun v => v = .bool s.t4) v := by
        intro st hp
        obtain ⟨hl, a4⟩ := (hp : P10_1' s st.tmps st.h)
        exact ⟨[.bool s.t4], _, by simp only [show Tryz.f10.results.toList = [ResultVar.tmp 4] from rfl, aresults, ares1, CP, a4, Option.getD_some], (Nrm.of (w := .bool s.t4) (by simp only [refsL, refs, List.append_nil])), rfl⟩
      intro st hq
      rcases hx with rfl | rfl
      · exact key st hq
      · exact key st hq)
    subst hR
    exact hrun
end Go.Proofs.Q.Par

