import Derived.Test.YthfbbjoaidajfaaGreatDoorPrsXTypes
import Derived.Test.YthfbbjoaidajfaaGreatDoorAmPack
set_option linter.unusedVariables false
set_option linter.unusedSimpArgs false
set_option linter.unusedSimpArgs false
set_option linter.unusedVariables false
set_option maxRecDepth 100000
namespace Go.Proofs.Q.Par
open Go Go.Am Go.Proofs
def rFnX0 (g : (CondT → Int → Option Bool)) (v : AVal) : Prop := ∃ F L, v = .fn (.func F) [] L ∧ refsL L = [] ∧ stripL L = L ∧ ∀ (x0 : CondT) (x1 : Int) (vx0_0 : AVal) (_ : rCondT x0 [vx0_0]) (r : Bool), g x0 x1 = some r → ∀ h, run Cp F (vx0_0 :: .int .i64 x1 :: L) h = some (.ret (.bool r), h)
theorem rFnX0_strip {g : (CondT → Int → Option Bool)} {v : AVal} (h : rFnX0 g v) : rFnX0 g (strip v) := by
  obtain ⟨F, L, rfl, rL, sL, H⟩ := h
  exact ⟨F, L, by simp only [strip, stripL, sL], rL, sL, H⟩
theorem rFnX0_refs {g : (CondT → Int → Option Bool)} {v : AVal} (h : rFnX0 g v) : refs v = [] := by
  obtain ⟨F, L, rfl, rL, sL, H⟩ := h
  simp only [refs, refsL, rL, List.append_nil]
def rFnX1 (g : ((List (List UInt8)) → Option Bool)) (v : AVal) : Prop := ∃ F L, v = .fn (.func F) [] L ∧ refsL L = [] ∧ stripL L = L ∧ ∀ (x0 : (List (List UInt8))) (vx0_0 : AVal) (_ : Sl rS x0 vx0_0) (r : Bool), g x0 = some r → ∀ h, run Cp F (vx0_0 :: L) h = some (.ret (.bool r), h)
theorem rFnX1_strip {g : ((List (List UInt8)) → Option Bool)} {v : AVal} (h : rFnX1 g v) : rFnX1 g (strip v) := by
  obtain ⟨F, L, rfl, rL, sL, H⟩ := h
  exact ⟨F, L, by simp only [strip, stripL, sL], rL, sL, H⟩
theorem rFnX1_refs {g : ((List (List UInt8)) → Option Bool)} {v : AVal} (h : rFnX1 g v) : refs v = [] := by
  obtain ⟨F, L, rfl, rL, sL, H⟩ := h
  simp only [refs, refsL, rL, List.append_nil]
structure Fr25 where
  t0 : CondT
  t1 : Int
  t4 : Bool
instance : Inhabited Fr25 := ⟨⟨default, 0, false⟩⟩
def P25_0' (s : Fr25) (t : List AVal) (h : AHeap) : Prop := t.length = 7 ∧ t[1]? = some (.int .i64 s.t1)
def P25_0 (s : Fr25) (st : ASt) : Prop := P25_0' s st.tmps st.h
def P25_1' (s : Fr25) (t : List AVal) (h : AHeap) : Prop := t.length = 7 ∧ t[4]? = some (.bool s.t4)
def P25_1 (s : Fr25) (st : ASt) : Prop := P25_1' s st.tmps st.h
noncomputable def m25_0 : Mo Fr25 := fun s => some (.nrm, { s with t4 := decide (s.t1 ≤ 32) })
noncomputable def m25_1 : Mo Fr25 := fun s => some (.nrm, s)
noncomputable def M25 : Mo Fr25 := seqM (m25_1) (seqM (m25_0) (retM))
def Spec25 (f : CondT → Int → Option Bool) : Prop := ∀ (x0 : CondT) (x1 : Int) (vx0_0 : AVal) (_ : rCondT x0 [vx0_0]) (r : Bool), f x0 x1 = some r → ∀ h, run Cp 25 [vx0_0, .int .i64 x1] h = some (.ret (.bool r), h)
theorem R25_0 (pe pr) : Ref Cp P25_0 (Cat [true, false] (bodyOf Tryz.f25)) m25_0 (post P25_1 pe pr) := by
  rintro s ⟨t, h⟩ hp x s' hm
  obtain ⟨hl, a1⟩ : P25_0' s t h := hp
  unfold m25_0 at hm
  cases hm
  refine ⟨⟨_, _⟩, by simp only [bodyOf, Tryz.f25, Cat, Zs, awanted, aoper, evalO, put, acallOp, abuiltin, Nat.reduceEqDiff, Nat.reduceLT, ofV, ofCell, ↓reduceIte, hl, a1, CP, Bool.not_false, Bool.not_true]; exact rfl, ?_⟩
  show P25_1 _ _
  exact ⟨by simp [hl], by simp [hl]⟩
theorem R25_1 (pe pr) : Ref Cp P25_0 (Cat [false] (bodyOf Tryz.f25)) m25_1 (post P25_0 pe pr) := by
  rintro s ⟨t, h⟩ hp x s' hm
  obtain ⟨hl, a1⟩ : P25_0' s t h := hp
  unfold m25_1 at hm
  cases hm
  refine ⟨⟨_, _⟩, by simp only [bodyOf, Tryz.f25, Cat, Zs, awanted, aoper, evalO, put, acallOp, abuiltin, Nat.reduceEqDiff, Nat.reduceLT, ofV, ofCell, ↓reduceIte, hl, a1, CP, Bool.not_false, Bool.not_true]; exact rfl, ?_⟩
  show P25_0 _ _
  exact ⟨by simp [hl], by simp [a1]⟩
theorem B25 : Ref Cp P25_0 (bodyOf Tryz.f25) (M25) (post P25_1 (fun _ _ _ => False) P25_1) := by
  rw [show bodyOf Tryz.f25 = .seq (Cat [false] (bodyOf Tryz.f25)) (.seq (Cat [true, false] (bodyOf Tryz.f25)) (.ret)) from rfl]
  unfold M25
  exact ref_seq (R25_1 _ _) (ref_seq (R25_0 _ _) (ref_ret (fun s st hp => hp)))
noncomputable def G25 (x0 : CondT) (x1 : Int) : Option Bool := match M25 { (default : Fr25) with t0 := x0, t1 := x1 } with
  | some (.nrm, s) => some s.t4
  | some (.ret, s) => some s.t4
  | _ => none
theorem G25_spec : Spec25 (G25) := by
  intro x0 x1 vx0_0 hvx0_0 r hr
  unfold G25 at hr
  cases hm : M25 { (default : Fr25) with t0 := x0, t1 := x1 } with
  | none => rw [hm] at hr; cases hr
  | some q =>
    obtain ⟨x, s⟩ := q
    rw [hm] at hr
    have hx : x = .nrm ∨ x = .ret := by cases x <;> first | exact .inl rfl | exact .inr rfl | cases hr
    have hr : s.t4 = r := by cases x <;> first | exact Option.some.inj hr | cases hr
    subst hr
    have hp0 : P25_0' ({ (default : Fr25) with t0 := x0, t1 := x1 }) (slots Tryz.f25 (stripL [vx0_0, .int .i64 x1])) bare := ⟨rfl, rfl⟩
    obtain ⟨v, hR, hrun⟩ := run_of_ref (C := Cp) (f := 25) (fn := Tryz.f25) Tryz.func25 rfl rfl rfl rfl (args := [vx0_0, .int .i64 x1]) (by simp only [refsL, refs, List.append_nil, refs_one (rCondT_p.ref _ _ hvx0_0)]) (B25) (s0 := { (default : Fr25) with t0 := x0, t1 := x1 }) hp0 hm hx (R := fun v => v = .bool s.t4) (by
      have key : ∀ st : ASt, P25_1 s st → ∃ vs v, aresults Cp Tryz.f25.results.toList st = some vs ∧ Nrm [] st.h (packRes vs) v ∧ (fun v => v = .bool s.t4) v := by
        intro st hp
        obtain ⟨hl, a4⟩ := (hp : P25_1' s st.tmps st.h)
        exact ⟨[.bool s.t4], _, by simp only [show Tryz.f25.results.toList = [ResultVar.tmp 4] from rfl, aresults, ares1, CP, a4, Option.getD_some], (Nrm.of (w := .bool s.t4) (by simp only [refsL, refs, List.append_nil])), rfl⟩
      intro st hq
      rcases hx with rfl | rfl
      · exact key st hq
      · exact key st hq)
    subst hR
    exact hrun
structure Fr70 where
  t0 : CondT
  t1 : Int
  t4 : Bool
instance : Inhabited Fr70 := ⟨⟨default, 0, false⟩⟩
def P70_0' (s : Fr70) (t : List AVal) (h : AHeap) : Prop := ∃ w0_0, t.length = 11 ∧ t[0]? = some w0_0 ∧ rCondT s.t0 [w0_0]
def P70_0 (s : Fr70) (st : ASt) : Prop := P70_0' s st.tmps st.h
def P70_1' (s : Fr70) (t : List AVal) (h : AHeap) : Prop := t.length = 11 ∧ t[4]? = some (.bool s.t4)
def P70_1 (s : Fr70) (st : ASt) : Prop := P70_1' s st.tmps st.h
noncomputable def m70_0 : Mo Fr70 := fun s => (s.t0.get).bind fun n1 => some (.nrm, { s with t4 := decide ((n1.Values.length : Int) ≤ 64) })
noncomputable def m70_1 : Mo Fr70 := fun s => some (.nrm, s)
noncomputable def M70 : Mo Fr70 := seqM (m70_1) (seqM (m70_0) (retM))
def Spec70 (f : CondT → Int → Option Bool) : Prop := ∀ (x0 : CondT) (x1 : Int) (vx0_0 : AVal) (_ : rCondT x0 [vx0_0]) (r : Bool), f x0 x1 = some r → ∀ h, run Cp 70 [vx0_0, .int .i64 x1] h = some (.ret (.bool r), h)
theorem R70_0 (pe pr) : Ref Cp P70_0 (Cat [true, false] (bodyOf Tryz.f70)) m70_0 (post P70_1 pe pr) := by
  rintro s ⟨t, h⟩ hp x s' hm
  obtain ⟨w0_0, hl, a0, r0_0⟩ : P70_0' s t h := hp
  unfold m70_0 at hm
  obtain ⟨n4, hn4, hm⟩ := Option.bind_eq_some_iff.1 hm
  obtain ⟨bu5_0, bu5_1, bu5_2, qu5, gu5_0, gu5_1, gu5_2⟩ := rCondT_get r0_0 hn4
  subst qu5
  have lu6 := fun h => Sl.len gu5_2 TyX.un48 h
  cases hm
  refine ⟨⟨_, _⟩, by simp only [bodyOf, Tryz.f70, Cat, Zs, awanted, aoper, evalO, put, acallOp, abuiltin, Nat.reduceEqDiff, Nat.reduceLT, ofV, ofCell, ↓reduceIte, hl, a0, CP, Bool.not_false, Bool.not_true, TyX.fa50_5, dropCells, List.drop_succ_cons, List.drop_zero, TyX.ld48, ld_ip, ofc1, List.drop_succ_cons, List.drop_zero, lu6]; exact rfl, ?_⟩
  show P70_1 _ _
  exact ⟨by simp [hl], by simp [hl]⟩
theorem R70_1 (pe pr) : Ref Cp P70_0 (Cat [false] (bodyOf Tryz.f70)) m70_1 (post P70_0 pe pr) := by
  rintro s ⟨t, h⟩ hp x s' hm
  obtain ⟨w0_0, hl, a0, r0_0⟩ : P70_0' s t h := hp
  unfold m70_1 at hm
  cases hm
  refine ⟨⟨_, _⟩, by simp only [bodyOf, Tryz.f70, Cat, Zs, awanted, aoper, evalO, put, acallOp, abuiltin, Nat.reduceEqDiff, Nat.reduceLT, ofV, ofCell, ↓reduceIte, hl, a0, CP, Bool.not_false, Bool.not_true]; exact rfl, ?_⟩
  show P70_0 _ _
  exact ⟨w0_0, by simp [hl], by simp [a0], r0_0⟩
theorem B70 : Ref Cp P70_0 (bodyOf Tryz.f70) (M70) (post P70_1 (fun _ _ _ => False) P70_1) := by
  rw [show bodyOf Tryz.f70 = .seq (Cat [false] (bodyOf Tryz.f70)) (.seq (Cat [true, false] (bodyOf Tryz.f70)) (.ret)) from rfl]
  unfold M70
  exact ref_seq (R70_1 _ _) (ref_seq (R70_0 _ _) (ref_ret (fun s st hp => hp)))
noncomputable def G70 (x0 : CondT) (x1 : Int) : Option Bool := match M70 { (default : Fr70) with t0 := x0, t1 := x1 } with
  | some (.nrm, s) => some s.t4
  | some (.ret, s) => some s.t4
  | _ => none
theorem G70_spec : Spec70 (G70) := by
  intro x0 x1 vx0_0 hvx0_0 r hr
  unfold G70 at hr
  cases hm : M70 { (default : Fr70) with t0 := x0, t1 := x1 } with
  | none => rw [hm] at hr; cases hr
  | some q =>
    obtain ⟨x, s⟩ := q
    rw [hm] at hr
    have hx : x = .nrm ∨ x = .ret := by cases x <;> first | exact .inl rfl | exact .inr rfl | cases hr
    have hr : s.t4 = r := by cases x <;> first | exact Option.some.inj hr | cases hr
    subst hr
    have hp0 : P70_0' ({ (default : Fr70) with t0 := x0, t1 := x1 }) (slots Tryz.f70 (stripL [vx0_0, .int .i64 x1])) bare := ⟨(strip vx0_0 : AVal), rfl, rfl, rCondT_p.str _ _ hvx0_0⟩
    obtain ⟨v, hR, hrun⟩ := run_of_ref (C := Cp) (f := 70) (fn := Tryz.f70) Tryz.func70 rfl rfl rfl rfl (args := [vx0_0, .int .i64 x1]) (by simp only [refsL, refs, List.append_nil, refs_one (rCondT_p.ref _ _ hvx0_0)]) (B70) (s0 := { (default : Fr70) with t0 := x0, t1 := x1 }) hp0 hm hx (R := fun v => v = .bool s.t4) (by
      have key : ∀ st : ASt, P70_1 s st → ∃ vs v, aresults Cp Tryz.f70.results.toList st = some vs ∧ Nrm [] st.h (packRes vs) v ∧ (fun v => v = .bool s.t4) v := by
        intro st hp
        obtain ⟨hl, a4⟩ := (hp : P70_1' s st.tmps st.h)
        exact ⟨[.bool s.t4], _, by simp only [show Tryz.f70.results.toList = [ResultVar.tmp 4] from rfl, aresults, ares1, CP, a4, Option.getD_some], (Nrm.of (w := .bool s.t4) (by simp only [refsL, refs, List.append_nil])), rfl⟩
      intro st hq
      rcases hx with rfl | rfl
      · exact key st hq
      · exact key st hq)
    subst hR
    exact hrun
structure Fr24 where
  t0 : CondT
  t1 : Int
  t2 : (CondT → Int → Option Bool)
  t6 : Bool
instance : Inhabited Fr24 := ⟨⟨default, 0, (fun _ _ => none), false⟩⟩
def P24_0' (s : Fr24) (t : List AVal) (h : AHeap) : Prop := ∃ w0_0 w2_0, t.length = 35 ∧ t[0]? = some w0_0 ∧ rCondT s.t0 [w0_0] ∧ t[1]? = some (.int .i64 s.t1) ∧ t[2]? = some w2_0 ∧ rFnX0 s.t2 w2_0
def P24_0 (s : Fr24) (st : ASt) : Prop := P24_0' s st.tmps st.h
def P24_1' (s : Fr24) (t : List AVal) (h : AHeap) : Prop := t.length = 35 ∧ t[6]? = some (.bool s.t6)
def P24_1 (s : Fr24) (st : ASt) : Prop := P24_1' s st.tmps st.h
noncomputable def m24_0 (rec24 : CondT → Int → (CondT → Int → Option Bool) → Option Bool) : Mo Fr24 := fun s => (cond (!s.t0.isNil) ((s.t2 s.t0 s.t1).bind fun z1 => (cond z1 ((s.t0.get).bind fun n3 => (rec24 n3.Left (IntKind.wrap .i64 (s.t1 + 1)) s.t2).bind fun z5 => some z5) (some false)).bind fun x7 => (cond (z1 && x7) ((s.t0.get).bind fun n8 => (rec24 n8.Right (IntKind.wrap .i64 (s.t1 + 1)) s.t2).bind fun z10 => some z10) (some false)).bind fun x12 => some ((z1 && x7) && x12)) (some false)).bind fun x13 => some (.nrm, { s with t6 := (s.t0.isNil || x13) })
noncomputable def m24_1 (rec24 : CondT → Int → (CondT → Int → Option Bool) → Option Bool) : Mo Fr24 := fun s => some (.nrm, s)
noncomputable def M24 (rec24 : CondT → Int → (CondT → Int → Option Bool) → Option Bool) : Mo Fr24 := seqM (m24_1 rec24) (seqM (m24_0 rec24) (retM))
def Spec24 (f : CondT → Int → (CondT → Int → Option Bool) → Option Bool) : Prop := ∀ (x0 : CondT) (x1 : Int) (x2 : (CondT → Int → Option Bool)) (vx0_0 : AVal) (_ : rCondT x0 [vx0_0]) (vx2_0 : AVal) (_ : rFnX0 x2 vx2_0) (r : Bool), f x0 x1 x2 = some r → ∀ h, run Cp 24 [vx0_0, .int .i64 x1, vx2_0] h = some (.ret (.bool r), h)
set_option maxHeartbeats 8000000 in
theorem R24_0 {rec24 : CondT → Int → (CondT → Int → Option Bool) → Option Bool} (hrec24 : Spec24 rec24) (pe pr) : Ref Cp P24_0 (Cat [true, false] (bodyOf Tryz.f24)) (m24_0 rec24) (post P24_1 pe pr) := by
  rintro s ⟨t, h⟩ hp x s' hm
  obtain ⟨w0_0, w2_0, hl, a0, r0_0, a1, a2, r2_0⟩ : P24_0' s t h := hp
  unfold m24_0 at hm
  cases hb14 : s.t0.isNil with
  | true =>
    all_goals (
      try simp only [hb14, Zb] at hm
      obtain ⟨_, qz15⟩ | ⟨qz15, _⟩ := rCondT_nil r0_0
      rotate_left
      · rw [hb14] at qz15; cases qz15
      have z15 : ∀ (xo : Operand) (h : AHeap), abin Cp .eql 24 xo (.const (.pointer none)) h (w0_0) .nilPtr = some (.bool true) := fun xo h => by rw [qz15]; exact TyX.eqn24 xo h
      cases hm
      refine ⟨⟨_, _⟩, by simp only [bodyOf, Tryz.f24, Cat, Zs, awanted, aoper, evalO, put, acallOp, abuiltin, Nat.reduceEqDiff, Nat.reduceLT, ofV, ofCell, ↓reduceIte, hl, a0, a1, a2, CP, Bool.not_false, Bool.not_true, z15, hb14]; exact rfl, ?_⟩
      show P24_1 _ _
      exact ⟨by simp [hl], by simp [hl, hb14]⟩)
  | false =>
    all_goals (
      try simp only [hb14, Zb] at hm
      obtain ⟨qz16, _⟩ | ⟨_, csz16, qz16⟩ := rCondT_nil r0_0
      · rw [hb14] at qz16; cases qz16
      have z16 : ∀ (xo yo : Operand) (h : AHeap), abin Cp .eql 24 xo yo h (w0_0) .nilPtr = some (.bool false) := fun xo yo h => by rw [qz16]; exact TyX.eqp24 xo yo h _
      clear qz16
      obtain ⟨z17, hz17, hm⟩ := Option.bind_eq_some_iff.1 hm
      obtain ⟨Fu18, Lu18, qu18, rLu18, sLu18, Hu18⟩ := r2_0
      subst qu18
      have iu18 := Hu18 s.t0 s.t1 _ r0_0 _ hz17
      cases hb19 : z17 with
      | true =>
        all_goals (
          try simp only [hb19, Zb] at hm
          obtain ⟨n20, hn20, hm⟩ := Option.bind_eq_some_iff.1 hm
          obtain ⟨bu21_0, bu21_1, bu21_2, qu21, gu21_0, gu21_1, gu21_2⟩ := rCondT_get r0_0 hn20
          subst qu21
          obtain ⟨z22, hz22, hm⟩ := Option.bind_eq_some_iff.1 hm
          have iu23 := hrec24 n20.Left (IntKind.wrap .i64 (s.t1 + 1)) s.t2 _ gu21_0 _ ⟨Fu18, Lu18, rfl, rLu18, sLu18, Hu18⟩ _ hz22
          try simp only [Zb] at hm
          cases hb24 : z22 with
          | true =>
            all_goals (
              try simp only [hb24, Zb] at hm
              obtain ⟨n25, hn25, hm⟩ := Option.bind_eq_some_iff.1 hm
              obtain rfl := Option.some.inj (hn20.symm.trans hn25)
              obtain ⟨z26, hz26, hm⟩ := Option.bind_eq_some_iff.1 hm
              have iu27 := hrec24 n20.Right (IntKind.wrap .i64 (s.t1 + 1)) s.t2 _ gu21_1 _ ⟨Fu18, Lu18, rfl, rLu18, sLu18, Hu18⟩ _ hz26
              try simp only [Zb] at hm
              cases hm
              refine ⟨⟨_, _⟩, by simp only [bodyOf, Tryz.f24, Cat, Zs, awanted, aoper, evalO, put, acallOp, abuiltin, Nat.reduceEqDiff, Nat.reduceLT, ofV, ofCell, ↓reduceIte, hl, a0, a1, a2, CP, Bool.not_false, Bool.not_true, z16, iu18, TyX.fa50_1, dropCells, List.drop_succ_cons, List.drop_zero, TyX.ld24, ld_ip, ofc1, List.drop_succ_cons, List.drop_zero, iu23, TyX.fa50_2, iu27, hb14, hb19, hb24]; exact rfl, ?_⟩
              show P24_1 _ _
              exact ⟨by simp [hl], by simp [hl, hb14, hb19, hb24]⟩)
          | false =>
            all_goals (
              try simp only [hb24, Zb] at hm
              cases hm
              refine ⟨⟨_, _⟩, by simp only [bodyOf, Tryz.f24, Cat, Zs, awanted, aoper, evalO, put, acallOp, abuiltin, Nat.reduceEqDiff, Nat.reduceLT, ofV, ofCell, ↓reduceIte, hl, a0, a1, a2, CP, Bool.not_false, Bool.not_true, z16, iu18, TyX.fa50_1, dropCells, List.drop_succ_cons, List.drop_zero, TyX.ld24, ld_ip, ofc1, List.drop_succ_cons, List.drop_zero, iu23, hb14, hb19, hb24]; exact rfl, ?_⟩
              show P24_1 _ _
              exact ⟨by simp [hl], by simp [hl, hb14, hb19, hb24]⟩))
      | false =>
        all_goals (
          try simp only [hb19, Zb] at hm
          try simp only [Zb] at hm
          cases hm
          refine ⟨⟨_, _⟩, by simp only [bodyOf, Tryz.f24, Cat, Zs, awanted, aoper, evalO, put, acallOp, abuiltin, Nat.reduceEqDiff, Nat.reduceLT, ofV, ofCell, ↓reduceIte, hl, a0, a1, a2, CP, Bool.not_false, Bool.not_true, z16, iu18, hb14, hb19]; exact rfl, ?_⟩
          show P24_1 _ _
          exact ⟨by simp [hl], by simp [hl, hb14, hb19]⟩))
theorem R24_1 {rec24 : CondT → Int → (CondT → Int → Option Bool) → Option Bool} (hrec24 : Spec24 rec24) (pe pr) : Ref Cp P24_0 (Cat [false] (bodyOf Tryz.f24)) (m24_1 rec24) (post P24_0 pe pr) := by
  rintro s ⟨t, h⟩ hp x s' hm
  obtain ⟨w0_0, w2_0, hl, a0, r0_0, a1, a2, r2_0⟩ : P24_0' s t h := hp
  unfold m24_1 at hm
  cases hm
  refine ⟨⟨_, _⟩, by simp only [bodyOf, Tryz.f24, Cat, Zs, awanted, aoper, evalO, put, acallOp, abuiltin, Nat.reduceEqDiff, Nat.reduceLT, ofV, ofCell, ↓reduceIte, hl, a0, a1, a2, CP, Bool.not_false, Bool.not_true]; exact rfl, ?_⟩
  show P24_0 _ _
  exact ⟨w0_0, w2_0, by simp [hl], by simp [a0], r0_0, by simp [a1], by simp [a2], r2_0⟩
theorem B24 {rec24 : CondT → Int → (CondT → Int → Option Bool) → Option Bool} (hrec24 : Spec24 rec24) : Ref Cp P24_0 (bodyOf Tryz.f24) (M24 rec24) (post P24_1 (fun _ _ _ => False) P24_1) := by
  rw [show bodyOf Tryz.f24 = .seq (Cat [false] (bodyOf Tryz.f24)) (.seq (Cat [true, false] (bodyOf Tryz.f24)) (.ret)) from rfl]
  unfold M24
  exact ref_seq (R24_1 hrec24 _ _) (ref_seq (R24_0 hrec24 _ _) (ref_ret (fun s st hp => hp)))
noncomputable def G24 (rec24 : CondT → Int → (CondT → Int → Option Bool) → Option Bool) (x0 : CondT) (x1 : Int) (x2 : (CondT → Int → Option Bool)) : Option Bool := match M24 rec24 { (default : Fr24) with t0 := x0, t1 := x1, t2 := x2 } with
  | some (.nrm, s) => some s.t6
  | some (.ret, s) => some s.t6
  | _ => none
theorem G24_spec {rec24 : CondT → Int → (CondT → Int → Option Bool) → Option Bool} (hrec24 : Spec24 rec24) : Spec24 (G24 rec24) := by
  intro x0 x1 x2 vx0_0 hvx0_0 vx2_0 hvx2_0 r hr
  unfold G24 at hr
  cases hm : M24 rec24 { (default : Fr24) with t0 := x0, t1 := x1, t2 := x2 } with
  | none => rw [hm] at hr; cases hr
  | some q =>
    obtain ⟨x, s⟩ := q
    rw [hm] at hr
    have hx : x = .nrm ∨ x = .ret := by cases x <;> first | exact .inl rfl | exact .inr rfl | cases hr
    have hr : s.t6 = r := by cases x <;> first | exact Option.some.inj hr | cases hr
    subst hr
    have hp0 : P24_0' ({ (default : Fr24) with t0 := x0, t1 := x1, t2 := x2 }) (slots Tryz.f24 (stripL [vx0_0, .int .i64 x1, vx2_0])) bare := ⟨(strip vx0_0 : AVal), (strip vx2_0 : AVal), rfl, rfl, rCondT_p.str _ _ hvx0_0, rfl, rfl, rFnX0_strip hvx2_0⟩
    obtain ⟨v, hR, hrun⟩ := run_of_ref (C := Cp) (f := 24) (fn := Tryz.f24) Tryz.func24 rfl rfl rfl rfl (args := [vx0_0, .int .i64 x1, vx2_0]) (by simp only [refsL, refs, List.append_nil, refs_one (rCondT_p.ref _ _ hvx0_0), rFnX0_refs hvx2_0]) (B24 hrec24) (s0 := { (default : Fr24) with t0 := x0, t1 := x1, t2 := x2 }) hp0 hm hx (R := fun v => v = .bool s.t6) (by
      have key : ∀ st : ASt, P24_1 s st → ∃ vs v, aresults Cp Tryz.f24.results.toList st = some vs ∧ Nrm [] st.h (packRes vs) v ∧ (fun v => v = .bool s.t6) v := by
        intro st hp
        obtain ⟨hl, a6⟩ := (hp : P24_1' s st.tmps st.h)
        exact ⟨[.bool s.t6], _, by simp only [show Tryz.f24.results.toList = [ResultVar.tmp 6] from rfl, aresults, ares1, CP, a6, Option.getD_some], (Nrm.of (w := .bool s.t6) (by simp only [refsL, refs, List.append_nil])), rfl⟩
      intro st hq
      rcases hx with rfl | rfl
      · exact key st hq
      · exact key st hq)
    subst hR
    exact hrun
noncomputable def F24 : Nat → CondT → Int → (CondT → Int → Option Bool) → Option Bool
  | 0 => fun _ _ _ => none
  | n + 1 => G24 (F24 n)
theorem F24_spec : ∀ n, Spec24 (F24 n)
  | 0 => fun x0 x1 x2 vx0_0 hvx0_0 vx2_0 hvx2_0 r hr => by cases hr
  | n + 1 => G24_spec (F24_spec n)
structure Fr69 where
  t0 : (List (List UInt8))
  t2 : Bool
instance : Inhabited Fr69 := ⟨⟨[], false⟩⟩
def P69_0' (s : Fr69) (t : List AVal) (h : AHeap) : Prop := ∃ w0_0, t.length = 6 ∧ t[0]? = some w0_0 ∧ Sl rS s.t0 w0_0
def P69_0 (s : Fr69) (st : ASt) : Prop := P69_0' s st.tmps st.h
def P69_1' (s : Fr69) (t : List AVal) (h : AHeap) : Prop := t.length = 6 ∧ t[2]? = some (.bool s.t2)
def P69_1 (s : Fr69) (st : ASt) : Prop := P69_1' s st.tmps st.h
noncomputable def m69_0 : Mo Fr69 := fun s => some (.nrm, { s with t2 := decide ((s.t0.length : Int) > 16) })
noncomputable def m69_1 : Mo Fr69 := fun s => some (.nrm, s)
noncomputable def M69 : Mo Fr69 := seqM (m69_1) (seqM (m69_0) (retM))
def Spec69 (f : (List (List UInt8)) → Option Bool) : Prop := ∀ (x0 : (List (List UInt8))) (vx0_0 : AVal) (_ : Sl rS x0 vx0_0) (r : Bool), f x0 = some r → ∀ h, run Cp 69 [vx0_0] h = some (.ret (.bool r), h)
theorem R69_0 (pe pr) : Ref Cp P69_0 (Cat [true, false] (bodyOf Tryz.f69)) m69_0 (post P69_1 pe pr) := by
  rintro s ⟨t, h⟩ hp x s' hm
  obtain ⟨w0_0, hl, a0, r0_0⟩ : P69_0' s t h := hp
  unfold m69_0 at hm
  have lu2 := fun h => Sl.len r0_0 TyX.un52 h
  cases hm
  refine ⟨⟨_, _⟩, by simp only [bodyOf, Tryz.f69, Cat, Zs, awanted, aoper, evalO, put, acallOp, abuiltin, Nat.reduceEqDiff, Nat.reduceLT, ofV, ofCell, ↓reduceIte, hl, a0, CP, Bool.not_false, Bool.not_true, lu2]; exact rfl, ?_⟩
  show P69_1 _ _
  exact ⟨by simp [hl], by simp [hl]⟩
theorem R69_1 (pe pr) : Ref Cp P69_0 (Cat [false] (bodyOf Tryz.f69)) m69_1 (post P69_0 pe pr) := by
  rintro s ⟨t, h⟩ hp x s' hm
  obtain ⟨w0_0, hl, a0, r0_0⟩ : P69_0' s t h := hp
  unfold m69_1 at hm
  cases hm
  refine ⟨⟨_, _⟩, by simp only [bodyOf, Tryz.f69, Cat, Zs, awanted, aoper, evalO, put, acallOp, abuiltin, Nat.reduceEqDiff, Nat.reduceLT, ofV, ofCell, ↓reduceIte, hl, a0, CP, Bool.not_false, Bool.not_true]; exact rfl, ?_⟩
  show P69_0 _ _
  exact ⟨w0_0, by simp [hl], by simp [a0], r0_0⟩
theorem B69 : Ref Cp P69_0 (bodyOf Tryz.f69) (M69) (post P69_1 (fun _ _ _ => False) P69_1) := by
  rw [show bodyOf Tryz.f69 = .seq (Cat [false] (bodyOf Tryz.f69)) (.seq (Cat [true, false] (bodyOf Tryz.f69)) (.ret)) from rfl]
  unfold M69
  exact ref_seq (R69_1 _ _) (ref_seq (R69_0 _ _) (ref_ret (fun s st hp => hp)))
noncomputable def G69 (x0 : (List (List UInt8))) : Option Bool := match M69 { (default : Fr69) with t0 := x0 } with
  | some (.nrm, s) => some s.t2
  | some (.ret, s) => some s.t2
  | _ => none
theorem G69_spec : Spec69 (G69) := by
  intro x0 vx0_0 hvx0_0 r hr
  unfold G69 at hr
  cases hm : M69 { (default : Fr69) with t0 := x0 } with
  | none => rw [hm] at hr; cases hr
  | some q =>
    obtain ⟨x, s⟩ := q
    rw [hm] at hr
    have hx : x = .nrm ∨ x = .ret := by cases x <;> first | exact .inl rfl | exact .inr rfl | cases hr
    have hr : s.t2 = r := by cases x <;> first | exact Option.some.inj hr | cases hr
    subst hr
    have hp0 : P69_0' ({ (default : Fr69) with t0 := x0 }) (slots Tryz.f69 (stripL [vx0_0])) bare := ⟨(strip vx0_0 : AVal), rfl, rfl, hvx0_0.strip rS_p⟩
    obtain ⟨v, hR, hrun⟩ := run_of_ref (C := Cp) (f := 69) (fn := Tryz.f69) Tryz.func69 rfl rfl rfl rfl (args := [vx0_0]) (by simp only [refsL, refs, List.append_nil, hvx0_0.refs rS_p]) (B69) (s0 := { (default : Fr69) with t0 := x0 }) hp0 hm hx (R := fun v => v = .bool s.t2) (by
      have key : ∀ st : ASt, P69_1 s st → ∃ vs v, aresults Cp Tryz.f69.results.toList st = some vs ∧ Nrm [] st.h (packRes vs) v ∧ (fun v => v = .bool s.t2) v := by
        intro st hp
        obtain ⟨hl, a2⟩ := (hp : P69_1' s st.tmps st.h)
        exact ⟨[.bool s.t2], _, by simp only [show Tryz.f69.results.toList = [ResultVar.tmp 2] from rfl, aresults, ares1, CP, a2, Option.getD_some], (Nrm.of (w := .bool s.t2) (by simp only [refsL, refs, List.append_nil])), rfl⟩
      intro st hq
      rcases hx with rfl | rfl
      · exact key st hq
      · exact key st hq)
    subst hR
    exact hrun
structure Fr115 where
  t0 : (List (List (List UInt8)))
  t1 : ((List (List UInt8)) → Option Bool)
  t4 : Int
  t5 : Int
  t7 : Int
  t8 : Int
  t9 : Bool
  t16 : Bool
instance : Inhabited Fr115 := ⟨⟨[], (fun _ => none), 0, 0, 0, 0, false, false⟩⟩
def P115_0' (s : Fr115) (t : List AVal) (h : AHeap) : Prop := t.length = 19 ∧ True
def P115_0 (s : Fr115) (st : ASt) : Prop := P115_0' s st.tmps st.h
def P115_1' (s : Fr115) (t : List AVal) (h : AHeap) : Prop := t.length = 19 ∧ t[4]? = some (.int .i64 s.t4)
def P115_1 (s : Fr115) (st : ASt) : Prop := P115_1' s st.tmps st.h
def P115_2' (s : Fr115) (t : List AVal) (h : AHeap) : Prop := ∃ w0_0 w1_0, t.length = 19 ∧ t[0]? = some w0_0 ∧ Sl (rSl rS) s.t0 w0_0 ∧ t[1]? = some w1_0 ∧ rFnX1 s.t1 w1_0 ∧ t[7]? = some (.int .i64 s.t7) ∧ t[8]? = some (.int .i64 s.t8)
def P115_2 (s : Fr115) (st : ASt) : Prop := P115_2' s st.tmps st.h
def P115_3' (s : Fr115) (t : List AVal) (h : AHeap) : Prop := t.length = 19 ∧ t[5]? = some (.int .i64 s.t5)
def P115_3 (s : Fr115) (st : ASt) : Prop := P115_3' s st.tmps st.h
def P115_4' (s : Fr115) (t : List AVal) (h : AHeap) : Prop := ∃ w0_0 w1_0, t.length = 19 ∧ t[0]? = some w0_0 ∧ Sl (rSl rS) s.t0 w0_0 ∧ t[1]? = some w1_0 ∧ rFnX1 s.t1 w1_0 ∧ t[5]? = some (.int .i64 s.t5) ∧ t[7]? = some (.int .i64 s.t7) ∧ t[8]? = some (.int .i64 s.t8) ∧ t[16]? = some (.bool s.t16)
def P115_4 (s : Fr115) (st : ASt) : Prop := P115_4' s st.tmps st.h
def P115_5' (s : Fr115) (t : List AVal) (h : AHeap) : Prop := ∃ w0_0 w1_0, t.length = 19 ∧ t[0]? = some w0_0 ∧ Sl (rSl rS) s.t0 w0_0 ∧ t[1]? = some w1_0 ∧ rFnX1 s.t1 w1_0 ∧ t[5]? = some (.int .i64 s.t5) ∧ t[7]? = some (.int .i64 s.t7) ∧ t[8]? = some (.int .i64 s.t8)
def P115_5 (s : Fr115) (st : ASt) : Prop := P115_5' s st.tmps st.h
def P115_6' (s : Fr115) (t : List AVal) (h : AHeap) : Prop := ∃ w0_0 w1_0, t.length = 19 ∧ t[0]? = some w0_0 ∧ Sl (rSl rS) s.t0 w0_0 ∧ t[1]? = some w1_0 ∧ rFnX1 s.t1 w1_0 ∧ t[7]? = some (.int .i64 s.t7) ∧ t[8]? = some (.int .i64 s.t8) ∧ t[9]? = some (.bool s.t9)
def P115_6 (s : Fr115) (st : ASt) : Prop := P115_6' s st.tmps st.h
def P115_7' (s : Fr115) (t : List AVal) (h : AHeap) : Prop := ∃ w0_0 w1_0, t.length = 19 ∧ t[0]? = some w0_0 ∧ Sl (rSl rS) s.t0 w0_0 ∧ t[1]? = some w1_0 ∧ rFnX1 s.t1 w1_0
def P115_7 (s : Fr115) (st : ASt) : Prop := P115_7' s st.tmps st.h
noncomputable def m115_0 : Mo Fr115 := fun s => some (.nrm, { s with t4 := (-1) })
noncomputable def m115_1 : Mo Fr115 := fun s => some (.nrm, { s with t8 := IntKind.wrap .i64 (s.t8 + 1) })
noncomputable def m115_2 : Mo Fr115 := fun s => some (.nrm, { s with t4 := s.t5 })
noncomputable def m115_3 : Mo Fr115 := fun s => (at? s.t0 s.t5).bind fun y1 => (s.t1 y1).bind fun z3 => some (.nrm, { s with t16 := z3 })
noncomputable def m115_4 : Mo Fr115 := fun s => some (.nrm, { s with t5 := s.t8 })
noncomputable def m115_5 : Mo Fr115 := fun s => some (.nrm, { s with t9 := decide (s.t8 < s.t7) })
noncomputable def L115_6 : Mo Fr115 := seqM (m115_5) (seqM (condM (fun s => s.t9) (skipM) (exitM 0)) (seqM (blockM 1 (seqM (m115_4) (seqM (m115_3) (condM (fun s => s.t16) (seqM (m115_2) (retM)) (skipM))))) (m115_1)))
noncomputable def m115_7 : Mo Fr115 := fun s => some (.nrm, { s with t7 := (s.t0.length : Int), t8 := 0 })
noncomputable def m115_8 : Mo Fr115 := fun s => some (.nrm, s)
noncomputable def M115 : Mo Fr115 := seqM (m115_8) (seqM (seqM (m115_7) (blockM 0 (loopM (L115_6)))) (seqM (m115_0) (retM)))
def Spec115 (f : (List (List (List UInt8))) → ((List (List UInt8)) → Option Bool) → Option Int) : Prop := ∀ (x0 : (List (List (List UInt8)))) (x1 : ((List (List UInt8)) → Option Bool)) (vx0_0 : AVal) (_ : Sl (rSl rS) x0 vx0_0) (vx1_0 : AVal) (_ : rFnX1 x1 vx1_0) (r : Int), f x0 x1 = some r → ∀ h, run Cp 115 [vx0_0, vx1_0] h = some (.ret (.int .i64 r), h)
theorem R115_0 (pe pr) : Ref Cp P115_0 (Cat [true, true, false] (bodyOf Tryz.f115)) m115_0 (post P115_1 pe pr) := by
  rintro s ⟨t, h⟩ hp x s' hm
  obtain ⟨hl, _⟩ : P115_0' s t h := hp
  unfold m115_0 at hm
  cases hm
  refine ⟨⟨_, _⟩, by simp only [bodyOf, Tryz.f115, Cat, Zs, awanted, aoper, evalO, put, acallOp, abuiltin, Nat.reduceEqDiff, Nat.reduceLT, ofV, ofCell, ↓reduceIte, hl, CP, Bool.not_false, Bool.not_true]; exact rfl, ?_⟩
  show P115_1 _ _
  exact ⟨by simp [hl], by simp [hl]⟩
theorem R115_1 (pe pr) : Ref Cp P115_2 (Cat [true, false, true, true, true, true, true, true] (bodyOf Tryz.f115)) m115_1 (post P115_2 pe pr) := by
  rintro s ⟨t, h⟩ hp x s' hm
  obtain ⟨w0_0, w1_0, hl, a0, r0_0, a1, r1_0, a7, a8⟩ : P115_2' s t h := hp
  unfold m115_1 at hm
  cases hm
  refine ⟨⟨_, _⟩, by simp only [bodyOf, Tryz.f115, Cat, Zs, awanted, aoper, evalO, put, acallOp, abuiltin, Nat.reduceEqDiff, Nat.reduceLT, ofV, ofCell, ↓reduceIte, hl, a0, a1, a7, a8, CP, Bool.not_false, Bool.not_true]; exact rfl, ?_⟩
  show P115_2 _ _
  exact ⟨w0_0, w1_0, by simp [hl], by simp [a0], r0_0, by simp [a1], r1_0, by simp [a7], by simp [hl]⟩
theorem R115_2 (pe pr) : Ref Cp P115_3 (Cat [true, false, true, true, true, true, true, false, true, true, true, false, false] (bodyOf Tryz.f115)) m115_2 (post P115_1 pe pr) := by
  rintro s ⟨t, h⟩ hp x s' hm
  obtain ⟨hl, a5⟩ : P115_3' s t h := hp
  unfold m115_2 at hm
  cases hm
  refine ⟨⟨_, _⟩, by simp only [bodyOf, Tryz.f115, Cat, Zs, awanted, aoper, evalO, put, acallOp, abuiltin, Nat.reduceEqDiff, Nat.reduceLT, ofV, ofCell, ↓reduceIte, hl, a5, CP, Bool.not_false, Bool.not_true]; exact rfl, ?_⟩
  show P115_1 _ _
  exact ⟨by simp [hl], by simp [hl]⟩
theorem R115_3 (pe pr) : Ref Cp P115_5 (Cat [true, false, true, true, true, true, true, false, true, true, false] (bodyOf Tryz.f115)) m115_3 (post P115_4 pe pr) := by
  rintro s ⟨t, h⟩ hp x s' hm
  obtain ⟨w0_0, w1_0, hl, a0, r0_0, a1, r1_0, a5, a7, a8⟩ : P115_5' s t h := hp
  unfold m115_3 at hm
  obtain ⟨y5, hy5, hm⟩ := Option.bind_eq_some_iff.1 hm
  obtain ⟨cu6, du6, eu6, iu6, _⟩ := Sl.ix (rSl_p rS_p) r0_0 hy5
  obtain ⟨bu6_0, rfl, gu6_0⟩ := eu6
  obtain ⟨z7, hz7, hm⟩ := Option.bind_eq_some_iff.1 hm
  obtain ⟨Fu8, Lu8, qu8, rLu8, sLu8, Hu8⟩ := r1_0
  subst qu8
  have iu8 := Hu8 y5 _ gu6_0 _ hz7
  cases hm
  refine ⟨⟨_, _⟩, by simp only [bodyOf, Tryz.f115, Cat, Zs, awanted, aoper, evalO, put, acallOp, abuiltin, Nat.reduceEqDiff, Nat.reduceLT, ofV, ofCell, ↓reduceIte, hl, a0, a1, a5, a7, a8, CP, Bool.not_false, Bool.not_true, TyX.ix63, iu6, TyX.ld52, ld_ip, ofc1, List.drop_succ_cons, List.drop_zero, iu8]; exact rfl, ?_⟩
  show P115_4 _ _
  exact ⟨w0_0, (.fn (.func Fu8) [] Lu8 : AVal), by simp [hl], by simp [a0], r0_0, by simp [a1], ⟨Fu8, Lu8, rfl, rLu8, sLu8, Hu8⟩, by simp [a5], by simp [a7], by simp [a8], by simp [hl]⟩
theorem R115_4 (pe pr) : Ref Cp P115_2 (Cat [true, false, true, true, true, true, true, false, true, false] (bodyOf Tryz.f115)) m115_4 (post P115_5 pe pr) := by
  rintro s ⟨t, h⟩ hp x s' hm
  obtain ⟨w0_0, w1_0, hl, a0, r0_0, a1, r1_0, a7, a8⟩ : P115_2' s t h := hp
  unfold m115_4 at hm
  cases hm
  refine ⟨⟨_, _⟩, by simp only [bodyOf, Tryz.f115, Cat, Zs, awanted, aoper, evalO, put, acallOp, abuiltin, Nat.reduceEqDiff, Nat.reduceLT, ofV, ofCell, ↓reduceIte, hl, a0, a1, a7, a8, CP, Bool.not_false, Bool.not_true]; exact rfl, ?_⟩
  show P115_5 _ _
  exact ⟨w0_0, w1_0, by simp [hl], by simp [a0], r0_0, by simp [a1], r1_0, by simp [hl], by simp [a7], by simp [a8]⟩
theorem R115_5 (pe pr) : Ref Cp P115_2 (Cat [true, false, true, true, true, false] (bodyOf Tryz.f115)) m115_5 (post P115_6 pe pr) := by
  rintro s ⟨t, h⟩ hp x s' hm
  obtain ⟨w0_0, w1_0, hl, a0, r0_0, a1, r1_0, a7, a8⟩ : P115_2' s t h := hp
  unfold m115_5 at hm
  cases hm
  refine ⟨⟨_, _⟩, by simp only [bodyOf, Tryz.f115, Cat, Zs, awanted, aoper, evalO, put, acallOp, abuiltin, Nat.reduceEqDiff, Nat.reduceLT, ofV, ofCell, ↓reduceIte, hl, a0, a1, a7, a8, CP, Bool.not_false, Bool.not_true]; exact rfl, ?_⟩
  show P115_6 _ _
  exact ⟨w0_0, w1_0, by simp [hl], by simp [a0], r0_0, by simp [a1], r1_0, by simp [a7], by simp [a8], by simp [hl]⟩
theorem R115_7 (pe pr) : Ref Cp P115_7 (Cat [true, false, false] (bodyOf Tryz.f115)) m115_7 (post P115_2 pe pr) := by
  rintro s ⟨t, h⟩ hp x s' hm
  obtain ⟨w0_0, w1_0, hl, a0, r0_0, a1, r1_0⟩ : P115_7' s t h := hp
  unfold m115_7 at hm
  have lu10 := fun h => Sl.len r0_0 TyX.un63 h
  cases hm
  refine ⟨⟨_, _⟩, by simp only [bodyOf, Tryz.f115, Cat, Zs, awanted, aoper, evalO, put, acallOp, abuiltin, Nat.reduceEqDiff, Nat.reduceLT, ofV, ofCell, ↓reduceIte, hl, a0, a1, CP, Bool.not_false, Bool.not_true, lu10]; exact rfl, ?_⟩
  show P115_2 _ _
  exact ⟨w0_0, w1_0, by simp [hl], by simp [a0], r0_0, by simp [a1], r1_0, by simp [hl], by simp [hl]⟩
theorem R115_8 (pe pr) : Ref Cp P115_7 (Cat [false] (bodyOf Tryz.f115)) m115_8 (post P115_7 pe pr) := by
  rintro s ⟨t, h⟩ hp x s' hm
  obtain ⟨w0_0, w1_0, hl, a0, r0_0, a1, r1_0⟩ : P115_7' s t h := hp
  unfold m115_8 at hm
  cases hm
  refine ⟨⟨_, _⟩, by simp only [bodyOf, Tryz.f115, Cat, Zs, awanted, aoper, evalO, put, acallOp, abuiltin, Nat.reduceEqDiff, Nat.reduceLT, ofV, ofCell, ↓reduceIte, hl, a0, a1, CP, Bool.not_false, Bool.not_true]; exact rfl, ?_⟩
  show P115_7 _ _
  exact ⟨w0_0, w1_0, by simp [hl], by simp [a0], r0_0, by simp [a1], r1_0⟩
theorem B115 : Ref Cp P115_7 (bodyOf Tryz.f115) (M115) (post P115_1 (fun _ _ _ => False) P115_1) := by
  rw [show bodyOf Tryz.f115 = .seq (Cat [false] (bodyOf Tryz.f115)) (.seq (.seq (Cat [true, false, false] (bodyOf Tryz.f115)) (.block 0 (.loop (.seq (Cat [true, false, true, true, true, false] (bodyOf Tryz.f115)) (.seq (.cond (.tmp 9) (.skip) (.exit 0)) (.seq (.block 1 (.seq (Cat [true, false, true, true, true, true, true, false, true, false] (bodyOf Tryz.f115)) (.seq (Cat [true, false, true, true, true, true, true, false, true, true, false] (bodyOf Tryz.f115)) (.cond (.tmp 16) (.seq (Cat [true, false, true, true, true, true, true, false, true, true, true, false, false] (bodyOf Tryz.f115)) (.ret)) (.skip))))) (Cat [true, false, true, true, true, true, true, true] (bodyOf Tryz.f115)))))))) (.seq (Cat [true, true, false] (bodyOf Tryz.f115)) (.ret))) from rfl]
  unfold M115
  exact ref_seq (R115_8 _ _) (ref_seq (ref_seq (R115_7 _ _) (ref_block (ref_loop (P := P115_2) (ref_weak (P' := P115_2) (fun s st hp => hp) (ref_seq (R115_5 _ _) (ref_seq (ref_cond (P := P115_6) (c := fun s => s.t9) (fun s st hp => by obtain ⟨w0_0, w1_0, hl, a0, r0_0, a1, r1_0, a7, a8, a9⟩ := (hp : P115_6' s st.tmps st.h); simp only [evalO, a9, Option.getD_some]) (ref_weak (P' := P115_2) (fun s st hp => by obtain ⟨w0_0, w1_0, hl, a0, r0_0, a1, r1_0, a7, a8, a9⟩ := (hp : P115_6' s st.tmps st.h); exact (⟨w0_0, w1_0, hl, a0, r0_0, a1, r1_0, a7, a8⟩ : P115_2' s st.tmps st.h)) (ref_skip (fun s st hp => hp))) (ref_weak (P' := P115_0) (fun s st hp => by obtain ⟨w0_0, w1_0, hl, a0, r0_0, a1, r1_0, a7, a8, a9⟩ := (hp : P115_6' s st.tmps st.h); exact (⟨hl, trivial⟩ : P115_0' s st.tmps st.h)) (ref_exit (fun s st hp => hp)))) (ref_seq (ref_block (ref_seq (R115_4 _ _) (ref_seq (R115_3 _ _) (ref_cond (P := P115_4) (c := fun s => s.t16) (fun s st hp => by obtain ⟨w0_0, w1_0, hl, a0, r0_0, a1, r1_0, a5, a7, a8, a16⟩ := (hp : P115_4' s st.tmps st.h); simp only [evalO, a16, Option.getD_some]) (ref_weak (P' := P115_3) (fun s st hp => by obtain ⟨w0_0, w1_0, hl, a0, r0_0, a1, r1_0, a5, a7, a8, a16⟩ := (hp : P115_4' s st.tmps st.h); exact (⟨hl, a5⟩ : P115_3' s st.tmps st.h)) (ref_seq (R115_2 _ _) (ref_ret (fun s st hp => hp)))) (ref_weak (P' := P115_2) (fun s st hp => by obtain ⟨w0_0, w1_0, hl, a0, r0_0, a1, r1_0, a5, a7, a8, a16⟩ := (hp : P115_4' s st.tmps st.h); exact (⟨w0_0, w1_0, hl, a0, r0_0, a1, r1_0, a7, a8⟩ : P115_2' s st.tmps st.h)) (ref_skip (fun s st hp => hp))))))) (R115_1 _ _)))))))) (ref_seq (R115_0 _ _) (ref_ret (fun s st hp => hp))))
noncomputable def G115 (x0 : (List (List (List UInt8)))) (x1 : ((List (List UInt8)) → Option Bool)) : Option Int := match M115 { (default : Fr115) with t0 := x0, t1 := x1 } with
  | some (.nrm, s) => some s.t4
  | some (.ret, s) => some s.t4
  | _ => none
theorem G115_spec : Spec115 (G115) := by
  intro x0 x1 vx0_0 hvx0_0 vx1_0 hvx1_0 r hr
  unfold G115 at hr
  cases hm : M115 { (default : Fr115) with t0 := x0, t1 := x1 } with
  | none => rw [hm] at hr; cases hr
  | some q =>
    obtain ⟨x, s⟩ := q
    rw [hm] at hr
    have hx : x = .nrm ∨ x = .ret := by cases x <;> first | exact .inl rfl | exact .inr rfl | cases hr
    have hr : s.t4 = r := by cases x <;> first | exact Option.some.inj hr | cases hr
    subst hr
    have hp0 : P115_7' ({ (default : Fr115) with t0 := x0, t1 := x1 }) (slots Tryz.f115 (stripL [vx0_0, vx1_0])) bare := ⟨(strip vx0_0 : AVal), (strip vx1_0 : AVal), rfl, rfl, hvx0_0.strip (rSl_p rS_p), rfl, rFnX1_strip hvx1_0⟩
    obtain ⟨v, hR, hrun⟩ := run_of_ref (C := Cp) (f := 115) (fn := Tryz.f115) Tryz.func115 rfl rfl rfl rfl (args := [vx0_0, vx1_0]) (by simp only [refsL, refs, List.append_nil, hvx0_0.refs (rSl_p rS_p), rFnX1_refs hvx1_0]) (B115) (s0 := { (default : Fr115) with t0 := x0, t1 := x1 }) hp0 hm hx (R := fun v => v = .int .i64 s.t4) (by
      have key : ∀ st : ASt, P115_1 s st → ∃ vs v, aresults Cp Tryz.f115.results.toList st = some vs ∧ Nrm [] st.h (packRes vs) v ∧ (fun v => v = .int .i64 s.t4) v := by
        intro st hp
        obtain ⟨hl, a4⟩ := (hp : P115_1' s st.tmps st.h)
        exact ⟨[.int .i64 s.t4], _, by simp only [show Tryz.f115.results.toList = [ResultVar.tmp 4] from rfl, aresults, ares1, CP, a4, Option.getD_some], (Nrm.of (w := .int .i64 s.t4) (by simp only [refsL, refs, List.append_nil])), rfl⟩
      intro st hq
      rcases hx with rfl | rfl
      · exact key st hq
      · exact key st hq)
    subst hR
    exact hrun
structure Fr68 where
  t0 : (List (List (List UInt8)))
  t1 : ((List (List UInt8)) → Option Bool)
  t4 : Bool
instance : Inhabited Fr68 := ⟨⟨[], (fun _ => none), false⟩⟩
def P68_0' (s : Fr68) (t : List AVal) (h : AHeap) : Prop := ∃ w0_0 w1_0, t.length = 9 ∧ t[0]? = some w0_0 ∧ Sl (rSl rS) s.t0 w0_0 ∧ t[1]? = some w1_0 ∧ rFnX1 s.t1 w1_0
def P68_0 (s : Fr68) (st : ASt) : Prop := P68_0' s st.tmps st.h
def P68_1' (s : Fr68) (t : List AVal) (h : AHeap) : Prop := t.length = 9 ∧ t[4]? = some (.bool s.t4)
def P68_1 (s : Fr68) (st : ASt) : Prop := P68_1' s st.tmps st.h
noncomputable def m68_0 : Mo Fr68 := fun s => (G115 s.t0 s.t1).bind fun z1 => some (.nrm, { s with t4 := decide (z1 ≥ 0) })
noncomputable def m68_1 : Mo Fr68 := fun s => some (.nrm, s)
noncomputable def M68 : Mo Fr68 := seqM (m68_1) (seqM (m68_0) (retM))
def Spec68 (f : (List (List (List UInt8))) → ((List (List UInt8)) → Option Bool) → Option Bool) : Prop := ∀ (x0 : (List (List (List UInt8)))) (x1 : ((List (List UInt8)) → Option Bool)) (vx0_0 : AVal) (_ : Sl (rSl rS) x0 vx0_0) (vx1_0 : AVal) (_ : rFnX1 x1 vx1_0) (r : Bool), f x0 x1 = some r → ∀ h, run Cp 68 [vx0_0, vx1_0] h = some (.ret (.bool r), h)
theorem R68_0 (pe pr) : Ref Cp P68_0 (Cat [true, false] (bodyOf Tryz.f68)) m68_0 (post P68_1 pe pr) := by
  rintro s ⟨t, h⟩ hp x s' hm
  obtain ⟨w0_0, w1_0, hl, a0, r0_0, a1, r1_0⟩ : P68_0' s t h := hp
  unfold m68_0 at hm
  obtain ⟨z3, hz3, hm⟩ := Option.bind_eq_some_iff.1 hm
  have iu4 := G115_spec s.t0 s.t1 _ r0_0 _ r1_0 _ hz3
  cases hm
  refine ⟨⟨_, _⟩, by simp only [bodyOf, Tryz.f68, Cat, Zs, awanted, aoper, evalO, put, acallOp, abuiltin, Nat.reduceEqDiff, Nat.reduceLT, ofV, ofCell, ↓reduceIte, hl, a0, a1, CP, Bool.not_false, Bool.not_true, iu4]; exact rfl, ?_⟩
  show P68_1 _ _
  exact ⟨by simp [hl], by simp [hl]⟩
theorem R68_1 (pe pr) : Ref Cp P68_0 (Cat [false] (bodyOf Tryz.f68)) m68_1 (post P68_0 pe pr) := by
  rintro s ⟨t, h⟩ hp x s' hm
  obtain ⟨w0_0, w1_0, hl, a0, r0_0, a1, r1_0⟩ : P68_0' s t h := hp
  unfold m68_1 at hm
  cases hm
  refine ⟨⟨_, _⟩, by simp only [bodyOf, Tryz.f68, Cat, Zs, awanted, aoper, evalO, put, acallOp, abuiltin, Nat.reduceEqDiff, Nat.reduceLT, ofV, ofCell, ↓reduceIte, hl, a0, a1, CP, Bool.not_false, Bool.not_true]; exact rfl, ?_⟩
  show P68_0 _ _
  exact ⟨w0_0, w1_0, by simp [hl], by simp [a0], r0_0, by simp [a1], r1_0⟩
theorem B68 : Ref Cp P68_0 (bodyOf Tryz.f68) (M68) (post P68_1 (fun _ _ _ => False) P68_1) := by
  rw [show bodyOf Tryz.f68 = .seq (Cat [false] (bodyOf Tryz.f68)) (.seq (Cat [true, false] (bodyOf Tryz.f68)) (.ret)) from rfl]
  unfold M68
  exact ref_seq (R68_1 _ _) (ref_seq (R68_0 _ _) (ref_ret (fun s st hp => hp)))
noncomputable def G68 (x0 : (List (List (List UInt8)))) (x1 : ((List (List UInt8)) → Option Bool)) : Option Bool := match M68 { (default : Fr68) with t0 := x0, t1 := x1 } with
  | some (.nrm, s) => some s.t4
  | some (.ret, s) => some s.t4
  | _ => none
theorem G68_spec : Spec68 (G68) := by
  intro x0 x1 vx0_0 hvx0_0 vx1_0 hvx1_0 r hr
  unfold G68 at hr
  cases hm : M68 { (default : Fr68) with t0 := x0, t1 := x1 } with
  | none => rw [hm] at hr; cases hr
  | some q =>
    obtain ⟨x, s⟩ := q
    rw [hm] at hr
    have hx : x = .nrm ∨ x = .ret := by cases x <;> first | exact .inl rfl | exact .inr rfl | cases hr
    have hr : s.t4 = r := by cases x <;> first | exact Option.some.inj hr | cases hr
    subst hr
    have hp0 : P68_0' ({ (default : Fr68) with t0 := x0, t1 := x1 }) (slots Tryz.f68 (stripL [vx0_0, vx1_0])) bare := ⟨(strip vx0_0 : AVal), (strip vx1_0 : AVal), rfl, rfl, hvx0_0.strip (rSl_p rS_p), rfl, rFnX1_strip hvx1_0⟩
    obtain ⟨v, hR, hrun⟩ := run_of_ref (C := Cp) (f := 68) (fn := Tryz.f68) Tryz.func68 rfl rfl rfl rfl (args := [vx0_0, vx1_0]) (by simp only [refsL, refs, List.append_nil, hvx0_0.refs (rSl_p rS_p), rFnX1_refs hvx1_0]) (B68) (s0 := { (default : Fr68) with t0 := x0, t1 := x1 }) hp0 hm hx (R := fun v => v = .bool s.t4) (by
      have key : ∀ st : ASt, P68_1 s st → ∃ vs v, aresults Cp Tryz.f68.results.toList st = some vs ∧ Nrm [] st.h (packRes vs) v ∧ (fun v => v = .bool s.t4) v := by
        intro st hp
        obtain ⟨hl, a4⟩ := (hp : P68_1' s st.tmps st.h)
        exact ⟨[.bool s.t4], _, by simp only [show Tryz.f68.results.toList = [ResultVar.tmp 4] from rfl, aresults, ares1, CP, a4, Option.getD_some], (Nrm.of (w := .bool s.t4) (by simp only [refsL, refs, List.append_nil])), rfl⟩
      intro st hq
      rcases hx with rfl | rfl
      · exact key st hq
      · exact key st hq)
    subst hR
    exact hrun
structure Fr23 where
  t0 : Query
  t1 : Query
  t2 : Bool
  t4 : Group
  t6 : (List Group)
  t7 : Int
  t8 : Int
  t9 : Bool
  t26 : Bool
instance : Inhabited Fr23 := ⟨⟨default, default, false, default, [], 0, 0, false, false⟩⟩
def P23_0' (s : Fr23) (t : List AVal) (h : AHeap) : Prop := ∃ i1 w1_0 w1_1 w1_2, t.length = 43 ∧ t[1]? = some (.ptr i1 0) ∧ h.get i1 = some (.arr [w1_0, .str s.t1.Table, w1_1, .bool s.t1.Grouped, w1_2]) ∧ i1 < h.next ∧ Sl rItem s.t1.Items w1_0 ∧ rCondT s.t1.Where [w1_1] ∧ Sl rGroup s.t1.Groups w1_2
def P23_0 (s : Fr23) (st : ASt) : Prop := P23_0' s st.tmps st.h
def P23_1' (s : Fr23) (t : List AVal) (h : AHeap) : Prop := t.length = 43 ∧ t[2]? = some (.bool s.t2)
def P23_1 (s : Fr23) (st : ASt) : Prop := P23_1' s st.tmps st.h
def P23_2' (s : Fr23) (t : List AVal) (h : AHeap) : Prop := ∃ i1 w1_0 w1_1 w1_2 w6_0, t.length = 43 ∧ t[1]? = some (.ptr i1 0) ∧ h.get i1 = some (.arr [w1_0, .str s.t1.Table, w1_1, .bool s.t1.Grouped, w1_2]) ∧ i1 < h.next ∧ Sl rItem s.t1.Items w1_0 ∧ rCondT s.t1.Where [w1_1] ∧ Sl rGroup s.t1.Groups w1_2 ∧ t[6]? = some w6_0 ∧ Sl rGroup s.t6 w6_0 ∧ t[7]? = some (.int .i64 s.t7) ∧ t[8]? = some (.int .i64 s.t8)
def P23_2 (s : Fr23) (st : ASt) : Prop := P23_2' s st.tmps st.h
def P23_3' (s : Fr23) (t : List AVal) (h : AHeap) : Prop := t.length = 43 ∧ True
def P23_3 (s : Fr23) (st : ASt) : Prop := P23_3' s st.tmps st.h
def P23_4' (s : Fr23) (t : List AVal) (h : AHeap) : Prop := ∃ i1 w1_0 w1_1 w1_2 w6_0, t.length = 43 ∧ t[1]? = some (.ptr i1 0) ∧ h.get i1 = some (.arr [w1_0, .str s.t1.Table, w1_1, .bool s.t1.Grouped, w1_2]) ∧ i1 < h.next ∧ Sl rItem s.t1.Items w1_0 ∧ rCondT s.t1.Where [w1_1] ∧ Sl rGroup s.t1.Groups w1_2 ∧ t[6]? = some w6_0 ∧ Sl rGroup s.t6 w6_0 ∧ t[7]? = some (.int .i64 s.t7) ∧ t[8]? = some (.int .i64 s.t8) ∧ t[26]? = some (.bool s.t26)
def P23_4 (s : Fr23) (st : ASt) : Prop := P23_4' s st.tmps st.h
def P23_5' (s : Fr23) (t : List AVal) (h : AHeap) : Prop := ∃ i1 w1_0 w1_1 w1_2 i4 w4_0 w4_1 w6_0, t.length = 43 ∧ t[1]? = some (.ptr i1 0) ∧ h.get i1 = some (.arr [w1_0, .str s.t1.Table, w1_1, .bool s.t1.Grouped, w1_2]) ∧ i1 < h.next ∧ Sl rItem s.t1.Items w1_0 ∧ rCondT s.t1.Where [w1_1] ∧ Sl rGroup s.t1.Groups w1_2 ∧ t[4]? = some (.ptr i4 0) ∧ h.get i4 = some (.arr [.int .i64 s.t4.Kind, w4_0, w4_1]) ∧ i4 < h.next ∧ Sl rS s.t4.Columns w4_0 ∧ Sl (rSl rS) s.t4.Sets w4_1 ∧ t[6]? = some w6_0 ∧ Sl rGroup s.t6 w6_0 ∧ t[7]? = some (.int .i64 s.t7) ∧ t[8]? = some (.int .i64 s.t8) ∧ i1 ≠ i4
def P23_5 (s : Fr23) (st : ASt) : Prop := P23_5' s st.tmps st.h
def P23_6' (s : Fr23) (t : List AVal) (h : AHeap) : Prop := ∃ i1 w1_0 w1_1 w1_2 w6_0, t.length = 43 ∧ t[1]? = some (.ptr i1 0) ∧ h.get i1 = some (.arr [w1_0, .str s.t1.Table, w1_1, .bool s.t1.Grouped, w1_2]) ∧ i1 < h.next ∧ Sl rItem s.t1.Items w1_0 ∧ rCondT s.t1.Where [w1_1] ∧ Sl rGroup s.t1.Groups w1_2 ∧ t[6]? = some w6_0 ∧ Sl rGroup s.t6 w6_0 ∧ t[7]? = some (.int .i64 s.t7) ∧ t[8]? = some (.int .i64 s.t8) ∧ t[9]? = some (.bool s.t9)
def P23_6 (s : Fr23) (st : ASt) : Prop := P23_6' s st.tmps st.h
def P23_7' (s : Fr23) (t : List AVal) (h : AHeap) : Prop := ∃ w0_0 w0_1 w0_2, t.length = 43 ∧ t[0]? = some (.agg [w0_0, .str s.t0.Table, w0_1, .bool s.t0.Grouped, w0_2]) ∧ Sl rItem s.t0.Items w0_0 ∧ rCondT s.t0.Where [w0_1] ∧ Sl rGroup s.t0.Groups w0_2
def P23_7 (s : Fr23) (st : ASt) : Prop := P23_7' s st.tmps st.h
noncomputable def m23_0 : Mo Fr23 := fun s => (cond ((decide ((s.t1.Items.length : Int) ≤ 16)) && (decide ((s.t1.Groups.length : Int) ≤ 16))) ((F24 5000 s.t1.Where 1 G70).bind fun z6 => some z6) (some false)).bind fun x8 => some (.nrm, { s with t2 := (((decide ((s.t1.Items.length : Int) ≤ 16)) && (decide ((s.t1.Groups.length : Int) ≤ 16))) && x8) })
noncomputable def m23_1 : Mo Fr23 := fun s => some (.nrm, { s with t8 := IntKind.wrap .i64 (s.t8 + 1) })
noncomputable def m23_2 : Mo Fr23 := fun s => some (.nrm, { s with t2 := false })
noncomputable def m23_3 : Mo Fr23 := fun s => (cond (!((decide ((s.t4.Columns.length : Int) > 16)) || (decide ((s.t4.Sets.length : Int) > 64)))) ((G68 s.t4.Sets G69).bind fun z23 => some z23) (some false)).bind fun x25 => some (.nrm, { s with t26 := (((decide ((s.t4.Columns.length : Int) > 16)) || (decide ((s.t4.Sets.length : Int) > 64))) || x25) })
noncomputable def m23_4 : Mo Fr23 := fun s => (at? s.t6 s.t8).bind fun y35 => some (.nrm, { s with t4 := y35 })
noncomputable def m23_5 : Mo Fr23 := fun s => some (.nrm, { s with t9 := decide (s.t8 < s.t7) })
noncomputable def L23_6 : Mo Fr23 := seqM (m23_5) (seqM (condM (fun s => s.t9) (skipM) (exitM 0)) (seqM (blockM 1 (seqM (m23_4) (seqM (m23_3) (condM (fun s => s.t26) (seqM (m23_2) (retM)) (skipM))))) (m23_1)))
noncomputable def m23_7 : Mo Fr23 := fun s => some (.nrm, { s with t6 := s.t1.Groups, t7 := (s.t1.Groups.length : Int), t8 := 0 })
noncomputable def m23_8 : Mo Fr23 := fun s => some (.nrm, { s with t1 := s.t0 })
noncomputable def M23 : Mo Fr23 := seqM (m23_8) (seqM (seqM (m23_7) (blockM 0 (loopM (L23_6)))) (seqM (m23_0) (retM)))
def Spec23 (f : Query → Option Bool) : Prop := ∀ (x0 : Query) (vx0_0 : AVal) (_ : Sl rItem x0.Items vx0_0) (vx0_1 : AVal) (_ : rCondT x0.Where [vx0_1]) (vx0_2 : AVal) (_ : Sl rGroup x0.Groups vx0_2) (r : Bool), f x0 = some r → ∀ h, run Cp 23 [.agg [vx0_0, .str x0.Table, vx0_1, .bool x0.Grouped, vx0_2]] h = some (.ret (.bool r), h)
theorem R23_0 (pe pr) : Ref Cp P23_0 (Cat [true, true, false] (bodyOf Tryz.f23)) m23_0 (post P23_1 pe pr) := by
  rintro s ⟨t, h⟩ hp x s' hm
  obtain ⟨i1, w1_0, w1_1, w1_2, hl, a1, g1, l1, r1_0, r1_1, r1_2⟩ : P23_0' s t h := hp
  unfold m23_0 at hm
  have k9 : loadA h false 1 (.ptr i1 0) = some w1_0 := by rw [Heap.load_gen g1 (Nat.le_of_ble_eq_true rfl)]; first | rfl | exact ofc1 _ _ _
  have lu10 := fun h => Sl.len r1_0 TyX.un23 h
  cases hb11 : decide ((s.t1.Items.length : Int) ≤ 16) with
  | true =>
    all_goals (
      try simp only [hb11, Zb] at hm
      have k12 : loadA h false 1 (.ptr i1 4) = some w1_2 := by rw [Heap.load_gen g1 (Nat.le_of_ble_eq_true rfl)]; first | rfl | exact ofc1 _ _ _
      have lu13 := fun h => Sl.len r1_2 TyX.un25 h
      cases hb14 : decide ((s.t1.Groups.length : Int) ≤ 16) with
      | true =>
        all_goals (
          try simp only [hb14, Zb] at hm
          have k15 : loadA h false 1 (.ptr i1 2) = some w1_1 := by rw [Heap.load_gen g1 (Nat.le_of_ble_eq_true rfl)]; first | rfl | exact ofc1 _ _ _
          obtain ⟨z16, hz16, hm⟩ := Option.bind_eq_some_iff.1 hm
          have iu17 := (F24_spec 5000) s.t1.Where 1 G70 _ r1_1 _ (show rFnX0 (G70) (.fn (.func 70) [] []) from ⟨70, [], rfl, rfl, rfl, G70_spec⟩) _ hz16
          try simp only [Zb] at hm
          cases hm
          refine ⟨⟨_, _⟩, by simp only [bodyOf, Tryz.f23, Cat, Zs, awanted, aoper, evalO, put, acallOp, abuiltin, Nat.reduceEqDiff, Nat.reduceLT, ofV, ofCell, ↓reduceIte, hl, a1, CP, Bool.not_false, Bool.not_true, TyX.fa27_0, dropCells, Nat.zero_add, Nat.reduceAdd, k9, TyX.ld23, lu10, TyX.fa27_4, k12, TyX.ld25, lu13, TyX.fa27_2, k15, TyX.ld24, iu17, hb11, hb14]; exact rfl, ?_⟩
          show P23_1 _ _
          exact ⟨by simp [hl], by simp [hl, hb11, hb14]⟩)
      | false =>
        all_goals (
          try simp only [hb14, Zb] at hm
          cases hm
          refine ⟨⟨_, _⟩, by simp only [bodyOf, Tryz.f23, Cat, Zs, awanted, aoper, evalO, put, acallOp, abuiltin, Nat.reduceEqDiff, Nat.reduceLT, ofV, ofCell, ↓reduceIte, hl, a1, CP, Bool.not_false, Bool.not_true, TyX.fa27_0, dropCells, Nat.zero_add, Nat.reduceAdd, k9, TyX.ld23, lu10, TyX.fa27_4, k12, TyX.ld25, lu13, hb11, hb14]; exact rfl, ?_⟩
          show P23_1 _ _
          exact ⟨by simp [hl], by simp [hl, hb11, hb14]⟩))
  | false =>
    all_goals (
      try simp only [hb11, Zb] at hm
      cases hm
      refine ⟨⟨_, _⟩, by simp only [bodyOf, Tryz.f23, Cat, Zs, awanted, aoper, evalO, put, acallOp, abuiltin, Nat.reduceEqDiff, Nat.reduceLT, ofV, ofCell, ↓reduceIte, hl, a1, CP, Bool.not_false, Bool.not_true, TyX.fa27_0, dropCells, Nat.zero_add, Nat.reduceAdd, k9, TyX.ld23, lu10, hb11]; exact rfl, ?_⟩
      show P23_1 _ _
      exact ⟨by simp [hl], by simp [hl, hb11]⟩)
theorem R23_1 (pe pr) : Ref Cp P23_2 (Cat [true, false, true, true, true, true, true, true] (bodyOf Tryz.f23)) m23_1 (post P23_2 pe pr) := by
  rintro s ⟨t, h⟩ hp x s' hm
  obtain ⟨i1, w1_0, w1_1, w1_2, w6_0, hl, a1, g1, l1, r1_0, r1_1, r1_2, a6, r6_0, a7, a8⟩ : P23_2' s t h := hp
  unfold m23_1 at hm
  cases hm
  refine ⟨⟨_, _⟩, by simp only [bodyOf, Tryz.f23, Cat, Zs, awanted, aoper, evalO, put, acallOp, abuiltin, Nat.reduceEqDiff, Nat.reduceLT, ofV, ofCell, ↓reduceIte, hl, a1, a6, a7, a8, CP, Bool.not_false, Bool.not_true]; exact rfl, ?_⟩
  show P23_2 _ _
  exact ⟨i1, w1_0, w1_1, w1_2, w6_0, by simp [hl], by simp [a1], g1, l1, r1_0, r1_1, r1_2, by simp [a6], r6_0, by simp [a7], by simp [hl]⟩
theorem R23_2 (pe pr) : Ref Cp P23_3 (Cat [true, false, true, true, true, true, true, false, true, true, true, false, false] (bodyOf Tryz.f23)) m23_2 (post P23_1 pe pr) := by
  rintro s ⟨t, h⟩ hp x s' hm
  obtain ⟨hl, _⟩ : P23_3' s t h := hp
  unfold m23_2 at hm
  cases hm
  refine ⟨⟨_, _⟩, by simp only [bodyOf, Tryz.f23, Cat, Zs, awanted, aoper, evalO, put, acallOp, abuiltin, Nat.reduceEqDiff, Nat.reduceLT, ofV, ofCell, ↓reduceIte, hl, CP, Bool.not_false, Bool.not_true]; exact rfl, ?_⟩
  show P23_1 _ _
  exact ⟨by simp [hl], by simp [hl]⟩
theorem R23_3 (pe pr) : Ref Cp P23_5 (Cat [true, false, true, true, true, true, true, false, true, true, false] (bodyOf Tryz.f23)) m23_3 (post P23_4 pe pr) := by
  rintro s ⟨t, h⟩ hp x s' hm
  obtain ⟨i1, w1_0, w1_1, w1_2, i4, w4_0, w4_1, w6_0, hl, a1, g1, l1, r1_0, r1_1, r1_2, a4, g4, l4, r4_0, r4_1, a6, r6_0, a7, a8, ne1_4⟩ : P23_5' s t h := hp
  unfold m23_3 at hm
  have k26 : loadA h false 1 (.ptr i4 1) = some w4_0 := by rw [Heap.load_gen g4 (Nat.le_of_ble_eq_true rfl)]; first | rfl | exact ofc1 _ _ _
  have lu27 := fun h => Sl.len r4_0 TyX.un52 h
  cases hb28 : decide ((s.t4.Columns.length : Int) > 16) with
  | true =>
    all_goals (
      try simp only [hb28, Zb] at hm
      cases hm
      refine ⟨⟨_, _⟩, by simp only [bodyOf, Tryz.f23, Cat, Zs, awanted, aoper, evalO, put, acallOp, abuiltin, Nat.reduceEqDiff, Nat.reduceLT, ofV, ofCell, ↓reduceIte, hl, a1, a4, a6, a7, a8, CP, Bool.not_false, Bool.not_true, TyX.fa65_1, dropCells, Nat.zero_add, Nat.reduceAdd, k26, TyX.ld52, lu27, hb28]; exact rfl, ?_⟩
      show P23_4 _ _
      exact ⟨i1, w1_0, w1_1, w1_2, w6_0, by simp [hl], by simp [a1], g1, l1, r1_0, r1_1, r1_2, by simp [a6], r6_0, by simp [a7], by simp [a8], by simp [hl, hb28]⟩)
  | false =>
    all_goals (
      try simp only [hb28, Zb] at hm
      have k29 : loadA h false 1 (.ptr i4 2) = some w4_1 := by rw [Heap.load_gen g4 (Nat.le_of_ble_eq_true rfl)]; first | rfl | exact ofc1 _ _ _
      have lu30 := fun h => Sl.len r4_1 TyX.un63 h
      cases hb31 : decide ((s.t4.Sets.length : Int) > 64) with
      | true =>
        all_goals (
          try simp only [hb31, Zb] at hm
          cases hm
          refine ⟨⟨_, _⟩, by simp only [bodyOf, Tryz.f23, Cat, Zs, awanted, aoper, evalO, put, acallOp, abuiltin, Nat.reduceEqDiff, Nat.reduceLT, ofV, ofCell, ↓reduceIte, hl, a1, a4, a6, a7, a8, CP, Bool.not_false, Bool.not_true, TyX.fa65_1, dropCells, Nat.zero_add, Nat.reduceAdd, k26, TyX.ld52, lu27, TyX.fa65_2, k29, TyX.ld63, lu30, hb28, hb31]; exact rfl, ?_⟩
          show P23_4 _ _
          exact ⟨i1, w1_0, w1_1, w1_2, w6_0, by simp [hl], by simp [a1], g1, l1, r1_0, r1_1, r1_2, by simp [a6], r6_0, by simp [a7], by simp [a8], by simp [hl, hb28, hb31]⟩)
      | false =>
        all_goals (
          try simp only [hb31, Zb] at hm
          have k32 : loadA h false 1 (.ptr i4 2) = some w4_1 := by rw [Heap.load_gen g4 (Nat.le_of_ble_eq_true rfl)]; first | rfl | exact ofc1 _ _ _
          obtain ⟨z33, hz33, hm⟩ := Option.bind_eq_some_iff.1 hm
          have iu34 := G68_spec s.t4.Sets G69 _ r4_1 _ (show rFnX1 (G69) (.fn (.func 69) [] []) from ⟨69, [], rfl, rfl, rfl, G69_spec⟩) _ hz33
          try simp only [Zb] at hm
          cases hm
          refine ⟨⟨_, _⟩, by simp only [bodyOf, Tryz.f23, Cat, Zs, awanted, aoper, evalO, put, acallOp, abuiltin, Nat.reduceEqDiff, Nat.reduceLT, ofV, ofCell, ↓reduceIte, hl, a1, a4, a6, a7, a8, CP, Bool.not_false, Bool.not_true, TyX.fa65_1, dropCells, Nat.zero_add, Nat.reduceAdd, k26, TyX.ld52, lu27, TyX.fa65_2, k29, TyX.ld63, lu30, k32, iu34, hb28, hb31]; exact rfl, ?_⟩
          show P23_4 _ _
          exact ⟨i1, w1_0, w1_1, w1_2, w6_0, by simp [hl], by simp [a1], g1, l1, r1_0, r1_1, r1_2, by simp [a6], r6_0, by simp [a7], by simp [a8], by simp [hl, hb28, hb31]⟩))
theorem R23_4 (pe pr) : Ref Cp P23_2 (Cat [true, false, true, true, true, true, true, false, true, false] (bodyOf Tryz.f23)) m23_4 (post P23_5 pe pr) := by
  rintro s ⟨t, h⟩ hp x s' hm
  obtain ⟨i1, w1_0, w1_1, w1_2, w6_0, hl, a1, g1, l1, r1_0, r1_1, r1_2, a6, r6_0, a7, a8⟩ : P23_2' s t h := hp
  unfold m23_4 at hm
  obtain ⟨y53, hy53, hm⟩ := Option.bind_eq_some_iff.1 hm
  obtain ⟨cu54, du54, eu54, iu54, _⟩ := Sl.ix rGroup_p r6_0 hy53
  obtain ⟨bu54_0, bu54_1, rfl, gu54_0, gu54_1⟩ := eu54
  obtain ⟨H55, eH55⟩ : ∃ x : AHeap, x = h.new (.arr [.int .i64 0, .nilSl, .nilSl]) := ⟨_, rfl⟩
  obtain ⟨id56, eid56⟩ : ∃ x : Nat, x = h.next := ⟨_, rfl⟩
  have k57 := gnl eH55 l1 g1
  have k58 : i1 < H55.next := by rw [eH55, Heap.new_next]; exact Nat.lt_succ_of_lt l1
  have k59 : H55.get id56 = some (.arr [.int .i64 0, .nilSl, .nilSl]) := by rw [eH55, eid56]; exact Heap.get_new_eq
  have k60 : id56 < H55.next := by rw [eH55, eid56, Heap.new_next]; exact Nat.lt_succ_self _
  have k61 : i1 ≠ id56 := by rw [eid56]; exact Nat.ne_of_lt l1
  have k62 : abox h (.agg [.int .i64 0, .nilSl, .nilSl]) = some (.ptr id56 0, H55) := by simp only [abox, eH55, eid56, Zc, if_true]
  have ic63 : (bu54_0 : AVal).isCell = true := Sl.isCell gu54_0
  have ic64 : (bu54_1 : AVal).isCell = true := Sl.isCell gu54_1
  obtain ⟨H65, eH65⟩ : ∃ x : AHeap, x = H55.set id56 (some (.arr [.int .i64 y53.Kind, bu54_0, bu54_1])) := ⟨_, rfl⟩
  have k66 : storeA H55 3 (.ptr id56 0) (.agg [.int .i64 y53.Kind, bu54_0, bu54_1]) = some H65 := by rw [eH65]; exact Heap.store_gen k59 (show (.agg [.int .i64 y53.Kind, bu54_0, bu54_1] : AVal).cells = [.int .i64 y53.Kind, bu54_0, bu54_1] by simp only [Zc, ic63, bx_c ic63, cl_c ic63, ic64, bx_c ic64, cl_c ic64]) rfl (by simp only [Zc, ic63, bx_c ic63, cl_c ic63, ic64, bx_c ic64, cl_c ic64]) (Nat.le_of_ble_eq_true rfl) rfl
  have k67 := gsn eH65 k61 k57
  have k68 := nxs eH65 k58
  have k69 := gse eH65
  have k70 := nxs eH65 k60
  cases hm
  refine ⟨⟨_, _⟩, by simp only [bodyOf, Tryz.f23, Cat, Zs, awanted, aoper, evalO, put, acallOp, abuiltin, Nat.reduceEqDiff, Nat.reduceLT, ofV, ofCell, ↓reduceIte, hl, a1, a6, a7, a8, CP, Bool.not_false, Bool.not_true, TyX.ix25, iu54, TyX.ld65, ld_ip, ofc3, List.drop_succ_cons, List.drop_zero, List.length_cons, List.length_nil, TyX.ze65, TyX.own_parse_go_222, k62, k66, TyX.st65]; exact rfl, ?_⟩
  show P23_5 _ _
  exact ⟨i1, w1_0, w1_1, w1_2, id56, bu54_0, bu54_1, w6_0, by simp [hl], by simp [a1], k67, k68, r1_0, r1_1, r1_2, by simp [hl], k69, k70, gu54_0, gu54_1, by simp [a6], r6_0, by simp [a7], by simp [a8], k61⟩
theorem R23_5 (pe pr) : Ref Cp P23_2 (Cat [true, false, true, true, true, false] (bodyOf Tryz.f23)) m23_5 (post P23_6 pe pr) := by
  rintro s ⟨t, h⟩ hp x s' hm
  obtain ⟨i1, w1_0, w1_1, w1_2, w6_0, hl, a1, g1, l1, r1_0, r1_1, r1_2, a6, r6_0, a7, a8⟩ : P23_2' s t h := hp
  unfold m23_5 at hm
  cases hm
  refine ⟨⟨_, _⟩, by simp only [bodyOf, Tryz.f23, Cat, Zs, awanted, aoper, evalO, put, acallOp, abuiltin, Nat.reduceEqDiff, Nat.reduceLT, ofV, ofCell, ↓reduceIte, hl, a1, a6, a7, a8, CP, Bool.not_false, Bool.not_true]; exact rfl, ?_⟩
  show P23_6 _ _
  exact ⟨i1, w1_0, w1_1, w1_2, w6_0, by simp [hl], by simp [a1], g1, l1, r1_0, r1_1, r1_2, by simp [a6], r6_0, by simp [a7], by simp [a8], by simp [hl]⟩
theorem R23_7 (pe pr) : Ref Cp P23_0 (Cat [true, false, false] (bodyOf Tryz.f23)) m23_7 (post P23_2 pe pr) := by
  rintro s ⟨t, h⟩ hp x s' hm
  obtain ⟨i1, w1_0, w1_1, w1_2, hl, a1, g1, l1, r1_0, r1_1, r1_2⟩ : P23_0' s t h := hp
  unfold m23_7 at hm
  have k73 : loadA h false 1 (.ptr i1 4) = some w1_2 := by rw [Heap.load_gen g1 (Nat.le_of_ble_eq_true rfl)]; first | rfl | exact ofc1 _ _ _
  have lu74 := fun h => Sl.len r1_2 TyX.un25 h
  cases hm
  refine ⟨⟨_, _⟩, by simp only [bodyOf, Tryz.f23, Cat, Zs, awanted, aoper, evalO, put, acallOp, abuiltin, Nat.reduceEqDiff, Nat.reduceLT, ofV, ofCell, ↓reduceIte, hl, a1, CP, Bool.not_false, Bool.not_true, TyX.fa27_4, dropCells, Nat.zero_add, Nat.reduceAdd, k73, TyX.ld25, lu74]; exact rfl, ?_⟩
  show P23_2 _ _
  exact ⟨i1, w1_0, w1_1, w1_2, w1_2, by simp [hl], by simp [a1], g1, l1, r1_0, r1_1, r1_2, by simp [hl], r1_2, by simp [hl], by simp [hl]⟩
theorem R23_8 (pe pr) : Ref Cp P23_7 (Cat [false] (bodyOf Tryz.f23)) m23_8 (post P23_0 pe pr) := by
  rintro s ⟨t, h⟩ hp x s' hm
  obtain ⟨w0_0, w0_1, w0_2, hl, a0, r0_0, r0_1, r0_2⟩ : P23_7' s t h := hp
  unfold m23_8 at hm
  obtain ⟨H83, eH83⟩ : ∃ x : AHeap, x = h.new (.arr [w0_0, .str s.t0.Table, w0_1, .bool s.t0.Grouped, w0_2]) := ⟨_, rfl⟩
  obtain ⟨id84, eid84⟩ : ∃ x : Nat, x = h.next := ⟨_, rfl⟩
  have k85 : H83.get id84 = some (.arr [w0_0, .str s.t0.Table, w0_1, .bool s.t0.Grouped, w0_2]) := by rw [eH83, eid84]; exact Heap.get_new_eq
  have k86 : id84 < H83.next := by rw [eH83, eid84, Heap.new_next]; exact Nat.lt_succ_self _
  have ic87 : (w0_0 : AVal).isCell = true := Sl.isCell r0_0
  have ic88 : (w0_1 : AVal).isCell = true := rCondT_cell r0_1
  have ic89 : (w0_2 : AVal).isCell = true := Sl.isCell r0_2
  have k90 : abox h (.agg [w0_0, .str s.t0.Table, w0_1, .bool s.t0.Grouped, w0_2]) = some (.ptr id84 0, H83) := by simp only [abox, eH83, eid84, Zc, if_true, ic87, bx_c ic87, cl_c ic87, ic88, bx_c ic88, cl_c ic88, ic89, bx_c ic89, cl_c ic89]
  cases hm
  refine ⟨⟨_, _⟩, by simp only [bodyOf, Tryz.f23, Cat, Zs, awanted, aoper, evalO, put, acallOp, abuiltin, Nat.reduceEqDiff, Nat.reduceLT, ofV, ofCell, ↓reduceIte, hl, a0, CP, Bool.not_false, Bool.not_true, TyX.nc_parse_go_221, TyX.own_parse_go_221, k90]; exact rfl, ?_⟩
  show P23_0 _ _
  exact ⟨id84, w0_0, w0_1, w0_2, by simp [hl], by simp [hl], k85, k86, r0_0, r0_1, r0_2⟩
theorem B23 : Ref Cp P23_7 (bodyOf Tryz.f23) (M23) (post P23_1 (fun _ _ _ => False) P23_1) := by
  rw [show bodyOf Tryz.f23 = .seq (Cat [false] (bodyOf Tryz.f23)) (.seq (.seq (Cat [true, false, false] (bodyOf Tryz.f23)) (.block 0 (.loop (.seq (Cat [true, false, true, true, true, false] (bodyOf Tryz.f23)) (.seq (.cond (.tmp 9) (.skip) (.exit 0)) (.seq (.block 1 (.seq (Cat [true, false, true, true, true, true, true, false, true, false] (bodyOf Tryz.f23)) (.seq (Cat [true, false, true, true, true, true, true, false, true, true, false] (bodyOf Tryz.f23)) (.cond (.tmp 26) (.seq (Cat [true, false, true, true, true, true, true, false, true, true, true, false, false] (bodyOf Tryz.f23)) (.ret)) (.skip))))) (Cat [true, false, true, true, true, true, true, true] (bodyOf Tryz.f23)))))))) (.seq (Cat [true, true, false] (bodyOf Tryz.f23)) (.ret))) from rfl]
  unfold M23
  exact ref_seq (R23_8 _ _) (ref_seq (ref_seq (R23_7 _ _) (ref_block (ref_loop (P := P23_2) (ref_weak (P' := P23_2) (fun s st hp => hp) (ref_seq (R23_5 _ _) (ref_seq (ref_cond (P := P23_6) (c := fun s => s.t9) (fun s st hp => by obtain ⟨i1, w1_0, w1_1, w1_2, w6_0, hl, a1, g1, l1, r1_0, r1_1, r1_2, a6, r6_0, a7, a8, a9⟩ := (hp : P23_6' s st.tmps st.h); simp only [evalO, a9, Option.getD_some]) (ref_weak (P' := P23_2) (fun s st hp => by obtain ⟨i1, w1_0, w1_1, w1_2, w6_0, hl, a1, g1, l1, r1_0, r1_1, r1_2, a6, r6_0, a7, a8, a9⟩ := (hp : P23_6' s st.tmps st.h); exact (⟨i1, w1_0, w1_1, w1_2, w6_0, hl, a1, g1, l1, r1_0, r1_1, r1_2, a6, r6_0, a7, a8⟩ : P23_2' s st.tmps st.h)) (ref_skip (fun s st hp => hp))) (ref_weak (P' := P23_0) (fun s st hp => by obtain ⟨i1, w1_0, w1_1, w1_2, w6_0, hl, a1, g1, l1, r1_0, r1_1, r1_2, a6, r6_0, a7, a8, a9⟩ := (hp : P23_6' s st.tmps st.h); exact (⟨i1, w1_0, w1_1, w1_2, hl, a1, g1, l1, r1_0, r1_1, r1_2⟩ : P23_0' s st.tmps st.h)) (ref_exit (fun s st hp => hp)))) (ref_seq (ref_block (ref_seq (R23_4 _ _) (ref_seq (R23_3 _ _) (ref_cond (P := P23_4) (c := fun s => s.t26) (fun s st hp => by obtain ⟨i1, w1_0, w1_1, w1_2, w6_0, hl, a1, g1, l1, r1_0, r1_1, r1_2, a6, r6_0, a7, a8, a26⟩ := (hp : P23_4' s st.tmps st.h); simp only [evalO, a26, Option.getD_some]) (ref_weak (P' := P23_3) (fun s st hp => by obtain ⟨i1, w1_0, w1_1, w1_2, w6_0, hl, a1, g1, l1, r1_0, r1_1, r1_2, a6, r6_0, a7, a8, a26⟩ := (hp : P23_4' s st.tmps st.h); exact (⟨hl, trivial⟩ : P23_3' s st.tmps st.h)) (ref_seq (R23_2 _ _) (ref_ret (fun s st hp => hp)))) (ref_weak (P' := P23_2) (fun s st hp => by obtain ⟨i1, w1_0, w1_1, w1_2, w6_0, hl, a1, g1, l1, r1_0, r1_1, r1_2, a6, r6_0, a7, a8, a26⟩ := (hp : P23_4' s st.tmps st.h); exact (⟨i1, w1_0, w1_1, w1_2, w6_0, hl, a1, g1, l1, r1_0, r1_1, r1_2, a6, r6_0, a7, a8⟩ : P23_2' s st.tmps st.h)) (ref_skip (fun s st hp => hp))))))) (R23_1 _ _)))))))) (ref_seq (R23_0 _ _) (ref_ret (fun s st hp => hp))))
noncomputable def G23 (x0 : Query) : Option Bool := match M23 { (default : Fr23) with t0 := x0 } with
  | some (.nrm, s) => some s.t2
  | some (.ret, s) => some s.t2
  | _ => none
theorem G23_spec : Spec23 (G23) := by
  intro x0 vx0_0 hvx0_0 vx0_1 hvx0_1 vx0_2 hvx0_2 r hr
  unfold G23 at hr
  cases hm : M23 { (default : Fr23) with t0 := x0 } with
  | none => rw [hm] at hr; cases hr
  | some q =>
    obtain ⟨x, s⟩ := q
    rw [hm] at hr
    have hx : x = .nrm ∨ x = .ret := by cases x <;> first | exact .inl rfl | exact .inr rfl | cases hr
    have hr : s.t2 = r := by cases x <;> first | exact Option.some.inj hr | cases hr
    subst hr
    have hp0 : P23_7' ({ (default : Fr23) with t0 := x0 }) (slots Tryz.f23 (stripL [.agg [vx0_0, .str x0.Table, vx0_1, .bool x0.Grouped, vx0_2]])) bare := ⟨(strip vx0_0 : AVal), (strip vx0_1 : AVal), (strip vx0_2 : AVal), rfl, rfl, hvx0_0.strip rItem_p, rCondT_p.str _ _ hvx0_1, hvx0_2.strip rGroup_p⟩
    obtain ⟨v, hR, hrun⟩ := run_of_ref (C := Cp) (f := 23) (fn := Tryz.f23) Tryz.func23 rfl rfl rfl rfl (args := [.agg [vx0_0, .str x0.Table, vx0_1, .bool x0.Grouped, vx0_2]]) (by simp only [refsL, refs, List.append_nil, hvx0_0.refs rItem_p, refs_one (rCondT_p.ref _ _ hvx0_1), hvx0_2.refs rGroup_p]) (B23) (s0 := { (default : Fr23) with t0 := x0 }) hp0 hm hx (R := fun v => v = .bool s.t2) (by
      have key : ∀ st : ASt, P23_1 s st → ∃ vs v, aresults Cp Tryz.f23.results.toList st = some vs ∧ Nrm [] st.h (packRes vs) v ∧ (fun v => v = .bool s.t2) v := by
        intro st hp
        obtain ⟨hl, a2⟩ := (hp : P23_1' s st.tmps st.h)
        exact ⟨[.bool s.t2], _, by simp only [show Tryz.f23.results.toList = [ResultVar.tmp 2] from rfl, aresults, ares1, CP, a2, Option.getD_some], (Nrm.of (w := .bool s.t2) (by simp only [refsL, refs, List.append_nil])), rfl⟩
      intro st hq
      rcases hx with rfl | rfl
      · exact key st hq
      · exact key st hq)
    subst hR
    exact hrun
def Spec20 (f : (List UInt8) → Option ((List Word) × Fault)) : Prop := ∀ (x0 : (List UInt8)) (r : ((List Word) × Fault)), f x0 = some r → ∃ y0_0, Sl rWord r.1 y0_0 ∧ ∀ h, run Cp 20 [.str x0] h = some (.ret (.tup [y0_0, .agg [.int .i64 r.2.Code, .int .i64 r.2.At]]), h)
def S20 (s : List UInt8) : Option ((List Word) × Fault) := some (match words s with
  | .ok ws => (ws, ⟨0, 0⟩)
  | .er f => ([], f))
theorem S20_spec : Spec20 S20 := by
  intro s r hr
  have w := words_run s
  unfold S20 at hr
  cases hq : words s with
  | ok ws =>
    rw [hq] at hr w
    cases hr
    exact w
  | er f =>
    rw [hq] at hr w
    cases hr
    exact ⟨.nilSl, .nil, w⟩
def Spec22 (f : (List Word) → Option (Query × Fault)) : Prop := ∀ (x0 : (List Word)) (vx0_0 : AVal) (_ : Sl rWord x0 vx0_0) (r : (Query × Fault)), f x0 = some r → ∃ y0_0 y0_1 y0_2, Sl rItem r.1.Items y0_0 ∧ rCondT r.1.Where [y0_1] ∧ Sl rGroup r.1.Groups y0_2 ∧ ∀ h, run Cp 22 [vx0_0] h = some (.ret (.tup [.agg [y0_0, .str r.1.Table, y0_1, .bool r.1.Grouped, y0_2], .agg [.int .i64 r.2.Code, .int .i64 r.2.At]]), h)
open Classical in
noncomputable def S22 (ws : List Word) : Option (Query × Fault) := if Wf ws ws then (match pQuery ws with
  | .ok q _ => some (q, ⟨0, 0⟩)
  | .er e => some (zQ, e)
  | .out => none) else none
theorem S22_spec : Spec22 S22 := by
  intro ws v hv r hr
  unfold S22 at hr
  split at hr
  case isFalse => cases hr
  rename_i hw
  have w := read_run hw hv
  cases hq : pQuery ws with
  | out => rw [hq] at hr; cases hr
  | ok q r' =>
    rw [hq] at hr w
    cases hr
    exact w
  | er e =>
    rw [hq] at hr w
    cases hr
    exact ⟨.nilSl, .nilPtr, .nilSl, .nil, rfl, .nil, w⟩
structure Fr12 where
  t0 : (List UInt8)
  t2 : Query
  t3 : Fault
  t4 : (List Word)
  t5 : Fault
  t6 : Query
  t14 : Bool
  t22 : Bool
  t28 : Bool
  t34 : Bool
instance : Inhabited Fr12 := ⟨⟨[], default, default, [], default, default, false, false, false, false⟩⟩
def P12_0' (s : Fr12) (t : List AVal) (h : AHeap) : Prop := ∃ i2 w2_0 w2_1 w2_2 i3 i6 w6_0 w6_1 w6_2, t.length = 43 ∧ t[2]? = some (.ptr i2 0) ∧ h.get i2 = some (.arr [w2_0, .str s.t2.Table, w2_1, .bool s.t2.Grouped, w2_2]) ∧ i2 < h.next ∧ Sl rItem s.t2.Items w2_0 ∧ rCondT s.t2.Where [w2_1] ∧ Sl rGroup s.t2.Groups w2_2 ∧ t[3]? = some (.ptr i3 0) ∧ h.get i3 = some (.arr [.int .i64 s.t3.Code, .int .i64 s.t3.At]) ∧ i3 < h.next ∧ t[6]? = some (.ptr i6 0) ∧ h.get i6 = some (.arr [w6_0, .str s.t6.Table, w6_1, .bool s.t6.Grouped, w6_2]) ∧ i6 < h.next ∧ Sl rItem s.t6.Items w6_0 ∧ rCondT s.t6.Where [w6_1] ∧ Sl rGroup s.t6.Groups w6_2 ∧ i2 ≠ i3 ∧ i2 ≠ i6 ∧ i3 ≠ i6
def P12_0 (s : Fr12) (st : ASt) : Prop := P12_0' s st.tmps st.h
def P12_1' (s : Fr12) (t : List AVal) (h : AHeap) : Prop := ∃ i2 w2_0 w2_1 w2_2 i3, t.length = 43 ∧ t[2]? = some (.ptr i2 0) ∧ h.get i2 = some (.arr [w2_0, .str s.t2.Table, w2_1, .bool s.t2.Grouped, w2_2]) ∧ i2 < h.next ∧ Sl rItem s.t2.Items w2_0 ∧ rCondT s.t2.Where [w2_1] ∧ Sl rGroup s.t2.Groups w2_2 ∧ t[3]? = some (.ptr i3 0) ∧ h.get i3 = some (.arr [.int .i64 s.t3.Code, .int .i64 s.t3.At]) ∧ i3 < h.next ∧ i2 ≠ i3
def P12_1 (s : Fr12) (st : ASt) : Prop := P12_1' s st.tmps st.h
def P12_2' (s : Fr12) (t : List AVal) (h : AHeap) : Prop := ∃ i2 w2_0 w2_1 w2_2 i3 i5, t.length = 43 ∧ t[2]? = some (.ptr i2 0) ∧ h.get i2 = some (.arr [w2_0, .str s.t2.Table, w2_1, .bool s.t2.Grouped, w2_2]) ∧ i2 < h.next ∧ Sl rItem s.t2.Items w2_0 ∧ rCondT s.t2.Where [w2_1] ∧ Sl rGroup s.t2.Groups w2_2 ∧ t[3]? = some (.ptr i3 0) ∧ h.get i3 = some (.arr [.int .i64 s.t3.Code, .int .i64 s.t3.At]) ∧ i3 < h.next ∧ t[5]? = some (.ptr i5 0) ∧ h.get i5 = some (.arr [.int .i64 s.t5.Code, .int .i64 s.t5.At]) ∧ i5 < h.next ∧ i2 ≠ i3 ∧ i2 ≠ i5 ∧ i3 ≠ i5
def P12_2 (s : Fr12) (st : ASt) : Prop := P12_2' s st.tmps st.h
def P12_3' (s : Fr12) (t : List AVal) (h : AHeap) : Prop := ∃ i2 w2_0 w2_1 w2_2 i3 i6 w6_0 w6_1 w6_2, t.length = 43 ∧ t[2]? = some (.ptr i2 0) ∧ h.get i2 = some (.arr [w2_0, .str s.t2.Table, w2_1, .bool s.t2.Grouped, w2_2]) ∧ i2 < h.next ∧ Sl rItem s.t2.Items w2_0 ∧ rCondT s.t2.Where [w2_1] ∧ Sl rGroup s.t2.Groups w2_2 ∧ t[3]? = some (.ptr i3 0) ∧ h.get i3 = some (.arr [.int .i64 s.t3.Code, .int .i64 s.t3.At]) ∧ i3 < h.next ∧ t[6]? = some (.ptr i6 0) ∧ h.get i6 = some (.arr [w6_0, .str s.t6.Table, w6_1, .bool s.t6.Grouped, w6_2]) ∧ i6 < h.next ∧ Sl rItem s.t6.Items w6_0 ∧ rCondT s.t6.Where [w6_1] ∧ Sl rGroup s.t6.Groups w6_2 ∧ t[34]? = some (.bool s.t34) ∧ i2 ≠ i3 ∧ i2 ≠ i6 ∧ i3 ≠ i6
def P12_3 (s : Fr12) (st : ASt) : Prop := P12_3' s st.tmps st.h
def P12_4' (s : Fr12) (t : List AVal) (h : AHeap) : Prop := ∃ i2 w2_0 w2_1 w2_2 i3 i6 w6_0 w6_1 w6_2, t.length = 43 ∧ t[2]? = some (.ptr i2 0) ∧ h.get i2 = some (.arr [w2_0, .str s.t2.Table, w2_1, .bool s.t2.Grouped, w2_2]) ∧ i2 < h.next ∧ Sl rItem s.t2.Items w2_0 ∧ rCondT s.t2.Where [w2_1] ∧ Sl rGroup s.t2.Groups w2_2 ∧ t[3]? = some (.ptr i3 0) ∧ h.get i3 = some (.arr [.int .i64 s.t3.Code, .int .i64 s.t3.At]) ∧ i3 < h.next ∧ t[6]? = some (.ptr i6 0) ∧ h.get i6 = some (.arr [w6_0, .str s.t6.Table, w6_1, .bool s.t6.Grouped, w6_2]) ∧ i6 < h.next ∧ Sl rItem s.t6.Items w6_0 ∧ rCondT s.t6.Where [w6_1] ∧ Sl rGroup s.t6.Groups w6_2 ∧ t[28]? = some (.bool s.t28) ∧ i2 ≠ i3 ∧ i2 ≠ i6 ∧ i3 ≠ i6
def P12_4 (s : Fr12) (st : ASt) : Prop := P12_4' s st.tmps st.h
def P12_5' (s : Fr12) (t : List AVal) (h : AHeap) : Prop := ∃ i2 w2_0 w2_1 w2_2 i3 i5 i6 w6_0 w6_1 w6_2, t.length = 43 ∧ t[2]? = some (.ptr i2 0) ∧ h.get i2 = some (.arr [w2_0, .str s.t2.Table, w2_1, .bool s.t2.Grouped, w2_2]) ∧ i2 < h.next ∧ Sl rItem s.t2.Items w2_0 ∧ rCondT s.t2.Where [w2_1] ∧ Sl rGroup s.t2.Groups w2_2 ∧ t[3]? = some (.ptr i3 0) ∧ h.get i3 = some (.arr [.int .i64 s.t3.Code, .int .i64 s.t3.At]) ∧ i3 < h.next ∧ t[5]? = some (.ptr i5 0) ∧ h.get i5 = some (.arr [.int .i64 s.t5.Code, .int .i64 s.t5.At]) ∧ i5 < h.next ∧ t[6]? = some (.ptr i6 0) ∧ h.get i6 = some (.arr [w6_0, .str s.t6.Table, w6_1, .bool s.t6.Grouped, w6_2]) ∧ i6 < h.next ∧ Sl rItem s.t6.Items w6_0 ∧ rCondT s.t6.Where [w6_1] ∧ Sl rGroup s.t6.Groups w6_2 ∧ t[22]? = some (.bool s.t22) ∧ i2 ≠ i3 ∧ i2 ≠ i5 ∧ i2 ≠ i6 ∧ i3 ≠ i5 ∧ i3 ≠ i6 ∧ i5 ≠ i6
def P12_5 (s : Fr12) (st : ASt) : Prop := P12_5' s st.tmps st.h
def P12_6' (s : Fr12) (t : List AVal) (h : AHeap) : Prop := ∃ i2 w2_0 w2_1 w2_2 i3 i5 i6 w6_0 w6_1 w6_2, t.length = 43 ∧ t[2]? = some (.ptr i2 0) ∧ h.get i2 = some (.arr [w2_0, .str s.t2.Table, w2_1, .bool s.t2.Grouped, w2_2]) ∧ i2 < h.next ∧ Sl rItem s.t2.Items w2_0 ∧ rCondT s.t2.Where [w2_1] ∧ Sl rGroup s.t2.Groups w2_2 ∧ t[3]? = some (.ptr i3 0) ∧ h.get i3 = some (.arr [.int .i64 s.t3.Code, .int .i64 s.t3.At]) ∧ i3 < h.next ∧ t[5]? = some (.ptr i5 0) ∧ h.get i5 = some (.arr [.int .i64 s.t5.Code, .int .i64 s.t5.At]) ∧ i5 < h.next ∧ t[6]? = some (.ptr i6 0) ∧ h.get i6 = some (.arr [w6_0, .str s.t6.Table, w6_1, .bool s.t6.Grouped, w6_2]) ∧ i6 < h.next ∧ Sl rItem s.t6.Items w6_0 ∧ rCondT s.t6.Where [w6_1] ∧ Sl rGroup s.t6.Groups w6_2 ∧ i2 ≠ i3 ∧ i2 ≠ i5 ∧ i2 ≠ i6 ∧ i3 ≠ i5 ∧ i3 ≠ i6 ∧ i5 ≠ i6
def P12_6 (s : Fr12) (st : ASt) : Prop := P12_6' s st.tmps st.h
def P12_7' (s : Fr12) (t : List AVal) (h : AHeap) : Prop := ∃ i2 w2_0 w2_1 w2_2 i3 w4_0 i5, t.length = 43 ∧ t[2]? = some (.ptr i2 0) ∧ h.get i2 = some (.arr [w2_0, .str s.t2.Table, w2_1, .bool s.t2.Grouped, w2_2]) ∧ i2 < h.next ∧ Sl rItem s.t2.Items w2_0 ∧ rCondT s.t2.Where [w2_1] ∧ Sl rGroup s.t2.Groups w2_2 ∧ t[3]? = some (.ptr i3 0) ∧ h.get i3 = some (.arr [.int .i64 s.t3.Code, .int .i64 s.t3.At]) ∧ i3 < h.next ∧ t[4]? = some w4_0 ∧ Sl rWord s.t4 w4_0 ∧ t[5]? = some (.ptr i5 0) ∧ h.get i5 = some (.arr [.int .i64 s.t5.Code, .int .i64 s.t5.At]) ∧ i5 < h.next ∧ i2 ≠ i3 ∧ i2 ≠ i5 ∧ i3 ≠ i5
def P12_7 (s : Fr12) (st : ASt) : Prop := P12_7' s st.tmps st.h
def P12_8' (s : Fr12) (t : List AVal) (h : AHeap) : Prop := ∃ i2 w2_0 w2_1 w2_2 i3 w4_0 i5, t.length = 43 ∧ t[2]? = some (.ptr i2 0) ∧ h.get i2 = some (.arr [w2_0, .str s.t2.Table, w2_1, .bool s.t2.Grouped, w2_2]) ∧ i2 < h.next ∧ Sl rItem s.t2.Items w2_0 ∧ rCondT s.t2.Where [w2_1] ∧ Sl rGroup s.t2.Groups w2_2 ∧ t[3]? = some (.ptr i3 0) ∧ h.get i3 = some (.arr [.int .i64 s.t3.Code, .int .i64 s.t3.At]) ∧ i3 < h.next ∧ t[4]? = some w4_0 ∧ Sl rWord s.t4 w4_0 ∧ t[5]? = some (.ptr i5 0) ∧ h.get i5 = some (.arr [.int .i64 s.t5.Code, .int .i64 s.t5.At]) ∧ i5 < h.next ∧ t[14]? = some (.bool s.t14) ∧ i2 ≠ i3 ∧ i2 ≠ i5 ∧ i3 ≠ i5
def P12_8 (s : Fr12) (st : ASt) : Prop := P12_8' s st.tmps st.h
def P12_9' (s : Fr12) (t : List AVal) (h : AHeap) : Prop := ∃ i2 w2_0 w2_1 w2_2 i3, t.length = 43 ∧ t[0]? = some (.str s.t0) ∧ t[2]? = some (.ptr i2 0) ∧ h.get i2 = some (.arr [w2_0, .str s.t2.Table, w2_1, .bool s.t2.Grouped, w2_2]) ∧ i2 < h.next ∧ Sl rItem s.t2.Items w2_0 ∧ rCondT s.t2.Where [w2_1] ∧ Sl rGroup s.t2.Groups w2_2 ∧ t[3]? = some (.ptr i3 0) ∧ h.get i3 = some (.arr [.int .i64 s.t3.Code, .int .i64 s.t3.At]) ∧ i3 < h.next ∧ i2 ≠ i3
def P12_9 (s : Fr12) (st : ASt) : Prop := P12_9' s st.tmps st.h
def P12_10' (s : Fr12) (t : List AVal) (h : AHeap) : Prop := t.length = 43 ∧ t[0]? = some (.str s.t0)
def P12_10 (s : Fr12) (st : ASt) : Prop := P12_10' s st.tmps st.h
noncomputable def m12_0 : Mo Fr12 := fun s => some (.nrm, { s with t2 := s.t6, t3 := { Code := 0, At := 0 } })
noncomputable def m12_1 : Mo Fr12 := fun s => some (.nrm, { s with t2 := { Items := [], Table := [], Where := CondT.nil, Grouped := false, Groups := [] }, t3 := s.t5 })
noncomputable def m12_2 : Mo Fr12 := fun s => some (.nrm, { s with t2 := { Items := [], Table := [], Where := CondT.nil, Grouped := false, Groups := [] }, t3 := { Code := 46, At := 0 } })
noncomputable def m12_3 : Mo Fr12 := fun s => some (.nrm, { s with t2 := { Items := [], Table := [], Where := CondT.nil, Grouped := false, Groups := [] }, t3 := { Code := 47, At := 0 } })
noncomputable def m12_4 : Mo Fr12 := fun s => (F24 5000 s.t6.Where 1 G25).bind fun z136 => some (.nrm, { s with t34 := (!z136) })
noncomputable def m12_5 : Mo Fr12 := fun s => (G23 s.t6).bind fun z142 => some (.nrm, { s with t28 := (!z142) })
noncomputable def m12_6 : Mo Fr12 := fun s => some (.nrm, { s with t22 := (s.t5.Code != 0) })
noncomputable def m12_7 : Mo Fr12 := fun s => (S22 s.t4).bind fun z149 => some (.nrm, { s with t5 := z149.2, t6 := z149.1 })
noncomputable def m12_8 : Mo Fr12 := fun s => some (.nrm, { s with t2 := { Items := [], Table := [], Where := CondT.nil, Grouped := false, Groups := [] }, t3 := s.t5 })
noncomputable def m12_9 : Mo Fr12 := fun s => some (.nrm, { s with t14 := (s.t5.Code != 0) })
noncomputable def m12_10 : Mo Fr12 := fun s => (S20 s.t0).bind fun z265 => some (.nrm, { s with t4 := z265.1, t5 := z265.2 })
noncomputable def m12_11 : Mo Fr12 := fun s => some (.nrm, { s with t2 := { Items := [], Table := [], Where := CondT.nil, Grouped := false, Groups := [] }, t3 := { Code := 0, At := 0 } })
noncomputable def M12 : Mo Fr12 := seqM (m12_11) (seqM (m12_10) (seqM (seqM (m12_9) (condM (fun s => s.t14) (seqM (m12_8) (retM)) (skipM))) (seqM (m12_7) (seqM (blockM 0 (seqM (m12_6) (condM (fun s => s.t22) (seqM (m12_1) (retM)) (seqM (m12_5) (condM (fun s => s.t28) (seqM (m12_2) (retM)) (seqM (m12_4) (condM (fun s => s.t34) (seqM (m12_3) (retM)) (skipM)))))))) (seqM (m12_0) (retM))))))
def Spec12 (f : (List UInt8) → Option (Query × Fault)) : Prop := ∀ (x0 : (List UInt8)) (r : (Query × Fault)), f x0 = some r → ∃ y0_0 y0_1 y0_2, Sl rItem r.1.Items y0_0 ∧ rCondT r.1.Where [y0_1] ∧ Sl rGroup r.1.Groups y0_2 ∧ ∀ h, run Cp 12 [.str x0] h = some (.ret (.tup [.agg [y0_0, .str r.1.Table, y0_1, .bool r.1.Grouped, y0_2], .agg [.int .i64 r.2.Code, .int .i64 r.2.At]]), h)
theorem R12_0 (pe pr) : Ref Cp P12_0 (Cat [true, true, true, true, true, false] (bodyOf Tryz.f12)) m12_0 (post P12_1 pe pr) := by
  rintro s ⟨t, h⟩ hp x s' hm
  obtain ⟨i2, w2_0, w2_1, w2_2, i3, i6, w6_0, w6_1, w6_2, hl, a2, g2, l2, r2_0, r2_1, r2_2, a3, g3, l3, a6, g6, l6, r6_0, r6_1, r6_2, ne2_3, ne2_6, ne3_6⟩ : P12_0' s t h := hp
  unfold m12_0 at hm
  have k22 : loadA h true 5 (.ptr i6 0) = some (.agg [w6_0, .str s.t6.Table, w6_1, .bool s.t6.Grouped, w6_2]) := by rw [Heap.load_gen g6 (Nat.le_of_ble_eq_true rfl)]; first | rfl | exact ofc5 _ _ _ _ _ _
  have bd23 : abuild Tryz.prog 30 [] = some (.agg [.int .i64 0, .int .i64 0]) := by simp only [TyX.bu30, List.getElem?_toArray, fillA, Zc, List.length_cons, List.length_nil, setRange, List.set_cons_zero, List.set_cons_succ, Option.bind_eq_bind, Option.bind_some, Nat.zero_add, Nat.reduceAdd, and_self, Nat.reduceLeDiff, if_true, and_true, true_and, Nat.le_refl, Nat.zero_le, List.getElem?_cons_zero, List.getElem?_cons_succ, Option.map_some]
  have ic24 : (w6_0 : AVal).isCell = true := Sl.isCell r6_0
  have ic25 : (w6_1 : AVal).isCell = true := rCondT_cell r6_1
  have ic26 : (w6_2 : AVal).isCell = true := Sl.isCell r6_2
  obtain ⟨H27, eH27⟩ : ∃ x : AHeap, x = h.set i2 (some (.arr [w6_0, .str s.t6.Table, w6_1, .bool s.t6.Grouped, w6_2])) := ⟨_, rfl⟩
  have k28 : storeA h 5 (.ptr i2 0) (.agg [w6_0, .str s.t6.Table, w6_1, .bool s.t6.Grouped, w6_2]) = some H27 := by rw [eH27]; exact Heap.store_gen g2 (show (.agg [w6_0, .str s.t6.Table, w6_1, .bool s.t6.Grouped, w6_2] : AVal).cells = [w6_0, .str s.t6.Table, w6_1, .bool s.t6.Grouped, w6_2] by simp only [Zc, ic24, bx_c ic24, cl_c ic24, ic25, bx_c ic25, cl_c ic25, ic26, bx_c ic26, cl_c ic26]) rfl (by simp only [Zc, ic24, bx_c ic24, cl_c ic24, ic25, bx_c ic25, cl_c ic25, ic26, bx_c ic26, cl_c ic26]) (Nat.le_of_ble_eq_true rfl) rfl
  have k29 := gsn eH27 (Ne.symm ne2_3) g3
  have k30 := nxs eH27 l3
  have k31 := gsn eH27 (Ne.symm ne2_6) g6
  have k32 := nxs eH27 l6
  have k33 := gse eH27
  have k34 := nxs eH27 l2
  obtain ⟨H35, eH35⟩ : ∃ x : AHeap, x = H27.set i3 (some (.arr [.int .i64 0, .int .i64 0])) := ⟨_, rfl⟩
  have k36 : storeA H27 2 (.ptr i3 0) (.agg [.int .i64 0, .int .i64 0]) = some H35 := by rw [eH35]; exact Heap.store_gen k29 (show (.agg [.int .i64 0, .int .i64 0] : AVal).cells = [.int .i64 0, .int .i64 0] by simp only [Zc]) rfl (by simp only [Zc]) (Nat.le_of_ble_eq_true rfl) rfl
  have k37 := gsn eH35 ne2_3 k33
  have k38 := nxs eH35 k34
  have k39 := gsn eH35 (Ne.symm ne3_6) k31
  have k40 := nxs eH35 k32
  have k41 := gse eH35
  have k42 := nxs eH35 k30
  cases hm
  refine ⟨⟨_, _⟩, by simp only [bodyOf, Tryz.f12, Cat, Zs, awanted, aoper, evalO, put, acallOp, abuiltin, Nat.reduceEqDiff, Nat.reduceLT, ofV, ofCell, ↓reduceIte, hl, a2, a3, a6, CP, Bool.not_false, Bool.not_true, k22, TyX.ld27, bd23, k28, TyX.st27, k36, TyX.st30]; exact rfl, ?_⟩
  show P12_1 _ _
  exact ⟨i2, w6_0, w6_1, w6_2, i3, by simp [hl], by simp [a2], k37, k38, r6_0, r6_1, r6_2, by simp [a3], k41, k42, ne2_3⟩
theorem R12_1 (pe pr) : Ref Cp P12_2 (Cat [true, true, true, true, false, true, true, false, false] (bodyOf Tryz.f12)) m12_1 (post P12_1 pe pr) := by
  rintro s ⟨t, h⟩ hp x s' hm
  obtain ⟨i2, w2_0, w2_1, w2_2, i3, i5, hl, a2, g2, l2, r2_0, r2_1, r2_2, a3, g3, l3, a5, g5, l5, ne2_3, ne2_5, ne3_5⟩ : P12_2' s t h := hp
  unfold m12_1 at hm
  have bd61 : abuild Tryz.prog 27 [] = some (.agg [.nilSl, .str [], .nilPtr, .bool false, .nilSl]) := by simp only [TyX.bu27, List.getElem?_toArray, fillA, Zc, List.length_cons, List.length_nil, setRange, List.set_cons_zero, List.set_cons_succ, Option.bind_eq_bind, Option.bind_some, Nat.zero_add, Nat.reduceAdd, and_self, Nat.reduceLeDiff, if_true, and_true, true_and, Nat.le_refl, Nat.zero_le, List.getElem?_cons_zero, List.getElem?_cons_succ, Option.map_some]
  have k62 : loadA h true 2 (.ptr i5 0) = some (.agg [.int .i64 s.t5.Code, .int .i64 s.t5.At]) := by rw [Heap.load_gen g5 (Nat.le_of_ble_eq_true rfl)]; first | rfl | exact ofc2 _ _ _
  obtain ⟨H63, eH63⟩ : ∃ x : AHeap, x = h.set i2 (some (.arr [.nilSl, .str [], .nilPtr, .bool false, .nilSl])) := ⟨_, rfl⟩
  have k64 : storeA h 5 (.ptr i2 0) (.agg [.nilSl, .str [], .nilPtr, .bool false, .nilSl]) = some H63 := by rw [eH63]; exact Heap.store_gen g2 (show (.agg [.nilSl, .str [], .nilPtr, .bool false, .nilSl] : AVal).cells = [.nilSl, .str [], .nilPtr, .bool false, .nilSl] by simp only [Zc]) rfl (by simp only [Zc]) (Nat.le_of_ble_eq_true rfl) rfl
  have k65 := gsn eH63 (Ne.symm ne2_3) g3
  have k66 := nxs eH63 l3
  have k67 := gsn eH63 (Ne.symm ne2_5) g5
  have k68 := nxs eH63 l5
  have k69 := gse eH63
  have k70 := nxs eH63 l2
  obtain ⟨H71, eH71⟩ : ∃ x : AHeap, x = H63.set i3 (some (.arr [.int .i64 s.t5.Code, .int .i64 s.t5.At])) := ⟨_, rfl⟩
  have k72 : storeA H63 2 (.ptr i3 0) (.agg [.int .i64 s.t5.Code, .int .i64 s.t5.At]) = some H71 := by rw [eH71]; exact Heap.store_gen k65 (show (.agg [.int .i64 s.t5.Code, .int .i64 s.t5.At] : AVal).cells = [.int .i64 s.t5.Code, .int .i64 s.t5.At] by simp only [Zc]) rfl (by simp only [Zc]) (Nat.le_of_ble_eq_true rfl) rfl
  have k73 := gsn eH71 ne2_3 k69
  have k74 := nxs eH71 k70
  have k75 := gsn eH71 (Ne.symm ne3_5) k67
  have k76 := nxs eH71 k68
  have k77 := gse eH71
  have k78 := nxs eH71 k66
  cases hm
  refine ⟨⟨_, _⟩, by
      simp only [bodyOf, Tryz.f12, Cat, Zs, awanted, aoper, evalO, put, acallOp, abuiltin, Nat.reduceEqDiff, Nat.reduceLT, ofV, ofCell, ↓reduceIte, hl, a2, a3, a5, CP, Bool.not_false, Bool.not_true, bd61, k62, TyX.ld30, k64, TyX.st27, k72, TyX.st30]
      simp only [areads, topRefs, List.flatMap_cons, List.flatMap_nil, Zs, bodyOf, Tryz.f12, Cat, awanted, aoper, evalO, put, acallOp, abuiltin, Nat.reduceEqDiff, Nat.reduceLT, ofV, ofCell, ↓reduceIte, hl, a2, a3, a5, CP, Bool.not_false, Bool.not_true, bd61, k62, TyX.ld30, k64, TyX.st27, k72, TyX.st30]
      rw [k_owes [(h, H63, i5)] (by kernel_rfl) (fun o ho => by simp only [List.mem_cons, List.not_mem_nil, or_false] at ho; rcases ho with rfl <;> first | exact same_arr g5 k67)]
      exact rfl, ?_⟩
  show P12_1 _ _
  exact ⟨i2, (.nilSl : AVal), (.nilPtr : AVal), (.nilSl : AVal), i3, by simp [hl], by simp [a2], k73, k74, Sl.nil, rfl, Sl.nil, by simp [a3], k77, k78, ne2_3⟩
theorem R12_2 (pe pr) : Ref Cp P12_1 (Cat [true, true, true, true, false, true, true, true, true, false, false] (bodyOf Tryz.f12)) m12_2 (post P12_1 pe pr) := by
  rintro s ⟨t, h⟩ hp x s' hm
  obtain ⟨i2, w2_0, w2_1, w2_2, i3, hl, a2, g2, l2, r2_0, r2_1, r2_2, a3, g3, l3, ne2_3⟩ : P12_1' s t h := hp
  unfold m12_2 at hm
  have bd93 : abuild Tryz.prog 27 [] = some (.agg [.nilSl, .str [], .nilPtr, .bool false, .nilSl]) := by simp only [TyX.bu27, List.getElem?_toArray, fillA, Zc, List.length_cons, List.length_nil, setRange, List.set_cons_zero, List.set_cons_succ, Option.bind_eq_bind, Option.bind_some, Nat.zero_add, Nat.reduceAdd, and_self, Nat.reduceLeDiff, if_true, and_true, true_and, Nat.le_refl, Nat.zero_le, List.getElem?_cons_zero, List.getElem?_cons_succ, Option.map_some]
  have bd94 : abuild Tryz.prog 30 [(0, .int .i64 46)] = some (.agg [.int .i64 46, .int .i64 0]) := by simp only [TyX.bu30, List.getElem?_toArray, fillA, Zc, List.length_cons, List.length_nil, setRange, List.set_cons_zero, List.set_cons_succ, Option.bind_eq_bind, Option.bind_some, Nat.zero_add, Nat.reduceAdd, and_self, Nat.reduceLeDiff, if_true, and_true, true_and, Nat.le_refl, Nat.zero_le, List.getElem?_cons_zero, List.getElem?_cons_succ, Option.map_some]
  obtain ⟨H95, eH95⟩ : ∃ x : AHeap, x = h.set i2 (some (.arr [.nilSl, .str [], .nilPtr, .bool false, .nilSl])) := ⟨_, rfl⟩
  have k96 : storeA h 5 (.ptr i2 0) (.agg [.nilSl, .str [], .nilPtr, .bool false, .nilSl]) = some H95 := by rw [eH95]; exact Heap.store_gen g2 (show (.agg [.nilSl, .str [], .nilPtr, .bool false, .nilSl] : AVal).cells = [.nilSl, .str [], .nilPtr, .bool false, .nilSl] by simp only [Zc]) rfl (by simp only [Zc]) (Nat.le_of_ble_eq_true rfl) rfl
  have k97 := gsn eH95 (Ne.symm ne2_3) g3
  have k98 := nxs eH95 l3
  have k99 := gse eH95
  have k100 := nxs eH95 l2
  obtain ⟨H101, eH101⟩ : ∃ x : AHeap, x = H95.set i3 (some (.arr [.int .i64 46, .int .i64 0])) := ⟨_, rfl⟩
  have k102 : storeA H95 2 (.ptr i3 0) (.agg [.int .i64 46, .int .i64 0]) = some H101 := by rw [eH101]; exact Heap.store_gen k97 (show (.agg [.int .i64 46, .int .i64 0] : AVal).cells = [.int .i64 46, .int .i64 0] by simp only [Zc]) rfl (by simp only [Zc]) (Nat.le_of_ble_eq_true rfl) rfl
  have k103 := gsn eH101 ne2_3 k99
  have k104 := nxs eH101 k100
  have k105 := gse eH101
  have k106 := nxs eH101 k98
  cases hm
  refine ⟨⟨_, _⟩, by simp only [bodyOf, Tryz.f12, Cat, Zs, awanted, aoper, evalO, put, acallOp, abuiltin, Nat.reduceEqDiff, Nat.reduceLT, ofV, ofCell, ↓reduceIte, hl, a2, a3, CP, Bool.not_false, Bool.not_true, bd93, bd94, k96, TyX.st27, k102, TyX.st30]; exact rfl, ?_⟩
  show P12_1 _ _
  exact ⟨i2, (.nilSl : AVal), (.nilPtr : AVal), (.nilSl : AVal), i3, by simp [hl], by simp [a2], k103, k104, Sl.nil, rfl, Sl.nil, by simp [a3], k105, k106, ne2_3⟩
theorem R12_3 (pe pr) : Ref Cp P12_1 (Cat [true, true, true, true, false, true, true, true, true, true, true, false, false] (bodyOf Tryz.f12)) m12_3 (post P12_1 pe pr) := by
  rintro s ⟨t, h⟩ hp x s' hm
  obtain ⟨i2, w2_0, w2_1, w2_2, i3, hl, a2, g2, l2, r2_0, r2_1, r2_2, a3, g3, l3, ne2_3⟩ : P12_1' s t h := hp
  unfold m12_3 at hm
  have bd121 : abuild Tryz.prog 27 [] = some (.agg [.nilSl, .str [], .nilPtr, .bool false, .nilSl]) := by simp only [TyX.bu27, List.getElem?_toArray, fillA, Zc, List.length_cons, List.length_nil, setRange, List.set_cons_zero, List.set_cons_succ, Option.bind_eq_bind, Option.bind_some, Nat.zero_add, Nat.reduceAdd, and_self, Nat.reduceLeDiff, if_true, and_true, true_and, Nat.le_refl, Nat.zero_le, List.getElem?_cons_zero, List.getElem?_cons_succ, Option.map_some]
  have bd122 : abuild Tryz.prog 30 [(0, .int .i64 47)] = some (.agg [.int .i64 47, .int .i64 0]) := by simp only [TyX.bu30, List.getElem?_toArray, fillA, Zc, List.length_cons, List.length_nil, setRange, List.set_cons_zero, List.set_cons_succ, Option.bind_eq_bind, Option.bind_some, Nat.zero_add, Nat.reduceAdd, and_self, Nat.reduceLeDiff, if_true, and_true, true_and, Nat.le_refl, Nat.zero_le, List.getElem?_cons_zero, List.getElem?_cons_succ, Option.map_some]
  obtain ⟨H123, eH123⟩ : ∃ x : AHeap, x = h.set i2 (some (.arr [.nilSl, .str [], .nilPtr, .bool false, .nilSl])) := ⟨_, rfl⟩
  have k124 : storeA h 5 (.ptr i2 0) (.agg [.nilSl, .str [], .nilPtr, .bool false, .nilSl]) = some H123 := by rw [eH123]; exact Heap.store_gen g2 (show (.agg [.nilSl, .str [], .nilPtr, .bool false, .nilSl] : AVal).cells = [.nilSl, .str [], .nilPtr, .bool false, .nilSl] by simp only [Zc]) rfl (by simp only [Zc]) (Nat.le_of_ble_eq_true rfl) rfl
  have k125 := gsn eH123 (Ne.symm ne2_3) g3
  have k126 := nxs eH123 l3
  have k127 := gse eH123
  have k128 := nxs eH123 l2
  obtain ⟨H129, eH129⟩ : ∃ x : AHeap, x = H123.set i3 (some (.arr [.int .i64 47, .int .i64 0])) := ⟨_, rfl⟩
  have k130 : storeA H123 2 (.ptr i3 0) (.agg [.int .i64 47, .int .i64 0]) = some H129 := by rw [eH129]; exact Heap.store_gen k125 (show (.agg [.int .i64 47, .int .i64 0] : AVal).cells = [.int .i64 47, .int .i64 0] by simp only [Zc]) rfl (by simp only [Zc]) (Nat.le_of_ble_eq_true rfl) rfl
  have k131 := gsn eH129 ne2_3 k127
  have k132 := nxs eH129 k128
  have k133 := gse eH129
  have k134 := nxs eH129 k126
  cases hm
  refine ⟨⟨_, _⟩, by simp only [bodyOf, Tryz.f12, Cat, Zs, awanted, aoper, evalO, put, acallOp, abuiltin, Nat.reduceEqDiff, Nat.reduceLT, ofV, ofCell, ↓reduceIte, hl, a2, a3, CP, Bool.not_false, Bool.not_true, bd121, bd122, k124, TyX.st27, k130, TyX.st30]; exact rfl, ?_⟩
  show P12_1 _ _
  exact ⟨i2, (.nilSl : AVal), (.nilPtr : AVal), (.nilSl : AVal), i3, by simp [hl], by simp [a2], k131, k132, Sl.nil, rfl, Sl.nil, by simp [a3], k133, k134, ne2_3⟩
theorem R12_4 (pe pr) : Ref Cp P12_0 (Cat [true, true, true, true, false, true, true, true, true, true, false] (bodyOf Tryz.f12)) m12_4 (post P12_3 pe pr) := by
  rintro s ⟨t, h⟩ hp x s' hm
  obtain ⟨i2, w2_0, w2_1, w2_2, i3, i6, w6_0, w6_1, w6_2, hl, a2, g2, l2, r2_0, r2_1, r2_2, a3, g3, l3, a6, g6, l6, r6_0, r6_1, r6_2, ne2_3, ne2_6, ne3_6⟩ : P12_0' s t h := hp
  unfold m12_4 at hm
  have k138 : loadA h false 1 (.ptr i6 2) = some w6_1 := by rw [Heap.load_gen g6 (Nat.le_of_ble_eq_true rfl)]; first | rfl | exact ofc1 _ _ _
  obtain ⟨z139, hz139, hm⟩ := Option.bind_eq_some_iff.1 hm
  have iu140 := (F24_spec 5000) s.t6.Where 1 G25 _ r6_1 _ (show rFnX0 (G25) (.fn (.func 25) [] []) from ⟨25, [], rfl, rfl, rfl, G25_spec⟩) _ hz139
  cases hm
  refine ⟨⟨_, _⟩, by simp only [bodyOf, Tryz.f12, Cat, Zs, awanted, aoper, evalO, put, acallOp, abuiltin, Nat.reduceEqDiff, Nat.reduceLT, ofV, ofCell, ↓reduceIte, hl, a2, a3, a6, CP, Bool.not_false, Bool.not_true, TyX.fa27_2, dropCells, Nat.zero_add, Nat.reduceAdd, k138, TyX.ld24, iu140, aun_not]; exact rfl, ?_⟩
  show P12_3 _ _
  exact ⟨i2, w2_0, w2_1, w2_2, i3, i6, w6_0, w6_1, w6_2, by simp [hl], by simp [a2], g2, l2, r2_0, r2_1, r2_2, by simp [a3], g3, l3, by simp [a6], g6, l6, r6_0, r6_1, r6_2, by simp [hl], ne2_3, ne2_6, ne3_6⟩
theorem R12_5 (pe pr) : Ref Cp P12_0 (Cat [true, true, true, true, false, true, true, true, false] (bodyOf Tryz.f12)) m12_5 (post P12_4 pe pr) := by
  rintro s ⟨t, h⟩ hp x s' hm
  obtain ⟨i2, w2_0, w2_1, w2_2, i3, i6, w6_0, w6_1, w6_2, hl, a2, g2, l2, r2_0, r2_1, r2_2, a3, g3, l3, a6, g6, l6, r6_0, r6_1, r6_2, ne2_3, ne2_6, ne3_6⟩ : P12_0' s t h := hp
  unfold m12_5 at hm
  have k144 : loadA h true 5 (.ptr i6 0) = some (.agg [w6_0, .str s.t6.Table, w6_1, .bool s.t6.Grouped, w6_2]) := by rw [Heap.load_gen g6 (Nat.le_of_ble_eq_true rfl)]; first | rfl | exact ofc5 _ _ _ _ _ _
  obtain ⟨z145, hz145, hm⟩ := Option.bind_eq_some_iff.1 hm
  have iu146 := G23_spec s.t6 _ r6_0 _ r6_1 _ r6_2 _ hz145
  cases hm
  refine ⟨⟨_, _⟩, by simp only [bodyOf, Tryz.f12, Cat, Zs, awanted, aoper, evalO, put, acallOp, abuiltin, Nat.reduceEqDiff, Nat.reduceLT, ofV, ofCell, ↓reduceIte, hl, a2, a3, a6, CP, Bool.not_false, Bool.not_true, k144, TyX.ld27, iu146, aun_not]; exact rfl, ?_⟩
  show P12_4 _ _
  exact ⟨i2, w2_0, w2_1, w2_2, i3, i6, w6_0, w6_1, w6_2, by simp [hl], by simp [a2], g2, l2, r2_0, r2_1, r2_2, by simp [a3], g3, l3, by simp [a6], g6, l6, r6_0, r6_1, r6_2, by simp [hl], ne2_3, ne2_6, ne3_6⟩
theorem R12_6 (pe pr) : Ref Cp P12_6 (Cat [true, true, true, true, false, true, false] (bodyOf Tryz.f12)) m12_6 (post P12_5 pe pr) := by
  rintro s ⟨t, h⟩ hp x s' hm
  obtain ⟨i2, w2_0, w2_1, w2_2, i3, i5, i6, w6_0, w6_1, w6_2, hl, a2, g2, l2, r2_0, r2_1, r2_2, a3, g3, l3, a5, g5, l5, a6, g6, l6, r6_0, r6_1, r6_2, ne2_3, ne2_5, ne2_6, ne3_5, ne3_6, ne5_6⟩ : P12_6' s t h := hp
  unfold m12_6 at hm
  have k148 : loadA h false 1 (.ptr i5 0) = some (.int .i64 s.t5.Code) := by rw [Heap.load_gen g5 (Nat.le_of_ble_eq_true rfl)]; first | rfl | exact ofc1 _ _ _
  cases hm
  refine ⟨⟨_, _⟩, by simp only [bodyOf, Tryz.f12, Cat, Zs, awanted, aoper, evalO, put, acallOp, abuiltin, Nat.reduceEqDiff, Nat.reduceLT, ofV, ofCell, ↓reduceIte, hl, a2, a3, a5, a6, CP, Bool.not_false, Bool.not_true, TyX.fa30_0, dropCells, Nat.zero_add, Nat.reduceAdd, k148, TyX.ld28]; exact rfl, ?_⟩
  show P12_5 _ _
  exact ⟨i2, w2_0, w2_1, w2_2, i3, i5, i6, w6_0, w6_1, w6_2, by simp [hl], by simp [a2], g2, l2, r2_0, r2_1, r2_2, by simp [a3], g3, l3, by simp [a5], g5, l5, by simp [a6], g6, l6, r6_0, r6_1, r6_2, by simp [hl], ne2_3, ne2_5, ne2_6, ne3_5, ne3_6, ne5_6⟩
theorem R12_7 (pe pr) : Ref Cp P12_7 (Cat [true, true, true, false] (bodyOf Tryz.f12)) m12_7 (post P12_6 pe pr) := by
  rintro s ⟨t, h⟩ hp x s' hm
  obtain ⟨i2, w2_0, w2_1, w2_2, i3, w4_0, i5, hl, a2, g2, l2, r2_0, r2_1, r2_2, a3, g3, l3, a4, r4_0, a5, g5, l5, ne2_3, ne2_5, ne3_5⟩ : P12_7' s t h := hp
  unfold m12_7 at hm
  obtain ⟨z188, hz188, hm⟩ := Option.bind_eq_some_iff.1 hm
  obtain ⟨bu189a_0, bu189a_1, bu189a_2, gu189a_0, gu189a_1, gu189a_2, iu189⟩ := S22_spec s.t4 _ r4_0 _ hz188
  obtain ⟨H190, eH190⟩ : ∃ x : AHeap, x = h.new (.arr [.nilSl, .str [], .nilPtr, .bool false, .nilSl]) := ⟨_, rfl⟩
  obtain ⟨id191, eid191⟩ : ∃ x : Nat, x = h.next := ⟨_, rfl⟩
  have k192 := gnl eH190 l2 g2
  have k193 : i2 < H190.next := by rw [eH190, Heap.new_next]; exact Nat.lt_succ_of_lt l2
  have k194 := gnl eH190 l3 g3
  have k195 : i3 < H190.next := by rw [eH190, Heap.new_next]; exact Nat.lt_succ_of_lt l3
  have k196 := gnl eH190 l5 g5
  have k197 : i5 < H190.next := by rw [eH190, Heap.new_next]; exact Nat.lt_succ_of_lt l5
  have k198 : H190.get id191 = some (.arr [.nilSl, .str [], .nilPtr, .bool false, .nilSl]) := by rw [eH190, eid191]; exact Heap.get_new_eq
  have k199 : id191 < H190.next := by rw [eH190, eid191, Heap.new_next]; exact Nat.lt_succ_self _
  have k200 : i2 ≠ id191 := by rw [eid191]; exact Nat.ne_of_lt l2
  have k201 : i3 ≠ id191 := by rw [eid191]; exact Nat.ne_of_lt l3
  have k202 : i5 ≠ id191 := by rw [eid191]; exact Nat.ne_of_lt l5
  have k203 : abox h (.agg [.nilSl, .str [], .nilPtr, .bool false, .nilSl]) = some (.ptr id191 0, H190) := by simp only [abox, eH190, eid191, Zc, if_true]
  have ic204 : (bu189a_0 : AVal).isCell = true := Sl.isCell gu189a_0
  have ic205 : (bu189a_1 : AVal).isCell = true := rCondT_cell gu189a_1
  have ic206 : (bu189a_2 : AVal).isCell = true := Sl.isCell gu189a_2
  obtain ⟨H207, eH207⟩ : ∃ x : AHeap, x = H190.set id191 (some (.arr [bu189a_0, .str z188.1.Table, bu189a_1, .bool z188.1.Grouped, bu189a_2])) := ⟨_, rfl⟩
  have k208 : storeA H190 5 (.ptr id191 0) (.agg [bu189a_0, .str z188.1.Table, bu189a_1, .bool z188.1.Grouped, bu189a_2]) = some H207 := by rw [eH207]; exact Heap.store_gen k198 (show (.agg [bu189a_0, .str z188.1.Table, bu189a_1, .bool z188.1.Grouped, bu189a_2] : AVal).cells = [bu189a_0, .str z188.1.Table, bu189a_1, .bool z188.1.Grouped, bu189a_2] by simp only [Zc, ic204, bx_c ic204, cl_c ic204, ic205, bx_c ic205, cl_c ic205, ic206, bx_c ic206, cl_c ic206]) rfl (by simp only [Zc, ic204, bx_c ic204, cl_c ic204, ic205, bx_c ic205, cl_c ic205, ic206, bx_c ic206, cl_c ic206]) (Nat.le_of_ble_eq_true rfl) rfl
  have k209 := gsn eH207 k200 k192
  have k210 := nxs eH207 k193
  have k211 := gsn eH207 k201 k194
  have k212 := nxs eH207 k195
  have k213 := gsn eH207 k202 k196
  have k214 := nxs eH207 k197
  have k215 := gse eH207
  have k216 := nxs eH207 k199
  obtain ⟨H217, eH217⟩ : ∃ x : AHeap, x = H207.set i5 (some (.arr [.int .i64 z188.2.Code, .int .i64 z188.2.At])) := ⟨_, rfl⟩
  have k218 : storeA H207 2 (.ptr i5 0) (.agg [.int .i64 z188.2.Code, .int .i64 z188.2.At]) = some H217 := by rw [eH217]; exact Heap.store_gen k213 (show (.agg [.int .i64 z188.2.Code, .int .i64 z188.2.At] : AVal).cells = [.int .i64 z188.2.Code, .int .i64 z188.2.At] by simp only [Zc]) rfl (by simp only [Zc]) (Nat.le_of_ble_eq_true rfl) rfl
  have k219 := gsn eH217 ne2_5 k209
  have k220 := nxs eH217 k210
  have k221 := gsn eH217 ne3_5 k211
  have k222 := nxs eH217 k212
  have k223 := gsn eH217 (Ne.symm k202) k215
  have k224 := nxs eH217 k216
  have k225 := gse eH217
  have k226 := nxs eH217 k214
  cases hm
  refine ⟨⟨_, _⟩, by simp only [bodyOf, Tryz.f12, Cat, Zs, awanted, aoper, evalO, put, acallOp, abuiltin, Nat.reduceEqDiff, Nat.reduceLT, ofV, ofCell, ↓reduceIte, hl, a2, a3, a4, a5, CP, Bool.not_false, Bool.not_true, iu189, TyX.ze27, TyX.own_parse_go_236, k203, k208, TyX.st27, k218, TyX.st30]; exact rfl, ?_⟩
  show P12_6 _ _
  exact ⟨i2, w2_0, w2_1, w2_2, i3, i5, id191, bu189a_0, bu189a_1, bu189a_2, by simp [hl], by simp [a2], k219, k220, r2_0, r2_1, r2_2, by simp [a3], k221, k222, by simp [a5], k225, k226, by simp [hl], k223, k224, gu189a_0, gu189a_1, gu189a_2, ne2_3, ne2_5, k200, ne3_5, k201, k202⟩
theorem R12_8 (pe pr) : Ref Cp P12_2 (Cat [true, true, false, true, false, false] (bodyOf Tryz.f12)) m12_8 (post P12_1 pe pr) := by
  rintro s ⟨t, h⟩ hp x s' hm
  obtain ⟨i2, w2_0, w2_1, w2_2, i3, i5, hl, a2, g2, l2, r2_0, r2_1, r2_2, a3, g3, l3, a5, g5, l5, ne2_3, ne2_5, ne3_5⟩ : P12_2' s t h := hp
  unfold m12_8 at hm
  have bd245 : abuild Tryz.prog 27 [] = some (.agg [.nilSl, .str [], .nilPtr, .bool false, .nilSl]) := by simp only [TyX.bu27, List.getElem?_toArray, fillA, Zc, List.length_cons, List.length_nil, setRange, List.set_cons_zero, List.set_cons_succ, Option.bind_eq_bind, Option.bind_some, Nat.zero_add, Nat.reduceAdd, and_self, Nat.reduceLeDiff, if_true, and_true, true_and, Nat.le_refl, Nat.zero_le, List.getElem?_cons_zero, List.getElem?_cons_succ, Option.map_some]
  have k246 : loadA h true 2 (.ptr i5 0) = some (.agg [.int .i64 s.t5.Code, .int .i64 s.t5.At]) := by rw [Heap.load_gen g5 (Nat.le_of_ble_eq_true rfl)]; first | rfl | exact ofc2 _ _ _
  obtain ⟨H247, eH247⟩ : ∃ x : AHeap, x = h.set i2 (some (.arr [.nilSl, .str [], .nilPtr, .bool false, .nilSl])) := ⟨_, rfl⟩
  have k248 : storeA h 5 (.ptr i2 0) (.agg [.nilSl, .str [], .nilPtr, .bool false, .nilSl]) = some H247 := by rw [eH247]; exact Heap.store_gen g2 (show (.agg [.nilSl, .str [], .nilPtr, .bool false, .nilSl] : AVal).cells = [.nilSl, .str [], .nilPtr, .bool false, .nilSl] by simp only [Zc]) rfl (by simp only [Zc]) (Nat.le_of_ble_eq_true rfl) rfl
  have k249 := gsn eH247 (Ne.symm ne2_3) g3
  have k250 := nxs eH247 l3
  have k251 := gsn eH247 (Ne.symm ne2_5) g5
  have k252 := nxs eH247 l5
  have k253 := gse eH247
  have k254 := nxs eH247 l2
  obtain ⟨H255, eH255⟩ : ∃ x : AHeap, x = H247.set i3 (some (.arr [.int .i64 s.t5.Code, .int .i64 s.t5.At])) := ⟨_, rfl⟩
  have k256 : storeA H247 2 (.ptr i3 0) (.agg [.int .i64 s.t5.Code, .int .i64 s.t5.At]) = some H255 := by rw [eH255]; exact Heap.store_gen k249 (show (.agg [.int .i64 s.t5.Code, .int .i64 s.t5.At] : AVal).cells = [.int .i64 s.t5.Code, .int .i64 s.t5.At] by simp only [Zc]) rfl (by simp only [Zc]) (Nat.le_of_ble_eq_true rfl) rfl
  have k257 := gsn eH255 ne2_3 k253
  have k258 := nxs eH255 k254
  have k259 := gsn eH255 (Ne.symm ne3_5) k251
  have k260 := nxs eH255 k252
  have k261 := gse eH255
  have k262 := nxs eH255 k250
  cases hm
  refine ⟨⟨_, _⟩, by
      simp only [bodyOf, Tryz.f12, Cat, Zs, awanted, aoper, evalO, put, acallOp, abuiltin, Nat.reduceEqDiff, Nat.reduceLT, ofV, ofCell, ↓reduceIte, hl, a2, a3, a5, CP, Bool.not_false, Bool.not_true, bd245, k246, TyX.ld30, k248, TyX.st27, k256, TyX.st30]
      simp only [areads, topRefs, List.flatMap_cons, List.flatMap_nil, Zs, bodyOf, Tryz.f12, Cat, awanted, aoper, evalO, put, acallOp, abuiltin, Nat.reduceEqDiff, Nat.reduceLT, ofV, ofCell, ↓reduceIte, hl, a2, a3, a5, CP, Bool.not_false, Bool.not_true, bd245, k246, TyX.ld30, k248, TyX.st27, k256, TyX.st30]
      rw [k_owes [(h, H247, i5)] (by kernel_rfl) (fun o ho => by simp only [List.mem_cons, List.not_mem_nil, or_false] at ho; rcases ho with rfl <;> first | exact same_arr g5 k251)]
      exact rfl, ?_⟩
  show P12_1 _ _
  exact ⟨i2, (.nilSl : AVal), (.nilPtr : AVal), (.nilSl : AVal), i3, by simp [hl], by simp [a2], k257, k258, Sl.nil, rfl, Sl.nil, by simp [a3], k261, k262, ne2_3⟩
theorem R12_9 (pe pr) : Ref Cp P12_7 (Cat [true, true, false, false] (bodyOf Tryz.f12)) m12_9 (post P12_8 pe pr) := by
  rintro s ⟨t, h⟩ hp x s' hm
  obtain ⟨i2, w2_0, w2_1, w2_2, i3, w4_0, i5, hl, a2, g2, l2, r2_0, r2_1, r2_2, a3, g3, l3, a4, r4_0, a5, g5, l5, ne2_3, ne2_5, ne3_5⟩ : P12_7' s t h := hp
  unfold m12_9 at hm
  have k264 : loadA h false 1 (.ptr i5 0) = some (.int .i64 s.t5.Code) := by rw [Heap.load_gen g5 (Nat.le_of_ble_eq_true rfl)]; first | rfl | exact ofc1 _ _ _
  cases hm
  refine ⟨⟨_, _⟩, by simp only [bodyOf, Tryz.f12, Cat, Zs, awanted, aoper, evalO, put, acallOp, abuiltin, Nat.reduceEqDiff, Nat.reduceLT, ofV, ofCell, ↓reduceIte, hl, a2, a3, a4, a5, CP, Bool.not_false, Bool.not_true, TyX.fa30_0, dropCells, Nat.zero_add, Nat.reduceAdd, k264, TyX.ld28]; exact rfl, ?_⟩
  show P12_8 _ _
  exact ⟨i2, w2_0, w2_1, w2_2, i3, w4_0, i5, by simp [hl], by simp [a2], g2, l2, r2_0, r2_1, r2_2, by simp [a3], g3, l3, by simp [a4], r4_0, by simp [a5], g5, l5, by simp [hl], ne2_3, ne2_5, ne3_5⟩
theorem R12_10 (pe pr) : Ref Cp P12_9 (Cat [true, false] (bodyOf Tryz.f12)) m12_10 (post P12_7 pe pr) := by
  rintro s ⟨t, h⟩ hp x s' hm
  obtain ⟨i2, w2_0, w2_1, w2_2, i3, hl, a0, a2, g2, l2, r2_0, r2_1, r2_2, a3, g3, l3, ne2_3⟩ : P12_9' s t h := hp
  unfold m12_10 at hm
  obtain ⟨z286, hz286, hm⟩ := Option.bind_eq_some_iff.1 hm
  obtain ⟨bu287a_0, gu287a_0, iu287⟩ := S20_spec s.t0  _ hz286
  obtain ⟨H288, eH288⟩ : ∃ x : AHeap, x = h.new (.arr [.int .i64 0, .int .i64 0]) := ⟨_, rfl⟩
  obtain ⟨id289, eid289⟩ : ∃ x : Nat, x = h.next := ⟨_, rfl⟩
  have k290 := gnl eH288 l2 g2
  have k291 : i2 < H288.next := by rw [eH288, Heap.new_next]; exact Nat.lt_succ_of_lt l2
  have k292 := gnl eH288 l3 g3
  have k293 : i3 < H288.next := by rw [eH288, Heap.new_next]; exact Nat.lt_succ_of_lt l3
  have k294 : H288.get id289 = some (.arr [.int .i64 0, .int .i64 0]) := by rw [eH288, eid289]; exact Heap.get_new_eq
  have k295 : id289 < H288.next := by rw [eH288, eid289, Heap.new_next]; exact Nat.lt_succ_self _
  have k296 : i2 ≠ id289 := by rw [eid289]; exact Nat.ne_of_lt l2
  have k297 : i3 ≠ id289 := by rw [eid289]; exact Nat.ne_of_lt l3
  have k298 : abox h (.agg [.int .i64 0, .int .i64 0]) = some (.ptr id289 0, H288) := by simp only [abox, eH288, eid289, Zc, if_true]
  obtain ⟨H299, eH299⟩ : ∃ x : AHeap, x = H288.set id289 (some (.arr [.int .i64 z286.2.Code, .int .i64 z286.2.At])) := ⟨_, rfl⟩
  have k300 : storeA H288 2 (.ptr id289 0) (.agg [.int .i64 z286.2.Code, .int .i64 z286.2.At]) = some H299 := by rw [eH299]; exact Heap.store_gen k294 (show (.agg [.int .i64 z286.2.Code, .int .i64 z286.2.At] : AVal).cells = [.int .i64 z286.2.Code, .int .i64 z286.2.At] by simp only [Zc]) rfl (by simp only [Zc]) (Nat.le_of_ble_eq_true rfl) rfl
  have k301 := gsn eH299 k296 k290
  have k302 := nxs eH299 k291
  have k303 := gsn eH299 k297 k292
  have k304 := nxs eH299 k293
  have k305 := gse eH299
  have k306 := nxs eH299 k295
  cases hm
  refine ⟨⟨_, _⟩, by simp only [bodyOf, Tryz.f12, Cat, Zs, awanted, aoper, evalO, put, acallOp, abuiltin, Nat.reduceEqDiff, Nat.reduceLT, ofV, ofCell, ↓reduceIte, hl, a0, a2, a3, CP, Bool.not_false, Bool.not_true, iu287, TyX.ze30, TyX.own_parse_go_232, k298, k300, TyX.st30]; exact rfl, ?_⟩
  show P12_7 _ _
  exact ⟨i2, w2_0, w2_1, w2_2, i3, bu287a_0, id289, by simp [hl], by simp [a2], k301, k302, r2_0, r2_1, r2_2, by simp [a3], k303, k304, by simp [hl], gu287a_0, by simp [hl], k305, k306, ne2_3, k296, k297⟩
theorem R12_11 (pe pr) : Ref Cp P12_10 (Cat [false] (bodyOf Tryz.f12)) m12_11 (post P12_9 pe pr) := by
  rintro s ⟨t, h⟩ hp x s' hm
  obtain ⟨hl, a0⟩ : P12_10' s t h := hp
  unfold m12_11 at hm
  obtain ⟨H320, eH320⟩ : ∃ x : AHeap, x = h.new (.arr [.nilSl, .str [], .nilPtr, .bool false, .nilSl]) := ⟨_, rfl⟩
  obtain ⟨id321, eid321⟩ : ∃ x : Nat, x = h.next := ⟨_, rfl⟩
  have k322 : H320.get id321 = some (.arr [.nilSl, .str [], .nilPtr, .bool false, .nilSl]) := by rw [eH320, eid321]; exact Heap.get_new_eq
  have k323 : id321 < H320.next := by rw [eH320, eid321, Heap.new_next]; exact Nat.lt_succ_self _
  have k324 : abox h (.agg [.nilSl, .str [], .nilPtr, .bool false, .nilSl]) = some (.ptr id321 0, H320) := by simp only [abox, eH320, eid321, Zc, if_true]
  obtain ⟨H325, eH325⟩ : ∃ x : AHeap, x = H320.new (.arr [.int .i64 0, .int .i64 0]) := ⟨_, rfl⟩
  obtain ⟨id326, eid326⟩ : ∃ x : Nat, x = H320.next := ⟨_, rfl⟩
  have k327 := gnl eH325 k323 k322
  have k328 : id321 < H325.next := by rw [eH325, Heap.new_next]; exact Nat.lt_succ_of_lt k323
  have k329 : H325.get id326 = some (.arr [.int .i64 0, .int .i64 0]) := by rw [eH325, eid326]; exact Heap.get_new_eq
  have k330 : id326 < H325.next := by rw [eH325, eid326, Heap.new_next]; exact Nat.lt_succ_self _
  have k331 : id321 ≠ id326 := by rw [eid326]; exact Nat.ne_of_lt k323
  have k332 : abox H320 (.agg [.int .i64 0, .int .i64 0]) = some (.ptr id326 0, H325) := by simp only [abox, eH325, eid326, Zc, if_true]
  cases hm
  refine ⟨⟨_, _⟩, by simp only [bodyOf, Tryz.f12, Cat, Zs, awanted, aoper, evalO, put, acallOp, abuiltin, Nat.reduceEqDiff, Nat.reduceLT, ofV, ofCell, ↓reduceIte, hl, a0, CP, Bool.not_false, Bool.not_true, TyX.ze27, TyX.own_parse_go_231, k324, TyX.ze30, k332]; exact rfl, ?_⟩
  show P12_9 _ _
  exact ⟨id321, (.nilSl : AVal), (.nilPtr : AVal), (.nilSl : AVal), id326, by simp [hl], by simp [a0], by simp [hl], k327, k328, Sl.nil, rfl, Sl.nil, by simp [hl], k329, k330, k331⟩
theorem B12 : Ref Cp P12_10 (bodyOf Tryz.f12) (M12) (post P12_1 (fun _ _ _ => False) P12_1) := by
  rw [show bodyOf Tryz.f12 = .seq (Cat [false] (bodyOf Tryz.f12)) (.seq (Cat [true, false] (bodyOf Tryz.f12)) (.seq (.seq (Cat [true, true, false, false] (bodyOf Tryz.f12)) (.cond (.tmp 14) (.seq (Cat [true, true, false, true, false, false] (bodyOf Tryz.f12)) (.ret)) (.skip))) (.seq (Cat [true, true, true, false] (bodyOf Tryz.f12)) (.seq (.block 0 (.seq (Cat [true, true, true, true, false, true, false] (bodyOf Tryz.f12)) (.cond (.tmp 22) (.seq (Cat [true, true, true, true, false, true, true, false, false] (bodyOf Tryz.f12)) (.ret)) (.seq (Cat [true, true, true, true, false, true, true, true, false] (bodyOf Tryz.f12)) (.cond (.tmp 28) (.seq (Cat [true, true, true, true, false, true, true, true, true, false, false] (bodyOf Tryz.f12)) (.ret)) (.seq (Cat [true, true, true, true, false, true, true, true, true, true, false] (bodyOf Tryz.f12)) (.cond (.tmp 34) (.seq (Cat [true, true, true, true, false, true, true, true, true, true, true, false, false] (bodyOf Tryz.f12)) (.ret)) (.skip)))))))) (.seq (Cat [true, true, true, true, true, false] (bodyOf Tryz.f12)) (.ret)))))) from rfl]
  unfold M12
  exact ref_seq (R12_11 _ _) (ref_seq (R12_10 _ _) (ref_seq (ref_seq (R12_9 _ _) (ref_cond (P := P12_8) (c := fun s => s.t14) (fun s st hp => by obtain ⟨i2, w2_0, w2_1, w2_2, i3, w4_0, i5, hl, a2, g2, l2, r2_0, r2_1, r2_2, a3, g3, l3, a4, r4_0, a5, g5, l5, a14, ne2_3, ne2_5, ne3_5⟩ := (hp : P12_8' s st.tmps st.h); simp only [evalO, a14, Option.getD_some]) (ref_weak (P' := P12_2) (fun s st hp => by obtain ⟨i2, w2_0, w2_1, w2_2, i3, w4_0, i5, hl, a2, g2, l2, r2_0, r2_1, r2_2, a3, g3, l3, a4, r4_0, a5, g5, l5, a14, ne2_3, ne2_5, ne3_5⟩ := (hp : P12_8' s st.tmps st.h); exact (⟨i2, w2_0, w2_1, w2_2, i3, i5, hl, a2, g2, l2, r2_0, r2_1, r2_2, a3, g3, l3, a5, g5, l5, ne2_3, ne2_5, ne3_5⟩ : P12_2' s st.tmps st.h)) (ref_seq (R12_8 _ _) (ref_ret (fun s st hp => hp)))) (ref_weak (P' := P12_7) (fun s st hp => by obtain ⟨i2, w2_0, w2_1, w2_2, i3, w4_0, i5, hl, a2, g2, l2, r2_0, r2_1, r2_2, a3, g3, l3, a4, r4_0, a5, g5, l5, a14, ne2_3, ne2_5, ne3_5⟩ := (hp : P12_8' s st.tmps st.h); exact (⟨i2, w2_0, w2_1, w2_2, i3, w4_0, i5, hl, a2, g2, l2, r2_0, r2_1, r2_2, a3, g3, l3, a4, r4_0, a5, g5, l5, ne2_3, ne2_5, ne3_5⟩ : P12_7' s st.tmps st.h)) (ref_skip (fun s st hp => hp))))) (ref_seq (R12_7 _ _) (ref_seq (ref_block (ref_seq (R12_6 _ _) (ref_cond (P := P12_5) (c := fun s => s.t22) (fun s st hp => by obtain ⟨i2, w2_0, w2_1, w2_2, i3, i5, i6, w6_0, w6_1, w6_2, hl, a2, g2, l2, r2_0, r2_1, r2_2, a3, g3, l3, a5, g5, l5, a6, g6, l6, r6_0, r6_1, r6_2, a22, ne2_3, ne2_5, ne2_6, ne3_5, ne3_6, ne5_6⟩ := (hp : P12_5' s st.tmps st.h); simp only [evalO, a22, Option.getD_some]) (ref_weak (P' := P12_2) (fun s st hp => by obtain ⟨i2, w2_0, w2_1, w2_2, i3, i5, i6, w6_0, w6_1, w6_2, hl, a2, g2, l2, r2_0, r2_1, r2_2, a3, g3, l3, a5, g5, l5, a6, g6, l6, r6_0, r6_1, r6_2, a22, ne2_3, ne2_5, ne2_6, ne3_5, ne3_6, ne5_6⟩ := (hp : P12_5' s st.tmps st.h); exact (⟨i2, w2_0, w2_1, w2_2, i3, i5, hl, a2, g2, l2, r2_0, r2_1, r2_2, a3, g3, l3, a5, g5, l5, ne2_3, ne2_5, ne3_5⟩ : P12_2' s st.tmps st.h)) (ref_seq (R12_1 _ _) (ref_ret (fun s st hp => hp)))) (ref_weak (P' := P12_0) (fun s st hp => by obtain ⟨i2, w2_0, w2_1, w2_2, i3, i5, i6, w6_0, w6_1, w6_2, hl, a2, g2, l2, r2_0, r2_1, r2_2, a3, g3, l3, a5, g5, l5, a6, g6, l6, r6_0, r6_1, r6_2, a22, ne2_3, ne2_5, ne2_6, ne3_5, ne3_6, ne5_6⟩ := (hp : P12_5' s st.tmps st.h); exact (⟨i2, w2_0, w2_1, w2_2, i3, i6, w6_0, w6_1, w6_2, hl, a2, g2, l2, r2_0, r2_1, r2_2, a3, g3, l3, a6, g6, l6, r6_0, r6_1, r6_2, ne2_3, ne2_6, ne3_6⟩ : P12_0' s st.tmps st.h)) (ref_seq (R12_5 _ _) (ref_cond (P := P12_4) (c := fun s => s.t28) (fun s st hp => by obtain ⟨i2, w2_0, w2_1, w2_2, i3, i6, w6_0, w6_1, w6_2, hl, a2, g2, l2, r2_0, r2_1, r2_2, a3, g3, l3, a6, g6, l6, r6_0, r6_1, r6_2, a28, ne2_3, ne2_6, ne3_6⟩ := (hp : P12_4' s st.tmps st.h); simp only [evalO, a28, Option.getD_some]) (ref_weak (P' := P12_1) (fun s st hp => by obtain ⟨i2, w2_0, w2_1, w2_2, i3, i6, w6_0, w6_1, w6_2, hl, a2, g2, l2, r2_0, r2_1, r2_2, a3, g3, l3, a6, g6, l6, r6_0, r6_1, r6_2, a28, ne2_3, ne2_6, ne3_6⟩ := (hp : P12_4' s st.tmps st.h); exact (⟨i2, w2_0, w2_1, w2_2, i3, hl, a2, g2, l2, r2_0, r2_1, r2_2, a3, g3, l3, ne2_3⟩ : P12_1' s st.tmps st.h)) (ref_seq (R12_2 _ _) (ref_ret (fun s st hp => hp)))) (ref_weak (P' := P12_0) (fun s st hp => by obtain ⟨i2, w2_0, w2_1, w2_2, i3, i6, w6_0, w6_1, w6_2, hl, a2, g2, l2, r2_0, r2_1, r2_2, a3, g3, l3, a6, g6, l6, r6_0, r6_1, r6_2, a28, ne2_3, ne2_6, ne3_6⟩ := (hp : P12_4' s st.tmps st.h); exact (⟨i2, w2_0, w2_1, w2_2, i3, i6, w6_0, w6_1, w6_2, hl, a2, g2, l2, r2_0, r2_1, r2_2, a3, g3, l3, a6, g6, l6, r6_0, r6_1, r6_2, ne2_3, ne2_6, ne3_6⟩ : P12_0' s st.tmps st.h)) (ref_seq (R12_4 _ _) (ref_cond (P := P12_3) (c := fun s => s.t34) (fun s st hp => by obtain ⟨i2, w2_0, w2_1, w2_2, i3, i6, w6_0, w6_1, w6_2, hl, a2, g2, l2, r2_0, r2_1, r2_2, a3, g3, l3, a6, g6, l6, r6_0, r6_1, r6_2, a34, ne2_3, ne2_6, ne3_6⟩ := (hp : P12_3' s st.tmps st.h); simp only [evalO, a34, Option.getD_some]) (ref_weak (P' := P12_1) (fun s st hp => by obtain ⟨i2, w2_0, w2_1, w2_2, i3, i6, w6_0, w6_1, w6_2, hl, a2, g2, l2, r2_0, r2_1, r2_2, a3, g3, l3, a6, g6, l6, r6_0, r6_1, r6_2, a34, ne2_3, ne2_6, ne3_6⟩ := (hp : P12_3' s st.tmps st.h); exact (⟨i2, w2_0, w2_1, w2_2, i3, hl, a2, g2, l2, r2_0, r2_1, r2_2, a3, g3, l3, ne2_3⟩ : P12_1' s st.tmps st.h)) (ref_seq (R12_3 _ _) (ref_ret (fun s st hp => hp)))) (ref_weak (P' := P12_0) (fun s st hp => by obtain ⟨i2, w2_0, w2_1, w2_2, i3, i6, w6_0, w6_1, w6_2, hl, a2, g2, l2, r2_0, r2_1, r2_2, a3, g3, l3, a6, g6, l6, r6_0, r6_1, r6_2, a34, ne2_3, ne2_6, ne3_6⟩ := (hp : P12_3' s st.tmps st.h); exact (⟨i2, w2_0, w2_1, w2_2, i3, i6, w6_0, w6_1, w6_2, hl, a2, g2, l2, r2_0, r2_1, r2_2, a3, g3, l3, a6, g6, l6, r6_0, r6_1, r6_2, ne2_3, ne2_6, ne3_6⟩ : P12_0' s st.tmps st.h)) (ref_skip (fun s st hp => hp)))))))))))) (ref_seq (R12_0 _ _) (ref_ret (fun s st hp => hp)))))))
noncomputable def G12 (x0 : (List UInt8)) : Option (Query × Fault) := match M12 { (default : Fr12) with t0 := x0 } with
  | some (.nrm, s) => some (s.t2, s.t3)
  | some (.ret, s) => some (s.t2, s.t3)
  | _ => none
theorem G12_spec : Spec12 (G12) := by
  intro x0 r hr
  unfold G12 at hr
  cases hm : M12 { (default : Fr12) with t0 := x0 } with
  | none => rw [hm] at hr; cases hr
  | some q =>
    obtain ⟨x, s⟩ := q
    rw [hm] at hr
    have hx : x = .nrm ∨ x = .ret := by cases x <;> first | exact .inl rfl | exact .inr rfl | cases hr
    have hr : (s.t2, s.t3) = r := by cases x <;> first | exact Option.some.inj hr | cases hr
    subst hr
    have hp0 : P12_10' ({ (default : Fr12) with t0 := x0 }) (slots Tryz.f12 (stripL [.str x0])) bare := ⟨rfl, rfl⟩
    obtain ⟨v, hR, hrun⟩ := run_of_ref (C := Cp) (f := 12) (fn := Tryz.f12) Tryz.func12 rfl rfl rfl rfl (args := [.str x0]) (by simp only [refsL, refs, List.append_nil]) (B12) (s0 := { (default : Fr12) with t0 := x0 }) hp0 hm hx (R := fun v => ∃ y0_0 y0_1 y0_2, Sl rItem s.t2.Items y0_0 ∧ rCondT s.t2.Where [y0_1] ∧ Sl rGroup s.t2.Groups y0_2 ∧ v = .tup [.agg [y0_0, .str s.t2.Table, y0_1, .bool s.t2.Grouped, y0_2], .agg [.int .i64 s.t3.Code, .int .i64 s.t3.At]]) (by
      have key : ∀ st : ASt, P12_1 s st → ∃ vs v, aresults Cp Tryz.f12.results.toList st = some vs ∧ Nrm [] st.h (packRes vs) v ∧ (fun v => ∃ y0_0 y0_1 y0_2, Sl rItem s.t2.Items y0_0 ∧ rCondT s.t2.Where [y0_1] ∧ Sl rGroup s.t2.Groups y0_2 ∧ v = .tup [.agg [y0_0, .str s.t2.Table, y0_1, .bool s.t2.Grouped, y0_2], .agg [.int .i64 s.t3.Code, .int .i64 s.t3.At]]) v := by
        intro st hp
        obtain ⟨i2, w2_0, w2_1, w2_2, i3, hl, a2, g2, l2, r2_0, r2_1, r2_2, a3, g3, l3, ne2_3⟩ := (hp : P12_1' s st.tmps st.h)
        have ld2 : loadA st.h true 5 (.ptr i2 0) = some (.agg [w2_0, .str s.t2.Table, w2_1, .bool s.t2.Grouped, w2_2]) := by rw [Heap.load_gen g2 (Nat.zero_le _)]; first | rfl | exact ofc5 _ _ _ _ _ _
        have ld3 : loadA st.h true 2 (.ptr i3 0) = some (.agg [.int .i64 s.t3.Code, .int .i64 s.t3.At]) := by rw [Heap.load_gen g3 (Nat.zero_le _)]; first | rfl | exact ofc2 _ _ _
        exact ⟨[.agg [w2_0, .str s.t2.Table, w2_1, .bool s.t2.Grouped, w2_2], .agg [.int .i64 s.t3.Code, .int .i64 s.t3.At]], _, by simp only [show Tryz.f12.results.toList = [ResultVar.cell 2 27, ResultVar.cell 3 30] from rfl, aresults, ares1, CP, a2, a3, Option.getD_some, ld2, TyX.ld27, ld3, TyX.ld30], (Nrm.tup (NrmL.cons (Nrm.of (w := .agg [w2_0, .str s.t2.Table, w2_1, .bool s.t2.Grouped, w2_2]) (by simp only [refsL, refs, List.append_nil, r2_0.refs rItem_p, refs_one (rCondT_p.ref _ _ r2_1), r2_2.refs rGroup_p])) (NrmL.cons (Nrm.of (w := .agg [.int .i64 s.t3.Code, .int .i64 s.t3.At]) (by simp only [refsL, refs, List.append_nil])) NrmL.nil))), ⟨strip w2_0, strip w2_1, strip w2_2, r2_0.strip rItem_p, rCondT_p.str _ _ r2_1, r2_2.strip rGroup_p, rfl⟩⟩
      intro st hq
      rcases hx with rfl | rfl
      · exact key st hq
      · exact key st hq)
    obtain ⟨z0, z1, z2, g0, g1, g2, hv⟩ := hR
    exact ⟨z0, z1, z2, g0, g1, g2, fun h => by rw [hrun h, hv]⟩
end Go.Proofs.Q.Par

