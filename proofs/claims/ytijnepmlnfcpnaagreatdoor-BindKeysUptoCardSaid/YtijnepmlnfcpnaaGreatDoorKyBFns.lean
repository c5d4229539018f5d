/-
  KEYS (B): functions (printed by wip/tools/tg.py).
-/
import Derived.Test.YtijnepmlnfcpnaaGreatDoorKyBTypes
import Derived.Test.YtijnepmlnfcpnaaGreatDoorAmPack
set_option linter.unusedVariables false
set_option linter.unusedSimpArgs false
set_option linter.unusedSimpArgs false
set_option linter.unusedVariables false
set_option maxRecDepth 100000
namespace Go.Proofs.Ky
open Go Go.Am Go.Proofs
/-! ### caisson/caissonref12.told -/
structure Fr76 where
  t0 : TestT
  t2 : (List UInt8)
  t3 : (List UInt8)
  t4 : Int
  t5 : Int
  t7 : Bool
  t41 : Bool
  t71 : Bool
instance : Inhabited Fr76 := ⟨⟨default, [], [], 0, 0, false, false, false⟩⟩
def P76_0' (s : Fr76) (t : List AVal) (h : AHeap) : Prop := ∃ w0_0, t.length = 99 ∧ t[0]? = some w0_0 ∧ rTestT s.t0 [w0_0] ∧ t[3]? = some (.str s.t3)
def P76_0 (s : Fr76) (st : ASt) : Prop := P76_0' s st.tmps st.h
def P76_1' (s : Fr76) (t : List AVal) (h : AHeap) : Prop := t.length = 99 ∧ t[2]? = some (.str s.t2)
def P76_1 (s : Fr76) (st : ASt) : Prop := P76_1' s st.tmps st.h
def P76_2' (s : Fr76) (t : List AVal) (h : AHeap) : Prop := ∃ w0_0, t.length = 99 ∧ t[0]? = some w0_0 ∧ rTestT s.t0 [w0_0] ∧ t[3]? = some (.str s.t3) ∧ t[5]? = some (.int .i64 s.t5)
def P76_2 (s : Fr76) (st : ASt) : Prop := P76_2' s st.tmps st.h
def P76_3' (s : Fr76) (t : List AVal) (h : AHeap) : Prop := ∃ w0_0, t.length = 99 ∧ t[0]? = some w0_0 ∧ rTestT s.t0 [w0_0] ∧ t[3]? = some (.str s.t3) ∧ t[5]? = some (.int .i64 s.t5) ∧ t[71]? = some (.bool s.t71)
def P76_3 (s : Fr76) (st : ASt) : Prop := P76_3' s st.tmps st.h
def P76_4' (s : Fr76) (t : List AVal) (h : AHeap) : Prop := ∃ w0_0, t.length = 99 ∧ t[0]? = some w0_0 ∧ rTestT s.t0 [w0_0] ∧ t[3]? = some (.str s.t3) ∧ t[4]? = some (.int .i64 s.t4)
def P76_4 (s : Fr76) (st : ASt) : Prop := P76_4' s st.tmps st.h
def P76_5' (s : Fr76) (t : List AVal) (h : AHeap) : Prop := ∃ w0_0, t.length = 99 ∧ t[0]? = some w0_0 ∧ rTestT s.t0 [w0_0] ∧ t[3]? = some (.str s.t3) ∧ t[4]? = some (.int .i64 s.t4) ∧ t[41]? = some (.bool s.t41)
def P76_5 (s : Fr76) (st : ASt) : Prop := P76_5' s st.tmps st.h
def P76_6' (s : Fr76) (t : List AVal) (h : AHeap) : Prop := ∃ w0_0, t.length = 99 ∧ t[0]? = some w0_0 ∧ rTestT s.t0 [w0_0]
def P76_6 (s : Fr76) (st : ASt) : Prop := P76_6' s st.tmps st.h
def P76_7' (s : Fr76) (t : List AVal) (h : AHeap) : Prop := t.length = 99 ∧ True
def P76_7 (s : Fr76) (st : ASt) : Prop := P76_7' s st.tmps st.h
def P76_8' (s : Fr76) (t : List AVal) (h : AHeap) : Prop := ∃ w0_0, t.length = 99 ∧ t[0]? = some w0_0 ∧ rTestT s.t0 [w0_0] ∧ t[7]? = some (.bool s.t7)
def P76_8 (s : Fr76) (st : ASt) : Prop := P76_8' s st.tmps st.h
noncomputable def m76_0 (rec76 : TestT → Option (List UInt8)) : Mo Fr76 := fun s => (s.t0.get).bind fun n1 => (rec76 n1.Left).bind fun z3 => (catT s.t3 z3).bind fun z5 => (rec76 n1.Right).bind fun z7 => (catT z5 z7).bind fun z9 => (catT z9 ([41] : List UInt8)).bind fun z11 => some (.nrm, { s with t2 := z11 })
noncomputable def m76_1 (rec76 : TestT → Option (List UInt8)) : Mo Fr76 := fun s => some (.nrm, { s with t5 := IntKind.wrap .i64 (s.t5 + 1) })
noncomputable def m76_2 (rec76 : TestT → Option (List UInt8)) : Mo Fr76 := fun s => (catT s.t3 ([105] : List UInt8)).bind fun z25 => (s.t0.get).bind fun n27 => (at? n27.Ints s.t5).bind fun y29 => (S147 y29 10).bind fun z31 => (catT z25 z31).bind fun z33 => some (.nrm, { s with t3 := z33 })
noncomputable def m76_3 (rec76 : TestT → Option (List UInt8)) : Mo Fr76 := fun s => (s.t0.get).bind fun n45 => some (.nrm, { s with t71 := decide (s.t5 < (n45.Ints.length : Int)) })
noncomputable def L76_4 (rec76 : TestT → Option (List UInt8)) : Mo Fr76 := seqM (seqM (m76_3 rec76) (condM (fun s => s.t71) (skipM) (exitM 2))) (seqM (blockM 3 (m76_2 rec76)) (m76_1 rec76))
noncomputable def m76_5 (rec76 : TestT → Option (List UInt8)) : Mo Fr76 := fun s => some (.nrm, { s with t5 := 0 })
noncomputable def m76_6 (rec76 : TestT → Option (List UInt8)) : Mo Fr76 := fun s => some (.nrm, { s with t4 := IntKind.wrap .i64 (s.t4 + 1) })
noncomputable def m76_7 (rec76 : TestT → Option (List UInt8)) : Mo Fr76 := fun s => (catT s.t3 ([116] : List UInt8)).bind fun z51 => (s.t0.get).bind fun n53 => (at? n53.Texts s.t4).bind fun y55 => (S75 (y55.length : Int)).bind fun z57 => (catT z51 z57).bind fun z59 => (catT z59 ([58] : List UInt8)).bind fun z61 => (catT z61 y55).bind fun z63 => some (.nrm, { s with t3 := z63 })
noncomputable def m76_8 (rec76 : TestT → Option (List UInt8)) : Mo Fr76 := fun s => (s.t0.get).bind fun n79 => some (.nrm, { s with t41 := decide (s.t4 < (n79.Texts.length : Int)) })
noncomputable def L76_9 (rec76 : TestT → Option (List UInt8)) : Mo Fr76 := seqM (seqM (m76_8 rec76) (condM (fun s => s.t41) (skipM) (exitM 0))) (seqM (blockM 1 (m76_7 rec76)) (m76_6 rec76))
noncomputable def m76_10 (rec76 : TestT → Option (List UInt8)) : Mo Fr76 := fun s => some (.nrm, { s with t4 := 0 })
noncomputable def m76_11 (rec76 : TestT → Option (List UInt8)) : Mo Fr76 := fun s => (s.t0.get).bind fun n85 => (S75 n85.Kind).bind fun z87 => (catT ([40] : List UInt8) z87).bind fun z89 => (catT z89 ([44] : List UInt8)).bind fun z91 => (G144 n85.Meas).bind fun z93 => (catT z91 z93).bind fun z95 => (catT z95 ([44] : List UInt8)).bind fun z97 => (S75 n85.Index).bind fun z99 => (catT z97 z99).bind fun z101 => (catT z101 ([44] : List UInt8)).bind fun z103 => (S75 n85.Op).bind fun z105 => (catT z103 z105).bind fun z107 => some (.nrm, { s with t3 := z107 })
noncomputable def m76_12 (rec76 : TestT → Option (List UInt8)) : Mo Fr76 := fun s => some (.nrm, { s with t2 := ([95] : List UInt8) })
noncomputable def m76_13 (rec76 : TestT → Option (List UInt8)) : Mo Fr76 := fun s => some (.nrm, { s with t7 := s.t0.isNil })
noncomputable def m76_14 (rec76 : TestT → Option (List UInt8)) : Mo Fr76 := fun s => some (.nrm, s)
noncomputable def M76 (rec76 : TestT → Option (List UInt8)) : Mo Fr76 := seqM (m76_14 rec76) (seqM (seqM (m76_13 rec76) (condM (fun s => s.t7) (seqM (m76_12 rec76) (retM)) (skipM))) (seqM (m76_11 rec76) (seqM (seqM (m76_10 rec76) (blockM 0 (loopM (L76_9 rec76)))) (seqM (seqM (m76_5 rec76) (blockM 2 (loopM (L76_4 rec76)))) (seqM (m76_0 rec76) (retM))))))
def Spec76 (f : TestT → Option (List UInt8)) : Prop := ∀ (x0 : TestT) (vx0_0 : AVal) (_ : rTestT x0 [vx0_0]) (r : (List UInt8)), f x0 = some r → ∀ h, run Cl 76 [vx0_0] h = some (.ret (.str r), h)
theorem Spec76_of {f g : TestT → Option (List UInt8)} (hg : Spec76 g) (h : ∀ x0 r, f x0 = some r → g x0 = some r) : Spec76 f := fun x0 v0_ w0_ r hr => hg x0 v0_ w0_ r (h x0 r hr)
theorem R76_0 {rec76 : TestT → Option (List UInt8)} (hrec76 : Spec76 rec76) (pe pr) : Ref Cl P76_0 (Cat [true, true, true, true, true, false] (bodyOf Tryz.f76)) (m76_0 rec76) (post P76_1 pe pr) := by
  rintro s ⟨t, h⟩ hp x s' hm
  obtain ⟨w0_0, hl, a0, r0_0, a3⟩ : P76_0' s t h := hp
  unfold m76_0 at hm
  obtain ⟨n13, hn13, hm⟩ := Option.bind_eq_some_iff.1 hm
  obtain ⟨bu14_0, bu14_1, bu14_2, bu14_3, qu14, gu14_0, gu14_1, gu14_2, gu14_3⟩ := rTestT_get r0_0 hn13
  subst qu14
  obtain ⟨z15, hz15, hm⟩ := Option.bind_eq_some_iff.1 hm
  have iu16 := hrec76 n13.Left _ gu14_0 _ hz15
  have apu16 : apure Cl 76 [bu14_0] = true := apure_of rfl rfl (refs_cons (refs_one (rTestT_p.ref _ _ gu14_0)) rfl)
  obtain ⟨z17, hz17, hm⟩ := Option.bind_eq_some_iff.1 hm
  have iu18 := cat_v (C := Cl) hz17
  obtain ⟨z19, hz19, hm⟩ := Option.bind_eq_some_iff.1 hm
  have iu20 := hrec76 n13.Right _ gu14_1 _ hz19
  have apu20 : apure Cl 76 [bu14_1] = true := apure_of rfl rfl (refs_cons (refs_one (rTestT_p.ref _ _ gu14_1)) rfl)
  obtain ⟨z21, hz21, hm⟩ := Option.bind_eq_some_iff.1 hm
  have iu22 := cat_v (C := Cl) hz21
  obtain ⟨z23, hz23, hm⟩ := Option.bind_eq_some_iff.1 hm
  have iu24 := cat_v (C := Cl) hz23
  cases hm
  refine ⟨⟨_, _⟩, by
      simp only [bodyOf, Tryz.f76, Cat, Zs, awanted, aoper, evalO, put, acallOp, abuiltin, Nat.reduceEqDiff, Nat.reduceLT, ofV, ofCell, ↓reduceIte, hl, a0, a3, CP, TyB.fa57_1, dropCells, List.drop_succ_cons, List.drop_zero, TyB.ld32, ld_ip, ofc1, List.drop_succ_cons, List.drop_zero, iu16, apu16, if_true, iu18, TyB.fa57_2, iu20, apu20, iu22, iu24]
      rw [k_draw _ _ _ (by kernel_rfl)]
      exact rfl, ?_⟩
  show P76_1 _ _
  exact ⟨by simp [hl], by simp [hl]⟩
theorem R76_1 {rec76 : TestT → Option (List UInt8)} (hrec76 : Spec76 rec76) (pe pr) : Ref Cl P76_2 (Cat [true, true, true, true, false, true, true, true, true, true] (bodyOf Tryz.f76)) (m76_1 rec76) (post P76_2 pe pr) := by
  rintro s ⟨t, h⟩ hp x s' hm
  obtain ⟨w0_0, hl, a0, r0_0, a3, a5⟩ : P76_2' s t h := hp
  unfold m76_1 at hm
  cases hm
  refine ⟨⟨_, _⟩, by simp only [bodyOf, Tryz.f76, Cat, Zs, awanted, aoper, evalO, put, acallOp, abuiltin, Nat.reduceEqDiff, Nat.reduceLT, ofV, ofCell, ↓reduceIte, hl, a0, a3, a5, CP]; exact rfl, ?_⟩
  show P76_2 _ _
  exact ⟨w0_0, by simp [hl], by simp [a0], r0_0, by simp [a3], by simp [hl]⟩
theorem R76_2 {rec76 : TestT → Option (List UInt8)} (hrec76 : Spec76 rec76) (pe pr) : Ref Cl P76_2 (Cat [true, true, true, true, false, true, true, true, true, false, true] (bodyOf Tryz.f76)) (m76_2 rec76) (post P76_2 pe pr) := by
  rintro s ⟨t, h⟩ hp x s' hm
  obtain ⟨w0_0, hl, a0, r0_0, a3, a5⟩ : P76_2' s t h := hp
  unfold m76_2 at hm
  obtain ⟨z35, hz35, hm⟩ := Option.bind_eq_some_iff.1 hm
  have iu36 := cat_v (C := Cl) hz35
  obtain ⟨n37, hn37, hm⟩ := Option.bind_eq_some_iff.1 hm
  obtain ⟨bu38_0, bu38_1, bu38_2, bu38_3, qu38, gu38_0, gu38_1, gu38_2, gu38_3⟩ := rTestT_get r0_0 hn37
  subst qu38
  obtain ⟨y39, hy39, hm⟩ := Option.bind_eq_some_iff.1 hm
  obtain ⟨cu40, du40, eu40, iu40, _⟩ := Sl.ix (rI_p .i64) gu38_3 hy39
  subst eu40
  obtain ⟨z41, hz41, hm⟩ := Option.bind_eq_some_iff.1 hm
  have iu42 := S147_spec y39 10  _ hz41
  obtain ⟨z43, hz43, hm⟩ := Option.bind_eq_some_iff.1 hm
  have iu44 := cat_v (C := Cl) hz43
  cases hm
  refine ⟨⟨_, _⟩, by simp only [bodyOf, Tryz.f76, Cat, Zs, awanted, aoper, evalO, put, acallOp, abuiltin, Nat.reduceEqDiff, Nat.reduceLT, ofV, ofCell, ↓reduceIte, hl, a0, a3, a5, CP, iu36, TyB.fa57_7, dropCells, List.drop_succ_cons, List.drop_zero, TyB.ld51, ld_ip, ofc1, List.drop_succ_cons, List.drop_zero, TyB.ix51, iu40, TyB.ld2, iu42, iu44]; exact rfl, ?_⟩
  show P76_2 _ _
  exact ⟨(.iptr [.int .i64 n37.Kind, bu38_0, bu38_1, .bool n37.Meas, .int .i64 n37.Index, .int .i64 n37.Op, bu38_2, bu38_3] : AVal), by simp [hl], by simp [a0], r0_0, by simp [hl], by simp [a5]⟩
theorem R76_3 {rec76 : TestT → Option (List UInt8)} (hrec76 : Spec76 rec76) (pe pr) : Ref Cl P76_2 (Cat [true, true, true, true, false, true, true, true, false, false] (bodyOf Tryz.f76)) (m76_3 rec76) (post P76_3 pe pr) := by
  rintro s ⟨t, h⟩ hp x s' hm
  obtain ⟨w0_0, hl, a0, r0_0, a3, a5⟩ : P76_2' s t h := hp
  unfold m76_3 at hm
  obtain ⟨n48, hn48, hm⟩ := Option.bind_eq_some_iff.1 hm
  obtain ⟨bu49_0, bu49_1, bu49_2, bu49_3, qu49, gu49_0, gu49_1, gu49_2, gu49_3⟩ := rTestT_get r0_0 hn48
  subst qu49
  have lu50 := fun h => Sl.len gu49_3 TyB.un51 h
  cases hm
  refine ⟨⟨_, _⟩, by simp only [bodyOf, Tryz.f76, Cat, Zs, awanted, aoper, evalO, put, acallOp, abuiltin, Nat.reduceEqDiff, Nat.reduceLT, ofV, ofCell, ↓reduceIte, hl, a0, a3, a5, CP, TyB.fa57_7, dropCells, List.drop_succ_cons, List.drop_zero, TyB.ld51, ld_ip, ofc1, List.drop_succ_cons, List.drop_zero, lu50]; exact rfl, ?_⟩
  show P76_3 _ _
  exact ⟨(.iptr [.int .i64 n48.Kind, bu49_0, bu49_1, .bool n48.Meas, .int .i64 n48.Index, .int .i64 n48.Op, bu49_2, bu49_3] : AVal), by simp [hl], by simp [a0], r0_0, by simp [a3], by simp [a5], by simp [hl]⟩
theorem R76_5 {rec76 : TestT → Option (List UInt8)} (hrec76 : Spec76 rec76) (pe pr) : Ref Cl P76_0 (Cat [true, true, true, true, false, false] (bodyOf Tryz.f76)) (m76_5 rec76) (post P76_2 pe pr) := by
  rintro s ⟨t, h⟩ hp x s' hm
  obtain ⟨w0_0, hl, a0, r0_0, a3⟩ : P76_0' s t h := hp
  unfold m76_5 at hm
  cases hm
  refine ⟨⟨_, _⟩, by simp only [bodyOf, Tryz.f76, Cat, Zs, awanted, aoper, evalO, put, acallOp, abuiltin, Nat.reduceEqDiff, Nat.reduceLT, ofV, ofCell, ↓reduceIte, hl, a0, a3, CP]; exact rfl, ?_⟩
  show P76_2 _ _
  exact ⟨w0_0, by simp [hl], by simp [a0], r0_0, by simp [a3], by simp [hl]⟩
theorem R76_6 {rec76 : TestT → Option (List UInt8)} (hrec76 : Spec76 rec76) (pe pr) : Ref Cl P76_4 (Cat [true, true, true, false, true, true, true, true, true] (bodyOf Tryz.f76)) (m76_6 rec76) (post P76_4 pe pr) := by
  rintro s ⟨t, h⟩ hp x s' hm
  obtain ⟨w0_0, hl, a0, r0_0, a3, a4⟩ : P76_4' s t h := hp
  unfold m76_6 at hm
  cases hm
  refine ⟨⟨_, _⟩, by simp only [bodyOf, Tryz.f76, Cat, Zs, awanted, aoper, evalO, put, acallOp, abuiltin, Nat.reduceEqDiff, Nat.reduceLT, ofV, ofCell, ↓reduceIte, hl, a0, a3, a4, CP]; exact rfl, ?_⟩
  show P76_4 _ _
  exact ⟨w0_0, by simp [hl], by simp [a0], r0_0, by simp [a3], by simp [hl]⟩
theorem R76_7 {rec76 : TestT → Option (List UInt8)} (hrec76 : Spec76 rec76) (pe pr) : Ref Cl P76_4 (Cat [true, true, true, false, true, true, true, true, false, true] (bodyOf Tryz.f76)) (m76_7 rec76) (post P76_4 pe pr) := by
  rintro s ⟨t, h⟩ hp x s' hm
  obtain ⟨w0_0, hl, a0, r0_0, a3, a4⟩ : P76_4' s t h := hp
  unfold m76_7 at hm
  obtain ⟨z65, hz65, hm⟩ := Option.bind_eq_some_iff.1 hm
  have iu66 := cat_v (C := Cl) hz65
  obtain ⟨n67, hn67, hm⟩ := Option.bind_eq_some_iff.1 hm
  obtain ⟨bu68_0, bu68_1, bu68_2, bu68_3, qu68, gu68_0, gu68_1, gu68_2, gu68_3⟩ := rTestT_get r0_0 hn67
  subst qu68
  obtain ⟨y69, hy69, hm⟩ := Option.bind_eq_some_iff.1 hm
  obtain ⟨cu70, du70, eu70, iu70, _⟩ := Sl.ix rS_p gu68_2 hy69
  subst eu70
  obtain ⟨z71, hz71, hm⟩ := Option.bind_eq_some_iff.1 hm
  have iu72 := S75_spec (y69.length : Int)  _ hz71
  obtain ⟨z73, hz73, hm⟩ := Option.bind_eq_some_iff.1 hm
  have iu74 := cat_v (C := Cl) hz73
  obtain ⟨z75, hz75, hm⟩ := Option.bind_eq_some_iff.1 hm
  have iu76 := cat_v (C := Cl) hz75
  obtain ⟨z77, hz77, hm⟩ := Option.bind_eq_some_iff.1 hm
  have iu78 := cat_v (C := Cl) hz77
  cases hm
  refine ⟨⟨_, _⟩, by
      simp only [bodyOf, Tryz.f76, Cat, Zs, awanted, aoper, evalO, put, acallOp, abuiltin, Nat.reduceEqDiff, Nat.reduceLT, ofV, ofCell, ↓reduceIte, hl, a0, a3, a4, CP, iu66, TyB.fa57_6, dropCells, List.drop_succ_cons, List.drop_zero, TyB.ld22, ld_ip, ofc1, List.drop_succ_cons, List.drop_zero, TyB.ix22, iu70, TyB.ld9, TyB.le9, iu72, iu74, iu76, iu78]
      rw [k_draw _ _ _ (by kernel_rfl)]
      exact rfl, ?_⟩
  show P76_4 _ _
  exact ⟨(.iptr [.int .i64 n67.Kind, bu68_0, bu68_1, .bool n67.Meas, .int .i64 n67.Index, .int .i64 n67.Op, bu68_2, bu68_3] : AVal), by simp [hl], by simp [a0], r0_0, by simp [hl], by simp [a4]⟩
theorem R76_8 {rec76 : TestT → Option (List UInt8)} (hrec76 : Spec76 rec76) (pe pr) : Ref Cl P76_4 (Cat [true, true, true, false, true, true, true, false, false] (bodyOf Tryz.f76)) (m76_8 rec76) (post P76_5 pe pr) := by
  rintro s ⟨t, h⟩ hp x s' hm
  obtain ⟨w0_0, hl, a0, r0_0, a3, a4⟩ : P76_4' s t h := hp
  unfold m76_8 at hm
  obtain ⟨n82, hn82, hm⟩ := Option.bind_eq_some_iff.1 hm
  obtain ⟨bu83_0, bu83_1, bu83_2, bu83_3, qu83, gu83_0, gu83_1, gu83_2, gu83_3⟩ := rTestT_get r0_0 hn82
  subst qu83
  have lu84 := fun h => Sl.len gu83_2 TyB.un22 h
  cases hm
  refine ⟨⟨_, _⟩, by simp only [bodyOf, Tryz.f76, Cat, Zs, awanted, aoper, evalO, put, acallOp, abuiltin, Nat.reduceEqDiff, Nat.reduceLT, ofV, ofCell, ↓reduceIte, hl, a0, a3, a4, CP, TyB.fa57_6, dropCells, List.drop_succ_cons, List.drop_zero, TyB.ld22, ld_ip, ofc1, List.drop_succ_cons, List.drop_zero, lu84]; exact rfl, ?_⟩
  show P76_5 _ _
  exact ⟨(.iptr [.int .i64 n82.Kind, bu83_0, bu83_1, .bool n82.Meas, .int .i64 n82.Index, .int .i64 n82.Op, bu83_2, bu83_3] : AVal), by simp [hl], by simp [a0], r0_0, by simp [a3], by simp [a4], by simp [hl]⟩
theorem R76_10 {rec76 : TestT → Option (List UInt8)} (hrec76 : Spec76 rec76) (pe pr) : Ref Cl P76_0 (Cat [true, true, true, false, false] (bodyOf Tryz.f76)) (m76_10 rec76) (post P76_4 pe pr) := by
  rintro s ⟨t, h⟩ hp x s' hm
  obtain ⟨w0_0, hl, a0, r0_0, a3⟩ : P76_0' s t h := hp
  unfold m76_10 at hm
  cases hm
  refine ⟨⟨_, _⟩, by simp only [bodyOf, Tryz.f76, Cat, Zs, awanted, aoper, evalO, put, acallOp, abuiltin, Nat.reduceEqDiff, Nat.reduceLT, ofV, ofCell, ↓reduceIte, hl, a0, a3, CP]; exact rfl, ?_⟩
  show P76_4 _ _
  exact ⟨w0_0, by simp [hl], by simp [a0], r0_0, by simp [a3], by simp [hl]⟩
set_option maxHeartbeats 8000000 in
theorem R76_11 {rec76 : TestT → Option (List UInt8)} (hrec76 : Spec76 rec76) (pe pr) : Ref Cl P76_6 (Cat [true, true, false] (bodyOf Tryz.f76)) (m76_11 rec76) (post P76_0 pe pr) := by
  rintro s ⟨t, h⟩ hp x s' hm
  obtain ⟨w0_0, hl, a0, r0_0⟩ : P76_6' s t h := hp
  unfold m76_11 at hm
  obtain ⟨n109, hn109, hm⟩ := Option.bind_eq_some_iff.1 hm
  obtain ⟨bu110_0, bu110_1, bu110_2, bu110_3, qu110, gu110_0, gu110_1, gu110_2, gu110_3⟩ := rTestT_get r0_0 hn109
  subst qu110
  obtain ⟨z111, hz111, hm⟩ := Option.bind_eq_some_iff.1 hm
  have iu112 := S75_spec n109.Kind  _ hz111
  obtain ⟨z113, hz113, hm⟩ := Option.bind_eq_some_iff.1 hm
  have iu114 := cat_v (C := Cl) hz113
  obtain ⟨z115, hz115, hm⟩ := Option.bind_eq_some_iff.1 hm
  have iu116 := cat_v (C := Cl) hz115
  obtain ⟨z117, hz117, hm⟩ := Option.bind_eq_some_iff.1 hm
  have iu118 := G144_spec n109.Meas  _ hz117
  obtain ⟨z119, hz119, hm⟩ := Option.bind_eq_some_iff.1 hm
  have iu120 := cat_v (C := Cl) hz119
  obtain ⟨z121, hz121, hm⟩ := Option.bind_eq_some_iff.1 hm
  have iu122 := cat_v (C := Cl) hz121
  obtain ⟨z123, hz123, hm⟩ := Option.bind_eq_some_iff.1 hm
  have iu124 := S75_spec n109.Index  _ hz123
  obtain ⟨z125, hz125, hm⟩ := Option.bind_eq_some_iff.1 hm
  have iu126 := cat_v (C := Cl) hz125
  obtain ⟨z127, hz127, hm⟩ := Option.bind_eq_some_iff.1 hm
  have iu128 := cat_v (C := Cl) hz127
  obtain ⟨z129, hz129, hm⟩ := Option.bind_eq_some_iff.1 hm
  have iu130 := S75_spec n109.Op  _ hz129
  obtain ⟨z131, hz131, hm⟩ := Option.bind_eq_some_iff.1 hm
  have iu132 := cat_v (C := Cl) hz131
  cases hm
  refine ⟨⟨_, _⟩, by
      simp only [bodyOf, Tryz.f76, Cat, Zs, awanted, aoper, evalO, put, acallOp, abuiltin, Nat.reduceEqDiff, Nat.reduceLT, ofV, ofCell, ↓reduceIte, hl, a0, CP, TyB.fa57_0, dropCells, List.drop_succ_cons, List.drop_zero, TyB.ld3, ld_ip, ofc1, List.drop_succ_cons, List.drop_zero, iu112, iu114, iu116, TyB.fa57_3, TyB.ld4, iu118, iu120, iu122, TyB.fa57_4, iu124, iu126, iu128, TyB.fa57_5, iu130, iu132]
      rw [k_draw _ _ _ (by kernel_rfl)]
      exact rfl, ?_⟩
  show P76_0 _ _
  exact ⟨(.iptr [.int .i64 n109.Kind, bu110_0, bu110_1, .bool n109.Meas, .int .i64 n109.Index, .int .i64 n109.Op, bu110_2, bu110_3] : AVal), by simp [hl], by simp [a0], r0_0, by simp [hl]⟩
theorem R76_12 {rec76 : TestT → Option (List UInt8)} (hrec76 : Spec76 rec76) (pe pr) : Ref Cl P76_7 (Cat [true, false, true, false, false] (bodyOf Tryz.f76)) (m76_12 rec76) (post P76_1 pe pr) := by
  rintro s ⟨t, h⟩ hp x s' hm
  obtain ⟨hl, _⟩ : P76_7' s t h := hp
  unfold m76_12 at hm
  cases hm
  refine ⟨⟨_, _⟩, by simp only [bodyOf, Tryz.f76, Cat, Zs, awanted, aoper, evalO, put, acallOp, abuiltin, Nat.reduceEqDiff, Nat.reduceLT, ofV, ofCell, ↓reduceIte, hl, CP]; exact rfl, ?_⟩
  show P76_1 _ _
  exact ⟨by simp [hl], by simp [hl]⟩
theorem R76_13 {rec76 : TestT → Option (List UInt8)} (hrec76 : Spec76 rec76) (pe pr) : Ref Cl P76_6 (Cat [true, false, false] (bodyOf Tryz.f76)) (m76_13 rec76) (post P76_8 pe pr) := by
  rintro s ⟨t, h⟩ hp x s' hm
  obtain ⟨w0_0, hl, a0, r0_0⟩ : P76_6' s t h := hp
  unfold m76_13 at hm
  cases hb133 : s.t0.isNil with
  | true =>
    all_goals (
      try simp only [hb133, Zb] at hm
      obtain ⟨_, qz134⟩ | ⟨qz134, _⟩ := rTestT_nil r0_0
      rotate_left
      · rw [hb133] at qz134; cases qz134
      have z134 : ∀ (xo : Operand) (h : AHeap), abin Cl .eql 32 xo (.const (.pointer none)) h (w0_0) .nilPtr = some (.bool true) := fun xo h => by rw [qz134]; exact TyB.eqn32 xo h
      cases hm
      refine ⟨⟨_, _⟩, by simp only [bodyOf, Tryz.f76, Cat, Zs, awanted, aoper, evalO, put, acallOp, abuiltin, Nat.reduceEqDiff, Nat.reduceLT, ofV, ofCell, ↓reduceIte, hl, a0, CP, z134, hb133]; exact rfl, ?_⟩
      show P76_8 _ _
      exact ⟨w0_0, by simp [hl], by simp [a0], r0_0, by simp [hl, hb133]⟩)
  | false =>
    all_goals (
      try simp only [hb133, Zb] at hm
      obtain ⟨qz135, _⟩ | ⟨_, csz135, qz135⟩ := rTestT_nil r0_0
      · rw [hb133] at qz135; cases qz135
      have z135 : ∀ (xo yo : Operand) (h : AHeap), abin Cl .eql 32 xo yo h (w0_0) .nilPtr = some (.bool false) := fun xo yo h => by rw [qz135]; exact TyB.eqp32 xo yo h _
      clear qz135
      cases hm
      refine ⟨⟨_, _⟩, by simp only [bodyOf, Tryz.f76, Cat, Zs, awanted, aoper, evalO, put, acallOp, abuiltin, Nat.reduceEqDiff, Nat.reduceLT, ofV, ofCell, ↓reduceIte, hl, a0, CP, z135, hb133]; exact rfl, ?_⟩
      show P76_8 _ _
      exact ⟨w0_0, by simp [hl], by simp [a0], r0_0, by simp [hl, hb133]⟩)
theorem R76_14 {rec76 : TestT → Option (List UInt8)} (hrec76 : Spec76 rec76) (pe pr) : Ref Cl P76_6 (Cat [false] (bodyOf Tryz.f76)) (m76_14 rec76) (post P76_6 pe pr) := by
  rintro s ⟨t, h⟩ hp x s' hm
  obtain ⟨w0_0, hl, a0, r0_0⟩ : P76_6' s t h := hp
  unfold m76_14 at hm
  cases hm
  refine ⟨⟨_, _⟩, by simp only [bodyOf, Tryz.f76, Cat, Zs, awanted, aoper, evalO, put, acallOp, abuiltin, Nat.reduceEqDiff, Nat.reduceLT, ofV, ofCell, ↓reduceIte, hl, a0, CP]; exact rfl, ?_⟩
  show P76_6 _ _
  exact ⟨w0_0, by simp [hl], by simp [a0], r0_0⟩
theorem B76 {rec76 : TestT → Option (List UInt8)} (hrec76 : Spec76 rec76) : Ref Cl P76_6 (bodyOf Tryz.f76) (M76 rec76) (post P76_1 (fun _ _ _ => False) P76_1) := by
  rw [show bodyOf Tryz.f76 = .seq (Cat [false] (bodyOf Tryz.f76)) (.seq (.seq (Cat [true, false, false] (bodyOf Tryz.f76)) (.cond (.tmp 7) (.seq (Cat [true, false, true, false, false] (bodyOf Tryz.f76)) (.ret)) (.skip))) (.seq (Cat [true, true, false] (bodyOf Tryz.f76)) (.seq (.seq (Cat [true, true, true, false, false] (bodyOf Tryz.f76)) (.block 0 (.loop (.seq (.seq (Cat [true, true, true, false, true, true, true, false, false] (bodyOf Tryz.f76)) (.cond (.tmp 41) (.skip) (.exit 0))) (.seq (.block 1 (Cat [true, true, true, false, true, true, true, true, false, true] (bodyOf Tryz.f76))) (Cat [true, true, true, false, true, true, true, true, true] (bodyOf Tryz.f76))))))) (.seq (.seq (Cat [true, true, true, true, false, false] (bodyOf Tryz.f76)) (.block 2 (.loop (.seq (.seq (Cat [true, true, true, true, false, true, true, true, false, false] (bodyOf Tryz.f76)) (.cond (.tmp 71) (.skip) (.exit 2))) (.seq (.block 3 (Cat [true, true, true, true, false, true, true, true, true, false, true] (bodyOf Tryz.f76))) (Cat [true, true, true, true, false, true, true, true, true, true] (bodyOf Tryz.f76))))))) (.seq (Cat [true, true, true, true, true, false] (bodyOf Tryz.f76)) (.ret)))))) from rfl]
  unfold M76
  exact ref_seq (R76_14 hrec76 _ _) (ref_seq (ref_seq (R76_13 hrec76 _ _) (ref_cond (P := P76_8) (c := fun s => s.t7) (fun s st hp => by obtain ⟨w0_0, hl, a0, r0_0, a7⟩ := (hp : P76_8' s st.tmps st.h); simp only [evalO, a7, Option.getD_some]) (ref_weak (P' := P76_7) (fun s st hp => by obtain ⟨w0_0, hl, a0, r0_0, a7⟩ := (hp : P76_8' s st.tmps st.h); exact (⟨hl, trivial⟩ : P76_7' s st.tmps st.h)) (ref_seq (R76_12 hrec76 _ _) (ref_ret (fun s st hp => hp)))) (ref_weak (P' := P76_6) (fun s st hp => by obtain ⟨w0_0, hl, a0, r0_0, a7⟩ := (hp : P76_8' s st.tmps st.h); exact (⟨w0_0, hl, a0, r0_0⟩ : P76_6' s st.tmps st.h)) (ref_skip (fun s st hp => hp))))) (ref_seq (R76_11 hrec76 _ _) (ref_seq (ref_seq (R76_10 hrec76 _ _) (ref_block (ref_loop (P := P76_4) (ref_weak (P' := P76_4) (fun s st hp => hp) (ref_seq (ref_seq (R76_8 hrec76 _ _) (ref_cond (P := P76_5) (c := fun s => s.t41) (fun s st hp => by obtain ⟨w0_0, hl, a0, r0_0, a3, a4, a41⟩ := (hp : P76_5' s st.tmps st.h); simp only [evalO, a41, Option.getD_some]) (ref_weak (P' := P76_4) (fun s st hp => by obtain ⟨w0_0, hl, a0, r0_0, a3, a4, a41⟩ := (hp : P76_5' s st.tmps st.h); exact (⟨w0_0, hl, a0, r0_0, a3, a4⟩ : P76_4' s st.tmps st.h)) (ref_skip (fun s st hp => hp))) (ref_weak (P' := P76_0) (fun s st hp => by obtain ⟨w0_0, hl, a0, r0_0, a3, a4, a41⟩ := (hp : P76_5' s st.tmps st.h); exact (⟨w0_0, hl, a0, r0_0, a3⟩ : P76_0' s st.tmps st.h)) (ref_exit (fun s st hp => hp))))) (ref_seq (ref_block (R76_7 hrec76 _ _)) (R76_6 hrec76 _ _))))))) (ref_seq (ref_seq (R76_5 hrec76 _ _) (ref_block (ref_loop (P := P76_2) (ref_weak (P' := P76_2) (fun s st hp => hp) (ref_seq (ref_seq (R76_3 hrec76 _ _) (ref_cond (P := P76_3) (c := fun s => s.t71) (fun s st hp => by obtain ⟨w0_0, hl, a0, r0_0, a3, a5, a71⟩ := (hp : P76_3' s st.tmps st.h); simp only [evalO, a71, Option.getD_some]) (ref_weak (P' := P76_2) (fun s st hp => by obtain ⟨w0_0, hl, a0, r0_0, a3, a5, a71⟩ := (hp : P76_3' s st.tmps st.h); exact (⟨w0_0, hl, a0, r0_0, a3, a5⟩ : P76_2' s st.tmps st.h)) (ref_skip (fun s st hp => hp))) (ref_weak (P' := P76_0) (fun s st hp => by obtain ⟨w0_0, hl, a0, r0_0, a3, a5, a71⟩ := (hp : P76_3' s st.tmps st.h); exact (⟨w0_0, hl, a0, r0_0, a3⟩ : P76_0' s st.tmps st.h)) (ref_exit (fun s st hp => hp))))) (ref_seq (ref_block (R76_2 hrec76 _ _)) (R76_1 hrec76 _ _))))))) (ref_seq (R76_0 hrec76 _ _) (ref_ret (fun s st hp => hp)))))))
noncomputable def G76 (rec76 : TestT → Option (List UInt8)) (x0 : TestT) : Option (List UInt8) := match M76 rec76 { (default : Fr76) with t0 := x0 } with
  | some (.nrm, s) => some s.t2
  | some (.ret, s) => some s.t2
  | _ => none
theorem G76_spec {rec76 : TestT → Option (List UInt8)} (hrec76 : Spec76 rec76) : Spec76 (G76 rec76) := by
  intro x0 vx0_0 hvx0_0 r hr
  unfold G76 at hr
  cases hm : M76 rec76 { (default : Fr76) with t0 := x0 } with
  | none => rw [hm] at hr; cases hr
  | some q =>
    obtain ⟨x, s⟩ := q
    rw [hm] at hr
    have hx : x = .nrm ∨ x = .ret := by cases x <;> first | exact .inl rfl | exact .inr rfl | cases hr
    have hr : s.t2 = r := by cases x <;> first | exact Option.some.inj hr | cases hr
    subst hr
    have hp0 : P76_6' ({ (default : Fr76) with t0 := x0 }) (slots Tryz.f76 (stripL [vx0_0])) bare := ⟨(strip vx0_0 : AVal), rfl, rfl, rTestT_p.str _ _ hvx0_0⟩
    obtain ⟨v, hR, hrun⟩ := run_of_ref (C := Cl) (f := 76) (fn := Tryz.f76) Tryz.func76 rfl rfl rfl rfl (args := [vx0_0]) (by simp only [refsL, refs, List.append_nil, refs_one (rTestT_p.ref _ _ hvx0_0)]) (B76 hrec76) (s0 := { (default : Fr76) with t0 := x0 }) hp0 hm hx (R := fun v => v = .str s.t2) (by
      have key : ∀ st : ASt, P76_1 s st → ∃ vs v, aresults Cl Tryz.f76.results.toList st = some vs ∧ Nrm [] st.h (packRes vs) v ∧ (fun v => v = .str s.t2) v := by
        intro st hp
        obtain ⟨hl, a2⟩ := (hp : P76_1' s st.tmps st.h)
        exact ⟨[.str s.t2], _, by simp only [show Tryz.f76.results.toList = [ResultVar.tmp 2] from rfl, aresults, ares1, CP, a2, Option.getD_some], (Nrm.of (w := .str s.t2) (by simp only [refsL, refs, List.append_nil])), rfl⟩
      intro st hq
      rcases hx with rfl | rfl
      · exact key st hq
      · exact key st hq)
    subst hR
    exact hrun
noncomputable def F76 : Nat → TestT → Option (List UInt8)
  | 0 => fun _ => none
  | n + 1 => G76 (F76 n)
theorem F76_spec : ∀ n, Spec76 (F76 n)
  | 0 => fun x0 vx0_0 hvx0_0 r hr => by cases hr
  | n + 1 => G76_spec (F76_spec n)
theorem Spec76_fuel {f : TestT → Option (List UInt8)} (h : ∀ x0 r, f x0 = some r → ∃ n, F76 n x0 = some r) : Spec76 f := fun x0 vx0_0 hvx0_0 r hr => by
  obtain ⟨n, hn⟩ := h x0 r hr
  exact F76_spec n x0 vx0_0 hvx0_0 r hn
/-! ### caisson/caissonref12.Told -/
structure Fr19 where
  t0 : Bound
  t1 : Bound
  t2 : (List UInt8)
  t3 : (List UInt8)
  t4 : Int
  t5 : Int
  t6 : Int
  t11 : Bool
  t37 : Bool
  t61 : Bool
instance : Inhabited Fr19 := ⟨⟨default, default, [], [], 0, 0, 0, false, false, false⟩⟩
def P19_0' (s : Fr19) (t : List AVal) (h : AHeap) : Prop := ∃ w1_0 w1_1 w1_2 w1_3, t.length = 78 ∧ t[1]? = some (.iptr [w1_0, w1_1, w1_2, w1_3]) ∧ Sl rPick s.t1.Picks w1_0 ∧ Sl rS s.t1.Names w1_1 ∧ rTestT s.t1.Where [w1_2] ∧ Sl (rI .i64) s.t1.Sets w1_3 ∧ t[3]? = some (.str s.t3)
def P19_0 (s : Fr19) (st : ASt) : Prop := P19_0' s st.tmps st.h
def P19_1' (s : Fr19) (t : List AVal) (h : AHeap) : Prop := t.length = 78 ∧ t[2]? = some (.str s.t2)
def P19_1 (s : Fr19) (st : ASt) : Prop := P19_1' s st.tmps st.h
def P19_2' (s : Fr19) (t : List AVal) (h : AHeap) : Prop := ∃ w1_0 w1_1 w1_2 w1_3, t.length = 78 ∧ t[1]? = some (.iptr [w1_0, w1_1, w1_2, w1_3]) ∧ Sl rPick s.t1.Picks w1_0 ∧ Sl rS s.t1.Names w1_1 ∧ rTestT s.t1.Where [w1_2] ∧ Sl (rI .i64) s.t1.Sets w1_3 ∧ t[3]? = some (.str s.t3) ∧ t[6]? = some (.int .i64 s.t6)
def P19_2 (s : Fr19) (st : ASt) : Prop := P19_2' s st.tmps st.h
def P19_3' (s : Fr19) (t : List AVal) (h : AHeap) : Prop := ∃ w1_0 w1_1 w1_2 w1_3, t.length = 78 ∧ t[1]? = some (.iptr [w1_0, w1_1, w1_2, w1_3]) ∧ Sl rPick s.t1.Picks w1_0 ∧ Sl rS s.t1.Names w1_1 ∧ rTestT s.t1.Where [w1_2] ∧ Sl (rI .i64) s.t1.Sets w1_3 ∧ t[3]? = some (.str s.t3) ∧ t[6]? = some (.int .i64 s.t6) ∧ t[61]? = some (.bool s.t61)
def P19_3 (s : Fr19) (st : ASt) : Prop := P19_3' s st.tmps st.h
def P19_4' (s : Fr19) (t : List AVal) (h : AHeap) : Prop := ∃ w1_0 w1_1 w1_2 w1_3, t.length = 78 ∧ t[1]? = some (.iptr [w1_0, w1_1, w1_2, w1_3]) ∧ Sl rPick s.t1.Picks w1_0 ∧ Sl rS s.t1.Names w1_1 ∧ rTestT s.t1.Where [w1_2] ∧ Sl (rI .i64) s.t1.Sets w1_3 ∧ t[3]? = some (.str s.t3) ∧ t[5]? = some (.int .i64 s.t5)
def P19_4 (s : Fr19) (st : ASt) : Prop := P19_4' s st.tmps st.h
def P19_5' (s : Fr19) (t : List AVal) (h : AHeap) : Prop := ∃ w1_0 w1_1 w1_2 w1_3, t.length = 78 ∧ t[1]? = some (.iptr [w1_0, w1_1, w1_2, w1_3]) ∧ Sl rPick s.t1.Picks w1_0 ∧ Sl rS s.t1.Names w1_1 ∧ rTestT s.t1.Where [w1_2] ∧ Sl (rI .i64) s.t1.Sets w1_3 ∧ t[3]? = some (.str s.t3) ∧ t[5]? = some (.int .i64 s.t5) ∧ t[37]? = some (.bool s.t37)
def P19_5 (s : Fr19) (st : ASt) : Prop := P19_5' s st.tmps st.h
def P19_6' (s : Fr19) (t : List AVal) (h : AHeap) : Prop := ∃ w1_0 w1_1 w1_2 w1_3, t.length = 78 ∧ t[1]? = some (.iptr [w1_0, w1_1, w1_2, w1_3]) ∧ Sl rPick s.t1.Picks w1_0 ∧ Sl rS s.t1.Names w1_1 ∧ rTestT s.t1.Where [w1_2] ∧ Sl (rI .i64) s.t1.Sets w1_3 ∧ t[3]? = some (.str s.t3) ∧ t[4]? = some (.int .i64 s.t4)
def P19_6 (s : Fr19) (st : ASt) : Prop := P19_6' s st.tmps st.h
def P19_7' (s : Fr19) (t : List AVal) (h : AHeap) : Prop := ∃ w1_0 w1_1 w1_2 w1_3, t.length = 78 ∧ t[1]? = some (.iptr [w1_0, w1_1, w1_2, w1_3]) ∧ Sl rPick s.t1.Picks w1_0 ∧ Sl rS s.t1.Names w1_1 ∧ rTestT s.t1.Where [w1_2] ∧ Sl (rI .i64) s.t1.Sets w1_3 ∧ t[3]? = some (.str s.t3) ∧ t[4]? = some (.int .i64 s.t4) ∧ t[11]? = some (.bool s.t11)
def P19_7 (s : Fr19) (st : ASt) : Prop := P19_7' s st.tmps st.h
def P19_8' (s : Fr19) (t : List AVal) (h : AHeap) : Prop := ∃ w1_0 w1_1 w1_2 w1_3, t.length = 78 ∧ t[1]? = some (.iptr [w1_0, w1_1, w1_2, w1_3]) ∧ Sl rPick s.t1.Picks w1_0 ∧ Sl rS s.t1.Names w1_1 ∧ rTestT s.t1.Where [w1_2] ∧ Sl (rI .i64) s.t1.Sets w1_3
def P19_8 (s : Fr19) (st : ASt) : Prop := P19_8' s st.tmps st.h
def P19_9' (s : Fr19) (t : List AVal) (h : AHeap) : Prop := ∃ w0_0 w0_1 w0_2 w0_3, t.length = 78 ∧ t[0]? = some (.agg [w0_0, w0_1, w0_2, w0_3]) ∧ Sl rPick s.t0.Picks w0_0 ∧ Sl rS s.t0.Names w0_1 ∧ rTestT s.t0.Where [w0_2] ∧ Sl (rI .i64) s.t0.Sets w0_3
def P19_9 (s : Fr19) (st : ASt) : Prop := P19_9' s st.tmps st.h
noncomputable def m19_0 : Mo Fr19 := fun s => (F76 5000 s.t1.Where).bind fun z1 => (catT s.t3 z1).bind fun z3 => some (.nrm, { s with t2 := z3 })
noncomputable def m19_1 : Mo Fr19 := fun s => some (.nrm, { s with t6 := IntKind.wrap .i64 (s.t6 + 1) })
noncomputable def m19_2 : Mo Fr19 := fun s => (catT s.t3 ([115] : List UInt8)).bind fun z9 => (at? s.t1.Sets s.t6).bind fun y11 => (S75 y11).bind fun z13 => (catT z9 z13).bind fun z15 => some (.nrm, { s with t3 := z15 })
noncomputable def m19_3 : Mo Fr19 := fun s => some (.nrm, { s with t61 := decide (s.t6 < (s.t1.Sets.length : Int)) })
noncomputable def L19_4 : Mo Fr19 := seqM (seqM (m19_3) (condM (fun s => s.t61) (skipM) (exitM 4))) (seqM (blockM 5 (m19_2)) (m19_1))
noncomputable def m19_5 : Mo Fr19 := fun s => some (.nrm, { s with t6 := 0 })
noncomputable def m19_6 : Mo Fr19 := fun s => some (.nrm, { s with t5 := IntKind.wrap .i64 (s.t5 + 1) })
noncomputable def m19_7 : Mo Fr19 := fun s => (catT s.t3 ([110] : List UInt8)).bind fun z27 => (at? s.t1.Names s.t5).bind fun y29 => (S75 (y29.length : Int)).bind fun z31 => (catT z27 z31).bind fun z33 => (catT z33 ([58] : List UInt8)).bind fun z35 => (catT z35 y29).bind fun z37 => some (.nrm, { s with t3 := z37 })
noncomputable def m19_8 : Mo Fr19 := fun s => some (.nrm, { s with t37 := decide (s.t5 < (s.t1.Names.length : Int)) })
noncomputable def L19_9 : Mo Fr19 := seqM (seqM (m19_8) (condM (fun s => s.t37) (skipM) (exitM 2))) (seqM (blockM 3 (m19_7)) (m19_6))
noncomputable def m19_10 : Mo Fr19 := fun s => some (.nrm, { s with t5 := 0 })
noncomputable def m19_11 : Mo Fr19 := fun s => some (.nrm, { s with t4 := IntKind.wrap .i64 (s.t4 + 1) })
noncomputable def m19_12 : Mo Fr19 := fun s => (catT s.t3 ([112] : List UInt8)).bind fun z53 => (at? s.t1.Picks s.t4).bind fun y55 => (S75 y55.Kind).bind fun z57 => (catT z53 z57).bind fun z59 => (catT z59 ([46] : List UInt8)).bind fun z61 => (S75 y55.Index).bind fun z63 => (catT z61 z63).bind fun z65 => some (.nrm, { s with t3 := z65 })
noncomputable def m19_13 : Mo Fr19 := fun s => some (.nrm, { s with t11 := decide (s.t4 < (s.t1.Picks.length : Int)) })
noncomputable def L19_14 : Mo Fr19 := seqM (seqM (m19_13) (condM (fun s => s.t11) (skipM) (exitM 0))) (seqM (blockM 1 (m19_12)) (m19_11))
noncomputable def m19_15 : Mo Fr19 := fun s => some (.nrm, { s with t4 := 0 })
noncomputable def m19_16 : Mo Fr19 := fun s => some (.nrm, { s with t3 := ([] : List UInt8) })
noncomputable def m19_17 : Mo Fr19 := fun s => some (.nrm, { s with t1 := s.t0 })
noncomputable def M19 : Mo Fr19 := seqM (m19_17) (seqM (m19_16) (seqM (seqM (m19_15) (blockM 0 (loopM (L19_14)))) (seqM (seqM (m19_10) (blockM 2 (loopM (L19_9)))) (seqM (seqM (m19_5) (blockM 4 (loopM (L19_4)))) (seqM (m19_0) (retM))))))
def Spec19 (f : Bound → Option (List UInt8)) : Prop := ∀ (x0 : Bound) (vx0_0 : AVal) (_ : Sl rPick x0.Picks vx0_0) (vx0_1 : AVal) (_ : Sl rS x0.Names vx0_1) (vx0_2 : AVal) (_ : rTestT x0.Where [vx0_2]) (vx0_3 : AVal) (_ : Sl (rI .i64) x0.Sets vx0_3) (r : (List UInt8)), f x0 = some r → ∀ h, run Cl 19 [.agg [vx0_0, vx0_1, vx0_2, vx0_3]] h = some (.ret (.str r), h)
theorem Spec19_of {f g : Bound → Option (List UInt8)} (hg : Spec19 g) (h : ∀ x0 r, f x0 = some r → g x0 = some r) : Spec19 f := fun x0 v0_ w0_ v1_ w1_ v2_ w2_ v3_ w3_ r hr => hg x0 v0_ w0_ v1_ w1_ v2_ w2_ v3_ w3_ r (h x0 r hr)
theorem R19_0 (pe pr) : Ref Cl P19_0 (Cat [true, true, true, true, true, false] (bodyOf Tryz.f19)) m19_0 (post P19_1 pe pr) := by
  rintro s ⟨t, h⟩ hp x s' hm
  obtain ⟨w1_0, w1_1, w1_2, w1_3, hl, a1, r1_0, r1_1, r1_2, r1_3, a3⟩ : P19_0' s t h := hp
  unfold m19_0 at hm
  obtain ⟨z5, hz5, hm⟩ := Option.bind_eq_some_iff.1 hm
  have iu6 := (F76_spec 5000) s.t1.Where _ r1_2 _ hz5
  obtain ⟨z7, hz7, hm⟩ := Option.bind_eq_some_iff.1 hm
  have iu8 := cat_v (C := Cl) hz7
  cases hm
  refine ⟨⟨_, _⟩, by simp only [bodyOf, Tryz.f19, Cat, Zs, awanted, aoper, evalO, put, acallOp, abuiltin, Nat.reduceEqDiff, Nat.reduceLT, ofV, ofCell, ↓reduceIte, hl, a1, a3, CP, TyB.fa35_2, dropCells, List.drop_succ_cons, List.drop_zero, TyB.ld32, ld_ip, ofc1, List.drop_succ_cons, List.drop_zero, iu6, iu8]; exact rfl, ?_⟩
  show P19_1 _ _
  exact ⟨by simp [hl], by simp [hl]⟩
theorem R19_1 (pe pr) : Ref Cl P19_2 (Cat [true, true, true, true, false, true, true, true, true, true] (bodyOf Tryz.f19)) m19_1 (post P19_2 pe pr) := by
  rintro s ⟨t, h⟩ hp x s' hm
  obtain ⟨w1_0, w1_1, w1_2, w1_3, hl, a1, r1_0, r1_1, r1_2, r1_3, a3, a6⟩ : P19_2' s t h := hp
  unfold m19_1 at hm
  cases hm
  refine ⟨⟨_, _⟩, by simp only [bodyOf, Tryz.f19, Cat, Zs, awanted, aoper, evalO, put, acallOp, abuiltin, Nat.reduceEqDiff, Nat.reduceLT, ofV, ofCell, ↓reduceIte, hl, a1, a3, a6, CP]; exact rfl, ?_⟩
  show P19_2 _ _
  exact ⟨w1_0, w1_1, w1_2, w1_3, by simp [hl], by simp [a1], r1_0, r1_1, r1_2, r1_3, by simp [a3], by simp [hl]⟩
theorem R19_2 (pe pr) : Ref Cl P19_2 (Cat [true, true, true, true, false, true, true, true, true, false, true] (bodyOf Tryz.f19)) m19_2 (post P19_2 pe pr) := by
  rintro s ⟨t, h⟩ hp x s' hm
  obtain ⟨w1_0, w1_1, w1_2, w1_3, hl, a1, r1_0, r1_1, r1_2, r1_3, a3, a6⟩ : P19_2' s t h := hp
  unfold m19_2 at hm
  obtain ⟨z17, hz17, hm⟩ := Option.bind_eq_some_iff.1 hm
  have iu18 := cat_v (C := Cl) hz17
  obtain ⟨y19, hy19, hm⟩ := Option.bind_eq_some_iff.1 hm
  obtain ⟨cu20, du20, eu20, iu20, _⟩ := Sl.ix (rI_p .i64) r1_3 hy19
  subst eu20
  obtain ⟨z21, hz21, hm⟩ := Option.bind_eq_some_iff.1 hm
  have iu22 := S75_spec y19  _ hz21
  obtain ⟨z23, hz23, hm⟩ := Option.bind_eq_some_iff.1 hm
  have iu24 := cat_v (C := Cl) hz23
  cases hm
  refine ⟨⟨_, _⟩, by simp only [bodyOf, Tryz.f19, Cat, Zs, awanted, aoper, evalO, put, acallOp, abuiltin, Nat.reduceEqDiff, Nat.reduceLT, ofV, ofCell, ↓reduceIte, hl, a1, a3, a6, CP, iu18, TyB.fa35_3, dropCells, List.drop_succ_cons, List.drop_zero, TyB.ld33, ld_ip, ofc1, List.drop_succ_cons, List.drop_zero, TyB.ix33, iu20, TyB.ld3, iu22, iu24]; exact rfl, ?_⟩
  show P19_2 _ _
  exact ⟨w1_0, w1_1, w1_2, w1_3, by simp [hl], by simp [a1], r1_0, r1_1, r1_2, r1_3, by simp [hl], by simp [a6]⟩
theorem R19_3 (pe pr) : Ref Cl P19_2 (Cat [true, true, true, true, false, true, true, true, false, false] (bodyOf Tryz.f19)) m19_3 (post P19_3 pe pr) := by
  rintro s ⟨t, h⟩ hp x s' hm
  obtain ⟨w1_0, w1_1, w1_2, w1_3, hl, a1, r1_0, r1_1, r1_2, r1_3, a3, a6⟩ : P19_2' s t h := hp
  unfold m19_3 at hm
  have lu26 := fun h => Sl.len r1_3 TyB.un33 h
  cases hm
  refine ⟨⟨_, _⟩, by simp only [bodyOf, Tryz.f19, Cat, Zs, awanted, aoper, evalO, put, acallOp, abuiltin, Nat.reduceEqDiff, Nat.reduceLT, ofV, ofCell, ↓reduceIte, hl, a1, a3, a6, CP, TyB.fa35_3, dropCells, List.drop_succ_cons, List.drop_zero, TyB.ld33, ld_ip, ofc1, List.drop_succ_cons, List.drop_zero, lu26]; exact rfl, ?_⟩
  show P19_3 _ _
  exact ⟨w1_0, w1_1, w1_2, w1_3, by simp [hl], by simp [a1], r1_0, r1_1, r1_2, r1_3, by simp [a3], by simp [a6], by simp [hl]⟩
theorem R19_5 (pe pr) : Ref Cl P19_0 (Cat [true, true, true, true, false, false] (bodyOf Tryz.f19)) m19_5 (post P19_2 pe pr) := by
  rintro s ⟨t, h⟩ hp x s' hm
  obtain ⟨w1_0, w1_1, w1_2, w1_3, hl, a1, r1_0, r1_1, r1_2, r1_3, a3⟩ : P19_0' s t h := hp
  unfold m19_5 at hm
  cases hm
  refine ⟨⟨_, _⟩, by simp only [bodyOf, Tryz.f19, Cat, Zs, awanted, aoper, evalO, put, acallOp, abuiltin, Nat.reduceEqDiff, Nat.reduceLT, ofV, ofCell, ↓reduceIte, hl, a1, a3, CP]; exact rfl, ?_⟩
  show P19_2 _ _
  exact ⟨w1_0, w1_1, w1_2, w1_3, by simp [hl], by simp [a1], r1_0, r1_1, r1_2, r1_3, by simp [a3], by simp [hl]⟩
theorem R19_6 (pe pr) : Ref Cl P19_4 (Cat [true, true, true, false, true, true, true, true, true] (bodyOf Tryz.f19)) m19_6 (post P19_4 pe pr) := by
  rintro s ⟨t, h⟩ hp x s' hm
  obtain ⟨w1_0, w1_1, w1_2, w1_3, hl, a1, r1_0, r1_1, r1_2, r1_3, a3, a5⟩ : P19_4' s t h := hp
  unfold m19_6 at hm
  cases hm
  refine ⟨⟨_, _⟩, by simp only [bodyOf, Tryz.f19, Cat, Zs, awanted, aoper, evalO, put, acallOp, abuiltin, Nat.reduceEqDiff, Nat.reduceLT, ofV, ofCell, ↓reduceIte, hl, a1, a3, a5, CP]; exact rfl, ?_⟩
  show P19_4 _ _
  exact ⟨w1_0, w1_1, w1_2, w1_3, by simp [hl], by simp [a1], r1_0, r1_1, r1_2, r1_3, by simp [a3], by simp [hl]⟩
theorem R19_7 (pe pr) : Ref Cl P19_4 (Cat [true, true, true, false, true, true, true, true, false, true] (bodyOf Tryz.f19)) m19_7 (post P19_4 pe pr) := by
  rintro s ⟨t, h⟩ hp x s' hm
  obtain ⟨w1_0, w1_1, w1_2, w1_3, hl, a1, r1_0, r1_1, r1_2, r1_3, a3, a5⟩ : P19_4' s t h := hp
  unfold m19_7 at hm
  obtain ⟨z39, hz39, hm⟩ := Option.bind_eq_some_iff.1 hm
  have iu40 := cat_v (C := Cl) hz39
  obtain ⟨y41, hy41, hm⟩ := Option.bind_eq_some_iff.1 hm
  obtain ⟨cu42, du42, eu42, iu42, _⟩ := Sl.ix rS_p r1_1 hy41
  subst eu42
  obtain ⟨z43, hz43, hm⟩ := Option.bind_eq_some_iff.1 hm
  have iu44 := S75_spec (y41.length : Int)  _ hz43
  obtain ⟨z45, hz45, hm⟩ := Option.bind_eq_some_iff.1 hm
  have iu46 := cat_v (C := Cl) hz45
  obtain ⟨z47, hz47, hm⟩ := Option.bind_eq_some_iff.1 hm
  have iu48 := cat_v (C := Cl) hz47
  obtain ⟨z49, hz49, hm⟩ := Option.bind_eq_some_iff.1 hm
  have iu50 := cat_v (C := Cl) hz49
  cases hm
  refine ⟨⟨_, _⟩, by
      simp only [bodyOf, Tryz.f19, Cat, Zs, awanted, aoper, evalO, put, acallOp, abuiltin, Nat.reduceEqDiff, Nat.reduceLT, ofV, ofCell, ↓reduceIte, hl, a1, a3, a5, CP, iu40, TyB.fa35_1, dropCells, List.drop_succ_cons, List.drop_zero, TyB.ld22, ld_ip, ofc1, List.drop_succ_cons, List.drop_zero, TyB.ix22, iu42, TyB.ld9, TyB.le9, iu44, iu46, iu48, iu50]
      rw [k_draw _ _ _ (by kernel_rfl)]
      exact rfl, ?_⟩
  show P19_4 _ _
  exact ⟨w1_0, w1_1, w1_2, w1_3, by simp [hl], by simp [a1], r1_0, r1_1, r1_2, r1_3, by simp [hl], by simp [a5]⟩
theorem R19_8 (pe pr) : Ref Cl P19_4 (Cat [true, true, true, false, true, true, true, false, false] (bodyOf Tryz.f19)) m19_8 (post P19_5 pe pr) := by
  rintro s ⟨t, h⟩ hp x s' hm
  obtain ⟨w1_0, w1_1, w1_2, w1_3, hl, a1, r1_0, r1_1, r1_2, r1_3, a3, a5⟩ : P19_4' s t h := hp
  unfold m19_8 at hm
  have lu52 := fun h => Sl.len r1_1 TyB.un22 h
  cases hm
  refine ⟨⟨_, _⟩, by simp only [bodyOf, Tryz.f19, Cat, Zs, awanted, aoper, evalO, put, acallOp, abuiltin, Nat.reduceEqDiff, Nat.reduceLT, ofV, ofCell, ↓reduceIte, hl, a1, a3, a5, CP, TyB.fa35_1, dropCells, List.drop_succ_cons, List.drop_zero, TyB.ld22, ld_ip, ofc1, List.drop_succ_cons, List.drop_zero, lu52]; exact rfl, ?_⟩
  show P19_5 _ _
  exact ⟨w1_0, w1_1, w1_2, w1_3, by simp [hl], by simp [a1], r1_0, r1_1, r1_2, r1_3, by simp [a3], by simp [a5], by simp [hl]⟩
theorem R19_10 (pe pr) : Ref Cl P19_0 (Cat [true, true, true, false, false] (bodyOf Tryz.f19)) m19_10 (post P19_4 pe pr) := by
  rintro s ⟨t, h⟩ hp x s' hm
  obtain ⟨w1_0, w1_1, w1_2, w1_3, hl, a1, r1_0, r1_1, r1_2, r1_3, a3⟩ : P19_0' s t h := hp
  unfold m19_10 at hm
  cases hm
  refine ⟨⟨_, _⟩, by simp only [bodyOf, Tryz.f19, Cat, Zs, awanted, aoper, evalO, put, acallOp, abuiltin, Nat.reduceEqDiff, Nat.reduceLT, ofV, ofCell, ↓reduceIte, hl, a1, a3, CP]; exact rfl, ?_⟩
  show P19_4 _ _
  exact ⟨w1_0, w1_1, w1_2, w1_3, by simp [hl], by simp [a1], r1_0, r1_1, r1_2, r1_3, by simp [a3], by simp [hl]⟩
theorem R19_11 (pe pr) : Ref Cl P19_6 (Cat [true, true, false, true, true, true, true, true] (bodyOf Tryz.f19)) m19_11 (post P19_6 pe pr) := by
  rintro s ⟨t, h⟩ hp x s' hm
  obtain ⟨w1_0, w1_1, w1_2, w1_3, hl, a1, r1_0, r1_1, r1_2, r1_3, a3, a4⟩ : P19_6' s t h := hp
  unfold m19_11 at hm
  cases hm
  refine ⟨⟨_, _⟩, by simp only [bodyOf, Tryz.f19, Cat, Zs, awanted, aoper, evalO, put, acallOp, abuiltin, Nat.reduceEqDiff, Nat.reduceLT, ofV, ofCell, ↓reduceIte, hl, a1, a3, a4, CP]; exact rfl, ?_⟩
  show P19_6 _ _
  exact ⟨w1_0, w1_1, w1_2, w1_3, by simp [hl], by simp [a1], r1_0, r1_1, r1_2, r1_3, by simp [a3], by simp [hl]⟩
theorem R19_12 (pe pr) : Ref Cl P19_6 (Cat [true, true, false, true, true, true, true, false, true] (bodyOf Tryz.f19)) m19_12 (post P19_6 pe pr) := by
  rintro s ⟨t, h⟩ hp x s' hm
  obtain ⟨w1_0, w1_1, w1_2, w1_3, hl, a1, r1_0, r1_1, r1_2, r1_3, a3, a4⟩ : P19_6' s t h := hp
  unfold m19_12 at hm
  obtain ⟨z67, hz67, hm⟩ := Option.bind_eq_some_iff.1 hm
  have iu68 := cat_v (C := Cl) hz67
  obtain ⟨y69, hy69, hm⟩ := Option.bind_eq_some_iff.1 hm
  obtain ⟨cu70, du70, eu70, iu70, _⟩ := Sl.ix rPick_p r1_0 hy69
  have eu70 := eu70; unfold rPick at eu70; subst eu70
  obtain ⟨z71, hz71, hm⟩ := Option.bind_eq_some_iff.1 hm
  have iu72 := S75_spec y69.Kind  _ hz71
  obtain ⟨z73, hz73, hm⟩ := Option.bind_eq_some_iff.1 hm
  have iu74 := cat_v (C := Cl) hz73
  obtain ⟨z75, hz75, hm⟩ := Option.bind_eq_some_iff.1 hm
  have iu76 := cat_v (C := Cl) hz75
  obtain ⟨z77, hz77, hm⟩ := Option.bind_eq_some_iff.1 hm
  have iu78 := S75_spec y69.Index  _ hz77
  obtain ⟨z79, hz79, hm⟩ := Option.bind_eq_some_iff.1 hm
  have iu80 := cat_v (C := Cl) hz79
  cases hm
  refine ⟨⟨_, _⟩, by
      simp only [bodyOf, Tryz.f19, Cat, Zs, awanted, aoper, evalO, put, acallOp, abuiltin, Nat.reduceEqDiff, Nat.reduceLT, ofV, ofCell, ↓reduceIte, hl, a1, a3, a4, CP, iu68, TyB.fa35_0, dropCells, List.drop_succ_cons, List.drop_zero, TyB.ld31, ld_ip, ofc1, List.drop_succ_cons, List.drop_zero, TyB.ix31, iu70, TyB.fa63_0, TyB.ld3, iu72, iu74, iu76, TyB.fa63_1, iu78, iu80]
      rw [k_draw _ _ _ (by kernel_rfl)]
      exact rfl, ?_⟩
  show P19_6 _ _
  exact ⟨w1_0, w1_1, w1_2, w1_3, by simp [hl], by simp [a1], r1_0, r1_1, r1_2, r1_3, by simp [hl], by simp [a4]⟩
theorem R19_13 (pe pr) : Ref Cl P19_6 (Cat [true, true, false, true, true, true, false, false] (bodyOf Tryz.f19)) m19_13 (post P19_7 pe pr) := by
  rintro s ⟨t, h⟩ hp x s' hm
  obtain ⟨w1_0, w1_1, w1_2, w1_3, hl, a1, r1_0, r1_1, r1_2, r1_3, a3, a4⟩ : P19_6' s t h := hp
  unfold m19_13 at hm
  have lu82 := fun h => Sl.len r1_0 TyB.un31 h
  cases hm
  refine ⟨⟨_, _⟩, by simp only [bodyOf, Tryz.f19, Cat, Zs, awanted, aoper, evalO, put, acallOp, abuiltin, Nat.reduceEqDiff, Nat.reduceLT, ofV, ofCell, ↓reduceIte, hl, a1, a3, a4, CP, TyB.fa35_0, dropCells, List.drop_succ_cons, List.drop_zero, TyB.ld31, ld_ip, ofc1, List.drop_succ_cons, List.drop_zero, lu82]; exact rfl, ?_⟩
  show P19_7 _ _
  exact ⟨w1_0, w1_1, w1_2, w1_3, by simp [hl], by simp [a1], r1_0, r1_1, r1_2, r1_3, by simp [a3], by simp [a4], by simp [hl]⟩
theorem R19_15 (pe pr) : Ref Cl P19_0 (Cat [true, true, false, false] (bodyOf Tryz.f19)) m19_15 (post P19_6 pe pr) := by
  rintro s ⟨t, h⟩ hp x s' hm
  obtain ⟨w1_0, w1_1, w1_2, w1_3, hl, a1, r1_0, r1_1, r1_2, r1_3, a3⟩ : P19_0' s t h := hp
  unfold m19_15 at hm
  cases hm
  refine ⟨⟨_, _⟩, by simp only [bodyOf, Tryz.f19, Cat, Zs, awanted, aoper, evalO, put, acallOp, abuiltin, Nat.reduceEqDiff, Nat.reduceLT, ofV, ofCell, ↓reduceIte, hl, a1, a3, CP]; exact rfl, ?_⟩
  show P19_6 _ _
  exact ⟨w1_0, w1_1, w1_2, w1_3, by simp [hl], by simp [a1], r1_0, r1_1, r1_2, r1_3, by simp [a3], by simp [hl]⟩
theorem R19_16 (pe pr) : Ref Cl P19_8 (Cat [true, false] (bodyOf Tryz.f19)) m19_16 (post P19_0 pe pr) := by
  rintro s ⟨t, h⟩ hp x s' hm
  obtain ⟨w1_0, w1_1, w1_2, w1_3, hl, a1, r1_0, r1_1, r1_2, r1_3⟩ : P19_8' s t h := hp
  unfold m19_16 at hm
  cases hm
  refine ⟨⟨_, _⟩, by simp only [bodyOf, Tryz.f19, Cat, Zs, awanted, aoper, evalO, put, acallOp, abuiltin, Nat.reduceEqDiff, Nat.reduceLT, ofV, ofCell, ↓reduceIte, hl, a1, CP]; exact rfl, ?_⟩
  show P19_0 _ _
  exact ⟨w1_0, w1_1, w1_2, w1_3, by simp [hl], by simp [a1], r1_0, r1_1, r1_2, r1_3, by simp [hl]⟩
theorem R19_17 (pe pr) : Ref Cl P19_9 (Cat [false] (bodyOf Tryz.f19)) m19_17 (post P19_8 pe pr) := by
  rintro s ⟨t, h⟩ hp x s' hm
  obtain ⟨w0_0, w0_1, w0_2, w0_3, hl, a0, r0_0, r0_1, r0_2, r0_3⟩ : P19_9' s t h := hp
  unfold m19_17 at hm
  have ic87 : (w0_0 : AVal).isCell = true := Sl.isCell r0_0
  have ic88 : (w0_1 : AVal).isCell = true := Sl.isCell r0_1
  have ic89 : (w0_2 : AVal).isCell = true := rTestT_cell r0_2
  have ic90 : (w0_3 : AVal).isCell = true := Sl.isCell r0_3
  cases hm
  refine ⟨⟨_, _⟩, by simp only [bodyOf, Tryz.f19, Cat, Zs, awanted, aoper, evalO, put, acallOp, abuiltin, Nat.reduceEqDiff, Nat.reduceLT, ofV, ofCell, ↓reduceIte, hl, a0, CP, TyB.cb_parse_go_148, TyB.cb_parse_go_143, TyB.cb_parse_go_130, TyB.cb_law_go_96, TyB.cb_bind_go_316, TyB.cb_ref_go_330, ic87, bx_c ic87, cl_c ic87, ic88, bx_c ic88, cl_c ic88, ic89, bx_c ic89, cl_c ic89, ic90, bx_c ic90, cl_c ic90, Zc]; exact rfl, ?_⟩
  show P19_8 _ _
  exact ⟨w0_0, w0_1, w0_2, w0_3, by simp [hl], by simp [hl], r0_0, r0_1, r0_2, r0_3⟩
theorem B19 : Ref Cl P19_9 (bodyOf Tryz.f19) (M19) (post P19_1 (fun _ _ _ => False) P19_1) := by
  rw [show bodyOf Tryz.f19 = .seq (Cat [false] (bodyOf Tryz.f19)) (.seq (Cat [true, false] (bodyOf Tryz.f19)) (.seq (.seq (Cat [true, true, false, false] (bodyOf Tryz.f19)) (.block 0 (.loop (.seq (.seq (Cat [true, true, false, true, true, true, false, false] (bodyOf Tryz.f19)) (.cond (.tmp 11) (.skip) (.exit 0))) (.seq (.block 1 (Cat [true, true, false, true, true, true, true, false, true] (bodyOf Tryz.f19))) (Cat [true, true, false, true, true, true, true, true] (bodyOf Tryz.f19))))))) (.seq (.seq (Cat [true, true, true, false, false] (bodyOf Tryz.f19)) (.block 2 (.loop (.seq (.seq (Cat [true, true, true, false, true, true, true, false, false] (bodyOf Tryz.f19)) (.cond (.tmp 37) (.skip) (.exit 2))) (.seq (.block 3 (Cat [true, true, true, false, true, true, true, true, false, true] (bodyOf Tryz.f19))) (Cat [true, true, true, false, true, true, true, true, true] (bodyOf Tryz.f19))))))) (.seq (.seq (Cat [true, true, true, true, false, false] (bodyOf Tryz.f19)) (.block 4 (.loop (.seq (.seq (Cat [true, true, true, true, false, true, true, true, false, false] (bodyOf Tryz.f19)) (.cond (.tmp 61) (.skip) (.exit 4))) (.seq (.block 5 (Cat [true, true, true, true, false, true, true, true, true, false, true] (bodyOf Tryz.f19))) (Cat [true, true, true, true, false, true, true, true, true, true] (bodyOf Tryz.f19))))))) (.seq (Cat [true, true, true, true, true, false] (bodyOf Tryz.f19)) (.ret)))))) from rfl]
  unfold M19
  exact ref_seq (R19_17 _ _) (ref_seq (R19_16 _ _) (ref_seq (ref_seq (R19_15 _ _) (ref_block (ref_loop (P := P19_6) (ref_weak (P' := P19_6) (fun s st hp => hp) (ref_seq (ref_seq (R19_13 _ _) (ref_cond (P := P19_7) (c := fun s => s.t11) (fun s st hp => by obtain ⟨w1_0, w1_1, w1_2, w1_3, hl, a1, r1_0, r1_1, r1_2, r1_3, a3, a4, a11⟩ := (hp : P19_7' s st.tmps st.h); simp only [evalO, a11, Option.getD_some]) (ref_weak (P' := P19_6) (fun s st hp => by obtain ⟨w1_0, w1_1, w1_2, w1_3, hl, a1, r1_0, r1_1, r1_2, r1_3, a3, a4, a11⟩ := (hp : P19_7' s st.tmps st.h); exact (⟨w1_0, w1_1, w1_2, w1_3, hl, a1, r1_0, r1_1, r1_2, r1_3, a3, a4⟩ : P19_6' s st.tmps st.h)) (ref_skip (fun s st hp => hp))) (ref_weak (P' := P19_0) (fun s st hp => by obtain ⟨w1_0, w1_1, w1_2, w1_3, hl, a1, r1_0, r1_1, r1_2, r1_3, a3, a4, a11⟩ := (hp : P19_7' s st.tmps st.h); exact (⟨w1_0, w1_1, w1_2, w1_3, hl, a1, r1_0, r1_1, r1_2, r1_3, a3⟩ : P19_0' s st.tmps st.h)) (ref_exit (fun s st hp => hp))))) (ref_seq (ref_block (R19_12 _ _)) (R19_11 _ _))))))) (ref_seq (ref_seq (R19_10 _ _) (ref_block (ref_loop (P := P19_4) (ref_weak (P' := P19_4) (fun s st hp => hp) (ref_seq (ref_seq (R19_8 _ _) (ref_cond (P := P19_5) (c := fun s => s.t37) (fun s st hp => by obtain ⟨w1_0, w1_1, w1_2, w1_3, hl, a1, r1_0, r1_1, r1_2, r1_3, a3, a5, a37⟩ := (hp : P19_5' s st.tmps st.h); simp only [evalO, a37, Option.getD_some]) (ref_weak (P' := P19_4) (fun s st hp => by obtain ⟨w1_0, w1_1, w1_2, w1_3, hl, a1, r1_0, r1_1, r1_2, r1_3, a3, a5, a37⟩ := (hp : P19_5' s st.tmps st.h); exact (⟨w1_0, w1_1, w1_2, w1_3, hl, a1, r1_0, r1_1, r1_2, r1_3, a3, a5⟩ : P19_4' s st.tmps st.h)) (ref_skip (fun s st hp => hp))) (ref_weak (P' := P19_0) (fun s st hp => by obtain ⟨w1_0, w1_1, w1_2, w1_3, hl, a1, r1_0, r1_1, r1_2, r1_3, a3, a5, a37⟩ := (hp : P19_5' s st.tmps st.h); exact (⟨w1_0, w1_1, w1_2, w1_3, hl, a1, r1_0, r1_1, r1_2, r1_3, a3⟩ : P19_0' s st.tmps st.h)) (ref_exit (fun s st hp => hp))))) (ref_seq (ref_block (R19_7 _ _)) (R19_6 _ _))))))) (ref_seq (ref_seq (R19_5 _ _) (ref_block (ref_loop (P := P19_2) (ref_weak (P' := P19_2) (fun s st hp => hp) (ref_seq (ref_seq (R19_3 _ _) (ref_cond (P := P19_3) (c := fun s => s.t61) (fun s st hp => by obtain ⟨w1_0, w1_1, w1_2, w1_3, hl, a1, r1_0, r1_1, r1_2, r1_3, a3, a6, a61⟩ := (hp : P19_3' s st.tmps st.h); simp only [evalO, a61, Option.getD_some]) (ref_weak (P' := P19_2) (fun s st hp => by obtain ⟨w1_0, w1_1, w1_2, w1_3, hl, a1, r1_0, r1_1, r1_2, r1_3, a3, a6, a61⟩ := (hp : P19_3' s st.tmps st.h); exact (⟨w1_0, w1_1, w1_2, w1_3, hl, a1, r1_0, r1_1, r1_2, r1_3, a3, a6⟩ : P19_2' s st.tmps st.h)) (ref_skip (fun s st hp => hp))) (ref_weak (P' := P19_0) (fun s st hp => by obtain ⟨w1_0, w1_1, w1_2, w1_3, hl, a1, r1_0, r1_1, r1_2, r1_3, a3, a6, a61⟩ := (hp : P19_3' s st.tmps st.h); exact (⟨w1_0, w1_1, w1_2, w1_3, hl, a1, r1_0, r1_1, r1_2, r1_3, a3⟩ : P19_0' s st.tmps st.h)) (ref_exit (fun s st hp => hp))))) (ref_seq (ref_block (R19_2 _ _)) (R19_1 _ _))))))) (ref_seq (R19_0 _ _) (ref_ret (fun s st hp => hp)))))))
noncomputable def G19 (x0 : Bound) : Option (List UInt8) := match M19 { (default : Fr19) with t0 := x0 } with
  | some (.nrm, s) => some s.t2
  | some (.ret, s) => some s.t2
  | _ => none
theorem G19_spec : Spec19 (G19) := by
  intro x0 vx0_0 hvx0_0 vx0_1 hvx0_1 vx0_2 hvx0_2 vx0_3 hvx0_3 r hr
  unfold G19 at hr
  cases hm : M19 { (default : Fr19) with t0 := x0 } with
  | none => rw [hm] at hr; cases hr
  | some q =>
    obtain ⟨x, s⟩ := q
    rw [hm] at hr
    have hx : x = .nrm ∨ x = .ret := by cases x <;> first | exact .inl rfl | exact .inr rfl | cases hr
    have hr : s.t2 = r := by cases x <;> first | exact Option.some.inj hr | cases hr
    subst hr
    have hp0 : P19_9' ({ (default : Fr19) with t0 := x0 }) (slots Tryz.f19 (stripL [.agg [vx0_0, vx0_1, vx0_2, vx0_3]])) bare := ⟨(strip vx0_0 : AVal), (strip vx0_1 : AVal), (strip vx0_2 : AVal), (strip vx0_3 : AVal), rfl, rfl, hvx0_0.strip rPick_p, hvx0_1.strip rS_p, rTestT_p.str _ _ hvx0_2, hvx0_3.strip (rI_p .i64)⟩
    obtain ⟨v, hR, hrun⟩ := run_of_ref (C := Cl) (f := 19) (fn := Tryz.f19) Tryz.func19 rfl rfl rfl rfl (args := [.agg [vx0_0, vx0_1, vx0_2, vx0_3]]) (by simp only [refsL, refs, List.append_nil, hvx0_0.refs rPick_p, hvx0_1.refs rS_p, refs_one (rTestT_p.ref _ _ hvx0_2), hvx0_3.refs (rI_p .i64)]) (B19) (s0 := { (default : Fr19) with t0 := x0 }) hp0 hm hx (R := fun v => v = .str s.t2) (by
      have key : ∀ st : ASt, P19_1 s st → ∃ vs v, aresults Cl Tryz.f19.results.toList st = some vs ∧ Nrm [] st.h (packRes vs) v ∧ (fun v => v = .str s.t2) v := by
        intro st hp
        obtain ⟨hl, a2⟩ := (hp : P19_1' s st.tmps st.h)
        exact ⟨[.str s.t2], _, by simp only [show Tryz.f19.results.toList = [ResultVar.tmp 2] from rfl, aresults, ares1, CP, a2, Option.getD_some], (Nrm.of (w := .str s.t2) (by simp only [refsL, refs, List.append_nil])), rfl⟩
      intro st hq
      rcases hx with rfl | rfl
      · exact key st hq
      · exact key st hq)
    subst hR
    exact hrun
end Go.Proofs.Ky
