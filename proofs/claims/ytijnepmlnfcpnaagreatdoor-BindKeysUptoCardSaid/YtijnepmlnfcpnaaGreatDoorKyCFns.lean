/-
  KEYS (C): functions (printed by wip/tools/tg.py).
-/
import Derived.Test.YtijnepmlnfcpnaaGreatDoorKyCTypes
import Derived.Test.YtijnepmlnfcpnaaGreatDoorAmPack
set_option linter.unusedVariables false
set_option linter.unusedSimpArgs false
set_option linter.unusedSimpArgs false
set_option linter.unusedVariables false
set_option maxRecDepth 100000
namespace Go.Proofs.Ky
open Go Go.Am Go.Proofs
noncomputable def S9 : Option Bool := some true
theorem S9_spec : Spec9 S9 := fun r hr h => by cases hr; exact awake_run h
/-! ### caisson/caissonlaw12.BindKeys -/
structure Fr5 where
  t0 : Bound
  t1 : Bound
  t2 : Bound
  t3 : Bound
  t4 : Bool
  t5 : Bool
  t6 : Bool
  t7 : Bool
  t8 : (List UInt8)
  t9 : (List UInt8)
  t10 : Bool
  t27 : Bool
instance : Inhabited Fr5 := ⟨⟨default, default, default, default, false, false, false, false, [], [], false, false⟩⟩
def P5_0' (s : Fr5) (t : List AVal) (h : AHeap) : Prop := ∃ w2_0 w2_1 w2_2 w2_3, t.length = 100 ∧ t[2]? = some (.iptr [w2_0, w2_1, w2_2, w2_3]) ∧ Sl rPick s.t2.Picks w2_0 ∧ Sl rS s.t2.Names w2_1 ∧ rTestT s.t2.Where [w2_2] ∧ Sl (rI .i64) s.t2.Sets w2_3 ∧ t[5]? = some (.bool s.t5) ∧ t[8]? = some (.str s.t8) ∧ t[9]? = some (.str s.t9) ∧ t[10]? = some (.bool s.t10)
def P5_0 (s : Fr5) (st : ASt) : Prop := P5_0' s st.tmps st.h
def P5_1' (s : Fr5) (t : List AVal) (h : AHeap) : Prop := t.length = 100 ∧ t[4]? = some (.bool s.t4)
def P5_1 (s : Fr5) (st : ASt) : Prop := P5_1' s st.tmps st.h
def P5_2' (s : Fr5) (t : List AVal) (h : AHeap) : Prop := ∃ w2_0 w2_1 w2_2 w2_3 w3_0 w3_1 w3_2 w3_3, t.length = 100 ∧ t[2]? = some (.iptr [w2_0, w2_1, w2_2, w2_3]) ∧ Sl rPick s.t2.Picks w2_0 ∧ Sl rS s.t2.Names w2_1 ∧ rTestT s.t2.Where [w2_2] ∧ Sl (rI .i64) s.t2.Sets w2_3 ∧ t[3]? = some (.iptr [w3_0, w3_1, w3_2, w3_3]) ∧ Sl rPick s.t3.Picks w3_0 ∧ Sl rS s.t3.Names w3_1 ∧ rTestT s.t3.Where [w3_2] ∧ Sl (rI .i64) s.t3.Sets w3_3 ∧ t[5]? = some (.bool s.t5) ∧ t[8]? = some (.str s.t8) ∧ t[9]? = some (.str s.t9)
def P5_2 (s : Fr5) (st : ASt) : Prop := P5_2' s st.tmps st.h
def P5_3' (s : Fr5) (t : List AVal) (h : AHeap) : Prop := t.length = 100 ∧ t[5]? = some (.bool s.t5) ∧ t[6]? = some (.bool s.t6) ∧ t[7]? = some (.bool s.t7) ∧ t[8]? = some (.str s.t8) ∧ t[9]? = some (.str s.t9)
def P5_3 (s : Fr5) (st : ASt) : Prop := P5_3' s st.tmps st.h
def P5_4' (s : Fr5) (t : List AVal) (h : AHeap) : Prop := ∃ w2_0 w2_1 w2_2 w2_3 w3_0 w3_1 w3_2 w3_3, t.length = 100 ∧ t[2]? = some (.iptr [w2_0, w2_1, w2_2, w2_3]) ∧ Sl rPick s.t2.Picks w2_0 ∧ Sl rS s.t2.Names w2_1 ∧ rTestT s.t2.Where [w2_2] ∧ Sl (rI .i64) s.t2.Sets w2_3 ∧ t[3]? = some (.iptr [w3_0, w3_1, w3_2, w3_3]) ∧ Sl rPick s.t3.Picks w3_0 ∧ Sl rS s.t3.Names w3_1 ∧ rTestT s.t3.Where [w3_2] ∧ Sl (rI .i64) s.t3.Sets w3_3 ∧ t[5]? = some (.bool s.t5) ∧ t[6]? = some (.bool s.t6) ∧ t[7]? = some (.bool s.t7) ∧ t[8]? = some (.str s.t8) ∧ t[9]? = some (.str s.t9) ∧ t[27]? = some (.bool s.t27)
def P5_4 (s : Fr5) (st : ASt) : Prop := P5_4' s st.tmps st.h
def P5_5' (s : Fr5) (t : List AVal) (h : AHeap) : Prop := ∃ w2_0 w2_1 w2_2 w2_3 w3_0 w3_1 w3_2 w3_3, t.length = 100 ∧ t[2]? = some (.iptr [w2_0, w2_1, w2_2, w2_3]) ∧ Sl rPick s.t2.Picks w2_0 ∧ Sl rS s.t2.Names w2_1 ∧ rTestT s.t2.Where [w2_2] ∧ Sl (rI .i64) s.t2.Sets w2_3 ∧ t[3]? = some (.iptr [w3_0, w3_1, w3_2, w3_3]) ∧ Sl rPick s.t3.Picks w3_0 ∧ Sl rS s.t3.Names w3_1 ∧ rTestT s.t3.Where [w3_2] ∧ Sl (rI .i64) s.t3.Sets w3_3 ∧ t[5]? = some (.bool s.t5) ∧ t[6]? = some (.bool s.t6) ∧ t[7]? = some (.bool s.t7) ∧ t[8]? = some (.str s.t8) ∧ t[9]? = some (.str s.t9)
def P5_5 (s : Fr5) (st : ASt) : Prop := P5_5' s st.tmps st.h
def P5_6' (s : Fr5) (t : List AVal) (h : AHeap) : Prop := ∃ w2_0 w2_1 w2_2 w2_3 w3_0 w3_1 w3_2 w3_3, t.length = 100 ∧ t[2]? = some (.iptr [w2_0, w2_1, w2_2, w2_3]) ∧ Sl rPick s.t2.Picks w2_0 ∧ Sl rS s.t2.Names w2_1 ∧ rTestT s.t2.Where [w2_2] ∧ Sl (rI .i64) s.t2.Sets w2_3 ∧ t[3]? = some (.iptr [w3_0, w3_1, w3_2, w3_3]) ∧ Sl rPick s.t3.Picks w3_0 ∧ Sl rS s.t3.Names w3_1 ∧ rTestT s.t3.Where [w3_2] ∧ Sl (rI .i64) s.t3.Sets w3_3 ∧ t[5]? = some (.bool s.t5) ∧ t[6]? = some (.bool s.t6) ∧ t[7]? = some (.bool s.t7) ∧ t[8]? = some (.str s.t8)
def P5_6 (s : Fr5) (st : ASt) : Prop := P5_6' s st.tmps st.h
def P5_7' (s : Fr5) (t : List AVal) (h : AHeap) : Prop := ∃ w2_0 w2_1 w2_2 w2_3 w3_0 w3_1 w3_2 w3_3, t.length = 100 ∧ t[2]? = some (.iptr [w2_0, w2_1, w2_2, w2_3]) ∧ Sl rPick s.t2.Picks w2_0 ∧ Sl rS s.t2.Names w2_1 ∧ rTestT s.t2.Where [w2_2] ∧ Sl (rI .i64) s.t2.Sets w2_3 ∧ t[3]? = some (.iptr [w3_0, w3_1, w3_2, w3_3]) ∧ Sl rPick s.t3.Picks w3_0 ∧ Sl rS s.t3.Names w3_1 ∧ rTestT s.t3.Where [w3_2] ∧ Sl (rI .i64) s.t3.Sets w3_3 ∧ t[5]? = some (.bool s.t5) ∧ t[6]? = some (.bool s.t6) ∧ t[7]? = some (.bool s.t7)
def P5_7 (s : Fr5) (st : ASt) : Prop := P5_7' s st.tmps st.h
def P5_8' (s : Fr5) (t : List AVal) (h : AHeap) : Prop := ∃ w2_0 w2_1 w2_2 w2_3 w3_0 w3_1 w3_2 w3_3, t.length = 100 ∧ t[2]? = some (.iptr [w2_0, w2_1, w2_2, w2_3]) ∧ Sl rPick s.t2.Picks w2_0 ∧ Sl rS s.t2.Names w2_1 ∧ rTestT s.t2.Where [w2_2] ∧ Sl (rI .i64) s.t2.Sets w2_3 ∧ t[3]? = some (.iptr [w3_0, w3_1, w3_2, w3_3]) ∧ Sl rPick s.t3.Picks w3_0 ∧ Sl rS s.t3.Names w3_1 ∧ rTestT s.t3.Where [w3_2] ∧ Sl (rI .i64) s.t3.Sets w3_3 ∧ t[5]? = some (.bool s.t5) ∧ t[6]? = some (.bool s.t6)
def P5_8 (s : Fr5) (st : ASt) : Prop := P5_8' s st.tmps st.h
def P5_9' (s : Fr5) (t : List AVal) (h : AHeap) : Prop := ∃ w2_0 w2_1 w2_2 w2_3 w3_0 w3_1 w3_2 w3_3, t.length = 100 ∧ t[2]? = some (.iptr [w2_0, w2_1, w2_2, w2_3]) ∧ Sl rPick s.t2.Picks w2_0 ∧ Sl rS s.t2.Names w2_1 ∧ rTestT s.t2.Where [w2_2] ∧ Sl (rI .i64) s.t2.Sets w2_3 ∧ t[3]? = some (.iptr [w3_0, w3_1, w3_2, w3_3]) ∧ Sl rPick s.t3.Picks w3_0 ∧ Sl rS s.t3.Names w3_1 ∧ rTestT s.t3.Where [w3_2] ∧ Sl (rI .i64) s.t3.Sets w3_3 ∧ t[5]? = some (.bool s.t5)
def P5_9 (s : Fr5) (st : ASt) : Prop := P5_9' s st.tmps st.h
def P5_10' (s : Fr5) (t : List AVal) (h : AHeap) : Prop := ∃ w2_0 w2_1 w2_2 w2_3 w3_0 w3_1 w3_2 w3_3, t.length = 100 ∧ t[2]? = some (.iptr [w2_0, w2_1, w2_2, w2_3]) ∧ Sl rPick s.t2.Picks w2_0 ∧ Sl rS s.t2.Names w2_1 ∧ rTestT s.t2.Where [w2_2] ∧ Sl (rI .i64) s.t2.Sets w2_3 ∧ t[3]? = some (.iptr [w3_0, w3_1, w3_2, w3_3]) ∧ Sl rPick s.t3.Picks w3_0 ∧ Sl rS s.t3.Names w3_1 ∧ rTestT s.t3.Where [w3_2] ∧ Sl (rI .i64) s.t3.Sets w3_3
def P5_10 (s : Fr5) (st : ASt) : Prop := P5_10' s st.tmps st.h
def P5_11' (s : Fr5) (t : List AVal) (h : AHeap) : Prop := ∃ w0_0 w0_1 w0_2 w0_3 w1_0 w1_1 w1_2 w1_3, t.length = 100 ∧ t[0]? = some (.agg [w0_0, w0_1, w0_2, w0_3]) ∧ Sl rPick s.t0.Picks w0_0 ∧ Sl rS s.t0.Names w0_1 ∧ rTestT s.t0.Where [w0_2] ∧ Sl (rI .i64) s.t0.Sets w0_3 ∧ t[1]? = some (.agg [w1_0, w1_1, w1_2, w1_3]) ∧ Sl rPick s.t1.Picks w1_0 ∧ Sl rS s.t1.Names w1_1 ∧ rTestT s.t1.Where [w1_2] ∧ Sl (rI .i64) s.t1.Sets w1_3
def P5_11 (s : Fr5) (st : ASt) : Prop := P5_11' s st.tmps st.h
noncomputable def m5_0 : Mo Fr5 := fun s => (cond ((s.t5 && ((s.t8 == s.t9) == s.t10)) && (!(s.t8 == ([] : List UInt8)))) ((S17 s.t2).bind fun z1 => some (z1 == s.t8)) (some false)).bind fun x3 => some (.nrm, { s with t4 := (((s.t5 && ((s.t8 == s.t9) == s.t10)) && (!(s.t8 == ([] : List UInt8)))) && x3) })
noncomputable def m5_1 : Mo Fr5 := fun s => (G19 s.t2).bind fun z9 => (G19 s.t3).bind fun z11 => some (.nrm, { s with t10 := (((z9 == z11) && ((s.t2.Picks.length : Int) == (s.t3.Picks.length : Int))) && ((s.t2.Names.length : Int) == (s.t3.Names.length : Int))) })
noncomputable def m5_2 : Mo Fr5 := fun s => some (.nrm, { s with t4 := ((((s.t5 && (s.t6 || (s.t8 == ([] : List UInt8)))) && (s.t7 || (s.t9 == ([] : List UInt8)))) && ((!s.t6) || (!(s.t8 == ([] : List UInt8))))) && ((!s.t7) || (!(s.t9 == ([] : List UInt8))))) })
noncomputable def m5_3 : Mo Fr5 := fun s => some (.nrm, { s with t27 := ((!s.t6) || (!s.t7)) })
noncomputable def m5_4 : Mo Fr5 := fun s => (S17 s.t3).bind fun z37 => some (.nrm, { s with t9 := z37 })
noncomputable def m5_5 : Mo Fr5 := fun s => (S17 s.t2).bind fun z41 => some (.nrm, { s with t8 := z41 })
noncomputable def m5_6 : Mo Fr5 := fun s => (G18 s.t3.Where).bind fun z45 => some (.nrm, { s with t7 := z45 })
noncomputable def m5_7 : Mo Fr5 := fun s => (G18 s.t2.Where).bind fun z49 => some (.nrm, { s with t6 := z49 })
noncomputable def m5_8 : Mo Fr5 := fun s => (S9 ).bind fun z53 => some (.nrm, { s with t5 := z53 })
noncomputable def m5_9 : Mo Fr5 := fun s => some (.nrm, { s with t2 := s.t0, t3 := s.t1 })
noncomputable def M5 : Mo Fr5 := seqM (m5_9) (seqM (m5_8) (seqM (m5_7) (seqM (m5_6) (seqM (m5_5) (seqM (m5_4) (seqM (seqM (m5_3) (condM (fun s => s.t27) (seqM (m5_2) (retM)) (skipM))) (seqM (m5_1) (seqM (m5_0) (retM)))))))))
def Spec5 (f : Bound → Bound → Option Bool) : Prop := ∀ (x0 : Bound) (x1 : Bound) (vx0_0 : AVal) (_ : Sl rPick x0.Picks vx0_0) (vx0_1 : AVal) (_ : Sl rS x0.Names vx0_1) (vx0_2 : AVal) (_ : rTestT x0.Where [vx0_2]) (vx0_3 : AVal) (_ : Sl (rI .i64) x0.Sets vx0_3) (vx1_0 : AVal) (_ : Sl rPick x1.Picks vx1_0) (vx1_1 : AVal) (_ : Sl rS x1.Names vx1_1) (vx1_2 : AVal) (_ : rTestT x1.Where [vx1_2]) (vx1_3 : AVal) (_ : Sl (rI .i64) x1.Sets vx1_3) (r : Bool), f x0 x1 = some r → ∀ h, run Cl 5 [.agg [vx0_0, vx0_1, vx0_2, vx0_3], .agg [vx1_0, vx1_1, vx1_2, vx1_3]] h = some (.ret (.bool r), h)
theorem Spec5_of {f g : Bound → Bound → Option Bool} (hg : Spec5 g) (h : ∀ x0 x1 r, f x0 x1 = some r → g x0 x1 = some r) : Spec5 f := fun x0 x1 v0_ w0_ v1_ w1_ v2_ w2_ v3_ w3_ v4_ w4_ v5_ w5_ v6_ w6_ v7_ w7_ r hr => hg x0 x1 v0_ w0_ v1_ w1_ v2_ w2_ v3_ w3_ v4_ w4_ v5_ w5_ v6_ w6_ v7_ w7_ r (h x0 x1 r hr)
theorem R5_0 (pe pr) : Ref Cl P5_0 (Cat [true, true, true, true, true, true, true, true, false] (bodyOf Tryz.f5)) m5_0 (post P5_1 pe pr) := by
  rintro s ⟨t, h⟩ hp x s' hm
  obtain ⟨w2_0, w2_1, w2_2, w2_3, hl, a2, r2_0, r2_1, r2_2, r2_3, a5, a8, a9, a10⟩ : P5_0' s t h := hp
  unfold m5_0 at hm
  cases hb4 : s.t5 with
  | true =>
    all_goals (
      try simp only [hb4, Zb] at hm
      cases hb5 : ((s.t8 == s.t9) == s.t10) with
      | true =>
        all_goals (
          try simp only [hb5, Zb] at hm
          cases hb6 : (!(s.t8 == ([] : List UInt8))) with
          | true =>
            all_goals (
              try simp only [hb6, Zb] at hm
              obtain ⟨z7, hz7, hm⟩ := Option.bind_eq_some_iff.1 hm
              have iu8 := S17_spec s.t2 _ r2_0 _ r2_1 _ r2_2 _ r2_3 _ hz7
              try simp only [Zb] at hm
              cases hm
              refine ⟨⟨_, _⟩, by simp only [bodyOf, Tryz.f5, Cat, Zs, awanted, aoper, evalO, put, acallOp, abuiltin, Nat.reduceEqDiff, Nat.reduceLT, ofV, ofCell, ↓reduceIte, hl, a2, a5, a8, a9, a10, CP, Bool.not_false, Bool.not_true, eql_s, TyC.eqlb4, neq_s, TyC.ld35, ld_ip, ofc4, List.drop_succ_cons, List.drop_zero, List.length_cons, List.length_nil, iu8, hb4, hb5, hb6]; exact rfl, ?_⟩
              show P5_1 _ _
              exact ⟨by simp [hl], by simp [hl, hb4, hb5, hb6]⟩)
          | false =>
            all_goals (
              try simp only [hb6, Zb] at hm
              cases hm
              refine ⟨⟨_, _⟩, by simp only [bodyOf, Tryz.f5, Cat, Zs, awanted, aoper, evalO, put, acallOp, abuiltin, Nat.reduceEqDiff, Nat.reduceLT, ofV, ofCell, ↓reduceIte, hl, a2, a5, a8, a9, a10, CP, Bool.not_false, Bool.not_true, eql_s, TyC.eqlb4, neq_s, hb4, hb5, hb6]; exact rfl, ?_⟩
              show P5_1 _ _
              exact ⟨by simp [hl], by simp [hl, hb4, hb5, hb6]⟩))
      | false =>
        all_goals (
          try simp only [hb5, Zb] at hm
          cases hm
          refine ⟨⟨_, _⟩, by simp only [bodyOf, Tryz.f5, Cat, Zs, awanted, aoper, evalO, put, acallOp, abuiltin, Nat.reduceEqDiff, Nat.reduceLT, ofV, ofCell, ↓reduceIte, hl, a2, a5, a8, a9, a10, CP, Bool.not_false, Bool.not_true, eql_s, TyC.eqlb4, hb4, hb5]; exact rfl, ?_⟩
          show P5_1 _ _
          exact ⟨by simp [hl], by simp [hl, hb4, hb5]⟩))
  | false =>
    all_goals (
      try simp only [hb4, Zb] at hm
      cases hm
      refine ⟨⟨_, _⟩, by simp only [bodyOf, Tryz.f5, Cat, Zs, awanted, aoper, evalO, put, acallOp, abuiltin, Nat.reduceEqDiff, Nat.reduceLT, ofV, ofCell, ↓reduceIte, hl, a2, a5, a8, a9, a10, CP, Bool.not_false, Bool.not_true, hb4]; exact rfl, ?_⟩
      show P5_1 _ _
      exact ⟨by simp [hl], by simp [hl, hb4]⟩)
theorem R5_1 (pe pr) : Ref Cl P5_2 (Cat [true, true, true, true, true, true, true, false] (bodyOf Tryz.f5)) m5_1 (post P5_0 pe pr) := by
  rintro s ⟨t, h⟩ hp x s' hm
  obtain ⟨w2_0, w2_1, w2_2, w2_3, w3_0, w3_1, w3_2, w3_3, hl, a2, r2_0, r2_1, r2_2, r2_3, a3, r3_0, r3_1, r3_2, r3_3, a5, a8, a9⟩ : P5_2' s t h := hp
  unfold m5_1 at hm
  obtain ⟨z17, hz17, hm⟩ := Option.bind_eq_some_iff.1 hm
  have iu18 := G19_spec s.t2 _ r2_0 _ r2_1 _ r2_2 _ r2_3 _ hz17
  have apu18 : apure Cl 19 [.agg [w2_0, w2_1, w2_2, w2_3]] = true := apure_of rfl rfl (refs_cons (by simp only [refsL, refs, List.append_nil, List.nil_append, r2_0.refs rPick_p, r2_1.refs rS_p, refs_one (rTestT_p.ref _ _ r2_2), r2_3.refs (rI_p .i64)]) rfl)
  obtain ⟨z19, hz19, hm⟩ := Option.bind_eq_some_iff.1 hm
  have iu20 := G19_spec s.t3 _ r3_0 _ r3_1 _ r3_2 _ r3_3 _ hz19
  have apu20 : apure Cl 19 [.agg [w3_0, w3_1, w3_2, w3_3]] = true := apure_of rfl rfl (refs_cons (by simp only [refsL, refs, List.append_nil, List.nil_append, r3_0.refs rPick_p, r3_1.refs rS_p, refs_one (rTestT_p.ref _ _ r3_2), r3_3.refs (rI_p .i64)]) rfl)
  cases hb21 : (z17 == z19) with
  | true =>
    all_goals (
      try simp only [hb21, Zb] at hm
      have lu22 := fun h => Sl.len r2_0 TyC.un31 h
      have lu23 := fun h => Sl.len r3_0 TyC.un31 h
      cases hb24 : ((s.t2.Picks.length : Int) == (s.t3.Picks.length : Int)) with
      | true =>
        all_goals (
          try simp only [hb24, Zb] at hm
          have lu25 := fun h => Sl.len r2_1 TyC.un22 h
          have lu26 := fun h => Sl.len r3_1 TyC.un22 h
          cases hm
          refine ⟨⟨_, _⟩, by
              simp only [bodyOf, Tryz.f5, Cat, Zs, awanted, aoper, evalO, put, acallOp, abuiltin, Nat.reduceEqDiff, Nat.reduceLT, ofV, ofCell, ↓reduceIte, hl, a2, a3, a5, a8, a9, CP, Bool.not_false, Bool.not_true, TyC.ld35, ld_ip, ofc4, List.drop_succ_cons, List.drop_zero, List.length_cons, List.length_nil, iu18, apu18, if_true, iu20, apu20, eql_s, TyC.fa35_0, dropCells, List.drop_succ_cons, List.drop_zero, TyC.ld31, ofc1, List.drop_succ_cons, List.drop_zero, lu22, lu23, TyC.fa35_1, TyC.ld22, lu25, lu26, hb21, hb24]
              rw [k_draw _ _ _ (by kernel_rfl)]
              exact rfl, ?_⟩
          show P5_0 _ _
          exact ⟨w2_0, w2_1, w2_2, w2_3, by simp [hl], by simp [a2], r2_0, r2_1, r2_2, r2_3, by simp [a5], by simp [a8], by simp [a9], by simp [hl, hb21, hb24]⟩)
      | false =>
        all_goals (
          try simp only [hb24, Zb] at hm
          cases hm
          refine ⟨⟨_, _⟩, by
              simp only [bodyOf, Tryz.f5, Cat, Zs, awanted, aoper, evalO, put, acallOp, abuiltin, Nat.reduceEqDiff, Nat.reduceLT, ofV, ofCell, ↓reduceIte, hl, a2, a3, a5, a8, a9, CP, Bool.not_false, Bool.not_true, TyC.ld35, ld_ip, ofc4, List.drop_succ_cons, List.drop_zero, List.length_cons, List.length_nil, iu18, apu18, if_true, iu20, apu20, eql_s, TyC.fa35_0, dropCells, List.drop_succ_cons, List.drop_zero, TyC.ld31, ofc1, List.drop_succ_cons, List.drop_zero, lu22, lu23, hb21, hb24]
              rw [k_draw _ _ _ (by kernel_rfl)]
              exact rfl, ?_⟩
          show P5_0 _ _
          exact ⟨w2_0, w2_1, w2_2, w2_3, by simp [hl], by simp [a2], r2_0, r2_1, r2_2, r2_3, by simp [a5], by simp [a8], by simp [a9], by simp [hl, hb21, hb24]⟩))
  | false =>
    all_goals (
      try simp only [hb21, Zb] at hm
      cases hm
      refine ⟨⟨_, _⟩, by
          simp only [bodyOf, Tryz.f5, Cat, Zs, awanted, aoper, evalO, put, acallOp, abuiltin, Nat.reduceEqDiff, Nat.reduceLT, ofV, ofCell, ↓reduceIte, hl, a2, a3, a5, a8, a9, CP, Bool.not_false, Bool.not_true, TyC.ld35, ld_ip, ofc4, List.drop_succ_cons, List.drop_zero, List.length_cons, List.length_nil, iu18, apu18, if_true, iu20, apu20, eql_s, hb21]
          rw [k_draw _ _ _ (by kernel_rfl)]
          exact rfl, ?_⟩
      show P5_0 _ _
      exact ⟨w2_0, w2_1, w2_2, w2_3, by simp [hl], by simp [a2], r2_0, r2_1, r2_2, r2_3, by simp [a5], by simp [a8], by simp [a9], by simp [hl, hb21]⟩)
set_option maxHeartbeats 8000000 in
theorem R5_2 (pe pr) : Ref Cl P5_3 (Cat [true, true, true, true, true, true, false, true, false, false] (bodyOf Tryz.f5)) m5_2 (post P5_1 pe pr) := by
  rintro s ⟨t, h⟩ hp x s' hm
  obtain ⟨hl, a5, a6, a7, a8, a9⟩ : P5_3' s t h := hp
  unfold m5_2 at hm
  cases hb27 : s.t5 with
  | true =>
    all_goals (
      try simp only [hb27, Zb] at hm
      cases hb28 : s.t6 with
      | true =>
        all_goals (
          try simp only [hb28, Zb] at hm
          cases hb29 : s.t7 with
          | true =>
            all_goals (
              try simp only [hb29, Zb] at hm
              cases hb30 : (!(s.t8 == ([] : List UInt8))) with
              | true =>
                all_goals (
                  try simp only [hb30, Zb] at hm
                  cases hm
                  refine ⟨⟨_, _⟩, by simp only [bodyOf, Tryz.f5, Cat, Zs, awanted, aoper, evalO, put, acallOp, abuiltin, Nat.reduceEqDiff, Nat.reduceLT, ofV, ofCell, ↓reduceIte, hl, a5, a6, a7, a8, a9, CP, Bool.not_false, Bool.not_true, List.append_eq, aun_not, neq_s, hb27, hb28, hb29, hb30]; exact rfl, ?_⟩
                  show P5_1 _ _
                  exact ⟨by simp [hl], by simp [hl, hb27, hb28, hb29, hb30]⟩)
              | false =>
                all_goals (
                  try simp only [hb30, Zb] at hm
                  cases hm
                  refine ⟨⟨_, _⟩, by simp only [bodyOf, Tryz.f5, Cat, Zs, awanted, aoper, evalO, put, acallOp, abuiltin, Nat.reduceEqDiff, Nat.reduceLT, ofV, ofCell, ↓reduceIte, hl, a5, a6, a7, a8, a9, CP, Bool.not_false, Bool.not_true, List.append_eq, aun_not, neq_s, hb27, hb28, hb29, hb30]; exact rfl, ?_⟩
                  show P5_1 _ _
                  exact ⟨by simp [hl], by simp [hl, hb27, hb28, hb29, hb30]⟩))
          | false =>
            all_goals (
              try simp only [hb29, Zb] at hm
              cases hb31 : (s.t9 == ([] : List UInt8)) with
              | true =>
                all_goals (
                  try simp only [hb31, Zb] at hm
                  cases hb32 : (!(s.t8 == ([] : List UInt8))) with
                  | true =>
                    all_goals (
                      try simp only [hb32, Zb] at hm
                      cases hm
                      refine ⟨⟨_, _⟩, by simp only [bodyOf, Tryz.f5, Cat, Zs, awanted, aoper, evalO, put, acallOp, abuiltin, Nat.reduceEqDiff, Nat.reduceLT, ofV, ofCell, ↓reduceIte, hl, a5, a6, a7, a8, a9, CP, Bool.not_false, Bool.not_true, List.append_eq, eql_s, aun_not, neq_s, hb27, hb28, hb29, hb31, hb32]; exact rfl, ?_⟩
                      show P5_1 _ _
                      exact ⟨by simp [hl], by simp [hl, hb27, hb28, hb29, hb31, hb32]⟩)
                  | false =>
                    all_goals (
                      try simp only [hb32, Zb] at hm
                      cases hm
                      refine ⟨⟨_, _⟩, by simp only [bodyOf, Tryz.f5, Cat, Zs, awanted, aoper, evalO, put, acallOp, abuiltin, Nat.reduceEqDiff, Nat.reduceLT, ofV, ofCell, ↓reduceIte, hl, a5, a6, a7, a8, a9, CP, Bool.not_false, Bool.not_true, List.append_eq, eql_s, aun_not, neq_s, hb27, hb28, hb29, hb31, hb32]; exact rfl, ?_⟩
                      show P5_1 _ _
                      exact ⟨by simp [hl], by simp [hl, hb27, hb28, hb29, hb31, hb32]⟩))
              | false =>
                all_goals (
                  try simp only [hb31, Zb] at hm
                  cases hm
                  refine ⟨⟨_, _⟩, by simp only [bodyOf, Tryz.f5, Cat, Zs, awanted, aoper, evalO, put, acallOp, abuiltin, Nat.reduceEqDiff, Nat.reduceLT, ofV, ofCell, ↓reduceIte, hl, a5, a6, a7, a8, a9, CP, Bool.not_false, Bool.not_true, List.append_eq, eql_s, hb27, hb28, hb29, hb31]; exact rfl, ?_⟩
                  show P5_1 _ _
                  exact ⟨by simp [hl], by simp [hl, hb27, hb28, hb29, hb31]⟩)))
      | false =>
        all_goals (
          try simp only [hb28, Zb] at hm
          cases hb33 : (s.t8 == ([] : List UInt8)) with
          | true =>
            all_goals (
              try simp only [hb33, Zb] at hm
              cases hb34 : s.t7 with
              | true =>
                all_goals (
                  try simp only [hb34, Zb] at hm
                  cases hm
                  refine ⟨⟨_, _⟩, by simp only [bodyOf, Tryz.f5, Cat, Zs, awanted, aoper, evalO, put, acallOp, abuiltin, Nat.reduceEqDiff, Nat.reduceLT, ofV, ofCell, ↓reduceIte, hl, a5, a6, a7, a8, a9, CP, Bool.not_false, Bool.not_true, List.append_eq, eql_s, aun_not, neq_s, hb27, hb28, hb33, hb34]; exact rfl, ?_⟩
                  show P5_1 _ _
                  exact ⟨by simp [hl], by simp [hl, hb27, hb28, hb33, hb34]⟩)
              | false =>
                all_goals (
                  try simp only [hb34, Zb] at hm
                  cases hb35 : (s.t9 == ([] : List UInt8)) with
                  | true =>
                    all_goals (
                      try simp only [hb35, Zb] at hm
                      cases hm
                      refine ⟨⟨_, _⟩, by simp only [bodyOf, Tryz.f5, Cat, Zs, awanted, aoper, evalO, put, acallOp, abuiltin, Nat.reduceEqDiff, Nat.reduceLT, ofV, ofCell, ↓reduceIte, hl, a5, a6, a7, a8, a9, CP, Bool.not_false, Bool.not_true, List.append_eq, eql_s, aun_not, hb27, hb28, hb33, hb34, hb35]; exact rfl, ?_⟩
                      show P5_1 _ _
                      exact ⟨by simp [hl], by simp [hl, hb27, hb28, hb33, hb34, hb35]⟩)
                  | false =>
                    all_goals (
                      try simp only [hb35, Zb] at hm
                      cases hm
                      refine ⟨⟨_, _⟩, by simp only [bodyOf, Tryz.f5, Cat, Zs, awanted, aoper, evalO, put, acallOp, abuiltin, Nat.reduceEqDiff, Nat.reduceLT, ofV, ofCell, ↓reduceIte, hl, a5, a6, a7, a8, a9, CP, Bool.not_false, Bool.not_true, List.append_eq, eql_s, hb27, hb28, hb33, hb34, hb35]; exact rfl, ?_⟩
                      show P5_1 _ _
                      exact ⟨by simp [hl], by simp [hl, hb27, hb28, hb33, hb34, hb35]⟩)))
          | false =>
            all_goals (
              try simp only [hb33, Zb] at hm
              cases hm
              refine ⟨⟨_, _⟩, by simp only [bodyOf, Tryz.f5, Cat, Zs, awanted, aoper, evalO, put, acallOp, abuiltin, Nat.reduceEqDiff, Nat.reduceLT, ofV, ofCell, ↓reduceIte, hl, a5, a6, a7, a8, a9, CP, Bool.not_false, Bool.not_true, List.append_eq, eql_s, hb27, hb28, hb33]; exact rfl, ?_⟩
              show P5_1 _ _
              exact ⟨by simp [hl], by simp [hl, hb27, hb28, hb33]⟩)))
  | false =>
    all_goals (
      try simp only [hb27, Zb] at hm
      cases hm
      refine ⟨⟨_, _⟩, by simp only [bodyOf, Tryz.f5, Cat, Zs, awanted, aoper, evalO, put, acallOp, abuiltin, Nat.reduceEqDiff, Nat.reduceLT, ofV, ofCell, ↓reduceIte, hl, a5, a6, a7, a8, a9, CP, Bool.not_false, Bool.not_true, List.append_eq, hb27]; exact rfl, ?_⟩
      show P5_1 _ _
      exact ⟨by simp [hl], by simp [hl, hb27]⟩)
theorem R5_3 (pe pr) : Ref Cl P5_5 (Cat [true, true, true, true, true, true, false, false] (bodyOf Tryz.f5)) m5_3 (post P5_4 pe pr) := by
  rintro s ⟨t, h⟩ hp x s' hm
  obtain ⟨w2_0, w2_1, w2_2, w2_3, w3_0, w3_1, w3_2, w3_3, hl, a2, r2_0, r2_1, r2_2, r2_3, a3, r3_0, r3_1, r3_2, r3_3, a5, a6, a7, a8, a9⟩ : P5_5' s t h := hp
  unfold m5_3 at hm
  cases hb36 : (!s.t6) with
  | true =>
    all_goals (
      try simp only [hb36, Zb] at hm
      cases hm
      refine ⟨⟨_, _⟩, by simp only [bodyOf, Tryz.f5, Cat, Zs, awanted, aoper, evalO, put, acallOp, abuiltin, Nat.reduceEqDiff, Nat.reduceLT, ofV, ofCell, ↓reduceIte, hl, a2, a3, a5, a6, a7, a8, a9, CP, Bool.not_false, Bool.not_true, aun_not, hb36]; exact rfl, ?_⟩
      show P5_4 _ _
      exact ⟨w2_0, w2_1, w2_2, w2_3, w3_0, w3_1, w3_2, w3_3, by simp [hl], by simp [a2], r2_0, r2_1, r2_2, r2_3, by simp [a3], r3_0, r3_1, r3_2, r3_3, by simp [a5], by simp [a6], by simp [a7], by simp [a8], by simp [a9], by simp [hl, hb36]⟩)
  | false =>
    all_goals (
      try simp only [hb36, Zb] at hm
      cases hm
      refine ⟨⟨_, _⟩, by simp only [bodyOf, Tryz.f5, Cat, Zs, awanted, aoper, evalO, put, acallOp, abuiltin, Nat.reduceEqDiff, Nat.reduceLT, ofV, ofCell, ↓reduceIte, hl, a2, a3, a5, a6, a7, a8, a9, CP, Bool.not_false, Bool.not_true, aun_not, hb36]; exact rfl, ?_⟩
      show P5_4 _ _
      exact ⟨w2_0, w2_1, w2_2, w2_3, w3_0, w3_1, w3_2, w3_3, by simp [hl], by simp [a2], r2_0, r2_1, r2_2, r2_3, by simp [a3], r3_0, r3_1, r3_2, r3_3, by simp [a5], by simp [a6], by simp [a7], by simp [a8], by simp [a9], by simp [hl, hb36]⟩)
theorem R5_4 (pe pr) : Ref Cl P5_6 (Cat [true, true, true, true, true, false] (bodyOf Tryz.f5)) m5_4 (post P5_5 pe pr) := by
  rintro s ⟨t, h⟩ hp x s' hm
  obtain ⟨w2_0, w2_1, w2_2, w2_3, w3_0, w3_1, w3_2, w3_3, hl, a2, r2_0, r2_1, r2_2, r2_3, a3, r3_0, r3_1, r3_2, r3_3, a5, a6, a7, a8⟩ : P5_6' s t h := hp
  unfold m5_4 at hm
  obtain ⟨z39, hz39, hm⟩ := Option.bind_eq_some_iff.1 hm
  have iu40 := S17_spec s.t3 _ r3_0 _ r3_1 _ r3_2 _ r3_3 _ hz39
  cases hm
  refine ⟨⟨_, _⟩, by simp only [bodyOf, Tryz.f5, Cat, Zs, awanted, aoper, evalO, put, acallOp, abuiltin, Nat.reduceEqDiff, Nat.reduceLT, ofV, ofCell, ↓reduceIte, hl, a2, a3, a5, a6, a7, a8, CP, Bool.not_false, Bool.not_true, TyC.ld35, ld_ip, ofc4, List.drop_succ_cons, List.drop_zero, List.length_cons, List.length_nil, iu40]; exact rfl, ?_⟩
  show P5_5 _ _
  exact ⟨w2_0, w2_1, w2_2, w2_3, w3_0, w3_1, w3_2, w3_3, by simp [hl], by simp [a2], r2_0, r2_1, r2_2, r2_3, by simp [a3], r3_0, r3_1, r3_2, r3_3, by simp [a5], by simp [a6], by simp [a7], by simp [a8], by simp [hl]⟩
theorem R5_5 (pe pr) : Ref Cl P5_7 (Cat [true, true, true, true, false] (bodyOf Tryz.f5)) m5_5 (post P5_6 pe pr) := by
  rintro s ⟨t, h⟩ hp x s' hm
  obtain ⟨w2_0, w2_1, w2_2, w2_3, w3_0, w3_1, w3_2, w3_3, hl, a2, r2_0, r2_1, r2_2, r2_3, a3, r3_0, r3_1, r3_2, r3_3, a5, a6, a7⟩ : P5_7' s t h := hp
  unfold m5_5 at hm
  obtain ⟨z43, hz43, hm⟩ := Option.bind_eq_some_iff.1 hm
  have iu44 := S17_spec s.t2 _ r2_0 _ r2_1 _ r2_2 _ r2_3 _ hz43
  cases hm
  refine ⟨⟨_, _⟩, by simp only [bodyOf, Tryz.f5, Cat, Zs, awanted, aoper, evalO, put, acallOp, abuiltin, Nat.reduceEqDiff, Nat.reduceLT, ofV, ofCell, ↓reduceIte, hl, a2, a3, a5, a6, a7, CP, Bool.not_false, Bool.not_true, TyC.ld35, ld_ip, ofc4, List.drop_succ_cons, List.drop_zero, List.length_cons, List.length_nil, iu44]; exact rfl, ?_⟩
  show P5_6 _ _
  exact ⟨w2_0, w2_1, w2_2, w2_3, w3_0, w3_1, w3_2, w3_3, by simp [hl], by simp [a2], r2_0, r2_1, r2_2, r2_3, by simp [a3], r3_0, r3_1, r3_2, r3_3, by simp [a5], by simp [a6], by simp [a7], by simp [hl]⟩
theorem R5_6 (pe pr) : Ref Cl P5_8 (Cat [true, true, true, false] (bodyOf Tryz.f5)) m5_6 (post P5_7 pe pr) := by
  rintro s ⟨t, h⟩ hp x s' hm
  obtain ⟨w2_0, w2_1, w2_2, w2_3, w3_0, w3_1, w3_2, w3_3, hl, a2, r2_0, r2_1, r2_2, r2_3, a3, r3_0, r3_1, r3_2, r3_3, a5, a6⟩ : P5_8' s t h := hp
  unfold m5_6 at hm
  obtain ⟨z47, hz47, hm⟩ := Option.bind_eq_some_iff.1 hm
  have iu48 := G18_spec s.t3.Where _ r3_2 _ hz47
  cases hm
  refine ⟨⟨_, _⟩, by simp only [bodyOf, Tryz.f5, Cat, Zs, awanted, aoper, evalO, put, acallOp, abuiltin, Nat.reduceEqDiff, Nat.reduceLT, ofV, ofCell, ↓reduceIte, hl, a2, a3, a5, a6, CP, Bool.not_false, Bool.not_true, TyC.fa35_2, dropCells, List.drop_succ_cons, List.drop_zero, TyC.ld32, ld_ip, ofc1, List.drop_succ_cons, List.drop_zero, iu48]; exact rfl, ?_⟩
  show P5_7 _ _
  exact ⟨w2_0, w2_1, w2_2, w2_3, w3_0, w3_1, w3_2, w3_3, by simp [hl], by simp [a2], r2_0, r2_1, r2_2, r2_3, by simp [a3], r3_0, r3_1, r3_2, r3_3, by simp [a5], by simp [a6], by simp [hl]⟩
theorem R5_7 (pe pr) : Ref Cl P5_9 (Cat [true, true, false] (bodyOf Tryz.f5)) m5_7 (post P5_8 pe pr) := by
  rintro s ⟨t, h⟩ hp x s' hm
  obtain ⟨w2_0, w2_1, w2_2, w2_3, w3_0, w3_1, w3_2, w3_3, hl, a2, r2_0, r2_1, r2_2, r2_3, a3, r3_0, r3_1, r3_2, r3_3, a5⟩ : P5_9' s t h := hp
  unfold m5_7 at hm
  obtain ⟨z51, hz51, hm⟩ := Option.bind_eq_some_iff.1 hm
  have iu52 := G18_spec s.t2.Where _ r2_2 _ hz51
  cases hm
  refine ⟨⟨_, _⟩, by simp only [bodyOf, Tryz.f5, Cat, Zs, awanted, aoper, evalO, put, acallOp, abuiltin, Nat.reduceEqDiff, Nat.reduceLT, ofV, ofCell, ↓reduceIte, hl, a2, a3, a5, CP, Bool.not_false, Bool.not_true, TyC.fa35_2, dropCells, List.drop_succ_cons, List.drop_zero, TyC.ld32, ld_ip, ofc1, List.drop_succ_cons, List.drop_zero, iu52]; exact rfl, ?_⟩
  show P5_8 _ _
  exact ⟨w2_0, w2_1, w2_2, w2_3, w3_0, w3_1, w3_2, w3_3, by simp [hl], by simp [a2], r2_0, r2_1, r2_2, r2_3, by simp [a3], r3_0, r3_1, r3_2, r3_3, by simp [a5], by simp [hl]⟩
theorem R5_8 (pe pr) : Ref Cl P5_10 (Cat [true, false] (bodyOf Tryz.f5)) m5_8 (post P5_9 pe pr) := by
  rintro s ⟨t, h⟩ hp x s' hm
  obtain ⟨w2_0, w2_1, w2_2, w2_3, w3_0, w3_1, w3_2, w3_3, hl, a2, r2_0, r2_1, r2_2, r2_3, a3, r3_0, r3_1, r3_2, r3_3⟩ : P5_10' s t h := hp
  unfold m5_8 at hm
  obtain ⟨z55, hz55, hm⟩ := Option.bind_eq_some_iff.1 hm
  have iu56 := S9_spec   _ hz55
  cases hm
  refine ⟨⟨_, _⟩, by simp only [bodyOf, Tryz.f5, Cat, Zs, awanted, aoper, evalO, put, acallOp, abuiltin, Nat.reduceEqDiff, Nat.reduceLT, ofV, ofCell, ↓reduceIte, hl, a2, a3, CP, Bool.not_false, Bool.not_true, iu56]; exact rfl, ?_⟩
  show P5_9 _ _
  exact ⟨w2_0, w2_1, w2_2, w2_3, w3_0, w3_1, w3_2, w3_3, by simp [hl], by simp [a2], r2_0, r2_1, r2_2, r2_3, by simp [a3], r3_0, r3_1, r3_2, r3_3, by simp [hl]⟩
theorem R5_9 (pe pr) : Ref Cl P5_11 (Cat [false] (bodyOf Tryz.f5)) m5_9 (post P5_10 pe pr) := by
  rintro s ⟨t, h⟩ hp x s' hm
  obtain ⟨w0_0, w0_1, w0_2, w0_3, w1_0, w1_1, w1_2, w1_3, hl, a0, r0_0, r0_1, r0_2, r0_3, a1, r1_0, r1_1, r1_2, r1_3⟩ : P5_11' s t h := hp
  unfold m5_9 at hm
  have ic65 : (w0_0 : AVal).isCell = true := Sl.isCell r0_0
  have ic66 : (w0_1 : AVal).isCell = true := Sl.isCell r0_1
  have ic67 : (w0_2 : AVal).isCell = true := rTestT_cell r0_2
  have ic68 : (w0_3 : AVal).isCell = true := Sl.isCell r0_3
  have ic69 : (w1_0 : AVal).isCell = true := Sl.isCell r1_0
  have ic70 : (w1_1 : AVal).isCell = true := Sl.isCell r1_1
  have ic71 : (w1_2 : AVal).isCell = true := rTestT_cell r1_2
  have ic72 : (w1_3 : AVal).isCell = true := Sl.isCell r1_3
  cases hm
  refine ⟨⟨_, _⟩, by simp only [bodyOf, Tryz.f5, Cat, Zs, awanted, aoper, evalO, put, acallOp, abuiltin, Nat.reduceEqDiff, Nat.reduceLT, ofV, ofCell, ↓reduceIte, hl, a0, a1, CP, Bool.not_false, Bool.not_true, TyC.cb_parse_go_148, TyC.cb_parse_go_143, TyC.cb_parse_go_130, TyC.cb_law_go_96, TyC.cb_bind_go_316, TyC.cb_bind_go_321, TyC.cb_ref_go_330, ic65, bx_c ic65, cl_c ic65, ic66, bx_c ic66, cl_c ic66, ic67, bx_c ic67, cl_c ic67, ic68, bx_c ic68, cl_c ic68, Zc, ic69, bx_c ic69, cl_c ic69, ic70, bx_c ic70, cl_c ic70, ic71, bx_c ic71, cl_c ic71, ic72, bx_c ic72, cl_c ic72]; exact rfl, ?_⟩
  show P5_10 _ _
  exact ⟨w0_0, w0_1, w0_2, w0_3, w1_0, w1_1, w1_2, w1_3, by simp [hl], by simp [hl], r0_0, r0_1, r0_2, r0_3, by simp [hl], r1_0, r1_1, r1_2, r1_3⟩
theorem B5 : Ref Cl P5_11 (bodyOf Tryz.f5) (M5) (post P5_1 (fun _ _ _ => False) P5_1) := by
  rw [show bodyOf Tryz.f5 = .seq (Cat [false] (bodyOf Tryz.f5)) (.seq (Cat [true, false] (bodyOf Tryz.f5)) (.seq (Cat [true, true, false] (bodyOf Tryz.f5)) (.seq (Cat [true, true, true, false] (bodyOf Tryz.f5)) (.seq (Cat [true, true, true, true, false] (bodyOf Tryz.f5)) (.seq (Cat [true, true, true, true, true, false] (bodyOf Tryz.f5)) (.seq (.seq (Cat [true, true, true, true, true, true, false, false] (bodyOf Tryz.f5)) (.cond (.tmp 27) (.seq (Cat [true, true, true, true, true, true, false, true, false, false] (bodyOf Tryz.f5)) (.ret)) (.skip))) (.seq (Cat [true, true, true, true, true, true, true, false] (bodyOf Tryz.f5)) (.seq (Cat [true, true, true, true, true, true, true, true, false] (bodyOf Tryz.f5)) (.ret))))))))) from rfl]
  unfold M5
  exact ref_seq (R5_9 _ _) (ref_seq (R5_8 _ _) (ref_seq (R5_7 _ _) (ref_seq (R5_6 _ _) (ref_seq (R5_5 _ _) (ref_seq (R5_4 _ _) (ref_seq (ref_seq (R5_3 _ _) (ref_cond (P := P5_4) (c := fun s => s.t27) (fun s st hp => by obtain ⟨w2_0, w2_1, w2_2, w2_3, w3_0, w3_1, w3_2, w3_3, hl, a2, r2_0, r2_1, r2_2, r2_3, a3, r3_0, r3_1, r3_2, r3_3, a5, a6, a7, a8, a9, a27⟩ := (hp : P5_4' s st.tmps st.h); simp only [evalO, a27, Option.getD_some]) (ref_weak (P' := P5_3) (fun s st hp => by obtain ⟨w2_0, w2_1, w2_2, w2_3, w3_0, w3_1, w3_2, w3_3, hl, a2, r2_0, r2_1, r2_2, r2_3, a3, r3_0, r3_1, r3_2, r3_3, a5, a6, a7, a8, a9, a27⟩ := (hp : P5_4' s st.tmps st.h); exact (⟨hl, a5, a6, a7, a8, a9⟩ : P5_3' s st.tmps st.h)) (ref_seq (R5_2 _ _) (ref_ret (fun s st hp => hp)))) (ref_weak (P' := P5_2) (fun s st hp => by obtain ⟨w2_0, w2_1, w2_2, w2_3, w3_0, w3_1, w3_2, w3_3, hl, a2, r2_0, r2_1, r2_2, r2_3, a3, r3_0, r3_1, r3_2, r3_3, a5, a6, a7, a8, a9, a27⟩ := (hp : P5_4' s st.tmps st.h); exact (⟨w2_0, w2_1, w2_2, w2_3, w3_0, w3_1, w3_2, w3_3, hl, a2, r2_0, r2_1, r2_2, r2_3, a3, r3_0, r3_1, r3_2, r3_3, a5, a8, a9⟩ : P5_2' s st.tmps st.h)) (ref_skip (fun s st hp => hp))))) (ref_seq (R5_1 _ _) (ref_seq (R5_0 _ _) (ref_ret (fun s st hp => hp))))))))))
noncomputable def G5 (x0 : Bound) (x1 : Bound) : Option Bool := match M5 { (default : Fr5) with t0 := x0, t1 := x1 } with
  | some (.nrm, s) => some s.t4
  | some (.ret, s) => some s.t4
  | _ => none
theorem G5_spec : Spec5 (G5) := by
  intro x0 x1 vx0_0 hvx0_0 vx0_1 hvx0_1 vx0_2 hvx0_2 vx0_3 hvx0_3 vx1_0 hvx1_0 vx1_1 hvx1_1 vx1_2 hvx1_2 vx1_3 hvx1_3 r hr
  unfold G5 at hr
  cases hm : M5 { (default : Fr5) with t0 := x0, t1 := x1 } with
  | none => rw [hm] at hr; cases hr
  | some q =>
    obtain ⟨x, s⟩ := q
    rw [hm] at hr
    have hx : x = .nrm ∨ x = .ret := by cases x <;> first | exact .inl rfl | exact .inr rfl | cases hr
    have hr : s.t4 = r := by cases x <;> first | exact Option.some.inj hr | cases hr
    subst hr
    have hp0 : P5_11' ({ (default : Fr5) with t0 := x0, t1 := x1 }) (slots Tryz.f5 (stripL [.agg [vx0_0, vx0_1, vx0_2, vx0_3], .agg [vx1_0, vx1_1, vx1_2, vx1_3]])) bare := ⟨(strip vx0_0 : AVal), (strip vx0_1 : AVal), (strip vx0_2 : AVal), (strip vx0_3 : AVal), (strip vx1_0 : AVal), (strip vx1_1 : AVal), (strip vx1_2 : AVal), (strip vx1_3 : AVal), rfl, rfl, hvx0_0.strip rPick_p, hvx0_1.strip rS_p, rTestT_p.str _ _ hvx0_2, hvx0_3.strip (rI_p .i64), rfl, hvx1_0.strip rPick_p, hvx1_1.strip rS_p, rTestT_p.str _ _ hvx1_2, hvx1_3.strip (rI_p .i64)⟩
    obtain ⟨v, hR, hrun⟩ := run_of_ref (C := Cl) (f := 5) (fn := Tryz.f5) Tryz.func5 rfl rfl rfl rfl (args := [.agg [vx0_0, vx0_1, vx0_2, vx0_3], .agg [vx1_0, vx1_1, vx1_2, vx1_3]]) (by simp only [refsL, refs, List.append_nil, hvx0_0.refs rPick_p, hvx0_1.refs rS_p, refs_one (rTestT_p.ref _ _ hvx0_2), hvx0_3.refs (rI_p .i64), hvx1_0.refs rPick_p, hvx1_1.refs rS_p, refs_one (rTestT_p.ref _ _ hvx1_2), hvx1_3.refs (rI_p .i64)]) (B5) (s0 := { (default : Fr5) with t0 := x0, t1 := x1 }) hp0 hm hx (R := fun v => v = .bool s.t4) (by
      have key : ∀ st : ASt, P5_1 s st → ∃ vs v, aresults Cl Tryz.f5.results.toList st = some vs ∧ Nrm [] st.h (packRes vs) v ∧ (fun v => v = .bool s.t4) v := by
        intro st hp
        obtain ⟨hl, a4⟩ := (hp : P5_1' s st.tmps st.h)
        exact ⟨[.bool s.t4], _, by simp only [show Tryz.f5.results.toList = [ResultVar.tmp 4] from rfl, aresults, ares1, CP, a4, Option.getD_some], (Nrm.of (w := .bool s.t4) (by simp only [refsL, refs, List.append_nil])), rfl⟩
      intro st hq
      rcases hx with rfl | rfl
      · exact key st hq
      · exact key st hq)
    subst hR
    exact hrun
end Go.Proofs.Ky
