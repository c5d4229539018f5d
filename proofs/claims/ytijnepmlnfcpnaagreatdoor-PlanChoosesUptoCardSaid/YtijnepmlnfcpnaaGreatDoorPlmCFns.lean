/-
  PLAN (aa, C): functions (printed by wip/tools/tg.py).
-/
import Derived.Test.YtijnepmlnfcpnaaGreatDoorPlmCTypes
import Derived.Test.YtijnepmlnfcpnaaGreatDoorAmPack
set_option linter.unusedVariables false
set_option linter.unusedSimpArgs false
set_option linter.unusedSimpArgs false
set_option linter.unusedVariables false
set_option maxRecDepth 100000
namespace Go.Proofs.Plm
open Go Go.Am Go.Proofs
noncomputable def S25 : Option Bool := some true
theorem S25_spec : Spec25 S25 := fun r hr h => by cases hr; exact awake_run h
/-! ### caisson/caissonlaw19.PlanChooses -/
structure Fr8 where
  t0 : Bound
  t1 : Offer
  t2 : Int
  t3 : Bound
  t4 : Offer
  t6 : Bool
  t7 : Bool
  t8 : Plan
  t9 : Int
instance : Inhabited Fr8 := ⟨⟨default, default, 0, default, default, false, false, default, 0⟩⟩
def P8_0' (s : Fr8) (t : List AVal) (h : AHeap) : Prop := ∃ w3_0 w3_1 w3_2 w3_3 w4_0 i8, t.length = 63 ∧ t[2]? = some (.int .i64 s.t2) ∧ t[3]? = some (.iptr [w3_0, w3_1, w3_2, w3_3]) ∧ Sl rPick s.t3.Picks w3_0 ∧ Sl rS s.t3.Names w3_1 ∧ rTestT s.t3.Where [w3_2] ∧ Sl (rI .i64) s.t3.Sets w3_3 ∧ t[4]? = some (.iptr [.int .i64 s.t4.Rows, .int .i64 s.t4.Head, .int .i64 s.t4.Facts, w4_0]) ∧ Sl rViewInfo s.t4.Views w4_0 ∧ t[7]? = some (.bool s.t7) ∧ t[8]? = some (.ptr i8 0) ∧ h.get i8 = some (.arr [.bool s.t8.Base, .int .i64 s.t8.Set, .int .i64 s.t8.Cost]) ∧ i8 < h.next ∧ t[9]? = some (.int .i64 s.t9)
def P8_0 (s : Fr8) (st : ASt) : Prop := P8_0' s st.tmps st.h
def P8_1' (s : Fr8) (t : List AVal) (h : AHeap) : Prop := t.length = 63 ∧ t[6]? = some (.bool s.t6)
def P8_1 (s : Fr8) (st : ASt) : Prop := P8_1' s st.tmps st.h
def P8_2' (s : Fr8) (t : List AVal) (h : AHeap) : Prop := ∃ w3_0 w3_1 w3_2 w3_3 w4_0 i8, t.length = 63 ∧ t[2]? = some (.int .i64 s.t2) ∧ t[3]? = some (.iptr [w3_0, w3_1, w3_2, w3_3]) ∧ Sl rPick s.t3.Picks w3_0 ∧ Sl rS s.t3.Names w3_1 ∧ rTestT s.t3.Where [w3_2] ∧ Sl (rI .i64) s.t3.Sets w3_3 ∧ t[4]? = some (.iptr [.int .i64 s.t4.Rows, .int .i64 s.t4.Head, .int .i64 s.t4.Facts, w4_0]) ∧ Sl rViewInfo s.t4.Views w4_0 ∧ t[7]? = some (.bool s.t7) ∧ t[8]? = some (.ptr i8 0) ∧ h.get i8 = some (.arr [.bool s.t8.Base, .int .i64 s.t8.Set, .int .i64 s.t8.Cost]) ∧ i8 < h.next
def P8_2 (s : Fr8) (st : ASt) : Prop := P8_2' s st.tmps st.h
def P8_3' (s : Fr8) (t : List AVal) (h : AHeap) : Prop := ∃ w3_0 w3_1 w3_2 w3_3 w4_0, t.length = 63 ∧ t[2]? = some (.int .i64 s.t2) ∧ t[3]? = some (.iptr [w3_0, w3_1, w3_2, w3_3]) ∧ Sl rPick s.t3.Picks w3_0 ∧ Sl rS s.t3.Names w3_1 ∧ rTestT s.t3.Where [w3_2] ∧ Sl (rI .i64) s.t3.Sets w3_3 ∧ t[4]? = some (.iptr [.int .i64 s.t4.Rows, .int .i64 s.t4.Head, .int .i64 s.t4.Facts, w4_0]) ∧ Sl rViewInfo s.t4.Views w4_0 ∧ t[7]? = some (.bool s.t7)
def P8_3 (s : Fr8) (st : ASt) : Prop := P8_3' s st.tmps st.h
def P8_4' (s : Fr8) (t : List AVal) (h : AHeap) : Prop := ∃ w3_0 w3_1 w3_2 w3_3 w4_0, t.length = 63 ∧ t[2]? = some (.int .i64 s.t2) ∧ t[3]? = some (.iptr [w3_0, w3_1, w3_2, w3_3]) ∧ Sl rPick s.t3.Picks w3_0 ∧ Sl rS s.t3.Names w3_1 ∧ rTestT s.t3.Where [w3_2] ∧ Sl (rI .i64) s.t3.Sets w3_3 ∧ t[4]? = some (.iptr [.int .i64 s.t4.Rows, .int .i64 s.t4.Head, .int .i64 s.t4.Facts, w4_0]) ∧ Sl rViewInfo s.t4.Views w4_0
def P8_4 (s : Fr8) (st : ASt) : Prop := P8_4' s st.tmps st.h
def P8_5' (s : Fr8) (t : List AVal) (h : AHeap) : Prop := ∃ w0_0 w0_1 w0_2 w0_3 w1_0, t.length = 63 ∧ t[0]? = some (.agg [w0_0, w0_1, w0_2, w0_3]) ∧ Sl rPick s.t0.Picks w0_0 ∧ Sl rS s.t0.Names w0_1 ∧ rTestT s.t0.Where [w0_2] ∧ Sl (rI .i64) s.t0.Sets w0_3 ∧ t[1]? = some (.agg [.int .i64 s.t1.Rows, .int .i64 s.t1.Head, .int .i64 s.t1.Facts, w1_0]) ∧ Sl rViewInfo s.t1.Views w1_0 ∧ t[2]? = some (.int .i64 s.t2)
def P8_5 (s : Fr8) (st : ASt) : Prop := P8_5' s st.tmps st.h
noncomputable def m8_0 : Mo Fr8 := fun s => (cond s.t7 ((G28 s.t3 s.t4.Views s.t4.Head s.t4.Facts).bind fun z2 => some (eqPlan s.t8 z2)) (some false)).bind fun x5 => (cond (s.t7 && x5) ((G29 s.t8).bind fun z7 => (G30 s.t8).bind fun z10 => some (z7 == z10)) (some false)).bind fun x12 => (cond ((s.t7 && x5) && x12) ((G31 s.t9 s.t2 s.t4.Rows s.t4.Views s.t4.Head s.t4.Facts).bind fun z13 => (G32 s.t9 s.t2 s.t4).bind fun z15 => some (z13 == z15)) (some false)).bind fun x17 => some (.nrm, { s with t6 := (((s.t7 && x5) && x12) && x17) })
noncomputable def m8_1 : Mo Fr8 := fun s => (G27 s.t3).bind fun z35 => some (.nrm, { s with t9 := z35.1 })
noncomputable def m8_2 : Mo Fr8 := fun s => (G26 s.t3 s.t4.Views s.t4.Head s.t4.Facts).bind fun z39 => some (.nrm, { s with t8 := z39 })
noncomputable def m8_3 : Mo Fr8 := fun s => (S25 ).bind fun z61 => some (.nrm, { s with t7 := z61 })
noncomputable def m8_4 : Mo Fr8 := fun s => some (.nrm, { s with t3 := s.t0, t4 := s.t1 })
noncomputable def M8 : Mo Fr8 := seqM (m8_4) (seqM (m8_3) (seqM (m8_2) (seqM (m8_1) (seqM (m8_0) (retM)))))
def Spec8 (f : Bound → Offer → Int → Option Bool) : Prop := ∀ (x0 : Bound) (x1 : Offer) (x2 : Int) (vx0_0 : AVal) (_ : Sl rPick x0.Picks vx0_0) (vx0_1 : AVal) (_ : Sl rS x0.Names vx0_1) (vx0_2 : AVal) (_ : rTestT x0.Where [vx0_2]) (vx0_3 : AVal) (_ : Sl (rI .i64) x0.Sets vx0_3) (vx1_0 : AVal) (_ : Sl rViewInfo x1.Views vx1_0) (r : Bool), f x0 x1 x2 = some r → ∀ h, run Cl 8 [.agg [vx0_0, vx0_1, vx0_2, vx0_3], .agg [.int .i64 x1.Rows, .int .i64 x1.Head, .int .i64 x1.Facts, vx1_0], .int .i64 x2] h = some (.ret (.bool r), h)
theorem Spec8_of {f g : Bound → Offer → Int → Option Bool} (hg : Spec8 g) (h : ∀ x0 x1 x2 r, f x0 x1 x2 = some r → g x0 x1 x2 = some r) : Spec8 f := fun x0 x1 x2 v0_ w0_ v1_ w1_ v2_ w2_ v3_ w3_ v4_ w4_ r hr => hg x0 x1 x2 v0_ w0_ v1_ w1_ v2_ w2_ v3_ w3_ v4_ w4_ r (h x0 x1 x2 r hr)
set_option maxHeartbeats 8000000 in
theorem R8_0 (pe pr) : Ref Cl P8_0 (Cat [true, true, true, true, false] (bodyOf Tryz.f8)) m8_0 (post P8_1 pe pr) := by
  rintro s ⟨t, h⟩ hp x s' hm
  obtain ⟨w3_0, w3_1, w3_2, w3_3, w4_0, i8, hl, a2, a3, r3_0, r3_1, r3_2, r3_3, a4, r4_0, a7, a8, g8, l8, a9⟩ : P8_0' s t h := hp
  unfold m8_0 at hm
  cases hb18 : s.t7 with
  | true =>
    all_goals (
      try simp only [hb18, Zb] at hm
      have k19 : loadA h true 3 (.ptr i8 0) = some (.agg [.bool s.t8.Base, .int .i64 s.t8.Set, .int .i64 s.t8.Cost]) := by rw [Heap.load_gen g8 (Nat.le_of_ble_eq_true rfl)]; first | rfl | exact ofc3 _ _ _ _
      obtain ⟨z20, hz20, hm⟩ := Option.bind_eq_some_iff.1 hm
      have iu21 := G28_spec s.t3 s.t4.Views s.t4.Head s.t4.Facts _ r3_0 _ r3_1 _ r3_2 _ r3_3 _ r4_0 _ hz20
      have apu21 : apure Cl 28 [.agg [w3_0, w3_1, w3_2, w3_3], w4_0, .int .i64 s.t4.Head, .int .i64 s.t4.Facts] = true := apure_of rfl rfl (refs_cons (by simp only [refsL, refs, List.append_nil, List.nil_append, r3_0.refs rPick_p, r3_1.refs rS_p, refs_one (rTestT_p.ref _ _ r3_2), r3_3.refs (rI_p .i64)]) (refs_cons (r4_0.refs rViewInfo_p) (refs_cons rfl (refs_cons rfl rfl))))
      have k22 : ∀ (xo yo : Operand) (h : AHeap), abin Cl .eql 72 xo yo h (.agg [.bool s.t8.Base, .int .i64 s.t8.Set, .int .i64 s.t8.Cost]) (.agg [.bool z20.Base, .int .i64 z20.Set, .int .i64 z20.Cost]) = some (.bool (eqPlan s.t8 z20)) := fun xo yo h => TyC.eqls72 xo yo h s.t8 z20
      try simp only [Zb] at hm
      cases hb23 : eqPlan s.t8 z20 with
      | true =>
        all_goals (
          try simp only [hb23, Zb] at hm
          have k24 : loadA h true 3 (.ptr i8 0) = some (.agg [.bool s.t8.Base, .int .i64 s.t8.Set, .int .i64 s.t8.Cost]) := by rw [Heap.load_gen g8 (Nat.le_of_ble_eq_true rfl)]; first | rfl | exact ofc3 _ _ _ _
          obtain ⟨z25, hz25, hm⟩ := Option.bind_eq_some_iff.1 hm
          have iu26 := G29_spec s.t8  _ hz25
          have k27 : loadA h true 3 (.ptr i8 0) = some (.agg [.bool s.t8.Base, .int .i64 s.t8.Set, .int .i64 s.t8.Cost]) := by rw [Heap.load_gen g8 (Nat.le_of_ble_eq_true rfl)]; first | rfl | exact ofc3 _ _ _ _
          obtain ⟨z28, hz28, hm⟩ := Option.bind_eq_some_iff.1 hm
          have iu29 := G30_spec s.t8  _ hz28
          try simp only [Zb] at hm
          cases hb30 : (z25 == z28) with
          | true =>
            all_goals (
              try simp only [hb30, Zb] at hm
              obtain ⟨z31, hz31, hm⟩ := Option.bind_eq_some_iff.1 hm
              have iu32 := G31_spec s.t9 s.t2 s.t4.Rows s.t4.Views s.t4.Head s.t4.Facts _ r4_0 _ hz31
              have apu32 : apure Cl 31 [.int .i64 s.t9, .int .i64 s.t2, .int .i64 s.t4.Rows, w4_0, .int .i64 s.t4.Head, .int .i64 s.t4.Facts] = true := apure_of rfl rfl (refs_cons rfl (refs_cons rfl (refs_cons rfl (refs_cons (r4_0.refs rViewInfo_p) (refs_cons rfl (refs_cons rfl rfl))))))
              obtain ⟨z33, hz33, hm⟩ := Option.bind_eq_some_iff.1 hm
              have iu34 := G32_spec s.t9 s.t2 s.t4 _ r4_0 _ hz33
              have apu34 : apure Cl 32 [.int .i64 s.t9, .int .i64 s.t2, .agg [.int .i64 s.t4.Rows, .int .i64 s.t4.Head, .int .i64 s.t4.Facts, w4_0]] = true := apure_of rfl rfl (refs_cons rfl (refs_cons rfl (refs_cons (by simp only [refsL, refs, List.append_nil, List.nil_append, r4_0.refs rViewInfo_p]) rfl)))
              try simp only [Zb] at hm
              cases hm
              refine ⟨⟨_, _⟩, by
                  simp only [bodyOf, Tryz.f8, Cat, Zs, awanted, aoper, evalO, put, acallOp, abuiltin, Nat.reduceEqDiff, Nat.reduceLT, ofV, ofCell, ↓reduceIte, hl, a2, a3, a4, a7, a8, a9, CP, List.append_eq, k19, TyC.ld72, TyC.ld35, ld_ip, ofc4, List.drop_succ_cons, List.drop_zero, List.length_cons, List.length_nil, TyC.fa70_3, dropCells, List.drop_succ_cons, List.drop_zero, TyC.ld68, ofc1, List.drop_succ_cons, List.drop_zero, TyC.fa70_1, TyC.ld3, TyC.fa70_2, iu21, apu21, if_true, k22, k24, iu26, k27, iu29, eql_s, TyC.fa70_0, iu32, apu32, TyC.ld70, iu34, apu34, hb18, hb23, hb30]
                  rw [k_draw _ _ _ (by kernel_rfl)]
                  exact rfl, ?_⟩
              show P8_1 _ _
              exact ⟨by simp [hl], by simp [hl, hb18, hb23, hb30]⟩)
          | false =>
            all_goals (
              try simp only [hb30, Zb] at hm
              cases hm
              refine ⟨⟨_, _⟩, by
                  simp only [bodyOf, Tryz.f8, Cat, Zs, awanted, aoper, evalO, put, acallOp, abuiltin, Nat.reduceEqDiff, Nat.reduceLT, ofV, ofCell, ↓reduceIte, hl, a2, a3, a4, a7, a8, a9, CP, List.append_eq, k19, TyC.ld72, TyC.ld35, ld_ip, ofc4, List.drop_succ_cons, List.drop_zero, List.length_cons, List.length_nil, TyC.fa70_3, dropCells, List.drop_succ_cons, List.drop_zero, TyC.ld68, ofc1, List.drop_succ_cons, List.drop_zero, TyC.fa70_1, TyC.ld3, TyC.fa70_2, iu21, apu21, if_true, k22, k24, iu26, k27, iu29, eql_s, hb18, hb23, hb30]
                  rw [k_draw _ _ _ (by kernel_rfl)]
                  exact rfl, ?_⟩
              show P8_1 _ _
              exact ⟨by simp [hl], by simp [hl, hb18, hb23, hb30]⟩))
      | false =>
        all_goals (
          try simp only [hb23, Zb] at hm
          cases hm
          refine ⟨⟨_, _⟩, by
              simp only [bodyOf, Tryz.f8, Cat, Zs, awanted, aoper, evalO, put, acallOp, abuiltin, Nat.reduceEqDiff, Nat.reduceLT, ofV, ofCell, ↓reduceIte, hl, a2, a3, a4, a7, a8, a9, CP, List.append_eq, k19, TyC.ld72, TyC.ld35, ld_ip, ofc4, List.drop_succ_cons, List.drop_zero, List.length_cons, List.length_nil, TyC.fa70_3, dropCells, List.drop_succ_cons, List.drop_zero, TyC.ld68, ofc1, List.drop_succ_cons, List.drop_zero, TyC.fa70_1, TyC.ld3, TyC.fa70_2, iu21, apu21, if_true, k22, hb18, hb23]
              rw [k_draw _ _ _ (by kernel_rfl)]
              exact rfl, ?_⟩
          show P8_1 _ _
          exact ⟨by simp [hl], by simp [hl, hb18, hb23]⟩))
  | false =>
    all_goals (
      try simp only [hb18, Zb] at hm
      cases hm
      refine ⟨⟨_, _⟩, by
          simp only [bodyOf, Tryz.f8, Cat, Zs, awanted, aoper, evalO, put, acallOp, abuiltin, Nat.reduceEqDiff, Nat.reduceLT, ofV, ofCell, ↓reduceIte, hl, a2, a3, a4, a7, a8, a9, CP, List.append_eq, hb18]
          rw [k_draw _ _ _ (by kernel_rfl)]
          exact rfl, ?_⟩
      show P8_1 _ _
      exact ⟨by simp [hl], by simp [hl, hb18]⟩)
theorem R8_1 (pe pr) : Ref Cl P8_2 (Cat [true, true, true, false] (bodyOf Tryz.f8)) m8_1 (post P8_0 pe pr) := by
  rintro s ⟨t, h⟩ hp x s' hm
  obtain ⟨w3_0, w3_1, w3_2, w3_3, w4_0, i8, hl, a2, a3, r3_0, r3_1, r3_2, r3_3, a4, r4_0, a7, a8, g8, l8⟩ : P8_2' s t h := hp
  unfold m8_1 at hm
  obtain ⟨z37, hz37, hm⟩ := Option.bind_eq_some_iff.1 hm
  have iu38 := G27_spec s.t3 _ r3_0 _ r3_1 _ r3_2 _ r3_3 _ hz37
  cases hm
  refine ⟨⟨_, _⟩, by simp only [bodyOf, Tryz.f8, Cat, Zs, awanted, aoper, evalO, put, acallOp, abuiltin, Nat.reduceEqDiff, Nat.reduceLT, ofV, ofCell, ↓reduceIte, hl, a2, a3, a4, a7, a8, CP, TyC.ld35, ld_ip, ofc4, List.drop_succ_cons, List.drop_zero, List.length_cons, List.length_nil, iu38]; exact rfl, ?_⟩
  show P8_0 _ _
  exact ⟨w3_0, w3_1, w3_2, w3_3, w4_0, i8, by simp [hl], by simp [a2], by simp [a3], r3_0, r3_1, r3_2, r3_3, by simp [a4], r4_0, by simp [a7], by simp [a8], g8, l8, by simp [hl]⟩
theorem R8_2 (pe pr) : Ref Cl P8_3 (Cat [true, true, false] (bodyOf Tryz.f8)) m8_2 (post P8_2 pe pr) := by
  rintro s ⟨t, h⟩ hp x s' hm
  obtain ⟨w3_0, w3_1, w3_2, w3_3, w4_0, hl, a2, a3, r3_0, r3_1, r3_2, r3_3, a4, r4_0, a7⟩ : P8_3' s t h := hp
  unfold m8_2 at hm
  obtain ⟨z50, hz50, hm⟩ := Option.bind_eq_some_iff.1 hm
  have iu51 := G26_spec s.t3 s.t4.Views s.t4.Head s.t4.Facts _ r3_0 _ r3_1 _ r3_2 _ r3_3 _ r4_0 _ hz50
  obtain ⟨H52, eH52⟩ : ∃ x : AHeap, x = h.new (.arr [.bool false, .int .i64 0, .int .i64 0]) := ⟨_, rfl⟩
  obtain ⟨id53, eid53⟩ : ∃ x : Nat, x = h.next := ⟨_, rfl⟩
  have k54 : H52.get id53 = some (.arr [.bool false, .int .i64 0, .int .i64 0]) := by rw [eH52, eid53]; exact Heap.get_new_eq
  have k55 : id53 < H52.next := by rw [eH52, eid53, Heap.new_next]; exact Nat.lt_succ_self _
  have k56 : abox h (.agg [.bool false, .int .i64 0, .int .i64 0]) = some (.ptr id53 0, H52) := by simp only [abox, eH52, eid53, Zc, if_true]
  obtain ⟨H57, eH57⟩ : ∃ x : AHeap, x = H52.set id53 (some (.arr [.bool z50.Base, .int .i64 z50.Set, .int .i64 z50.Cost])) := ⟨_, rfl⟩
  have k58 : storeA H52 3 (.ptr id53 0) (.agg [.bool z50.Base, .int .i64 z50.Set, .int .i64 z50.Cost]) = some H57 := by rw [eH57]; exact Heap.store_gen k54 (show (.agg [.bool z50.Base, .int .i64 z50.Set, .int .i64 z50.Cost] : AVal).cells = [.bool z50.Base, .int .i64 z50.Set, .int .i64 z50.Cost] by simp only [Zc]) rfl (by simp only [Zc]) (Nat.le_of_ble_eq_true rfl) rfl
  have k59 := gse eH57
  have k60 := nxs eH57 k55
  cases hm
  refine ⟨⟨_, _⟩, by simp only [bodyOf, Tryz.f8, Cat, Zs, awanted, aoper, evalO, put, acallOp, abuiltin, Nat.reduceEqDiff, Nat.reduceLT, ofV, ofCell, ↓reduceIte, hl, a2, a3, a4, a7, CP, TyC.ld35, ld_ip, ofc4, List.drop_succ_cons, List.drop_zero, List.length_cons, List.length_nil, TyC.fa70_3, dropCells, List.drop_succ_cons, List.drop_zero, TyC.ld68, ofc1, List.drop_succ_cons, List.drop_zero, TyC.fa70_1, TyC.ld3, TyC.fa70_2, iu51, TyC.ze72, TyC.own_law_go_41, k56, k58, TyC.st72]; exact rfl, ?_⟩
  show P8_2 _ _
  exact ⟨w3_0, w3_1, w3_2, w3_3, w4_0, id53, by simp [hl], by simp [a2], by simp [a3], r3_0, r3_1, r3_2, r3_3, by simp [a4], r4_0, by simp [a7], by simp [hl], k59, k60⟩
theorem R8_3 (pe pr) : Ref Cl P8_4 (Cat [true, false] (bodyOf Tryz.f8)) m8_3 (post P8_3 pe pr) := by
  rintro s ⟨t, h⟩ hp x s' hm
  obtain ⟨w3_0, w3_1, w3_2, w3_3, w4_0, hl, a2, a3, r3_0, r3_1, r3_2, r3_3, a4, r4_0⟩ : P8_4' s t h := hp
  unfold m8_3 at hm
  obtain ⟨z63, hz63, hm⟩ := Option.bind_eq_some_iff.1 hm
  have iu64 := S25_spec   _ hz63
  cases hm
  refine ⟨⟨_, _⟩, by simp only [bodyOf, Tryz.f8, Cat, Zs, awanted, aoper, evalO, put, acallOp, abuiltin, Nat.reduceEqDiff, Nat.reduceLT, ofV, ofCell, ↓reduceIte, hl, a2, a3, a4, CP, iu64]; exact rfl, ?_⟩
  show P8_3 _ _
  exact ⟨w3_0, w3_1, w3_2, w3_3, w4_0, by simp [hl], by simp [a2], by simp [a3], r3_0, r3_1, r3_2, r3_3, by simp [a4], r4_0, by simp [hl]⟩
theorem R8_4 (pe pr) : Ref Cl P8_5 (Cat [false] (bodyOf Tryz.f8)) m8_4 (post P8_4 pe pr) := by
  rintro s ⟨t, h⟩ hp x s' hm
  obtain ⟨w0_0, w0_1, w0_2, w0_3, w1_0, hl, a0, r0_0, r0_1, r0_2, r0_3, a1, r1_0, a2⟩ : P8_5' s t h := hp
  unfold m8_4 at hm
  have ic70 : (w0_0 : AVal).isCell = true := Sl.isCell r0_0
  have ic71 : (w0_1 : AVal).isCell = true := Sl.isCell r0_1
  have ic72 : (w0_2 : AVal).isCell = true := rTestT_cell r0_2
  have ic73 : (w0_3 : AVal).isCell = true := Sl.isCell r0_3
  have ic74 : (w1_0 : AVal).isCell = true := Sl.isCell r1_0
  cases hm
  refine ⟨⟨_, _⟩, by simp only [bodyOf, Tryz.f8, Cat, Zs, awanted, aoper, evalO, put, acallOp, abuiltin, Nat.reduceEqDiff, Nat.reduceLT, ofV, ofCell, ↓reduceIte, hl, a0, a1, a2, CP, TyC.cb_parse_go_148, TyC.cb_parse_go_143, TyC.cb_parse_go_130, TyC.cb_plan_go_27, TyC.cb_plan_go_29, TyC.cb_plan_go_31, TyC.cb_plan_go_41, TyC.cb_plan_go_61, TyC.cb_cube_go_25, TyC.cb_law_go_39, TyC.cb_ref_go_26, TyC.cb_ref_go_48, TyC.cb_ref_go_57, TyC.cb_ref_go_65, ic70, bx_c ic70, cl_c ic70, ic71, bx_c ic71, cl_c ic71, ic72, bx_c ic72, cl_c ic72, ic73, bx_c ic73, cl_c ic73, Zc, ic74, bx_c ic74, cl_c ic74]; exact rfl, ?_⟩
  show P8_4 _ _
  exact ⟨w0_0, w0_1, w0_2, w0_3, w1_0, by simp [hl], by simp [a2], by simp [hl], r0_0, r0_1, r0_2, r0_3, by simp [hl], r1_0⟩
theorem B8 : Ref Cl P8_5 (bodyOf Tryz.f8) (M8) (post P8_1 (fun _ _ _ => False) P8_1) := by
  rw [show bodyOf Tryz.f8 = .seq (Cat [false] (bodyOf Tryz.f8)) (.seq (Cat [true, false] (bodyOf Tryz.f8)) (.seq (Cat [true, true, false] (bodyOf Tryz.f8)) (.seq (Cat [true, true, true, false] (bodyOf Tryz.f8)) (.seq (Cat [true, true, true, true, false] (bodyOf Tryz.f8)) (.ret))))) from rfl]
  unfold M8
  exact ref_seq (R8_4 _ _) (ref_seq (R8_3 _ _) (ref_seq (R8_2 _ _) (ref_seq (R8_1 _ _) (ref_seq (R8_0 _ _) (ref_ret (fun s st hp => hp))))))
noncomputable def G8 (x0 : Bound) (x1 : Offer) (x2 : Int) : Option Bool := match M8 { (default : Fr8) with t0 := x0, t1 := x1, t2 := x2 } with
  | some (.nrm, s) => some s.t6
  | some (.ret, s) => some s.t6
  | _ => none
theorem G8_spec : Spec8 (G8) := by
  intro x0 x1 x2 vx0_0 hvx0_0 vx0_1 hvx0_1 vx0_2 hvx0_2 vx0_3 hvx0_3 vx1_0 hvx1_0 r hr
  unfold G8 at hr
  cases hm : M8 { (default : Fr8) with t0 := x0, t1 := x1, t2 := x2 } with
  | none => rw [hm] at hr; cases hr
  | some q =>
    obtain ⟨x, s⟩ := q
    rw [hm] at hr
    have hx : x = .nrm ∨ x = .ret := by cases x <;> first | exact .inl rfl | exact .inr rfl | cases hr
    have hr : s.t6 = r := by cases x <;> first | exact Option.some.inj hr | cases hr
    subst hr
    have hp0 : P8_5' ({ (default : Fr8) with t0 := x0, t1 := x1, t2 := x2 }) (slots Tryz.f8 (stripL [.agg [vx0_0, vx0_1, vx0_2, vx0_3], .agg [.int .i64 x1.Rows, .int .i64 x1.Head, .int .i64 x1.Facts, vx1_0], .int .i64 x2])) bare := ⟨(strip vx0_0 : AVal), (strip vx0_1 : AVal), (strip vx0_2 : AVal), (strip vx0_3 : AVal), (strip vx1_0 : AVal), rfl, rfl, hvx0_0.strip rPick_p, hvx0_1.strip rS_p, rTestT_p.str _ _ hvx0_2, hvx0_3.strip (rI_p .i64), rfl, hvx1_0.strip rViewInfo_p, rfl⟩
    obtain ⟨v, hR, hrun⟩ := run_of_ref (C := Cl) (f := 8) (fn := Tryz.f8) Tryz.func8 rfl rfl rfl rfl (args := [.agg [vx0_0, vx0_1, vx0_2, vx0_3], .agg [.int .i64 x1.Rows, .int .i64 x1.Head, .int .i64 x1.Facts, vx1_0], .int .i64 x2]) (by simp only [refsL, refs, List.append_nil, hvx0_0.refs rPick_p, hvx0_1.refs rS_p, refs_one (rTestT_p.ref _ _ hvx0_2), hvx0_3.refs (rI_p .i64), hvx1_0.refs rViewInfo_p]) (B8) (s0 := { (default : Fr8) with t0 := x0, t1 := x1, t2 := x2 }) hp0 hm hx (R := fun v => v = .bool s.t6) (by
      have key : ∀ st : ASt, P8_1 s st → ∃ vs v, aresults Cl Tryz.f8.results.toList st = some vs ∧ Nrm [] st.h (packRes vs) v ∧ (fun v => v = .bool s.t6) v := by
        intro st hp
        obtain ⟨hl, a6⟩ := (hp : P8_1' s st.tmps st.h)
        exact ⟨[.bool s.t6], _, by simp only [show Tryz.f8.results.toList = [ResultVar.tmp 6] from rfl, aresults, ares1, CP, a6, Option.getD_some], (Nrm.of (w := .bool s.t6) (by simp only [refsL, refs, List.append_nil])), rfl⟩
      intro st hq
      rcases hx with rfl | rfl
      · exact key st hq
      · exact key st hq)
    subst hR
    exact hrun
end Go.Proofs.Plm
