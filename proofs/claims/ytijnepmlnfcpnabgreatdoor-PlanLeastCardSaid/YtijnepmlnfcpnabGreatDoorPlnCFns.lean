/-
  PLAN (C): functions (printed by wip/tools/tg.py).
-/
import Derived.Test.YtijnepmlnfcpnabGreatDoorPlnCTypes
set_option linter.unusedVariables false
set_option linter.unusedSimpArgs false
set_option linter.unusedSimpArgs false
set_option linter.unusedVariables false
set_option maxRecDepth 100000
namespace Go.Proofs.Pln
open Go Go.Am Go.Proofs
/-! ### caisson/caissonlaw19.PlanLeast -/
structure Fr3 where
  t0 : Bound
  t1 : Offer
  t2 : ViewInfo
  t3 : Bound
  t4 : Offer
  t5 : ViewInfo
  t6 : Bool
  t7 : Bool
  t8 : Plan
  t9 : Int
  t10 : Bool
  t11 : Int
  t12 : ViewInfo
  t13 : (List ViewInfo)
  t14 : Plan
  t33 : Bool
  t72 : Bool
instance : Inhabited Fr3 := ⟨⟨default, default, default, default, default, default, false, false, default, 0, false, 0, default, [], default, false, false⟩⟩
def P3_0' (s : Fr3) (t : List AVal) (h : AHeap) : Prop := ∃ i8 i14, t.length = 114 ∧ t[7]? = some (.bool s.t7) ∧ t[8]? = some (.ptr i8 0) ∧ h.get i8 = some (.arr [.bool s.t8.Base, .int .i64 s.t8.Set, .int .i64 s.t8.Cost]) ∧ i8 < h.next ∧ t[9]? = some (.int .i64 s.t9) ∧ t[10]? = some (.bool s.t10) ∧ t[14]? = some (.ptr i14 0) ∧ h.get i14 = some (.arr [.bool s.t14.Base, .int .i64 s.t14.Set, .int .i64 s.t14.Cost]) ∧ i14 < h.next ∧ i8 ≠ i14
def P3_0 (s : Fr3) (st : ASt) : Prop := P3_0' s st.tmps st.h
def P3_1' (s : Fr3) (t : List AVal) (h : AHeap) : Prop := t.length = 114 ∧ t[6]? = some (.bool s.t6)
def P3_1 (s : Fr3) (st : ASt) : Prop := P3_1' s st.tmps st.h
def P3_2' (s : Fr3) (t : List AVal) (h : AHeap) : Prop := ∃ w3_0 w3_1 w3_2 w3_3 w4_0 i8 w13_0, t.length = 114 ∧ t[3]? = some (.iptr [w3_0, w3_1, w3_2, w3_3]) ∧ Sl rPick s.t3.Picks w3_0 ∧ Sl rS s.t3.Names w3_1 ∧ rTestT s.t3.Where [w3_2] ∧ Sl (rI .i64) s.t3.Sets w3_3 ∧ t[4]? = some (.iptr [.int .i64 s.t4.Rows, .int .i64 s.t4.Head, .int .i64 s.t4.Facts, w4_0]) ∧ Sl rViewInfo s.t4.Views w4_0 ∧ t[7]? = some (.bool s.t7) ∧ t[8]? = some (.ptr i8 0) ∧ h.get i8 = some (.arr [.bool s.t8.Base, .int .i64 s.t8.Set, .int .i64 s.t8.Cost]) ∧ i8 < h.next ∧ t[9]? = some (.int .i64 s.t9) ∧ t[10]? = some (.bool s.t10) ∧ t[13]? = some w13_0 ∧ Gr rViewInfo 6 s.t13 w13_0 h
def P3_2 (s : Fr3) (st : ASt) : Prop := P3_2' s st.tmps st.h
def P3_3' (s : Fr3) (t : List AVal) (h : AHeap) : Prop := ∃ w3_0 w3_1 w3_2 w3_3 w4_0 i8 w13_0, t.length = 114 ∧ t[3]? = some (.iptr [w3_0, w3_1, w3_2, w3_3]) ∧ Sl rPick s.t3.Picks w3_0 ∧ Sl rS s.t3.Names w3_1 ∧ rTestT s.t3.Where [w3_2] ∧ Sl (rI .i64) s.t3.Sets w3_3 ∧ t[4]? = some (.iptr [.int .i64 s.t4.Rows, .int .i64 s.t4.Head, .int .i64 s.t4.Facts, w4_0]) ∧ Sl rViewInfo s.t4.Views w4_0 ∧ t[5]? = some (.iptr [.int .i64 s.t5.Set, .int .i64 s.t5.State, .int .i64 s.t5.Seq, .int .i64 s.t5.Rows, .int .i64 s.t5.Bytes, .int .i64 s.t5.Readers]) ∧ t[7]? = some (.bool s.t7) ∧ t[8]? = some (.ptr i8 0) ∧ h.get i8 = some (.arr [.bool s.t8.Base, .int .i64 s.t8.Set, .int .i64 s.t8.Cost]) ∧ i8 < h.next ∧ t[9]? = some (.int .i64 s.t9) ∧ t[10]? = some (.bool s.t10) ∧ t[13]? = some w13_0 ∧ Gr rViewInfo 6 s.t13 w13_0 h
def P3_3 (s : Fr3) (st : ASt) : Prop := P3_3' s st.tmps st.h
def P3_4' (s : Fr3) (t : List AVal) (h : AHeap) : Prop := ∃ w3_0 w3_1 w3_2 w3_3 w4_0 i8, t.length = 114 ∧ t[3]? = some (.iptr [w3_0, w3_1, w3_2, w3_3]) ∧ Sl rPick s.t3.Picks w3_0 ∧ Sl rS s.t3.Names w3_1 ∧ rTestT s.t3.Where [w3_2] ∧ Sl (rI .i64) s.t3.Sets w3_3 ∧ t[4]? = some (.iptr [.int .i64 s.t4.Rows, .int .i64 s.t4.Head, .int .i64 s.t4.Facts, w4_0]) ∧ Sl rViewInfo s.t4.Views w4_0 ∧ t[5]? = some (.iptr [.int .i64 s.t5.Set, .int .i64 s.t5.State, .int .i64 s.t5.Seq, .int .i64 s.t5.Rows, .int .i64 s.t5.Bytes, .int .i64 s.t5.Readers]) ∧ t[7]? = some (.bool s.t7) ∧ t[8]? = some (.ptr i8 0) ∧ h.get i8 = some (.arr [.bool s.t8.Base, .int .i64 s.t8.Set, .int .i64 s.t8.Cost]) ∧ i8 < h.next ∧ t[9]? = some (.int .i64 s.t9) ∧ t[10]? = some (.bool s.t10)
def P3_4 (s : Fr3) (st : ASt) : Prop := P3_4' s st.tmps st.h
def P3_5' (s : Fr3) (t : List AVal) (h : AHeap) : Prop := ∃ w3_0 w3_1 w3_2 w3_3 w4_0 i8, t.length = 114 ∧ t[3]? = some (.iptr [w3_0, w3_1, w3_2, w3_3]) ∧ Sl rPick s.t3.Picks w3_0 ∧ Sl rS s.t3.Names w3_1 ∧ rTestT s.t3.Where [w3_2] ∧ Sl (rI .i64) s.t3.Sets w3_3 ∧ t[4]? = some (.iptr [.int .i64 s.t4.Rows, .int .i64 s.t4.Head, .int .i64 s.t4.Facts, w4_0]) ∧ Sl rViewInfo s.t4.Views w4_0 ∧ t[5]? = some (.iptr [.int .i64 s.t5.Set, .int .i64 s.t5.State, .int .i64 s.t5.Seq, .int .i64 s.t5.Rows, .int .i64 s.t5.Bytes, .int .i64 s.t5.Readers]) ∧ t[7]? = some (.bool s.t7) ∧ t[8]? = some (.ptr i8 0) ∧ h.get i8 = some (.arr [.bool s.t8.Base, .int .i64 s.t8.Set, .int .i64 s.t8.Cost]) ∧ i8 < h.next ∧ t[9]? = some (.int .i64 s.t9) ∧ t[10]? = some (.bool s.t10) ∧ t[11]? = some (.int .i64 s.t11)
def P3_5 (s : Fr3) (st : ASt) : Prop := P3_5' s st.tmps st.h
def P3_6' (s : Fr3) (t : List AVal) (h : AHeap) : Prop := t.length = 114 ∧ True
def P3_6 (s : Fr3) (st : ASt) : Prop := P3_6' s st.tmps st.h
def P3_7' (s : Fr3) (t : List AVal) (h : AHeap) : Prop := ∃ w3_0 w3_1 w3_2 w3_3 w4_0 i8, t.length = 114 ∧ t[3]? = some (.iptr [w3_0, w3_1, w3_2, w3_3]) ∧ Sl rPick s.t3.Picks w3_0 ∧ Sl rS s.t3.Names w3_1 ∧ rTestT s.t3.Where [w3_2] ∧ Sl (rI .i64) s.t3.Sets w3_3 ∧ t[4]? = some (.iptr [.int .i64 s.t4.Rows, .int .i64 s.t4.Head, .int .i64 s.t4.Facts, w4_0]) ∧ Sl rViewInfo s.t4.Views w4_0 ∧ t[5]? = some (.iptr [.int .i64 s.t5.Set, .int .i64 s.t5.State, .int .i64 s.t5.Seq, .int .i64 s.t5.Rows, .int .i64 s.t5.Bytes, .int .i64 s.t5.Readers]) ∧ t[7]? = some (.bool s.t7) ∧ t[8]? = some (.ptr i8 0) ∧ h.get i8 = some (.arr [.bool s.t8.Base, .int .i64 s.t8.Set, .int .i64 s.t8.Cost]) ∧ i8 < h.next ∧ t[9]? = some (.int .i64 s.t9) ∧ t[10]? = some (.bool s.t10) ∧ t[11]? = some (.int .i64 s.t11) ∧ t[72]? = some (.bool s.t72)
def P3_7 (s : Fr3) (st : ASt) : Prop := P3_7' s st.tmps st.h
def P3_8' (s : Fr3) (t : List AVal) (h : AHeap) : Prop := ∃ w3_0 w3_1 w3_2 w3_3 w4_0 i8 i12, t.length = 114 ∧ t[3]? = some (.iptr [w3_0, w3_1, w3_2, w3_3]) ∧ Sl rPick s.t3.Picks w3_0 ∧ Sl rS s.t3.Names w3_1 ∧ rTestT s.t3.Where [w3_2] ∧ Sl (rI .i64) s.t3.Sets w3_3 ∧ t[4]? = some (.iptr [.int .i64 s.t4.Rows, .int .i64 s.t4.Head, .int .i64 s.t4.Facts, w4_0]) ∧ Sl rViewInfo s.t4.Views w4_0 ∧ t[5]? = some (.iptr [.int .i64 s.t5.Set, .int .i64 s.t5.State, .int .i64 s.t5.Seq, .int .i64 s.t5.Rows, .int .i64 s.t5.Bytes, .int .i64 s.t5.Readers]) ∧ t[7]? = some (.bool s.t7) ∧ t[8]? = some (.ptr i8 0) ∧ h.get i8 = some (.arr [.bool s.t8.Base, .int .i64 s.t8.Set, .int .i64 s.t8.Cost]) ∧ i8 < h.next ∧ t[9]? = some (.int .i64 s.t9) ∧ t[10]? = some (.bool s.t10) ∧ t[11]? = some (.int .i64 s.t11) ∧ t[12]? = some (.ptr i12 0) ∧ h.get i12 = some (.arr [.int .i64 s.t12.Set, .int .i64 s.t12.State, .int .i64 s.t12.Seq, .int .i64 s.t12.Rows, .int .i64 s.t12.Bytes, .int .i64 s.t12.Readers]) ∧ i12 < h.next ∧ i8 ≠ i12
def P3_8 (s : Fr3) (st : ASt) : Prop := P3_8' s st.tmps st.h
def P3_9' (s : Fr3) (t : List AVal) (h : AHeap) : Prop := ∃ w3_0 w3_1 w3_2 w3_3 w4_0 i8, t.length = 114 ∧ t[3]? = some (.iptr [w3_0, w3_1, w3_2, w3_3]) ∧ Sl rPick s.t3.Picks w3_0 ∧ Sl rS s.t3.Names w3_1 ∧ rTestT s.t3.Where [w3_2] ∧ Sl (rI .i64) s.t3.Sets w3_3 ∧ t[4]? = some (.iptr [.int .i64 s.t4.Rows, .int .i64 s.t4.Head, .int .i64 s.t4.Facts, w4_0]) ∧ Sl rViewInfo s.t4.Views w4_0 ∧ t[5]? = some (.iptr [.int .i64 s.t5.Set, .int .i64 s.t5.State, .int .i64 s.t5.Seq, .int .i64 s.t5.Rows, .int .i64 s.t5.Bytes, .int .i64 s.t5.Readers]) ∧ t[7]? = some (.bool s.t7) ∧ t[8]? = some (.ptr i8 0) ∧ h.get i8 = some (.arr [.bool s.t8.Base, .int .i64 s.t8.Set, .int .i64 s.t8.Cost]) ∧ i8 < h.next ∧ t[9]? = some (.int .i64 s.t9) ∧ t[10]? = some (.bool s.t10) ∧ t[11]? = some (.int .i64 s.t11) ∧ t[33]? = some (.bool s.t33)
def P3_9 (s : Fr3) (st : ASt) : Prop := P3_9' s st.tmps st.h
def P3_10' (s : Fr3) (t : List AVal) (h : AHeap) : Prop := ∃ w3_0 w3_1 w3_2 w3_3 w4_0 i8, t.length = 114 ∧ t[3]? = some (.iptr [w3_0, w3_1, w3_2, w3_3]) ∧ Sl rPick s.t3.Picks w3_0 ∧ Sl rS s.t3.Names w3_1 ∧ rTestT s.t3.Where [w3_2] ∧ Sl (rI .i64) s.t3.Sets w3_3 ∧ t[4]? = some (.iptr [.int .i64 s.t4.Rows, .int .i64 s.t4.Head, .int .i64 s.t4.Facts, w4_0]) ∧ Sl rViewInfo s.t4.Views w4_0 ∧ t[5]? = some (.iptr [.int .i64 s.t5.Set, .int .i64 s.t5.State, .int .i64 s.t5.Seq, .int .i64 s.t5.Rows, .int .i64 s.t5.Bytes, .int .i64 s.t5.Readers]) ∧ t[7]? = some (.bool s.t7) ∧ t[8]? = some (.ptr i8 0) ∧ h.get i8 = some (.arr [.bool s.t8.Base, .int .i64 s.t8.Set, .int .i64 s.t8.Cost]) ∧ i8 < h.next
def P3_10 (s : Fr3) (st : ASt) : Prop := P3_10' s st.tmps st.h
def P3_11' (s : Fr3) (t : List AVal) (h : AHeap) : Prop := ∃ w3_0 w3_1 w3_2 w3_3 w4_0, t.length = 114 ∧ t[3]? = some (.iptr [w3_0, w3_1, w3_2, w3_3]) ∧ Sl rPick s.t3.Picks w3_0 ∧ Sl rS s.t3.Names w3_1 ∧ rTestT s.t3.Where [w3_2] ∧ Sl (rI .i64) s.t3.Sets w3_3 ∧ t[4]? = some (.iptr [.int .i64 s.t4.Rows, .int .i64 s.t4.Head, .int .i64 s.t4.Facts, w4_0]) ∧ Sl rViewInfo s.t4.Views w4_0 ∧ t[5]? = some (.iptr [.int .i64 s.t5.Set, .int .i64 s.t5.State, .int .i64 s.t5.Seq, .int .i64 s.t5.Rows, .int .i64 s.t5.Bytes, .int .i64 s.t5.Readers]) ∧ t[7]? = some (.bool s.t7)
def P3_11 (s : Fr3) (st : ASt) : Prop := P3_11' s st.tmps st.h
def P3_12' (s : Fr3) (t : List AVal) (h : AHeap) : Prop := ∃ w3_0 w3_1 w3_2 w3_3 w4_0, t.length = 114 ∧ t[3]? = some (.iptr [w3_0, w3_1, w3_2, w3_3]) ∧ Sl rPick s.t3.Picks w3_0 ∧ Sl rS s.t3.Names w3_1 ∧ rTestT s.t3.Where [w3_2] ∧ Sl (rI .i64) s.t3.Sets w3_3 ∧ t[4]? = some (.iptr [.int .i64 s.t4.Rows, .int .i64 s.t4.Head, .int .i64 s.t4.Facts, w4_0]) ∧ Sl rViewInfo s.t4.Views w4_0 ∧ t[5]? = some (.iptr [.int .i64 s.t5.Set, .int .i64 s.t5.State, .int .i64 s.t5.Seq, .int .i64 s.t5.Rows, .int .i64 s.t5.Bytes, .int .i64 s.t5.Readers])
def P3_12 (s : Fr3) (st : ASt) : Prop := P3_12' s st.tmps st.h
def P3_13' (s : Fr3) (t : List AVal) (h : AHeap) : Prop := ∃ w0_0 w0_1 w0_2 w0_3 w1_0, t.length = 114 ∧ t[0]? = some (.agg [w0_0, w0_1, w0_2, w0_3]) ∧ Sl rPick s.t0.Picks w0_0 ∧ Sl rS s.t0.Names w0_1 ∧ rTestT s.t0.Where [w0_2] ∧ Sl (rI .i64) s.t0.Sets w0_3 ∧ t[1]? = some (.agg [.int .i64 s.t1.Rows, .int .i64 s.t1.Head, .int .i64 s.t1.Facts, w1_0]) ∧ Sl rViewInfo s.t1.Views w1_0 ∧ t[2]? = some (.agg [.int .i64 s.t2.Set, .int .i64 s.t2.State, .int .i64 s.t2.Seq, .int .i64 s.t2.Rows, .int .i64 s.t2.Bytes, .int .i64 s.t2.Readers])
def P3_13 (s : Fr3) (st : ASt) : Prop := P3_13' s st.tmps st.h
noncomputable def m3_0 : Mo Fr3 := fun s => (cond ((s.t7 && (decide (s.t14.Cost ≤ s.t8.Cost))) && ((!s.t10) || s.t8.Base)) ((cond (!s.t8.Base) ((G8 s.t8.Set s.t9).bind fun z6 => some z6) (some false)).bind fun x8 => some (s.t8.Base || x8)) (some false)).bind fun x9 => some (.nrm, { s with t6 := (((s.t7 && (decide (s.t14.Cost ≤ s.t8.Cost))) && ((!s.t10) || s.t8.Base)) && x9) })
noncomputable def m3_1 : Mo Fr3 := fun s => (G6 s.t3 s.t13 s.t4.Head s.t4.Facts).bind fun z23 => some (.nrm, { s with t14 := z23 })
noncomputable def m3_2 : Mo Fr3 := fun s => (appT 48 s.t13 s.t4.Views).bind fun z59 => some (.nrm, { s with t13 := z59 })
noncomputable def m3_3 : Mo Fr3 := fun s => (appT 48 s.t13 [s.t5]).bind fun z71 => some (.nrm, { s with t13 := z71 })
noncomputable def m3_4 : Mo Fr3 := fun s => some (.nrm, { s with t13 := [] })
noncomputable def m3_5 : Mo Fr3 := fun s => some (.nrm, { s with t11 := IntKind.wrap .i64 (s.t11 + 1) })
noncomputable def m3_6 : Mo Fr3 := fun s => some (.nrm, { s with t6 := false })
noncomputable def m3_7 : Mo Fr3 := fun s => (cond (((!s.t10) && (s.t12.State == 2)) && (s.t12.Seq == s.t4.Head)) ((G8 s.t12.Set s.t9).bind fun z86 => some z86) (some false)).bind fun x88 => some (.nrm, { s with t72 := (((((!s.t10) && (s.t12.State == 2)) && (s.t12.Seq == s.t4.Head)) && x88) && ((decide (s.t12.Rows < s.t8.Cost)) && (decide (s.t8.Cost > 0)))) })
noncomputable def m3_8 : Mo Fr3 := fun s => (at? s.t4.Views s.t11).bind fun y105 => some (.nrm, { s with t12 := y105 })
noncomputable def m3_9 : Mo Fr3 := fun s => some (.nrm, { s with t33 := decide (s.t11 < (s.t4.Views.length : Int)) })
noncomputable def L3_10 : Mo Fr3 := seqM (seqM (m3_9) (condM (fun s => s.t33) (skipM) (exitM 0))) (seqM (blockM 1 (seqM (m3_8) (seqM (m3_7) (condM (fun s => s.t72) (seqM (m3_6) (retM)) (skipM))))) (m3_5))
noncomputable def m3_11 : Mo Fr3 := fun s => some (.nrm, { s with t11 := 0 })
noncomputable def m3_12 : Mo Fr3 := fun s => (G7 s.t3).bind fun z139 => some (.nrm, { s with t9 := z139.1, t10 := z139.2 })
noncomputable def m3_13 : Mo Fr3 := fun s => (G6 s.t3 s.t4.Views s.t4.Head s.t4.Facts).bind fun z143 => some (.nrm, { s with t8 := z143 })
noncomputable def m3_14 : Mo Fr3 := fun s => (S5 ).bind fun z165 => some (.nrm, { s with t7 := z165 })
noncomputable def m3_15 : Mo Fr3 := fun s => some (.nrm, { s with t3 := s.t0, t4 := s.t1, t5 := s.t2 })
noncomputable def M3 : Mo Fr3 := seqM (m3_15) (seqM (m3_14) (seqM (m3_13) (seqM (m3_12) (seqM (seqM (m3_11) (blockM 0 (loopM (L3_10)))) (seqM (m3_4) (seqM (m3_3) (seqM (m3_2) (seqM (m3_1) (seqM (m3_0) (retM))))))))))
def Spec3 (f : Bound → Offer → ViewInfo → Option Bool) : Prop := ∀ (x0 : Bound) (x1 : Offer) (x2 : ViewInfo) (vx0_0 : AVal) (_ : Sl rPick x0.Picks vx0_0) (vx0_1 : AVal) (_ : Sl rS x0.Names vx0_1) (vx0_2 : AVal) (_ : rTestT x0.Where [vx0_2]) (vx0_3 : AVal) (_ : Sl (rI .i64) x0.Sets vx0_3) (vx1_0 : AVal) (_ : Sl rViewInfo x1.Views vx1_0) (r : Bool), f x0 x1 x2 = some r → ∀ h, run Cl 3 [.agg [vx0_0, vx0_1, vx0_2, vx0_3], .agg [.int .i64 x1.Rows, .int .i64 x1.Head, .int .i64 x1.Facts, vx1_0], .agg [.int .i64 x2.Set, .int .i64 x2.State, .int .i64 x2.Seq, .int .i64 x2.Rows, .int .i64 x2.Bytes, .int .i64 x2.Readers]] h = some (.ret (.bool r), h)
theorem Spec3_of {f g : Bound → Offer → ViewInfo → Option Bool} (hg : Spec3 g) (h : ∀ x0 x1 x2 r, f x0 x1 x2 = some r → g x0 x1 x2 = some r) : Spec3 f := fun x0 x1 x2 v0_ w0_ v1_ w1_ v2_ w2_ v3_ w3_ v4_ w4_ r hr => hg x0 x1 x2 v0_ w0_ v1_ w1_ v2_ w2_ v3_ w3_ v4_ w4_ r (h x0 x1 x2 r hr)
set_option maxHeartbeats 8000000 in
theorem R3_0 (pe : Nat → Fr3 → ASt → Prop) (pr : Fr3 → ASt → Prop) : Ref Cl P3_0 (Cat [true, true, true, true, true, true, true, true, true, false] (bodyOf Tryz.f3)) m3_0 (post P3_1 pe pr) := by
  rintro s ⟨t, h⟩ hp x s' hm
  have hp : P3_0' s t h := hp
  obtain ⟨i8, i14, hl, a7, a8, g8, l8, a9, a10, a14, g14, l14, ne8_14⟩ := hp
  unfold m3_0 at hm
  cases hb10 : s.t7 with
  | true =>
    all_goals (
      try simp only [hb10, cond_true, cond_false, Option.bind_some, Option.bind_assoc, Bool.not_true, Bool.not_false, Bool.true_and, Bool.false_and, Bool.and_true, Bool.and_false, Bool.true_or, Bool.false_or] at hm
      have k11 : loadA h false 1 (.ptr i14 2) = some (.int .i64 s.t14.Cost) := by rw [Heap.load_gen g14 (Nat.le_of_ble_eq_true rfl)]; first | rfl | exact ofc1 _ _ _
      have k12 : loadA h false 1 (.ptr i8 2) = some (.int .i64 s.t8.Cost) := by rw [Heap.load_gen g8 (Nat.le_of_ble_eq_true rfl)]; first | rfl | exact ofc1 _ _ _
      cases hb13 : decide (s.t14.Cost ≤ s.t8.Cost) with
      | true =>
        all_goals (
          try simp only [hb13, cond_true, cond_false, Option.bind_some, Option.bind_assoc, Bool.not_true, Bool.not_false, Bool.true_and, Bool.false_and, Bool.and_true, Bool.and_false, Bool.true_or, Bool.false_or] at hm
          cases hb14 : (!s.t10) with
          | true =>
            all_goals (
              try simp only [hb14, cond_true, cond_false, Option.bind_some, Option.bind_assoc, Bool.not_true, Bool.not_false, Bool.true_and, Bool.false_and, Bool.and_true, Bool.and_false, Bool.true_or, Bool.false_or] at hm
              have k15 : loadA h false 1 (.ptr i8 0) = some (.bool s.t8.Base) := by rw [Heap.load_gen g8 (Nat.le_of_ble_eq_true rfl)]; first | rfl | exact ofc1 _ _ _
              cases hb16 : s.t8.Base with
              | true =>
                all_goals (
                  try simp only [hb16, cond_true, cond_false, Option.bind_some, Option.bind_assoc, Bool.not_true, Bool.not_false, Bool.true_and, Bool.false_and, Bool.and_true, Bool.and_false, Bool.true_or, Bool.false_or] at hm
                  cases hm
                  refine ⟨⟨_, _⟩, by
                      simp only [bodyOf, Tryz.f3, Cat, Bool.false_eq_true, e_seq, e_region, e_cond, e_block, ex_skip, ex_exit, ex_ret, o_cons, xops_nil, k_want_none, k_want_false, k_val, k_pan, k_call, k_ret, k_seq, k_seq_exit, k_seq_ret, k_true, k_false, k_block, k_block_exit, k_block_ret, k_loop, k_loop_exit, k_loop_ret, awanted, aoper, evalO, put, Option.getD_some, List.getElem?_set, acallOp, abuiltin, List.map_cons, List.map_nil, Nat.reduceEqDiff, Nat.reduceLT, List.length_set, Option.map_some, Option.bind_some, Option.bind_eq_bind, add_i, sub_i, mul_i, eql_i, neq_i, lss_i, leq_i, gtr_i, geq_i, ofV, ofCell, ↓reduceIte, List.cons_append, List.nil_append, List.append_nil, List.getElem?_toArray, List.getElem?_cons_succ, List.getElem?_cons_zero, e_draw, g_nil, g_cons, g_want, g_skip, g_val, g_call, g_ret, Option.map_none, hl, a7, a8, a9, a10, a14, CP, bq1, bq2, bq3, bq4, ex_tup, TyC.fa35_2, dropCells, Nat.zero_add, Nat.reduceAdd, k11, TyC.ld3, k12, aun_not, TyC.fa35_0, k15, TyC.ld4, hb10, hb13, hb14, hb16]
                      exact rfl, ?_⟩
                  show P3_1 _ _
                  exact ⟨by simp [hl], by simp [hl, hb10, hb13, hb14, hb16]⟩)
              | false =>
                all_goals (
                  try simp only [hb16, cond_true, cond_false, Option.bind_some, Option.bind_assoc, Bool.not_true, Bool.not_false, Bool.true_and, Bool.false_and, Bool.and_true, Bool.and_false, Bool.true_or, Bool.false_or] at hm
                  have k17 : loadA h false 1 (.ptr i8 1) = some (.int .i64 s.t8.Set) := by rw [Heap.load_gen g8 (Nat.le_of_ble_eq_true rfl)]; first | rfl | exact ofc1 _ _ _
                  obtain ⟨z18, hz18, hm⟩ := Option.bind_eq_some_iff.1 hm
                  have iu19 := G8_spec s.t8.Set s.t9  _ hz18
                  try simp only [cond_true, cond_false, Option.bind_some, Option.bind_assoc, Bool.not_true, Bool.not_false, Bool.true_and, Bool.false_and, Bool.and_true, Bool.and_false, Bool.true_or, Bool.false_or] at hm
                  cases hm
                  refine ⟨⟨_, _⟩, by
                      simp only [bodyOf, Tryz.f3, Cat, Bool.false_eq_true, e_seq, e_region, e_cond, e_block, ex_skip, ex_exit, ex_ret, o_cons, xops_nil, k_want_none, k_want_false, k_val, k_pan, k_call, k_ret, k_seq, k_seq_exit, k_seq_ret, k_true, k_false, k_block, k_block_exit, k_block_ret, k_loop, k_loop_exit, k_loop_ret, awanted, aoper, evalO, put, Option.getD_some, List.getElem?_set, acallOp, abuiltin, List.map_cons, List.map_nil, Nat.reduceEqDiff, Nat.reduceLT, List.length_set, Option.map_some, Option.bind_some, Option.bind_eq_bind, add_i, sub_i, mul_i, eql_i, neq_i, lss_i, leq_i, gtr_i, geq_i, ofV, ofCell, ↓reduceIte, List.cons_append, List.nil_append, List.append_nil, List.getElem?_toArray, List.getElem?_cons_succ, List.getElem?_cons_zero, e_draw, g_nil, g_cons, g_want, g_skip, g_val, g_call, g_ret, Option.map_none, hl, a7, a8, a9, a10, a14, CP, bq1, bq2, bq3, bq4, ex_tup, TyC.fa35_2, dropCells, Nat.zero_add, Nat.reduceAdd, k11, TyC.ld3, k12, aun_not, TyC.fa35_0, k15, TyC.ld4, TyC.fa35_1, k17, iu19, hb10, hb13, hb14, hb16]
                      exact rfl, ?_⟩
                  show P3_1 _ _
                  exact ⟨by simp [hl], by simp [hl, hb10, hb13, hb14, hb16]⟩))
          | false =>
            all_goals (
              try simp only [hb14, cond_true, cond_false, Option.bind_some, Option.bind_assoc, Bool.not_true, Bool.not_false, Bool.true_and, Bool.false_and, Bool.and_true, Bool.and_false, Bool.true_or, Bool.false_or] at hm
              have k20 : loadA h false 1 (.ptr i8 0) = some (.bool s.t8.Base) := by rw [Heap.load_gen g8 (Nat.le_of_ble_eq_true rfl)]; first | rfl | exact ofc1 _ _ _
              cases hb21 : s.t8.Base with
              | true =>
                all_goals (
                  try simp only [hb21, cond_true, cond_false, Option.bind_some, Option.bind_assoc, Bool.not_true, Bool.not_false, Bool.true_and, Bool.false_and, Bool.and_true, Bool.and_false, Bool.true_or, Bool.false_or] at hm
                  have k22 : loadA h false 1 (.ptr i8 0) = some (.bool true) := by rw [Heap.load_gen g8 (Nat.le_of_ble_eq_true rfl)]; first | rfl | exact ofc1 _ _ _ | (simp only [List.drop_zero, List.drop_succ_cons, *]; exact ofc1 _ _ _)
                  cases hm
                  refine ⟨⟨_, _⟩, by
                      simp only [bodyOf, Tryz.f3, Cat, Bool.false_eq_true, e_seq, e_region, e_cond, e_block, ex_skip, ex_exit, ex_ret, o_cons, xops_nil, k_want_none, k_want_false, k_val, k_pan, k_call, k_ret, k_seq, k_seq_exit, k_seq_ret, k_true, k_false, k_block, k_block_exit, k_block_ret, k_loop, k_loop_exit, k_loop_ret, awanted, aoper, evalO, put, Option.getD_some, List.getElem?_set, acallOp, abuiltin, List.map_cons, List.map_nil, Nat.reduceEqDiff, Nat.reduceLT, List.length_set, Option.map_some, Option.bind_some, Option.bind_eq_bind, add_i, sub_i, mul_i, eql_i, neq_i, lss_i, leq_i, gtr_i, geq_i, ofV, ofCell, ↓reduceIte, List.cons_append, List.nil_append, List.append_nil, List.getElem?_toArray, List.getElem?_cons_succ, List.getElem?_cons_zero, e_draw, g_nil, g_cons, g_want, g_skip, g_val, g_call, g_ret, Option.map_none, hl, a7, a8, a9, a10, a14, CP, bq1, bq2, bq3, bq4, ex_tup, TyC.fa35_2, dropCells, Nat.zero_add, Nat.reduceAdd, k11, TyC.ld3, k12, aun_not, TyC.fa35_0, k20, TyC.ld4, k22, hb10, hb13, hb14, hb21]
                      exact rfl, ?_⟩
                  show P3_1 _ _
                  exact ⟨by simp [hl], by simp [hl, hb10, hb13, hb14, hb21]⟩)
              | false =>
                all_goals (
                  try simp only [hb21, cond_true, cond_false, Option.bind_some, Option.bind_assoc, Bool.not_true, Bool.not_false, Bool.true_and, Bool.false_and, Bool.and_true, Bool.and_false, Bool.true_or, Bool.false_or] at hm
                  cases hm
                  refine ⟨⟨_, _⟩, by
                      simp only [bodyOf, Tryz.f3, Cat, Bool.false_eq_true, e_seq, e_region, e_cond, e_block, ex_skip, ex_exit, ex_ret, o_cons, xops_nil, k_want_none, k_want_false, k_val, k_pan, k_call, k_ret, k_seq, k_seq_exit, k_seq_ret, k_true, k_false, k_block, k_block_exit, k_block_ret, k_loop, k_loop_exit, k_loop_ret, awanted, aoper, evalO, put, Option.getD_some, List.getElem?_set, acallOp, abuiltin, List.map_cons, List.map_nil, Nat.reduceEqDiff, Nat.reduceLT, List.length_set, Option.map_some, Option.bind_some, Option.bind_eq_bind, add_i, sub_i, mul_i, eql_i, neq_i, lss_i, leq_i, gtr_i, geq_i, ofV, ofCell, ↓reduceIte, List.cons_append, List.nil_append, List.append_nil, List.getElem?_toArray, List.getElem?_cons_succ, List.getElem?_cons_zero, e_draw, g_nil, g_cons, g_want, g_skip, g_val, g_call, g_ret, Option.map_none, hl, a7, a8, a9, a10, a14, CP, bq1, bq2, bq3, bq4, ex_tup, TyC.fa35_2, dropCells, Nat.zero_add, Nat.reduceAdd, k11, TyC.ld3, k12, aun_not, TyC.fa35_0, k20, TyC.ld4, hb10, hb13, hb14, hb21]
                      exact rfl, ?_⟩
                  show P3_1 _ _
                  exact ⟨by simp [hl], by simp [hl, hb10, hb13, hb14, hb21]⟩)))
      | false =>
        all_goals (
          try simp only [hb13, cond_true, cond_false, Option.bind_some, Option.bind_assoc, Bool.not_true, Bool.not_false, Bool.true_and, Bool.false_and, Bool.and_true, Bool.and_false, Bool.true_or, Bool.false_or] at hm
          cases hm
          refine ⟨⟨_, _⟩, by
              simp only [bodyOf, Tryz.f3, Cat, Bool.false_eq_true, e_seq, e_region, e_cond, e_block, ex_skip, ex_exit, ex_ret, o_cons, xops_nil, k_want_none, k_want_false, k_val, k_pan, k_call, k_ret, k_seq, k_seq_exit, k_seq_ret, k_true, k_false, k_block, k_block_exit, k_block_ret, k_loop, k_loop_exit, k_loop_ret, awanted, aoper, evalO, put, Option.getD_some, List.getElem?_set, acallOp, abuiltin, List.map_cons, List.map_nil, Nat.reduceEqDiff, Nat.reduceLT, List.length_set, Option.map_some, Option.bind_some, Option.bind_eq_bind, add_i, sub_i, mul_i, eql_i, neq_i, lss_i, leq_i, gtr_i, geq_i, ofV, ofCell, ↓reduceIte, List.cons_append, List.nil_append, List.append_nil, List.getElem?_toArray, List.getElem?_cons_succ, List.getElem?_cons_zero, e_draw, g_nil, g_cons, g_want, g_skip, g_val, g_call, g_ret, Option.map_none, hl, a7, a8, a9, a10, a14, CP, bq1, bq2, bq3, bq4, ex_tup, TyC.fa35_2, dropCells, Nat.zero_add, Nat.reduceAdd, k11, TyC.ld3, k12, hb10, hb13]
              exact rfl, ?_⟩
          show P3_1 _ _
          exact ⟨by simp [hl], by simp [hl, hb10, hb13]⟩))
  | false =>
    all_goals (
      try simp only [hb10, cond_true, cond_false, Option.bind_some, Option.bind_assoc, Bool.not_true, Bool.not_false, Bool.true_and, Bool.false_and, Bool.and_true, Bool.and_false, Bool.true_or, Bool.false_or] at hm
      cases hm
      refine ⟨⟨_, _⟩, by
          simp only [bodyOf, Tryz.f3, Cat, Bool.false_eq_true, e_seq, e_region, e_cond, e_block, ex_skip, ex_exit, ex_ret, o_cons, xops_nil, k_want_none, k_want_false, k_val, k_pan, k_call, k_ret, k_seq, k_seq_exit, k_seq_ret, k_true, k_false, k_block, k_block_exit, k_block_ret, k_loop, k_loop_exit, k_loop_ret, awanted, aoper, evalO, put, Option.getD_some, List.getElem?_set, acallOp, abuiltin, List.map_cons, List.map_nil, Nat.reduceEqDiff, Nat.reduceLT, List.length_set, Option.map_some, Option.bind_some, Option.bind_eq_bind, add_i, sub_i, mul_i, eql_i, neq_i, lss_i, leq_i, gtr_i, geq_i, ofV, ofCell, ↓reduceIte, List.cons_append, List.nil_append, List.append_nil, List.getElem?_toArray, List.getElem?_cons_succ, List.getElem?_cons_zero, e_draw, g_nil, g_cons, g_want, g_skip, g_val, g_call, g_ret, Option.map_none, hl, a7, a8, a9, a10, a14, CP, bq1, bq2, bq3, bq4, ex_tup, hb10]
          exact rfl, ?_⟩
      show P3_1 _ _
      exact ⟨by simp [hl], by simp [hl, hb10]⟩)
theorem R3_1 (pe : Nat → Fr3 → ASt → Prop) (pr : Fr3 → ASt → Prop) : Ref Cl P3_2 (Cat [true, true, true, true, true, true, true, true, false] (bodyOf Tryz.f3)) m3_1 (post P3_0 pe pr) := by
  rintro s ⟨t, h⟩ hp x s' hm
  have hp : P3_2' s t h := hp
  obtain ⟨w3_0, w3_1, w3_2, w3_3, w4_0, i8, w13_0, hl, a3, r3_0, r3_1, r3_2, r3_3, a4, r4_0, a7, a8, g8, l8, a9, a10, a13, r13_0⟩ := hp
  unfold m3_1 at hm
  obtain ⟨z41, hz41, hm⟩ := Option.bind_eq_some_iff.1 hm
  have iu42 := G6_spec s.t3 s.t13 s.t4.Head s.t4.Facts _ r3_0 _ r3_1 _ r3_2 _ r3_3 _ r13_0.1 _ hz41
  obtain ⟨H43, eH43⟩ : ∃ x : AHeap, x = h.new (.arr [.bool false, .int .i64 0, .int .i64 0]) := ⟨_, rfl⟩
  obtain ⟨id44, eid44⟩ : ∃ x : Nat, x = h.next := ⟨_, rfl⟩
  have k45 : H43.get i8 = some (.arr [.bool s.t8.Base, .int .i64 s.t8.Set, .int .i64 s.t8.Cost]) := by rw [eH43, Heap.get_new_lt l8]; exact g8
  have k46 : i8 < H43.next := by rw [eH43, Heap.new_next]; exact Nat.lt_succ_of_lt l8
  have k47 : Gr rViewInfo 6 s.t13 w13_0 H43 := by rw [eH43]; exact Gr.keep r13_0 (Nat.le_succ _) (fun i hi => Heap.get_new_lt (Gr.lt r13_0 i hi))
  have k48 : H43.get id44 = some (.arr [.bool false, .int .i64 0, .int .i64 0]) := by rw [eH43, eid44]; exact Heap.get_new_eq
  have k49 : id44 < H43.next := by rw [eH43, eid44, Heap.new_next]; exact Nat.lt_succ_self _
  have k50 : i8 ≠ id44 := by rw [eid44]; exact Nat.ne_of_lt l8
  have k51 : abox h (.agg [.bool false, .int .i64 0, .int .i64 0]) = some (.ptr id44 0, H43) := by simp only [abox, eH43, eid44, bx_i, bx_b, bx_s, bx_a, bx_nl, bx_np, bx_ip, bx_ls, cl_i, cl_b, cl_s, cl_a, cl_nl, cl_np, cl_ip, cl_ls, List.all_cons, List.all_nil, Bool.and_self, Bool.and_true, c_i, c_b, c_s, c_nl, c_np, c_ip, c_ls, if_true]
  obtain ⟨H52, eH52⟩ : ∃ x : AHeap, x = H43.set id44 (some (.arr [.bool z41.Base, .int .i64 z41.Set, .int .i64 z41.Cost])) := ⟨_, rfl⟩
  have k53 : storeA H43 3 (.ptr id44 0) (.agg [.bool z41.Base, .int .i64 z41.Set, .int .i64 z41.Cost]) = some H52 := by rw [eH52]; exact Heap.store_gen k48 (show (.agg [.bool z41.Base, .int .i64 z41.Set, .int .i64 z41.Cost] : AVal).cells = [.bool z41.Base, .int .i64 z41.Set, .int .i64 z41.Cost] by simp only [cl_i, cl_b, cl_s, cl_a, cl_nl, cl_np, cl_ip, cl_ls]) rfl (by simp only [List.all_cons, List.all_nil, Bool.and_self, Bool.and_true, c_i, c_b, c_s, c_nl, c_np, c_ip, c_ls]) (Nat.le_of_ble_eq_true rfl) rfl
  have k54 : H52.get i8 = some (.arr [.bool s.t8.Base, .int .i64 s.t8.Set, .int .i64 s.t8.Cost]) := by rw [eH52, Heap.get_set_ne k50]; exact k45
  have k55 : i8 < H52.next := by rw [eH52]; exact k46
  have k56 : Gr rViewInfo 6 s.t13 w13_0 H52 := by rw [eH52]; exact Gr.keep k47 (Nat.le_refl _) (fun i hi => Heap.get_set_ne (Gr.ne_arr k47 k48 i hi))
  have k57 : H52.get id44 = some (.arr [.bool z41.Base, .int .i64 z41.Set, .int .i64 z41.Cost]) := by rw [eH52]; exact Heap.get_set_eq
  have k58 : id44 < H52.next := by rw [eH52]; exact k49
  cases hm
  refine ⟨⟨_, _⟩, by
      simp only [bodyOf, Tryz.f3, Cat, Bool.false_eq_true, e_seq, e_region, e_cond, e_block, ex_skip, ex_exit, ex_ret, o_cons, xops_nil, k_want_none, k_want_false, k_val, k_pan, k_call, k_ret, k_seq, k_seq_exit, k_seq_ret, k_true, k_false, k_block, k_block_exit, k_block_ret, k_loop, k_loop_exit, k_loop_ret, awanted, aoper, evalO, put, Option.getD_some, List.getElem?_set, acallOp, abuiltin, List.map_cons, List.map_nil, Nat.reduceEqDiff, Nat.reduceLT, List.length_set, Option.map_some, Option.bind_some, Option.bind_eq_bind, add_i, sub_i, mul_i, eql_i, neq_i, lss_i, leq_i, gtr_i, geq_i, ofV, ofCell, ↓reduceIte, List.cons_append, List.nil_append, List.append_nil, List.getElem?_toArray, List.getElem?_cons_succ, List.getElem?_cons_zero, e_draw, g_nil, g_cons, g_want, g_skip, g_val, g_call, g_ret, Option.map_none, hl, a3, a4, a7, a8, a9, a10, a13, CP, bq1, bq2, bq3, bq4, ex_tup, TyC.ld27, ld_ip, ofc4, List.drop_succ_cons, List.drop_zero, List.length_cons, List.length_nil, TyC.fa30_1, dropCells, List.drop_succ_cons, List.drop_zero, TyC.ld3, ofc1, List.drop_succ_cons, List.drop_zero, TyC.fa30_2, iu42, TyC.ze35, TyC.own_law_go_60, k51, k53, TyC.st35]
      exact rfl, ?_⟩
  show P3_0 _ _
  exact ⟨i8, id44, by simp [hl], by simp [a7], by simp [a8], k54, k55, by simp [a9], by simp [a10], by simp [hl], k57, k58, k50⟩
theorem R3_2 (pe : Nat → Fr3 → ASt → Prop) (pr : Fr3 → ASt → Prop) : Ref Cl P3_2 (Cat [true, true, true, true, true, true, true, false] (bodyOf Tryz.f3)) m3_2 (post P3_2 pe pr) := by
  rintro s ⟨t, h⟩ hp x s' hm
  have hp : P3_2' s t h := hp
  obtain ⟨w3_0, w3_1, w3_2, w3_3, w4_0, i8, w13_0, hl, a3, r3_0, r3_1, r3_2, r3_3, a4, r4_0, a7, a8, g8, l8, a9, a10, a13, r13_0⟩ := hp
  unfold m3_2 at hm
  obtain ⟨z63, hz63, hm⟩ := Option.bind_eq_some_iff.1 hm
  obtain ⟨vu64, hu64, pu64, gu64, nu64, ku64, fu64⟩ := Gr.app rViewInfo_p r13_0 r4_0 hz63
  have k65 : hu64.get i8 = some (.arr [.bool s.t8.Base, .int .i64 s.t8.Set, .int .i64 s.t8.Cost]) := (ku64 _ l8 (Gr.not_acc r13_0 g8)).trans g8
  have k66 : i8 < hu64.next := Nat.lt_of_lt_of_le l8 nu64
  cases hm
  refine ⟨⟨_, _⟩, by
      simp only [bodyOf, Tryz.f3, Cat, Bool.false_eq_true, e_seq, e_region, e_cond, e_block, ex_skip, ex_exit, ex_ret, o_cons, xops_nil, k_want_none, k_want_false, k_val, k_pan, k_call, k_ret, k_seq, k_seq_exit, k_seq_ret, k_true, k_false, k_block, k_block_exit, k_block_ret, k_loop, k_loop_exit, k_loop_ret, awanted, aoper, evalO, put, Option.getD_some, List.getElem?_set, acallOp, abuiltin, List.map_cons, List.map_nil, Nat.reduceEqDiff, Nat.reduceLT, List.length_set, Option.map_some, Option.bind_some, Option.bind_eq_bind, add_i, sub_i, mul_i, eql_i, neq_i, lss_i, leq_i, gtr_i, geq_i, ofV, ofCell, ↓reduceIte, List.cons_append, List.nil_append, List.append_nil, List.getElem?_toArray, List.getElem?_cons_succ, List.getElem?_cons_zero, e_draw, g_nil, g_cons, g_want, g_skip, g_val, g_call, g_ret, Option.map_none, hl, a3, a4, a7, a8, a9, a10, a13, CP, bq1, bq2, bq3, bq4, ex_tup, TyC.fa30_3, dropCells, List.drop_succ_cons, List.drop_zero, TyC.ld28, ld_ip, ofc1, List.drop_succ_cons, List.drop_zero, pu64, TyC.ap28, TyC.own_law_go_59]
      exact rfl, ?_⟩
  show P3_2 _ _
  exact ⟨w3_0, w3_1, w3_2, w3_3, w4_0, i8, vu64, by simp [hl], by simp [a3], r3_0, r3_1, r3_2, r3_3, by simp [a4], r4_0, by simp [a7], by simp [a8], k65, k66, by simp [a9], by simp [a10], by simp [hl], gu64⟩
theorem R3_3 (pe : Nat → Fr3 → ASt → Prop) (pr : Fr3 → ASt → Prop) : Ref Cl P3_3 (Cat [true, true, true, true, true, true, false] (bodyOf Tryz.f3)) m3_3 (post P3_2 pe pr) := by
  rintro s ⟨t, h⟩ hp x s' hm
  have hp : P3_3' s t h := hp
  obtain ⟨w3_0, w3_1, w3_2, w3_3, w4_0, i8, w13_0, hl, a3, r3_0, r3_1, r3_2, r3_3, a4, r4_0, a5, a7, a8, g8, l8, a9, a10, a13, r13_0⟩ := hp
  unfold m3_3 at hm
  have bd75 : abuildSlice Tryz.prog 28 1 [(0, .agg [.int .i64 s.t5.Set, .int .i64 s.t5.State, .int .i64 s.t5.Seq, .int .i64 s.t5.Rows, .int .i64 s.t5.Bytes, .int .i64 s.t5.Readers])] = some ([.int .i64 s.t5.Set, .int .i64 s.t5.State, .int .i64 s.t5.Seq, .int .i64 s.t5.Rows, .int .i64 s.t5.Bytes, .int .i64 s.t5.Readers], 6) := by (obtain ⟨ii, hi1, hi2, _⟩ := TyC.in32; simp only [abuildSlice, TyC.un28, hi1, hi2, TyC.ze32, zerosA, fillA, c_i, c_b, c_s, c_nl, c_np, c_ip, c_ls, bx_i, bx_b, bx_s, bx_a, bx_nl, bx_np, bx_ip, bx_ls, cl_i, cl_b, cl_s, cl_a, cl_nl, cl_np, cl_ip, cl_ls, List.all_cons, List.all_nil, List.length_cons, List.length_nil, Bool.and_self, Bool.and_true, setRange, List.set_cons_zero, List.set_cons_succ, Option.bind_eq_bind, Option.bind_some, Nat.zero_add, Nat.reduceAdd, Nat.reduceMul, and_self, Nat.reduceLeDiff, Nat.reducePow, if_true, and_true, true_and, Nat.le_refl, Nat.zero_le, Nat.zero_mul, Nat.one_mul, List.cons_append, List.nil_append])
  have bs76 : Els rViewInfo [s.t5] [[.int .i64 s.t5.Set, .int .i64 s.t5.State, .int .i64 s.t5.Seq, .int .i64 s.t5.Rows, .int .i64 s.t5.Bytes, .int .i64 s.t5.Readers]] := (Els.cons rfl Els.nil)
  have sl77 : Sl rViewInfo [s.t5] (.lst [.int .i64 s.t5.Set, .int .i64 s.t5.State, .int .i64 s.t5.Seq, .int .i64 s.t5.Rows, .int .i64 s.t5.Bytes, .int .i64 s.t5.Readers] 1 .full) := Sl.lst .full bs76
  have gr78 : ∀ h, Gr rViewInfo 6 [s.t5] (.lst [.int .i64 s.t5.Set, .int .i64 s.t5.State, .int .i64 s.t5.Seq, .int .i64 s.t5.Rows, .int .i64 s.t5.Bytes, .int .i64 s.t5.Readers] 1 .full) h := fun h => Gr.full bs76 h
  obtain ⟨z79, hz79, hm⟩ := Option.bind_eq_some_iff.1 hm
  obtain ⟨vu80, hu80, pu80, gu80, nu80, ku80, fu80⟩ := Gr.app rViewInfo_p r13_0 sl77 hz79
  have k81 : hu80.get i8 = some (.arr [.bool s.t8.Base, .int .i64 s.t8.Set, .int .i64 s.t8.Cost]) := (ku80 _ l8 (Gr.not_acc r13_0 g8)).trans g8
  have k82 : i8 < hu80.next := Nat.lt_of_lt_of_le l8 nu80
  cases hm
  refine ⟨⟨_, _⟩, by
      simp only [bodyOf, Tryz.f3, Cat, Bool.false_eq_true, e_seq, e_region, e_cond, e_block, ex_skip, ex_exit, ex_ret, o_cons, xops_nil, k_want_none, k_want_false, k_val, k_pan, k_call, k_ret, k_seq, k_seq_exit, k_seq_ret, k_true, k_false, k_block, k_block_exit, k_block_ret, k_loop, k_loop_exit, k_loop_ret, awanted, aoper, evalO, put, Option.getD_some, List.getElem?_set, acallOp, abuiltin, List.map_cons, List.map_nil, Nat.reduceEqDiff, Nat.reduceLT, List.length_set, Option.map_some, Option.bind_some, Option.bind_eq_bind, add_i, sub_i, mul_i, eql_i, neq_i, lss_i, leq_i, gtr_i, geq_i, ofV, ofCell, ↓reduceIte, List.cons_append, List.nil_append, List.append_nil, List.getElem?_toArray, List.getElem?_cons_succ, List.getElem?_cons_zero, e_draw, g_nil, g_cons, g_want, g_skip, g_val, g_call, g_ret, Option.map_none, hl, a3, a4, a5, a7, a8, a9, a10, a13, CP, bq1, bq2, bq3, bq4, ex_tup, TyC.ld32, ld_ip, ofc6, List.drop_succ_cons, List.drop_zero, List.length_cons, List.length_nil, bd75, TyC.own_law_go_58, pu80, TyC.ap28]
      exact rfl, ?_⟩
  show P3_2 _ _
  exact ⟨w3_0, w3_1, w3_2, w3_3, w4_0, i8, vu80, by simp [hl], by simp [a3], r3_0, r3_1, r3_2, r3_3, by simp [a4], r4_0, by simp [a7], by simp [a8], k81, k82, by simp [a9], by simp [a10], by simp [hl], gu80⟩
theorem R3_4 (pe : Nat → Fr3 → ASt → Prop) (pr : Fr3 → ASt → Prop) : Ref Cl P3_4 (Cat [true, true, true, true, true, false] (bodyOf Tryz.f3)) m3_4 (post P3_3 pe pr) := by
  rintro s ⟨t, h⟩ hp x s' hm
  have hp : P3_4' s t h := hp
  obtain ⟨w3_0, w3_1, w3_2, w3_3, w4_0, i8, hl, a3, r3_0, r3_1, r3_2, r3_3, a4, r4_0, a5, a7, a8, g8, l8, a9, a10⟩ := hp
  unfold m3_4 at hm
  cases hm
  refine ⟨⟨_, _⟩, by
      simp only [bodyOf, Tryz.f3, Cat, Bool.false_eq_true, e_seq, e_region, e_cond, e_block, ex_skip, ex_exit, ex_ret, o_cons, xops_nil, k_want_none, k_want_false, k_val, k_pan, k_call, k_ret, k_seq, k_seq_exit, k_seq_ret, k_true, k_false, k_block, k_block_exit, k_block_ret, k_loop, k_loop_exit, k_loop_ret, awanted, aoper, evalO, put, Option.getD_some, List.getElem?_set, acallOp, abuiltin, List.map_cons, List.map_nil, Nat.reduceEqDiff, Nat.reduceLT, List.length_set, Option.map_some, Option.bind_some, Option.bind_eq_bind, add_i, sub_i, mul_i, eql_i, neq_i, lss_i, leq_i, gtr_i, geq_i, ofV, ofCell, ↓reduceIte, List.cons_append, List.nil_append, List.append_nil, List.getElem?_toArray, List.getElem?_cons_succ, List.getElem?_cons_zero, e_draw, g_nil, g_cons, g_want, g_skip, g_val, g_call, g_ret, Option.map_none, hl, a3, a4, a5, a7, a8, a9, a10, CP, bq1, bq2, bq3, bq4, ex_tup]
      exact rfl, ?_⟩
  show P3_3 _ _
  exact ⟨w3_0, w3_1, w3_2, w3_3, w4_0, i8, (.nilSl : AVal), by simp [hl], by simp [a3], r3_0, r3_1, r3_2, r3_3, by simp [a4], r4_0, by simp [a5], by simp [a7], by simp [a8], g8, l8, by simp [a9], by simp [a10], by simp [hl], (Gr.nil h)⟩
theorem R3_5 (pe : Nat → Fr3 → ASt → Prop) (pr : Fr3 → ASt → Prop) : Ref Cl P3_5 (Cat [true, true, true, true, false, true, true, true, true, true] (bodyOf Tryz.f3)) m3_5 (post P3_5 pe pr) := by
  rintro s ⟨t, h⟩ hp x s' hm
  have hp : P3_5' s t h := hp
  obtain ⟨w3_0, w3_1, w3_2, w3_3, w4_0, i8, hl, a3, r3_0, r3_1, r3_2, r3_3, a4, r4_0, a5, a7, a8, g8, l8, a9, a10, a11⟩ := hp
  unfold m3_5 at hm
  cases hm
  refine ⟨⟨_, _⟩, by
      simp only [bodyOf, Tryz.f3, Cat, Bool.false_eq_true, e_seq, e_region, e_cond, e_block, ex_skip, ex_exit, ex_ret, o_cons, xops_nil, k_want_none, k_want_false, k_val, k_pan, k_call, k_ret, k_seq, k_seq_exit, k_seq_ret, k_true, k_false, k_block, k_block_exit, k_block_ret, k_loop, k_loop_exit, k_loop_ret, awanted, aoper, evalO, put, Option.getD_some, List.getElem?_set, acallOp, abuiltin, List.map_cons, List.map_nil, Nat.reduceEqDiff, Nat.reduceLT, List.length_set, Option.map_some, Option.bind_some, Option.bind_eq_bind, add_i, sub_i, mul_i, eql_i, neq_i, lss_i, leq_i, gtr_i, geq_i, ofV, ofCell, ↓reduceIte, List.cons_append, List.nil_append, List.append_nil, List.getElem?_toArray, List.getElem?_cons_succ, List.getElem?_cons_zero, e_draw, g_nil, g_cons, g_want, g_skip, g_val, g_call, g_ret, Option.map_none, hl, a3, a4, a5, a7, a8, a9, a10, a11, CP, bq1, bq2, bq3, bq4, ex_tup]
      exact rfl, ?_⟩
  show P3_5 _ _
  exact ⟨w3_0, w3_1, w3_2, w3_3, w4_0, i8, by simp [hl], by simp [a3], r3_0, r3_1, r3_2, r3_3, by simp [a4], r4_0, by simp [a5], by simp [a7], by simp [a8], g8, l8, by simp [a9], by simp [a10], by simp [hl]⟩
theorem R3_6 (pe : Nat → Fr3 → ASt → Prop) (pr : Fr3 → ASt → Prop) : Ref Cl P3_6 (Cat [true, true, true, true, false, true, true, true, true, false, true, true, true, false, false] (bodyOf Tryz.f3)) m3_6 (post P3_1 pe pr) := by
  rintro s ⟨t, h⟩ hp x s' hm
  have hp : P3_6' s t h := hp
  obtain ⟨hl, _⟩ := hp
  unfold m3_6 at hm
  cases hm
  refine ⟨⟨_, _⟩, by
      simp only [bodyOf, Tryz.f3, Cat, Bool.false_eq_true, e_seq, e_region, e_cond, e_block, ex_skip, ex_exit, ex_ret, o_cons, xops_nil, k_want_none, k_want_false, k_val, k_pan, k_call, k_ret, k_seq, k_seq_exit, k_seq_ret, k_true, k_false, k_block, k_block_exit, k_block_ret, k_loop, k_loop_exit, k_loop_ret, awanted, aoper, evalO, put, Option.getD_some, List.getElem?_set, acallOp, abuiltin, List.map_cons, List.map_nil, Nat.reduceEqDiff, Nat.reduceLT, List.length_set, Option.map_some, Option.bind_some, Option.bind_eq_bind, add_i, sub_i, mul_i, eql_i, neq_i, lss_i, leq_i, gtr_i, geq_i, ofV, ofCell, ↓reduceIte, List.cons_append, List.nil_append, List.append_nil, List.getElem?_toArray, List.getElem?_cons_succ, List.getElem?_cons_zero, e_draw, g_nil, g_cons, g_want, g_skip, g_val, g_call, g_ret, Option.map_none, hl, CP, bq1, bq2, bq3, bq4, ex_tup]
      exact rfl, ?_⟩
  show P3_1 _ _
  exact ⟨by simp [hl], by simp [hl]⟩
set_option maxHeartbeats 8000000 in
theorem R3_7 (pe : Nat → Fr3 → ASt → Prop) (pr : Fr3 → ASt → Prop) : Ref Cl P3_8 (Cat [true, true, true, true, false, true, true, true, true, false, true, true, false] (bodyOf Tryz.f3)) m3_7 (post P3_7 pe pr) := by
  rintro s ⟨t, h⟩ hp x s' hm
  have hp : P3_8' s t h := hp
  obtain ⟨w3_0, w3_1, w3_2, w3_3, w4_0, i8, i12, hl, a3, r3_0, r3_1, r3_2, r3_3, a4, r4_0, a5, a7, a8, g8, l8, a9, a10, a11, a12, g12, l12, ne8_12⟩ := hp
  unfold m3_7 at hm
  cases hb92 : (!s.t10) with
  | true =>
    all_goals (
      try simp only [hb92, cond_true, cond_false, Option.bind_some, Option.bind_assoc, Bool.not_true, Bool.not_false, Bool.true_and, Bool.false_and, Bool.and_true, Bool.and_false, Bool.true_or, Bool.false_or] at hm
      have k93 : loadA h false 1 (.ptr i12 1) = some (.int .i64 s.t12.State) := by rw [Heap.load_gen g12 (Nat.le_of_ble_eq_true rfl)]; first | rfl | exact ofc1 _ _ _
      cases hb94 : (s.t12.State == 2) with
      | true =>
        all_goals (
          try simp only [hb94, cond_true, cond_false, Option.bind_some, Option.bind_assoc, Bool.not_true, Bool.not_false, Bool.true_and, Bool.false_and, Bool.and_true, Bool.and_false, Bool.true_or, Bool.false_or] at hm
          have k95 : loadA h false 1 (.ptr i12 2) = some (.int .i64 s.t12.Seq) := by rw [Heap.load_gen g12 (Nat.le_of_ble_eq_true rfl)]; first | rfl | exact ofc1 _ _ _
          cases hb96 : (s.t12.Seq == s.t4.Head) with
          | true =>
            all_goals (
              try simp only [hb96, cond_true, cond_false, Option.bind_some, Option.bind_assoc, Bool.not_true, Bool.not_false, Bool.true_and, Bool.false_and, Bool.and_true, Bool.and_false, Bool.true_or, Bool.false_or] at hm
              have k97 : loadA h false 1 (.ptr i12 0) = some (.int .i64 s.t12.Set) := by rw [Heap.load_gen g12 (Nat.le_of_ble_eq_true rfl)]; first | rfl | exact ofc1 _ _ _
              obtain ⟨z98, hz98, hm⟩ := Option.bind_eq_some_iff.1 hm
              have iu99 := G8_spec s.t12.Set s.t9  _ hz98
              try simp only [cond_true, cond_false, Option.bind_some, Option.bind_assoc, Bool.not_true, Bool.not_false, Bool.true_and, Bool.false_and, Bool.and_true, Bool.and_false, Bool.true_or, Bool.false_or] at hm
              cases hb100 : z98 with
              | true =>
                all_goals (
                  try simp only [hb100, cond_true, cond_false, Option.bind_some, Option.bind_assoc, Bool.not_true, Bool.not_false, Bool.true_and, Bool.false_and, Bool.and_true, Bool.and_false, Bool.true_or, Bool.false_or] at hm
                  have k101 : loadA h false 1 (.ptr i12 3) = some (.int .i64 s.t12.Rows) := by rw [Heap.load_gen g12 (Nat.le_of_ble_eq_true rfl)]; first | rfl | exact ofc1 _ _ _
                  have k102 : loadA h false 1 (.ptr i8 2) = some (.int .i64 s.t8.Cost) := by rw [Heap.load_gen g8 (Nat.le_of_ble_eq_true rfl)]; first | rfl | exact ofc1 _ _ _
                  cases hb103 : decide (s.t12.Rows < s.t8.Cost) with
                  | true =>
                    all_goals (
                      try simp only [hb103, cond_true, cond_false, Option.bind_some, Option.bind_assoc, Bool.not_true, Bool.not_false, Bool.true_and, Bool.false_and, Bool.and_true, Bool.and_false, Bool.true_or, Bool.false_or] at hm
                      have k104 : loadA h false 1 (.ptr i8 2) = some (.int .i64 s.t8.Cost) := by rw [Heap.load_gen g8 (Nat.le_of_ble_eq_true rfl)]; first | rfl | exact ofc1 _ _ _
                      cases hm
                      refine ⟨⟨_, _⟩, by
                          simp only [bodyOf, Tryz.f3, Cat, Bool.false_eq_true, e_seq, e_region, e_cond, e_block, ex_skip, ex_exit, ex_ret, o_cons, xops_nil, k_want_none, k_want_false, k_val, k_pan, k_call, k_ret, k_seq, k_seq_exit, k_seq_ret, k_true, k_false, k_block, k_block_exit, k_block_ret, k_loop, k_loop_exit, k_loop_ret, awanted, aoper, evalO, put, Option.getD_some, List.getElem?_set, acallOp, abuiltin, List.map_cons, List.map_nil, Nat.reduceEqDiff, Nat.reduceLT, List.length_set, Option.map_some, Option.bind_some, Option.bind_eq_bind, add_i, sub_i, mul_i, eql_i, neq_i, lss_i, leq_i, gtr_i, geq_i, ofV, ofCell, ↓reduceIte, List.cons_append, List.nil_append, List.append_nil, List.getElem?_toArray, List.getElem?_cons_succ, List.getElem?_cons_zero, e_draw, g_nil, g_cons, g_want, g_skip, g_val, g_call, g_ret, Option.map_none, hl, a3, a4, a5, a7, a8, a9, a10, a11, a12, CP, bq1, bq2, bq3, bq4, ex_tup, List.append_eq, aun_not, TyC.fa32_1, dropCells, Nat.zero_add, Nat.reduceAdd, k93, TyC.ld3, TyC.fa32_2, k95, TyC.fa30_1, List.drop_succ_cons, List.drop_zero, ld_ip, ofc1, List.drop_succ_cons, List.drop_zero, TyC.fa32_0, k97, iu99, TyC.fa32_3, k101, TyC.fa35_2, k102, k104, hb92, hb94, hb96, hb100, hb103]
                          exact rfl, ?_⟩
                      show P3_7 _ _
                      exact ⟨w3_0, w3_1, w3_2, w3_3, w4_0, i8, by simp [hl], by simp [a3], r3_0, r3_1, r3_2, r3_3, by simp [a4], r4_0, by simp [a5], by simp [a7], by simp [a8], g8, l8, by simp [a9], by simp [a10], by simp [a11], by simp [hl, hb92, hb94, hb96, hb100, hb103]⟩)
                  | false =>
                    all_goals (
                      try simp only [hb103, cond_true, cond_false, Option.bind_some, Option.bind_assoc, Bool.not_true, Bool.not_false, Bool.true_and, Bool.false_and, Bool.and_true, Bool.and_false, Bool.true_or, Bool.false_or] at hm
                      cases hm
                      refine ⟨⟨_, _⟩, by
                          simp only [bodyOf, Tryz.f3, Cat, Bool.false_eq_true, e_seq, e_region, e_cond, e_block, ex_skip, ex_exit, ex_ret, o_cons, xops_nil, k_want_none, k_want_false, k_val, k_pan, k_call, k_ret, k_seq, k_seq_exit, k_seq_ret, k_true, k_false, k_block, k_block_exit, k_block_ret, k_loop, k_loop_exit, k_loop_ret, awanted, aoper, evalO, put, Option.getD_some, List.getElem?_set, acallOp, abuiltin, List.map_cons, List.map_nil, Nat.reduceEqDiff, Nat.reduceLT, List.length_set, Option.map_some, Option.bind_some, Option.bind_eq_bind, add_i, sub_i, mul_i, eql_i, neq_i, lss_i, leq_i, gtr_i, geq_i, ofV, ofCell, ↓reduceIte, List.cons_append, List.nil_append, List.append_nil, List.getElem?_toArray, List.getElem?_cons_succ, List.getElem?_cons_zero, e_draw, g_nil, g_cons, g_want, g_skip, g_val, g_call, g_ret, Option.map_none, hl, a3, a4, a5, a7, a8, a9, a10, a11, a12, CP, bq1, bq2, bq3, bq4, ex_tup, List.append_eq, aun_not, TyC.fa32_1, dropCells, Nat.zero_add, Nat.reduceAdd, k93, TyC.ld3, TyC.fa32_2, k95, TyC.fa30_1, List.drop_succ_cons, List.drop_zero, ld_ip, ofc1, List.drop_succ_cons, List.drop_zero, TyC.fa32_0, k97, iu99, TyC.fa32_3, k101, TyC.fa35_2, k102, hb92, hb94, hb96, hb100, hb103]
                          exact rfl, ?_⟩
                      show P3_7 _ _
                      exact ⟨w3_0, w3_1, w3_2, w3_3, w4_0, i8, by simp [hl], by simp [a3], r3_0, r3_1, r3_2, r3_3, by simp [a4], r4_0, by simp [a5], by simp [a7], by simp [a8], g8, l8, by simp [a9], by simp [a10], by simp [a11], by simp [hl, hb92, hb94, hb96, hb100, hb103]⟩))
              | false =>
                all_goals (
                  try simp only [hb100, cond_true, cond_false, Option.bind_some, Option.bind_assoc, Bool.not_true, Bool.not_false, Bool.true_and, Bool.false_and, Bool.and_true, Bool.and_false, Bool.true_or, Bool.false_or] at hm
                  cases hm
                  refine ⟨⟨_, _⟩, by
                      simp only [bodyOf, Tryz.f3, Cat, Bool.false_eq_true, e_seq, e_region, e_cond, e_block, ex_skip, ex_exit, ex_ret, o_cons, xops_nil, k_want_none, k_want_false, k_val, k_pan, k_call, k_ret, k_seq, k_seq_exit, k_seq_ret, k_true, k_false, k_block, k_block_exit, k_block_ret, k_loop, k_loop_exit, k_loop_ret, awanted, aoper, evalO, put, Option.getD_some, List.getElem?_set, acallOp, abuiltin, List.map_cons, List.map_nil, Nat.reduceEqDiff, Nat.reduceLT, List.length_set, Option.map_some, Option.bind_some, Option.bind_eq_bind, add_i, sub_i, mul_i, eql_i, neq_i, lss_i, leq_i, gtr_i, geq_i, ofV, ofCell, ↓reduceIte, List.cons_append, List.nil_append, List.append_nil, List.getElem?_toArray, List.getElem?_cons_succ, List.getElem?_cons_zero, e_draw, g_nil, g_cons, g_want, g_skip, g_val, g_call, g_ret, Option.map_none, hl, a3, a4, a5, a7, a8, a9, a10, a11, a12, CP, bq1, bq2, bq3, bq4, ex_tup, List.append_eq, aun_not, TyC.fa32_1, dropCells, Nat.zero_add, Nat.reduceAdd, k93, TyC.ld3, TyC.fa32_2, k95, TyC.fa30_1, List.drop_succ_cons, List.drop_zero, ld_ip, ofc1, List.drop_succ_cons, List.drop_zero, TyC.fa32_0, k97, iu99, hb92, hb94, hb96, hb100]
                      exact rfl, ?_⟩
                  show P3_7 _ _
                  exact ⟨w3_0, w3_1, w3_2, w3_3, w4_0, i8, by simp [hl], by simp [a3], r3_0, r3_1, r3_2, r3_3, by simp [a4], r4_0, by simp [a5], by simp [a7], by simp [a8], g8, l8, by simp [a9], by simp [a10], by simp [a11], by simp [hl, hb92, hb94, hb96, hb100]⟩))
          | false =>
            all_goals (
              try simp only [hb96, cond_true, cond_false, Option.bind_some, Option.bind_assoc, Bool.not_true, Bool.not_false, Bool.true_and, Bool.false_and, Bool.and_true, Bool.and_false, Bool.true_or, Bool.false_or] at hm
              cases hm
              refine ⟨⟨_, _⟩, by
                  simp only [bodyOf, Tryz.f3, Cat, Bool.false_eq_true, e_seq, e_region, e_cond, e_block, ex_skip, ex_exit, ex_ret, o_cons, xops_nil, k_want_none, k_want_false, k_val, k_pan, k_call, k_ret, k_seq, k_seq_exit, k_seq_ret, k_true, k_false, k_block, k_block_exit, k_block_ret, k_loop, k_loop_exit, k_loop_ret, awanted, aoper, evalO, put, Option.getD_some, List.getElem?_set, acallOp, abuiltin, List.map_cons, List.map_nil, Nat.reduceEqDiff, Nat.reduceLT, List.length_set, Option.map_some, Option.bind_some, Option.bind_eq_bind, add_i, sub_i, mul_i, eql_i, neq_i, lss_i, leq_i, gtr_i, geq_i, ofV, ofCell, ↓reduceIte, List.cons_append, List.nil_append, List.append_nil, List.getElem?_toArray, List.getElem?_cons_succ, List.getElem?_cons_zero, e_draw, g_nil, g_cons, g_want, g_skip, g_val, g_call, g_ret, Option.map_none, hl, a3, a4, a5, a7, a8, a9, a10, a11, a12, CP, bq1, bq2, bq3, bq4, ex_tup, List.append_eq, aun_not, TyC.fa32_1, dropCells, Nat.zero_add, Nat.reduceAdd, k93, TyC.ld3, TyC.fa32_2, k95, TyC.fa30_1, List.drop_succ_cons, List.drop_zero, ld_ip, ofc1, List.drop_succ_cons, List.drop_zero, hb92, hb94, hb96]
                  exact rfl, ?_⟩
              show P3_7 _ _
              exact ⟨w3_0, w3_1, w3_2, w3_3, w4_0, i8, by simp [hl], by simp [a3], r3_0, r3_1, r3_2, r3_3, by simp [a4], r4_0, by simp [a5], by simp [a7], by simp [a8], g8, l8, by simp [a9], by simp [a10], by simp [a11], by simp [hl, hb92, hb94, hb96]⟩))
      | false =>
        all_goals (
          try simp only [hb94, cond_true, cond_false, Option.bind_some, Option.bind_assoc, Bool.not_true, Bool.not_false, Bool.true_and, Bool.false_and, Bool.and_true, Bool.and_false, Bool.true_or, Bool.false_or] at hm
          cases hm
          refine ⟨⟨_, _⟩, by
              simp only [bodyOf, Tryz.f3, Cat, Bool.false_eq_true, e_seq, e_region, e_cond, e_block, ex_skip, ex_exit, ex_ret, o_cons, xops_nil, k_want_none, k_want_false, k_val, k_pan, k_call, k_ret, k_seq, k_seq_exit, k_seq_ret, k_true, k_false, k_block, k_block_exit, k_block_ret, k_loop, k_loop_exit, k_loop_ret, awanted, aoper, evalO, put, Option.getD_some, List.getElem?_set, acallOp, abuiltin, List.map_cons, List.map_nil, Nat.reduceEqDiff, Nat.reduceLT, List.length_set, Option.map_some, Option.bind_some, Option.bind_eq_bind, add_i, sub_i, mul_i, eql_i, neq_i, lss_i, leq_i, gtr_i, geq_i, ofV, ofCell, ↓reduceIte, List.cons_append, List.nil_append, List.append_nil, List.getElem?_toArray, List.getElem?_cons_succ, List.getElem?_cons_zero, e_draw, g_nil, g_cons, g_want, g_skip, g_val, g_call, g_ret, Option.map_none, hl, a3, a4, a5, a7, a8, a9, a10, a11, a12, CP, bq1, bq2, bq3, bq4, ex_tup, List.append_eq, aun_not, TyC.fa32_1, dropCells, Nat.zero_add, Nat.reduceAdd, k93, TyC.ld3, hb92, hb94]
              exact rfl, ?_⟩
          show P3_7 _ _
          exact ⟨w3_0, w3_1, w3_2, w3_3, w4_0, i8, by simp [hl], by simp [a3], r3_0, r3_1, r3_2, r3_3, by simp [a4], r4_0, by simp [a5], by simp [a7], by simp [a8], g8, l8, by simp [a9], by simp [a10], by simp [a11], by simp [hl, hb92, hb94]⟩))
  | false =>
    all_goals (
      try simp only [hb92, cond_true, cond_false, Option.bind_some, Option.bind_assoc, Bool.not_true, Bool.not_false, Bool.true_and, Bool.false_and, Bool.and_true, Bool.and_false, Bool.true_or, Bool.false_or] at hm
      cases hm
      refine ⟨⟨_, _⟩, by
          simp only [bodyOf, Tryz.f3, Cat, Bool.false_eq_true, e_seq, e_region, e_cond, e_block, ex_skip, ex_exit, ex_ret, o_cons, xops_nil, k_want_none, k_want_false, k_val, k_pan, k_call, k_ret, k_seq, k_seq_exit, k_seq_ret, k_true, k_false, k_block, k_block_exit, k_block_ret, k_loop, k_loop_exit, k_loop_ret, awanted, aoper, evalO, put, Option.getD_some, List.getElem?_set, acallOp, abuiltin, List.map_cons, List.map_nil, Nat.reduceEqDiff, Nat.reduceLT, List.length_set, Option.map_some, Option.bind_some, Option.bind_eq_bind, add_i, sub_i, mul_i, eql_i, neq_i, lss_i, leq_i, gtr_i, geq_i, ofV, ofCell, ↓reduceIte, List.cons_append, List.nil_append, List.append_nil, List.getElem?_toArray, List.getElem?_cons_succ, List.getElem?_cons_zero, e_draw, g_nil, g_cons, g_want, g_skip, g_val, g_call, g_ret, Option.map_none, hl, a3, a4, a5, a7, a8, a9, a10, a11, a12, CP, bq1, bq2, bq3, bq4, ex_tup, List.append_eq, aun_not, hb92]
          exact rfl, ?_⟩
      show P3_7 _ _
      exact ⟨w3_0, w3_1, w3_2, w3_3, w4_0, i8, by simp [hl], by simp [a3], r3_0, r3_1, r3_2, r3_3, by simp [a4], r4_0, by simp [a5], by simp [a7], by simp [a8], g8, l8, by simp [a9], by simp [a10], by simp [a11], by simp [hl, hb92]⟩)
theorem R3_8 (pe : Nat → Fr3 → ASt → Prop) (pr : Fr3 → ASt → Prop) : Ref Cl P3_5 (Cat [true, true, true, true, false, true, true, true, true, false, true, false] (bodyOf Tryz.f3)) m3_8 (post P3_8 pe pr) := by
  rintro s ⟨t, h⟩ hp x s' hm
  have hp : P3_5' s t h := hp
  obtain ⟨w3_0, w3_1, w3_2, w3_3, w4_0, i8, hl, a3, r3_0, r3_1, r3_2, r3_3, a4, r4_0, a5, a7, a8, g8, l8, a9, a10, a11⟩ := hp
  unfold m3_8 at hm
  obtain ⟨y121, hy121, hm⟩ := Option.bind_eq_some_iff.1 hm
  obtain ⟨cu122, du122, eu122, iu122, _⟩ := Sl.ix rViewInfo_p r4_0 hy121
  have eu122 := eu122; unfold rViewInfo at eu122; subst eu122
  obtain ⟨H123, eH123⟩ : ∃ x : AHeap, x = h.new (.arr [.int .i64 0, .int .i64 0, .int .i64 0, .int .i64 0, .int .i64 0, .int .i64 0]) := ⟨_, rfl⟩
  obtain ⟨id124, eid124⟩ : ∃ x : Nat, x = h.next := ⟨_, rfl⟩
  have k125 : H123.get i8 = some (.arr [.bool s.t8.Base, .int .i64 s.t8.Set, .int .i64 s.t8.Cost]) := by rw [eH123, Heap.get_new_lt l8]; exact g8
  have k126 : i8 < H123.next := by rw [eH123, Heap.new_next]; exact Nat.lt_succ_of_lt l8
  have k127 : H123.get id124 = some (.arr [.int .i64 0, .int .i64 0, .int .i64 0, .int .i64 0, .int .i64 0, .int .i64 0]) := by rw [eH123, eid124]; exact Heap.get_new_eq
  have k128 : id124 < H123.next := by rw [eH123, eid124, Heap.new_next]; exact Nat.lt_succ_self _
  have k129 : i8 ≠ id124 := by rw [eid124]; exact Nat.ne_of_lt l8
  have k130 : abox h (.agg [.int .i64 0, .int .i64 0, .int .i64 0, .int .i64 0, .int .i64 0, .int .i64 0]) = some (.ptr id124 0, H123) := by simp only [abox, eH123, eid124, bx_i, bx_b, bx_s, bx_a, bx_nl, bx_np, bx_ip, bx_ls, cl_i, cl_b, cl_s, cl_a, cl_nl, cl_np, cl_ip, cl_ls, List.all_cons, List.all_nil, Bool.and_self, Bool.and_true, c_i, c_b, c_s, c_nl, c_np, c_ip, c_ls, if_true]
  obtain ⟨H131, eH131⟩ : ∃ x : AHeap, x = H123.set id124 (some (.arr [.int .i64 y121.Set, .int .i64 y121.State, .int .i64 y121.Seq, .int .i64 y121.Rows, .int .i64 y121.Bytes, .int .i64 y121.Readers])) := ⟨_, rfl⟩
  have k132 : storeA H123 6 (.ptr id124 0) (.agg [.int .i64 y121.Set, .int .i64 y121.State, .int .i64 y121.Seq, .int .i64 y121.Rows, .int .i64 y121.Bytes, .int .i64 y121.Readers]) = some H131 := by rw [eH131]; exact Heap.store_gen k127 (show (.agg [.int .i64 y121.Set, .int .i64 y121.State, .int .i64 y121.Seq, .int .i64 y121.Rows, .int .i64 y121.Bytes, .int .i64 y121.Readers] : AVal).cells = [.int .i64 y121.Set, .int .i64 y121.State, .int .i64 y121.Seq, .int .i64 y121.Rows, .int .i64 y121.Bytes, .int .i64 y121.Readers] by simp only [cl_i, cl_b, cl_s, cl_a, cl_nl, cl_np, cl_ip, cl_ls]) rfl (by simp only [List.all_cons, List.all_nil, Bool.and_self, Bool.and_true, c_i, c_b, c_s, c_nl, c_np, c_ip, c_ls]) (Nat.le_of_ble_eq_true rfl) rfl
  have k133 : H131.get i8 = some (.arr [.bool s.t8.Base, .int .i64 s.t8.Set, .int .i64 s.t8.Cost]) := by rw [eH131, Heap.get_set_ne k129]; exact k125
  have k134 : i8 < H131.next := by rw [eH131]; exact k126
  have k135 : H131.get id124 = some (.arr [.int .i64 y121.Set, .int .i64 y121.State, .int .i64 y121.Seq, .int .i64 y121.Rows, .int .i64 y121.Bytes, .int .i64 y121.Readers]) := by rw [eH131]; exact Heap.get_set_eq
  have k136 : id124 < H131.next := by rw [eH131]; exact k128
  cases hm
  refine ⟨⟨_, _⟩, by
      simp only [bodyOf, Tryz.f3, Cat, Bool.false_eq_true, e_seq, e_region, e_cond, e_block, ex_skip, ex_exit, ex_ret, o_cons, xops_nil, k_want_none, k_want_false, k_val, k_pan, k_call, k_ret, k_seq, k_seq_exit, k_seq_ret, k_true, k_false, k_block, k_block_exit, k_block_ret, k_loop, k_loop_exit, k_loop_ret, awanted, aoper, evalO, put, Option.getD_some, List.getElem?_set, acallOp, abuiltin, List.map_cons, List.map_nil, Nat.reduceEqDiff, Nat.reduceLT, List.length_set, Option.map_some, Option.bind_some, Option.bind_eq_bind, add_i, sub_i, mul_i, eql_i, neq_i, lss_i, leq_i, gtr_i, geq_i, ofV, ofCell, ↓reduceIte, List.cons_append, List.nil_append, List.append_nil, List.getElem?_toArray, List.getElem?_cons_succ, List.getElem?_cons_zero, e_draw, g_nil, g_cons, g_want, g_skip, g_val, g_call, g_ret, Option.map_none, hl, a3, a4, a5, a7, a8, a9, a10, a11, CP, bq1, bq2, bq3, bq4, ex_tup, TyC.fa30_3, dropCells, List.drop_succ_cons, List.drop_zero, TyC.ld28, ld_ip, ofc1, List.drop_succ_cons, List.drop_zero, TyC.ix28, iu122, TyC.ld32, ofc6, List.drop_succ_cons, List.drop_zero, List.length_cons, List.length_nil, TyC.ze32, TyC.own_law_go_52, k130, k132, TyC.st32]
      exact rfl, ?_⟩
  show P3_8 _ _
  exact ⟨w3_0, w3_1, w3_2, w3_3, w4_0, i8, id124, by simp [hl], by simp [a3], r3_0, r3_1, r3_2, r3_3, by simp [a4], r4_0, by simp [a5], by simp [a7], by simp [a8], k133, k134, by simp [a9], by simp [a10], by simp [a11], by simp [hl], k135, k136, k129⟩
theorem R3_9 (pe : Nat → Fr3 → ASt → Prop) (pr : Fr3 → ASt → Prop) : Ref Cl P3_5 (Cat [true, true, true, true, false, true, true, true, false, false] (bodyOf Tryz.f3)) m3_9 (post P3_9 pe pr) := by
  rintro s ⟨t, h⟩ hp x s' hm
  have hp : P3_5' s t h := hp
  obtain ⟨w3_0, w3_1, w3_2, w3_3, w4_0, i8, hl, a3, r3_0, r3_1, r3_2, r3_3, a4, r4_0, a5, a7, a8, g8, l8, a9, a10, a11⟩ := hp
  unfold m3_9 at hm
  have lu138 := fun h => Sl.len r4_0 TyC.un28 h
  cases hm
  refine ⟨⟨_, _⟩, by
      simp only [bodyOf, Tryz.f3, Cat, Bool.false_eq_true, e_seq, e_region, e_cond, e_block, ex_skip, ex_exit, ex_ret, o_cons, xops_nil, k_want_none, k_want_false, k_val, k_pan, k_call, k_ret, k_seq, k_seq_exit, k_seq_ret, k_true, k_false, k_block, k_block_exit, k_block_ret, k_loop, k_loop_exit, k_loop_ret, awanted, aoper, evalO, put, Option.getD_some, List.getElem?_set, acallOp, abuiltin, List.map_cons, List.map_nil, Nat.reduceEqDiff, Nat.reduceLT, List.length_set, Option.map_some, Option.bind_some, Option.bind_eq_bind, add_i, sub_i, mul_i, eql_i, neq_i, lss_i, leq_i, gtr_i, geq_i, ofV, ofCell, ↓reduceIte, List.cons_append, List.nil_append, List.append_nil, List.getElem?_toArray, List.getElem?_cons_succ, List.getElem?_cons_zero, e_draw, g_nil, g_cons, g_want, g_skip, g_val, g_call, g_ret, Option.map_none, hl, a3, a4, a5, a7, a8, a9, a10, a11, CP, bq1, bq2, bq3, bq4, ex_tup, TyC.fa30_3, dropCells, List.drop_succ_cons, List.drop_zero, TyC.ld28, ld_ip, ofc1, List.drop_succ_cons, List.drop_zero, lu138]
      exact rfl, ?_⟩
  show P3_9 _ _
  exact ⟨w3_0, w3_1, w3_2, w3_3, w4_0, i8, by simp [hl], by simp [a3], r3_0, r3_1, r3_2, r3_3, by simp [a4], r4_0, by simp [a5], by simp [a7], by simp [a8], g8, l8, by simp [a9], by simp [a10], by simp [a11], by simp [hl]⟩
theorem R3_11 (pe : Nat → Fr3 → ASt → Prop) (pr : Fr3 → ASt → Prop) : Ref Cl P3_4 (Cat [true, true, true, true, false, false] (bodyOf Tryz.f3)) m3_11 (post P3_5 pe pr) := by
  rintro s ⟨t, h⟩ hp x s' hm
  have hp : P3_4' s t h := hp
  obtain ⟨w3_0, w3_1, w3_2, w3_3, w4_0, i8, hl, a3, r3_0, r3_1, r3_2, r3_3, a4, r4_0, a5, a7, a8, g8, l8, a9, a10⟩ := hp
  unfold m3_11 at hm
  cases hm
  refine ⟨⟨_, _⟩, by
      simp only [bodyOf, Tryz.f3, Cat, Bool.false_eq_true, e_seq, e_region, e_cond, e_block, ex_skip, ex_exit, ex_ret, o_cons, xops_nil, k_want_none, k_want_false, k_val, k_pan, k_call, k_ret, k_seq, k_seq_exit, k_seq_ret, k_true, k_false, k_block, k_block_exit, k_block_ret, k_loop, k_loop_exit, k_loop_ret, awanted, aoper, evalO, put, Option.getD_some, List.getElem?_set, acallOp, abuiltin, List.map_cons, List.map_nil, Nat.reduceEqDiff, Nat.reduceLT, List.length_set, Option.map_some, Option.bind_some, Option.bind_eq_bind, add_i, sub_i, mul_i, eql_i, neq_i, lss_i, leq_i, gtr_i, geq_i, ofV, ofCell, ↓reduceIte, List.cons_append, List.nil_append, List.append_nil, List.getElem?_toArray, List.getElem?_cons_succ, List.getElem?_cons_zero, e_draw, g_nil, g_cons, g_want, g_skip, g_val, g_call, g_ret, Option.map_none, hl, a3, a4, a5, a7, a8, a9, a10, CP, bq1, bq2, bq3, bq4, ex_tup]
      exact rfl, ?_⟩
  show P3_5 _ _
  exact ⟨w3_0, w3_1, w3_2, w3_3, w4_0, i8, by simp [hl], by simp [a3], r3_0, r3_1, r3_2, r3_3, by simp [a4], r4_0, by simp [a5], by simp [a7], by simp [a8], g8, l8, by simp [a9], by simp [a10], by simp [hl]⟩
theorem R3_12 (pe : Nat → Fr3 → ASt → Prop) (pr : Fr3 → ASt → Prop) : Ref Cl P3_10 (Cat [true, true, true, false] (bodyOf Tryz.f3)) m3_12 (post P3_4 pe pr) := by
  rintro s ⟨t, h⟩ hp x s' hm
  have hp : P3_10' s t h := hp
  obtain ⟨w3_0, w3_1, w3_2, w3_3, w4_0, i8, hl, a3, r3_0, r3_1, r3_2, r3_3, a4, r4_0, a5, a7, a8, g8, l8⟩ := hp
  unfold m3_12 at hm
  obtain ⟨z141, hz141, hm⟩ := Option.bind_eq_some_iff.1 hm
  have iu142 := G7_spec s.t3 _ r3_0 _ r3_1 _ r3_2 _ r3_3 _ hz141
  cases hm
  refine ⟨⟨_, _⟩, by
      simp only [bodyOf, Tryz.f3, Cat, Bool.false_eq_true, e_seq, e_region, e_cond, e_block, ex_skip, ex_exit, ex_ret, o_cons, xops_nil, k_want_none, k_want_false, k_val, k_pan, k_call, k_ret, k_seq, k_seq_exit, k_seq_ret, k_true, k_false, k_block, k_block_exit, k_block_ret, k_loop, k_loop_exit, k_loop_ret, awanted, aoper, evalO, put, Option.getD_some, List.getElem?_set, acallOp, abuiltin, List.map_cons, List.map_nil, Nat.reduceEqDiff, Nat.reduceLT, List.length_set, Option.map_some, Option.bind_some, Option.bind_eq_bind, add_i, sub_i, mul_i, eql_i, neq_i, lss_i, leq_i, gtr_i, geq_i, ofV, ofCell, ↓reduceIte, List.cons_append, List.nil_append, List.append_nil, List.getElem?_toArray, List.getElem?_cons_succ, List.getElem?_cons_zero, e_draw, g_nil, g_cons, g_want, g_skip, g_val, g_call, g_ret, Option.map_none, hl, a3, a4, a5, a7, a8, CP, bq1, bq2, bq3, bq4, ex_tup, TyC.ld27, ld_ip, ofc4, List.drop_succ_cons, List.drop_zero, List.length_cons, List.length_nil, iu142]
      exact rfl, ?_⟩
  show P3_4 _ _
  exact ⟨w3_0, w3_1, w3_2, w3_3, w4_0, i8, by simp [hl], by simp [a3], r3_0, r3_1, r3_2, r3_3, by simp [a4], r4_0, by simp [a5], by simp [a7], by simp [a8], g8, l8, by simp [hl], by simp [hl]⟩
theorem R3_13 (pe : Nat → Fr3 → ASt → Prop) (pr : Fr3 → ASt → Prop) : Ref Cl P3_11 (Cat [true, true, false] (bodyOf Tryz.f3)) m3_13 (post P3_10 pe pr) := by
  rintro s ⟨t, h⟩ hp x s' hm
  have hp : P3_11' s t h := hp
  obtain ⟨w3_0, w3_1, w3_2, w3_3, w4_0, hl, a3, r3_0, r3_1, r3_2, r3_3, a4, r4_0, a5, a7⟩ := hp
  unfold m3_13 at hm
  obtain ⟨z154, hz154, hm⟩ := Option.bind_eq_some_iff.1 hm
  have iu155 := G6_spec s.t3 s.t4.Views s.t4.Head s.t4.Facts _ r3_0 _ r3_1 _ r3_2 _ r3_3 _ r4_0 _ hz154
  obtain ⟨H156, eH156⟩ : ∃ x : AHeap, x = h.new (.arr [.bool false, .int .i64 0, .int .i64 0]) := ⟨_, rfl⟩
  obtain ⟨id157, eid157⟩ : ∃ x : Nat, x = h.next := ⟨_, rfl⟩
  have k158 : H156.get id157 = some (.arr [.bool false, .int .i64 0, .int .i64 0]) := by rw [eH156, eid157]; exact Heap.get_new_eq
  have k159 : id157 < H156.next := by rw [eH156, eid157, Heap.new_next]; exact Nat.lt_succ_self _
  have k160 : abox h (.agg [.bool false, .int .i64 0, .int .i64 0]) = some (.ptr id157 0, H156) := by simp only [abox, eH156, eid157, bx_i, bx_b, bx_s, bx_a, bx_nl, bx_np, bx_ip, bx_ls, cl_i, cl_b, cl_s, cl_a, cl_nl, cl_np, cl_ip, cl_ls, List.all_cons, List.all_nil, Bool.and_self, Bool.and_true, c_i, c_b, c_s, c_nl, c_np, c_ip, c_ls, if_true]
  obtain ⟨H161, eH161⟩ : ∃ x : AHeap, x = H156.set id157 (some (.arr [.bool z154.Base, .int .i64 z154.Set, .int .i64 z154.Cost])) := ⟨_, rfl⟩
  have k162 : storeA H156 3 (.ptr id157 0) (.agg [.bool z154.Base, .int .i64 z154.Set, .int .i64 z154.Cost]) = some H161 := by rw [eH161]; exact Heap.store_gen k158 (show (.agg [.bool z154.Base, .int .i64 z154.Set, .int .i64 z154.Cost] : AVal).cells = [.bool z154.Base, .int .i64 z154.Set, .int .i64 z154.Cost] by simp only [cl_i, cl_b, cl_s, cl_a, cl_nl, cl_np, cl_ip, cl_ls]) rfl (by simp only [List.all_cons, List.all_nil, Bool.and_self, Bool.and_true, c_i, c_b, c_s, c_nl, c_np, c_ip, c_ls]) (Nat.le_of_ble_eq_true rfl) rfl
  have k163 : H161.get id157 = some (.arr [.bool z154.Base, .int .i64 z154.Set, .int .i64 z154.Cost]) := by rw [eH161]; exact Heap.get_set_eq
  have k164 : id157 < H161.next := by rw [eH161]; exact k159
  cases hm
  refine ⟨⟨_, _⟩, by
      simp only [bodyOf, Tryz.f3, Cat, Bool.false_eq_true, e_seq, e_region, e_cond, e_block, ex_skip, ex_exit, ex_ret, o_cons, xops_nil, k_want_none, k_want_false, k_val, k_pan, k_call, k_ret, k_seq, k_seq_exit, k_seq_ret, k_true, k_false, k_block, k_block_exit, k_block_ret, k_loop, k_loop_exit, k_loop_ret, awanted, aoper, evalO, put, Option.getD_some, List.getElem?_set, acallOp, abuiltin, List.map_cons, List.map_nil, Nat.reduceEqDiff, Nat.reduceLT, List.length_set, Option.map_some, Option.bind_some, Option.bind_eq_bind, add_i, sub_i, mul_i, eql_i, neq_i, lss_i, leq_i, gtr_i, geq_i, ofV, ofCell, ↓reduceIte, List.cons_append, List.nil_append, List.append_nil, List.getElem?_toArray, List.getElem?_cons_succ, List.getElem?_cons_zero, e_draw, g_nil, g_cons, g_want, g_skip, g_val, g_call, g_ret, Option.map_none, hl, a3, a4, a5, a7, CP, bq1, bq2, bq3, bq4, ex_tup, TyC.ld27, ld_ip, ofc4, List.drop_succ_cons, List.drop_zero, List.length_cons, List.length_nil, TyC.fa30_3, dropCells, List.drop_succ_cons, List.drop_zero, TyC.ld28, ofc1, List.drop_succ_cons, List.drop_zero, TyC.fa30_1, TyC.ld3, TyC.fa30_2, iu155, TyC.ze35, TyC.own_law_go_49, k160, k162, TyC.st35]
      exact rfl, ?_⟩
  show P3_10 _ _
  exact ⟨w3_0, w3_1, w3_2, w3_3, w4_0, id157, by simp [hl], by simp [a3], r3_0, r3_1, r3_2, r3_3, by simp [a4], r4_0, by simp [a5], by simp [a7], by simp [hl], k163, k164⟩
theorem R3_14 (pe : Nat → Fr3 → ASt → Prop) (pr : Fr3 → ASt → Prop) : Ref Cl P3_12 (Cat [true, false] (bodyOf Tryz.f3)) m3_14 (post P3_11 pe pr) := by
  rintro s ⟨t, h⟩ hp x s' hm
  have hp : P3_12' s t h := hp
  obtain ⟨w3_0, w3_1, w3_2, w3_3, w4_0, hl, a3, r3_0, r3_1, r3_2, r3_3, a4, r4_0, a5⟩ := hp
  unfold m3_14 at hm
  obtain ⟨z167, hz167, hm⟩ := Option.bind_eq_some_iff.1 hm
  have iu168 := S5_spec   _ hz167
  cases hm
  refine ⟨⟨_, _⟩, by
      simp only [bodyOf, Tryz.f3, Cat, Bool.false_eq_true, e_seq, e_region, e_cond, e_block, ex_skip, ex_exit, ex_ret, o_cons, xops_nil, k_want_none, k_want_false, k_val, k_pan, k_call, k_ret, k_seq, k_seq_exit, k_seq_ret, k_true, k_false, k_block, k_block_exit, k_block_ret, k_loop, k_loop_exit, k_loop_ret, awanted, aoper, evalO, put, Option.getD_some, List.getElem?_set, acallOp, abuiltin, List.map_cons, List.map_nil, Nat.reduceEqDiff, Nat.reduceLT, List.length_set, Option.map_some, Option.bind_some, Option.bind_eq_bind, add_i, sub_i, mul_i, eql_i, neq_i, lss_i, leq_i, gtr_i, geq_i, ofV, ofCell, ↓reduceIte, List.cons_append, List.nil_append, List.append_nil, List.getElem?_toArray, List.getElem?_cons_succ, List.getElem?_cons_zero, e_draw, g_nil, g_cons, g_want, g_skip, g_val, g_call, g_ret, Option.map_none, hl, a3, a4, a5, CP, bq1, bq2, bq3, bq4, ex_tup, iu168]
      exact rfl, ?_⟩
  show P3_11 _ _
  exact ⟨w3_0, w3_1, w3_2, w3_3, w4_0, by simp [hl], by simp [a3], r3_0, r3_1, r3_2, r3_3, by simp [a4], r4_0, by simp [a5], by simp [hl]⟩
theorem R3_15 (pe : Nat → Fr3 → ASt → Prop) (pr : Fr3 → ASt → Prop) : Ref Cl P3_13 (Cat [false] (bodyOf Tryz.f3)) m3_15 (post P3_12 pe pr) := by
  rintro s ⟨t, h⟩ hp x s' hm
  have hp : P3_13' s t h := hp
  obtain ⟨w0_0, w0_1, w0_2, w0_3, w1_0, hl, a0, r0_0, r0_1, r0_2, r0_3, a1, r1_0, a2⟩ := hp
  unfold m3_15 at hm
  have ic174 : (w0_0 : AVal).isCell = true := Sl.isCell r0_0
  have ic175 : (w0_1 : AVal).isCell = true := Sl.isCell r0_1
  have ic176 : (w0_2 : AVal).isCell = true := rTestT_cell r0_2
  have ic177 : (w0_3 : AVal).isCell = true := Sl.isCell r0_3
  have ic178 : (w1_0 : AVal).isCell = true := Sl.isCell r1_0
  cases hm
  refine ⟨⟨_, _⟩, by
      simp only [bodyOf, Tryz.f3, Cat, Bool.false_eq_true, e_seq, e_region, e_cond, e_block, ex_skip, ex_exit, ex_ret, o_cons, xops_nil, k_want_none, k_want_false, k_val, k_pan, k_call, k_ret, k_seq, k_seq_exit, k_seq_ret, k_true, k_false, k_block, k_block_exit, k_block_ret, k_loop, k_loop_exit, k_loop_ret, awanted, aoper, evalO, put, Option.getD_some, List.getElem?_set, acallOp, abuiltin, List.map_cons, List.map_nil, Nat.reduceEqDiff, Nat.reduceLT, List.length_set, Option.map_some, Option.bind_some, Option.bind_eq_bind, add_i, sub_i, mul_i, eql_i, neq_i, lss_i, leq_i, gtr_i, geq_i, ofV, ofCell, ↓reduceIte, List.cons_append, List.nil_append, List.append_nil, List.getElem?_toArray, List.getElem?_cons_succ, List.getElem?_cons_zero, e_draw, g_nil, g_cons, g_want, g_skip, g_val, g_call, g_ret, Option.map_none, hl, a0, a1, a2, CP, bq1, bq2, bq3, bq4, ex_tup, TyC.cb_parse_go_148, TyC.cb_parse_go_143, TyC.cb_parse_go_130, TyC.cb_plan_go_27, TyC.cb_plan_go_29, TyC.cb_plan_go_31, TyC.cb_plan_go_41, TyC.cb_cube_go_25, TyC.cb_law_go_47, ic174, bx_c ic174, cl_c ic174, ic175, bx_c ic175, cl_c ic175, ic176, bx_c ic176, cl_c ic176, ic177, bx_c ic177, cl_c ic177, bx_a, cl_a, bx_i, bx_b, bx_s, cl_i, cl_b, cl_s, List.all_cons, List.all_nil, Bool.and_self, Bool.and_true, c_i, c_b, c_s, c_nl, c_np, c_ip, c_ls, ic178, bx_c ic178, cl_c ic178]
      exact rfl, ?_⟩
  show P3_12 _ _
  exact ⟨w0_0, w0_1, w0_2, w0_3, w1_0, by simp [hl], by simp [hl], r0_0, r0_1, r0_2, r0_3, by simp [hl], r1_0, by simp [hl]⟩
theorem B3 : Ref Cl P3_13 (bodyOf Tryz.f3) (M3) (post P3_1 (fun _ _ _ => False) P3_1) := by
  rw [show bodyOf Tryz.f3 = .seq (Cat [false] (bodyOf Tryz.f3)) (.seq (Cat [true, false] (bodyOf Tryz.f3)) (.seq (Cat [true, true, false] (bodyOf Tryz.f3)) (.seq (Cat [true, true, true, false] (bodyOf Tryz.f3)) (.seq (.seq (Cat [true, true, true, true, false, false] (bodyOf Tryz.f3)) (.block 0 (.loop (.seq (.seq (Cat [true, true, true, true, false, true, true, true, false, false] (bodyOf Tryz.f3)) (.cond (.tmp 33) (.skip) (.exit 0))) (.seq (.block 1 (.seq (Cat [true, true, true, true, false, true, true, true, true, false, true, false] (bodyOf Tryz.f3)) (.seq (Cat [true, true, true, true, false, true, true, true, true, false, true, true, false] (bodyOf Tryz.f3)) (.cond (.tmp 72) (.seq (Cat [true, true, true, true, false, true, true, true, true, false, true, true, true, false, false] (bodyOf Tryz.f3)) (.ret)) (.skip))))) (Cat [true, true, true, true, false, true, true, true, true, true] (bodyOf Tryz.f3))))))) (.seq (Cat [true, true, true, true, true, false] (bodyOf Tryz.f3)) (.seq (Cat [true, true, true, true, true, true, false] (bodyOf Tryz.f3)) (.seq (Cat [true, true, true, true, true, true, true, false] (bodyOf Tryz.f3)) (.seq (Cat [true, true, true, true, true, true, true, true, false] (bodyOf Tryz.f3)) (.seq (Cat [true, true, true, true, true, true, true, true, true, false] (bodyOf Tryz.f3)) (.ret)))))))))) from rfl]
  unfold M3
  exact ref_seq (M := P3_12) (R3_15 _ _) (ref_seq (M := P3_11) (R3_14 _ _) (ref_seq (M := P3_10) (R3_13 _ _) (ref_seq (M := P3_4) (R3_12 _ _) (ref_seq (M := P3_4) (ref_seq (M := P3_5) (R3_11 _ _) (ref_block (ref_loop (P := P3_5) (ref_weak (P' := P3_5) (fun s st hp => hp) (ref_seq (M := P3_5) (ref_seq (M := P3_9) (R3_9 _ _) (ref_cond (P := P3_9) (c := fun s => s.t33) (fun s st hp => by obtain ⟨w3_0, w3_1, w3_2, w3_3, w4_0, i8, hl, a3, r3_0, r3_1, r3_2, r3_3, a4, r4_0, a5, a7, a8, g8, l8, a9, a10, a11, a33⟩ := (hp : P3_9' s st.tmps st.h); simp only [evalO, a33, Option.getD_some]) (ref_weak (P' := P3_5) (fun s st hp => by obtain ⟨w3_0, w3_1, w3_2, w3_3, w4_0, i8, hl, a3, r3_0, r3_1, r3_2, r3_3, a4, r4_0, a5, a7, a8, g8, l8, a9, a10, a11, a33⟩ := (hp : P3_9' s st.tmps st.h); exact (⟨w3_0, w3_1, w3_2, w3_3, w4_0, i8, hl, a3, r3_0, r3_1, r3_2, r3_3, a4, r4_0, a5, a7, a8, g8, l8, a9, a10, a11⟩ : P3_5' s st.tmps st.h)) (ref_skip (fun s st hp => hp))) (ref_weak (P' := P3_4) (fun s st hp => by obtain ⟨w3_0, w3_1, w3_2, w3_3, w4_0, i8, hl, a3, r3_0, r3_1, r3_2, r3_3, a4, r4_0, a5, a7, a8, g8, l8, a9, a10, a11, a33⟩ := (hp : P3_9' s st.tmps st.h); exact (⟨w3_0, w3_1, w3_2, w3_3, w4_0, i8, hl, a3, r3_0, r3_1, r3_2, r3_3, a4, r4_0, a5, a7, a8, g8, l8, a9, a10⟩ : P3_4' s st.tmps st.h)) (ref_exit (fun s st hp => hp))))) (ref_seq (M := P3_5) (ref_block (ref_seq (M := P3_8) (R3_8 _ _) (ref_seq (M := P3_7) (R3_7 _ _) (ref_cond (P := P3_7) (c := fun s => s.t72) (fun s st hp => by obtain ⟨w3_0, w3_1, w3_2, w3_3, w4_0, i8, hl, a3, r3_0, r3_1, r3_2, r3_3, a4, r4_0, a5, a7, a8, g8, l8, a9, a10, a11, a72⟩ := (hp : P3_7' s st.tmps st.h); simp only [evalO, a72, Option.getD_some]) (ref_weak (P' := P3_6) (fun s st hp => by obtain ⟨w3_0, w3_1, w3_2, w3_3, w4_0, i8, hl, a3, r3_0, r3_1, r3_2, r3_3, a4, r4_0, a5, a7, a8, g8, l8, a9, a10, a11, a72⟩ := (hp : P3_7' s st.tmps st.h); exact (⟨hl, trivial⟩ : P3_6' s st.tmps st.h)) (ref_seq (M := P3_1) (R3_6 _ _) (ref_ret (fun s st hp => hp)))) (ref_weak (P' := P3_5) (fun s st hp => by obtain ⟨w3_0, w3_1, w3_2, w3_3, w4_0, i8, hl, a3, r3_0, r3_1, r3_2, r3_3, a4, r4_0, a5, a7, a8, g8, l8, a9, a10, a11, a72⟩ := (hp : P3_7' s st.tmps st.h); exact (⟨w3_0, w3_1, w3_2, w3_3, w4_0, i8, hl, a3, r3_0, r3_1, r3_2, r3_3, a4, r4_0, a5, a7, a8, g8, l8, a9, a10, a11⟩ : P3_5' s st.tmps st.h)) (ref_skip (fun s st hp => hp))))))) (R3_5 _ _))))))) (ref_seq (M := P3_3) (R3_4 _ _) (ref_seq (M := P3_2) (R3_3 _ _) (ref_seq (M := P3_2) (R3_2 _ _) (ref_seq (M := P3_0) (R3_1 _ _) (ref_seq (M := P3_1) (R3_0 _ _) (ref_ret (fun s st hp => hp)))))))))))
noncomputable def G3 (x0 : Bound) (x1 : Offer) (x2 : ViewInfo) : Option Bool := match M3 { (default : Fr3) with t0 := x0, t1 := x1, t2 := x2 } with
  | some (.nrm, s) => some s.t6
  | some (.ret, s) => some s.t6
  | _ => none
theorem G3_spec : Spec3 (G3) := by
  intro x0 x1 x2 vx0_0 hvx0_0 vx0_1 hvx0_1 vx0_2 hvx0_2 vx0_3 hvx0_3 vx1_0 hvx1_0 r hr
  unfold G3 at hr
  cases hm : M3 { (default : Fr3) with t0 := x0, t1 := x1, t2 := x2 } with
  | none => rw [hm] at hr; cases hr
  | some q =>
    obtain ⟨x, s⟩ := q
    rw [hm] at hr
    have hx : x = .nrm ∨ x = .ret := by cases x <;> first | exact .inl rfl | exact .inr rfl | cases hr
    have hr : s.t6 = r := by cases x <;> first | exact Option.some.inj hr | cases hr
    subst hr
    have hp0 : P3_13' ({ (default : Fr3) with t0 := x0, t1 := x1, t2 := x2 }) (slots Tryz.f3 (stripL [.agg [vx0_0, vx0_1, vx0_2, vx0_3], .agg [.int .i64 x1.Rows, .int .i64 x1.Head, .int .i64 x1.Facts, vx1_0], .agg [.int .i64 x2.Set, .int .i64 x2.State, .int .i64 x2.Seq, .int .i64 x2.Rows, .int .i64 x2.Bytes, .int .i64 x2.Readers]])) bare := ⟨(strip vx0_0 : AVal), (strip vx0_1 : AVal), (strip vx0_2 : AVal), (strip vx0_3 : AVal), (strip vx1_0 : AVal), rfl, rfl, hvx0_0.strip rPick_p, hvx0_1.strip rS_p, rTestT_p.str _ _ hvx0_2, hvx0_3.strip (rI_p .i64), rfl, hvx1_0.strip rViewInfo_p, rfl⟩
    obtain ⟨v, hR, hrun⟩ := run_of_ref (C := Cl) (f := 3) (fn := Tryz.f3) Tryz.func3 rfl rfl rfl rfl (args := [.agg [vx0_0, vx0_1, vx0_2, vx0_3], .agg [.int .i64 x1.Rows, .int .i64 x1.Head, .int .i64 x1.Facts, vx1_0], .agg [.int .i64 x2.Set, .int .i64 x2.State, .int .i64 x2.Seq, .int .i64 x2.Rows, .int .i64 x2.Bytes, .int .i64 x2.Readers]]) (by simp only [refsL, refs, List.append_nil, hvx0_0.refs rPick_p, hvx0_1.refs rS_p, refs_one (rTestT_p.ref _ _ hvx0_2), hvx0_3.refs (rI_p .i64), hvx1_0.refs rViewInfo_p]) (B3) (s0 := { (default : Fr3) with t0 := x0, t1 := x1, t2 := x2 }) hp0 hm hx (R := fun v => v = .bool s.t6) (by
      have key : ∀ st : ASt, P3_1 s st → ∃ vs v, aresults Cl Tryz.f3.results.toList st = some vs ∧ Nrm [] st.h (packRes vs) v ∧ (fun v => v = .bool s.t6) v := by
        intro st hp
        obtain ⟨hl, a6⟩ := (hp : P3_1' s st.tmps st.h)
        exact ⟨[.bool s.t6], _, by simp only [show Tryz.f3.results.toList = [ResultVar.tmp 6] from rfl, aresults, ares1, CP, a6, Option.getD_some], (Nrm.of (w := .bool s.t6) (by simp only [refsL, refs, List.append_nil])), rfl⟩
      intro st hq
      rcases hx with rfl | rfl
      · exact key st hq
      · exact key st hq)
    subst hR
    exact hrun
end Go.Proofs.Pln
