/-
  PLAN (aa, B): functions (printed by wip/tools/tg.py).
-/
import Derived.Test.YtijnepmlnfcpnaaGreatDoorPlmBTypes
import Derived.Test.YtijnepmlnfcpnaaGreatDoorAmPack
set_option linter.unusedVariables false
set_option linter.unusedSimpArgs false
set_option linter.unusedSimpArgs false
set_option linter.unusedVariables false
set_option maxRecDepth 100000
namespace Go.Proofs.Plm
open Go Go.Am Go.Proofs
def rFnB0 (g : (ViewInfo → Option Bool)) (v : AVal) : Prop := ∃ F L, v = .fn (.func F) [] L ∧ refsL L = [] ∧ stripL L = L ∧ ∀ (x0 : ViewInfo) (r : Bool), g x0 = some r → ∀ h, run Cl F (.agg [.int .i64 x0.Set, .int .i64 x0.State, .int .i64 x0.Seq, .int .i64 x0.Rows, .int .i64 x0.Bytes, .int .i64 x0.Readers] :: L) h = some (.ret (.bool r), h)
theorem rFnB0_strip {g : (ViewInfo → Option Bool)} {v : AVal} (h : rFnB0 g v) : rFnB0 g (strip v) := by
  obtain ⟨F, L, rfl, rL, sL, H⟩ := h
  exact ⟨F, L, by simp only [strip, stripL, sL], rL, sL, H⟩
theorem rFnB0_refs {g : (ViewInfo → Option Bool)} {v : AVal} (h : rFnB0 g v) : refs v = [] := by
  obtain ⟨F, L, rfl, rL, sL, H⟩ := h
  simp only [refs, refsL, rL, List.append_nil]
def rFnB1 (g : (ViewInfo → ViewInfo → Option Int)) (v : AVal) : Prop := ∃ F L, v = .fn (.func F) [] L ∧ refsL L = [] ∧ stripL L = L ∧ ∀ (x0 : ViewInfo) (x1 : ViewInfo) (r : Int), g x0 x1 = some r → ∀ h, run Cl F (.agg [.int .i64 x0.Set, .int .i64 x0.State, .int .i64 x0.Seq, .int .i64 x0.Rows, .int .i64 x0.Bytes, .int .i64 x0.Readers] :: .agg [.int .i64 x1.Set, .int .i64 x1.State, .int .i64 x1.Seq, .int .i64 x1.Rows, .int .i64 x1.Bytes, .int .i64 x1.Readers] :: L) h = some (.ret (.int .i64 r), h)
theorem rFnB1_strip {g : (ViewInfo → ViewInfo → Option Int)} {v : AVal} (h : rFnB1 g v) : rFnB1 g (strip v) := by
  obtain ⟨F, L, rfl, rL, sL, H⟩ := h
  exact ⟨F, L, by simp only [strip, stripL, sL], rL, sL, H⟩
theorem rFnB1_refs {g : (ViewInfo → ViewInfo → Option Int)} {v : AVal} (h : rFnB1 g v) : refs v = [] := by
  obtain ⟨F, L, rfl, rL, sL, H⟩ := h
  simp only [refs, refsL, rL, List.append_nil]
/-! ### caisson/bind.Reads -/
structure Fr22 where
  t0 : TestT
  t2 : Int
  t3 : Bool
  t6 : Bool
instance : Inhabited Fr22 := ⟨⟨default, 0, false, false⟩⟩
def P22_0' (s : Fr22) (t : List AVal) (h : AHeap) : Prop := ∃ w0_0, t.length = 11 ∧ t[0]? = some w0_0 ∧ rTestT s.t0 [w0_0]
def P22_0 (s : Fr22) (st : ASt) : Prop := P22_0' s st.tmps st.h
def P22_1' (s : Fr22) (t : List AVal) (h : AHeap) : Prop := t.length = 11 ∧ t[2]? = some (.int .i64 s.t2) ∧ t[3]? = some (.bool s.t3)
def P22_1 (s : Fr22) (st : ASt) : Prop := P22_1' s st.tmps st.h
def P22_2' (s : Fr22) (t : List AVal) (h : AHeap) : Prop := t.length = 11 ∧ True
def P22_2 (s : Fr22) (st : ASt) : Prop := P22_2' s st.tmps st.h
def P22_3' (s : Fr22) (t : List AVal) (h : AHeap) : Prop := ∃ w0_0, t.length = 11 ∧ t[0]? = some w0_0 ∧ rTestT s.t0 [w0_0] ∧ t[6]? = some (.bool s.t6)
def P22_3 (s : Fr22) (st : ASt) : Prop := P22_3' s st.tmps st.h
noncomputable def m22_0 : Mo Fr22 := fun s => (F78 5000 s.t0).bind fun z1 => some (.nrm, { s with t2 := z1.1, t3 := z1.2 })
noncomputable def m22_1 : Mo Fr22 := fun s => some (.nrm, { s with t2 := 63, t3 := true })
noncomputable def m22_2 : Mo Fr22 := fun s => (S66 s.t0).bind fun z5 => some (.nrm, { s with t6 := decide (z5 > 4096) })
noncomputable def m22_3 : Mo Fr22 := fun s => some (.nrm, s)
noncomputable def M22 : Mo Fr22 := seqM (m22_3) (seqM (seqM (m22_2) (condM (fun s => s.t6) (seqM (m22_1) (retM)) (skipM))) (seqM (m22_0) (retM)))
def Spec22 (f : TestT → Option (Int × Bool)) : Prop := ∀ (x0 : TestT) (vx0_0 : AVal) (_ : rTestT x0 [vx0_0]) (r : (Int × Bool)), f x0 = some r → ∀ h, run Cl 22 [vx0_0] h = some (.ret (.tup [.int .i64 r.1, .bool r.2]), h)
theorem Spec22_of {f g : TestT → Option (Int × Bool)} (hg : Spec22 g) (h : ∀ x0 r, f x0 = some r → g x0 = some r) : Spec22 f := fun x0 v0_ w0_ r hr => hg x0 v0_ w0_ r (h x0 r hr)
theorem R22_0 (pe pr) : Ref Cl P22_0 (Cat [true, true, false] (bodyOf Tryz.f22)) m22_0 (post P22_1 pe pr) := by
  rintro s ⟨t, h⟩ hp x s' hm
  obtain ⟨w0_0, hl, a0, r0_0⟩ : P22_0' s t h := hp
  unfold m22_0 at hm
  obtain ⟨z3, hz3, hm⟩ := Option.bind_eq_some_iff.1 hm
  have iu4 := (F78_spec 5000) s.t0 _ r0_0 _ hz3
  cases hm
  refine ⟨⟨_, _⟩, by simp only [bodyOf, Tryz.f22, Cat, Zs, awanted, aoper, evalO, put, acallOp, abuiltin, Nat.reduceEqDiff, Nat.reduceLT, ofV, ofCell, ↓reduceIte, hl, a0, CP, iu4]; exact rfl, ?_⟩
  show P22_1 _ _
  exact ⟨by simp [hl], by simp [hl], by simp [hl]⟩
theorem R22_1 (pe pr) : Ref Cl P22_2 (Cat [true, false, true, false, false] (bodyOf Tryz.f22)) m22_1 (post P22_1 pe pr) := by
  rintro s ⟨t, h⟩ hp x s' hm
  obtain ⟨hl, _⟩ : P22_2' s t h := hp
  unfold m22_1 at hm
  cases hm
  refine ⟨⟨_, _⟩, by simp only [bodyOf, Tryz.f22, Cat, Zs, awanted, aoper, evalO, put, acallOp, abuiltin, Nat.reduceEqDiff, Nat.reduceLT, ofV, ofCell, ↓reduceIte, hl, CP]; exact rfl, ?_⟩
  show P22_1 _ _
  exact ⟨by simp [hl], by simp [hl], by simp [hl]⟩
theorem R22_2 (pe pr) : Ref Cl P22_0 (Cat [true, false, false] (bodyOf Tryz.f22)) m22_2 (post P22_3 pe pr) := by
  rintro s ⟨t, h⟩ hp x s' hm
  obtain ⟨w0_0, hl, a0, r0_0⟩ : P22_0' s t h := hp
  unfold m22_2 at hm
  obtain ⟨z7, hz7, hm⟩ := Option.bind_eq_some_iff.1 hm
  have iu8 := S66_spec s.t0 _ r0_0 _ hz7
  cases hm
  refine ⟨⟨_, _⟩, by simp only [bodyOf, Tryz.f22, Cat, Zs, awanted, aoper, evalO, put, acallOp, abuiltin, Nat.reduceEqDiff, Nat.reduceLT, ofV, ofCell, ↓reduceIte, hl, a0, CP, iu8]; exact rfl, ?_⟩
  show P22_3 _ _
  exact ⟨w0_0, by simp [hl], by simp [a0], r0_0, by simp [hl]⟩
theorem R22_3 (pe pr) : Ref Cl P22_0 (Cat [false] (bodyOf Tryz.f22)) m22_3 (post P22_0 pe pr) := by
  rintro s ⟨t, h⟩ hp x s' hm
  obtain ⟨w0_0, hl, a0, r0_0⟩ : P22_0' s t h := hp
  unfold m22_3 at hm
  cases hm
  refine ⟨⟨_, _⟩, by simp only [bodyOf, Tryz.f22, Cat, Zs, awanted, aoper, evalO, put, acallOp, abuiltin, Nat.reduceEqDiff, Nat.reduceLT, ofV, ofCell, ↓reduceIte, hl, a0, CP]; exact rfl, ?_⟩
  show P22_0 _ _
  exact ⟨w0_0, by simp [hl], by simp [a0], r0_0⟩
theorem B22 : Ref Cl P22_0 (bodyOf Tryz.f22) (M22) (post P22_1 (fun _ _ _ => False) P22_1) := by
  rw [show bodyOf Tryz.f22 = .seq (Cat [false] (bodyOf Tryz.f22)) (.seq (.seq (Cat [true, false, false] (bodyOf Tryz.f22)) (.cond (.tmp 6) (.seq (Cat [true, false, true, false, false] (bodyOf Tryz.f22)) (.ret)) (.skip))) (.seq (Cat [true, true, false] (bodyOf Tryz.f22)) (.ret))) from rfl]
  unfold M22
  exact ref_seq (R22_3 _ _) (ref_seq (ref_seq (R22_2 _ _) (ref_cond (P := P22_3) (c := fun s => s.t6) (fun s st hp => by obtain ⟨w0_0, hl, a0, r0_0, a6⟩ := (hp : P22_3' s st.tmps st.h); simp only [evalO, a6, Option.getD_some]) (ref_weak (P' := P22_2) (fun s st hp => by obtain ⟨w0_0, hl, a0, r0_0, a6⟩ := (hp : P22_3' s st.tmps st.h); exact (⟨hl, trivial⟩ : P22_2' s st.tmps st.h)) (ref_seq (R22_1 _ _) (ref_ret (fun s st hp => hp)))) (ref_weak (P' := P22_0) (fun s st hp => by obtain ⟨w0_0, hl, a0, r0_0, a6⟩ := (hp : P22_3' s st.tmps st.h); exact (⟨w0_0, hl, a0, r0_0⟩ : P22_0' s st.tmps st.h)) (ref_skip (fun s st hp => hp))))) (ref_seq (R22_0 _ _) (ref_ret (fun s st hp => hp))))
noncomputable def G22 (x0 : TestT) : Option (Int × Bool) := match M22 { (default : Fr22) with t0 := x0 } with
  | some (.nrm, s) => some (s.t2, s.t3)
  | some (.ret, s) => some (s.t2, s.t3)
  | _ => none
theorem G22_spec : Spec22 (G22) := by
  intro x0 vx0_0 hvx0_0 r hr
  unfold G22 at hr
  cases hm : M22 { (default : Fr22) with t0 := x0 } with
  | none => rw [hm] at hr; cases hr
  | some q =>
    obtain ⟨x, s⟩ := q
    rw [hm] at hr
    have hx : x = .nrm ∨ x = .ret := by cases x <;> first | exact .inl rfl | exact .inr rfl | cases hr
    have hr : (s.t2, s.t3) = r := by cases x <;> first | exact Option.some.inj hr | cases hr
    subst hr
    have hp0 : P22_0' ({ (default : Fr22) with t0 := x0 }) (slots Tryz.f22 (stripL [vx0_0])) bare := ⟨(strip vx0_0 : AVal), rfl, rfl, rTestT_p.str _ _ hvx0_0⟩
    obtain ⟨v, hR, hrun⟩ := run_of_ref (C := Cl) (f := 22) (fn := Tryz.f22) Tryz.func22 rfl rfl rfl rfl (args := [vx0_0]) (by simp only [refsL, refs, List.append_nil, refs_one (rTestT_p.ref _ _ hvx0_0)]) (B22) (s0 := { (default : Fr22) with t0 := x0 }) hp0 hm hx (R := fun v => v = .tup [.int .i64 s.t2, .bool s.t3]) (by
      have key : ∀ st : ASt, P22_1 s st → ∃ vs v, aresults Cl Tryz.f22.results.toList st = some vs ∧ Nrm [] st.h (packRes vs) v ∧ (fun v => v = .tup [.int .i64 s.t2, .bool s.t3]) v := by
        intro st hp
        obtain ⟨hl, a2, a3⟩ := (hp : P22_1' s st.tmps st.h)
        exact ⟨[.int .i64 s.t2, .bool s.t3], _, by simp only [show Tryz.f22.results.toList = [ResultVar.tmp 2, ResultVar.tmp 3] from rfl, aresults, ares1, CP, a2, a3, Option.getD_some], (Nrm.tup (NrmL.cons (Nrm.of (w := .int .i64 s.t2) (by simp only [refsL, refs, List.append_nil])) (NrmL.cons (Nrm.of (w := .bool s.t3) (by simp only [refsL, refs, List.append_nil])) NrmL.nil))), rfl⟩
      intro st hq
      rcases hx with rfl | rfl
      · exact key st hq
      · exact key st hq)
    subst hR
    exact hrun
/-! ### caisson/cube.Need -/
structure Fr27 where
  t0 : Bound
  t1 : Bound
  t2 : Int
  t3 : Bool
  t4 : Int
  t5 : Bool
  t7 : Int
  t15 : (List Int)
  t16 : Int
  t17 : Int
  t18 : Bool
instance : Inhabited Fr27 := ⟨⟨default, default, 0, false, 0, false, 0, [], 0, 0, false⟩⟩
def P27_0' (s : Fr27) (t : List AVal) (h : AHeap) : Prop := t.length = 29 ∧ t[4]? = some (.int .i64 s.t4) ∧ t[5]? = some (.bool s.t5)
def P27_0 (s : Fr27) (st : ASt) : Prop := P27_0' s st.tmps st.h
def P27_1' (s : Fr27) (t : List AVal) (h : AHeap) : Prop := t.length = 29 ∧ t[2]? = some (.int .i64 s.t2) ∧ t[3]? = some (.bool s.t3)
def P27_1 (s : Fr27) (st : ASt) : Prop := P27_1' s st.tmps st.h
def P27_2' (s : Fr27) (t : List AVal) (h : AHeap) : Prop := ∃ w15_0, t.length = 29 ∧ t[4]? = some (.int .i64 s.t4) ∧ t[5]? = some (.bool s.t5) ∧ t[15]? = some w15_0 ∧ Sl (rI .i64) s.t15 w15_0 ∧ t[16]? = some (.int .i64 s.t16) ∧ t[17]? = some (.int .i64 s.t17)
def P27_2 (s : Fr27) (st : ASt) : Prop := P27_2' s st.tmps st.h
def P27_3' (s : Fr27) (t : List AVal) (h : AHeap) : Prop := ∃ w15_0, t.length = 29 ∧ t[4]? = some (.int .i64 s.t4) ∧ t[5]? = some (.bool s.t5) ∧ t[7]? = some (.int .i64 s.t7) ∧ t[15]? = some w15_0 ∧ Sl (rI .i64) s.t15 w15_0 ∧ t[16]? = some (.int .i64 s.t16) ∧ t[17]? = some (.int .i64 s.t17)
def P27_3 (s : Fr27) (st : ASt) : Prop := P27_3' s st.tmps st.h
def P27_4' (s : Fr27) (t : List AVal) (h : AHeap) : Prop := ∃ w15_0, t.length = 29 ∧ t[4]? = some (.int .i64 s.t4) ∧ t[5]? = some (.bool s.t5) ∧ t[15]? = some w15_0 ∧ Sl (rI .i64) s.t15 w15_0 ∧ t[16]? = some (.int .i64 s.t16) ∧ t[17]? = some (.int .i64 s.t17) ∧ t[18]? = some (.bool s.t18)
def P27_4 (s : Fr27) (st : ASt) : Prop := P27_4' s st.tmps st.h
def P27_5' (s : Fr27) (t : List AVal) (h : AHeap) : Prop := ∃ w1_0 w1_1 w1_2 w1_3, t.length = 29 ∧ t[1]? = some (.iptr [w1_0, w1_1, w1_2, w1_3]) ∧ Sl rPick s.t1.Picks w1_0 ∧ Sl rS s.t1.Names w1_1 ∧ rTestT s.t1.Where [w1_2] ∧ Sl (rI .i64) s.t1.Sets w1_3 ∧ t[4]? = some (.int .i64 s.t4) ∧ t[5]? = some (.bool s.t5)
def P27_5 (s : Fr27) (st : ASt) : Prop := P27_5' s st.tmps st.h
def P27_6' (s : Fr27) (t : List AVal) (h : AHeap) : Prop := ∃ w1_0 w1_1 w1_2 w1_3, t.length = 29 ∧ t[1]? = some (.iptr [w1_0, w1_1, w1_2, w1_3]) ∧ Sl rPick s.t1.Picks w1_0 ∧ Sl rS s.t1.Names w1_1 ∧ rTestT s.t1.Where [w1_2] ∧ Sl (rI .i64) s.t1.Sets w1_3
def P27_6 (s : Fr27) (st : ASt) : Prop := P27_6' s st.tmps st.h
def P27_7' (s : Fr27) (t : List AVal) (h : AHeap) : Prop := ∃ w0_0 w0_1 w0_2 w0_3, t.length = 29 ∧ t[0]? = some (.agg [w0_0, w0_1, w0_2, w0_3]) ∧ Sl rPick s.t0.Picks w0_0 ∧ Sl rS s.t0.Names w0_1 ∧ rTestT s.t0.Where [w0_2] ∧ Sl (rI .i64) s.t0.Sets w0_3
def P27_7 (s : Fr27) (st : ASt) : Prop := P27_7' s st.tmps st.h
noncomputable def m27_0 : Mo Fr27 := fun s => some (.nrm, { s with t2 := s.t4, t3 := s.t5 })
noncomputable def m27_1 : Mo Fr27 := fun s => some (.nrm, { s with t17 := IntKind.wrap .i64 (s.t17 + 1) })
noncomputable def m27_2 : Mo Fr27 := fun s => (G82 s.t7).bind fun z1 => (G41 z1).bind fun z3 => some (.nrm, { s with t4 := bits .or .i64 s.t4 z3 })
noncomputable def m27_3 : Mo Fr27 := fun s => (at? s.t15 s.t17).bind fun y9 => some (.nrm, { s with t7 := y9 })
noncomputable def m27_4 : Mo Fr27 := fun s => some (.nrm, { s with t18 := decide (s.t17 < s.t16) })
noncomputable def L27_5 : Mo Fr27 := seqM (m27_4) (seqM (condM (fun s => s.t18) (skipM) (exitM 0)) (seqM (blockM 1 (seqM (m27_3) (m27_2))) (m27_1)))
noncomputable def m27_6 : Mo Fr27 := fun s => some (.nrm, { s with t15 := s.t1.Sets, t16 := (s.t1.Sets.length : Int), t17 := 0 })
noncomputable def m27_7 : Mo Fr27 := fun s => (G22 s.t1.Where).bind fun z15 => some (.nrm, { s with t4 := z15.1, t5 := z15.2 })
noncomputable def m27_8 : Mo Fr27 := fun s => some (.nrm, { s with t1 := s.t0 })
noncomputable def M27 : Mo Fr27 := seqM (m27_8) (seqM (m27_7) (seqM (seqM (m27_6) (blockM 0 (loopM (L27_5)))) (seqM (m27_0) (retM))))
def Spec27 (f : Bound → Option (Int × Bool)) : Prop := ∀ (x0 : Bound) (vx0_0 : AVal) (_ : Sl rPick x0.Picks vx0_0) (vx0_1 : AVal) (_ : Sl rS x0.Names vx0_1) (vx0_2 : AVal) (_ : rTestT x0.Where [vx0_2]) (vx0_3 : AVal) (_ : Sl (rI .i64) x0.Sets vx0_3) (r : (Int × Bool)), f x0 = some r → ∀ h, run Cl 27 [.agg [vx0_0, vx0_1, vx0_2, vx0_3]] h = some (.ret (.tup [.int .i64 r.1, .bool r.2]), h)
theorem Spec27_of {f g : Bound → Option (Int × Bool)} (hg : Spec27 g) (h : ∀ x0 r, f x0 = some r → g x0 = some r) : Spec27 f := fun x0 v0_ w0_ v1_ w1_ v2_ w2_ v3_ w3_ r hr => hg x0 v0_ w0_ v1_ w1_ v2_ w2_ v3_ w3_ r (h x0 r hr)
theorem R27_0 (pe pr) : Ref Cl P27_0 (Cat [true, true, true, false] (bodyOf Tryz.f27)) m27_0 (post P27_1 pe pr) := by
  rintro s ⟨t, h⟩ hp x s' hm
  obtain ⟨hl, a4, a5⟩ : P27_0' s t h := hp
  unfold m27_0 at hm
  cases hm
  refine ⟨⟨_, _⟩, by simp only [bodyOf, Tryz.f27, Cat, Zs, awanted, aoper, evalO, put, acallOp, abuiltin, Nat.reduceEqDiff, Nat.reduceLT, ofV, ofCell, ↓reduceIte, hl, a4, a5, CP]; exact rfl, ?_⟩
  show P27_1 _ _
  exact ⟨by simp [hl], by simp [hl], by simp [hl]⟩
theorem R27_1 (pe pr) : Ref Cl P27_2 (Cat [true, true, false, true, true, true, true, true, true] (bodyOf Tryz.f27)) m27_1 (post P27_2 pe pr) := by
  rintro s ⟨t, h⟩ hp x s' hm
  obtain ⟨w15_0, hl, a4, a5, a15, r15_0, a16, a17⟩ : P27_2' s t h := hp
  unfold m27_1 at hm
  cases hm
  refine ⟨⟨_, _⟩, by simp only [bodyOf, Tryz.f27, Cat, Zs, awanted, aoper, evalO, put, acallOp, abuiltin, Nat.reduceEqDiff, Nat.reduceLT, ofV, ofCell, ↓reduceIte, hl, a4, a5, a15, a16, a17, CP]; exact rfl, ?_⟩
  show P27_2 _ _
  exact ⟨w15_0, by simp [hl], by simp [a4], by simp [a5], by simp [a15], r15_0, by simp [a16], by simp [hl]⟩
theorem R27_2 (pe pr) : Ref Cl P27_3 (Cat [true, true, false, true, true, true, true, true, false, true, true] (bodyOf Tryz.f27)) m27_2 (post P27_2 pe pr) := by
  rintro s ⟨t, h⟩ hp x s' hm
  obtain ⟨w15_0, hl, a4, a5, a7, a15, r15_0, a16, a17⟩ : P27_3' s t h := hp
  unfold m27_2 at hm
  obtain ⟨z5, hz5, hm⟩ := Option.bind_eq_some_iff.1 hm
  obtain ⟨bu6_0, gu6_0, iu6⟩ := G82_spec s.t7  _ hz5
  obtain ⟨z7, hz7, hm⟩ := Option.bind_eq_some_iff.1 hm
  have iu8 := G41_spec z5 _ gu6_0 _ hz7
  cases hm
  refine ⟨⟨_, _⟩, by simp only [bodyOf, Tryz.f27, Cat, Zs, awanted, aoper, evalO, put, acallOp, abuiltin, Nat.reduceEqDiff, Nat.reduceLT, ofV, ofCell, ↓reduceIte, hl, a4, a5, a7, a15, a16, a17, CP, iu6, iu8, TyB.or3]; exact rfl, ?_⟩
  show P27_2 _ _
  exact ⟨w15_0, by simp [hl], by simp [hl], by simp [a5], by simp [a15], r15_0, by simp [a16], by simp [a17]⟩
theorem R27_3 (pe pr) : Ref Cl P27_2 (Cat [true, true, false, true, true, true, true, true, false, true, false] (bodyOf Tryz.f27)) m27_3 (post P27_3 pe pr) := by
  rintro s ⟨t, h⟩ hp x s' hm
  obtain ⟨w15_0, hl, a4, a5, a15, r15_0, a16, a17⟩ : P27_2' s t h := hp
  unfold m27_3 at hm
  obtain ⟨y11, hy11, hm⟩ := Option.bind_eq_some_iff.1 hm
  obtain ⟨cu12, du12, eu12, iu12, _⟩ := Sl.ix (rI_p .i64) r15_0 hy11
  subst eu12
  cases hm
  refine ⟨⟨_, _⟩, by simp only [bodyOf, Tryz.f27, Cat, Zs, awanted, aoper, evalO, put, acallOp, abuiltin, Nat.reduceEqDiff, Nat.reduceLT, ofV, ofCell, ↓reduceIte, hl, a4, a5, a15, a16, a17, CP, TyB.ix33, iu12, TyB.ld3, ld_ip, ofc1, List.drop_succ_cons, List.drop_zero]; exact rfl, ?_⟩
  show P27_3 _ _
  exact ⟨w15_0, by simp [hl], by simp [a4], by simp [a5], by simp [hl], by simp [a15], r15_0, by simp [a16], by simp [a17]⟩
theorem R27_4 (pe pr) : Ref Cl P27_2 (Cat [true, true, false, true, true, true, false] (bodyOf Tryz.f27)) m27_4 (post P27_4 pe pr) := by
  rintro s ⟨t, h⟩ hp x s' hm
  obtain ⟨w15_0, hl, a4, a5, a15, r15_0, a16, a17⟩ : P27_2' s t h := hp
  unfold m27_4 at hm
  cases hm
  refine ⟨⟨_, _⟩, by simp only [bodyOf, Tryz.f27, Cat, Zs, awanted, aoper, evalO, put, acallOp, abuiltin, Nat.reduceEqDiff, Nat.reduceLT, ofV, ofCell, ↓reduceIte, hl, a4, a5, a15, a16, a17, CP]; exact rfl, ?_⟩
  show P27_4 _ _
  exact ⟨w15_0, by simp [hl], by simp [a4], by simp [a5], by simp [a15], r15_0, by simp [a16], by simp [a17], by simp [hl]⟩
theorem R27_6 (pe pr) : Ref Cl P27_5 (Cat [true, true, false, false] (bodyOf Tryz.f27)) m27_6 (post P27_2 pe pr) := by
  rintro s ⟨t, h⟩ hp x s' hm
  obtain ⟨w1_0, w1_1, w1_2, w1_3, hl, a1, r1_0, r1_1, r1_2, r1_3, a4, a5⟩ : P27_5' s t h := hp
  unfold m27_6 at hm
  have lu14 := fun h => Sl.len r1_3 TyB.un33 h
  cases hm
  refine ⟨⟨_, _⟩, by simp only [bodyOf, Tryz.f27, Cat, Zs, awanted, aoper, evalO, put, acallOp, abuiltin, Nat.reduceEqDiff, Nat.reduceLT, ofV, ofCell, ↓reduceIte, hl, a1, a4, a5, CP, TyB.fa35_3, dropCells, List.drop_succ_cons, List.drop_zero, TyB.ld33, ld_ip, ofc1, List.drop_succ_cons, List.drop_zero, lu14]; exact rfl, ?_⟩
  show P27_2 _ _
  exact ⟨w1_3, by simp [hl], by simp [a4], by simp [a5], by simp [hl], r1_3, by simp [hl], by simp [hl]⟩
theorem R27_7 (pe pr) : Ref Cl P27_6 (Cat [true, false] (bodyOf Tryz.f27)) m27_7 (post P27_5 pe pr) := by
  rintro s ⟨t, h⟩ hp x s' hm
  obtain ⟨w1_0, w1_1, w1_2, w1_3, hl, a1, r1_0, r1_1, r1_2, r1_3⟩ : P27_6' s t h := hp
  unfold m27_7 at hm
  obtain ⟨z17, hz17, hm⟩ := Option.bind_eq_some_iff.1 hm
  have iu18 := G22_spec s.t1.Where _ r1_2 _ hz17
  cases hm
  refine ⟨⟨_, _⟩, by simp only [bodyOf, Tryz.f27, Cat, Zs, awanted, aoper, evalO, put, acallOp, abuiltin, Nat.reduceEqDiff, Nat.reduceLT, ofV, ofCell, ↓reduceIte, hl, a1, CP, TyB.fa35_2, dropCells, List.drop_succ_cons, List.drop_zero, TyB.ld32, ld_ip, ofc1, List.drop_succ_cons, List.drop_zero, iu18]; exact rfl, ?_⟩
  show P27_5 _ _
  exact ⟨w1_0, w1_1, w1_2, w1_3, by simp [hl], by simp [a1], r1_0, r1_1, r1_2, r1_3, by simp [hl], by simp [hl]⟩
theorem R27_8 (pe pr) : Ref Cl P27_7 (Cat [false] (bodyOf Tryz.f27)) m27_8 (post P27_6 pe pr) := by
  rintro s ⟨t, h⟩ hp x s' hm
  obtain ⟨w0_0, w0_1, w0_2, w0_3, hl, a0, r0_0, r0_1, r0_2, r0_3⟩ : P27_7' s t h := hp
  unfold m27_8 at hm
  have ic23 : (w0_0 : AVal).isCell = true := Sl.isCell r0_0
  have ic24 : (w0_1 : AVal).isCell = true := Sl.isCell r0_1
  have ic25 : (w0_2 : AVal).isCell = true := rTestT_cell r0_2
  have ic26 : (w0_3 : AVal).isCell = true := Sl.isCell r0_3
  cases hm
  refine ⟨⟨_, _⟩, by simp only [bodyOf, Tryz.f27, Cat, Zs, awanted, aoper, evalO, put, acallOp, abuiltin, Nat.reduceEqDiff, Nat.reduceLT, ofV, ofCell, ↓reduceIte, hl, a0, CP, TyB.cb_parse_go_148, TyB.cb_parse_go_143, TyB.cb_parse_go_130, TyB.cb_plan_go_27, TyB.cb_plan_go_29, TyB.cb_plan_go_31, TyB.cb_plan_go_41, TyB.cb_plan_go_61, TyB.cb_cube_go_25, TyB.cb_law_go_39, TyB.cb_ref_go_26, TyB.cb_ref_go_48, TyB.cb_ref_go_57, TyB.cb_ref_go_65, ic23, bx_c ic23, cl_c ic23, ic24, bx_c ic24, cl_c ic24, ic25, bx_c ic25, cl_c ic25, ic26, bx_c ic26, cl_c ic26, Zc]; exact rfl, ?_⟩
  show P27_6 _ _
  exact ⟨w0_0, w0_1, w0_2, w0_3, by simp [hl], by simp [hl], r0_0, r0_1, r0_2, r0_3⟩
theorem B27 : Ref Cl P27_7 (bodyOf Tryz.f27) (M27) (post P27_1 (fun _ _ _ => False) P27_1) := by
  rw [show bodyOf Tryz.f27 = .seq (Cat [false] (bodyOf Tryz.f27)) (.seq (Cat [true, false] (bodyOf Tryz.f27)) (.seq (.seq (Cat [true, true, false, false] (bodyOf Tryz.f27)) (.block 0 (.loop (.seq (Cat [true, true, false, true, true, true, false] (bodyOf Tryz.f27)) (.seq (.cond (.tmp 18) (.skip) (.exit 0)) (.seq (.block 1 (.seq (Cat [true, true, false, true, true, true, true, true, false, true, false] (bodyOf Tryz.f27)) (Cat [true, true, false, true, true, true, true, true, false, true, true] (bodyOf Tryz.f27)))) (Cat [true, true, false, true, true, true, true, true, true] (bodyOf Tryz.f27)))))))) (.seq (Cat [true, true, true, false] (bodyOf Tryz.f27)) (.ret)))) from rfl]
  unfold M27
  exact ref_seq (R27_8 _ _) (ref_seq (R27_7 _ _) (ref_seq (ref_seq (R27_6 _ _) (ref_block (ref_loop (P := P27_2) (ref_weak (P' := P27_2) (fun s st hp => hp) (ref_seq (R27_4 _ _) (ref_seq (ref_cond (P := P27_4) (c := fun s => s.t18) (fun s st hp => by obtain ⟨w15_0, hl, a4, a5, a15, r15_0, a16, a17, a18⟩ := (hp : P27_4' s st.tmps st.h); simp only [evalO, a18, Option.getD_some]) (ref_weak (P' := P27_2) (fun s st hp => by obtain ⟨w15_0, hl, a4, a5, a15, r15_0, a16, a17, a18⟩ := (hp : P27_4' s st.tmps st.h); exact (⟨w15_0, hl, a4, a5, a15, r15_0, a16, a17⟩ : P27_2' s st.tmps st.h)) (ref_skip (fun s st hp => hp))) (ref_weak (P' := P27_0) (fun s st hp => by obtain ⟨w15_0, hl, a4, a5, a15, r15_0, a16, a17, a18⟩ := (hp : P27_4' s st.tmps st.h); exact (⟨hl, a4, a5⟩ : P27_0' s st.tmps st.h)) (ref_exit (fun s st hp => hp)))) (ref_seq (ref_block (ref_seq (R27_3 _ _) (R27_2 _ _))) (R27_1 _ _)))))))) (ref_seq (R27_0 _ _) (ref_ret (fun s st hp => hp)))))
noncomputable def G27 (x0 : Bound) : Option (Int × Bool) := match M27 { (default : Fr27) with t0 := x0 } with
  | some (.nrm, s) => some (s.t2, s.t3)
  | some (.ret, s) => some (s.t2, s.t3)
  | _ => none
theorem G27_spec : Spec27 (G27) := by
  intro x0 vx0_0 hvx0_0 vx0_1 hvx0_1 vx0_2 hvx0_2 vx0_3 hvx0_3 r hr
  unfold G27 at hr
  cases hm : M27 { (default : Fr27) with t0 := x0 } with
  | none => rw [hm] at hr; cases hr
  | some q =>
    obtain ⟨x, s⟩ := q
    rw [hm] at hr
    have hx : x = .nrm ∨ x = .ret := by cases x <;> first | exact .inl rfl | exact .inr rfl | cases hr
    have hr : (s.t2, s.t3) = r := by cases x <;> first | exact Option.some.inj hr | cases hr
    subst hr
    have hp0 : P27_7' ({ (default : Fr27) with t0 := x0 }) (slots Tryz.f27 (stripL [.agg [vx0_0, vx0_1, vx0_2, vx0_3]])) bare := ⟨(strip vx0_0 : AVal), (strip vx0_1 : AVal), (strip vx0_2 : AVal), (strip vx0_3 : AVal), rfl, rfl, hvx0_0.strip rPick_p, hvx0_1.strip rS_p, rTestT_p.str _ _ hvx0_2, hvx0_3.strip (rI_p .i64)⟩
    obtain ⟨v, hR, hrun⟩ := run_of_ref (C := Cl) (f := 27) (fn := Tryz.f27) Tryz.func27 rfl rfl rfl rfl (args := [.agg [vx0_0, vx0_1, vx0_2, vx0_3]]) (by simp only [refsL, refs, List.append_nil, hvx0_0.refs rPick_p, hvx0_1.refs rS_p, refs_one (rTestT_p.ref _ _ hvx0_2), hvx0_3.refs (rI_p .i64)]) (B27) (s0 := { (default : Fr27) with t0 := x0 }) hp0 hm hx (R := fun v => v = .tup [.int .i64 s.t2, .bool s.t3]) (by
      have key : ∀ st : ASt, P27_1 s st → ∃ vs v, aresults Cl Tryz.f27.results.toList st = some vs ∧ Nrm [] st.h (packRes vs) v ∧ (fun v => v = .tup [.int .i64 s.t2, .bool s.t3]) v := by
        intro st hp
        obtain ⟨hl, a2, a3⟩ := (hp : P27_1' s st.tmps st.h)
        exact ⟨[.int .i64 s.t2, .bool s.t3], _, by simp only [show Tryz.f27.results.toList = [ResultVar.tmp 2, ResultVar.tmp 3] from rfl, aresults, ares1, CP, a2, a3, Option.getD_some], (Nrm.tup (NrmL.cons (Nrm.of (w := .int .i64 s.t2) (by simp only [refsL, refs, List.append_nil])) (NrmL.cons (Nrm.of (w := .bool s.t3) (by simp only [refsL, refs, List.append_nil])) NrmL.nil))), rfl⟩
      intro st hq
      rcases hx with rfl | rfl
      · exact key st hq
      · exact key st hq)
    subst hR
    exact hrun
/-! ### caisson/plan.choose -/
structure Fr81 where
  t0 : Int
  t1 : (List ViewInfo)
  t2 : Int
  t3 : Int
  t4 : Int
  t6 : Int
  t8 : Plan
  t9 : ViewInfo
  t10 : Bool
  t26 : Bool
instance : Inhabited Fr81 := ⟨⟨0, [], 0, 0, 0, 0, default, default, false, false⟩⟩
def P81_0' (s : Fr81) (t : List AVal) (h : AHeap) : Prop := ∃ i8 i9, t.length = 35 ∧ t[8]? = some (.ptr i8 0) ∧ h.get i8 = some (.arr [.bool s.t8.Base, .int .i64 s.t8.Set, .int .i64 s.t8.Cost]) ∧ i8 < h.next ∧ t[9]? = some (.ptr i9 0) ∧ h.get i9 = some (.arr [.int .i64 s.t9.Set, .int .i64 s.t9.State, .int .i64 s.t9.Seq, .int .i64 s.t9.Rows, .int .i64 s.t9.Bytes, .int .i64 s.t9.Readers]) ∧ i9 < h.next ∧ i8 ≠ i9
def P81_0 (s : Fr81) (st : ASt) : Prop := P81_0' s st.tmps st.h
def P81_1' (s : Fr81) (t : List AVal) (h : AHeap) : Prop := ∃ i8, t.length = 35 ∧ t[8]? = some (.ptr i8 0) ∧ h.get i8 = some (.arr [.bool s.t8.Base, .int .i64 s.t8.Set, .int .i64 s.t8.Cost]) ∧ i8 < h.next
def P81_1 (s : Fr81) (st : ASt) : Prop := P81_1' s st.tmps st.h
def P81_2' (s : Fr81) (t : List AVal) (h : AHeap) : Prop := ∃ i8, t.length = 35 ∧ t[3]? = some (.int .i64 s.t3) ∧ t[8]? = some (.ptr i8 0) ∧ h.get i8 = some (.arr [.bool s.t8.Base, .int .i64 s.t8.Set, .int .i64 s.t8.Cost]) ∧ i8 < h.next
def P81_2 (s : Fr81) (st : ASt) : Prop := P81_2' s st.tmps st.h
def P81_3' (s : Fr81) (t : List AVal) (h : AHeap) : Prop := ∃ i8 i9, t.length = 35 ∧ t[3]? = some (.int .i64 s.t3) ∧ t[8]? = some (.ptr i8 0) ∧ h.get i8 = some (.arr [.bool s.t8.Base, .int .i64 s.t8.Set, .int .i64 s.t8.Cost]) ∧ i8 < h.next ∧ t[9]? = some (.ptr i9 0) ∧ h.get i9 = some (.arr [.int .i64 s.t9.Set, .int .i64 s.t9.State, .int .i64 s.t9.Seq, .int .i64 s.t9.Rows, .int .i64 s.t9.Bytes, .int .i64 s.t9.Readers]) ∧ i9 < h.next ∧ t[26]? = some (.bool s.t26) ∧ i8 ≠ i9
def P81_3 (s : Fr81) (st : ASt) : Prop := P81_3' s st.tmps st.h
def P81_4' (s : Fr81) (t : List AVal) (h : AHeap) : Prop := ∃ i8 i9, t.length = 35 ∧ t[3]? = some (.int .i64 s.t3) ∧ t[8]? = some (.ptr i8 0) ∧ h.get i8 = some (.arr [.bool s.t8.Base, .int .i64 s.t8.Set, .int .i64 s.t8.Cost]) ∧ i8 < h.next ∧ t[9]? = some (.ptr i9 0) ∧ h.get i9 = some (.arr [.int .i64 s.t9.Set, .int .i64 s.t9.State, .int .i64 s.t9.Seq, .int .i64 s.t9.Rows, .int .i64 s.t9.Bytes, .int .i64 s.t9.Readers]) ∧ i9 < h.next ∧ t[10]? = some (.bool s.t10) ∧ i8 ≠ i9
def P81_4 (s : Fr81) (st : ASt) : Prop := P81_4' s st.tmps st.h
def P81_5' (s : Fr81) (t : List AVal) (h : AHeap) : Prop := ∃ w1_0 i8, t.length = 35 ∧ t[1]? = some w1_0 ∧ Sl rViewInfo s.t1 w1_0 ∧ t[3]? = some (.int .i64 s.t3) ∧ t[4]? = some (.iptr [.int .i64 s.t4]) ∧ t[6]? = some (.iptr [.int .i64 s.t6]) ∧ t[8]? = some (.ptr i8 0) ∧ h.get i8 = some (.arr [.bool s.t8.Base, .int .i64 s.t8.Set, .int .i64 s.t8.Cost]) ∧ i8 < h.next
def P81_5 (s : Fr81) (st : ASt) : Prop := P81_5' s st.tmps st.h
def P81_6' (s : Fr81) (t : List AVal) (h : AHeap) : Prop := ∃ w1_0, t.length = 35 ∧ t[0]? = some (.int .i64 s.t0) ∧ t[1]? = some w1_0 ∧ Sl rViewInfo s.t1 w1_0 ∧ t[2]? = some (.int .i64 s.t2) ∧ t[3]? = some (.int .i64 s.t3)
def P81_6 (s : Fr81) (st : ASt) : Prop := P81_6' s st.tmps st.h
noncomputable def m81_0 : Mo Fr81 := fun s => some (.nrm, { s with t8 := { Base := false, Set := s.t9.Set, Cost := (if 0 > s.t9.Rows then 0 else s.t9.Rows) } })
noncomputable def m81_1 : Mo Fr81 := fun s => some (.nrm, { s with t8 := { Base := true, Set := 0, Cost := s.t3 } })
noncomputable def m81_2 : Mo Fr81 := fun s => some (.nrm, { s with t26 := ((!s.t10) || (decide (s.t9.Rows > s.t3))) })
noncomputable def m81_3 : Mo Fr81 := fun s => (G151 s.t1 (fun x0_ => G152 x0_ s.t6 s.t4) G153).bind fun z32 => some (.nrm, { s with t9 := z32.1, t10 := z32.2 })
noncomputable def m81_4 : Mo Fr81 := fun s => some (.nrm, { s with t3 := (if 0 > s.t3 then 0 else s.t3) })
noncomputable def m81_5 : Mo Fr81 := fun s => some (.nrm, { s with t4 := s.t0, t6 := s.t2, t8 := { Base := false, Set := 0, Cost := 0 } })
noncomputable def M81 : Mo Fr81 := seqM (m81_5) (seqM (m81_4) (seqM (m81_3) (seqM (seqM (m81_2) (condM (fun s => s.t26) (seqM (m81_1) (retM)) (skipM))) (seqM (m81_0) (retM)))))
def Spec81 (f : Int → (List ViewInfo) → Int → Int → Option Plan) : Prop := ∀ (x0 : Int) (x1 : (List ViewInfo)) (x2 : Int) (x3 : Int) (vx1_0 : AVal) (_ : Sl rViewInfo x1 vx1_0) (r : Plan), f x0 x1 x2 x3 = some r → ∀ h, run Cl 81 [.int .i64 x0, vx1_0, .int .i64 x2, .int .i64 x3] h = some (.ret (.agg [.bool r.Base, .int .i64 r.Set, .int .i64 r.Cost]), h)
theorem Spec81_of {f g : Int → (List ViewInfo) → Int → Int → Option Plan} (hg : Spec81 g) (h : ∀ x0 x1 x2 x3 r, f x0 x1 x2 x3 = some r → g x0 x1 x2 x3 = some r) : Spec81 f := fun x0 x1 x2 x3 v0_ w0_ r hr => hg x0 x1 x2 x3 v0_ w0_ r (h x0 x1 x2 x3 r hr)
theorem R81_0 (pe pr) : Ref Cl P81_0 (Cat [true, true, true, true, false] (bodyOf Tryz.f81)) m81_0 (post P81_1 pe pr) := by
  rintro s ⟨t, h⟩ hp x s' hm
  obtain ⟨i8, i9, hl, a8, g8, l8, a9, g9, l9, ne8_9⟩ : P81_0' s t h := hp
  unfold m81_0 at hm
  have k10 : loadA h false 1 (.ptr i9 0) = some (.int .i64 s.t9.Set) := by rw [Heap.load_gen g9 (Nat.le_of_ble_eq_true rfl)]; first | rfl | exact ofc1 _ _ _
  have k11 : loadA h false 1 (.ptr i9 3) = some (.int .i64 s.t9.Rows) := by rw [Heap.load_gen g9 (Nat.le_of_ble_eq_true rfl)]; first | rfl | exact ofc1 _ _ _
  have bd12 : abuild Tryz.prog 72 [(1, .int .i64 s.t9.Set), (2, .int .i64 (if 0 > s.t9.Rows then 0 else s.t9.Rows))] = some (.agg [.bool false, .int .i64 s.t9.Set, .int .i64 (if 0 > s.t9.Rows then 0 else s.t9.Rows)]) := by simp only [TyB.bu72, List.getElem?_toArray, fillA, Zc, List.length_cons, List.length_nil, setRange, List.set_cons_zero, List.set_cons_succ, Option.bind_eq_bind, Option.bind_some, Nat.zero_add, Nat.reduceAdd, and_self, Nat.reduceLeDiff, if_true, and_true, true_and, Nat.le_refl, Nat.zero_le, List.getElem?_cons_zero, List.getElem?_cons_succ, Option.map_some]
  obtain ⟨H13, eH13⟩ : ∃ x : AHeap, x = h.set i8 (some (.arr [.bool false, .int .i64 s.t9.Set, .int .i64 (if 0 > s.t9.Rows then 0 else s.t9.Rows)])) := ⟨_, rfl⟩
  have k14 : storeA h 3 (.ptr i8 0) (.agg [.bool false, .int .i64 s.t9.Set, .int .i64 (if 0 > s.t9.Rows then 0 else s.t9.Rows)]) = some H13 := by rw [eH13]; exact Heap.store_gen g8 (show (.agg [.bool false, .int .i64 s.t9.Set, .int .i64 (if 0 > s.t9.Rows then 0 else s.t9.Rows)] : AVal).cells = [.bool false, .int .i64 s.t9.Set, .int .i64 (if 0 > s.t9.Rows then 0 else s.t9.Rows)] by simp only [Zc]) rfl (by simp only [Zc]) (Nat.le_of_ble_eq_true rfl) rfl
  have k15 := gsn eH13 (Ne.symm ne8_9) g9
  have k16 := nxs eH13 l9
  have k17 := gse eH13
  have k18 := nxs eH13 l8
  cases hm
  refine ⟨⟨_, _⟩, by simp only [bodyOf, Tryz.f81, Cat, Zs, awanted, aoper, evalO, put, acallOp, abuiltin, Nat.reduceEqDiff, Nat.reduceLT, ofV, ofCell, ↓reduceIte, hl, a8, a9, CP, TyB.fa207_0, dropCells, Nat.zero_add, Nat.reduceAdd, k10, TyB.ld3, TyB.fa207_3, k11, max_ii, bd12, k14, TyB.st72]; exact rfl, ?_⟩
  show P81_1 _ _
  exact ⟨i8, by simp [hl], by simp [a8], k17, k18⟩
theorem R81_1 (pe pr) : Ref Cl P81_2 (Cat [true, true, true, false, true, false, false] (bodyOf Tryz.f81)) m81_1 (post P81_1 pe pr) := by
  rintro s ⟨t, h⟩ hp x s' hm
  obtain ⟨i8, hl, a3, a8, g8, l8⟩ : P81_2' s t h := hp
  unfold m81_1 at hm
  have bd24 : abuild Tryz.prog 72 [(0, .bool true), (2, .int .i64 s.t3)] = some (.agg [.bool true, .int .i64 0, .int .i64 s.t3]) := by simp only [TyB.bu72, List.getElem?_toArray, fillA, Zc, List.length_cons, List.length_nil, setRange, List.set_cons_zero, List.set_cons_succ, Option.bind_eq_bind, Option.bind_some, Nat.zero_add, Nat.reduceAdd, and_self, Nat.reduceLeDiff, if_true, and_true, true_and, Nat.le_refl, Nat.zero_le, List.getElem?_cons_zero, List.getElem?_cons_succ, Option.map_some]
  obtain ⟨H25, eH25⟩ : ∃ x : AHeap, x = h.set i8 (some (.arr [.bool true, .int .i64 0, .int .i64 s.t3])) := ⟨_, rfl⟩
  have k26 : storeA h 3 (.ptr i8 0) (.agg [.bool true, .int .i64 0, .int .i64 s.t3]) = some H25 := by rw [eH25]; exact Heap.store_gen g8 (show (.agg [.bool true, .int .i64 0, .int .i64 s.t3] : AVal).cells = [.bool true, .int .i64 0, .int .i64 s.t3] by simp only [Zc]) rfl (by simp only [Zc]) (Nat.le_of_ble_eq_true rfl) rfl
  have k27 := gse eH25
  have k28 := nxs eH25 l8
  cases hm
  refine ⟨⟨_, _⟩, by simp only [bodyOf, Tryz.f81, Cat, Zs, awanted, aoper, evalO, put, acallOp, abuiltin, Nat.reduceEqDiff, Nat.reduceLT, ofV, ofCell, ↓reduceIte, hl, a3, a8, CP, bd24, k26, TyB.st72]; exact rfl, ?_⟩
  show P81_1 _ _
  exact ⟨i8, by simp [hl], by simp [a8], k27, k28⟩
theorem R81_2 (pe pr) : Ref Cl P81_4 (Cat [true, true, true, false, false] (bodyOf Tryz.f81)) m81_2 (post P81_3 pe pr) := by
  rintro s ⟨t, h⟩ hp x s' hm
  obtain ⟨i8, i9, hl, a3, a8, g8, l8, a9, g9, l9, a10, ne8_9⟩ : P81_4' s t h := hp
  unfold m81_2 at hm
  cases hb30 : (!s.t10) with
  | true =>
    all_goals (
      try simp only [hb30, Zb] at hm
      cases hm
      refine ⟨⟨_, _⟩, by simp only [bodyOf, Tryz.f81, Cat, Zs, awanted, aoper, evalO, put, acallOp, abuiltin, Nat.reduceEqDiff, Nat.reduceLT, ofV, ofCell, ↓reduceIte, hl, a3, a8, a9, a10, CP, aun_not, hb30]; exact rfl, ?_⟩
      show P81_3 _ _
      exact ⟨i8, i9, by simp [hl], by simp [a3], by simp [a8], g8, l8, by simp [a9], g9, l9, by simp [hl, hb30], ne8_9⟩)
  | false =>
    all_goals (
      try simp only [hb30, Zb] at hm
      have k31 : loadA h false 1 (.ptr i9 3) = some (.int .i64 s.t9.Rows) := by rw [Heap.load_gen g9 (Nat.le_of_ble_eq_true rfl)]; first | rfl | exact ofc1 _ _ _
      cases hm
      refine ⟨⟨_, _⟩, by simp only [bodyOf, Tryz.f81, Cat, Zs, awanted, aoper, evalO, put, acallOp, abuiltin, Nat.reduceEqDiff, Nat.reduceLT, ofV, ofCell, ↓reduceIte, hl, a3, a8, a9, a10, CP, aun_not, TyB.fa207_3, dropCells, Nat.zero_add, Nat.reduceAdd, k31, TyB.ld3, hb30]; exact rfl, ?_⟩
      show P81_3 _ _
      exact ⟨i8, i9, by simp [hl], by simp [a3], by simp [a8], g8, l8, by simp [a9], g9, l9, by simp [hl, hb30], ne8_9⟩)
theorem R81_3 (pe pr) : Ref Cl P81_5 (Cat [true, true, false] (bodyOf Tryz.f81)) m81_3 (post P81_4 pe pr) := by
  rintro s ⟨t, h⟩ hp x s' hm
  obtain ⟨w1_0, i8, hl, a1, r1_0, a3, a4, a6, a8, g8, l8⟩ : P81_5' s t h := hp
  unfold m81_3 at hm
  obtain ⟨z48, hz48, hm⟩ := Option.bind_eq_some_iff.1 hm
  have iu49 := G151_spec s.t1 (fun x0_ => G152 x0_ s.t6 s.t4) G153 _ r1_0 _ (show rFnB0 (fun x0_ => G152 x0_ s.t6 s.t4) (.fn (.func 152) [] [.iptr [.int .i64 s.t6], .iptr [.int .i64 s.t4]]) from ⟨152, [.iptr [.int .i64 s.t6], .iptr [.int .i64 s.t4]], rfl, by simp only [refsL, refs, List.append_nil, List.nil_append], rfl, fun x0_  r_ hr_ => G152_spec x0_ s.t6 s.t4   r_ hr_⟩) _ (show rFnB1 (G153) (.fn (.func 153) [] []) from ⟨153, [], rfl, rfl, rfl, G153_spec⟩) _ hz48
  obtain ⟨H50, eH50⟩ : ∃ x : AHeap, x = h.new (.arr [.int .i64 0, .int .i64 0, .int .i64 0, .int .i64 0, .int .i64 0, .int .i64 0]) := ⟨_, rfl⟩
  obtain ⟨id51, eid51⟩ : ∃ x : Nat, x = h.next := ⟨_, rfl⟩
  have k52 := gnl eH50 l8 g8
  have k53 : i8 < H50.next := by rw [eH50, Heap.new_next]; exact Nat.lt_succ_of_lt l8
  have k54 : H50.get id51 = some (.arr [.int .i64 0, .int .i64 0, .int .i64 0, .int .i64 0, .int .i64 0, .int .i64 0]) := by rw [eH50, eid51]; exact Heap.get_new_eq
  have k55 : id51 < H50.next := by rw [eH50, eid51, Heap.new_next]; exact Nat.lt_succ_self _
  have k56 : i8 ≠ id51 := by rw [eid51]; exact Nat.ne_of_lt l8
  have k57 : abox h (.agg [.int .i64 0, .int .i64 0, .int .i64 0, .int .i64 0, .int .i64 0, .int .i64 0]) = some (.ptr id51 0, H50) := by simp only [abox, eH50, eid51, Zc, if_true]
  obtain ⟨H58, eH58⟩ : ∃ x : AHeap, x = H50.set id51 (some (.arr [.int .i64 z48.1.Set, .int .i64 z48.1.State, .int .i64 z48.1.Seq, .int .i64 z48.1.Rows, .int .i64 z48.1.Bytes, .int .i64 z48.1.Readers])) := ⟨_, rfl⟩
  have k59 : storeA H50 6 (.ptr id51 0) (.agg [.int .i64 z48.1.Set, .int .i64 z48.1.State, .int .i64 z48.1.Seq, .int .i64 z48.1.Rows, .int .i64 z48.1.Bytes, .int .i64 z48.1.Readers]) = some H58 := by rw [eH58]; exact Heap.store_gen k54 (show (.agg [.int .i64 z48.1.Set, .int .i64 z48.1.State, .int .i64 z48.1.Seq, .int .i64 z48.1.Rows, .int .i64 z48.1.Bytes, .int .i64 z48.1.Readers] : AVal).cells = [.int .i64 z48.1.Set, .int .i64 z48.1.State, .int .i64 z48.1.Seq, .int .i64 z48.1.Rows, .int .i64 z48.1.Bytes, .int .i64 z48.1.Readers] by simp only [Zc]) rfl (by simp only [Zc]) (Nat.le_of_ble_eq_true rfl) rfl
  have k60 := gsn eH58 k56 k52
  have k61 := nxs eH58 k53
  have k62 := gse eH58
  have k63 := nxs eH58 k55
  cases hm
  refine ⟨⟨_, _⟩, by simp only [bodyOf, Tryz.f81, Cat, Zs, awanted, aoper, evalO, put, acallOp, abuiltin, Nat.reduceEqDiff, Nat.reduceLT, ofV, ofCell, ↓reduceIte, hl, a1, a3, a4, a6, a8, CP, iu49, TyB.ze207, TyB.own_plan_go_29, k57, k59, TyB.st207]; exact rfl, ?_⟩
  show P81_4 _ _
  exact ⟨i8, id51, by simp [hl], by simp [a3], by simp [a8], k60, k61, by simp [hl], k62, k63, by simp [hl], k56⟩
theorem R81_4 (pe pr) : Ref Cl P81_5 (Cat [true, false] (bodyOf Tryz.f81)) m81_4 (post P81_5 pe pr) := by
  rintro s ⟨t, h⟩ hp x s' hm
  obtain ⟨w1_0, i8, hl, a1, r1_0, a3, a4, a6, a8, g8, l8⟩ : P81_5' s t h := hp
  unfold m81_4 at hm
  cases hm
  refine ⟨⟨_, _⟩, by simp only [bodyOf, Tryz.f81, Cat, Zs, awanted, aoper, evalO, put, acallOp, abuiltin, Nat.reduceEqDiff, Nat.reduceLT, ofV, ofCell, ↓reduceIte, hl, a1, a3, a4, a6, a8, CP, max_ii]; exact rfl, ?_⟩
  show P81_5 _ _
  exact ⟨w1_0, i8, by simp [hl], by simp [a1], r1_0, by simp [hl], by simp [a4], by simp [a6], by simp [a8], g8, l8⟩
theorem R81_5 (pe pr) : Ref Cl P81_6 (Cat [false] (bodyOf Tryz.f81)) m81_5 (post P81_5 pe pr) := by
  rintro s ⟨t, h⟩ hp x s' hm
  obtain ⟨w1_0, hl, a0, a1, r1_0, a2, a3⟩ : P81_6' s t h := hp
  unfold m81_5 at hm
  obtain ⟨H69, eH69⟩ : ∃ x : AHeap, x = h.new (.arr [.bool false, .int .i64 0, .int .i64 0]) := ⟨_, rfl⟩
  obtain ⟨id70, eid70⟩ : ∃ x : Nat, x = h.next := ⟨_, rfl⟩
  have k71 : H69.get id70 = some (.arr [.bool false, .int .i64 0, .int .i64 0]) := by rw [eH69, eid70]; exact Heap.get_new_eq
  have k72 : id70 < H69.next := by rw [eH69, eid70, Heap.new_next]; exact Nat.lt_succ_self _
  have k73 : abox h (.agg [.bool false, .int .i64 0, .int .i64 0]) = some (.ptr id70 0, H69) := by simp only [abox, eH69, eid70, Zc, if_true]
  cases hm
  refine ⟨⟨_, _⟩, by simp only [bodyOf, Tryz.f81, Cat, Zs, awanted, aoper, evalO, put, acallOp, abuiltin, Nat.reduceEqDiff, Nat.reduceLT, ofV, ofCell, ↓reduceIte, hl, a0, a1, a2, a3, CP, TyB.cb_parse_go_148, TyB.cb_parse_go_143, TyB.cb_parse_go_130, TyB.cb_plan_go_27, TyB.cb_plan_go_29, TyB.cb_plan_go_31, TyB.cb_plan_go_41, TyB.cb_plan_go_61, TyB.cb_cube_go_25, TyB.cb_law_go_39, TyB.cb_ref_go_26, TyB.cb_ref_go_48, TyB.cb_ref_go_57, TyB.cb_ref_go_65, Zc, TyB.ze72, TyB.own_plan_go_27, k73]; exact rfl, ?_⟩
  show P81_5 _ _
  exact ⟨w1_0, id70, by simp [hl], by simp [a1], r1_0, by simp [a3], by simp [hl], by simp [hl], by simp [hl], k71, k72⟩
theorem B81 : Ref Cl P81_6 (bodyOf Tryz.f81) (M81) (post P81_1 (fun _ _ _ => False) P81_1) := by
  rw [show bodyOf Tryz.f81 = .seq (Cat [false] (bodyOf Tryz.f81)) (.seq (Cat [true, false] (bodyOf Tryz.f81)) (.seq (Cat [true, true, false] (bodyOf Tryz.f81)) (.seq (.seq (Cat [true, true, true, false, false] (bodyOf Tryz.f81)) (.cond (.tmp 26) (.seq (Cat [true, true, true, false, true, false, false] (bodyOf Tryz.f81)) (.ret)) (.skip))) (.seq (Cat [true, true, true, true, false] (bodyOf Tryz.f81)) (.ret))))) from rfl]
  unfold M81
  exact ref_seq (R81_5 _ _) (ref_seq (R81_4 _ _) (ref_seq (R81_3 _ _) (ref_seq (ref_seq (R81_2 _ _) (ref_cond (P := P81_3) (c := fun s => s.t26) (fun s st hp => by obtain ⟨i8, i9, hl, a3, a8, g8, l8, a9, g9, l9, a26, ne8_9⟩ := (hp : P81_3' s st.tmps st.h); simp only [evalO, a26, Option.getD_some]) (ref_weak (P' := P81_2) (fun s st hp => by obtain ⟨i8, i9, hl, a3, a8, g8, l8, a9, g9, l9, a26, ne8_9⟩ := (hp : P81_3' s st.tmps st.h); exact (⟨i8, hl, a3, a8, g8, l8⟩ : P81_2' s st.tmps st.h)) (ref_seq (R81_1 _ _) (ref_ret (fun s st hp => hp)))) (ref_weak (P' := P81_0) (fun s st hp => by obtain ⟨i8, i9, hl, a3, a8, g8, l8, a9, g9, l9, a26, ne8_9⟩ := (hp : P81_3' s st.tmps st.h); exact (⟨i8, i9, hl, a8, g8, l8, a9, g9, l9, ne8_9⟩ : P81_0' s st.tmps st.h)) (ref_skip (fun s st hp => hp))))) (ref_seq (R81_0 _ _) (ref_ret (fun s st hp => hp))))))
noncomputable def G81 (x0 : Int) (x1 : (List ViewInfo)) (x2 : Int) (x3 : Int) : Option Plan := match M81 { (default : Fr81) with t0 := x0, t1 := x1, t2 := x2, t3 := x3 } with
  | some (.nrm, s) => some s.t8
  | some (.ret, s) => some s.t8
  | _ => none
theorem G81_spec : Spec81 (G81) := by
  intro x0 x1 x2 x3 vx1_0 hvx1_0 r hr
  unfold G81 at hr
  cases hm : M81 { (default : Fr81) with t0 := x0, t1 := x1, t2 := x2, t3 := x3 } with
  | none => rw [hm] at hr; cases hr
  | some q =>
    obtain ⟨x, s⟩ := q
    rw [hm] at hr
    have hx : x = .nrm ∨ x = .ret := by cases x <;> first | exact .inl rfl | exact .inr rfl | cases hr
    have hr : s.t8 = r := by cases x <;> first | exact Option.some.inj hr | cases hr
    subst hr
    have hp0 : P81_6' ({ (default : Fr81) with t0 := x0, t1 := x1, t2 := x2, t3 := x3 }) (slots Tryz.f81 (stripL [.int .i64 x0, vx1_0, .int .i64 x2, .int .i64 x3])) bare := ⟨(strip vx1_0 : AVal), rfl, rfl, rfl, hvx1_0.strip rViewInfo_p, rfl, rfl⟩
    obtain ⟨v, hR, hrun⟩ := run_of_ref (C := Cl) (f := 81) (fn := Tryz.f81) Tryz.func81 rfl rfl rfl rfl (args := [.int .i64 x0, vx1_0, .int .i64 x2, .int .i64 x3]) (by simp only [refsL, refs, List.append_nil, hvx1_0.refs rViewInfo_p]) (B81) (s0 := { (default : Fr81) with t0 := x0, t1 := x1, t2 := x2, t3 := x3 }) hp0 hm hx (R := fun v => v = .agg [.bool s.t8.Base, .int .i64 s.t8.Set, .int .i64 s.t8.Cost]) (by
      have key : ∀ st : ASt, P81_1 s st → ∃ vs v, aresults Cl Tryz.f81.results.toList st = some vs ∧ Nrm [] st.h (packRes vs) v ∧ (fun v => v = .agg [.bool s.t8.Base, .int .i64 s.t8.Set, .int .i64 s.t8.Cost]) v := by
        intro st hp
        obtain ⟨i8, hl, a8, g8, l8⟩ := (hp : P81_1' s st.tmps st.h)
        have ld8 : loadA st.h true 3 (.ptr i8 0) = some (.agg [.bool s.t8.Base, .int .i64 s.t8.Set, .int .i64 s.t8.Cost]) := by rw [Heap.load_gen g8 (Nat.zero_le _)]; first | rfl | exact ofc3 _ _ _ _
        exact ⟨[.agg [.bool s.t8.Base, .int .i64 s.t8.Set, .int .i64 s.t8.Cost]], _, by simp only [show Tryz.f81.results.toList = [ResultVar.cell 8 72] from rfl, aresults, ares1, CP, a8, Option.getD_some, ld8, TyB.ld72], (Nrm.of (w := .agg [.bool s.t8.Base, .int .i64 s.t8.Set, .int .i64 s.t8.Cost]) (by simp only [refsL, refs, List.append_nil])), rfl⟩
      intro st hq
      rcases hx with rfl | rfl
      · exact key st hq
      · exact key st hq)
    subst hR
    exact hrun
/-! ### caisson/plan.Choose -/
structure Fr26 where
  t0 : Bound
  t1 : (List ViewInfo)
  t2 : Int
  t3 : Int
  t4 : Bound
  t8 : Plan
  t9 : Int
  t10 : Bool
  t16 : Bool
instance : Inhabited Fr26 := ⟨⟨default, [], 0, 0, default, default, 0, false, false⟩⟩
def P26_0' (s : Fr26) (t : List AVal) (h : AHeap) : Prop := ∃ w1_0 i8, t.length = 22 ∧ t[1]? = some w1_0 ∧ Sl rViewInfo s.t1 w1_0 ∧ t[2]? = some (.int .i64 s.t2) ∧ t[3]? = some (.int .i64 s.t3) ∧ t[8]? = some (.ptr i8 0) ∧ h.get i8 = some (.arr [.bool s.t8.Base, .int .i64 s.t8.Set, .int .i64 s.t8.Cost]) ∧ i8 < h.next ∧ t[9]? = some (.int .i64 s.t9)
def P26_0 (s : Fr26) (st : ASt) : Prop := P26_0' s st.tmps st.h
def P26_1' (s : Fr26) (t : List AVal) (h : AHeap) : Prop := ∃ i8, t.length = 22 ∧ t[8]? = some (.ptr i8 0) ∧ h.get i8 = some (.arr [.bool s.t8.Base, .int .i64 s.t8.Set, .int .i64 s.t8.Cost]) ∧ i8 < h.next
def P26_1 (s : Fr26) (st : ASt) : Prop := P26_1' s st.tmps st.h
def P26_2' (s : Fr26) (t : List AVal) (h : AHeap) : Prop := ∃ i8, t.length = 22 ∧ t[2]? = some (.int .i64 s.t2) ∧ t[3]? = some (.int .i64 s.t3) ∧ t[8]? = some (.ptr i8 0) ∧ h.get i8 = some (.arr [.bool s.t8.Base, .int .i64 s.t8.Set, .int .i64 s.t8.Cost]) ∧ i8 < h.next ∧ t[9]? = some (.int .i64 s.t9)
def P26_2 (s : Fr26) (st : ASt) : Prop := P26_2' s st.tmps st.h
def P26_3' (s : Fr26) (t : List AVal) (h : AHeap) : Prop := ∃ w1_0 i8, t.length = 22 ∧ t[1]? = some w1_0 ∧ Sl rViewInfo s.t1 w1_0 ∧ t[2]? = some (.int .i64 s.t2) ∧ t[3]? = some (.int .i64 s.t3) ∧ t[8]? = some (.ptr i8 0) ∧ h.get i8 = some (.arr [.bool s.t8.Base, .int .i64 s.t8.Set, .int .i64 s.t8.Cost]) ∧ i8 < h.next ∧ t[9]? = some (.int .i64 s.t9) ∧ t[16]? = some (.bool s.t16)
def P26_3 (s : Fr26) (st : ASt) : Prop := P26_3' s st.tmps st.h
def P26_4' (s : Fr26) (t : List AVal) (h : AHeap) : Prop := ∃ w1_0 i8, t.length = 22 ∧ t[1]? = some w1_0 ∧ Sl rViewInfo s.t1 w1_0 ∧ t[2]? = some (.int .i64 s.t2) ∧ t[3]? = some (.int .i64 s.t3) ∧ t[8]? = some (.ptr i8 0) ∧ h.get i8 = some (.arr [.bool s.t8.Base, .int .i64 s.t8.Set, .int .i64 s.t8.Cost]) ∧ i8 < h.next ∧ t[9]? = some (.int .i64 s.t9) ∧ t[10]? = some (.bool s.t10)
def P26_4 (s : Fr26) (st : ASt) : Prop := P26_4' s st.tmps st.h
def P26_5' (s : Fr26) (t : List AVal) (h : AHeap) : Prop := ∃ w1_0 w4_0 w4_1 w4_2 w4_3 i8, t.length = 22 ∧ t[1]? = some w1_0 ∧ Sl rViewInfo s.t1 w1_0 ∧ t[2]? = some (.int .i64 s.t2) ∧ t[3]? = some (.int .i64 s.t3) ∧ t[4]? = some (.iptr [w4_0, w4_1, w4_2, w4_3]) ∧ Sl rPick s.t4.Picks w4_0 ∧ Sl rS s.t4.Names w4_1 ∧ rTestT s.t4.Where [w4_2] ∧ Sl (rI .i64) s.t4.Sets w4_3 ∧ t[8]? = some (.ptr i8 0) ∧ h.get i8 = some (.arr [.bool s.t8.Base, .int .i64 s.t8.Set, .int .i64 s.t8.Cost]) ∧ i8 < h.next
def P26_5 (s : Fr26) (st : ASt) : Prop := P26_5' s st.tmps st.h
def P26_6' (s : Fr26) (t : List AVal) (h : AHeap) : Prop := ∃ w0_0 w0_1 w0_2 w0_3 w1_0, t.length = 22 ∧ t[0]? = some (.agg [w0_0, w0_1, w0_2, w0_3]) ∧ Sl rPick s.t0.Picks w0_0 ∧ Sl rS s.t0.Names w0_1 ∧ rTestT s.t0.Where [w0_2] ∧ Sl (rI .i64) s.t0.Sets w0_3 ∧ t[1]? = some w1_0 ∧ Sl rViewInfo s.t1 w1_0 ∧ t[2]? = some (.int .i64 s.t2) ∧ t[3]? = some (.int .i64 s.t3)
def P26_6 (s : Fr26) (st : ASt) : Prop := P26_6' s st.tmps st.h
noncomputable def m26_0 : Mo Fr26 := fun s => (G81 s.t9 s.t1 s.t2 s.t3).bind fun z1 => some (.nrm, { s with t8 := z1 })
noncomputable def m26_1 : Mo Fr26 := fun s => some (.nrm, { s with t1 := [] })
noncomputable def m26_2 : Mo Fr26 := fun s => some (.nrm, { s with t16 := s.t10 })
noncomputable def m26_3 : Mo Fr26 := fun s => (G27 s.t4).bind fun z13 => some (.nrm, { s with t9 := z13.1, t10 := z13.2 })
noncomputable def m26_4 : Mo Fr26 := fun s => some (.nrm, { s with t4 := s.t0, t8 := { Base := false, Set := 0, Cost := 0 } })
noncomputable def M26 : Mo Fr26 := seqM (m26_4) (seqM (m26_3) (seqM (seqM (m26_2) (condM (fun s => s.t16) (m26_1) (skipM))) (seqM (m26_0) (retM))))
def Spec26 (f : Bound → (List ViewInfo) → Int → Int → Option Plan) : Prop := ∀ (x0 : Bound) (x1 : (List ViewInfo)) (x2 : Int) (x3 : Int) (vx0_0 : AVal) (_ : Sl rPick x0.Picks vx0_0) (vx0_1 : AVal) (_ : Sl rS x0.Names vx0_1) (vx0_2 : AVal) (_ : rTestT x0.Where [vx0_2]) (vx0_3 : AVal) (_ : Sl (rI .i64) x0.Sets vx0_3) (vx1_0 : AVal) (_ : Sl rViewInfo x1 vx1_0) (r : Plan), f x0 x1 x2 x3 = some r → ∀ h, run Cl 26 [.agg [vx0_0, vx0_1, vx0_2, vx0_3], vx1_0, .int .i64 x2, .int .i64 x3] h = some (.ret (.agg [.bool r.Base, .int .i64 r.Set, .int .i64 r.Cost]), h)
theorem Spec26_of {f g : Bound → (List ViewInfo) → Int → Int → Option Plan} (hg : Spec26 g) (h : ∀ x0 x1 x2 x3 r, f x0 x1 x2 x3 = some r → g x0 x1 x2 x3 = some r) : Spec26 f := fun x0 x1 x2 x3 v0_ w0_ v1_ w1_ v2_ w2_ v3_ w3_ v4_ w4_ r hr => hg x0 x1 x2 x3 v0_ w0_ v1_ w1_ v2_ w2_ v3_ w3_ v4_ w4_ r (h x0 x1 x2 x3 r hr)
theorem R26_0 (pe pr) : Ref Cl P26_0 (Cat [true, true, true, false] (bodyOf Tryz.f26)) m26_0 (post P26_1 pe pr) := by
  rintro s ⟨t, h⟩ hp x s' hm
  obtain ⟨w1_0, i8, hl, a1, r1_0, a2, a3, a8, g8, l8, a9⟩ : P26_0' s t h := hp
  unfold m26_0 at hm
  obtain ⟨z7, hz7, hm⟩ := Option.bind_eq_some_iff.1 hm
  have iu8 := G81_spec s.t9 s.t1 s.t2 s.t3 _ r1_0 _ hz7
  obtain ⟨H9, eH9⟩ : ∃ x : AHeap, x = h.set i8 (some (.arr [.bool z7.Base, .int .i64 z7.Set, .int .i64 z7.Cost])) := ⟨_, rfl⟩
  have k10 : storeA h 3 (.ptr i8 0) (.agg [.bool z7.Base, .int .i64 z7.Set, .int .i64 z7.Cost]) = some H9 := by rw [eH9]; exact Heap.store_gen g8 (show (.agg [.bool z7.Base, .int .i64 z7.Set, .int .i64 z7.Cost] : AVal).cells = [.bool z7.Base, .int .i64 z7.Set, .int .i64 z7.Cost] by simp only [Zc]) rfl (by simp only [Zc]) (Nat.le_of_ble_eq_true rfl) rfl
  have k11 := gse eH9
  have k12 := nxs eH9 l8
  cases hm
  refine ⟨⟨_, _⟩, by simp only [bodyOf, Tryz.f26, Cat, Zs, awanted, aoper, evalO, put, acallOp, abuiltin, Nat.reduceEqDiff, Nat.reduceLT, ofV, ofCell, ↓reduceIte, hl, a1, a2, a3, a8, a9, CP, iu8, k10, TyB.st72]; exact rfl, ?_⟩
  show P26_1 _ _
  exact ⟨i8, by simp [hl], by simp [a8], k11, k12⟩
theorem R26_1 (pe pr) : Ref Cl P26_2 (Cat [true, true, false, true, false] (bodyOf Tryz.f26)) m26_1 (post P26_0 pe pr) := by
  rintro s ⟨t, h⟩ hp x s' hm
  obtain ⟨i8, hl, a2, a3, a8, g8, l8, a9⟩ : P26_2' s t h := hp
  unfold m26_1 at hm
  cases hm
  refine ⟨⟨_, _⟩, by simp only [bodyOf, Tryz.f26, Cat, Zs, awanted, aoper, evalO, put, acallOp, abuiltin, Nat.reduceEqDiff, Nat.reduceLT, ofV, ofCell, ↓reduceIte, hl, a2, a3, a8, a9, CP]; exact rfl, ?_⟩
  show P26_0 _ _
  exact ⟨(.nilSl : AVal), i8, by simp [hl], by simp [hl], Sl.nil, by simp [a2], by simp [a3], by simp [a8], g8, l8, by simp [a9]⟩
theorem R26_2 (pe pr) : Ref Cl P26_4 (Cat [true, true, false, false] (bodyOf Tryz.f26)) m26_2 (post P26_3 pe pr) := by
  rintro s ⟨t, h⟩ hp x s' hm
  obtain ⟨w1_0, i8, hl, a1, r1_0, a2, a3, a8, g8, l8, a9, a10⟩ : P26_4' s t h := hp
  unfold m26_2 at hm
  cases hm
  refine ⟨⟨_, _⟩, by simp only [bodyOf, Tryz.f26, Cat, Zs, awanted, aoper, evalO, put, acallOp, abuiltin, Nat.reduceEqDiff, Nat.reduceLT, ofV, ofCell, ↓reduceIte, hl, a1, a2, a3, a8, a9, a10, CP]; exact rfl, ?_⟩
  show P26_3 _ _
  exact ⟨w1_0, i8, by simp [hl], by simp [a1], r1_0, by simp [a2], by simp [a3], by simp [a8], g8, l8, by simp [a9], by simp [hl]⟩
theorem R26_3 (pe pr) : Ref Cl P26_5 (Cat [true, false] (bodyOf Tryz.f26)) m26_3 (post P26_4 pe pr) := by
  rintro s ⟨t, h⟩ hp x s' hm
  obtain ⟨w1_0, w4_0, w4_1, w4_2, w4_3, i8, hl, a1, r1_0, a2, a3, a4, r4_0, r4_1, r4_2, r4_3, a8, g8, l8⟩ : P26_5' s t h := hp
  unfold m26_3 at hm
  obtain ⟨z15, hz15, hm⟩ := Option.bind_eq_some_iff.1 hm
  have iu16 := G27_spec s.t4 _ r4_0 _ r4_1 _ r4_2 _ r4_3 _ hz15
  cases hm
  refine ⟨⟨_, _⟩, by simp only [bodyOf, Tryz.f26, Cat, Zs, awanted, aoper, evalO, put, acallOp, abuiltin, Nat.reduceEqDiff, Nat.reduceLT, ofV, ofCell, ↓reduceIte, hl, a1, a2, a3, a4, a8, CP, TyB.ld35, ld_ip, ofc4, List.drop_succ_cons, List.drop_zero, List.length_cons, List.length_nil, iu16]; exact rfl, ?_⟩
  show P26_4 _ _
  exact ⟨w1_0, i8, by simp [hl], by simp [a1], r1_0, by simp [a2], by simp [a3], by simp [a8], g8, l8, by simp [hl], by simp [hl]⟩
theorem R26_4 (pe pr) : Ref Cl P26_6 (Cat [false] (bodyOf Tryz.f26)) m26_4 (post P26_5 pe pr) := by
  rintro s ⟨t, h⟩ hp x s' hm
  obtain ⟨w0_0, w0_1, w0_2, w0_3, w1_0, hl, a0, r0_0, r0_1, r0_2, r0_3, a1, r1_0, a2, a3⟩ : P26_6' s t h := hp
  unfold m26_4 at hm
  have ic26 : (w0_0 : AVal).isCell = true := Sl.isCell r0_0
  have ic27 : (w0_1 : AVal).isCell = true := Sl.isCell r0_1
  have ic28 : (w0_2 : AVal).isCell = true := rTestT_cell r0_2
  have ic29 : (w0_3 : AVal).isCell = true := Sl.isCell r0_3
  obtain ⟨H30, eH30⟩ : ∃ x : AHeap, x = h.new (.arr [.bool false, .int .i64 0, .int .i64 0]) := ⟨_, rfl⟩
  obtain ⟨id31, eid31⟩ : ∃ x : Nat, x = h.next := ⟨_, rfl⟩
  have k32 : H30.get id31 = some (.arr [.bool false, .int .i64 0, .int .i64 0]) := by rw [eH30, eid31]; exact Heap.get_new_eq
  have k33 : id31 < H30.next := by rw [eH30, eid31, Heap.new_next]; exact Nat.lt_succ_self _
  have k34 : abox h (.agg [.bool false, .int .i64 0, .int .i64 0]) = some (.ptr id31 0, H30) := by simp only [abox, eH30, eid31, Zc, if_true]
  cases hm
  refine ⟨⟨_, _⟩, by simp only [bodyOf, Tryz.f26, Cat, Zs, awanted, aoper, evalO, put, acallOp, abuiltin, Nat.reduceEqDiff, Nat.reduceLT, ofV, ofCell, ↓reduceIte, hl, a0, a1, a2, a3, CP, TyB.cb_parse_go_148, TyB.cb_parse_go_143, TyB.cb_parse_go_130, TyB.cb_plan_go_27, TyB.cb_plan_go_29, TyB.cb_plan_go_31, TyB.cb_plan_go_41, TyB.cb_plan_go_61, TyB.cb_cube_go_25, TyB.cb_law_go_39, TyB.cb_ref_go_26, TyB.cb_ref_go_48, TyB.cb_ref_go_57, TyB.cb_ref_go_65, ic26, bx_c ic26, cl_c ic26, ic27, bx_c ic27, cl_c ic27, ic28, bx_c ic28, cl_c ic28, ic29, bx_c ic29, cl_c ic29, Zc, TyB.ze72, TyB.own_plan_go_41, k34]; exact rfl, ?_⟩
  show P26_5 _ _
  exact ⟨w1_0, w0_0, w0_1, w0_2, w0_3, id31, by simp [hl], by simp [a1], r1_0, by simp [a2], by simp [a3], by simp [hl], r0_0, r0_1, r0_2, r0_3, by simp [hl], k32, k33⟩
theorem B26 : Ref Cl P26_6 (bodyOf Tryz.f26) (M26) (post P26_1 (fun _ _ _ => False) P26_1) := by
  rw [show bodyOf Tryz.f26 = .seq (Cat [false] (bodyOf Tryz.f26)) (.seq (Cat [true, false] (bodyOf Tryz.f26)) (.seq (.seq (Cat [true, true, false, false] (bodyOf Tryz.f26)) (.cond (.tmp 16) (Cat [true, true, false, true, false] (bodyOf Tryz.f26)) (.skip))) (.seq (Cat [true, true, true, false] (bodyOf Tryz.f26)) (.ret)))) from rfl]
  unfold M26
  exact ref_seq (R26_4 _ _) (ref_seq (R26_3 _ _) (ref_seq (ref_seq (R26_2 _ _) (ref_cond (P := P26_3) (c := fun s => s.t16) (fun s st hp => by obtain ⟨w1_0, i8, hl, a1, r1_0, a2, a3, a8, g8, l8, a9, a16⟩ := (hp : P26_3' s st.tmps st.h); simp only [evalO, a16, Option.getD_some]) (ref_weak (P' := P26_2) (fun s st hp => by obtain ⟨w1_0, i8, hl, a1, r1_0, a2, a3, a8, g8, l8, a9, a16⟩ := (hp : P26_3' s st.tmps st.h); exact (⟨i8, hl, a2, a3, a8, g8, l8, a9⟩ : P26_2' s st.tmps st.h)) (R26_1 _ _)) (ref_weak (P' := P26_0) (fun s st hp => by obtain ⟨w1_0, i8, hl, a1, r1_0, a2, a3, a8, g8, l8, a9, a16⟩ := (hp : P26_3' s st.tmps st.h); exact (⟨w1_0, i8, hl, a1, r1_0, a2, a3, a8, g8, l8, a9⟩ : P26_0' s st.tmps st.h)) (ref_skip (fun s st hp => hp))))) (ref_seq (R26_0 _ _) (ref_ret (fun s st hp => hp)))))
noncomputable def G26 (x0 : Bound) (x1 : (List ViewInfo)) (x2 : Int) (x3 : Int) : Option Plan := match M26 { (default : Fr26) with t0 := x0, t1 := x1, t2 := x2, t3 := x3 } with
  | some (.nrm, s) => some s.t8
  | some (.ret, s) => some s.t8
  | _ => none
theorem G26_spec : Spec26 (G26) := by
  intro x0 x1 x2 x3 vx0_0 hvx0_0 vx0_1 hvx0_1 vx0_2 hvx0_2 vx0_3 hvx0_3 vx1_0 hvx1_0 r hr
  unfold G26 at hr
  cases hm : M26 { (default : Fr26) with t0 := x0, t1 := x1, t2 := x2, t3 := x3 } with
  | none => rw [hm] at hr; cases hr
  | some q =>
    obtain ⟨x, s⟩ := q
    rw [hm] at hr
    have hx : x = .nrm ∨ x = .ret := by cases x <;> first | exact .inl rfl | exact .inr rfl | cases hr
    have hr : s.t8 = r := by cases x <;> first | exact Option.some.inj hr | cases hr
    subst hr
    have hp0 : P26_6' ({ (default : Fr26) with t0 := x0, t1 := x1, t2 := x2, t3 := x3 }) (slots Tryz.f26 (stripL [.agg [vx0_0, vx0_1, vx0_2, vx0_3], vx1_0, .int .i64 x2, .int .i64 x3])) bare := ⟨(strip vx0_0 : AVal), (strip vx0_1 : AVal), (strip vx0_2 : AVal), (strip vx0_3 : AVal), (strip vx1_0 : AVal), rfl, rfl, hvx0_0.strip rPick_p, hvx0_1.strip rS_p, rTestT_p.str _ _ hvx0_2, hvx0_3.strip (rI_p .i64), rfl, hvx1_0.strip rViewInfo_p, rfl, rfl⟩
    obtain ⟨v, hR, hrun⟩ := run_of_ref (C := Cl) (f := 26) (fn := Tryz.f26) Tryz.func26 rfl rfl rfl rfl (args := [.agg [vx0_0, vx0_1, vx0_2, vx0_3], vx1_0, .int .i64 x2, .int .i64 x3]) (by simp only [refsL, refs, List.append_nil, hvx0_0.refs rPick_p, hvx0_1.refs rS_p, refs_one (rTestT_p.ref _ _ hvx0_2), hvx0_3.refs (rI_p .i64), hvx1_0.refs rViewInfo_p]) (B26) (s0 := { (default : Fr26) with t0 := x0, t1 := x1, t2 := x2, t3 := x3 }) hp0 hm hx (R := fun v => v = .agg [.bool s.t8.Base, .int .i64 s.t8.Set, .int .i64 s.t8.Cost]) (by
      have key : ∀ st : ASt, P26_1 s st → ∃ vs v, aresults Cl Tryz.f26.results.toList st = some vs ∧ Nrm [] st.h (packRes vs) v ∧ (fun v => v = .agg [.bool s.t8.Base, .int .i64 s.t8.Set, .int .i64 s.t8.Cost]) v := by
        intro st hp
        obtain ⟨i8, hl, a8, g8, l8⟩ := (hp : P26_1' s st.tmps st.h)
        have ld8 : loadA st.h true 3 (.ptr i8 0) = some (.agg [.bool s.t8.Base, .int .i64 s.t8.Set, .int .i64 s.t8.Cost]) := by rw [Heap.load_gen g8 (Nat.zero_le _)]; first | rfl | exact ofc3 _ _ _ _
        exact ⟨[.agg [.bool s.t8.Base, .int .i64 s.t8.Set, .int .i64 s.t8.Cost]], _, by simp only [show Tryz.f26.results.toList = [ResultVar.cell 8 72] from rfl, aresults, ares1, CP, a8, Option.getD_some, ld8, TyB.ld72], (Nrm.of (w := .agg [.bool s.t8.Base, .int .i64 s.t8.Set, .int .i64 s.t8.Cost]) (by simp only [refsL, refs, List.append_nil])), rfl⟩
      intro st hq
      rcases hx with rfl | rfl
      · exact key st hq
      · exact key st hq)
    subst hR
    exact hrun
/-! ### caisson/plan.Gain -/
structure Fr31 where
  t0 : Int
  t1 : Int
  t2 : Int
  t3 : (List ViewInfo)
  t4 : Int
  t5 : Int
  t12 : Int
  t16 : Bool
instance : Inhabited Fr31 := ⟨⟨0, 0, 0, [], 0, 0, 0, false⟩⟩
def P31_0' (s : Fr31) (t : List AVal) (h : AHeap) : Prop := ∃ w3_0, t.length = 27 ∧ t[0]? = some (.int .i64 s.t0) ∧ t[2]? = some (.int .i64 s.t2) ∧ t[3]? = some w3_0 ∧ Sl rViewInfo s.t3 w3_0 ∧ t[4]? = some (.int .i64 s.t4) ∧ t[5]? = some (.int .i64 s.t5)
def P31_0 (s : Fr31) (st : ASt) : Prop := P31_0' s st.tmps st.h
def P31_1' (s : Fr31) (t : List AVal) (h : AHeap) : Prop := t.length = 27 ∧ t[12]? = some (.int .i64 s.t12)
def P31_1 (s : Fr31) (st : ASt) : Prop := P31_1' s st.tmps st.h
def P31_2' (s : Fr31) (t : List AVal) (h : AHeap) : Prop := t.length = 27 ∧ True
def P31_2 (s : Fr31) (st : ASt) : Prop := P31_2' s st.tmps st.h
def P31_3' (s : Fr31) (t : List AVal) (h : AHeap) : Prop := ∃ w3_0, t.length = 27 ∧ t[0]? = some (.int .i64 s.t0) ∧ t[2]? = some (.int .i64 s.t2) ∧ t[3]? = some w3_0 ∧ Sl rViewInfo s.t3 w3_0 ∧ t[4]? = some (.int .i64 s.t4) ∧ t[5]? = some (.int .i64 s.t5) ∧ t[16]? = some (.bool s.t16)
def P31_3 (s : Fr31) (st : ASt) : Prop := P31_3' s st.tmps st.h
def P31_4' (s : Fr31) (t : List AVal) (h : AHeap) : Prop := ∃ w3_0, t.length = 27 ∧ t[0]? = some (.int .i64 s.t0) ∧ t[1]? = some (.int .i64 s.t1) ∧ t[2]? = some (.int .i64 s.t2) ∧ t[3]? = some w3_0 ∧ Sl rViewInfo s.t3 w3_0 ∧ t[4]? = some (.int .i64 s.t4) ∧ t[5]? = some (.int .i64 s.t5)
def P31_4 (s : Fr31) (st : ASt) : Prop := P31_4' s st.tmps st.h
noncomputable def m31_0 : Mo Fr31 := fun s => (G81 s.t0 s.t3 s.t4 s.t5).bind fun z1 => some (.nrm, { s with t12 := (if 0 > IntKind.wrap .i64 (z1.Cost - (if 0 > s.t2 then 0 else s.t2)) then 0 else IntKind.wrap .i64 (z1.Cost - (if 0 > s.t2 then 0 else s.t2))) })
noncomputable def m31_1 : Mo Fr31 := fun s => some (.nrm, { s with t12 := 0 })
noncomputable def m31_2 : Mo Fr31 := fun s => (G85 s.t1 s.t0).bind fun z5 => some (.nrm, { s with t16 := (!z5) })
noncomputable def m31_3 : Mo Fr31 := fun s => some (.nrm, s)
noncomputable def M31 : Mo Fr31 := seqM (m31_3) (seqM (seqM (m31_2) (condM (fun s => s.t16) (seqM (m31_1) (retM)) (skipM))) (seqM (m31_0) (retM)))
def Spec31 (f : Int → Int → Int → (List ViewInfo) → Int → Int → Option Int) : Prop := ∀ (x0 : Int) (x1 : Int) (x2 : Int) (x3 : (List ViewInfo)) (x4 : Int) (x5 : Int) (vx3_0 : AVal) (_ : Sl rViewInfo x3 vx3_0) (r : Int), f x0 x1 x2 x3 x4 x5 = some r → ∀ h, run Cl 31 [.int .i64 x0, .int .i64 x1, .int .i64 x2, vx3_0, .int .i64 x4, .int .i64 x5] h = some (.ret (.int .i64 r), h)
theorem Spec31_of {f g : Int → Int → Int → (List ViewInfo) → Int → Int → Option Int} (hg : Spec31 g) (h : ∀ x0 x1 x2 x3 x4 x5 r, f x0 x1 x2 x3 x4 x5 = some r → g x0 x1 x2 x3 x4 x5 = some r) : Spec31 f := fun x0 x1 x2 x3 x4 x5 v0_ w0_ r hr => hg x0 x1 x2 x3 x4 x5 v0_ w0_ r (h x0 x1 x2 x3 x4 x5 r hr)
theorem R31_0 (pe pr) : Ref Cl P31_0 (Cat [true, true, false] (bodyOf Tryz.f31)) m31_0 (post P31_1 pe pr) := by
  rintro s ⟨t, h⟩ hp x s' hm
  obtain ⟨w3_0, hl, a0, a2, a3, r3_0, a4, a5⟩ : P31_0' s t h := hp
  unfold m31_0 at hm
  obtain ⟨z3, hz3, hm⟩ := Option.bind_eq_some_iff.1 hm
  have iu4 := G81_spec s.t0 s.t3 s.t4 s.t5 _ r3_0 _ hz3
  cases hm
  refine ⟨⟨_, _⟩, by simp only [bodyOf, Tryz.f31, Cat, Zs, awanted, aoper, evalO, put, acallOp, abuiltin, Nat.reduceEqDiff, Nat.reduceLT, ofV, ofCell, ↓reduceIte, hl, a0, a2, a3, a4, a5, CP, iu4, TyB.fi72_2, ofc1, List.drop_succ_cons, List.drop_zero, List.length_cons, List.length_nil, Nat.zero_add, Nat.reduceAdd, Nat.reduceLeDiff, Nat.zero_le, max_ii]; exact rfl, ?_⟩
  show P31_1 _ _
  exact ⟨by simp [hl], by simp [hl]⟩
theorem R31_1 (pe pr) : Ref Cl P31_2 (Cat [true, false, true, false, false] (bodyOf Tryz.f31)) m31_1 (post P31_1 pe pr) := by
  rintro s ⟨t, h⟩ hp x s' hm
  obtain ⟨hl, _⟩ : P31_2' s t h := hp
  unfold m31_1 at hm
  cases hm
  refine ⟨⟨_, _⟩, by simp only [bodyOf, Tryz.f31, Cat, Zs, awanted, aoper, evalO, put, acallOp, abuiltin, Nat.reduceEqDiff, Nat.reduceLT, ofV, ofCell, ↓reduceIte, hl, CP]; exact rfl, ?_⟩
  show P31_1 _ _
  exact ⟨by simp [hl], by simp [hl]⟩
theorem R31_2 (pe pr) : Ref Cl P31_4 (Cat [true, false, false] (bodyOf Tryz.f31)) m31_2 (post P31_3 pe pr) := by
  rintro s ⟨t, h⟩ hp x s' hm
  obtain ⟨w3_0, hl, a0, a1, a2, a3, r3_0, a4, a5⟩ : P31_4' s t h := hp
  unfold m31_2 at hm
  obtain ⟨z7, hz7, hm⟩ := Option.bind_eq_some_iff.1 hm
  have iu8 := G85_spec s.t1 s.t0  _ hz7
  cases hm
  refine ⟨⟨_, _⟩, by simp only [bodyOf, Tryz.f31, Cat, Zs, awanted, aoper, evalO, put, acallOp, abuiltin, Nat.reduceEqDiff, Nat.reduceLT, ofV, ofCell, ↓reduceIte, hl, a0, a1, a2, a3, a4, a5, CP, iu8, aun_not]; exact rfl, ?_⟩
  show P31_3 _ _
  exact ⟨w3_0, by simp [hl], by simp [a0], by simp [a2], by simp [a3], r3_0, by simp [a4], by simp [a5], by simp [hl]⟩
theorem R31_3 (pe pr) : Ref Cl P31_4 (Cat [false] (bodyOf Tryz.f31)) m31_3 (post P31_4 pe pr) := by
  rintro s ⟨t, h⟩ hp x s' hm
  obtain ⟨w3_0, hl, a0, a1, a2, a3, r3_0, a4, a5⟩ : P31_4' s t h := hp
  unfold m31_3 at hm
  cases hm
  refine ⟨⟨_, _⟩, by simp only [bodyOf, Tryz.f31, Cat, Zs, awanted, aoper, evalO, put, acallOp, abuiltin, Nat.reduceEqDiff, Nat.reduceLT, ofV, ofCell, ↓reduceIte, hl, a0, a1, a2, a3, a4, a5, CP]; exact rfl, ?_⟩
  show P31_4 _ _
  exact ⟨w3_0, by simp [hl], by simp [a0], by simp [a1], by simp [a2], by simp [a3], r3_0, by simp [a4], by simp [a5]⟩
theorem B31 : Ref Cl P31_4 (bodyOf Tryz.f31) (M31) (post P31_1 (fun _ _ _ => False) P31_1) := by
  rw [show bodyOf Tryz.f31 = .seq (Cat [false] (bodyOf Tryz.f31)) (.seq (.seq (Cat [true, false, false] (bodyOf Tryz.f31)) (.cond (.tmp 16) (.seq (Cat [true, false, true, false, false] (bodyOf Tryz.f31)) (.ret)) (.skip))) (.seq (Cat [true, true, false] (bodyOf Tryz.f31)) (.ret))) from rfl]
  unfold M31
  exact ref_seq (R31_3 _ _) (ref_seq (ref_seq (R31_2 _ _) (ref_cond (P := P31_3) (c := fun s => s.t16) (fun s st hp => by obtain ⟨w3_0, hl, a0, a2, a3, r3_0, a4, a5, a16⟩ := (hp : P31_3' s st.tmps st.h); simp only [evalO, a16, Option.getD_some]) (ref_weak (P' := P31_2) (fun s st hp => by obtain ⟨w3_0, hl, a0, a2, a3, r3_0, a4, a5, a16⟩ := (hp : P31_3' s st.tmps st.h); exact (⟨hl, trivial⟩ : P31_2' s st.tmps st.h)) (ref_seq (R31_1 _ _) (ref_ret (fun s st hp => hp)))) (ref_weak (P' := P31_0) (fun s st hp => by obtain ⟨w3_0, hl, a0, a2, a3, r3_0, a4, a5, a16⟩ := (hp : P31_3' s st.tmps st.h); exact (⟨w3_0, hl, a0, a2, a3, r3_0, a4, a5⟩ : P31_0' s st.tmps st.h)) (ref_skip (fun s st hp => hp))))) (ref_seq (R31_0 _ _) (ref_ret (fun s st hp => hp))))
noncomputable def G31 (x0 : Int) (x1 : Int) (x2 : Int) (x3 : (List ViewInfo)) (x4 : Int) (x5 : Int) : Option Int := match M31 { (default : Fr31) with t0 := x0, t1 := x1, t2 := x2, t3 := x3, t4 := x4, t5 := x5 } with
  | some (.nrm, s) => some s.t12
  | some (.ret, s) => some s.t12
  | _ => none
theorem G31_spec : Spec31 (G31) := by
  intro x0 x1 x2 x3 x4 x5 vx3_0 hvx3_0 r hr
  unfold G31 at hr
  cases hm : M31 { (default : Fr31) with t0 := x0, t1 := x1, t2 := x2, t3 := x3, t4 := x4, t5 := x5 } with
  | none => rw [hm] at hr; cases hr
  | some q =>
    obtain ⟨x, s⟩ := q
    rw [hm] at hr
    have hx : x = .nrm ∨ x = .ret := by cases x <;> first | exact .inl rfl | exact .inr rfl | cases hr
    have hr : s.t12 = r := by cases x <;> first | exact Option.some.inj hr | cases hr
    subst hr
    have hp0 : P31_4' ({ (default : Fr31) with t0 := x0, t1 := x1, t2 := x2, t3 := x3, t4 := x4, t5 := x5 }) (slots Tryz.f31 (stripL [.int .i64 x0, .int .i64 x1, .int .i64 x2, vx3_0, .int .i64 x4, .int .i64 x5])) bare := ⟨(strip vx3_0 : AVal), rfl, rfl, rfl, rfl, rfl, hvx3_0.strip rViewInfo_p, rfl, rfl⟩
    obtain ⟨v, hR, hrun⟩ := run_of_ref (C := Cl) (f := 31) (fn := Tryz.f31) Tryz.func31 rfl rfl rfl rfl (args := [.int .i64 x0, .int .i64 x1, .int .i64 x2, vx3_0, .int .i64 x4, .int .i64 x5]) (by simp only [refsL, refs, List.append_nil, hvx3_0.refs rViewInfo_p]) (B31) (s0 := { (default : Fr31) with t0 := x0, t1 := x1, t2 := x2, t3 := x3, t4 := x4, t5 := x5 }) hp0 hm hx (R := fun v => v = .int .i64 s.t12) (by
      have key : ∀ st : ASt, P31_1 s st → ∃ vs v, aresults Cl Tryz.f31.results.toList st = some vs ∧ Nrm [] st.h (packRes vs) v ∧ (fun v => v = .int .i64 s.t12) v := by
        intro st hp
        obtain ⟨hl, a12⟩ := (hp : P31_1' s st.tmps st.h)
        exact ⟨[.int .i64 s.t12], _, by simp only [show Tryz.f31.results.toList = [ResultVar.tmp 12] from rfl, aresults, ares1, CP, a12, Option.getD_some], (Nrm.of (w := .int .i64 s.t12) (by simp only [refsL, refs, List.append_nil])), rfl⟩
      intro st hq
      rcases hx with rfl | rfl
      · exact key st hq
      · exact key st hq)
    subst hR
    exact hrun
/-! ### caisson/plan.Text -/
structure Fr29 where
  t0 : Plan
  t1 : Plan
  t2 : (List UInt8)
  t3 : (List UInt8)
  t9 : Bool
instance : Inhabited Fr29 := ⟨⟨default, default, [], [], false⟩⟩
def P29_0' (s : Fr29) (t : List AVal) (h : AHeap) : Prop := t.length = 18 ∧ t[1]? = some (.iptr [.bool s.t1.Base, .int .i64 s.t1.Set, .int .i64 s.t1.Cost]) ∧ t[3]? = some (.str s.t3)
def P29_0 (s : Fr29) (st : ASt) : Prop := P29_0' s st.tmps st.h
def P29_1' (s : Fr29) (t : List AVal) (h : AHeap) : Prop := t.length = 18 ∧ t[2]? = some (.str s.t2)
def P29_1 (s : Fr29) (st : ASt) : Prop := P29_1' s st.tmps st.h
def P29_2' (s : Fr29) (t : List AVal) (h : AHeap) : Prop := t.length = 18 ∧ t[3]? = some (.str s.t3)
def P29_2 (s : Fr29) (st : ASt) : Prop := P29_2' s st.tmps st.h
def P29_3' (s : Fr29) (t : List AVal) (h : AHeap) : Prop := t.length = 18 ∧ t[1]? = some (.iptr [.bool s.t1.Base, .int .i64 s.t1.Set, .int .i64 s.t1.Cost]) ∧ t[3]? = some (.str s.t3) ∧ t[9]? = some (.bool s.t9)
def P29_3 (s : Fr29) (st : ASt) : Prop := P29_3' s st.tmps st.h
def P29_4' (s : Fr29) (t : List AVal) (h : AHeap) : Prop := t.length = 18 ∧ t[1]? = some (.iptr [.bool s.t1.Base, .int .i64 s.t1.Set, .int .i64 s.t1.Cost])
def P29_4 (s : Fr29) (st : ASt) : Prop := P29_4' s st.tmps st.h
def P29_5' (s : Fr29) (t : List AVal) (h : AHeap) : Prop := t.length = 18 ∧ t[0]? = some (.agg [.bool s.t0.Base, .int .i64 s.t0.Set, .int .i64 s.t0.Cost])
def P29_5 (s : Fr29) (st : ASt) : Prop := P29_5' s st.tmps st.h
noncomputable def m29_0 : Mo Fr29 := fun s => (S75 s.t1.Set).bind fun z1 => (catT ([118, 105, 101, 119, 32] : List UInt8) z1).bind fun z3 => (catT z3 s.t3).bind fun z5 => some (.nrm, { s with t2 := z5 })
noncomputable def m29_1 : Mo Fr29 := fun s => (catT ([97, 108, 108, 32, 102, 97, 99, 116, 115] : List UInt8) s.t3).bind fun z13 => some (.nrm, { s with t2 := z13 })
noncomputable def m29_2 : Mo Fr29 := fun s => some (.nrm, { s with t9 := s.t1.Base })
noncomputable def m29_3 : Mo Fr29 := fun s => (S75 s.t1.Cost).bind fun z17 => (catT ([44, 32] : List UInt8) z17).bind fun z19 => some (.nrm, { s with t3 := z19 })
noncomputable def m29_4 : Mo Fr29 := fun s => some (.nrm, { s with t1 := s.t0 })
noncomputable def M29 : Mo Fr29 := seqM (m29_4) (seqM (m29_3) (seqM (seqM (m29_2) (condM (fun s => s.t9) (seqM (m29_1) (retM)) (skipM))) (seqM (m29_0) (retM))))
def Spec29 (f : Plan → Option (List UInt8)) : Prop := ∀ (x0 : Plan) (r : (List UInt8)), f x0 = some r → ∀ h, run Cl 29 [.agg [.bool x0.Base, .int .i64 x0.Set, .int .i64 x0.Cost]] h = some (.ret (.str r), h)
theorem Spec29_of {f g : Plan → Option (List UInt8)} (hg : Spec29 g) (h : ∀ x0 r, f x0 = some r → g x0 = some r) : Spec29 f := fun x0 r hr => hg x0 r (h x0 r hr)
theorem R29_0 (pe pr) : Ref Cl P29_0 (Cat [true, true, true, false] (bodyOf Tryz.f29)) m29_0 (post P29_1 pe pr) := by
  rintro s ⟨t, h⟩ hp x s' hm
  obtain ⟨hl, a1, a3⟩ : P29_0' s t h := hp
  unfold m29_0 at hm
  obtain ⟨z7, hz7, hm⟩ := Option.bind_eq_some_iff.1 hm
  have iu8 := S75_spec s.t1.Set  _ hz7
  obtain ⟨z9, hz9, hm⟩ := Option.bind_eq_some_iff.1 hm
  have iu10 := cat_v (C := Cl) hz9
  obtain ⟨z11, hz11, hm⟩ := Option.bind_eq_some_iff.1 hm
  have iu12 := cat_v (C := Cl) hz11
  cases hm
  refine ⟨⟨_, _⟩, by simp only [bodyOf, Tryz.f29, Cat, Zs, awanted, aoper, evalO, put, acallOp, abuiltin, Nat.reduceEqDiff, Nat.reduceLT, ofV, ofCell, ↓reduceIte, hl, a1, a3, CP, TyB.fa72_1, dropCells, List.drop_succ_cons, List.drop_zero, TyB.ld3, ld_ip, ofc1, List.drop_succ_cons, List.drop_zero, iu8, iu10, iu12]; exact rfl, ?_⟩
  show P29_1 _ _
  exact ⟨by simp [hl], by simp [hl]⟩
theorem R29_1 (pe pr) : Ref Cl P29_2 (Cat [true, true, false, true, false, false] (bodyOf Tryz.f29)) m29_1 (post P29_1 pe pr) := by
  rintro s ⟨t, h⟩ hp x s' hm
  obtain ⟨hl, a3⟩ : P29_2' s t h := hp
  unfold m29_1 at hm
  obtain ⟨z15, hz15, hm⟩ := Option.bind_eq_some_iff.1 hm
  have iu16 := cat_v (C := Cl) hz15
  cases hm
  refine ⟨⟨_, _⟩, by simp only [bodyOf, Tryz.f29, Cat, Zs, awanted, aoper, evalO, put, acallOp, abuiltin, Nat.reduceEqDiff, Nat.reduceLT, ofV, ofCell, ↓reduceIte, hl, a3, CP, iu16]; exact rfl, ?_⟩
  show P29_1 _ _
  exact ⟨by simp [hl], by simp [hl]⟩
theorem R29_2 (pe pr) : Ref Cl P29_0 (Cat [true, true, false, false] (bodyOf Tryz.f29)) m29_2 (post P29_3 pe pr) := by
  rintro s ⟨t, h⟩ hp x s' hm
  obtain ⟨hl, a1, a3⟩ : P29_0' s t h := hp
  unfold m29_2 at hm
  cases hm
  refine ⟨⟨_, _⟩, by simp only [bodyOf, Tryz.f29, Cat, Zs, awanted, aoper, evalO, put, acallOp, abuiltin, Nat.reduceEqDiff, Nat.reduceLT, ofV, ofCell, ↓reduceIte, hl, a1, a3, CP, TyB.fa72_0, dropCells, List.drop_succ_cons, List.drop_zero, TyB.ld4, ld_ip, ofc1, List.drop_succ_cons, List.drop_zero]; exact rfl, ?_⟩
  show P29_3 _ _
  exact ⟨by simp [hl], by simp [a1], by simp [a3], by simp [hl]⟩
theorem R29_3 (pe pr) : Ref Cl P29_4 (Cat [true, false] (bodyOf Tryz.f29)) m29_3 (post P29_0 pe pr) := by
  rintro s ⟨t, h⟩ hp x s' hm
  obtain ⟨hl, a1⟩ : P29_4' s t h := hp
  unfold m29_3 at hm
  obtain ⟨z21, hz21, hm⟩ := Option.bind_eq_some_iff.1 hm
  have iu22 := S75_spec s.t1.Cost  _ hz21
  obtain ⟨z23, hz23, hm⟩ := Option.bind_eq_some_iff.1 hm
  have iu24 := cat_v (C := Cl) hz23
  cases hm
  refine ⟨⟨_, _⟩, by simp only [bodyOf, Tryz.f29, Cat, Zs, awanted, aoper, evalO, put, acallOp, abuiltin, Nat.reduceEqDiff, Nat.reduceLT, ofV, ofCell, ↓reduceIte, hl, a1, CP, TyB.fa72_2, dropCells, List.drop_succ_cons, List.drop_zero, TyB.ld3, ld_ip, ofc1, List.drop_succ_cons, List.drop_zero, iu22, iu24]; exact rfl, ?_⟩
  show P29_0 _ _
  exact ⟨by simp [hl], by simp [a1], by simp [hl]⟩
theorem R29_4 (pe pr) : Ref Cl P29_5 (Cat [false] (bodyOf Tryz.f29)) m29_4 (post P29_4 pe pr) := by
  rintro s ⟨t, h⟩ hp x s' hm
  obtain ⟨hl, a0⟩ : P29_5' s t h := hp
  unfold m29_4 at hm
  cases hm
  refine ⟨⟨_, _⟩, by simp only [bodyOf, Tryz.f29, Cat, Zs, awanted, aoper, evalO, put, acallOp, abuiltin, Nat.reduceEqDiff, Nat.reduceLT, ofV, ofCell, ↓reduceIte, hl, a0, CP, TyB.cb_parse_go_148, TyB.cb_parse_go_143, TyB.cb_parse_go_130, TyB.cb_plan_go_27, TyB.cb_plan_go_29, TyB.cb_plan_go_31, TyB.cb_plan_go_41, TyB.cb_plan_go_61, TyB.cb_cube_go_25, TyB.cb_law_go_39, TyB.cb_ref_go_26, TyB.cb_ref_go_48, TyB.cb_ref_go_57, TyB.cb_ref_go_65, Zc]; exact rfl, ?_⟩
  show P29_4 _ _
  exact ⟨by simp [hl], by simp [hl]⟩
theorem B29 : Ref Cl P29_5 (bodyOf Tryz.f29) (M29) (post P29_1 (fun _ _ _ => False) P29_1) := by
  rw [show bodyOf Tryz.f29 = .seq (Cat [false] (bodyOf Tryz.f29)) (.seq (Cat [true, false] (bodyOf Tryz.f29)) (.seq (.seq (Cat [true, true, false, false] (bodyOf Tryz.f29)) (.cond (.tmp 9) (.seq (Cat [true, true, false, true, false, false] (bodyOf Tryz.f29)) (.ret)) (.skip))) (.seq (Cat [true, true, true, false] (bodyOf Tryz.f29)) (.ret)))) from rfl]
  unfold M29
  exact ref_seq (R29_4 _ _) (ref_seq (R29_3 _ _) (ref_seq (ref_seq (R29_2 _ _) (ref_cond (P := P29_3) (c := fun s => s.t9) (fun s st hp => by obtain ⟨hl, a1, a3, a9⟩ := (hp : P29_3' s st.tmps st.h); simp only [evalO, a9, Option.getD_some]) (ref_weak (P' := P29_2) (fun s st hp => by obtain ⟨hl, a1, a3, a9⟩ := (hp : P29_3' s st.tmps st.h); exact (⟨hl, a3⟩ : P29_2' s st.tmps st.h)) (ref_seq (R29_1 _ _) (ref_ret (fun s st hp => hp)))) (ref_weak (P' := P29_0) (fun s st hp => by obtain ⟨hl, a1, a3, a9⟩ := (hp : P29_3' s st.tmps st.h); exact (⟨hl, a1, a3⟩ : P29_0' s st.tmps st.h)) (ref_skip (fun s st hp => hp))))) (ref_seq (R29_0 _ _) (ref_ret (fun s st hp => hp)))))
noncomputable def G29 (x0 : Plan) : Option (List UInt8) := match M29 { (default : Fr29) with t0 := x0 } with
  | some (.nrm, s) => some s.t2
  | some (.ret, s) => some s.t2
  | _ => none
theorem G29_spec : Spec29 (G29) := by
  intro x0 r hr
  unfold G29 at hr
  cases hm : M29 { (default : Fr29) with t0 := x0 } with
  | none => rw [hm] at hr; cases hr
  | some q =>
    obtain ⟨x, s⟩ := q
    rw [hm] at hr
    have hx : x = .nrm ∨ x = .ret := by cases x <;> first | exact .inl rfl | exact .inr rfl | cases hr
    have hr : s.t2 = r := by cases x <;> first | exact Option.some.inj hr | cases hr
    subst hr
    have hp0 : P29_5' ({ (default : Fr29) with t0 := x0 }) (slots Tryz.f29 (stripL [.agg [.bool x0.Base, .int .i64 x0.Set, .int .i64 x0.Cost]])) bare := ⟨rfl, rfl⟩
    obtain ⟨v, hR, hrun⟩ := run_of_ref (C := Cl) (f := 29) (fn := Tryz.f29) Tryz.func29 rfl rfl rfl rfl (args := [.agg [.bool x0.Base, .int .i64 x0.Set, .int .i64 x0.Cost]]) (by simp only [refsL, refs, List.append_nil]) (B29) (s0 := { (default : Fr29) with t0 := x0 }) hp0 hm hx (R := fun v => v = .str s.t2) (by
      have key : ∀ st : ASt, P29_1 s st → ∃ vs v, aresults Cl Tryz.f29.results.toList st = some vs ∧ Nrm [] st.h (packRes vs) v ∧ (fun v => v = .str s.t2) v := by
        intro st hp
        obtain ⟨hl, a2⟩ := (hp : P29_1' s st.tmps st.h)
        exact ⟨[.str s.t2], _, by simp only [show Tryz.f29.results.toList = [ResultVar.tmp 2] from rfl, aresults, ares1, CP, a2, Option.getD_some], (Nrm.of (w := .str s.t2) (by simp only [refsL, refs, List.append_nil])), rfl⟩
      intro st hq
      rcases hx with rfl | rfl
      · exact key st hq
      · exact key st hq)
    subst hR
    exact hrun
/-! ### caisson/caissonref19.Text -/
structure Fr30 where
  t0 : Plan
  t1 : Plan
  t2 : (List UInt8)
  t4 : Bool
instance : Inhabited Fr30 := ⟨⟨default, default, [], false⟩⟩
def P30_0' (s : Fr30) (t : List AVal) (h : AHeap) : Prop := t.length = 18 ∧ t[1]? = some (.iptr [.bool s.t1.Base, .int .i64 s.t1.Set, .int .i64 s.t1.Cost])
def P30_0 (s : Fr30) (st : ASt) : Prop := P30_0' s st.tmps st.h
def P30_1' (s : Fr30) (t : List AVal) (h : AHeap) : Prop := t.length = 18 ∧ t[2]? = some (.str s.t2)
def P30_1 (s : Fr30) (st : ASt) : Prop := P30_1' s st.tmps st.h
def P30_2' (s : Fr30) (t : List AVal) (h : AHeap) : Prop := t.length = 18 ∧ t[1]? = some (.iptr [.bool s.t1.Base, .int .i64 s.t1.Set, .int .i64 s.t1.Cost]) ∧ t[4]? = some (.bool s.t4)
def P30_2 (s : Fr30) (st : ASt) : Prop := P30_2' s st.tmps st.h
def P30_3' (s : Fr30) (t : List AVal) (h : AHeap) : Prop := t.length = 18 ∧ t[0]? = some (.agg [.bool s.t0.Base, .int .i64 s.t0.Set, .int .i64 s.t0.Cost])
def P30_3 (s : Fr30) (st : ASt) : Prop := P30_3' s st.tmps st.h
noncomputable def m30_0 : Mo Fr30 := fun s => (S75 s.t1.Set).bind fun z1 => (catT ([118, 105, 101, 119, 32] : List UInt8) z1).bind fun z3 => (catT z3 ([44, 32] : List UInt8)).bind fun z5 => (S75 s.t1.Cost).bind fun z7 => (catT z5 z7).bind fun z9 => some (.nrm, { s with t2 := z9 })
noncomputable def m30_1 : Mo Fr30 := fun s => (S75 s.t1.Cost).bind fun z21 => (catT ([97, 108, 108, 32, 102, 97, 99, 116, 115, 44, 32] : List UInt8) z21).bind fun z23 => some (.nrm, { s with t2 := z23 })
noncomputable def m30_2 : Mo Fr30 := fun s => some (.nrm, { s with t4 := s.t1.Base })
noncomputable def m30_3 : Mo Fr30 := fun s => some (.nrm, { s with t1 := s.t0 })
noncomputable def M30 : Mo Fr30 := seqM (m30_3) (seqM (seqM (m30_2) (condM (fun s => s.t4) (seqM (m30_1) (retM)) (skipM))) (seqM (m30_0) (retM)))
def Spec30 (f : Plan → Option (List UInt8)) : Prop := ∀ (x0 : Plan) (r : (List UInt8)), f x0 = some r → ∀ h, run Cl 30 [.agg [.bool x0.Base, .int .i64 x0.Set, .int .i64 x0.Cost]] h = some (.ret (.str r), h)
theorem Spec30_of {f g : Plan → Option (List UInt8)} (hg : Spec30 g) (h : ∀ x0 r, f x0 = some r → g x0 = some r) : Spec30 f := fun x0 r hr => hg x0 r (h x0 r hr)
theorem R30_0 (pe pr) : Ref Cl P30_0 (Cat [true, true, false] (bodyOf Tryz.f30)) m30_0 (post P30_1 pe pr) := by
  rintro s ⟨t, h⟩ hp x s' hm
  obtain ⟨hl, a1⟩ : P30_0' s t h := hp
  unfold m30_0 at hm
  obtain ⟨z11, hz11, hm⟩ := Option.bind_eq_some_iff.1 hm
  have iu12 := S75_spec s.t1.Set  _ hz11
  obtain ⟨z13, hz13, hm⟩ := Option.bind_eq_some_iff.1 hm
  have iu14 := cat_v (C := Cl) hz13
  obtain ⟨z15, hz15, hm⟩ := Option.bind_eq_some_iff.1 hm
  have iu16 := cat_v (C := Cl) hz15
  obtain ⟨z17, hz17, hm⟩ := Option.bind_eq_some_iff.1 hm
  have iu18 := S75_spec s.t1.Cost  _ hz17
  obtain ⟨z19, hz19, hm⟩ := Option.bind_eq_some_iff.1 hm
  have iu20 := cat_v (C := Cl) hz19
  cases hm
  refine ⟨⟨_, _⟩, by
      simp only [bodyOf, Tryz.f30, Cat, Zs, awanted, aoper, evalO, put, acallOp, abuiltin, Nat.reduceEqDiff, Nat.reduceLT, ofV, ofCell, ↓reduceIte, hl, a1, CP, TyB.fa72_1, dropCells, List.drop_succ_cons, List.drop_zero, TyB.ld3, ld_ip, ofc1, List.drop_succ_cons, List.drop_zero, iu12, iu14, iu16, TyB.fa72_2, iu18, iu20]
      rw [k_draw _ _ _ (by kernel_rfl)]
      exact rfl, ?_⟩
  show P30_1 _ _
  exact ⟨by simp [hl], by simp [hl]⟩
theorem R30_1 (pe pr) : Ref Cl P30_0 (Cat [true, false, true, false, false] (bodyOf Tryz.f30)) m30_1 (post P30_1 pe pr) := by
  rintro s ⟨t, h⟩ hp x s' hm
  obtain ⟨hl, a1⟩ : P30_0' s t h := hp
  unfold m30_1 at hm
  obtain ⟨z25, hz25, hm⟩ := Option.bind_eq_some_iff.1 hm
  have iu26 := S75_spec s.t1.Cost  _ hz25
  obtain ⟨z27, hz27, hm⟩ := Option.bind_eq_some_iff.1 hm
  have iu28 := cat_v (C := Cl) hz27
  cases hm
  refine ⟨⟨_, _⟩, by simp only [bodyOf, Tryz.f30, Cat, Zs, awanted, aoper, evalO, put, acallOp, abuiltin, Nat.reduceEqDiff, Nat.reduceLT, ofV, ofCell, ↓reduceIte, hl, a1, CP, TyB.fa72_2, dropCells, List.drop_succ_cons, List.drop_zero, TyB.ld3, ld_ip, ofc1, List.drop_succ_cons, List.drop_zero, iu26, iu28]; exact rfl, ?_⟩
  show P30_1 _ _
  exact ⟨by simp [hl], by simp [hl]⟩
theorem R30_2 (pe pr) : Ref Cl P30_0 (Cat [true, false, false] (bodyOf Tryz.f30)) m30_2 (post P30_2 pe pr) := by
  rintro s ⟨t, h⟩ hp x s' hm
  obtain ⟨hl, a1⟩ : P30_0' s t h := hp
  unfold m30_2 at hm
  cases hm
  refine ⟨⟨_, _⟩, by simp only [bodyOf, Tryz.f30, Cat, Zs, awanted, aoper, evalO, put, acallOp, abuiltin, Nat.reduceEqDiff, Nat.reduceLT, ofV, ofCell, ↓reduceIte, hl, a1, CP, TyB.fa72_0, dropCells, List.drop_succ_cons, List.drop_zero, TyB.ld4, ld_ip, ofc1, List.drop_succ_cons, List.drop_zero]; exact rfl, ?_⟩
  show P30_2 _ _
  exact ⟨by simp [hl], by simp [a1], by simp [hl]⟩
theorem R30_3 (pe pr) : Ref Cl P30_3 (Cat [false] (bodyOf Tryz.f30)) m30_3 (post P30_0 pe pr) := by
  rintro s ⟨t, h⟩ hp x s' hm
  obtain ⟨hl, a0⟩ : P30_3' s t h := hp
  unfold m30_3 at hm
  cases hm
  refine ⟨⟨_, _⟩, by simp only [bodyOf, Tryz.f30, Cat, Zs, awanted, aoper, evalO, put, acallOp, abuiltin, Nat.reduceEqDiff, Nat.reduceLT, ofV, ofCell, ↓reduceIte, hl, a0, CP, TyB.cb_parse_go_148, TyB.cb_parse_go_143, TyB.cb_parse_go_130, TyB.cb_plan_go_27, TyB.cb_plan_go_29, TyB.cb_plan_go_31, TyB.cb_plan_go_41, TyB.cb_plan_go_61, TyB.cb_cube_go_25, TyB.cb_law_go_39, TyB.cb_ref_go_26, TyB.cb_ref_go_48, TyB.cb_ref_go_57, TyB.cb_ref_go_65, Zc]; exact rfl, ?_⟩
  show P30_0 _ _
  exact ⟨by simp [hl], by simp [hl]⟩
theorem B30 : Ref Cl P30_3 (bodyOf Tryz.f30) (M30) (post P30_1 (fun _ _ _ => False) P30_1) := by
  rw [show bodyOf Tryz.f30 = .seq (Cat [false] (bodyOf Tryz.f30)) (.seq (.seq (Cat [true, false, false] (bodyOf Tryz.f30)) (.cond (.tmp 4) (.seq (Cat [true, false, true, false, false] (bodyOf Tryz.f30)) (.ret)) (.skip))) (.seq (Cat [true, true, false] (bodyOf Tryz.f30)) (.ret))) from rfl]
  unfold M30
  exact ref_seq (R30_3 _ _) (ref_seq (ref_seq (R30_2 _ _) (ref_cond (P := P30_2) (c := fun s => s.t4) (fun s st hp => by obtain ⟨hl, a1, a4⟩ := (hp : P30_2' s st.tmps st.h); simp only [evalO, a4, Option.getD_some]) (ref_weak (P' := P30_0) (fun s st hp => by obtain ⟨hl, a1, a4⟩ := (hp : P30_2' s st.tmps st.h); exact (⟨hl, a1⟩ : P30_0' s st.tmps st.h)) (ref_seq (R30_1 _ _) (ref_ret (fun s st hp => hp)))) (ref_weak (P' := P30_0) (fun s st hp => by obtain ⟨hl, a1, a4⟩ := (hp : P30_2' s st.tmps st.h); exact (⟨hl, a1⟩ : P30_0' s st.tmps st.h)) (ref_skip (fun s st hp => hp))))) (ref_seq (R30_0 _ _) (ref_ret (fun s st hp => hp))))
noncomputable def G30 (x0 : Plan) : Option (List UInt8) := match M30 { (default : Fr30) with t0 := x0 } with
  | some (.nrm, s) => some s.t2
  | some (.ret, s) => some s.t2
  | _ => none
theorem G30_spec : Spec30 (G30) := by
  intro x0 r hr
  unfold G30 at hr
  cases hm : M30 { (default : Fr30) with t0 := x0 } with
  | none => rw [hm] at hr; cases hr
  | some q =>
    obtain ⟨x, s⟩ := q
    rw [hm] at hr
    have hx : x = .nrm ∨ x = .ret := by cases x <;> first | exact .inl rfl | exact .inr rfl | cases hr
    have hr : s.t2 = r := by cases x <;> first | exact Option.some.inj hr | cases hr
    subst hr
    have hp0 : P30_3' ({ (default : Fr30) with t0 := x0 }) (slots Tryz.f30 (stripL [.agg [.bool x0.Base, .int .i64 x0.Set, .int .i64 x0.Cost]])) bare := ⟨rfl, rfl⟩
    obtain ⟨v, hR, hrun⟩ := run_of_ref (C := Cl) (f := 30) (fn := Tryz.f30) Tryz.func30 rfl rfl rfl rfl (args := [.agg [.bool x0.Base, .int .i64 x0.Set, .int .i64 x0.Cost]]) (by simp only [refsL, refs, List.append_nil]) (B30) (s0 := { (default : Fr30) with t0 := x0 }) hp0 hm hx (R := fun v => v = .str s.t2) (by
      have key : ∀ st : ASt, P30_1 s st → ∃ vs v, aresults Cl Tryz.f30.results.toList st = some vs ∧ Nrm [] st.h (packRes vs) v ∧ (fun v => v = .str s.t2) v := by
        intro st hp
        obtain ⟨hl, a2⟩ := (hp : P30_1' s st.tmps st.h)
        exact ⟨[.str s.t2], _, by simp only [show Tryz.f30.results.toList = [ResultVar.tmp 2] from rfl, aresults, ares1, CP, a2, Option.getD_some], (Nrm.of (w := .str s.t2) (by simp only [refsL, refs, List.append_nil])), rfl⟩
      intro st hq
      rcases hx with rfl | rfl
      · exact key st hq
      · exact key st hq)
    subst hR
    exact hrun
/-! ### caisson/caissonlaw19.awake -/
def Spec25 (f : Option Bool) : Prop := ∀ (r : Bool), f  = some r → ∀ h, run Cl 25 [] h = some (.ret (.bool r), h)
end Go.Proofs.Plm
