/-
  PLAN (aa): functions (printed by wip/tools/tg.py).
-/
import Derived.Test.YtijnepmlnfcpnaaGreatDoorPlmTypes
import Derived.Test.YtijnepmlnfcpnaaGreatDoorAmPack
set_option linter.unusedVariables false
set_option linter.unusedSimpArgs false
set_option linter.unusedSimpArgs false
set_option linter.unusedVariables false
set_option maxRecDepth 100000
namespace Go.Proofs.Plm
open Go Go.Am Go.Proofs
def rFn0 (g : (ViewInfo → Option Bool)) (v : AVal) : Prop := ∃ F L, v = .fn (.func F) [] L ∧ refsL L = [] ∧ stripL L = L ∧ ∀ (x0 : ViewInfo) (r : Bool), g x0 = some r → ∀ h, run Cl F (.agg [.int .i64 x0.Set, .int .i64 x0.State, .int .i64 x0.Seq, .int .i64 x0.Rows, .int .i64 x0.Bytes, .int .i64 x0.Readers] :: L) h = some (.ret (.bool r), h)
theorem rFn0_strip {g : (ViewInfo → Option Bool)} {v : AVal} (h : rFn0 g v) : rFn0 g (strip v) := by
  obtain ⟨F, L, rfl, rL, sL, H⟩ := h
  exact ⟨F, L, by simp only [strip, stripL, sL], rL, sL, H⟩
theorem rFn0_refs {g : (ViewInfo → Option Bool)} {v : AVal} (h : rFn0 g v) : refs v = [] := by
  obtain ⟨F, L, rfl, rL, sL, H⟩ := h
  simp only [refs, refsL, rL, List.append_nil]
def rFn1 (g : (ViewInfo → ViewInfo → Option Int)) (v : AVal) : Prop := ∃ F L, v = .fn (.func F) [] L ∧ refsL L = [] ∧ stripL L = L ∧ ∀ (x0 : ViewInfo) (x1 : ViewInfo) (r : Int), g x0 x1 = some r → ∀ h, run Cl F (.agg [.int .i64 x0.Set, .int .i64 x0.State, .int .i64 x0.Seq, .int .i64 x0.Rows, .int .i64 x0.Bytes, .int .i64 x0.Readers] :: .agg [.int .i64 x1.Set, .int .i64 x1.State, .int .i64 x1.Seq, .int .i64 x1.Rows, .int .i64 x1.Bytes, .int .i64 x1.Readers] :: L) h = some (.ret (.int .i64 r), h)
theorem rFn1_strip {g : (ViewInfo → ViewInfo → Option Int)} {v : AVal} (h : rFn1 g v) : rFn1 g (strip v) := by
  obtain ⟨F, L, rfl, rL, sL, H⟩ := h
  exact ⟨F, L, by simp only [strip, stripL, sL], rL, sL, H⟩
theorem rFn1_refs {g : (ViewInfo → ViewInfo → Option Int)} {v : AVal} (h : rFn1 g v) : refs v = [] := by
  obtain ⟨F, L, rfl, rL, sL, H⟩ := h
  simp only [refs, refsL, rL, List.append_nil]
/-! ### math/bits.OnesCount64 -/
structure Fr202 where
  t0 : Int
  t2 : Int
instance : Inhabited Fr202 := ⟨⟨0, 0⟩⟩
def P202_0' (s : Fr202) (t : List AVal) (h : AHeap) : Prop := t.length = 35 ∧ t[0]? = some (.int .u64 s.t0)
def P202_0 (s : Fr202) (st : ASt) : Prop := P202_0' s st.tmps st.h
def P202_1' (s : Fr202) (t : List AVal) (h : AHeap) : Prop := t.length = 35 ∧ t[2]? = some (.int .i64 s.t2)
def P202_1 (s : Fr202) (st : ASt) : Prop := P202_1' s st.tmps st.h
noncomputable def m202_0 : Mo Fr202 := fun s => some (.nrm, { s with t2 := bits .and .i64 (IntKind.wrap .i64 s.t0) 127 })
noncomputable def m202_1 : Mo Fr202 := fun s => (shrT .u64 s.t0 32).bind fun z1 => some (.nrm, { s with t0 := IntKind.wrap .u64 (s.t0 + z1) })
noncomputable def m202_2 : Mo Fr202 := fun s => (shrT .u64 s.t0 16).bind fun z5 => some (.nrm, { s with t0 := IntKind.wrap .u64 (s.t0 + z5) })
noncomputable def m202_3 : Mo Fr202 := fun s => (shrT .u64 s.t0 8).bind fun z9 => some (.nrm, { s with t0 := IntKind.wrap .u64 (s.t0 + z9) })
noncomputable def m202_4 : Mo Fr202 := fun s => (shrT .u64 s.t0 4).bind fun z13 => some (.nrm, { s with t0 := bits .and .u64 (IntKind.wrap .u64 (z13 + s.t0)) 1085102592571150095 })
noncomputable def m202_5 : Mo Fr202 := fun s => (shrT .u64 s.t0 2).bind fun z17 => some (.nrm, { s with t0 := IntKind.wrap .u64 ((bits .and .u64 z17 3689348814741910323) + (bits .and .u64 s.t0 3689348814741910323)) })
noncomputable def m202_6 : Mo Fr202 := fun s => (shrT .u64 s.t0 1).bind fun z21 => some (.nrm, { s with t0 := IntKind.wrap .u64 ((bits .and .u64 z21 6148914691236517205) + (bits .and .u64 s.t0 6148914691236517205)) })
noncomputable def m202_7 : Mo Fr202 := fun s => some (.nrm, s)
noncomputable def M202 : Mo Fr202 := seqM (m202_7) (seqM (m202_6) (seqM (m202_5) (seqM (m202_4) (seqM (m202_3) (seqM (m202_2) (seqM (m202_1) (seqM (m202_0) (retM))))))))
def Spec202 (f : Int → Option Int) : Prop := ∀ (x0 : Int) (r : Int), f x0 = some r → ∀ h, run Cl 202 [.int .u64 x0] h = some (.ret (.int .i64 r), h)
theorem Spec202_of {f g : Int → Option Int} (hg : Spec202 g) (h : ∀ x0 r, f x0 = some r → g x0 = some r) : Spec202 f := fun x0 r hr => hg x0 r (h x0 r hr)
theorem R202_0 (pe pr) : Ref Cl P202_0 (Cat [true, true, true, true, true, true, true, false] (bodyOf Tryz.f202)) m202_0 (post P202_1 pe pr) := by
  rintro s ⟨t, h⟩ hp x s' hm
  obtain ⟨hl, a0⟩ : P202_0' s t h := hp
  unfold m202_0 at hm
  cases hm
  refine ⟨⟨_, _⟩, by simp only [bodyOf, Tryz.f202, Cat, Zs, awanted, aoper, evalO, put, acallOp, abuiltin, Nat.reduceEqDiff, Nat.reduceLT, ofV, ofCell, ↓reduceIte, hl, a0, CP, Ty.cv243_3, Ty.and3]; exact rfl, ?_⟩
  show P202_1 _ _
  exact ⟨by simp [hl], by simp [hl]⟩
theorem R202_1 (pe pr) : Ref Cl P202_0 (Cat [true, true, true, true, true, true, false] (bodyOf Tryz.f202)) m202_1 (post P202_0 pe pr) := by
  rintro s ⟨t, h⟩ hp x s' hm
  obtain ⟨hl, a0⟩ : P202_0' s t h := hp
  unfold m202_1 at hm
  obtain ⟨z3, hz3, hm⟩ := Option.bind_eq_some_iff.1 hm
  have iu4 := shr_v (C := Cl) hz3
  cases hm
  refine ⟨⟨_, _⟩, by simp only [bodyOf, Tryz.f202, Cat, Zs, awanted, aoper, evalO, put, acallOp, abuiltin, Nat.reduceEqDiff, Nat.reduceLT, ofV, ofCell, ↓reduceIte, hl, a0, CP, iu4]; exact rfl, ?_⟩
  show P202_0 _ _
  exact ⟨by simp [hl], by simp [hl]⟩
theorem R202_2 (pe pr) : Ref Cl P202_0 (Cat [true, true, true, true, true, false] (bodyOf Tryz.f202)) m202_2 (post P202_0 pe pr) := by
  rintro s ⟨t, h⟩ hp x s' hm
  obtain ⟨hl, a0⟩ : P202_0' s t h := hp
  unfold m202_2 at hm
  obtain ⟨z7, hz7, hm⟩ := Option.bind_eq_some_iff.1 hm
  have iu8 := shr_v (C := Cl) hz7
  cases hm
  refine ⟨⟨_, _⟩, by simp only [bodyOf, Tryz.f202, Cat, Zs, awanted, aoper, evalO, put, acallOp, abuiltin, Nat.reduceEqDiff, Nat.reduceLT, ofV, ofCell, ↓reduceIte, hl, a0, CP, iu8]; exact rfl, ?_⟩
  show P202_0 _ _
  exact ⟨by simp [hl], by simp [hl]⟩
theorem R202_3 (pe pr) : Ref Cl P202_0 (Cat [true, true, true, true, false] (bodyOf Tryz.f202)) m202_3 (post P202_0 pe pr) := by
  rintro s ⟨t, h⟩ hp x s' hm
  obtain ⟨hl, a0⟩ : P202_0' s t h := hp
  unfold m202_3 at hm
  obtain ⟨z11, hz11, hm⟩ := Option.bind_eq_some_iff.1 hm
  have iu12 := shr_v (C := Cl) hz11
  cases hm
  refine ⟨⟨_, _⟩, by simp only [bodyOf, Tryz.f202, Cat, Zs, awanted, aoper, evalO, put, acallOp, abuiltin, Nat.reduceEqDiff, Nat.reduceLT, ofV, ofCell, ↓reduceIte, hl, a0, CP, iu12]; exact rfl, ?_⟩
  show P202_0 _ _
  exact ⟨by simp [hl], by simp [hl]⟩
theorem R202_4 (pe pr) : Ref Cl P202_0 (Cat [true, true, true, false] (bodyOf Tryz.f202)) m202_4 (post P202_0 pe pr) := by
  rintro s ⟨t, h⟩ hp x s' hm
  obtain ⟨hl, a0⟩ : P202_0' s t h := hp
  unfold m202_4 at hm
  obtain ⟨z15, hz15, hm⟩ := Option.bind_eq_some_iff.1 hm
  have iu16 := shr_v (C := Cl) hz15
  cases hm
  refine ⟨⟨_, _⟩, by simp only [bodyOf, Tryz.f202, Cat, Zs, awanted, aoper, evalO, put, acallOp, abuiltin, Nat.reduceEqDiff, Nat.reduceLT, ofV, ofCell, ↓reduceIte, hl, a0, CP, iu16, Ty.and243]; exact rfl, ?_⟩
  show P202_0 _ _
  exact ⟨by simp [hl], by simp [hl]⟩
theorem R202_5 (pe pr) : Ref Cl P202_0 (Cat [true, true, false] (bodyOf Tryz.f202)) m202_5 (post P202_0 pe pr) := by
  rintro s ⟨t, h⟩ hp x s' hm
  obtain ⟨hl, a0⟩ : P202_0' s t h := hp
  unfold m202_5 at hm
  obtain ⟨z19, hz19, hm⟩ := Option.bind_eq_some_iff.1 hm
  have iu20 := shr_v (C := Cl) hz19
  cases hm
  refine ⟨⟨_, _⟩, by simp only [bodyOf, Tryz.f202, Cat, Zs, awanted, aoper, evalO, put, acallOp, abuiltin, Nat.reduceEqDiff, Nat.reduceLT, ofV, ofCell, ↓reduceIte, hl, a0, CP, iu20, Ty.and243]; exact rfl, ?_⟩
  show P202_0 _ _
  exact ⟨by simp [hl], by simp [hl]⟩
theorem R202_6 (pe pr) : Ref Cl P202_0 (Cat [true, false] (bodyOf Tryz.f202)) m202_6 (post P202_0 pe pr) := by
  rintro s ⟨t, h⟩ hp x s' hm
  obtain ⟨hl, a0⟩ : P202_0' s t h := hp
  unfold m202_6 at hm
  obtain ⟨z23, hz23, hm⟩ := Option.bind_eq_some_iff.1 hm
  have iu24 := shr_v (C := Cl) hz23
  cases hm
  refine ⟨⟨_, _⟩, by simp only [bodyOf, Tryz.f202, Cat, Zs, awanted, aoper, evalO, put, acallOp, abuiltin, Nat.reduceEqDiff, Nat.reduceLT, ofV, ofCell, ↓reduceIte, hl, a0, CP, iu24, Ty.and243]; exact rfl, ?_⟩
  show P202_0 _ _
  exact ⟨by simp [hl], by simp [hl]⟩
theorem R202_7 (pe pr) : Ref Cl P202_0 (Cat [false] (bodyOf Tryz.f202)) m202_7 (post P202_0 pe pr) := by
  rintro s ⟨t, h⟩ hp x s' hm
  obtain ⟨hl, a0⟩ : P202_0' s t h := hp
  unfold m202_7 at hm
  cases hm
  refine ⟨⟨_, _⟩, by simp only [bodyOf, Tryz.f202, Cat, Zs, awanted, aoper, evalO, put, acallOp, abuiltin, Nat.reduceEqDiff, Nat.reduceLT, ofV, ofCell, ↓reduceIte, hl, a0, CP]; exact rfl, ?_⟩
  show P202_0 _ _
  exact ⟨by simp [hl], by simp [a0]⟩
theorem B202 : Ref Cl P202_0 (bodyOf Tryz.f202) (M202) (post P202_1 (fun _ _ _ => False) P202_1) := by
  rw [show bodyOf Tryz.f202 = .seq (Cat [false] (bodyOf Tryz.f202)) (.seq (Cat [true, false] (bodyOf Tryz.f202)) (.seq (Cat [true, true, false] (bodyOf Tryz.f202)) (.seq (Cat [true, true, true, false] (bodyOf Tryz.f202)) (.seq (Cat [true, true, true, true, false] (bodyOf Tryz.f202)) (.seq (Cat [true, true, true, true, true, false] (bodyOf Tryz.f202)) (.seq (Cat [true, true, true, true, true, true, false] (bodyOf Tryz.f202)) (.seq (Cat [true, true, true, true, true, true, true, false] (bodyOf Tryz.f202)) (.ret)))))))) from rfl]
  unfold M202
  exact ref_seq (R202_7 _ _) (ref_seq (R202_6 _ _) (ref_seq (R202_5 _ _) (ref_seq (R202_4 _ _) (ref_seq (R202_3 _ _) (ref_seq (R202_2 _ _) (ref_seq (R202_1 _ _) (ref_seq (R202_0 _ _) (ref_ret (fun s st hp => hp)))))))))
noncomputable def G202 (x0 : Int) : Option Int := match M202 { (default : Fr202) with t0 := x0 } with
  | some (.nrm, s) => some s.t2
  | some (.ret, s) => some s.t2
  | _ => none
theorem G202_spec : Spec202 (G202) := by
  intro x0 r hr
  unfold G202 at hr
  cases hm : M202 { (default : Fr202) with t0 := x0 } with
  | none => rw [hm] at hr; cases hr
  | some q =>
    obtain ⟨x, s⟩ := q
    rw [hm] at hr
    have hx : x = .nrm ∨ x = .ret := by cases x <;> first | exact .inl rfl | exact .inr rfl | cases hr
    have hr : s.t2 = r := by cases x <;> first | exact Option.some.inj hr | cases hr
    subst hr
    have hp0 : P202_0' ({ (default : Fr202) with t0 := x0 }) (slots Tryz.f202 (stripL [.int .u64 x0])) bare := ⟨rfl, rfl⟩
    obtain ⟨v, hR, hrun⟩ := run_of_ref (C := Cl) (f := 202) (fn := Tryz.f202) Tryz.func202 rfl rfl rfl rfl (args := [.int .u64 x0]) (by simp only [refsL, refs, List.append_nil]) (B202) (s0 := { (default : Fr202) with t0 := x0 }) hp0 hm hx (R := fun v => v = .int .i64 s.t2) (by
      have key : ∀ st : ASt, P202_1 s st → ∃ vs v, aresults Cl Tryz.f202.results.toList st = some vs ∧ Nrm [] st.h (packRes vs) v ∧ (fun v => v = .int .i64 s.t2) v := by
        intro st hp
        obtain ⟨hl, a2⟩ := (hp : P202_1' s st.tmps st.h)
        exact ⟨[.int .i64 s.t2], _, by simp only [show Tryz.f202.results.toList = [ResultVar.tmp 2] from rfl, aresults, ares1, CP, a2, Option.getD_some], (Nrm.of (w := .int .i64 s.t2) (by simp only [refsL, refs, List.append_nil])), rfl⟩
      intro st hq
      rcases hx with rfl | rfl
      · exact key st hq
      · exact key st hq)
    subst hR
    exact hrun
/-! ### math/bits.OnesCount -/
structure Fr156 where
  t0 : Int
  t2 : Int
instance : Inhabited Fr156 := ⟨⟨0, 0⟩⟩
def P156_0' (s : Fr156) (t : List AVal) (h : AHeap) : Prop := t.length = 8 ∧ t[0]? = some (.int .u64 s.t0)
def P156_0 (s : Fr156) (st : ASt) : Prop := P156_0' s st.tmps st.h
def P156_1' (s : Fr156) (t : List AVal) (h : AHeap) : Prop := t.length = 8 ∧ t[2]? = some (.int .i64 s.t2)
def P156_1 (s : Fr156) (st : ASt) : Prop := P156_1' s st.tmps st.h
noncomputable def m156_0 : Mo Fr156 := fun s => (G202 s.t0).bind fun z1 => some (.nrm, { s with t2 := z1 })
noncomputable def m156_1 : Mo Fr156 := fun s => some (.nrm, s)
noncomputable def M156 : Mo Fr156 := seqM (m156_1) (seqM (skipM) (seqM (m156_0) (retM)))
def Spec156 (f : Int → Option Int) : Prop := ∀ (x0 : Int) (r : Int), f x0 = some r → ∀ h, run Cl 156 [.int .u64 x0] h = some (.ret (.int .i64 r), h)
theorem Spec156_of {f g : Int → Option Int} (hg : Spec156 g) (h : ∀ x0 r, f x0 = some r → g x0 = some r) : Spec156 f := fun x0 r hr => hg x0 r (h x0 r hr)
theorem R156_0 (pe pr) : Ref Cl P156_0 (Cat [true, true, false] (bodyOf Tryz.f156)) m156_0 (post P156_1 pe pr) := by
  rintro s ⟨t, h⟩ hp x s' hm
  obtain ⟨hl, a0⟩ : P156_0' s t h := hp
  unfold m156_0 at hm
  obtain ⟨z3, hz3, hm⟩ := Option.bind_eq_some_iff.1 hm
  have iu4 := G202_spec s.t0  _ hz3
  cases hm
  refine ⟨⟨_, _⟩, by simp only [bodyOf, Tryz.f156, Cat, Zs, awanted, aoper, evalO, put, acallOp, abuiltin, Nat.reduceEqDiff, Nat.reduceLT, ofV, ofCell, ↓reduceIte, hl, a0, CP, iu4]; exact rfl, ?_⟩
  show P156_1 _ _
  exact ⟨by simp [hl], by simp [hl]⟩
theorem R156_1 (pe pr) : Ref Cl P156_0 (Cat [false] (bodyOf Tryz.f156)) m156_1 (post P156_0 pe pr) := by
  rintro s ⟨t, h⟩ hp x s' hm
  obtain ⟨hl, a0⟩ : P156_0' s t h := hp
  unfold m156_1 at hm
  cases hm
  refine ⟨⟨_, _⟩, by simp only [bodyOf, Tryz.f156, Cat, Zs, awanted, aoper, evalO, put, acallOp, abuiltin, Nat.reduceEqDiff, Nat.reduceLT, ofV, ofCell, ↓reduceIte, hl, a0, CP]; exact rfl, ?_⟩
  show P156_0 _ _
  exact ⟨by simp [hl], by simp [a0]⟩
theorem B156 : Ref Cl P156_0 (bodyOf Tryz.f156) (M156) (post P156_1 (fun _ _ _ => False) P156_1) := by
  rw [show bodyOf Tryz.f156 = .seq (Cat [false] (bodyOf Tryz.f156)) (.seq (.cond (.const (.bool false)) (Cat [true, false, false] (bodyOf Tryz.f156)) (.skip)) (.seq (Cat [true, true, false] (bodyOf Tryz.f156)) (.ret))) from rfl]
  unfold M156
  exact ref_seq (R156_1 _ _) (ref_seq (ref_false (ref_skip (fun s st hp => hp))) (ref_seq (R156_0 _ _) (ref_ret (fun s st hp => hp))))
noncomputable def G156 (x0 : Int) : Option Int := match M156 { (default : Fr156) with t0 := x0 } with
  | some (.nrm, s) => some s.t2
  | some (.ret, s) => some s.t2
  | _ => none
theorem G156_spec : Spec156 (G156) := by
  intro x0 r hr
  unfold G156 at hr
  cases hm : M156 { (default : Fr156) with t0 := x0 } with
  | none => rw [hm] at hr; cases hr
  | some q =>
    obtain ⟨x, s⟩ := q
    rw [hm] at hr
    have hx : x = .nrm ∨ x = .ret := by cases x <;> first | exact .inl rfl | exact .inr rfl | cases hr
    have hr : s.t2 = r := by cases x <;> first | exact Option.some.inj hr | cases hr
    subst hr
    have hp0 : P156_0' ({ (default : Fr156) with t0 := x0 }) (slots Tryz.f156 (stripL [.int .u64 x0])) bare := ⟨rfl, rfl⟩
    obtain ⟨v, hR, hrun⟩ := run_of_ref (C := Cl) (f := 156) (fn := Tryz.f156) Tryz.func156 rfl rfl rfl rfl (args := [.int .u64 x0]) (by simp only [refsL, refs, List.append_nil]) (B156) (s0 := { (default : Fr156) with t0 := x0 }) hp0 hm hx (R := fun v => v = .int .i64 s.t2) (by
      have key : ∀ st : ASt, P156_1 s st → ∃ vs v, aresults Cl Tryz.f156.results.toList st = some vs ∧ Nrm [] st.h (packRes vs) v ∧ (fun v => v = .int .i64 s.t2) v := by
        intro st hp
        obtain ⟨hl, a2⟩ := (hp : P156_1' s st.tmps st.h)
        exact ⟨[.int .i64 s.t2], _, by simp only [show Tryz.f156.results.toList = [ResultVar.tmp 2] from rfl, aresults, ares1, CP, a2, Option.getD_some], (Nrm.of (w := .int .i64 s.t2) (by simp only [refsL, refs, List.append_nil])), rfl⟩
      intro st hq
      rcases hx with rfl | rfl
      · exact key st hq
      · exact key st hq)
    subst hR
    exact hrun
/-! ### cmp.isNaN[int] -/
structure Fr200 where
  t0 : Int
  t2 : Bool
instance : Inhabited Fr200 := ⟨⟨0, false⟩⟩
def P200_0' (s : Fr200) (t : List AVal) (h : AHeap) : Prop := t.length = 6 ∧ t[0]? = some (.int .i64 s.t0)
def P200_0 (s : Fr200) (st : ASt) : Prop := P200_0' s st.tmps st.h
def P200_1' (s : Fr200) (t : List AVal) (h : AHeap) : Prop := t.length = 6 ∧ t[2]? = some (.bool s.t2)
def P200_1 (s : Fr200) (st : ASt) : Prop := P200_1' s st.tmps st.h
noncomputable def m200_0 : Mo Fr200 := fun s => some (.nrm, { s with t2 := (s.t0 != s.t0) })
noncomputable def m200_1 : Mo Fr200 := fun s => some (.nrm, s)
noncomputable def M200 : Mo Fr200 := seqM (m200_1) (seqM (m200_0) (retM))
def Spec200 (f : Int → Option Bool) : Prop := ∀ (x0 : Int) (r : Bool), f x0 = some r → ∀ h, run Cl 200 [.int .i64 x0] h = some (.ret (.bool r), h)
theorem Spec200_of {f g : Int → Option Bool} (hg : Spec200 g) (h : ∀ x0 r, f x0 = some r → g x0 = some r) : Spec200 f := fun x0 r hr => hg x0 r (h x0 r hr)
theorem R200_0 (pe pr) : Ref Cl P200_0 (Cat [true, false] (bodyOf Tryz.f200)) m200_0 (post P200_1 pe pr) := by
  rintro s ⟨t, h⟩ hp x s' hm
  obtain ⟨hl, a0⟩ : P200_0' s t h := hp
  unfold m200_0 at hm
  cases hm
  refine ⟨⟨_, _⟩, by simp only [bodyOf, Tryz.f200, Cat, Zs, awanted, aoper, evalO, put, acallOp, abuiltin, Nat.reduceEqDiff, Nat.reduceLT, ofV, ofCell, ↓reduceIte, hl, a0, CP]; exact rfl, ?_⟩
  show P200_1 _ _
  exact ⟨by simp [hl], by simp [hl]⟩
theorem R200_1 (pe pr) : Ref Cl P200_0 (Cat [false] (bodyOf Tryz.f200)) m200_1 (post P200_0 pe pr) := by
  rintro s ⟨t, h⟩ hp x s' hm
  obtain ⟨hl, a0⟩ : P200_0' s t h := hp
  unfold m200_1 at hm
  cases hm
  refine ⟨⟨_, _⟩, by simp only [bodyOf, Tryz.f200, Cat, Zs, awanted, aoper, evalO, put, acallOp, abuiltin, Nat.reduceEqDiff, Nat.reduceLT, ofV, ofCell, ↓reduceIte, hl, a0, CP]; exact rfl, ?_⟩
  show P200_0 _ _
  exact ⟨by simp [hl], by simp [a0]⟩
theorem B200 : Ref Cl P200_0 (bodyOf Tryz.f200) (M200) (post P200_1 (fun _ _ _ => False) P200_1) := by
  rw [show bodyOf Tryz.f200 = .seq (Cat [false] (bodyOf Tryz.f200)) (.seq (Cat [true, false] (bodyOf Tryz.f200)) (.ret)) from rfl]
  unfold M200
  exact ref_seq (R200_1 _ _) (ref_seq (R200_0 _ _) (ref_ret (fun s st hp => hp)))
noncomputable def G200 (x0 : Int) : Option Bool := match M200 { (default : Fr200) with t0 := x0 } with
  | some (.nrm, s) => some s.t2
  | some (.ret, s) => some s.t2
  | _ => none
theorem G200_spec : Spec200 (G200) := by
  intro x0 r hr
  unfold G200 at hr
  cases hm : M200 { (default : Fr200) with t0 := x0 } with
  | none => rw [hm] at hr; cases hr
  | some q =>
    obtain ⟨x, s⟩ := q
    rw [hm] at hr
    have hx : x = .nrm ∨ x = .ret := by cases x <;> first | exact .inl rfl | exact .inr rfl | cases hr
    have hr : s.t2 = r := by cases x <;> first | exact Option.some.inj hr | cases hr
    subst hr
    have hp0 : P200_0' ({ (default : Fr200) with t0 := x0 }) (slots Tryz.f200 (stripL [.int .i64 x0])) bare := ⟨rfl, rfl⟩
    obtain ⟨v, hR, hrun⟩ := run_of_ref (C := Cl) (f := 200) (fn := Tryz.f200) Tryz.func200 rfl rfl rfl rfl (args := [.int .i64 x0]) (by simp only [refsL, refs, List.append_nil]) (B200) (s0 := { (default : Fr200) with t0 := x0 }) hp0 hm hx (R := fun v => v = .bool s.t2) (by
      have key : ∀ st : ASt, P200_1 s st → ∃ vs v, aresults Cl Tryz.f200.results.toList st = some vs ∧ Nrm [] st.h (packRes vs) v ∧ (fun v => v = .bool s.t2) v := by
        intro st hp
        obtain ⟨hl, a2⟩ := (hp : P200_1' s st.tmps st.h)
        exact ⟨[.bool s.t2], _, by simp only [show Tryz.f200.results.toList = [ResultVar.tmp 2] from rfl, aresults, ares1, CP, a2, Option.getD_some], (Nrm.of (w := .bool s.t2) (by simp only [refsL, refs, List.append_nil])), rfl⟩
      intro st hq
      rcases hx with rfl | rfl
      · exact key st hq
      · exact key st hq)
    subst hR
    exact hrun
/-! ### cmp.Compare[int] -/
structure Fr155 where
  t0 : Int
  t1 : Int
  t4 : Int
  t5 : Bool
  t6 : Bool
  t11 : Bool
  t12 : Bool
  t13 : Bool
  t16 : Bool
  t19 : Bool
instance : Inhabited Fr155 := ⟨⟨0, 0, 0, false, false, false, false, false, false, false⟩⟩
def P155_0' (s : Fr155) (t : List AVal) (h : AHeap) : Prop := t.length = 20 ∧ True
def P155_0 (s : Fr155) (st : ASt) : Prop := P155_0' s st.tmps st.h
def P155_1' (s : Fr155) (t : List AVal) (h : AHeap) : Prop := t.length = 20 ∧ t[4]? = some (.int .i64 s.t4)
def P155_1 (s : Fr155) (st : ASt) : Prop := P155_1' s st.tmps st.h
def P155_2' (s : Fr155) (t : List AVal) (h : AHeap) : Prop := t.length = 20 ∧ t[19]? = some (.bool s.t19)
def P155_2 (s : Fr155) (st : ASt) : Prop := P155_2' s st.tmps st.h
def P155_3' (s : Fr155) (t : List AVal) (h : AHeap) : Prop := t.length = 20 ∧ t[0]? = some (.int .i64 s.t0) ∧ t[1]? = some (.int .i64 s.t1)
def P155_3 (s : Fr155) (st : ASt) : Prop := P155_3' s st.tmps st.h
def P155_4' (s : Fr155) (t : List AVal) (h : AHeap) : Prop := t.length = 20 ∧ t[0]? = some (.int .i64 s.t0) ∧ t[1]? = some (.int .i64 s.t1) ∧ t[16]? = some (.bool s.t16)
def P155_4 (s : Fr155) (st : ASt) : Prop := P155_4' s st.tmps st.h
def P155_5' (s : Fr155) (t : List AVal) (h : AHeap) : Prop := t.length = 20 ∧ t[0]? = some (.int .i64 s.t0) ∧ t[1]? = some (.int .i64 s.t1) ∧ t[13]? = some (.bool s.t13)
def P155_5 (s : Fr155) (st : ASt) : Prop := P155_5' s st.tmps st.h
def P155_6' (s : Fr155) (t : List AVal) (h : AHeap) : Prop := t.length = 20 ∧ t[0]? = some (.int .i64 s.t0) ∧ t[1]? = some (.int .i64 s.t1) ∧ t[6]? = some (.bool s.t6)
def P155_6 (s : Fr155) (st : ASt) : Prop := P155_6' s st.tmps st.h
def P155_7' (s : Fr155) (t : List AVal) (h : AHeap) : Prop := t.length = 20 ∧ t[12]? = some (.bool s.t12)
def P155_7 (s : Fr155) (st : ASt) : Prop := P155_7' s st.tmps st.h
def P155_8' (s : Fr155) (t : List AVal) (h : AHeap) : Prop := t.length = 20 ∧ t[6]? = some (.bool s.t6)
def P155_8 (s : Fr155) (st : ASt) : Prop := P155_8' s st.tmps st.h
def P155_9' (s : Fr155) (t : List AVal) (h : AHeap) : Prop := t.length = 20 ∧ t[0]? = some (.int .i64 s.t0) ∧ t[1]? = some (.int .i64 s.t1) ∧ t[6]? = some (.bool s.t6) ∧ t[11]? = some (.bool s.t11)
def P155_9 (s : Fr155) (st : ASt) : Prop := P155_9' s st.tmps st.h
def P155_10' (s : Fr155) (t : List AVal) (h : AHeap) : Prop := t.length = 20 ∧ t[0]? = some (.int .i64 s.t0) ∧ t[1]? = some (.int .i64 s.t1) ∧ t[5]? = some (.bool s.t5) ∧ t[6]? = some (.bool s.t6)
def P155_10 (s : Fr155) (st : ASt) : Prop := P155_10' s st.tmps st.h
def P155_11' (s : Fr155) (t : List AVal) (h : AHeap) : Prop := t.length = 20 ∧ t[0]? = some (.int .i64 s.t0) ∧ t[1]? = some (.int .i64 s.t1) ∧ t[5]? = some (.bool s.t5)
def P155_11 (s : Fr155) (st : ASt) : Prop := P155_11' s st.tmps st.h
noncomputable def m155_0 : Mo Fr155 := fun s => some (.nrm, { s with t4 := 0 })
noncomputable def m155_1 : Mo Fr155 := fun s => some (.nrm, { s with t4 := 1 })
noncomputable def m155_2 : Mo Fr155 := fun s => some (.nrm, { s with t19 := decide (s.t0 > s.t1) })
noncomputable def m155_3 : Mo Fr155 := fun s => some (.nrm, { s with t4 := (-1) })
noncomputable def m155_4 : Mo Fr155 := fun s => some (.nrm, { s with t16 := decide (s.t0 < s.t1) })
noncomputable def m155_5 : Mo Fr155 := fun s => some (.nrm, { s with t4 := 1 })
noncomputable def m155_6 : Mo Fr155 := fun s => some (.nrm, { s with t13 := s.t6 })
noncomputable def m155_7 : Mo Fr155 := fun s => some (.nrm, { s with t4 := (-1) })
noncomputable def m155_8 : Mo Fr155 := fun s => some (.nrm, { s with t4 := 0 })
noncomputable def m155_9 : Mo Fr155 := fun s => some (.nrm, { s with t12 := s.t6 })
noncomputable def m155_10 : Mo Fr155 := fun s => some (.nrm, { s with t11 := s.t5 })
noncomputable def m155_11 : Mo Fr155 := fun s => (G200 s.t1).bind fun z1 => some (.nrm, { s with t6 := z1 })
noncomputable def m155_12 : Mo Fr155 := fun s => (G200 s.t0).bind fun z5 => some (.nrm, { s with t5 := z5 })
noncomputable def m155_13 : Mo Fr155 := fun s => some (.nrm, s)
noncomputable def M155 : Mo Fr155 := seqM (m155_13) (seqM (m155_12) (seqM (m155_11) (seqM (seqM (m155_10) (condM (fun s => s.t11) (seqM (seqM (m155_9) (condM (fun s => s.t12) (seqM (m155_8) (retM)) (skipM))) (seqM (m155_7) (retM))) (skipM))) (seqM (seqM (m155_6) (condM (fun s => s.t13) (seqM (m155_5) (retM)) (skipM))) (seqM (seqM (m155_4) (condM (fun s => s.t16) (seqM (m155_3) (retM)) (skipM))) (seqM (seqM (m155_2) (condM (fun s => s.t19) (seqM (m155_1) (retM)) (skipM))) (seqM (m155_0) (retM))))))))
def Spec155 (f : Int → Int → Option Int) : Prop := ∀ (x0 : Int) (x1 : Int) (r : Int), f x0 x1 = some r → ∀ h, run Cl 155 [.int .i64 x0, .int .i64 x1] h = some (.ret (.int .i64 r), h)
theorem Spec155_of {f g : Int → Int → Option Int} (hg : Spec155 g) (h : ∀ x0 x1 r, f x0 x1 = some r → g x0 x1 = some r) : Spec155 f := fun x0 x1 r hr => hg x0 x1 r (h x0 x1 r hr)
theorem R155_0 (pe pr) : Ref Cl P155_0 (Cat [true, true, true, true, true, true, true, false] (bodyOf Tryz.f155)) m155_0 (post P155_1 pe pr) := by
  rintro s ⟨t, h⟩ hp x s' hm
  obtain ⟨hl, _⟩ : P155_0' s t h := hp
  unfold m155_0 at hm
  cases hm
  refine ⟨⟨_, _⟩, by simp only [bodyOf, Tryz.f155, Cat, Zs, awanted, aoper, evalO, put, acallOp, abuiltin, Nat.reduceEqDiff, Nat.reduceLT, ofV, ofCell, ↓reduceIte, hl, CP]; exact rfl, ?_⟩
  show P155_1 _ _
  exact ⟨by simp [hl], by simp [hl]⟩
theorem R155_1 (pe pr) : Ref Cl P155_0 (Cat [true, true, true, true, true, true, false, true, false, false] (bodyOf Tryz.f155)) m155_1 (post P155_1 pe pr) := by
  rintro s ⟨t, h⟩ hp x s' hm
  obtain ⟨hl, _⟩ : P155_0' s t h := hp
  unfold m155_1 at hm
  cases hm
  refine ⟨⟨_, _⟩, by simp only [bodyOf, Tryz.f155, Cat, Zs, awanted, aoper, evalO, put, acallOp, abuiltin, Nat.reduceEqDiff, Nat.reduceLT, ofV, ofCell, ↓reduceIte, hl, CP]; exact rfl, ?_⟩
  show P155_1 _ _
  exact ⟨by simp [hl], by simp [hl]⟩
theorem R155_2 (pe pr) : Ref Cl P155_3 (Cat [true, true, true, true, true, true, false, false] (bodyOf Tryz.f155)) m155_2 (post P155_2 pe pr) := by
  rintro s ⟨t, h⟩ hp x s' hm
  obtain ⟨hl, a0, a1⟩ : P155_3' s t h := hp
  unfold m155_2 at hm
  cases hm
  refine ⟨⟨_, _⟩, by simp only [bodyOf, Tryz.f155, Cat, Zs, awanted, aoper, evalO, put, acallOp, abuiltin, Nat.reduceEqDiff, Nat.reduceLT, ofV, ofCell, ↓reduceIte, hl, a0, a1, CP]; exact rfl, ?_⟩
  show P155_2 _ _
  exact ⟨by simp [hl], by simp [hl]⟩
theorem R155_3 (pe pr) : Ref Cl P155_0 (Cat [true, true, true, true, true, false, true, false, false] (bodyOf Tryz.f155)) m155_3 (post P155_1 pe pr) := by
  rintro s ⟨t, h⟩ hp x s' hm
  obtain ⟨hl, _⟩ : P155_0' s t h := hp
  unfold m155_3 at hm
  cases hm
  refine ⟨⟨_, _⟩, by simp only [bodyOf, Tryz.f155, Cat, Zs, awanted, aoper, evalO, put, acallOp, abuiltin, Nat.reduceEqDiff, Nat.reduceLT, ofV, ofCell, ↓reduceIte, hl, CP]; exact rfl, ?_⟩
  show P155_1 _ _
  exact ⟨by simp [hl], by simp [hl]⟩
theorem R155_4 (pe pr) : Ref Cl P155_3 (Cat [true, true, true, true, true, false, false] (bodyOf Tryz.f155)) m155_4 (post P155_4 pe pr) := by
  rintro s ⟨t, h⟩ hp x s' hm
  obtain ⟨hl, a0, a1⟩ : P155_3' s t h := hp
  unfold m155_4 at hm
  cases hm
  refine ⟨⟨_, _⟩, by simp only [bodyOf, Tryz.f155, Cat, Zs, awanted, aoper, evalO, put, acallOp, abuiltin, Nat.reduceEqDiff, Nat.reduceLT, ofV, ofCell, ↓reduceIte, hl, a0, a1, CP]; exact rfl, ?_⟩
  show P155_4 _ _
  exact ⟨by simp [hl], by simp [a0], by simp [a1], by simp [hl]⟩
theorem R155_5 (pe pr) : Ref Cl P155_0 (Cat [true, true, true, true, false, true, false, false] (bodyOf Tryz.f155)) m155_5 (post P155_1 pe pr) := by
  rintro s ⟨t, h⟩ hp x s' hm
  obtain ⟨hl, _⟩ : P155_0' s t h := hp
  unfold m155_5 at hm
  cases hm
  refine ⟨⟨_, _⟩, by simp only [bodyOf, Tryz.f155, Cat, Zs, awanted, aoper, evalO, put, acallOp, abuiltin, Nat.reduceEqDiff, Nat.reduceLT, ofV, ofCell, ↓reduceIte, hl, CP]; exact rfl, ?_⟩
  show P155_1 _ _
  exact ⟨by simp [hl], by simp [hl]⟩
theorem R155_6 (pe pr) : Ref Cl P155_6 (Cat [true, true, true, true, false, false] (bodyOf Tryz.f155)) m155_6 (post P155_5 pe pr) := by
  rintro s ⟨t, h⟩ hp x s' hm
  obtain ⟨hl, a0, a1, a6⟩ : P155_6' s t h := hp
  unfold m155_6 at hm
  cases hm
  refine ⟨⟨_, _⟩, by simp only [bodyOf, Tryz.f155, Cat, Zs, awanted, aoper, evalO, put, acallOp, abuiltin, Nat.reduceEqDiff, Nat.reduceLT, ofV, ofCell, ↓reduceIte, hl, a0, a1, a6, CP]; exact rfl, ?_⟩
  show P155_5 _ _
  exact ⟨by simp [hl], by simp [a0], by simp [a1], by simp [hl]⟩
theorem R155_7 (pe pr) : Ref Cl P155_0 (Cat [true, true, true, false, true, false, true, false] (bodyOf Tryz.f155)) m155_7 (post P155_1 pe pr) := by
  rintro s ⟨t, h⟩ hp x s' hm
  obtain ⟨hl, _⟩ : P155_0' s t h := hp
  unfold m155_7 at hm
  cases hm
  refine ⟨⟨_, _⟩, by simp only [bodyOf, Tryz.f155, Cat, Zs, awanted, aoper, evalO, put, acallOp, abuiltin, Nat.reduceEqDiff, Nat.reduceLT, ofV, ofCell, ↓reduceIte, hl, CP]; exact rfl, ?_⟩
  show P155_1 _ _
  exact ⟨by simp [hl], by simp [hl]⟩
theorem R155_8 (pe pr) : Ref Cl P155_0 (Cat [true, true, true, false, true, false, false, true, false, false] (bodyOf Tryz.f155)) m155_8 (post P155_1 pe pr) := by
  rintro s ⟨t, h⟩ hp x s' hm
  obtain ⟨hl, _⟩ : P155_0' s t h := hp
  unfold m155_8 at hm
  cases hm
  refine ⟨⟨_, _⟩, by simp only [bodyOf, Tryz.f155, Cat, Zs, awanted, aoper, evalO, put, acallOp, abuiltin, Nat.reduceEqDiff, Nat.reduceLT, ofV, ofCell, ↓reduceIte, hl, CP]; exact rfl, ?_⟩
  show P155_1 _ _
  exact ⟨by simp [hl], by simp [hl]⟩
theorem R155_9 (pe pr) : Ref Cl P155_8 (Cat [true, true, true, false, true, false, false, false] (bodyOf Tryz.f155)) m155_9 (post P155_7 pe pr) := by
  rintro s ⟨t, h⟩ hp x s' hm
  obtain ⟨hl, a6⟩ : P155_8' s t h := hp
  unfold m155_9 at hm
  cases hm
  refine ⟨⟨_, _⟩, by simp only [bodyOf, Tryz.f155, Cat, Zs, awanted, aoper, evalO, put, acallOp, abuiltin, Nat.reduceEqDiff, Nat.reduceLT, ofV, ofCell, ↓reduceIte, hl, a6, CP]; exact rfl, ?_⟩
  show P155_7 _ _
  exact ⟨by simp [hl], by simp [hl]⟩
theorem R155_10 (pe pr) : Ref Cl P155_10 (Cat [true, true, true, false, false] (bodyOf Tryz.f155)) m155_10 (post P155_9 pe pr) := by
  rintro s ⟨t, h⟩ hp x s' hm
  obtain ⟨hl, a0, a1, a5, a6⟩ : P155_10' s t h := hp
  unfold m155_10 at hm
  cases hm
  refine ⟨⟨_, _⟩, by simp only [bodyOf, Tryz.f155, Cat, Zs, awanted, aoper, evalO, put, acallOp, abuiltin, Nat.reduceEqDiff, Nat.reduceLT, ofV, ofCell, ↓reduceIte, hl, a0, a1, a5, a6, CP]; exact rfl, ?_⟩
  show P155_9 _ _
  exact ⟨by simp [hl], by simp [a0], by simp [a1], by simp [a6], by simp [hl]⟩
theorem R155_11 (pe pr) : Ref Cl P155_11 (Cat [true, true, false] (bodyOf Tryz.f155)) m155_11 (post P155_10 pe pr) := by
  rintro s ⟨t, h⟩ hp x s' hm
  obtain ⟨hl, a0, a1, a5⟩ : P155_11' s t h := hp
  unfold m155_11 at hm
  obtain ⟨z3, hz3, hm⟩ := Option.bind_eq_some_iff.1 hm
  have iu4 := G200_spec s.t1  _ hz3
  cases hm
  refine ⟨⟨_, _⟩, by simp only [bodyOf, Tryz.f155, Cat, Zs, awanted, aoper, evalO, put, acallOp, abuiltin, Nat.reduceEqDiff, Nat.reduceLT, ofV, ofCell, ↓reduceIte, hl, a0, a1, a5, CP, iu4]; exact rfl, ?_⟩
  show P155_10 _ _
  exact ⟨by simp [hl], by simp [a0], by simp [a1], by simp [a5], by simp [hl]⟩
theorem R155_12 (pe pr) : Ref Cl P155_3 (Cat [true, false] (bodyOf Tryz.f155)) m155_12 (post P155_11 pe pr) := by
  rintro s ⟨t, h⟩ hp x s' hm
  obtain ⟨hl, a0, a1⟩ : P155_3' s t h := hp
  unfold m155_12 at hm
  obtain ⟨z7, hz7, hm⟩ := Option.bind_eq_some_iff.1 hm
  have iu8 := G200_spec s.t0  _ hz7
  cases hm
  refine ⟨⟨_, _⟩, by simp only [bodyOf, Tryz.f155, Cat, Zs, awanted, aoper, evalO, put, acallOp, abuiltin, Nat.reduceEqDiff, Nat.reduceLT, ofV, ofCell, ↓reduceIte, hl, a0, a1, CP, iu8]; exact rfl, ?_⟩
  show P155_11 _ _
  exact ⟨by simp [hl], by simp [a0], by simp [a1], by simp [hl]⟩
theorem R155_13 (pe pr) : Ref Cl P155_3 (Cat [false] (bodyOf Tryz.f155)) m155_13 (post P155_3 pe pr) := by
  rintro s ⟨t, h⟩ hp x s' hm
  obtain ⟨hl, a0, a1⟩ : P155_3' s t h := hp
  unfold m155_13 at hm
  cases hm
  refine ⟨⟨_, _⟩, by simp only [bodyOf, Tryz.f155, Cat, Zs, awanted, aoper, evalO, put, acallOp, abuiltin, Nat.reduceEqDiff, Nat.reduceLT, ofV, ofCell, ↓reduceIte, hl, a0, a1, CP]; exact rfl, ?_⟩
  show P155_3 _ _
  exact ⟨by simp [hl], by simp [a0], by simp [a1]⟩
theorem B155 : Ref Cl P155_3 (bodyOf Tryz.f155) (M155) (post P155_1 (fun _ _ _ => False) P155_1) := by
  rw [show bodyOf Tryz.f155 = .seq (Cat [false] (bodyOf Tryz.f155)) (.seq (Cat [true, false] (bodyOf Tryz.f155)) (.seq (Cat [true, true, false] (bodyOf Tryz.f155)) (.seq (.seq (Cat [true, true, true, false, false] (bodyOf Tryz.f155)) (.cond (.tmp 11) (.seq (.seq (Cat [true, true, true, false, true, false, false, false] (bodyOf Tryz.f155)) (.cond (.tmp 12) (.seq (Cat [true, true, true, false, true, false, false, true, false, false] (bodyOf Tryz.f155)) (.ret)) (.skip))) (.seq (Cat [true, true, true, false, true, false, true, false] (bodyOf Tryz.f155)) (.ret))) (.skip))) (.seq (.seq (Cat [true, true, true, true, false, false] (bodyOf Tryz.f155)) (.cond (.tmp 13) (.seq (Cat [true, true, true, true, false, true, false, false] (bodyOf Tryz.f155)) (.ret)) (.skip))) (.seq (.seq (Cat [true, true, true, true, true, false, false] (bodyOf Tryz.f155)) (.cond (.tmp 16) (.seq (Cat [true, true, true, true, true, false, true, false, false] (bodyOf Tryz.f155)) (.ret)) (.skip))) (.seq (.seq (Cat [true, true, true, true, true, true, false, false] (bodyOf Tryz.f155)) (.cond (.tmp 19) (.seq (Cat [true, true, true, true, true, true, false, true, false, false] (bodyOf Tryz.f155)) (.ret)) (.skip))) (.seq (Cat [true, true, true, true, true, true, true, false] (bodyOf Tryz.f155)) (.ret)))))))) from rfl]
  unfold M155
  exact ref_seq (R155_13 _ _) (ref_seq (R155_12 _ _) (ref_seq (R155_11 _ _) (ref_seq (ref_seq (R155_10 _ _) (ref_cond (P := P155_9) (c := fun s => s.t11) (fun s st hp => by obtain ⟨hl, a0, a1, a6, a11⟩ := (hp : P155_9' s st.tmps st.h); simp only [evalO, a11, Option.getD_some]) (ref_weak (P' := P155_8) (fun s st hp => by obtain ⟨hl, a0, a1, a6, a11⟩ := (hp : P155_9' s st.tmps st.h); exact (⟨hl, a6⟩ : P155_8' s st.tmps st.h)) (ref_seq (ref_seq (R155_9 _ _) (ref_cond (P := P155_7) (c := fun s => s.t12) (fun s st hp => by obtain ⟨hl, a12⟩ := (hp : P155_7' s st.tmps st.h); simp only [evalO, a12, Option.getD_some]) (ref_weak (P' := P155_0) (fun s st hp => by obtain ⟨hl, a12⟩ := (hp : P155_7' s st.tmps st.h); exact (⟨hl, trivial⟩ : P155_0' s st.tmps st.h)) (ref_seq (R155_8 _ _) (ref_ret (fun s st hp => hp)))) (ref_weak (P' := P155_0) (fun s st hp => by obtain ⟨hl, a12⟩ := (hp : P155_7' s st.tmps st.h); exact (⟨hl, trivial⟩ : P155_0' s st.tmps st.h)) (ref_skip (fun s st hp => hp))))) (ref_seq (R155_7 _ _) (ref_ret (fun s st hp => hp))))) (ref_weak (P' := P155_6) (fun s st hp => by obtain ⟨hl, a0, a1, a6, a11⟩ := (hp : P155_9' s st.tmps st.h); exact (⟨hl, a0, a1, a6⟩ : P155_6' s st.tmps st.h)) (ref_skip (fun s st hp => hp))))) (ref_seq (ref_seq (R155_6 _ _) (ref_cond (P := P155_5) (c := fun s => s.t13) (fun s st hp => by obtain ⟨hl, a0, a1, a13⟩ := (hp : P155_5' s st.tmps st.h); simp only [evalO, a13, Option.getD_some]) (ref_weak (P' := P155_0) (fun s st hp => by obtain ⟨hl, a0, a1, a13⟩ := (hp : P155_5' s st.tmps st.h); exact (⟨hl, trivial⟩ : P155_0' s st.tmps st.h)) (ref_seq (R155_5 _ _) (ref_ret (fun s st hp => hp)))) (ref_weak (P' := P155_3) (fun s st hp => by obtain ⟨hl, a0, a1, a13⟩ := (hp : P155_5' s st.tmps st.h); exact (⟨hl, a0, a1⟩ : P155_3' s st.tmps st.h)) (ref_skip (fun s st hp => hp))))) (ref_seq (ref_seq (R155_4 _ _) (ref_cond (P := P155_4) (c := fun s => s.t16) (fun s st hp => by obtain ⟨hl, a0, a1, a16⟩ := (hp : P155_4' s st.tmps st.h); simp only [evalO, a16, Option.getD_some]) (ref_weak (P' := P155_0) (fun s st hp => by obtain ⟨hl, a0, a1, a16⟩ := (hp : P155_4' s st.tmps st.h); exact (⟨hl, trivial⟩ : P155_0' s st.tmps st.h)) (ref_seq (R155_3 _ _) (ref_ret (fun s st hp => hp)))) (ref_weak (P' := P155_3) (fun s st hp => by obtain ⟨hl, a0, a1, a16⟩ := (hp : P155_4' s st.tmps st.h); exact (⟨hl, a0, a1⟩ : P155_3' s st.tmps st.h)) (ref_skip (fun s st hp => hp))))) (ref_seq (ref_seq (R155_2 _ _) (ref_cond (P := P155_2) (c := fun s => s.t19) (fun s st hp => by obtain ⟨hl, a19⟩ := (hp : P155_2' s st.tmps st.h); simp only [evalO, a19, Option.getD_some]) (ref_weak (P' := P155_0) (fun s st hp => by obtain ⟨hl, a19⟩ := (hp : P155_2' s st.tmps st.h); exact (⟨hl, trivial⟩ : P155_0' s st.tmps st.h)) (ref_seq (R155_1 _ _) (ref_ret (fun s st hp => hp)))) (ref_weak (P' := P155_0) (fun s st hp => by obtain ⟨hl, a19⟩ := (hp : P155_2' s st.tmps st.h); exact (⟨hl, trivial⟩ : P155_0' s st.tmps st.h)) (ref_skip (fun s st hp => hp))))) (ref_seq (R155_0 _ _) (ref_ret (fun s st hp => hp)))))))))
noncomputable def G155 (x0 : Int) (x1 : Int) : Option Int := match M155 { (default : Fr155) with t0 := x0, t1 := x1 } with
  | some (.nrm, s) => some s.t4
  | some (.ret, s) => some s.t4
  | _ => none
theorem G155_spec : Spec155 (G155) := by
  intro x0 x1 r hr
  unfold G155 at hr
  cases hm : M155 { (default : Fr155) with t0 := x0, t1 := x1 } with
  | none => rw [hm] at hr; cases hr
  | some q =>
    obtain ⟨x, s⟩ := q
    rw [hm] at hr
    have hx : x = .nrm ∨ x = .ret := by cases x <;> first | exact .inl rfl | exact .inr rfl | cases hr
    have hr : s.t4 = r := by cases x <;> first | exact Option.some.inj hr | cases hr
    subst hr
    have hp0 : P155_3' ({ (default : Fr155) with t0 := x0, t1 := x1 }) (slots Tryz.f155 (stripL [.int .i64 x0, .int .i64 x1])) bare := ⟨rfl, rfl, rfl⟩
    obtain ⟨v, hR, hrun⟩ := run_of_ref (C := Cl) (f := 155) (fn := Tryz.f155) Tryz.func155 rfl rfl rfl rfl (args := [.int .i64 x0, .int .i64 x1]) (by simp only [refsL, refs, List.append_nil]) (B155) (s0 := { (default : Fr155) with t0 := x0, t1 := x1 }) hp0 hm hx (R := fun v => v = .int .i64 s.t4) (by
      have key : ∀ st : ASt, P155_1 s st → ∃ vs v, aresults Cl Tryz.f155.results.toList st = some vs ∧ Nrm [] st.h (packRes vs) v ∧ (fun v => v = .int .i64 s.t4) v := by
        intro st hp
        obtain ⟨hl, a4⟩ := (hp : P155_1' s st.tmps st.h)
        exact ⟨[.int .i64 s.t4], _, by simp only [show Tryz.f155.results.toList = [ResultVar.tmp 4] from rfl, aresults, ares1, CP, a4, Option.getD_some], (Nrm.of (w := .int .i64 s.t4) (by simp only [refsL, refs, List.append_nil])), rfl⟩
      intro st hq
      rcases hx with rfl | rfl
      · exact key st hq
      · exact key st hq)
    subst hR
    exact hrun
/-! ### cmp.Or[int] -/
structure Fr154 where
  t0 : (List Int)
  t2 : Int
  t3 : Int
  t5 : Int
  t6 : (List Int)
  t7 : Int
  t8 : Int
  t9 : Bool
  t14 : Bool
instance : Inhabited Fr154 := ⟨⟨[], 0, 0, 0, [], 0, 0, false, false⟩⟩
def P154_0' (s : Fr154) (t : List AVal) (h : AHeap) : Prop := t.length = 18 ∧ t[3]? = some (.int .i64 s.t3)
def P154_0 (s : Fr154) (st : ASt) : Prop := P154_0' s st.tmps st.h
def P154_1' (s : Fr154) (t : List AVal) (h : AHeap) : Prop := t.length = 18 ∧ t[2]? = some (.int .i64 s.t2)
def P154_1 (s : Fr154) (st : ASt) : Prop := P154_1' s st.tmps st.h
def P154_2' (s : Fr154) (t : List AVal) (h : AHeap) : Prop := ∃ w6_0, t.length = 18 ∧ t[3]? = some (.int .i64 s.t3) ∧ t[6]? = some w6_0 ∧ Sl (rI .i64) s.t6 w6_0 ∧ t[7]? = some (.int .i64 s.t7) ∧ t[8]? = some (.int .i64 s.t8)
def P154_2 (s : Fr154) (st : ASt) : Prop := P154_2' s st.tmps st.h
def P154_3' (s : Fr154) (t : List AVal) (h : AHeap) : Prop := t.length = 18 ∧ t[5]? = some (.int .i64 s.t5)
def P154_3 (s : Fr154) (st : ASt) : Prop := P154_3' s st.tmps st.h
def P154_4' (s : Fr154) (t : List AVal) (h : AHeap) : Prop := ∃ w6_0, t.length = 18 ∧ t[3]? = some (.int .i64 s.t3) ∧ t[5]? = some (.int .i64 s.t5) ∧ t[6]? = some w6_0 ∧ Sl (rI .i64) s.t6 w6_0 ∧ t[7]? = some (.int .i64 s.t7) ∧ t[8]? = some (.int .i64 s.t8) ∧ t[14]? = some (.bool s.t14)
def P154_4 (s : Fr154) (st : ASt) : Prop := P154_4' s st.tmps st.h
def P154_5' (s : Fr154) (t : List AVal) (h : AHeap) : Prop := ∃ w6_0, t.length = 18 ∧ t[3]? = some (.int .i64 s.t3) ∧ t[5]? = some (.int .i64 s.t5) ∧ t[6]? = some w6_0 ∧ Sl (rI .i64) s.t6 w6_0 ∧ t[7]? = some (.int .i64 s.t7) ∧ t[8]? = some (.int .i64 s.t8)
def P154_5 (s : Fr154) (st : ASt) : Prop := P154_5' s st.tmps st.h
def P154_6' (s : Fr154) (t : List AVal) (h : AHeap) : Prop := ∃ w6_0, t.length = 18 ∧ t[3]? = some (.int .i64 s.t3) ∧ t[6]? = some w6_0 ∧ Sl (rI .i64) s.t6 w6_0 ∧ t[7]? = some (.int .i64 s.t7) ∧ t[8]? = some (.int .i64 s.t8) ∧ t[9]? = some (.bool s.t9)
def P154_6 (s : Fr154) (st : ASt) : Prop := P154_6' s st.tmps st.h
def P154_7' (s : Fr154) (t : List AVal) (h : AHeap) : Prop := ∃ w0_0, t.length = 18 ∧ t[0]? = some w0_0 ∧ Sl (rI .i64) s.t0 w0_0 ∧ t[3]? = some (.int .i64 s.t3)
def P154_7 (s : Fr154) (st : ASt) : Prop := P154_7' s st.tmps st.h
def P154_8' (s : Fr154) (t : List AVal) (h : AHeap) : Prop := ∃ w0_0, t.length = 18 ∧ t[0]? = some w0_0 ∧ Sl (rI .i64) s.t0 w0_0
def P154_8 (s : Fr154) (st : ASt) : Prop := P154_8' s st.tmps st.h
noncomputable def m154_0 : Mo Fr154 := fun s => some (.nrm, { s with t2 := s.t3 })
noncomputable def m154_1 : Mo Fr154 := fun s => some (.nrm, { s with t8 := IntKind.wrap .i64 (s.t8 + 1) })
noncomputable def m154_2 : Mo Fr154 := fun s => some (.nrm, { s with t2 := s.t5 })
noncomputable def m154_3 : Mo Fr154 := fun s => some (.nrm, { s with t14 := (s.t5 != s.t3) })
noncomputable def m154_4 : Mo Fr154 := fun s => (at? s.t6 s.t8).bind fun y1 => some (.nrm, { s with t5 := y1 })
noncomputable def m154_5 : Mo Fr154 := fun s => some (.nrm, { s with t9 := decide (s.t8 < s.t7) })
noncomputable def L154_6 : Mo Fr154 := seqM (m154_5) (seqM (condM (fun s => s.t9) (skipM) (exitM 0)) (seqM (blockM 1 (seqM (m154_4) (seqM (m154_3) (condM (fun s => s.t14) (seqM (m154_2) (retM)) (skipM))))) (m154_1)))
noncomputable def m154_7 : Mo Fr154 := fun s => some (.nrm, { s with t6 := s.t0, t7 := (s.t0.length : Int), t8 := 0 })
noncomputable def m154_8 : Mo Fr154 := fun s => some (.nrm, { s with t3 := 0 })
noncomputable def m154_9 : Mo Fr154 := fun s => some (.nrm, s)
noncomputable def M154 : Mo Fr154 := seqM (m154_9) (seqM (m154_8) (seqM (seqM (m154_7) (blockM 0 (loopM (L154_6)))) (seqM (m154_0) (retM))))
def Spec154 (f : (List Int) → Option Int) : Prop := ∀ (x0 : (List Int)) (vx0_0 : AVal) (_ : Sl (rI .i64) x0 vx0_0) (r : Int), f x0 = some r → ∀ h, run Cl 154 [vx0_0] h = some (.ret (.int .i64 r), h)
theorem Spec154_of {f g : (List Int) → Option Int} (hg : Spec154 g) (h : ∀ x0 r, f x0 = some r → g x0 = some r) : Spec154 f := fun x0 v0_ w0_ r hr => hg x0 v0_ w0_ r (h x0 r hr)
theorem R154_0 (pe pr) : Ref Cl P154_0 (Cat [true, true, true, false] (bodyOf Tryz.f154)) m154_0 (post P154_1 pe pr) := by
  rintro s ⟨t, h⟩ hp x s' hm
  obtain ⟨hl, a3⟩ : P154_0' s t h := hp
  unfold m154_0 at hm
  cases hm
  refine ⟨⟨_, _⟩, by simp only [bodyOf, Tryz.f154, Cat, Zs, awanted, aoper, evalO, put, acallOp, abuiltin, Nat.reduceEqDiff, Nat.reduceLT, ofV, ofCell, ↓reduceIte, hl, a3, CP]; exact rfl, ?_⟩
  show P154_1 _ _
  exact ⟨by simp [hl], by simp [hl]⟩
theorem R154_1 (pe pr) : Ref Cl P154_2 (Cat [true, true, false, true, true, true, true, true, true] (bodyOf Tryz.f154)) m154_1 (post P154_2 pe pr) := by
  rintro s ⟨t, h⟩ hp x s' hm
  obtain ⟨w6_0, hl, a3, a6, r6_0, a7, a8⟩ : P154_2' s t h := hp
  unfold m154_1 at hm
  cases hm
  refine ⟨⟨_, _⟩, by simp only [bodyOf, Tryz.f154, Cat, Zs, awanted, aoper, evalO, put, acallOp, abuiltin, Nat.reduceEqDiff, Nat.reduceLT, ofV, ofCell, ↓reduceIte, hl, a3, a6, a7, a8, CP]; exact rfl, ?_⟩
  show P154_2 _ _
  exact ⟨w6_0, by simp [hl], by simp [a3], by simp [a6], r6_0, by simp [a7], by simp [hl]⟩
theorem R154_2 (pe pr) : Ref Cl P154_3 (Cat [true, true, false, true, true, true, true, true, false, true, true, true, false, false] (bodyOf Tryz.f154)) m154_2 (post P154_1 pe pr) := by
  rintro s ⟨t, h⟩ hp x s' hm
  obtain ⟨hl, a5⟩ : P154_3' s t h := hp
  unfold m154_2 at hm
  cases hm
  refine ⟨⟨_, _⟩, by simp only [bodyOf, Tryz.f154, Cat, Zs, awanted, aoper, evalO, put, acallOp, abuiltin, Nat.reduceEqDiff, Nat.reduceLT, ofV, ofCell, ↓reduceIte, hl, a5, CP]; exact rfl, ?_⟩
  show P154_1 _ _
  exact ⟨by simp [hl], by simp [hl]⟩
theorem R154_3 (pe pr) : Ref Cl P154_5 (Cat [true, true, false, true, true, true, true, true, false, true, true, false] (bodyOf Tryz.f154)) m154_3 (post P154_4 pe pr) := by
  rintro s ⟨t, h⟩ hp x s' hm
  obtain ⟨w6_0, hl, a3, a5, a6, r6_0, a7, a8⟩ : P154_5' s t h := hp
  unfold m154_3 at hm
  cases hm
  refine ⟨⟨_, _⟩, by simp only [bodyOf, Tryz.f154, Cat, Zs, awanted, aoper, evalO, put, acallOp, abuiltin, Nat.reduceEqDiff, Nat.reduceLT, ofV, ofCell, ↓reduceIte, hl, a3, a5, a6, a7, a8, CP]; exact rfl, ?_⟩
  show P154_4 _ _
  exact ⟨w6_0, by simp [hl], by simp [a3], by simp [a5], by simp [a6], r6_0, by simp [a7], by simp [a8], by simp [hl]⟩
theorem R154_4 (pe pr) : Ref Cl P154_2 (Cat [true, true, false, true, true, true, true, true, false, true, false] (bodyOf Tryz.f154)) m154_4 (post P154_5 pe pr) := by
  rintro s ⟨t, h⟩ hp x s' hm
  obtain ⟨w6_0, hl, a3, a6, r6_0, a7, a8⟩ : P154_2' s t h := hp
  unfold m154_4 at hm
  obtain ⟨y3, hy3, hm⟩ := Option.bind_eq_some_iff.1 hm
  obtain ⟨cu4, du4, eu4, iu4, _⟩ := Sl.ix (rI_p .i64) r6_0 hy3
  subst eu4
  cases hm
  refine ⟨⟨_, _⟩, by simp only [bodyOf, Tryz.f154, Cat, Zs, awanted, aoper, evalO, put, acallOp, abuiltin, Nat.reduceEqDiff, Nat.reduceLT, ofV, ofCell, ↓reduceIte, hl, a3, a6, a7, a8, CP, Ty.ix33, iu4, Ty.ld3, ld_ip, ofc1, List.drop_succ_cons, List.drop_zero]; exact rfl, ?_⟩
  show P154_5 _ _
  exact ⟨w6_0, by simp [hl], by simp [a3], by simp [hl], by simp [a6], r6_0, by simp [a7], by simp [a8]⟩
theorem R154_5 (pe pr) : Ref Cl P154_2 (Cat [true, true, false, true, true, true, false] (bodyOf Tryz.f154)) m154_5 (post P154_6 pe pr) := by
  rintro s ⟨t, h⟩ hp x s' hm
  obtain ⟨w6_0, hl, a3, a6, r6_0, a7, a8⟩ : P154_2' s t h := hp
  unfold m154_5 at hm
  cases hm
  refine ⟨⟨_, _⟩, by simp only [bodyOf, Tryz.f154, Cat, Zs, awanted, aoper, evalO, put, acallOp, abuiltin, Nat.reduceEqDiff, Nat.reduceLT, ofV, ofCell, ↓reduceIte, hl, a3, a6, a7, a8, CP]; exact rfl, ?_⟩
  show P154_6 _ _
  exact ⟨w6_0, by simp [hl], by simp [a3], by simp [a6], r6_0, by simp [a7], by simp [a8], by simp [hl]⟩
theorem R154_7 (pe pr) : Ref Cl P154_7 (Cat [true, true, false, false] (bodyOf Tryz.f154)) m154_7 (post P154_2 pe pr) := by
  rintro s ⟨t, h⟩ hp x s' hm
  obtain ⟨w0_0, hl, a0, r0_0, a3⟩ : P154_7' s t h := hp
  unfold m154_7 at hm
  have lu6 := fun h => Sl.len r0_0 Ty.un33 h
  cases hm
  refine ⟨⟨_, _⟩, by simp only [bodyOf, Tryz.f154, Cat, Zs, awanted, aoper, evalO, put, acallOp, abuiltin, Nat.reduceEqDiff, Nat.reduceLT, ofV, ofCell, ↓reduceIte, hl, a0, a3, CP, lu6]; exact rfl, ?_⟩
  show P154_2 _ _
  exact ⟨w0_0, by simp [hl], by simp [a3], by simp [hl], r0_0, by simp [hl], by simp [hl]⟩
theorem R154_8 (pe pr) : Ref Cl P154_8 (Cat [true, false] (bodyOf Tryz.f154)) m154_8 (post P154_7 pe pr) := by
  rintro s ⟨t, h⟩ hp x s' hm
  obtain ⟨w0_0, hl, a0, r0_0⟩ : P154_8' s t h := hp
  unfold m154_8 at hm
  cases hm
  refine ⟨⟨_, _⟩, by simp only [bodyOf, Tryz.f154, Cat, Zs, awanted, aoper, evalO, put, acallOp, abuiltin, Nat.reduceEqDiff, Nat.reduceLT, ofV, ofCell, ↓reduceIte, hl, a0, CP]; exact rfl, ?_⟩
  show P154_7 _ _
  exact ⟨w0_0, by simp [hl], by simp [a0], r0_0, by simp [hl]⟩
theorem R154_9 (pe pr) : Ref Cl P154_8 (Cat [false] (bodyOf Tryz.f154)) m154_9 (post P154_8 pe pr) := by
  rintro s ⟨t, h⟩ hp x s' hm
  obtain ⟨w0_0, hl, a0, r0_0⟩ : P154_8' s t h := hp
  unfold m154_9 at hm
  cases hm
  refine ⟨⟨_, _⟩, by simp only [bodyOf, Tryz.f154, Cat, Zs, awanted, aoper, evalO, put, acallOp, abuiltin, Nat.reduceEqDiff, Nat.reduceLT, ofV, ofCell, ↓reduceIte, hl, a0, CP]; exact rfl, ?_⟩
  show P154_8 _ _
  exact ⟨w0_0, by simp [hl], by simp [a0], r0_0⟩
theorem B154 : Ref Cl P154_8 (bodyOf Tryz.f154) (M154) (post P154_1 (fun _ _ _ => False) P154_1) := by
  rw [show bodyOf Tryz.f154 = .seq (Cat [false] (bodyOf Tryz.f154)) (.seq (Cat [true, false] (bodyOf Tryz.f154)) (.seq (.seq (Cat [true, true, false, false] (bodyOf Tryz.f154)) (.block 0 (.loop (.seq (Cat [true, true, false, true, true, true, false] (bodyOf Tryz.f154)) (.seq (.cond (.tmp 9) (.skip) (.exit 0)) (.seq (.block 1 (.seq (Cat [true, true, false, true, true, true, true, true, false, true, false] (bodyOf Tryz.f154)) (.seq (Cat [true, true, false, true, true, true, true, true, false, true, true, false] (bodyOf Tryz.f154)) (.cond (.tmp 14) (.seq (Cat [true, true, false, true, true, true, true, true, false, true, true, true, false, false] (bodyOf Tryz.f154)) (.ret)) (.skip))))) (Cat [true, true, false, true, true, true, true, true, true] (bodyOf Tryz.f154)))))))) (.seq (Cat [true, true, true, false] (bodyOf Tryz.f154)) (.ret)))) from rfl]
  unfold M154
  exact ref_seq (R154_9 _ _) (ref_seq (R154_8 _ _) (ref_seq (ref_seq (R154_7 _ _) (ref_block (ref_loop (P := P154_2) (ref_weak (P' := P154_2) (fun s st hp => hp) (ref_seq (R154_5 _ _) (ref_seq (ref_cond (P := P154_6) (c := fun s => s.t9) (fun s st hp => by obtain ⟨w6_0, hl, a3, a6, r6_0, a7, a8, a9⟩ := (hp : P154_6' s st.tmps st.h); simp only [evalO, a9, Option.getD_some]) (ref_weak (P' := P154_2) (fun s st hp => by obtain ⟨w6_0, hl, a3, a6, r6_0, a7, a8, a9⟩ := (hp : P154_6' s st.tmps st.h); exact (⟨w6_0, hl, a3, a6, r6_0, a7, a8⟩ : P154_2' s st.tmps st.h)) (ref_skip (fun s st hp => hp))) (ref_weak (P' := P154_0) (fun s st hp => by obtain ⟨w6_0, hl, a3, a6, r6_0, a7, a8, a9⟩ := (hp : P154_6' s st.tmps st.h); exact (⟨hl, a3⟩ : P154_0' s st.tmps st.h)) (ref_exit (fun s st hp => hp)))) (ref_seq (ref_block (ref_seq (R154_4 _ _) (ref_seq (R154_3 _ _) (ref_cond (P := P154_4) (c := fun s => s.t14) (fun s st hp => by obtain ⟨w6_0, hl, a3, a5, a6, r6_0, a7, a8, a14⟩ := (hp : P154_4' s st.tmps st.h); simp only [evalO, a14, Option.getD_some]) (ref_weak (P' := P154_3) (fun s st hp => by obtain ⟨w6_0, hl, a3, a5, a6, r6_0, a7, a8, a14⟩ := (hp : P154_4' s st.tmps st.h); exact (⟨hl, a5⟩ : P154_3' s st.tmps st.h)) (ref_seq (R154_2 _ _) (ref_ret (fun s st hp => hp)))) (ref_weak (P' := P154_2) (fun s st hp => by obtain ⟨w6_0, hl, a3, a5, a6, r6_0, a7, a8, a14⟩ := (hp : P154_4' s st.tmps st.h); exact (⟨w6_0, hl, a3, a6, r6_0, a7, a8⟩ : P154_2' s st.tmps st.h)) (ref_skip (fun s st hp => hp))))))) (R154_1 _ _)))))))) (ref_seq (R154_0 _ _) (ref_ret (fun s st hp => hp)))))
noncomputable def G154 (x0 : (List Int)) : Option Int := match M154 { (default : Fr154) with t0 := x0 } with
  | some (.nrm, s) => some s.t2
  | some (.ret, s) => some s.t2
  | _ => none
theorem G154_spec : Spec154 (G154) := by
  intro x0 vx0_0 hvx0_0 r hr
  unfold G154 at hr
  cases hm : M154 { (default : Fr154) with t0 := x0 } with
  | none => rw [hm] at hr; cases hr
  | some q =>
    obtain ⟨x, s⟩ := q
    rw [hm] at hr
    have hx : x = .nrm ∨ x = .ret := by cases x <;> first | exact .inl rfl | exact .inr rfl | cases hr
    have hr : s.t2 = r := by cases x <;> first | exact Option.some.inj hr | cases hr
    subst hr
    have hp0 : P154_8' ({ (default : Fr154) with t0 := x0 }) (slots Tryz.f154 (stripL [vx0_0])) bare := ⟨(strip vx0_0 : AVal), rfl, rfl, hvx0_0.strip (rI_p .i64)⟩
    obtain ⟨v, hR, hrun⟩ := run_of_ref (C := Cl) (f := 154) (fn := Tryz.f154) Tryz.func154 rfl rfl rfl rfl (args := [vx0_0]) (by simp only [refsL, refs, List.append_nil, hvx0_0.refs (rI_p .i64)]) (B154) (s0 := { (default : Fr154) with t0 := x0 }) hp0 hm hx (R := fun v => v = .int .i64 s.t2) (by
      have key : ∀ st : ASt, P154_1 s st → ∃ vs v, aresults Cl Tryz.f154.results.toList st = some vs ∧ Nrm [] st.h (packRes vs) v ∧ (fun v => v = .int .i64 s.t2) v := by
        intro st hp
        obtain ⟨hl, a2⟩ := (hp : P154_1' s st.tmps st.h)
        exact ⟨[.int .i64 s.t2], _, by simp only [show Tryz.f154.results.toList = [ResultVar.tmp 2] from rfl, aresults, ares1, CP, a2, Option.getD_some], (Nrm.of (w := .int .i64 s.t2) (by simp only [refsL, refs, List.append_nil])), rfl⟩
      intro st hq
      rcases hx with rfl | rfl
      · exact key st hq
      · exact key st hq)
    subst hR
    exact hrun
/-! ### caisson/cube.isSet -/
structure Fr160 where
  t0 : Int
  t2 : Bool
instance : Inhabited Fr160 := ⟨⟨0, false⟩⟩
def P160_0' (s : Fr160) (t : List AVal) (h : AHeap) : Prop := t.length = 9 ∧ t[0]? = some (.int .i64 s.t0)
def P160_0 (s : Fr160) (st : ASt) : Prop := P160_0' s st.tmps st.h
def P160_1' (s : Fr160) (t : List AVal) (h : AHeap) : Prop := t.length = 9 ∧ t[2]? = some (.bool s.t2)
def P160_1 (s : Fr160) (st : ASt) : Prop := P160_1' s st.tmps st.h
noncomputable def m160_0 : Mo Fr160 := fun s => some (.nrm, { s with t2 := ((decide (s.t0 ≥ 0)) && (decide (s.t0 ≤ 63))) })
noncomputable def m160_1 : Mo Fr160 := fun s => some (.nrm, s)
noncomputable def M160 : Mo Fr160 := seqM (m160_1) (seqM (m160_0) (retM))
def Spec160 (f : Int → Option Bool) : Prop := ∀ (x0 : Int) (r : Bool), f x0 = some r → ∀ h, run Cl 160 [.int .i64 x0] h = some (.ret (.bool r), h)
theorem Spec160_of {f g : Int → Option Bool} (hg : Spec160 g) (h : ∀ x0 r, f x0 = some r → g x0 = some r) : Spec160 f := fun x0 r hr => hg x0 r (h x0 r hr)
theorem R160_0 (pe pr) : Ref Cl P160_0 (Cat [true, false] (bodyOf Tryz.f160)) m160_0 (post P160_1 pe pr) := by
  rintro s ⟨t, h⟩ hp x s' hm
  obtain ⟨hl, a0⟩ : P160_0' s t h := hp
  unfold m160_0 at hm
  cases hb1 : decide (s.t0 ≥ 0) with
  | true =>
    all_goals (
      try simp only [hb1, Zb] at hm
      cases hm
      refine ⟨⟨_, _⟩, by simp only [bodyOf, Tryz.f160, Cat, Zs, awanted, aoper, evalO, put, acallOp, abuiltin, Nat.reduceEqDiff, Nat.reduceLT, ofV, ofCell, ↓reduceIte, hl, a0, CP, hb1]; exact rfl, ?_⟩
      show P160_1 _ _
      exact ⟨by simp [hl], by simp [hl, hb1]⟩)
  | false =>
    all_goals (
      try simp only [hb1, Zb] at hm
      cases hm
      refine ⟨⟨_, _⟩, by simp only [bodyOf, Tryz.f160, Cat, Zs, awanted, aoper, evalO, put, acallOp, abuiltin, Nat.reduceEqDiff, Nat.reduceLT, ofV, ofCell, ↓reduceIte, hl, a0, CP, hb1]; exact rfl, ?_⟩
      show P160_1 _ _
      exact ⟨by simp [hl], by simp [hl, hb1]⟩)
theorem R160_1 (pe pr) : Ref Cl P160_0 (Cat [false] (bodyOf Tryz.f160)) m160_1 (post P160_0 pe pr) := by
  rintro s ⟨t, h⟩ hp x s' hm
  obtain ⟨hl, a0⟩ : P160_0' s t h := hp
  unfold m160_1 at hm
  cases hm
  refine ⟨⟨_, _⟩, by simp only [bodyOf, Tryz.f160, Cat, Zs, awanted, aoper, evalO, put, acallOp, abuiltin, Nat.reduceEqDiff, Nat.reduceLT, ofV, ofCell, ↓reduceIte, hl, a0, CP]; exact rfl, ?_⟩
  show P160_0 _ _
  exact ⟨by simp [hl], by simp [a0]⟩
theorem B160 : Ref Cl P160_0 (bodyOf Tryz.f160) (M160) (post P160_1 (fun _ _ _ => False) P160_1) := by
  rw [show bodyOf Tryz.f160 = .seq (Cat [false] (bodyOf Tryz.f160)) (.seq (Cat [true, false] (bodyOf Tryz.f160)) (.ret)) from rfl]
  unfold M160
  exact ref_seq (R160_1 _ _) (ref_seq (R160_0 _ _) (ref_ret (fun s st hp => hp)))
noncomputable def G160 (x0 : Int) : Option Bool := match M160 { (default : Fr160) with t0 := x0 } with
  | some (.nrm, s) => some s.t2
  | some (.ret, s) => some s.t2
  | _ => none
theorem G160_spec : Spec160 (G160) := by
  intro x0 r hr
  unfold G160 at hr
  cases hm : M160 { (default : Fr160) with t0 := x0 } with
  | none => rw [hm] at hr; cases hr
  | some q =>
    obtain ⟨x, s⟩ := q
    rw [hm] at hr
    have hx : x = .nrm ∨ x = .ret := by cases x <;> first | exact .inl rfl | exact .inr rfl | cases hr
    have hr : s.t2 = r := by cases x <;> first | exact Option.some.inj hr | cases hr
    subst hr
    have hp0 : P160_0' ({ (default : Fr160) with t0 := x0 }) (slots Tryz.f160 (stripL [.int .i64 x0])) bare := ⟨rfl, rfl⟩
    obtain ⟨v, hR, hrun⟩ := run_of_ref (C := Cl) (f := 160) (fn := Tryz.f160) Tryz.func160 rfl rfl rfl rfl (args := [.int .i64 x0]) (by simp only [refsL, refs, List.append_nil]) (B160) (s0 := { (default : Fr160) with t0 := x0 }) hp0 hm hx (R := fun v => v = .bool s.t2) (by
      have key : ∀ st : ASt, P160_1 s st → ∃ vs v, aresults Cl Tryz.f160.results.toList st = some vs ∧ Nrm [] st.h (packRes vs) v ∧ (fun v => v = .bool s.t2) v := by
        intro st hp
        obtain ⟨hl, a2⟩ := (hp : P160_1' s st.tmps st.h)
        exact ⟨[.bool s.t2], _, by simp only [show Tryz.f160.results.toList = [ResultVar.tmp 2] from rfl, aresults, ares1, CP, a2, Option.getD_some], (Nrm.of (w := .bool s.t2) (by simp only [refsL, refs, List.append_nil])), rfl⟩
      intro st hq
      rcases hx with rfl | rfl
      · exact key st hq
      · exact key st hq)
    subst hR
    exact hrun
/-! ### caisson/cube.Covers -/
structure Fr85 where
  t0 : Int
  t1 : Int
  t4 : Bool
instance : Inhabited Fr85 := ⟨⟨0, 0, false⟩⟩
def P85_0' (s : Fr85) (t : List AVal) (h : AHeap) : Prop := t.length = 17 ∧ t[0]? = some (.int .i64 s.t0) ∧ t[1]? = some (.int .i64 s.t1)
def P85_0 (s : Fr85) (st : ASt) : Prop := P85_0' s st.tmps st.h
def P85_1' (s : Fr85) (t : List AVal) (h : AHeap) : Prop := t.length = 17 ∧ t[4]? = some (.bool s.t4)
def P85_1 (s : Fr85) (st : ASt) : Prop := P85_1' s st.tmps st.h
noncomputable def m85_0 : Mo Fr85 := fun s => (G160 s.t0).bind fun z1 => (cond z1 ((G160 s.t1).bind fun z3 => some z3) (some false)).bind fun x5 => some (.nrm, { s with t4 := ((z1 && x5) && ((bits .andNot .i64 s.t1 s.t0) == 0)) })
noncomputable def m85_1 : Mo Fr85 := fun s => some (.nrm, s)
noncomputable def M85 : Mo Fr85 := seqM (m85_1) (seqM (m85_0) (retM))
def Spec85 (f : Int → Int → Option Bool) : Prop := ∀ (x0 : Int) (x1 : Int) (r : Bool), f x0 x1 = some r → ∀ h, run Cl 85 [.int .i64 x0, .int .i64 x1] h = some (.ret (.bool r), h)
theorem Spec85_of {f g : Int → Int → Option Bool} (hg : Spec85 g) (h : ∀ x0 x1 r, f x0 x1 = some r → g x0 x1 = some r) : Spec85 f := fun x0 x1 r hr => hg x0 x1 r (h x0 x1 r hr)
theorem R85_0 (pe pr) : Ref Cl P85_0 (Cat [true, false] (bodyOf Tryz.f85)) m85_0 (post P85_1 pe pr) := by
  rintro s ⟨t, h⟩ hp x s' hm
  obtain ⟨hl, a0, a1⟩ : P85_0' s t h := hp
  unfold m85_0 at hm
  obtain ⟨z6, hz6, hm⟩ := Option.bind_eq_some_iff.1 hm
  have iu7 := G160_spec s.t0  _ hz6
  cases hb8 : z6 with
  | true =>
    all_goals (
      try simp only [hb8, Zb] at hm
      obtain ⟨z9, hz9, hm⟩ := Option.bind_eq_some_iff.1 hm
      have iu10 := G160_spec s.t1  _ hz9
      try simp only [Zb] at hm
      cases hb11 : z9 with
      | true =>
        all_goals (
          try simp only [hb11, Zb] at hm
          cases hm
          refine ⟨⟨_, _⟩, by simp only [bodyOf, Tryz.f85, Cat, Zs, awanted, aoper, evalO, put, acallOp, abuiltin, Nat.reduceEqDiff, Nat.reduceLT, ofV, ofCell, ↓reduceIte, hl, a0, a1, CP, iu7, iu10, Ty.andNot3, hb8, hb11]; exact rfl, ?_⟩
          show P85_1 _ _
          exact ⟨by simp [hl], by simp [hl, hb8, hb11]⟩)
      | false =>
        all_goals (
          try simp only [hb11, Zb] at hm
          cases hm
          refine ⟨⟨_, _⟩, by simp only [bodyOf, Tryz.f85, Cat, Zs, awanted, aoper, evalO, put, acallOp, abuiltin, Nat.reduceEqDiff, Nat.reduceLT, ofV, ofCell, ↓reduceIte, hl, a0, a1, CP, iu7, iu10, hb8, hb11]; exact rfl, ?_⟩
          show P85_1 _ _
          exact ⟨by simp [hl], by simp [hl, hb8, hb11]⟩))
  | false =>
    all_goals (
      try simp only [hb8, Zb] at hm
      cases hm
      refine ⟨⟨_, _⟩, by simp only [bodyOf, Tryz.f85, Cat, Zs, awanted, aoper, evalO, put, acallOp, abuiltin, Nat.reduceEqDiff, Nat.reduceLT, ofV, ofCell, ↓reduceIte, hl, a0, a1, CP, iu7, hb8]; exact rfl, ?_⟩
      show P85_1 _ _
      exact ⟨by simp [hl], by simp [hl, hb8]⟩)
theorem R85_1 (pe pr) : Ref Cl P85_0 (Cat [false] (bodyOf Tryz.f85)) m85_1 (post P85_0 pe pr) := by
  rintro s ⟨t, h⟩ hp x s' hm
  obtain ⟨hl, a0, a1⟩ : P85_0' s t h := hp
  unfold m85_1 at hm
  cases hm
  refine ⟨⟨_, _⟩, by simp only [bodyOf, Tryz.f85, Cat, Zs, awanted, aoper, evalO, put, acallOp, abuiltin, Nat.reduceEqDiff, Nat.reduceLT, ofV, ofCell, ↓reduceIte, hl, a0, a1, CP]; exact rfl, ?_⟩
  show P85_0 _ _
  exact ⟨by simp [hl], by simp [a0], by simp [a1]⟩
theorem B85 : Ref Cl P85_0 (bodyOf Tryz.f85) (M85) (post P85_1 (fun _ _ _ => False) P85_1) := by
  rw [show bodyOf Tryz.f85 = .seq (Cat [false] (bodyOf Tryz.f85)) (.seq (Cat [true, false] (bodyOf Tryz.f85)) (.ret)) from rfl]
  unfold M85
  exact ref_seq (R85_1 _ _) (ref_seq (R85_0 _ _) (ref_ret (fun s st hp => hp)))
noncomputable def G85 (x0 : Int) (x1 : Int) : Option Bool := match M85 { (default : Fr85) with t0 := x0, t1 := x1 } with
  | some (.nrm, s) => some s.t4
  | some (.ret, s) => some s.t4
  | _ => none
theorem G85_spec : Spec85 (G85) := by
  intro x0 x1 r hr
  unfold G85 at hr
  cases hm : M85 { (default : Fr85) with t0 := x0, t1 := x1 } with
  | none => rw [hm] at hr; cases hr
  | some q =>
    obtain ⟨x, s⟩ := q
    rw [hm] at hr
    have hx : x = .nrm ∨ x = .ret := by cases x <;> first | exact .inl rfl | exact .inr rfl | cases hr
    have hr : s.t4 = r := by cases x <;> first | exact Option.some.inj hr | cases hr
    subst hr
    have hp0 : P85_0' ({ (default : Fr85) with t0 := x0, t1 := x1 }) (slots Tryz.f85 (stripL [.int .i64 x0, .int .i64 x1])) bare := ⟨rfl, rfl, rfl⟩
    obtain ⟨v, hR, hrun⟩ := run_of_ref (C := Cl) (f := 85) (fn := Tryz.f85) Tryz.func85 rfl rfl rfl rfl (args := [.int .i64 x0, .int .i64 x1]) (by simp only [refsL, refs, List.append_nil]) (B85) (s0 := { (default : Fr85) with t0 := x0, t1 := x1 }) hp0 hm hx (R := fun v => v = .bool s.t4) (by
      have key : ∀ st : ASt, P85_1 s st → ∃ vs v, aresults Cl Tryz.f85.results.toList st = some vs ∧ Nrm [] st.h (packRes vs) v ∧ (fun v => v = .bool s.t4) v := by
        intro st hp
        obtain ⟨hl, a4⟩ := (hp : P85_1' s st.tmps st.h)
        exact ⟨[.bool s.t4], _, by simp only [show Tryz.f85.results.toList = [ResultVar.tmp 4] from rfl, aresults, ares1, CP, a4, Option.getD_some], (Nrm.of (w := .bool s.t4) (by simp only [refsL, refs, List.append_nil])), rfl⟩
      intro st hq
      rcases hx with rfl | rfl
      · exact key st hq
      · exact key st hq)
    subst hR
    exact hrun
/-! ### caisson/sets.Of -/
structure Fr41 where
  t0 : (List Int)
  t2 : Int
  t3 : Int
  t5 : Int
  t6 : (List Int)
  t7 : Int
  t8 : Int
  t9 : Bool
  t17 : Bool
instance : Inhabited Fr41 := ⟨⟨[], 0, 0, 0, [], 0, 0, false, false⟩⟩
def P41_0' (s : Fr41) (t : List AVal) (h : AHeap) : Prop := t.length = 24 ∧ t[3]? = some (.int .i64 s.t3)
def P41_0 (s : Fr41) (st : ASt) : Prop := P41_0' s st.tmps st.h
def P41_1' (s : Fr41) (t : List AVal) (h : AHeap) : Prop := t.length = 24 ∧ t[2]? = some (.int .i64 s.t2)
def P41_1 (s : Fr41) (st : ASt) : Prop := P41_1' s st.tmps st.h
def P41_2' (s : Fr41) (t : List AVal) (h : AHeap) : Prop := ∃ w6_0, t.length = 24 ∧ t[3]? = some (.int .i64 s.t3) ∧ t[6]? = some w6_0 ∧ Sl (rI .i64) s.t6 w6_0 ∧ t[7]? = some (.int .i64 s.t7) ∧ t[8]? = some (.int .i64 s.t8)
def P41_2 (s : Fr41) (st : ASt) : Prop := P41_2' s st.tmps st.h
def P41_3' (s : Fr41) (t : List AVal) (h : AHeap) : Prop := ∃ w6_0, t.length = 24 ∧ t[3]? = some (.int .i64 s.t3) ∧ t[5]? = some (.int .i64 s.t5) ∧ t[6]? = some w6_0 ∧ Sl (rI .i64) s.t6 w6_0 ∧ t[7]? = some (.int .i64 s.t7) ∧ t[8]? = some (.int .i64 s.t8)
def P41_3 (s : Fr41) (st : ASt) : Prop := P41_3' s st.tmps st.h
def P41_4' (s : Fr41) (t : List AVal) (h : AHeap) : Prop := ∃ w6_0, t.length = 24 ∧ t[3]? = some (.int .i64 s.t3) ∧ t[5]? = some (.int .i64 s.t5) ∧ t[6]? = some w6_0 ∧ Sl (rI .i64) s.t6 w6_0 ∧ t[7]? = some (.int .i64 s.t7) ∧ t[8]? = some (.int .i64 s.t8) ∧ t[17]? = some (.bool s.t17)
def P41_4 (s : Fr41) (st : ASt) : Prop := P41_4' s st.tmps st.h
def P41_5' (s : Fr41) (t : List AVal) (h : AHeap) : Prop := ∃ w6_0, t.length = 24 ∧ t[3]? = some (.int .i64 s.t3) ∧ t[6]? = some w6_0 ∧ Sl (rI .i64) s.t6 w6_0 ∧ t[7]? = some (.int .i64 s.t7) ∧ t[8]? = some (.int .i64 s.t8) ∧ t[9]? = some (.bool s.t9)
def P41_5 (s : Fr41) (st : ASt) : Prop := P41_5' s st.tmps st.h
def P41_6' (s : Fr41) (t : List AVal) (h : AHeap) : Prop := ∃ w0_0, t.length = 24 ∧ t[0]? = some w0_0 ∧ Sl (rI .i64) s.t0 w0_0 ∧ t[3]? = some (.int .i64 s.t3)
def P41_6 (s : Fr41) (st : ASt) : Prop := P41_6' s st.tmps st.h
def P41_7' (s : Fr41) (t : List AVal) (h : AHeap) : Prop := ∃ w0_0, t.length = 24 ∧ t[0]? = some w0_0 ∧ Sl (rI .i64) s.t0 w0_0
def P41_7 (s : Fr41) (st : ASt) : Prop := P41_7' s st.tmps st.h
noncomputable def m41_0 : Mo Fr41 := fun s => some (.nrm, { s with t2 := s.t3 })
noncomputable def m41_1 : Mo Fr41 := fun s => some (.nrm, { s with t8 := IntKind.wrap .i64 (s.t8 + 1) })
noncomputable def m41_2 : Mo Fr41 := fun s => (shlT .i64 1 s.t5).bind fun z1 => some (.nrm, { s with t3 := bits .or .i64 s.t3 z1 })
noncomputable def m41_3 : Mo Fr41 := fun s => some (.nrm, { s with t17 := ((decide (s.t5 ≥ 0)) && (decide (s.t5 < 6))) })
noncomputable def m41_4 : Mo Fr41 := fun s => (at? s.t6 s.t8).bind fun y6 => some (.nrm, { s with t5 := y6 })
noncomputable def m41_5 : Mo Fr41 := fun s => some (.nrm, { s with t9 := decide (s.t8 < s.t7) })
noncomputable def L41_6 : Mo Fr41 := seqM (m41_5) (seqM (condM (fun s => s.t9) (skipM) (exitM 0)) (seqM (blockM 1 (seqM (m41_4) (seqM (m41_3) (condM (fun s => s.t17) (m41_2) (skipM))))) (m41_1)))
noncomputable def m41_7 : Mo Fr41 := fun s => some (.nrm, { s with t6 := s.t0, t7 := (s.t0.length : Int), t8 := 0 })
noncomputable def m41_8 : Mo Fr41 := fun s => some (.nrm, { s with t3 := 0 })
noncomputable def m41_9 : Mo Fr41 := fun s => some (.nrm, s)
noncomputable def M41 : Mo Fr41 := seqM (m41_9) (seqM (m41_8) (seqM (seqM (m41_7) (blockM 0 (loopM (L41_6)))) (seqM (m41_0) (retM))))
def Spec41 (f : (List Int) → Option Int) : Prop := ∀ (x0 : (List Int)) (vx0_0 : AVal) (_ : Sl (rI .i64) x0 vx0_0) (r : Int), f x0 = some r → ∀ h, run Cl 41 [vx0_0] h = some (.ret (.int .i64 r), h)
theorem Spec41_of {f g : (List Int) → Option Int} (hg : Spec41 g) (h : ∀ x0 r, f x0 = some r → g x0 = some r) : Spec41 f := fun x0 v0_ w0_ r hr => hg x0 v0_ w0_ r (h x0 r hr)
theorem R41_0 (pe pr) : Ref Cl P41_0 (Cat [true, true, true, false] (bodyOf Tryz.f41)) m41_0 (post P41_1 pe pr) := by
  rintro s ⟨t, h⟩ hp x s' hm
  obtain ⟨hl, a3⟩ : P41_0' s t h := hp
  unfold m41_0 at hm
  cases hm
  refine ⟨⟨_, _⟩, by simp only [bodyOf, Tryz.f41, Cat, Zs, awanted, aoper, evalO, put, acallOp, abuiltin, Nat.reduceEqDiff, Nat.reduceLT, ofV, ofCell, ↓reduceIte, hl, a3, CP]; exact rfl, ?_⟩
  show P41_1 _ _
  exact ⟨by simp [hl], by simp [hl]⟩
theorem R41_1 (pe pr) : Ref Cl P41_2 (Cat [true, true, false, true, true, true, true, true, true] (bodyOf Tryz.f41)) m41_1 (post P41_2 pe pr) := by
  rintro s ⟨t, h⟩ hp x s' hm
  obtain ⟨w6_0, hl, a3, a6, r6_0, a7, a8⟩ : P41_2' s t h := hp
  unfold m41_1 at hm
  cases hm
  refine ⟨⟨_, _⟩, by simp only [bodyOf, Tryz.f41, Cat, Zs, awanted, aoper, evalO, put, acallOp, abuiltin, Nat.reduceEqDiff, Nat.reduceLT, ofV, ofCell, ↓reduceIte, hl, a3, a6, a7, a8, CP]; exact rfl, ?_⟩
  show P41_2 _ _
  exact ⟨w6_0, by simp [hl], by simp [a3], by simp [a6], r6_0, by simp [a7], by simp [hl]⟩
theorem R41_2 (pe pr) : Ref Cl P41_3 (Cat [true, true, false, true, true, true, true, true, false, true, true, true, false] (bodyOf Tryz.f41)) m41_2 (post P41_2 pe pr) := by
  rintro s ⟨t, h⟩ hp x s' hm
  obtain ⟨w6_0, hl, a3, a5, a6, r6_0, a7, a8⟩ : P41_3' s t h := hp
  unfold m41_2 at hm
  obtain ⟨z3, hz3, hm⟩ := Option.bind_eq_some_iff.1 hm
  have iu4 := shl_v (C := Cl) hz3
  cases hm
  refine ⟨⟨_, _⟩, by simp only [bodyOf, Tryz.f41, Cat, Zs, awanted, aoper, evalO, put, acallOp, abuiltin, Nat.reduceEqDiff, Nat.reduceLT, ofV, ofCell, ↓reduceIte, hl, a3, a5, a6, a7, a8, CP, iu4, Ty.or3]; exact rfl, ?_⟩
  show P41_2 _ _
  exact ⟨w6_0, by simp [hl], by simp [hl], by simp [a6], r6_0, by simp [a7], by simp [a8]⟩
theorem R41_3 (pe pr) : Ref Cl P41_3 (Cat [true, true, false, true, true, true, true, true, false, true, true, false] (bodyOf Tryz.f41)) m41_3 (post P41_4 pe pr) := by
  rintro s ⟨t, h⟩ hp x s' hm
  obtain ⟨w6_0, hl, a3, a5, a6, r6_0, a7, a8⟩ : P41_3' s t h := hp
  unfold m41_3 at hm
  cases hb5 : decide (s.t5 ≥ 0) with
  | true =>
    all_goals (
      try simp only [hb5, Zb] at hm
      cases hm
      refine ⟨⟨_, _⟩, by simp only [bodyOf, Tryz.f41, Cat, Zs, awanted, aoper, evalO, put, acallOp, abuiltin, Nat.reduceEqDiff, Nat.reduceLT, ofV, ofCell, ↓reduceIte, hl, a3, a5, a6, a7, a8, CP, hb5]; exact rfl, ?_⟩
      show P41_4 _ _
      exact ⟨w6_0, by simp [hl], by simp [a3], by simp [a5], by simp [a6], r6_0, by simp [a7], by simp [a8], by simp [hl, hb5]⟩)
  | false =>
    all_goals (
      try simp only [hb5, Zb] at hm
      cases hm
      refine ⟨⟨_, _⟩, by simp only [bodyOf, Tryz.f41, Cat, Zs, awanted, aoper, evalO, put, acallOp, abuiltin, Nat.reduceEqDiff, Nat.reduceLT, ofV, ofCell, ↓reduceIte, hl, a3, a5, a6, a7, a8, CP, hb5]; exact rfl, ?_⟩
      show P41_4 _ _
      exact ⟨w6_0, by simp [hl], by simp [a3], by simp [a5], by simp [a6], r6_0, by simp [a7], by simp [a8], by simp [hl, hb5]⟩)
theorem R41_4 (pe pr) : Ref Cl P41_2 (Cat [true, true, false, true, true, true, true, true, false, true, false] (bodyOf Tryz.f41)) m41_4 (post P41_3 pe pr) := by
  rintro s ⟨t, h⟩ hp x s' hm
  obtain ⟨w6_0, hl, a3, a6, r6_0, a7, a8⟩ : P41_2' s t h := hp
  unfold m41_4 at hm
  obtain ⟨y8, hy8, hm⟩ := Option.bind_eq_some_iff.1 hm
  obtain ⟨cu9, du9, eu9, iu9, _⟩ := Sl.ix (rI_p .i64) r6_0 hy8
  subst eu9
  cases hm
  refine ⟨⟨_, _⟩, by simp only [bodyOf, Tryz.f41, Cat, Zs, awanted, aoper, evalO, put, acallOp, abuiltin, Nat.reduceEqDiff, Nat.reduceLT, ofV, ofCell, ↓reduceIte, hl, a3, a6, a7, a8, CP, Ty.ix33, iu9, Ty.ld3, ld_ip, ofc1, List.drop_succ_cons, List.drop_zero]; exact rfl, ?_⟩
  show P41_3 _ _
  exact ⟨w6_0, by simp [hl], by simp [a3], by simp [hl], by simp [a6], r6_0, by simp [a7], by simp [a8]⟩
theorem R41_5 (pe pr) : Ref Cl P41_2 (Cat [true, true, false, true, true, true, false] (bodyOf Tryz.f41)) m41_5 (post P41_5 pe pr) := by
  rintro s ⟨t, h⟩ hp x s' hm
  obtain ⟨w6_0, hl, a3, a6, r6_0, a7, a8⟩ : P41_2' s t h := hp
  unfold m41_5 at hm
  cases hm
  refine ⟨⟨_, _⟩, by simp only [bodyOf, Tryz.f41, Cat, Zs, awanted, aoper, evalO, put, acallOp, abuiltin, Nat.reduceEqDiff, Nat.reduceLT, ofV, ofCell, ↓reduceIte, hl, a3, a6, a7, a8, CP]; exact rfl, ?_⟩
  show P41_5 _ _
  exact ⟨w6_0, by simp [hl], by simp [a3], by simp [a6], r6_0, by simp [a7], by simp [a8], by simp [hl]⟩
theorem R41_7 (pe pr) : Ref Cl P41_6 (Cat [true, true, false, false] (bodyOf Tryz.f41)) m41_7 (post P41_2 pe pr) := by
  rintro s ⟨t, h⟩ hp x s' hm
  obtain ⟨w0_0, hl, a0, r0_0, a3⟩ : P41_6' s t h := hp
  unfold m41_7 at hm
  have lu11 := fun h => Sl.len r0_0 Ty.un33 h
  cases hm
  refine ⟨⟨_, _⟩, by simp only [bodyOf, Tryz.f41, Cat, Zs, awanted, aoper, evalO, put, acallOp, abuiltin, Nat.reduceEqDiff, Nat.reduceLT, ofV, ofCell, ↓reduceIte, hl, a0, a3, CP, lu11]; exact rfl, ?_⟩
  show P41_2 _ _
  exact ⟨w0_0, by simp [hl], by simp [a3], by simp [hl], r0_0, by simp [hl], by simp [hl]⟩
theorem R41_8 (pe pr) : Ref Cl P41_7 (Cat [true, false] (bodyOf Tryz.f41)) m41_8 (post P41_6 pe pr) := by
  rintro s ⟨t, h⟩ hp x s' hm
  obtain ⟨w0_0, hl, a0, r0_0⟩ : P41_7' s t h := hp
  unfold m41_8 at hm
  cases hm
  refine ⟨⟨_, _⟩, by simp only [bodyOf, Tryz.f41, Cat, Zs, awanted, aoper, evalO, put, acallOp, abuiltin, Nat.reduceEqDiff, Nat.reduceLT, ofV, ofCell, ↓reduceIte, hl, a0, CP]; exact rfl, ?_⟩
  show P41_6 _ _
  exact ⟨w0_0, by simp [hl], by simp [a0], r0_0, by simp [hl]⟩
theorem R41_9 (pe pr) : Ref Cl P41_7 (Cat [false] (bodyOf Tryz.f41)) m41_9 (post P41_7 pe pr) := by
  rintro s ⟨t, h⟩ hp x s' hm
  obtain ⟨w0_0, hl, a0, r0_0⟩ : P41_7' s t h := hp
  unfold m41_9 at hm
  cases hm
  refine ⟨⟨_, _⟩, by simp only [bodyOf, Tryz.f41, Cat, Zs, awanted, aoper, evalO, put, acallOp, abuiltin, Nat.reduceEqDiff, Nat.reduceLT, ofV, ofCell, ↓reduceIte, hl, a0, CP]; exact rfl, ?_⟩
  show P41_7 _ _
  exact ⟨w0_0, by simp [hl], by simp [a0], r0_0⟩
theorem B41 : Ref Cl P41_7 (bodyOf Tryz.f41) (M41) (post P41_1 (fun _ _ _ => False) P41_1) := by
  rw [show bodyOf Tryz.f41 = .seq (Cat [false] (bodyOf Tryz.f41)) (.seq (Cat [true, false] (bodyOf Tryz.f41)) (.seq (.seq (Cat [true, true, false, false] (bodyOf Tryz.f41)) (.block 0 (.loop (.seq (Cat [true, true, false, true, true, true, false] (bodyOf Tryz.f41)) (.seq (.cond (.tmp 9) (.skip) (.exit 0)) (.seq (.block 1 (.seq (Cat [true, true, false, true, true, true, true, true, false, true, false] (bodyOf Tryz.f41)) (.seq (Cat [true, true, false, true, true, true, true, true, false, true, true, false] (bodyOf Tryz.f41)) (.cond (.tmp 17) (Cat [true, true, false, true, true, true, true, true, false, true, true, true, false] (bodyOf Tryz.f41)) (.skip))))) (Cat [true, true, false, true, true, true, true, true, true] (bodyOf Tryz.f41)))))))) (.seq (Cat [true, true, true, false] (bodyOf Tryz.f41)) (.ret)))) from rfl]
  unfold M41
  exact ref_seq (R41_9 _ _) (ref_seq (R41_8 _ _) (ref_seq (ref_seq (R41_7 _ _) (ref_block (ref_loop (P := P41_2) (ref_weak (P' := P41_2) (fun s st hp => hp) (ref_seq (R41_5 _ _) (ref_seq (ref_cond (P := P41_5) (c := fun s => s.t9) (fun s st hp => by obtain ⟨w6_0, hl, a3, a6, r6_0, a7, a8, a9⟩ := (hp : P41_5' s st.tmps st.h); simp only [evalO, a9, Option.getD_some]) (ref_weak (P' := P41_2) (fun s st hp => by obtain ⟨w6_0, hl, a3, a6, r6_0, a7, a8, a9⟩ := (hp : P41_5' s st.tmps st.h); exact (⟨w6_0, hl, a3, a6, r6_0, a7, a8⟩ : P41_2' s st.tmps st.h)) (ref_skip (fun s st hp => hp))) (ref_weak (P' := P41_0) (fun s st hp => by obtain ⟨w6_0, hl, a3, a6, r6_0, a7, a8, a9⟩ := (hp : P41_5' s st.tmps st.h); exact (⟨hl, a3⟩ : P41_0' s st.tmps st.h)) (ref_exit (fun s st hp => hp)))) (ref_seq (ref_block (ref_seq (R41_4 _ _) (ref_seq (R41_3 _ _) (ref_cond (P := P41_4) (c := fun s => s.t17) (fun s st hp => by obtain ⟨w6_0, hl, a3, a5, a6, r6_0, a7, a8, a17⟩ := (hp : P41_4' s st.tmps st.h); simp only [evalO, a17, Option.getD_some]) (ref_weak (P' := P41_3) (fun s st hp => by obtain ⟨w6_0, hl, a3, a5, a6, r6_0, a7, a8, a17⟩ := (hp : P41_4' s st.tmps st.h); exact (⟨w6_0, hl, a3, a5, a6, r6_0, a7, a8⟩ : P41_3' s st.tmps st.h)) (R41_2 _ _)) (ref_weak (P' := P41_2) (fun s st hp => by obtain ⟨w6_0, hl, a3, a5, a6, r6_0, a7, a8, a17⟩ := (hp : P41_4' s st.tmps st.h); exact (⟨w6_0, hl, a3, a6, r6_0, a7, a8⟩ : P41_2' s st.tmps st.h)) (ref_skip (fun s st hp => hp))))))) (R41_1 _ _)))))))) (ref_seq (R41_0 _ _) (ref_ret (fun s st hp => hp)))))
noncomputable def G41 (x0 : (List Int)) : Option Int := match M41 { (default : Fr41) with t0 := x0 } with
  | some (.nrm, s) => some s.t2
  | some (.ret, s) => some s.t2
  | _ => none
theorem G41_spec : Spec41 (G41) := by
  intro x0 vx0_0 hvx0_0 r hr
  unfold G41 at hr
  cases hm : M41 { (default : Fr41) with t0 := x0 } with
  | none => rw [hm] at hr; cases hr
  | some q =>
    obtain ⟨x, s⟩ := q
    rw [hm] at hr
    have hx : x = .nrm ∨ x = .ret := by cases x <;> first | exact .inl rfl | exact .inr rfl | cases hr
    have hr : s.t2 = r := by cases x <;> first | exact Option.some.inj hr | cases hr
    subst hr
    have hp0 : P41_7' ({ (default : Fr41) with t0 := x0 }) (slots Tryz.f41 (stripL [vx0_0])) bare := ⟨(strip vx0_0 : AVal), rfl, rfl, hvx0_0.strip (rI_p .i64)⟩
    obtain ⟨v, hR, hrun⟩ := run_of_ref (C := Cl) (f := 41) (fn := Tryz.f41) Tryz.func41 rfl rfl rfl rfl (args := [vx0_0]) (by simp only [refsL, refs, List.append_nil, hvx0_0.refs (rI_p .i64)]) (B41) (s0 := { (default : Fr41) with t0 := x0 }) hp0 hm hx (R := fun v => v = .int .i64 s.t2) (by
      have key : ∀ st : ASt, P41_1 s st → ∃ vs v, aresults Cl Tryz.f41.results.toList st = some vs ∧ Nrm [] st.h (packRes vs) v ∧ (fun v => v = .int .i64 s.t2) v := by
        intro st hp
        obtain ⟨hl, a2⟩ := (hp : P41_1' s st.tmps st.h)
        exact ⟨[.int .i64 s.t2], _, by simp only [show Tryz.f41.results.toList = [ResultVar.tmp 2] from rfl, aresults, ares1, CP, a2, Option.getD_some], (Nrm.of (w := .int .i64 s.t2) (by simp only [refsL, refs, List.append_nil])), rfl⟩
      intro st hq
      rcases hx with rfl | rfl
      · exact key st hq
      · exact key st hq)
    subst hR
    exact hrun
/-! ### caisson/sets.List -/
structure Fr82 where
  t0 : Int
  t2 : (List Int)
  t3 : (List Int)
  t4 : Int
  t10 : Bool
  t15 : Int
  t16 : Bool
  t22 : Bool
instance : Inhabited Fr82 := ⟨⟨0, [], [], 0, false, 0, false, false⟩⟩
def P82_0' (s : Fr82) (t : List AVal) (h : AHeap) : Prop := ∃ w3_0, t.length = 29 ∧ t[3]? = some w3_0 ∧ Gr (rI .i64) 1 s.t3 w3_0 h
def P82_0 (s : Fr82) (st : ASt) : Prop := P82_0' s st.tmps st.h
def P82_1' (s : Fr82) (t : List AVal) (h : AHeap) : Prop := ∃ w2_0, t.length = 29 ∧ t[2]? = some w2_0 ∧ Sl (rI .i64) s.t2 w2_0
def P82_1 (s : Fr82) (st : ASt) : Prop := P82_1' s st.tmps st.h
def P82_2' (s : Fr82) (t : List AVal) (h : AHeap) : Prop := ∃ w3_0, t.length = 29 ∧ t[0]? = some (.int .i64 s.t0) ∧ t[3]? = some w3_0 ∧ Gr (rI .i64) 1 s.t3 w3_0 h ∧ t[15]? = some (.int .i64 s.t15)
def P82_2 (s : Fr82) (st : ASt) : Prop := P82_2' s st.tmps st.h
def P82_3' (s : Fr82) (t : List AVal) (h : AHeap) : Prop := ∃ w3_0, t.length = 29 ∧ t[0]? = some (.int .i64 s.t0) ∧ t[3]? = some w3_0 ∧ Gr (rI .i64) 1 s.t3 w3_0 h ∧ t[4]? = some (.int .i64 s.t4) ∧ t[15]? = some (.int .i64 s.t15)
def P82_3 (s : Fr82) (st : ASt) : Prop := P82_3' s st.tmps st.h
def P82_4' (s : Fr82) (t : List AVal) (h : AHeap) : Prop := ∃ w3_0, t.length = 29 ∧ t[0]? = some (.int .i64 s.t0) ∧ t[3]? = some w3_0 ∧ Gr (rI .i64) 1 s.t3 w3_0 h ∧ t[4]? = some (.int .i64 s.t4) ∧ t[15]? = some (.int .i64 s.t15) ∧ t[22]? = some (.bool s.t22)
def P82_4 (s : Fr82) (st : ASt) : Prop := P82_4' s st.tmps st.h
def P82_5' (s : Fr82) (t : List AVal) (h : AHeap) : Prop := ∃ w3_0, t.length = 29 ∧ t[0]? = some (.int .i64 s.t0) ∧ t[3]? = some w3_0 ∧ Gr (rI .i64) 1 s.t3 w3_0 h ∧ t[15]? = some (.int .i64 s.t15) ∧ t[16]? = some (.bool s.t16)
def P82_5 (s : Fr82) (st : ASt) : Prop := P82_5' s st.tmps st.h
def P82_6' (s : Fr82) (t : List AVal) (h : AHeap) : Prop := ∃ w3_0, t.length = 29 ∧ t[0]? = some (.int .i64 s.t0) ∧ t[3]? = some w3_0 ∧ Gr (rI .i64) 1 s.t3 w3_0 h
def P82_6 (s : Fr82) (st : ASt) : Prop := P82_6' s st.tmps st.h
def P82_7' (s : Fr82) (t : List AVal) (h : AHeap) : Prop := t.length = 29 ∧ t[0]? = some (.int .i64 s.t0)
def P82_7 (s : Fr82) (st : ASt) : Prop := P82_7' s st.tmps st.h
def P82_8' (s : Fr82) (t : List AVal) (h : AHeap) : Prop := t.length = 29 ∧ True
def P82_8 (s : Fr82) (st : ASt) : Prop := P82_8' s st.tmps st.h
def P82_9' (s : Fr82) (t : List AVal) (h : AHeap) : Prop := t.length = 29 ∧ t[0]? = some (.int .i64 s.t0) ∧ t[10]? = some (.bool s.t10)
def P82_9 (s : Fr82) (st : ASt) : Prop := P82_9' s st.tmps st.h
noncomputable def m82_0 : Mo Fr82 := fun s => some (.nrm, { s with t2 := s.t3 })
noncomputable def m82_1 : Mo Fr82 := fun s => some (.nrm, { s with t15 := IntKind.wrap .i64 (s.t15 + 1) })
noncomputable def m82_2 : Mo Fr82 := fun s => (appT 8 s.t3 [s.t4]).bind fun z5 => some (.nrm, { s with t3 := z5 })
noncomputable def m82_3 : Mo Fr82 := fun s => (shlT .i64 1 s.t4).bind fun z13 => some (.nrm, { s with t22 := ((bits .and .i64 s.t0 z13) != 0) })
noncomputable def m82_4 : Mo Fr82 := fun s => some (.nrm, { s with t4 := s.t15 })
noncomputable def m82_5 : Mo Fr82 := fun s => some (.nrm, { s with t16 := decide (s.t15 < 6) })
noncomputable def L82_6 : Mo Fr82 := seqM (m82_5) (seqM (condM (fun s => s.t16) (skipM) (exitM 0)) (seqM (blockM 1 (seqM (m82_4) (seqM (m82_3) (condM (fun s => s.t22) (m82_2) (skipM))))) (m82_1)))
noncomputable def m82_7 : Mo Fr82 := fun s => some (.nrm, { s with t15 := 0 })
noncomputable def m82_8 : Mo Fr82 := fun s => (G156 (IntKind.wrap .u64 s.t0)).bind fun z17 => (roomT 8 z17).bind fun z19 => some (.nrm, { s with t3 := [] })
noncomputable def m82_9 : Mo Fr82 := fun s => some (.nrm, { s with t2 := [] })
noncomputable def m82_10 : Mo Fr82 := fun s => some (.nrm, { s with t10 := ((decide (s.t0 < 0)) || (decide (s.t0 > 63))) })
noncomputable def m82_11 : Mo Fr82 := fun s => some (.nrm, s)
noncomputable def M82 : Mo Fr82 := seqM (m82_11) (seqM (seqM (m82_10) (condM (fun s => s.t10) (seqM (m82_9) (retM)) (skipM))) (seqM (m82_8) (seqM (seqM (m82_7) (blockM 0 (loopM (L82_6)))) (seqM (m82_0) (retM)))))
def Spec82 (f : Int → Option (List Int)) : Prop := ∀ (x0 : Int) (r : (List Int)), f x0 = some r → ∃ y0_0, Sl (rI .i64) r y0_0 ∧ ∀ h, run Cl 82 [.int .i64 x0] h = some (.ret (y0_0), h)
theorem Spec82_of {f g : Int → Option (List Int)} (hg : Spec82 g) (h : ∀ x0 r, f x0 = some r → g x0 = some r) : Spec82 f := fun x0 r hr => hg x0 r (h x0 r hr)
theorem R82_0 (pe pr) : Ref Cl P82_0 (Cat [true, true, true, true, false] (bodyOf Tryz.f82)) m82_0 (post P82_1 pe pr) := by
  rintro s ⟨t, h⟩ hp x s' hm
  obtain ⟨w3_0, hl, a3, r3_0⟩ : P82_0' s t h := hp
  unfold m82_0 at hm
  cases hm
  refine ⟨⟨_, _⟩, by simp only [bodyOf, Tryz.f82, Cat, Zs, awanted, aoper, evalO, put, acallOp, abuiltin, Nat.reduceEqDiff, Nat.reduceLT, ofV, ofCell, ↓reduceIte, hl, a3, CP]; exact rfl, ?_⟩
  show P82_1 _ _
  exact ⟨w3_0, by simp [hl], by simp [hl], r3_0.1⟩
theorem R82_1 (pe pr) : Ref Cl P82_2 (Cat [true, true, true, false, true, true, true, true, true, true] (bodyOf Tryz.f82)) m82_1 (post P82_2 pe pr) := by
  rintro s ⟨t, h⟩ hp x s' hm
  obtain ⟨w3_0, hl, a0, a3, r3_0, a15⟩ : P82_2' s t h := hp
  unfold m82_1 at hm
  cases hm
  refine ⟨⟨_, _⟩, by simp only [bodyOf, Tryz.f82, Cat, Zs, awanted, aoper, evalO, put, acallOp, abuiltin, Nat.reduceEqDiff, Nat.reduceLT, ofV, ofCell, ↓reduceIte, hl, a0, a3, a15, CP]; exact rfl, ?_⟩
  show P82_2 _ _
  exact ⟨w3_0, by simp [hl], by simp [a0], by simp [a3], r3_0, by simp [hl]⟩
theorem R82_2 (pe pr) : Ref Cl P82_3 (Cat [true, true, true, false, true, true, true, true, true, false, true, true, true, false] (bodyOf Tryz.f82)) m82_2 (post P82_2 pe pr) := by
  rintro s ⟨t, h⟩ hp x s' hm
  obtain ⟨w3_0, hl, a0, a3, r3_0, a4, a15⟩ : P82_3' s t h := hp
  unfold m82_2 at hm
  have bd7 : abuildSlice Tryz.prog 33 1 [(0, .int .i64 s.t4)] = some ([.int .i64 s.t4], 1) := by kernel_rfl
  have bs8 : Els (rI .i64) [s.t4] [[.int .i64 s.t4]] := (Els.cons rfl Els.nil)
  have sl9 : Sl (rI .i64) [s.t4] (.lst [.int .i64 s.t4] 1 .full) := Sl.lst .full bs8
  have gr10 : ∀ h, Gr (rI .i64) 1 [s.t4] (.lst [.int .i64 s.t4] 1 .full) h := fun h => Gr.full bs8 h
  obtain ⟨z11, hz11, hm⟩ := Option.bind_eq_some_iff.1 hm
  obtain ⟨vu12, hu12, pu12, gu12, nu12, ku12, fu12⟩ := Gr.app (rI_p .i64) r3_0 sl9 hz11
  cases hm
  refine ⟨⟨_, _⟩, by simp only [bodyOf, Tryz.f82, Cat, Zs, awanted, aoper, evalO, put, acallOp, abuiltin, Nat.reduceEqDiff, Nat.reduceLT, ofV, ofCell, ↓reduceIte, hl, a0, a3, a4, a15, CP, bd7, Ty.own_sets_go_32, pu12, Ty.ap33]; exact rfl, ?_⟩
  show P82_2 _ _
  exact ⟨vu12, by simp [hl], by simp [a0], by simp [hl], gu12, by simp [a15]⟩
theorem R82_3 (pe pr) : Ref Cl P82_3 (Cat [true, true, true, false, true, true, true, true, true, false, true, true, false] (bodyOf Tryz.f82)) m82_3 (post P82_4 pe pr) := by
  rintro s ⟨t, h⟩ hp x s' hm
  obtain ⟨w3_0, hl, a0, a3, r3_0, a4, a15⟩ : P82_3' s t h := hp
  unfold m82_3 at hm
  obtain ⟨z15, hz15, hm⟩ := Option.bind_eq_some_iff.1 hm
  have iu16 := shl_v (C := Cl) hz15
  cases hm
  refine ⟨⟨_, _⟩, by simp only [bodyOf, Tryz.f82, Cat, Zs, awanted, aoper, evalO, put, acallOp, abuiltin, Nat.reduceEqDiff, Nat.reduceLT, ofV, ofCell, ↓reduceIte, hl, a0, a3, a4, a15, CP, iu16, Ty.and3]; exact rfl, ?_⟩
  show P82_4 _ _
  exact ⟨w3_0, by simp [hl], by simp [a0], by simp [a3], r3_0, by simp [a4], by simp [a15], by simp [hl]⟩
theorem R82_4 (pe pr) : Ref Cl P82_2 (Cat [true, true, true, false, true, true, true, true, true, false, true, false] (bodyOf Tryz.f82)) m82_4 (post P82_3 pe pr) := by
  rintro s ⟨t, h⟩ hp x s' hm
  obtain ⟨w3_0, hl, a0, a3, r3_0, a15⟩ : P82_2' s t h := hp
  unfold m82_4 at hm
  cases hm
  refine ⟨⟨_, _⟩, by simp only [bodyOf, Tryz.f82, Cat, Zs, awanted, aoper, evalO, put, acallOp, abuiltin, Nat.reduceEqDiff, Nat.reduceLT, ofV, ofCell, ↓reduceIte, hl, a0, a3, a15, CP]; exact rfl, ?_⟩
  show P82_3 _ _
  exact ⟨w3_0, by simp [hl], by simp [a0], by simp [a3], r3_0, by simp [hl], by simp [a15]⟩
theorem R82_5 (pe pr) : Ref Cl P82_2 (Cat [true, true, true, false, true, true, true, false] (bodyOf Tryz.f82)) m82_5 (post P82_5 pe pr) := by
  rintro s ⟨t, h⟩ hp x s' hm
  obtain ⟨w3_0, hl, a0, a3, r3_0, a15⟩ : P82_2' s t h := hp
  unfold m82_5 at hm
  cases hm
  refine ⟨⟨_, _⟩, by simp only [bodyOf, Tryz.f82, Cat, Zs, awanted, aoper, evalO, put, acallOp, abuiltin, Nat.reduceEqDiff, Nat.reduceLT, ofV, ofCell, ↓reduceIte, hl, a0, a3, a15, CP]; exact rfl, ?_⟩
  show P82_5 _ _
  exact ⟨w3_0, by simp [hl], by simp [a0], by simp [a3], r3_0, by simp [a15], by simp [hl]⟩
theorem R82_7 (pe pr) : Ref Cl P82_6 (Cat [true, true, true, false, false] (bodyOf Tryz.f82)) m82_7 (post P82_2 pe pr) := by
  rintro s ⟨t, h⟩ hp x s' hm
  obtain ⟨w3_0, hl, a0, a3, r3_0⟩ : P82_6' s t h := hp
  unfold m82_7 at hm
  cases hm
  refine ⟨⟨_, _⟩, by simp only [bodyOf, Tryz.f82, Cat, Zs, awanted, aoper, evalO, put, acallOp, abuiltin, Nat.reduceEqDiff, Nat.reduceLT, ofV, ofCell, ↓reduceIte, hl, a0, a3, CP]; exact rfl, ?_⟩
  show P82_2 _ _
  exact ⟨w3_0, by simp [hl], by simp [a0], by simp [a3], r3_0, by simp [hl]⟩
theorem R82_8 (pe pr) : Ref Cl P82_7 (Cat [true, true, false] (bodyOf Tryz.f82)) m82_8 (post P82_6 pe pr) := by
  rintro s ⟨t, h⟩ hp x s' hm
  obtain ⟨hl, a0⟩ : P82_7' s t h := hp
  unfold m82_8 at hm
  obtain ⟨z23, hz23, hm⟩ := Option.bind_eq_some_iff.1 hm
  have iu24 := G156_spec (IntKind.wrap .u64 s.t0)  _ hz23
  obtain ⟨z25, hz25, hm⟩ := Option.bind_eq_some_iff.1 hm
  have mu26 := mk_room (C := Cl) (t := 33) (e := 3) (h := h) Ty.un33 Ty.in3 Ty.ze3 rfl (by decide) Ty.own_sets_go_29 hz25
  obtain ⟨H27, eH27⟩ : ∃ x : AHeap, x = h.new (.tok 1) := ⟨_, rfl⟩
  rw [← eH27] at mu26
  have k28 : Gr (rI .i64) 1 [] (.lst [] 0 (.tok h.next)) H27 := by rw [eH27]; exact Gr.room h
  cases hm
  refine ⟨⟨_, _⟩, by simp only [bodyOf, Tryz.f82, Cat, Zs, awanted, aoper, evalO, put, acallOp, abuiltin, Nat.reduceEqDiff, Nat.reduceLT, ofV, ofCell, ↓reduceIte, hl, a0, CP, Ty.cv3_213, iu24, mu26]; exact rfl, ?_⟩
  show P82_6 _ _
  exact ⟨(.lst [] 0 (.tok h.next) : AVal), by simp [hl], by simp [a0], by simp [hl], k28⟩
theorem R82_9 (pe pr) : Ref Cl P82_8 (Cat [true, false, true, false, false] (bodyOf Tryz.f82)) m82_9 (post P82_1 pe pr) := by
  rintro s ⟨t, h⟩ hp x s' hm
  obtain ⟨hl, _⟩ : P82_8' s t h := hp
  unfold m82_9 at hm
  cases hm
  refine ⟨⟨_, _⟩, by simp only [bodyOf, Tryz.f82, Cat, Zs, awanted, aoper, evalO, put, acallOp, abuiltin, Nat.reduceEqDiff, Nat.reduceLT, ofV, ofCell, ↓reduceIte, hl, CP]; exact rfl, ?_⟩
  show P82_1 _ _
  exact ⟨(.nilSl : AVal), by simp [hl], by simp [hl], Sl.nil⟩
theorem R82_10 (pe pr) : Ref Cl P82_7 (Cat [true, false, false] (bodyOf Tryz.f82)) m82_10 (post P82_9 pe pr) := by
  rintro s ⟨t, h⟩ hp x s' hm
  obtain ⟨hl, a0⟩ : P82_7' s t h := hp
  unfold m82_10 at hm
  cases hb29 : decide (s.t0 < 0) with
  | true =>
    all_goals (
      try simp only [hb29, Zb] at hm
      cases hm
      refine ⟨⟨_, _⟩, by simp only [bodyOf, Tryz.f82, Cat, Zs, awanted, aoper, evalO, put, acallOp, abuiltin, Nat.reduceEqDiff, Nat.reduceLT, ofV, ofCell, ↓reduceIte, hl, a0, CP, hb29]; exact rfl, ?_⟩
      show P82_9 _ _
      exact ⟨by simp [hl], by simp [a0], by simp [hl, hb29]⟩)
  | false =>
    all_goals (
      try simp only [hb29, Zb] at hm
      cases hm
      refine ⟨⟨_, _⟩, by simp only [bodyOf, Tryz.f82, Cat, Zs, awanted, aoper, evalO, put, acallOp, abuiltin, Nat.reduceEqDiff, Nat.reduceLT, ofV, ofCell, ↓reduceIte, hl, a0, CP, hb29]; exact rfl, ?_⟩
      show P82_9 _ _
      exact ⟨by simp [hl], by simp [a0], by simp [hl, hb29]⟩)
theorem R82_11 (pe pr) : Ref Cl P82_7 (Cat [false] (bodyOf Tryz.f82)) m82_11 (post P82_7 pe pr) := by
  rintro s ⟨t, h⟩ hp x s' hm
  obtain ⟨hl, a0⟩ : P82_7' s t h := hp
  unfold m82_11 at hm
  cases hm
  refine ⟨⟨_, _⟩, by simp only [bodyOf, Tryz.f82, Cat, Zs, awanted, aoper, evalO, put, acallOp, abuiltin, Nat.reduceEqDiff, Nat.reduceLT, ofV, ofCell, ↓reduceIte, hl, a0, CP]; exact rfl, ?_⟩
  show P82_7 _ _
  exact ⟨by simp [hl], by simp [a0]⟩
theorem B82 : Ref Cl P82_7 (bodyOf Tryz.f82) (M82) (post P82_1 (fun _ _ _ => False) P82_1) := by
  rw [show bodyOf Tryz.f82 = .seq (Cat [false] (bodyOf Tryz.f82)) (.seq (.seq (Cat [true, false, false] (bodyOf Tryz.f82)) (.cond (.tmp 10) (.seq (Cat [true, false, true, false, false] (bodyOf Tryz.f82)) (.ret)) (.skip))) (.seq (Cat [true, true, false] (bodyOf Tryz.f82)) (.seq (.seq (Cat [true, true, true, false, false] (bodyOf Tryz.f82)) (.block 0 (.loop (.seq (Cat [true, true, true, false, true, true, true, false] (bodyOf Tryz.f82)) (.seq (.cond (.tmp 16) (.skip) (.exit 0)) (.seq (.block 1 (.seq (Cat [true, true, true, false, true, true, true, true, true, false, true, false] (bodyOf Tryz.f82)) (.seq (Cat [true, true, true, false, true, true, true, true, true, false, true, true, false] (bodyOf Tryz.f82)) (.cond (.tmp 22) (Cat [true, true, true, false, true, true, true, true, true, false, true, true, true, false] (bodyOf Tryz.f82)) (.skip))))) (Cat [true, true, true, false, true, true, true, true, true, true] (bodyOf Tryz.f82)))))))) (.seq (Cat [true, true, true, true, false] (bodyOf Tryz.f82)) (.ret))))) from rfl]
  unfold M82
  exact ref_seq (R82_11 _ _) (ref_seq (ref_seq (R82_10 _ _) (ref_cond (P := P82_9) (c := fun s => s.t10) (fun s st hp => by obtain ⟨hl, a0, a10⟩ := (hp : P82_9' s st.tmps st.h); simp only [evalO, a10, Option.getD_some]) (ref_weak (P' := P82_8) (fun s st hp => by obtain ⟨hl, a0, a10⟩ := (hp : P82_9' s st.tmps st.h); exact (⟨hl, trivial⟩ : P82_8' s st.tmps st.h)) (ref_seq (R82_9 _ _) (ref_ret (fun s st hp => hp)))) (ref_weak (P' := P82_7) (fun s st hp => by obtain ⟨hl, a0, a10⟩ := (hp : P82_9' s st.tmps st.h); exact (⟨hl, a0⟩ : P82_7' s st.tmps st.h)) (ref_skip (fun s st hp => hp))))) (ref_seq (R82_8 _ _) (ref_seq (ref_seq (R82_7 _ _) (ref_block (ref_loop (P := P82_2) (ref_weak (P' := P82_2) (fun s st hp => hp) (ref_seq (R82_5 _ _) (ref_seq (ref_cond (P := P82_5) (c := fun s => s.t16) (fun s st hp => by obtain ⟨w3_0, hl, a0, a3, r3_0, a15, a16⟩ := (hp : P82_5' s st.tmps st.h); simp only [evalO, a16, Option.getD_some]) (ref_weak (P' := P82_2) (fun s st hp => by obtain ⟨w3_0, hl, a0, a3, r3_0, a15, a16⟩ := (hp : P82_5' s st.tmps st.h); exact (⟨w3_0, hl, a0, a3, r3_0, a15⟩ : P82_2' s st.tmps st.h)) (ref_skip (fun s st hp => hp))) (ref_weak (P' := P82_0) (fun s st hp => by obtain ⟨w3_0, hl, a0, a3, r3_0, a15, a16⟩ := (hp : P82_5' s st.tmps st.h); exact (⟨w3_0, hl, a3, r3_0⟩ : P82_0' s st.tmps st.h)) (ref_exit (fun s st hp => hp)))) (ref_seq (ref_block (ref_seq (R82_4 _ _) (ref_seq (R82_3 _ _) (ref_cond (P := P82_4) (c := fun s => s.t22) (fun s st hp => by obtain ⟨w3_0, hl, a0, a3, r3_0, a4, a15, a22⟩ := (hp : P82_4' s st.tmps st.h); simp only [evalO, a22, Option.getD_some]) (ref_weak (P' := P82_3) (fun s st hp => by obtain ⟨w3_0, hl, a0, a3, r3_0, a4, a15, a22⟩ := (hp : P82_4' s st.tmps st.h); exact (⟨w3_0, hl, a0, a3, r3_0, a4, a15⟩ : P82_3' s st.tmps st.h)) (R82_2 _ _)) (ref_weak (P' := P82_2) (fun s st hp => by obtain ⟨w3_0, hl, a0, a3, r3_0, a4, a15, a22⟩ := (hp : P82_4' s st.tmps st.h); exact (⟨w3_0, hl, a0, a3, r3_0, a15⟩ : P82_2' s st.tmps st.h)) (ref_skip (fun s st hp => hp))))))) (R82_1 _ _)))))))) (ref_seq (R82_0 _ _) (ref_ret (fun s st hp => hp))))))
noncomputable def G82 (x0 : Int) : Option (List Int) := match M82 { (default : Fr82) with t0 := x0 } with
  | some (.nrm, s) => some s.t2
  | some (.ret, s) => some s.t2
  | _ => none
theorem G82_spec : Spec82 (G82) := by
  intro x0 r hr
  unfold G82 at hr
  cases hm : M82 { (default : Fr82) with t0 := x0 } with
  | none => rw [hm] at hr; cases hr
  | some q =>
    obtain ⟨x, s⟩ := q
    rw [hm] at hr
    have hx : x = .nrm ∨ x = .ret := by cases x <;> first | exact .inl rfl | exact .inr rfl | cases hr
    have hr : s.t2 = r := by cases x <;> first | exact Option.some.inj hr | cases hr
    subst hr
    have hp0 : P82_7' ({ (default : Fr82) with t0 := x0 }) (slots Tryz.f82 (stripL [.int .i64 x0])) bare := ⟨rfl, rfl⟩
    obtain ⟨v, hR, hrun⟩ := run_of_ref (C := Cl) (f := 82) (fn := Tryz.f82) Tryz.func82 rfl rfl rfl rfl (args := [.int .i64 x0]) (by simp only [refsL, refs, List.append_nil]) (B82) (s0 := { (default : Fr82) with t0 := x0 }) hp0 hm hx (R := fun v => ∃ y0_0, Sl (rI .i64) s.t2 y0_0 ∧ v = y0_0) (by
      have key : ∀ st : ASt, P82_1 s st → ∃ vs v, aresults Cl Tryz.f82.results.toList st = some vs ∧ Nrm [] st.h (packRes vs) v ∧ (fun v => ∃ y0_0, Sl (rI .i64) s.t2 y0_0 ∧ v = y0_0) v := by
        intro st hp
        obtain ⟨w2_0, hl, a2, r2_0⟩ := (hp : P82_1' s st.tmps st.h)
        exact ⟨[w2_0], _, by simp only [show Tryz.f82.results.toList = [ResultVar.tmp 2] from rfl, aresults, ares1, CP, a2, Option.getD_some], (Nrm.of (w := w2_0) (by simp only [refsL, refs, List.append_nil, r2_0.refs (rI_p .i64)])), ⟨strip w2_0, r2_0.strip (rI_p .i64), rfl⟩⟩
      intro st hq
      rcases hx with rfl | rfl
      · exact key st hq
      · exact key st hq)
    obtain ⟨z0, g0, hv⟩ := hR
    exact ⟨z0, g0, fun h => by rw [hrun h, hv]⟩
/-! ### caisson/bind.nodes -/
def Spec66 (f : TestT → Option Int) : Prop := ∀ (x0 : TestT) (vx0_0 : AVal) (_ : rTestT x0 [vx0_0]) (r : Int), f x0 = some r → ∀ h, run Cl 66 [vx0_0] h = some (.ret (.int .i64 r), h)
theorem Spec66_of {f g : TestT → Option Int} (hg : Spec66 g) (h : ∀ x0 r, f x0 = some r → g x0 = some r) : Spec66 f := fun x0 v0_ w0_ r hr => hg x0 v0_ w0_ r (h x0 r hr)
/-! ### caisson/bind.reads -/
structure Fr78 where
  t0 : TestT
  t2 : Int
  t3 : Bool
  t4 : Int
  t5 : Bool
  t6 : Int
  t7 : Bool
  t8 : Bool
  t11 : Bool
  t47 : Bool
instance : Inhabited Fr78 := ⟨⟨default, 0, false, 0, false, 0, false, false, false, false⟩⟩
def P78_0' (s : Fr78) (t : List AVal) (h : AHeap) : Prop := ∃ w0_0, t.length = 58 ∧ t[0]? = some w0_0 ∧ rTestT s.t0 [w0_0]
def P78_0 (s : Fr78) (st : ASt) : Prop := P78_0' s st.tmps st.h
def P78_1' (s : Fr78) (t : List AVal) (h : AHeap) : Prop := t.length = 58 ∧ t[2]? = some (.int .i64 s.t2) ∧ t[3]? = some (.bool s.t3)
def P78_1 (s : Fr78) (st : ASt) : Prop := P78_1' s st.tmps st.h
def P78_2' (s : Fr78) (t : List AVal) (h : AHeap) : Prop := t.length = 58 ∧ True
def P78_2 (s : Fr78) (st : ASt) : Prop := P78_2' s st.tmps st.h
def P78_3' (s : Fr78) (t : List AVal) (h : AHeap) : Prop := t.length = 58 ∧ t[4]? = some (.int .i64 s.t4) ∧ t[5]? = some (.bool s.t5) ∧ t[6]? = some (.int .i64 s.t6) ∧ t[7]? = some (.bool s.t7)
def P78_3 (s : Fr78) (st : ASt) : Prop := P78_3' s st.tmps st.h
def P78_4' (s : Fr78) (t : List AVal) (h : AHeap) : Prop := ∃ w0_0, t.length = 58 ∧ t[0]? = some w0_0 ∧ rTestT s.t0 [w0_0] ∧ t[4]? = some (.int .i64 s.t4) ∧ t[5]? = some (.bool s.t5)
def P78_4 (s : Fr78) (st : ASt) : Prop := P78_4' s st.tmps st.h
def P78_5' (s : Fr78) (t : List AVal) (h : AHeap) : Prop := ∃ w0_0, t.length = 58 ∧ t[0]? = some w0_0 ∧ rTestT s.t0 [w0_0] ∧ t[47]? = some (.bool s.t47)
def P78_5 (s : Fr78) (st : ASt) : Prop := P78_5' s st.tmps st.h
def P78_6' (s : Fr78) (t : List AVal) (h : AHeap) : Prop := ∃ w0_0, t.length = 58 ∧ t[0]? = some w0_0 ∧ rTestT s.t0 [w0_0] ∧ t[11]? = some (.bool s.t11)
def P78_6 (s : Fr78) (st : ASt) : Prop := P78_6' s st.tmps st.h
def P78_7' (s : Fr78) (t : List AVal) (h : AHeap) : Prop := ∃ w0_0, t.length = 58 ∧ t[0]? = some w0_0 ∧ rTestT s.t0 [w0_0] ∧ t[8]? = some (.bool s.t8)
def P78_7 (s : Fr78) (st : ASt) : Prop := P78_7' s st.tmps st.h
noncomputable def m78_0 (rec78 : TestT → Option (Int × Bool)) : Mo Fr78 := fun s => (s.t0.get).bind fun n1 => (G41 [n1.Index]).bind fun z7 => some (.nrm, { s with t2 := z7, t3 := false })
noncomputable def m78_1 (rec78 : TestT → Option (Int × Bool)) : Mo Fr78 := fun s => some (.nrm, { s with t2 := 0, t3 := false })
noncomputable def m78_2 (rec78 : TestT → Option (Int × Bool)) : Mo Fr78 := fun s => some (.nrm, { s with t2 := bits .or .i64 s.t4 s.t6, t3 := (s.t5 || s.t7) })
noncomputable def m78_3 (rec78 : TestT → Option (Int × Bool)) : Mo Fr78 := fun s => (s.t0.get).bind fun n18 => (rec78 n18.Right).bind fun z20 => some (.nrm, { s with t6 := z20.1, t7 := z20.2 })
noncomputable def m78_4 (rec78 : TestT → Option (Int × Bool)) : Mo Fr78 := fun s => (s.t0.get).bind fun n26 => (rec78 n26.Left).bind fun z28 => some (.nrm, { s with t4 := z28.1, t5 := z28.2 })
noncomputable def m78_5 (rec78 : TestT → Option (Int × Bool)) : Mo Fr78 := fun s => some (.nrm, { s with t2 := 0, t3 := true })
noncomputable def m78_6 (rec78 : TestT → Option (Int × Bool)) : Mo Fr78 := fun s => (s.t0.get).bind fun n34 => some (.nrm, { s with t47 := n34.Meas })
noncomputable def m78_7 (rec78 : TestT → Option (Int × Bool)) : Mo Fr78 := fun s => (s.t0.get).bind fun n38 => some (.nrm, { s with t11 := ((n38.Kind != 4) && (n38.Kind != 5)) })
noncomputable def m78_8 (rec78 : TestT → Option (Int × Bool)) : Mo Fr78 := fun s => some (.nrm, { s with t8 := s.t0.isNil })
noncomputable def m78_9 (rec78 : TestT → Option (Int × Bool)) : Mo Fr78 := fun s => some (.nrm, s)
noncomputable def M78 (rec78 : TestT → Option (Int × Bool)) : Mo Fr78 := seqM (m78_9 rec78) (seqM (blockM 0 (seqM (m78_8 rec78) (condM (fun s => s.t8) (seqM (m78_1 rec78) (retM)) (seqM (m78_7 rec78) (condM (fun s => s.t11) (seqM (m78_4 rec78) (seqM (m78_3 rec78) (seqM (m78_2 rec78) (retM)))) (seqM (m78_6 rec78) (condM (fun s => s.t47) (seqM (m78_5 rec78) (retM)) (skipM)))))))) (seqM (m78_0 rec78) (retM)))
def Spec78 (f : TestT → Option (Int × Bool)) : Prop := ∀ (x0 : TestT) (vx0_0 : AVal) (_ : rTestT x0 [vx0_0]) (r : (Int × Bool)), f x0 = some r → ∀ h, run Cl 78 [vx0_0] h = some (.ret (.tup [.int .i64 r.1, .bool r.2]), h)
theorem Spec78_of {f g : TestT → Option (Int × Bool)} (hg : Spec78 g) (h : ∀ x0 r, f x0 = some r → g x0 = some r) : Spec78 f := fun x0 v0_ w0_ r hr => hg x0 v0_ w0_ r (h x0 r hr)
theorem R78_0 {rec78 : TestT → Option (Int × Bool)} (hrec78 : Spec78 rec78) (pe pr) : Ref Cl P78_0 (Cat [true, true, false] (bodyOf Tryz.f78)) (m78_0 rec78) (post P78_1 pe pr) := by
  rintro s ⟨t, h⟩ hp x s' hm
  obtain ⟨w0_0, hl, a0, r0_0⟩ : P78_0' s t h := hp
  unfold m78_0 at hm
  obtain ⟨n9, hn9, hm⟩ := Option.bind_eq_some_iff.1 hm
  obtain ⟨bu10_0, bu10_1, bu10_2, bu10_3, qu10, gu10_0, gu10_1, gu10_2, gu10_3⟩ := rTestT_get r0_0 hn9
  subst qu10
  have bd11 : abuildSlice Tryz.prog 33 1 [(0, .int .i64 n9.Index)] = some ([.int .i64 n9.Index], 1) := by kernel_rfl
  have bs12 : Els (rI .i64) [n9.Index] [[.int .i64 n9.Index]] := (Els.cons rfl Els.nil)
  have sl13 : Sl (rI .i64) [n9.Index] (.lst [.int .i64 n9.Index] 1 .full) := Sl.lst .full bs12
  have gr14 : ∀ h, Gr (rI .i64) 1 [n9.Index] (.lst [.int .i64 n9.Index] 1 .full) h := fun h => Gr.full bs12 h
  obtain ⟨z15, hz15, hm⟩ := Option.bind_eq_some_iff.1 hm
  have iu16 := G41_spec [n9.Index] _ sl13 _ hz15
  cases hm
  refine ⟨⟨_, _⟩, by simp only [bodyOf, Tryz.f78, Cat, Zs, awanted, aoper, evalO, put, acallOp, abuiltin, Nat.reduceEqDiff, Nat.reduceLT, ofV, ofCell, ↓reduceIte, hl, a0, CP, Ty.fa57_4, dropCells, List.drop_succ_cons, List.drop_zero, Ty.ld3, ld_ip, ofc1, List.drop_succ_cons, List.drop_zero, bd11, Ty.own_bind_go_270, iu16]; exact rfl, ?_⟩
  show P78_1 _ _
  exact ⟨by simp [hl], by simp [hl], by simp [hl]⟩
theorem R78_1 {rec78 : TestT → Option (Int × Bool)} (hrec78 : Spec78 rec78) (pe pr) : Ref Cl P78_2 (Cat [true, false, true, true, false, false] (bodyOf Tryz.f78)) (m78_1 rec78) (post P78_1 pe pr) := by
  rintro s ⟨t, h⟩ hp x s' hm
  obtain ⟨hl, _⟩ : P78_2' s t h := hp
  unfold m78_1 at hm
  cases hm
  refine ⟨⟨_, _⟩, by simp only [bodyOf, Tryz.f78, Cat, Zs, awanted, aoper, evalO, put, acallOp, abuiltin, Nat.reduceEqDiff, Nat.reduceLT, ofV, ofCell, ↓reduceIte, hl, CP]; exact rfl, ?_⟩
  show P78_1 _ _
  exact ⟨by simp [hl], by simp [hl], by simp [hl]⟩
theorem R78_2 {rec78 : TestT → Option (Int × Bool)} (hrec78 : Spec78 rec78) (pe pr) : Ref Cl P78_3 (Cat [true, false, true, true, true, true, false, true, true, false] (bodyOf Tryz.f78)) (m78_2 rec78) (post P78_1 pe pr) := by
  rintro s ⟨t, h⟩ hp x s' hm
  obtain ⟨hl, a4, a5, a6, a7⟩ : P78_3' s t h := hp
  unfold m78_2 at hm
  cases hb17 : s.t5 with
  | true =>
    all_goals (
      try simp only [hb17, Zb] at hm
      cases hm
      refine ⟨⟨_, _⟩, by simp only [bodyOf, Tryz.f78, Cat, Zs, awanted, aoper, evalO, put, acallOp, abuiltin, Nat.reduceEqDiff, Nat.reduceLT, ofV, ofCell, ↓reduceIte, hl, a4, a5, a6, a7, CP, Ty.or3, hb17]; exact rfl, ?_⟩
      show P78_1 _ _
      exact ⟨by simp [hl], by simp [hl, hb17], by simp [hl, hb17]⟩)
  | false =>
    all_goals (
      try simp only [hb17, Zb] at hm
      cases hm
      refine ⟨⟨_, _⟩, by simp only [bodyOf, Tryz.f78, Cat, Zs, awanted, aoper, evalO, put, acallOp, abuiltin, Nat.reduceEqDiff, Nat.reduceLT, ofV, ofCell, ↓reduceIte, hl, a4, a5, a6, a7, CP, Ty.or3, hb17]; exact rfl, ?_⟩
      show P78_1 _ _
      exact ⟨by simp [hl], by simp [hl, hb17], by simp [hl, hb17]⟩)
theorem R78_3 {rec78 : TestT → Option (Int × Bool)} (hrec78 : Spec78 rec78) (pe pr) : Ref Cl P78_4 (Cat [true, false, true, true, true, true, false, true, false] (bodyOf Tryz.f78)) (m78_3 rec78) (post P78_3 pe pr) := by
  rintro s ⟨t, h⟩ hp x s' hm
  obtain ⟨w0_0, hl, a0, r0_0, a4, a5⟩ : P78_4' s t h := hp
  unfold m78_3 at hm
  obtain ⟨n22, hn22, hm⟩ := Option.bind_eq_some_iff.1 hm
  obtain ⟨bu23_0, bu23_1, bu23_2, bu23_3, qu23, gu23_0, gu23_1, gu23_2, gu23_3⟩ := rTestT_get r0_0 hn22
  subst qu23
  obtain ⟨z24, hz24, hm⟩ := Option.bind_eq_some_iff.1 hm
  have iu25 := hrec78 n22.Right _ gu23_1 _ hz24
  cases hm
  refine ⟨⟨_, _⟩, by simp only [bodyOf, Tryz.f78, Cat, Zs, awanted, aoper, evalO, put, acallOp, abuiltin, Nat.reduceEqDiff, Nat.reduceLT, ofV, ofCell, ↓reduceIte, hl, a0, a4, a5, CP, Ty.fa57_2, dropCells, List.drop_succ_cons, List.drop_zero, Ty.ld32, ld_ip, ofc1, List.drop_succ_cons, List.drop_zero, iu25]; exact rfl, ?_⟩
  show P78_3 _ _
  exact ⟨by simp [hl], by simp [a4], by simp [a5], by simp [hl], by simp [hl]⟩
theorem R78_4 {rec78 : TestT → Option (Int × Bool)} (hrec78 : Spec78 rec78) (pe pr) : Ref Cl P78_0 (Cat [true, false, true, true, true, true, false, false] (bodyOf Tryz.f78)) (m78_4 rec78) (post P78_4 pe pr) := by
  rintro s ⟨t, h⟩ hp x s' hm
  obtain ⟨w0_0, hl, a0, r0_0⟩ : P78_0' s t h := hp
  unfold m78_4 at hm
  obtain ⟨n30, hn30, hm⟩ := Option.bind_eq_some_iff.1 hm
  obtain ⟨bu31_0, bu31_1, bu31_2, bu31_3, qu31, gu31_0, gu31_1, gu31_2, gu31_3⟩ := rTestT_get r0_0 hn30
  subst qu31
  obtain ⟨z32, hz32, hm⟩ := Option.bind_eq_some_iff.1 hm
  have iu33 := hrec78 n30.Left _ gu31_0 _ hz32
  cases hm
  refine ⟨⟨_, _⟩, by simp only [bodyOf, Tryz.f78, Cat, Zs, awanted, aoper, evalO, put, acallOp, abuiltin, Nat.reduceEqDiff, Nat.reduceLT, ofV, ofCell, ↓reduceIte, hl, a0, CP, Ty.fa57_1, dropCells, List.drop_succ_cons, List.drop_zero, Ty.ld32, ld_ip, ofc1, List.drop_succ_cons, List.drop_zero, iu33]; exact rfl, ?_⟩
  show P78_4 _ _
  exact ⟨(.iptr [.int .i64 n30.Kind, bu31_0, bu31_1, .bool n30.Meas, .int .i64 n30.Index, .int .i64 n30.Op, bu31_2, bu31_3] : AVal), by simp [hl], by simp [a0], r0_0, by simp [hl], by simp [hl]⟩
theorem R78_5 {rec78 : TestT → Option (Int × Bool)} (hrec78 : Spec78 rec78) (pe pr) : Ref Cl P78_2 (Cat [true, false, true, true, true, true, true, true, false, false] (bodyOf Tryz.f78)) (m78_5 rec78) (post P78_1 pe pr) := by
  rintro s ⟨t, h⟩ hp x s' hm
  obtain ⟨hl, _⟩ : P78_2' s t h := hp
  unfold m78_5 at hm
  cases hm
  refine ⟨⟨_, _⟩, by simp only [bodyOf, Tryz.f78, Cat, Zs, awanted, aoper, evalO, put, acallOp, abuiltin, Nat.reduceEqDiff, Nat.reduceLT, ofV, ofCell, ↓reduceIte, hl, CP]; exact rfl, ?_⟩
  show P78_1 _ _
  exact ⟨by simp [hl], by simp [hl], by simp [hl]⟩
theorem R78_6 {rec78 : TestT → Option (Int × Bool)} (hrec78 : Spec78 rec78) (pe pr) : Ref Cl P78_0 (Cat [true, false, true, true, true, true, true, false] (bodyOf Tryz.f78)) (m78_6 rec78) (post P78_5 pe pr) := by
  rintro s ⟨t, h⟩ hp x s' hm
  obtain ⟨w0_0, hl, a0, r0_0⟩ : P78_0' s t h := hp
  unfold m78_6 at hm
  obtain ⟨n36, hn36, hm⟩ := Option.bind_eq_some_iff.1 hm
  obtain ⟨bu37_0, bu37_1, bu37_2, bu37_3, qu37, gu37_0, gu37_1, gu37_2, gu37_3⟩ := rTestT_get r0_0 hn36
  subst qu37
  cases hm
  refine ⟨⟨_, _⟩, by simp only [bodyOf, Tryz.f78, Cat, Zs, awanted, aoper, evalO, put, acallOp, abuiltin, Nat.reduceEqDiff, Nat.reduceLT, ofV, ofCell, ↓reduceIte, hl, a0, CP, Ty.fa57_3, dropCells, List.drop_succ_cons, List.drop_zero, Ty.ld4, ld_ip, ofc1, List.drop_succ_cons, List.drop_zero]; exact rfl, ?_⟩
  show P78_5 _ _
  exact ⟨(.iptr [.int .i64 n36.Kind, bu37_0, bu37_1, .bool n36.Meas, .int .i64 n36.Index, .int .i64 n36.Op, bu37_2, bu37_3] : AVal), by simp [hl], by simp [a0], r0_0, by simp [hl]⟩
theorem R78_7 {rec78 : TestT → Option (Int × Bool)} (hrec78 : Spec78 rec78) (pe pr) : Ref Cl P78_0 (Cat [true, false, true, true, true, false] (bodyOf Tryz.f78)) (m78_7 rec78) (post P78_6 pe pr) := by
  rintro s ⟨t, h⟩ hp x s' hm
  obtain ⟨w0_0, hl, a0, r0_0⟩ : P78_0' s t h := hp
  unfold m78_7 at hm
  obtain ⟨n40, hn40, hm⟩ := Option.bind_eq_some_iff.1 hm
  obtain ⟨bu41_0, bu41_1, bu41_2, bu41_3, qu41, gu41_0, gu41_1, gu41_2, gu41_3⟩ := rTestT_get r0_0 hn40
  subst qu41
  cases hb42 : (n40.Kind != 4) with
  | true =>
    all_goals (
      try simp only [hb42, Zb] at hm
      cases hm
      refine ⟨⟨_, _⟩, by simp only [bodyOf, Tryz.f78, Cat, Zs, awanted, aoper, evalO, put, acallOp, abuiltin, Nat.reduceEqDiff, Nat.reduceLT, ofV, ofCell, ↓reduceIte, hl, a0, CP, Ty.fa57_0, dropCells, List.drop_succ_cons, List.drop_zero, Ty.ld3, ld_ip, ofc1, List.drop_succ_cons, List.drop_zero, hb42]; exact rfl, ?_⟩
      show P78_6 _ _
      exact ⟨(.iptr [.int .i64 n40.Kind, bu41_0, bu41_1, .bool n40.Meas, .int .i64 n40.Index, .int .i64 n40.Op, bu41_2, bu41_3] : AVal), by simp [hl], by simp [a0], r0_0, by simp [hl, hb42]⟩)
  | false =>
    all_goals (
      try simp only [hb42, Zb] at hm
      cases hm
      refine ⟨⟨_, _⟩, by simp only [bodyOf, Tryz.f78, Cat, Zs, awanted, aoper, evalO, put, acallOp, abuiltin, Nat.reduceEqDiff, Nat.reduceLT, ofV, ofCell, ↓reduceIte, hl, a0, CP, Ty.fa57_0, dropCells, List.drop_succ_cons, List.drop_zero, Ty.ld3, ld_ip, ofc1, List.drop_succ_cons, List.drop_zero, hb42]; exact rfl, ?_⟩
      show P78_6 _ _
      exact ⟨(.iptr [.int .i64 n40.Kind, bu41_0, bu41_1, .bool n40.Meas, .int .i64 n40.Index, .int .i64 n40.Op, bu41_2, bu41_3] : AVal), by simp [hl], by simp [a0], r0_0, by simp [hl, hb42]⟩)
theorem R78_8 {rec78 : TestT → Option (Int × Bool)} (hrec78 : Spec78 rec78) (pe pr) : Ref Cl P78_0 (Cat [true, false, true, false] (bodyOf Tryz.f78)) (m78_8 rec78) (post P78_7 pe pr) := by
  rintro s ⟨t, h⟩ hp x s' hm
  obtain ⟨w0_0, hl, a0, r0_0⟩ : P78_0' s t h := hp
  unfold m78_8 at hm
  cases hb43 : s.t0.isNil with
  | true =>
    all_goals (
      try simp only [hb43, Zb] at hm
      obtain ⟨_, qz44⟩ | ⟨qz44, _⟩ := rTestT_nil r0_0
      rotate_left
      · rw [hb43] at qz44; cases qz44
      have z44 : ∀ (xo : Operand) (h : AHeap), abin Cl .eql 32 xo (.const (.pointer none)) h (w0_0) .nilPtr = some (.bool true) := fun xo h => by rw [qz44]; exact Ty.eqn32 xo h
      cases hm
      refine ⟨⟨_, _⟩, by simp only [bodyOf, Tryz.f78, Cat, Zs, awanted, aoper, evalO, put, acallOp, abuiltin, Nat.reduceEqDiff, Nat.reduceLT, ofV, ofCell, ↓reduceIte, hl, a0, CP, z44, hb43]; exact rfl, ?_⟩
      show P78_7 _ _
      exact ⟨w0_0, by simp [hl], by simp [a0], r0_0, by simp [hl, hb43]⟩)
  | false =>
    all_goals (
      try simp only [hb43, Zb] at hm
      obtain ⟨qz45, _⟩ | ⟨_, csz45, qz45⟩ := rTestT_nil r0_0
      · rw [hb43] at qz45; cases qz45
      have z45 : ∀ (xo yo : Operand) (h : AHeap), abin Cl .eql 32 xo yo h (w0_0) .nilPtr = some (.bool false) := fun xo yo h => by rw [qz45]; exact Ty.eqp32 xo yo h _
      clear qz45
      cases hm
      refine ⟨⟨_, _⟩, by simp only [bodyOf, Tryz.f78, Cat, Zs, awanted, aoper, evalO, put, acallOp, abuiltin, Nat.reduceEqDiff, Nat.reduceLT, ofV, ofCell, ↓reduceIte, hl, a0, CP, z45, hb43]; exact rfl, ?_⟩
      show P78_7 _ _
      exact ⟨w0_0, by simp [hl], by simp [a0], r0_0, by simp [hl, hb43]⟩)
theorem R78_9 {rec78 : TestT → Option (Int × Bool)} (hrec78 : Spec78 rec78) (pe pr) : Ref Cl P78_0 (Cat [false] (bodyOf Tryz.f78)) (m78_9 rec78) (post P78_0 pe pr) := by
  rintro s ⟨t, h⟩ hp x s' hm
  obtain ⟨w0_0, hl, a0, r0_0⟩ : P78_0' s t h := hp
  unfold m78_9 at hm
  cases hm
  refine ⟨⟨_, _⟩, by simp only [bodyOf, Tryz.f78, Cat, Zs, awanted, aoper, evalO, put, acallOp, abuiltin, Nat.reduceEqDiff, Nat.reduceLT, ofV, ofCell, ↓reduceIte, hl, a0, CP]; exact rfl, ?_⟩
  show P78_0 _ _
  exact ⟨w0_0, by simp [hl], by simp [a0], r0_0⟩
theorem B78 {rec78 : TestT → Option (Int × Bool)} (hrec78 : Spec78 rec78) : Ref Cl P78_0 (bodyOf Tryz.f78) (M78 rec78) (post P78_1 (fun _ _ _ => False) P78_1) := by
  rw [show bodyOf Tryz.f78 = .seq (Cat [false] (bodyOf Tryz.f78)) (.seq (.block 0 (.seq (Cat [true, false, true, false] (bodyOf Tryz.f78)) (.cond (.tmp 8) (.seq (Cat [true, false, true, true, false, false] (bodyOf Tryz.f78)) (.ret)) (.seq (Cat [true, false, true, true, true, false] (bodyOf Tryz.f78)) (.cond (.tmp 11) (.seq (Cat [true, false, true, true, true, true, false, false] (bodyOf Tryz.f78)) (.seq (Cat [true, false, true, true, true, true, false, true, false] (bodyOf Tryz.f78)) (.seq (Cat [true, false, true, true, true, true, false, true, true, false] (bodyOf Tryz.f78)) (.ret)))) (.seq (Cat [true, false, true, true, true, true, true, false] (bodyOf Tryz.f78)) (.cond (.tmp 47) (.seq (Cat [true, false, true, true, true, true, true, true, false, false] (bodyOf Tryz.f78)) (.ret)) (.skip)))))))) (.seq (Cat [true, true, false] (bodyOf Tryz.f78)) (.ret))) from rfl]
  unfold M78
  exact ref_seq (R78_9 hrec78 _ _) (ref_seq (ref_block (ref_seq (R78_8 hrec78 _ _) (ref_cond (P := P78_7) (c := fun s => s.t8) (fun s st hp => by obtain ⟨w0_0, hl, a0, r0_0, a8⟩ := (hp : P78_7' s st.tmps st.h); simp only [evalO, a8, Option.getD_some]) (ref_weak (P' := P78_2) (fun s st hp => by obtain ⟨w0_0, hl, a0, r0_0, a8⟩ := (hp : P78_7' s st.tmps st.h); exact (⟨hl, trivial⟩ : P78_2' s st.tmps st.h)) (ref_seq (R78_1 hrec78 _ _) (ref_ret (fun s st hp => hp)))) (ref_weak (P' := P78_0) (fun s st hp => by obtain ⟨w0_0, hl, a0, r0_0, a8⟩ := (hp : P78_7' s st.tmps st.h); exact (⟨w0_0, hl, a0, r0_0⟩ : P78_0' s st.tmps st.h)) (ref_seq (R78_7 hrec78 _ _) (ref_cond (P := P78_6) (c := fun s => s.t11) (fun s st hp => by obtain ⟨w0_0, hl, a0, r0_0, a11⟩ := (hp : P78_6' s st.tmps st.h); simp only [evalO, a11, Option.getD_some]) (ref_weak (P' := P78_0) (fun s st hp => by obtain ⟨w0_0, hl, a0, r0_0, a11⟩ := (hp : P78_6' s st.tmps st.h); exact (⟨w0_0, hl, a0, r0_0⟩ : P78_0' s st.tmps st.h)) (ref_seq (R78_4 hrec78 _ _) (ref_seq (R78_3 hrec78 _ _) (ref_seq (R78_2 hrec78 _ _) (ref_ret (fun s st hp => hp)))))) (ref_weak (P' := P78_0) (fun s st hp => by obtain ⟨w0_0, hl, a0, r0_0, a11⟩ := (hp : P78_6' s st.tmps st.h); exact (⟨w0_0, hl, a0, r0_0⟩ : P78_0' s st.tmps st.h)) (ref_seq (R78_6 hrec78 _ _) (ref_cond (P := P78_5) (c := fun s => s.t47) (fun s st hp => by obtain ⟨w0_0, hl, a0, r0_0, a47⟩ := (hp : P78_5' s st.tmps st.h); simp only [evalO, a47, Option.getD_some]) (ref_weak (P' := P78_2) (fun s st hp => by obtain ⟨w0_0, hl, a0, r0_0, a47⟩ := (hp : P78_5' s st.tmps st.h); exact (⟨hl, trivial⟩ : P78_2' s st.tmps st.h)) (ref_seq (R78_5 hrec78 _ _) (ref_ret (fun s st hp => hp)))) (ref_weak (P' := P78_0) (fun s st hp => by obtain ⟨w0_0, hl, a0, r0_0, a47⟩ := (hp : P78_5' s st.tmps st.h); exact (⟨w0_0, hl, a0, r0_0⟩ : P78_0' s st.tmps st.h)) (ref_skip (fun s st hp => hp)))))))))))) (ref_seq (R78_0 hrec78 _ _) (ref_ret (fun s st hp => hp))))
noncomputable def G78 (rec78 : TestT → Option (Int × Bool)) (x0 : TestT) : Option (Int × Bool) := match M78 rec78 { (default : Fr78) with t0 := x0 } with
  | some (.nrm, s) => some (s.t2, s.t3)
  | some (.ret, s) => some (s.t2, s.t3)
  | _ => none
theorem G78_spec {rec78 : TestT → Option (Int × Bool)} (hrec78 : Spec78 rec78) : Spec78 (G78 rec78) := by
  intro x0 vx0_0 hvx0_0 r hr
  unfold G78 at hr
  cases hm : M78 rec78 { (default : Fr78) with t0 := x0 } with
  | none => rw [hm] at hr; cases hr
  | some q =>
    obtain ⟨x, s⟩ := q
    rw [hm] at hr
    have hx : x = .nrm ∨ x = .ret := by cases x <;> first | exact .inl rfl | exact .inr rfl | cases hr
    have hr : (s.t2, s.t3) = r := by cases x <;> first | exact Option.some.inj hr | cases hr
    subst hr
    have hp0 : P78_0' ({ (default : Fr78) with t0 := x0 }) (slots Tryz.f78 (stripL [vx0_0])) bare := ⟨(strip vx0_0 : AVal), rfl, rfl, rTestT_p.str _ _ hvx0_0⟩
    obtain ⟨v, hR, hrun⟩ := run_of_ref (C := Cl) (f := 78) (fn := Tryz.f78) Tryz.func78 rfl rfl rfl rfl (args := [vx0_0]) (by simp only [refsL, refs, List.append_nil, refs_one (rTestT_p.ref _ _ hvx0_0)]) (B78 hrec78) (s0 := { (default : Fr78) with t0 := x0 }) hp0 hm hx (R := fun v => v = .tup [.int .i64 s.t2, .bool s.t3]) (by
      have key : ∀ st : ASt, P78_1 s st → ∃ vs v, aresults Cl Tryz.f78.results.toList st = some vs ∧ Nrm [] st.h (packRes vs) v ∧ (fun v => v = .tup [.int .i64 s.t2, .bool s.t3]) v := by
        intro st hp
        obtain ⟨hl, a2, a3⟩ := (hp : P78_1' s st.tmps st.h)
        exact ⟨[.int .i64 s.t2, .bool s.t3], _, by simp only [show Tryz.f78.results.toList = [ResultVar.tmp 2, ResultVar.tmp 3] from rfl, aresults, ares1, CP, a2, a3, Option.getD_some], (Nrm.tup (NrmL.cons (Nrm.of (w := .int .i64 s.t2) (by simp only [refsL, refs, List.append_nil])) (NrmL.cons (Nrm.of (w := .bool s.t3) (by simp only [refsL, refs, List.append_nil])) NrmL.nil))), rfl⟩
      intro st hq
      rcases hx with rfl | rfl
      · exact key st hq
      · exact key st hq)
    subst hR
    exact hrun
noncomputable def F78 : Nat → TestT → Option (Int × Bool)
  | 0 => fun _ => none
  | n + 1 => G78 (F78 n)
theorem F78_spec : ∀ n, Spec78 (F78 n)
  | 0 => fun x0 vx0_0 hvx0_0 r hr => by cases hr
  | n + 1 => G78_spec (F78_spec n)
theorem Spec78_fuel {f : TestT → Option (Int × Bool)} (h : ∀ x0 r, f x0 = some r → ∃ n, F78 n x0 = some r) : Spec78 f := fun x0 vx0_0 hvx0_0 r hr => by
  obtain ⟨n, hn⟩ := h x0 r hr
  exact F78_spec n x0 vx0_0 hvx0_0 r hn
/-! ### caisson/plan.choose$1 -/
structure Fr152 where
  t0 : ViewInfo
  t1 : Int
  t2 : Int
  t3 : ViewInfo
  t4 : Bool
instance : Inhabited Fr152 := ⟨⟨default, 0, 0, default, false⟩⟩
def P152_0' (s : Fr152) (t : List AVal) (h : AHeap) : Prop := t.length = 20 ∧ t[1]? = some (.iptr [.int .i64 s.t1]) ∧ t[2]? = some (.iptr [.int .i64 s.t2]) ∧ t[3]? = some (.iptr [.int .i64 s.t3.Set, .int .i64 s.t3.State, .int .i64 s.t3.Seq, .int .i64 s.t3.Rows, .int .i64 s.t3.Bytes, .int .i64 s.t3.Readers])
def P152_0 (s : Fr152) (st : ASt) : Prop := P152_0' s st.tmps st.h
def P152_1' (s : Fr152) (t : List AVal) (h : AHeap) : Prop := t.length = 20 ∧ t[4]? = some (.bool s.t4)
def P152_1 (s : Fr152) (st : ASt) : Prop := P152_1' s st.tmps st.h
def P152_2' (s : Fr152) (t : List AVal) (h : AHeap) : Prop := t.length = 20 ∧ t[0]? = some (.agg [.int .i64 s.t0.Set, .int .i64 s.t0.State, .int .i64 s.t0.Seq, .int .i64 s.t0.Rows, .int .i64 s.t0.Bytes, .int .i64 s.t0.Readers]) ∧ t[1]? = some (.iptr [.int .i64 s.t1]) ∧ t[2]? = some (.iptr [.int .i64 s.t2])
def P152_2 (s : Fr152) (st : ASt) : Prop := P152_2' s st.tmps st.h
noncomputable def m152_0 : Mo Fr152 := fun s => (cond ((s.t3.State == 2) && (s.t3.Seq == s.t1)) ((G85 s.t3.Set s.t2).bind fun z1 => some z1) (some false)).bind fun x3 => some (.nrm, { s with t4 := (((s.t3.State == 2) && (s.t3.Seq == s.t1)) && x3) })
noncomputable def m152_1 : Mo Fr152 := fun s => some (.nrm, { s with t3 := s.t0 })
noncomputable def M152 : Mo Fr152 := seqM (m152_1) (seqM (m152_0) (retM))
def Spec152 (f : ViewInfo → Int → Int → Option Bool) : Prop := ∀ (x0 : ViewInfo) (x1 : Int) (x2 : Int) (r : Bool), f x0 x1 x2 = some r → ∀ h, run Cl 152 [.agg [.int .i64 x0.Set, .int .i64 x0.State, .int .i64 x0.Seq, .int .i64 x0.Rows, .int .i64 x0.Bytes, .int .i64 x0.Readers], .iptr [.int .i64 x1], .iptr [.int .i64 x2]] h = some (.ret (.bool r), h)
theorem Spec152_of {f g : ViewInfo → Int → Int → Option Bool} (hg : Spec152 g) (h : ∀ x0 x1 x2 r, f x0 x1 x2 = some r → g x0 x1 x2 = some r) : Spec152 f := fun x0 x1 x2 r hr => hg x0 x1 x2 r (h x0 x1 x2 r hr)
theorem R152_0 (pe pr) : Ref Cl P152_0 (Cat [true, false] (bodyOf Tryz.f152)) m152_0 (post P152_1 pe pr) := by
  rintro s ⟨t, h⟩ hp x s' hm
  obtain ⟨hl, a1, a2, a3⟩ : P152_0' s t h := hp
  unfold m152_0 at hm
  cases hb4 : (s.t3.State == 2) with
  | true =>
    all_goals (
      try simp only [hb4, Zb] at hm
      cases hb5 : (s.t3.Seq == s.t1) with
      | true =>
        all_goals (
          try simp only [hb5, Zb] at hm
          obtain ⟨z6, hz6, hm⟩ := Option.bind_eq_some_iff.1 hm
          have iu7 := G85_spec s.t3.Set s.t2  _ hz6
          try simp only [Zb] at hm
          cases hm
          refine ⟨⟨_, _⟩, by simp only [bodyOf, Tryz.f152, Cat, Zs, awanted, aoper, evalO, put, acallOp, abuiltin, Nat.reduceEqDiff, Nat.reduceLT, ofV, ofCell, ↓reduceIte, hl, a1, a2, a3, CP, Ty.fa207_1, dropCells, List.drop_succ_cons, List.drop_zero, Ty.ld3, ld_ip, ofc1, List.drop_succ_cons, List.drop_zero, Ty.fa207_2, Ty.fa207_0, iu7, hb4, hb5]; exact rfl, ?_⟩
          show P152_1 _ _
          exact ⟨by simp [hl], by simp [hl, hb4, hb5]⟩)
      | false =>
        all_goals (
          try simp only [hb5, Zb] at hm
          cases hm
          refine ⟨⟨_, _⟩, by simp only [bodyOf, Tryz.f152, Cat, Zs, awanted, aoper, evalO, put, acallOp, abuiltin, Nat.reduceEqDiff, Nat.reduceLT, ofV, ofCell, ↓reduceIte, hl, a1, a2, a3, CP, Ty.fa207_1, dropCells, List.drop_succ_cons, List.drop_zero, Ty.ld3, ld_ip, ofc1, List.drop_succ_cons, List.drop_zero, Ty.fa207_2, hb4, hb5]; exact rfl, ?_⟩
          show P152_1 _ _
          exact ⟨by simp [hl], by simp [hl, hb4, hb5]⟩))
  | false =>
    all_goals (
      try simp only [hb4, Zb] at hm
      cases hm
      refine ⟨⟨_, _⟩, by simp only [bodyOf, Tryz.f152, Cat, Zs, awanted, aoper, evalO, put, acallOp, abuiltin, Nat.reduceEqDiff, Nat.reduceLT, ofV, ofCell, ↓reduceIte, hl, a1, a2, a3, CP, Ty.fa207_1, dropCells, List.drop_succ_cons, List.drop_zero, Ty.ld3, ld_ip, ofc1, List.drop_succ_cons, List.drop_zero, hb4]; exact rfl, ?_⟩
      show P152_1 _ _
      exact ⟨by simp [hl], by simp [hl, hb4]⟩)
theorem R152_1 (pe pr) : Ref Cl P152_2 (Cat [false] (bodyOf Tryz.f152)) m152_1 (post P152_0 pe pr) := by
  rintro s ⟨t, h⟩ hp x s' hm
  obtain ⟨hl, a0, a1, a2⟩ : P152_2' s t h := hp
  unfold m152_1 at hm
  cases hm
  refine ⟨⟨_, _⟩, by simp only [bodyOf, Tryz.f152, Cat, Zs, awanted, aoper, evalO, put, acallOp, abuiltin, Nat.reduceEqDiff, Nat.reduceLT, ofV, ofCell, ↓reduceIte, hl, a0, a1, a2, CP, Ty.cb_parse_go_148, Ty.cb_parse_go_143, Ty.cb_parse_go_130, Ty.cb_plan_go_27, Ty.cb_plan_go_29, Ty.cb_plan_go_31, Ty.cb_plan_go_41, Ty.cb_plan_go_61, Ty.cb_cube_go_25, Ty.cb_law_go_39, Ty.cb_ref_go_26, Ty.cb_ref_go_48, Ty.cb_ref_go_57, Ty.cb_ref_go_65, Zc]; exact rfl, ?_⟩
  show P152_0 _ _
  exact ⟨by simp [hl], by simp [a1], by simp [a2], by simp [hl]⟩
theorem B152 : Ref Cl P152_2 (bodyOf Tryz.f152) (M152) (post P152_1 (fun _ _ _ => False) P152_1) := by
  rw [show bodyOf Tryz.f152 = .seq (Cat [false] (bodyOf Tryz.f152)) (.seq (Cat [true, false] (bodyOf Tryz.f152)) (.ret)) from rfl]
  unfold M152
  exact ref_seq (R152_1 _ _) (ref_seq (R152_0 _ _) (ref_ret (fun s st hp => hp)))
noncomputable def G152 (x0 : ViewInfo) (x1 : Int) (x2 : Int) : Option Bool := match M152 { (default : Fr152) with t0 := x0, t1 := x1, t2 := x2 } with
  | some (.nrm, s) => some s.t4
  | some (.ret, s) => some s.t4
  | _ => none
theorem G152_spec : Spec152 (G152) := by
  intro x0 x1 x2 r hr
  unfold G152 at hr
  cases hm : M152 { (default : Fr152) with t0 := x0, t1 := x1, t2 := x2 } with
  | none => rw [hm] at hr; cases hr
  | some q =>
    obtain ⟨x, s⟩ := q
    rw [hm] at hr
    have hx : x = .nrm ∨ x = .ret := by cases x <;> first | exact .inl rfl | exact .inr rfl | cases hr
    have hr : s.t4 = r := by cases x <;> first | exact Option.some.inj hr | cases hr
    subst hr
    have hp0 : P152_2' ({ (default : Fr152) with t0 := x0, t1 := x1, t2 := x2 }) (slots Tryz.f152 (stripL [.agg [.int .i64 x0.Set, .int .i64 x0.State, .int .i64 x0.Seq, .int .i64 x0.Rows, .int .i64 x0.Bytes, .int .i64 x0.Readers], .iptr [.int .i64 x1], .iptr [.int .i64 x2]])) bare := ⟨rfl, rfl, rfl, rfl⟩
    obtain ⟨v, hR, hrun⟩ := run_of_ref (C := Cl) (f := 152) (fn := Tryz.f152) Tryz.func152 rfl rfl rfl rfl (args := [.agg [.int .i64 x0.Set, .int .i64 x0.State, .int .i64 x0.Seq, .int .i64 x0.Rows, .int .i64 x0.Bytes, .int .i64 x0.Readers], .iptr [.int .i64 x1], .iptr [.int .i64 x2]]) (by simp only [refsL, refs, List.append_nil]) (B152) (s0 := { (default : Fr152) with t0 := x0, t1 := x1, t2 := x2 }) hp0 hm hx (R := fun v => v = .bool s.t4) (by
      have key : ∀ st : ASt, P152_1 s st → ∃ vs v, aresults Cl Tryz.f152.results.toList st = some vs ∧ Nrm [] st.h (packRes vs) v ∧ (fun v => v = .bool s.t4) v := by
        intro st hp
        obtain ⟨hl, a4⟩ := (hp : P152_1' s st.tmps st.h)
        exact ⟨[.bool s.t4], _, by simp only [show Tryz.f152.results.toList = [ResultVar.tmp 4] from rfl, aresults, ares1, CP, a4, Option.getD_some], (Nrm.of (w := .bool s.t4) (by simp only [refsL, refs, List.append_nil])), rfl⟩
      intro st hq
      rcases hx with rfl | rfl
      · exact key st hq
      · exact key st hq)
    subst hR
    exact hrun
/-! ### caisson/plan.choose$2 -/
structure Fr153 where
  t0 : ViewInfo
  t1 : ViewInfo
  t2 : ViewInfo
  t3 : ViewInfo
  t4 : Int
instance : Inhabited Fr153 := ⟨⟨default, default, default, default, 0⟩⟩
def P153_0' (s : Fr153) (t : List AVal) (h : AHeap) : Prop := t.length = 19 ∧ t[2]? = some (.iptr [.int .i64 s.t2.Set, .int .i64 s.t2.State, .int .i64 s.t2.Seq, .int .i64 s.t2.Rows, .int .i64 s.t2.Bytes, .int .i64 s.t2.Readers]) ∧ t[3]? = some (.iptr [.int .i64 s.t3.Set, .int .i64 s.t3.State, .int .i64 s.t3.Seq, .int .i64 s.t3.Rows, .int .i64 s.t3.Bytes, .int .i64 s.t3.Readers])
def P153_0 (s : Fr153) (st : ASt) : Prop := P153_0' s st.tmps st.h
def P153_1' (s : Fr153) (t : List AVal) (h : AHeap) : Prop := t.length = 19 ∧ t[4]? = some (.int .i64 s.t4)
def P153_1 (s : Fr153) (st : ASt) : Prop := P153_1' s st.tmps st.h
def P153_2' (s : Fr153) (t : List AVal) (h : AHeap) : Prop := t.length = 19 ∧ t[0]? = some (.agg [.int .i64 s.t0.Set, .int .i64 s.t0.State, .int .i64 s.t0.Seq, .int .i64 s.t0.Rows, .int .i64 s.t0.Bytes, .int .i64 s.t0.Readers]) ∧ t[1]? = some (.agg [.int .i64 s.t1.Set, .int .i64 s.t1.State, .int .i64 s.t1.Seq, .int .i64 s.t1.Rows, .int .i64 s.t1.Bytes, .int .i64 s.t1.Readers])
def P153_2 (s : Fr153) (st : ASt) : Prop := P153_2' s st.tmps st.h
noncomputable def m153_0 : Mo Fr153 := fun s => (G155 (if 0 > s.t2.Rows then 0 else s.t2.Rows) (if 0 > s.t3.Rows then 0 else s.t3.Rows)).bind fun z1 => (G155 s.t2.Set s.t3.Set).bind fun z3 => (G154 [z1, z3]).bind fun z9 => some (.nrm, { s with t4 := z9 })
noncomputable def m153_1 : Mo Fr153 := fun s => some (.nrm, { s with t2 := s.t0, t3 := s.t1 })
noncomputable def M153 : Mo Fr153 := seqM (m153_1) (seqM (m153_0) (retM))
def Spec153 (f : ViewInfo → ViewInfo → Option Int) : Prop := ∀ (x0 : ViewInfo) (x1 : ViewInfo) (r : Int), f x0 x1 = some r → ∀ h, run Cl 153 [.agg [.int .i64 x0.Set, .int .i64 x0.State, .int .i64 x0.Seq, .int .i64 x0.Rows, .int .i64 x0.Bytes, .int .i64 x0.Readers], .agg [.int .i64 x1.Set, .int .i64 x1.State, .int .i64 x1.Seq, .int .i64 x1.Rows, .int .i64 x1.Bytes, .int .i64 x1.Readers]] h = some (.ret (.int .i64 r), h)
theorem Spec153_of {f g : ViewInfo → ViewInfo → Option Int} (hg : Spec153 g) (h : ∀ x0 x1 r, f x0 x1 = some r → g x0 x1 = some r) : Spec153 f := fun x0 x1 r hr => hg x0 x1 r (h x0 x1 r hr)
theorem R153_0 (pe pr) : Ref Cl P153_0 (Cat [true, false] (bodyOf Tryz.f153)) m153_0 (post P153_1 pe pr) := by
  rintro s ⟨t, h⟩ hp x s' hm
  obtain ⟨hl, a2, a3⟩ : P153_0' s t h := hp
  unfold m153_0 at hm
  obtain ⟨z11, hz11, hm⟩ := Option.bind_eq_some_iff.1 hm
  have iu12 := G155_spec (if 0 > s.t2.Rows then 0 else s.t2.Rows) (if 0 > s.t3.Rows then 0 else s.t3.Rows)  _ hz11
  obtain ⟨z13, hz13, hm⟩ := Option.bind_eq_some_iff.1 hm
  have iu14 := G155_spec s.t2.Set s.t3.Set  _ hz13
  have bd15 : abuildSlice Tryz.prog 33 2 [(0, .int .i64 z11), (1, .int .i64 z13)] = some ([.int .i64 z11, .int .i64 z13], 1) := by kernel_rfl
  have bs16 : Els (rI .i64) [z11, z13] [[.int .i64 z11], [.int .i64 z13]] := (Els.cons rfl (Els.cons rfl Els.nil))
  have sl17 : Sl (rI .i64) [z11, z13] (.lst [.int .i64 z11, .int .i64 z13] 2 .full) := Sl.lst .full bs16
  have gr18 : ∀ h, Gr (rI .i64) 1 [z11, z13] (.lst [.int .i64 z11, .int .i64 z13] 2 .full) h := fun h => Gr.full bs16 h
  obtain ⟨z19, hz19, hm⟩ := Option.bind_eq_some_iff.1 hm
  have iu20 := G154_spec [z11, z13] _ sl17 _ hz19
  have apu20 : apure Cl 154 [.lst [.int .i64 z11, .int .i64 z13] 2 .full] = true := apure_of rfl rfl (refs_cons (sl17.refs (rI_p .i64)) rfl)
  cases hm
  refine ⟨⟨_, _⟩, by
      simp only [bodyOf, Tryz.f153, Cat, Zs, awanted, aoper, evalO, put, acallOp, abuiltin, Nat.reduceEqDiff, Nat.reduceLT, ofV, ofCell, ↓reduceIte, hl, a2, a3, CP, Ty.fa207_3, dropCells, List.drop_succ_cons, List.drop_zero, Ty.ld3, ld_ip, ofc1, List.drop_succ_cons, List.drop_zero, max_ii, iu12, Ty.fa207_0, iu14, bd15, Ty.own_plan_go_32, iu20, apu20, if_true]
      rw [k_draw _ _ _ (by kernel_rfl)]
      exact rfl, ?_⟩
  show P153_1 _ _
  exact ⟨by simp [hl], by simp [hl]⟩
theorem R153_1 (pe pr) : Ref Cl P153_2 (Cat [false] (bodyOf Tryz.f153)) m153_1 (post P153_0 pe pr) := by
  rintro s ⟨t, h⟩ hp x s' hm
  obtain ⟨hl, a0, a1⟩ : P153_2' s t h := hp
  unfold m153_1 at hm
  cases hm
  refine ⟨⟨_, _⟩, by simp only [bodyOf, Tryz.f153, Cat, Zs, awanted, aoper, evalO, put, acallOp, abuiltin, Nat.reduceEqDiff, Nat.reduceLT, ofV, ofCell, ↓reduceIte, hl, a0, a1, CP, Ty.cb_parse_go_148, Ty.cb_parse_go_143, Ty.cb_parse_go_130, Ty.cb_plan_go_27, Ty.cb_plan_go_29, Ty.cb_plan_go_31, Ty.cb_plan_go_41, Ty.cb_plan_go_61, Ty.cb_cube_go_25, Ty.cb_law_go_39, Ty.cb_ref_go_26, Ty.cb_ref_go_48, Ty.cb_ref_go_57, Ty.cb_ref_go_65, Zc]; exact rfl, ?_⟩
  show P153_0 _ _
  exact ⟨by simp [hl], by simp [hl], by simp [hl]⟩
theorem B153 : Ref Cl P153_2 (bodyOf Tryz.f153) (M153) (post P153_1 (fun _ _ _ => False) P153_1) := by
  rw [show bodyOf Tryz.f153 = .seq (Cat [false] (bodyOf Tryz.f153)) (.seq (Cat [true, false] (bodyOf Tryz.f153)) (.ret)) from rfl]
  unfold M153
  exact ref_seq (R153_1 _ _) (ref_seq (R153_0 _ _) (ref_ret (fun s st hp => hp)))
noncomputable def G153 (x0 : ViewInfo) (x1 : ViewInfo) : Option Int := match M153 { (default : Fr153) with t0 := x0, t1 := x1 } with
  | some (.nrm, s) => some s.t4
  | some (.ret, s) => some s.t4
  | _ => none
theorem G153_spec : Spec153 (G153) := by
  intro x0 x1 r hr
  unfold G153 at hr
  cases hm : M153 { (default : Fr153) with t0 := x0, t1 := x1 } with
  | none => rw [hm] at hr; cases hr
  | some q =>
    obtain ⟨x, s⟩ := q
    rw [hm] at hr
    have hx : x = .nrm ∨ x = .ret := by cases x <;> first | exact .inl rfl | exact .inr rfl | cases hr
    have hr : s.t4 = r := by cases x <;> first | exact Option.some.inj hr | cases hr
    subst hr
    have hp0 : P153_2' ({ (default : Fr153) with t0 := x0, t1 := x1 }) (slots Tryz.f153 (stripL [.agg [.int .i64 x0.Set, .int .i64 x0.State, .int .i64 x0.Seq, .int .i64 x0.Rows, .int .i64 x0.Bytes, .int .i64 x0.Readers], .agg [.int .i64 x1.Set, .int .i64 x1.State, .int .i64 x1.Seq, .int .i64 x1.Rows, .int .i64 x1.Bytes, .int .i64 x1.Readers]])) bare := ⟨rfl, rfl, rfl⟩
    obtain ⟨v, hR, hrun⟩ := run_of_ref (C := Cl) (f := 153) (fn := Tryz.f153) Tryz.func153 rfl rfl rfl rfl (args := [.agg [.int .i64 x0.Set, .int .i64 x0.State, .int .i64 x0.Seq, .int .i64 x0.Rows, .int .i64 x0.Bytes, .int .i64 x0.Readers], .agg [.int .i64 x1.Set, .int .i64 x1.State, .int .i64 x1.Seq, .int .i64 x1.Rows, .int .i64 x1.Bytes, .int .i64 x1.Readers]]) (by simp only [refsL, refs, List.append_nil]) (B153) (s0 := { (default : Fr153) with t0 := x0, t1 := x1 }) hp0 hm hx (R := fun v => v = .int .i64 s.t4) (by
      have key : ∀ st : ASt, P153_1 s st → ∃ vs v, aresults Cl Tryz.f153.results.toList st = some vs ∧ Nrm [] st.h (packRes vs) v ∧ (fun v => v = .int .i64 s.t4) v := by
        intro st hp
        obtain ⟨hl, a4⟩ := (hp : P153_1' s st.tmps st.h)
        exact ⟨[.int .i64 s.t4], _, by simp only [show Tryz.f153.results.toList = [ResultVar.tmp 4] from rfl, aresults, ares1, CP, a4, Option.getD_some], (Nrm.of (w := .int .i64 s.t4) (by simp only [refsL, refs, List.append_nil])), rfl⟩
      intro st hq
      rcases hx with rfl | rfl
      · exact key st hq
      · exact key st hq)
    subst hR
    exact hrun
/-! ### caisson/plan.least[caisson/api.ViewInfo] -/
structure Fr151 where
  t0 : (List ViewInfo)
  t1 : (ViewInfo → Option Bool)
  t2 : (ViewInfo → ViewInfo → Option Int)
  t6 : ViewInfo
  t7 : Bool
  t8 : ViewInfo
  t9 : Bool
  t11 : ViewInfo
  t12 : (List ViewInfo)
  t13 : Int
  t14 : Int
  t15 : Bool
  t31 : Bool
instance : Inhabited Fr151 := ⟨⟨[], (fun _ => none), (fun _ _ => none), default, false, default, false, default, [], 0, 0, false, false⟩⟩
def P151_0' (s : Fr151) (t : List AVal) (h : AHeap) : Prop := ∃ i6 i8, t.length = 36 ∧ t[6]? = some (.ptr i6 0) ∧ h.get i6 = some (.arr [.int .i64 s.t6.Set, .int .i64 s.t6.State, .int .i64 s.t6.Seq, .int .i64 s.t6.Rows, .int .i64 s.t6.Bytes, .int .i64 s.t6.Readers]) ∧ i6 < h.next ∧ t[8]? = some (.ptr i8 0) ∧ h.get i8 = some (.arr [.int .i64 s.t8.Set, .int .i64 s.t8.State, .int .i64 s.t8.Seq, .int .i64 s.t8.Rows, .int .i64 s.t8.Bytes, .int .i64 s.t8.Readers]) ∧ i8 < h.next ∧ t[9]? = some (.bool s.t9) ∧ i6 ≠ i8
def P151_0 (s : Fr151) (st : ASt) : Prop := P151_0' s st.tmps st.h
def P151_1' (s : Fr151) (t : List AVal) (h : AHeap) : Prop := ∃ i6, t.length = 36 ∧ t[6]? = some (.ptr i6 0) ∧ h.get i6 = some (.arr [.int .i64 s.t6.Set, .int .i64 s.t6.State, .int .i64 s.t6.Seq, .int .i64 s.t6.Rows, .int .i64 s.t6.Bytes, .int .i64 s.t6.Readers]) ∧ i6 < h.next ∧ t[7]? = some (.bool s.t7)
def P151_1 (s : Fr151) (st : ASt) : Prop := P151_1' s st.tmps st.h
def P151_2' (s : Fr151) (t : List AVal) (h : AHeap) : Prop := ∃ w1_0 w2_0 i6 i8 w12_0, t.length = 36 ∧ t[1]? = some w1_0 ∧ rFn0 s.t1 w1_0 ∧ t[2]? = some w2_0 ∧ rFn1 s.t2 w2_0 ∧ t[6]? = some (.ptr i6 0) ∧ h.get i6 = some (.arr [.int .i64 s.t6.Set, .int .i64 s.t6.State, .int .i64 s.t6.Seq, .int .i64 s.t6.Rows, .int .i64 s.t6.Bytes, .int .i64 s.t6.Readers]) ∧ i6 < h.next ∧ t[8]? = some (.ptr i8 0) ∧ h.get i8 = some (.arr [.int .i64 s.t8.Set, .int .i64 s.t8.State, .int .i64 s.t8.Seq, .int .i64 s.t8.Rows, .int .i64 s.t8.Bytes, .int .i64 s.t8.Readers]) ∧ i8 < h.next ∧ t[9]? = some (.bool s.t9) ∧ t[12]? = some w12_0 ∧ Sl rViewInfo s.t12 w12_0 ∧ t[13]? = some (.int .i64 s.t13) ∧ t[14]? = some (.int .i64 s.t14) ∧ i6 ≠ i8
def P151_2 (s : Fr151) (st : ASt) : Prop := P151_2' s st.tmps st.h
def P151_3' (s : Fr151) (t : List AVal) (h : AHeap) : Prop := ∃ w1_0 w2_0 i6 i8 i11 w12_0, t.length = 36 ∧ t[1]? = some w1_0 ∧ rFn0 s.t1 w1_0 ∧ t[2]? = some w2_0 ∧ rFn1 s.t2 w2_0 ∧ t[6]? = some (.ptr i6 0) ∧ h.get i6 = some (.arr [.int .i64 s.t6.Set, .int .i64 s.t6.State, .int .i64 s.t6.Seq, .int .i64 s.t6.Rows, .int .i64 s.t6.Bytes, .int .i64 s.t6.Readers]) ∧ i6 < h.next ∧ t[8]? = some (.ptr i8 0) ∧ h.get i8 = some (.arr [.int .i64 s.t8.Set, .int .i64 s.t8.State, .int .i64 s.t8.Seq, .int .i64 s.t8.Rows, .int .i64 s.t8.Bytes, .int .i64 s.t8.Readers]) ∧ i8 < h.next ∧ t[11]? = some (.ptr i11 0) ∧ h.get i11 = some (.arr [.int .i64 s.t11.Set, .int .i64 s.t11.State, .int .i64 s.t11.Seq, .int .i64 s.t11.Rows, .int .i64 s.t11.Bytes, .int .i64 s.t11.Readers]) ∧ i11 < h.next ∧ t[12]? = some w12_0 ∧ Sl rViewInfo s.t12 w12_0 ∧ t[13]? = some (.int .i64 s.t13) ∧ t[14]? = some (.int .i64 s.t14) ∧ i6 ≠ i8 ∧ i6 ≠ i11 ∧ i8 ≠ i11
def P151_3 (s : Fr151) (st : ASt) : Prop := P151_3' s st.tmps st.h
def P151_4' (s : Fr151) (t : List AVal) (h : AHeap) : Prop := ∃ w1_0 w2_0 i6 i8 i11 w12_0, t.length = 36 ∧ t[1]? = some w1_0 ∧ rFn0 s.t1 w1_0 ∧ t[2]? = some w2_0 ∧ rFn1 s.t2 w2_0 ∧ t[6]? = some (.ptr i6 0) ∧ h.get i6 = some (.arr [.int .i64 s.t6.Set, .int .i64 s.t6.State, .int .i64 s.t6.Seq, .int .i64 s.t6.Rows, .int .i64 s.t6.Bytes, .int .i64 s.t6.Readers]) ∧ i6 < h.next ∧ t[8]? = some (.ptr i8 0) ∧ h.get i8 = some (.arr [.int .i64 s.t8.Set, .int .i64 s.t8.State, .int .i64 s.t8.Seq, .int .i64 s.t8.Rows, .int .i64 s.t8.Bytes, .int .i64 s.t8.Readers]) ∧ i8 < h.next ∧ t[9]? = some (.bool s.t9) ∧ t[11]? = some (.ptr i11 0) ∧ h.get i11 = some (.arr [.int .i64 s.t11.Set, .int .i64 s.t11.State, .int .i64 s.t11.Seq, .int .i64 s.t11.Rows, .int .i64 s.t11.Bytes, .int .i64 s.t11.Readers]) ∧ i11 < h.next ∧ t[12]? = some w12_0 ∧ Sl rViewInfo s.t12 w12_0 ∧ t[13]? = some (.int .i64 s.t13) ∧ t[14]? = some (.int .i64 s.t14) ∧ t[31]? = some (.bool s.t31) ∧ i6 ≠ i8 ∧ i6 ≠ i11 ∧ i8 ≠ i11
def P151_4 (s : Fr151) (st : ASt) : Prop := P151_4' s st.tmps st.h
def P151_5' (s : Fr151) (t : List AVal) (h : AHeap) : Prop := ∃ w1_0 w2_0 i6 i8 i11 w12_0, t.length = 36 ∧ t[1]? = some w1_0 ∧ rFn0 s.t1 w1_0 ∧ t[2]? = some w2_0 ∧ rFn1 s.t2 w2_0 ∧ t[6]? = some (.ptr i6 0) ∧ h.get i6 = some (.arr [.int .i64 s.t6.Set, .int .i64 s.t6.State, .int .i64 s.t6.Seq, .int .i64 s.t6.Rows, .int .i64 s.t6.Bytes, .int .i64 s.t6.Readers]) ∧ i6 < h.next ∧ t[8]? = some (.ptr i8 0) ∧ h.get i8 = some (.arr [.int .i64 s.t8.Set, .int .i64 s.t8.State, .int .i64 s.t8.Seq, .int .i64 s.t8.Rows, .int .i64 s.t8.Bytes, .int .i64 s.t8.Readers]) ∧ i8 < h.next ∧ t[9]? = some (.bool s.t9) ∧ t[11]? = some (.ptr i11 0) ∧ h.get i11 = some (.arr [.int .i64 s.t11.Set, .int .i64 s.t11.State, .int .i64 s.t11.Seq, .int .i64 s.t11.Rows, .int .i64 s.t11.Bytes, .int .i64 s.t11.Readers]) ∧ i11 < h.next ∧ t[12]? = some w12_0 ∧ Sl rViewInfo s.t12 w12_0 ∧ t[13]? = some (.int .i64 s.t13) ∧ t[14]? = some (.int .i64 s.t14) ∧ i6 ≠ i8 ∧ i6 ≠ i11 ∧ i8 ≠ i11
def P151_5 (s : Fr151) (st : ASt) : Prop := P151_5' s st.tmps st.h
def P151_6' (s : Fr151) (t : List AVal) (h : AHeap) : Prop := ∃ w1_0 w2_0 i6 i8 w12_0, t.length = 36 ∧ t[1]? = some w1_0 ∧ rFn0 s.t1 w1_0 ∧ t[2]? = some w2_0 ∧ rFn1 s.t2 w2_0 ∧ t[6]? = some (.ptr i6 0) ∧ h.get i6 = some (.arr [.int .i64 s.t6.Set, .int .i64 s.t6.State, .int .i64 s.t6.Seq, .int .i64 s.t6.Rows, .int .i64 s.t6.Bytes, .int .i64 s.t6.Readers]) ∧ i6 < h.next ∧ t[8]? = some (.ptr i8 0) ∧ h.get i8 = some (.arr [.int .i64 s.t8.Set, .int .i64 s.t8.State, .int .i64 s.t8.Seq, .int .i64 s.t8.Rows, .int .i64 s.t8.Bytes, .int .i64 s.t8.Readers]) ∧ i8 < h.next ∧ t[9]? = some (.bool s.t9) ∧ t[12]? = some w12_0 ∧ Sl rViewInfo s.t12 w12_0 ∧ t[13]? = some (.int .i64 s.t13) ∧ t[14]? = some (.int .i64 s.t14) ∧ t[15]? = some (.bool s.t15) ∧ i6 ≠ i8
def P151_6 (s : Fr151) (st : ASt) : Prop := P151_6' s st.tmps st.h
def P151_7' (s : Fr151) (t : List AVal) (h : AHeap) : Prop := ∃ w0_0 w1_0 w2_0 i6 i8, t.length = 36 ∧ t[0]? = some w0_0 ∧ Sl rViewInfo s.t0 w0_0 ∧ t[1]? = some w1_0 ∧ rFn0 s.t1 w1_0 ∧ t[2]? = some w2_0 ∧ rFn1 s.t2 w2_0 ∧ t[6]? = some (.ptr i6 0) ∧ h.get i6 = some (.arr [.int .i64 s.t6.Set, .int .i64 s.t6.State, .int .i64 s.t6.Seq, .int .i64 s.t6.Rows, .int .i64 s.t6.Bytes, .int .i64 s.t6.Readers]) ∧ i6 < h.next ∧ t[8]? = some (.ptr i8 0) ∧ h.get i8 = some (.arr [.int .i64 s.t8.Set, .int .i64 s.t8.State, .int .i64 s.t8.Seq, .int .i64 s.t8.Rows, .int .i64 s.t8.Bytes, .int .i64 s.t8.Readers]) ∧ i8 < h.next ∧ t[9]? = some (.bool s.t9) ∧ i6 ≠ i8
def P151_7 (s : Fr151) (st : ASt) : Prop := P151_7' s st.tmps st.h
def P151_8' (s : Fr151) (t : List AVal) (h : AHeap) : Prop := ∃ w0_0 w1_0 w2_0 i6 i8, t.length = 36 ∧ t[0]? = some w0_0 ∧ Sl rViewInfo s.t0 w0_0 ∧ t[1]? = some w1_0 ∧ rFn0 s.t1 w1_0 ∧ t[2]? = some w2_0 ∧ rFn1 s.t2 w2_0 ∧ t[6]? = some (.ptr i6 0) ∧ h.get i6 = some (.arr [.int .i64 s.t6.Set, .int .i64 s.t6.State, .int .i64 s.t6.Seq, .int .i64 s.t6.Rows, .int .i64 s.t6.Bytes, .int .i64 s.t6.Readers]) ∧ i6 < h.next ∧ t[8]? = some (.ptr i8 0) ∧ h.get i8 = some (.arr [.int .i64 s.t8.Set, .int .i64 s.t8.State, .int .i64 s.t8.Seq, .int .i64 s.t8.Rows, .int .i64 s.t8.Bytes, .int .i64 s.t8.Readers]) ∧ i8 < h.next ∧ i6 ≠ i8
def P151_8 (s : Fr151) (st : ASt) : Prop := P151_8' s st.tmps st.h
def P151_9' (s : Fr151) (t : List AVal) (h : AHeap) : Prop := ∃ w0_0 w1_0 w2_0 i6, t.length = 36 ∧ t[0]? = some w0_0 ∧ Sl rViewInfo s.t0 w0_0 ∧ t[1]? = some w1_0 ∧ rFn0 s.t1 w1_0 ∧ t[2]? = some w2_0 ∧ rFn1 s.t2 w2_0 ∧ t[6]? = some (.ptr i6 0) ∧ h.get i6 = some (.arr [.int .i64 s.t6.Set, .int .i64 s.t6.State, .int .i64 s.t6.Seq, .int .i64 s.t6.Rows, .int .i64 s.t6.Bytes, .int .i64 s.t6.Readers]) ∧ i6 < h.next
def P151_9 (s : Fr151) (st : ASt) : Prop := P151_9' s st.tmps st.h
def P151_10' (s : Fr151) (t : List AVal) (h : AHeap) : Prop := ∃ w0_0 w1_0 w2_0, t.length = 36 ∧ t[0]? = some w0_0 ∧ Sl rViewInfo s.t0 w0_0 ∧ t[1]? = some w1_0 ∧ rFn0 s.t1 w1_0 ∧ t[2]? = some w2_0 ∧ rFn1 s.t2 w2_0
def P151_10 (s : Fr151) (st : ASt) : Prop := P151_10' s st.tmps st.h
noncomputable def m151_0 : Mo Fr151 := fun s => some (.nrm, { s with t6 := s.t8, t7 := s.t9 })
noncomputable def m151_1 : Mo Fr151 := fun s => some (.nrm, { s with t14 := IntKind.wrap .i64 (s.t14 + 1) })
noncomputable def m151_2 : Mo Fr151 := fun s => some (.nrm, { s with t8 := s.t11, t9 := true })
noncomputable def m151_3 : Mo Fr151 := fun s => (s.t1 s.t11).bind fun z34 => (cond z34 ((cond (!(!s.t9)) ((s.t2 s.t11 s.t8).bind fun z38 => some (decide (z38 < 0))) (some false)).bind fun x40 => some ((!s.t9) || x40)) (some false)).bind fun x41 => some (.nrm, { s with t31 := (z34 && x41) })
noncomputable def m151_4 : Mo Fr151 := fun s => (at? s.t12 s.t14).bind fun y51 => some (.nrm, { s with t11 := y51 })
noncomputable def m151_5 : Mo Fr151 := fun s => some (.nrm, { s with t15 := decide (s.t14 < s.t13) })
noncomputable def L151_6 : Mo Fr151 := seqM (m151_5) (seqM (condM (fun s => s.t15) (skipM) (exitM 0)) (seqM (blockM 1 (seqM (m151_4) (seqM (m151_3) (condM (fun s => s.t31) (m151_2) (skipM))))) (m151_1)))
noncomputable def m151_7 : Mo Fr151 := fun s => some (.nrm, { s with t12 := s.t0, t13 := (s.t0.length : Int), t14 := 0 })
noncomputable def m151_8 : Mo Fr151 := fun s => some (.nrm, { s with t9 := false })
noncomputable def m151_9 : Mo Fr151 := fun s => some (.nrm, { s with t8 := { Set := 0, State := 0, Seq := 0, Rows := 0, Bytes := 0, Readers := 0 } })
noncomputable def m151_10 : Mo Fr151 := fun s => some (.nrm, { s with t6 := { Set := 0, State := 0, Seq := 0, Rows := 0, Bytes := 0, Readers := 0 } })
noncomputable def M151 : Mo Fr151 := seqM (m151_10) (seqM (m151_9) (seqM (m151_8) (seqM (seqM (m151_7) (blockM 0 (loopM (L151_6)))) (seqM (m151_0) (retM)))))
def Spec151 (f : (List ViewInfo) → (ViewInfo → Option Bool) → (ViewInfo → ViewInfo → Option Int) → Option (ViewInfo × Bool)) : Prop := ∀ (x0 : (List ViewInfo)) (x1 : (ViewInfo → Option Bool)) (x2 : (ViewInfo → ViewInfo → Option Int)) (vx0_0 : AVal) (_ : Sl rViewInfo x0 vx0_0) (vx1_0 : AVal) (_ : rFn0 x1 vx1_0) (vx2_0 : AVal) (_ : rFn1 x2 vx2_0) (r : (ViewInfo × Bool)), f x0 x1 x2 = some r → ∀ h, run Cl 151 [vx0_0, vx1_0, vx2_0] h = some (.ret (.tup [.agg [.int .i64 r.1.Set, .int .i64 r.1.State, .int .i64 r.1.Seq, .int .i64 r.1.Rows, .int .i64 r.1.Bytes, .int .i64 r.1.Readers], .bool r.2]), h)
theorem Spec151_of {f g : (List ViewInfo) → (ViewInfo → Option Bool) → (ViewInfo → ViewInfo → Option Int) → Option (ViewInfo × Bool)} (hg : Spec151 g) (h : ∀ x0 x1 x2 r, f x0 x1 x2 = some r → g x0 x1 x2 = some r) : Spec151 f := fun x0 x1 x2 v0_ w0_ v1_ w1_ v2_ w2_ r hr => hg x0 x1 x2 v0_ w0_ v1_ w1_ v2_ w2_ r (h x0 x1 x2 r hr)
theorem R151_0 (pe pr) : Ref Cl P151_0 (Cat [true, true, true, true, false] (bodyOf Tryz.f151)) m151_0 (post P151_1 pe pr) := by
  rintro s ⟨t, h⟩ hp x s' hm
  obtain ⟨i6, i8, hl, a6, g6, l6, a8, g8, l8, a9, ne6_8⟩ : P151_0' s t h := hp
  unfold m151_0 at hm
  have k8 : loadA h true 6 (.ptr i8 0) = some (.agg [.int .i64 s.t8.Set, .int .i64 s.t8.State, .int .i64 s.t8.Seq, .int .i64 s.t8.Rows, .int .i64 s.t8.Bytes, .int .i64 s.t8.Readers]) := by rw [Heap.load_gen g8 (Nat.le_of_ble_eq_true rfl)]; first | rfl | exact ofc6 _ _ _ _ _ _ _
  obtain ⟨H9, eH9⟩ : ∃ x : AHeap, x = h.set i6 (some (.arr [.int .i64 s.t8.Set, .int .i64 s.t8.State, .int .i64 s.t8.Seq, .int .i64 s.t8.Rows, .int .i64 s.t8.Bytes, .int .i64 s.t8.Readers])) := ⟨_, rfl⟩
  have k10 : storeA h 6 (.ptr i6 0) (.agg [.int .i64 s.t8.Set, .int .i64 s.t8.State, .int .i64 s.t8.Seq, .int .i64 s.t8.Rows, .int .i64 s.t8.Bytes, .int .i64 s.t8.Readers]) = some H9 := by rw [eH9]; exact Heap.store_gen g6 (show (.agg [.int .i64 s.t8.Set, .int .i64 s.t8.State, .int .i64 s.t8.Seq, .int .i64 s.t8.Rows, .int .i64 s.t8.Bytes, .int .i64 s.t8.Readers] : AVal).cells = [.int .i64 s.t8.Set, .int .i64 s.t8.State, .int .i64 s.t8.Seq, .int .i64 s.t8.Rows, .int .i64 s.t8.Bytes, .int .i64 s.t8.Readers] by simp only [Zc]) rfl (by simp only [Zc]) (Nat.le_of_ble_eq_true rfl) rfl
  have k11 := gsn eH9 (Ne.symm ne6_8) g8
  have k12 := nxs eH9 l8
  have k13 := gse eH9
  have k14 := nxs eH9 l6
  cases hm
  refine ⟨⟨_, _⟩, by simp only [bodyOf, Tryz.f151, Cat, Zs, awanted, aoper, evalO, put, acallOp, abuiltin, Nat.reduceEqDiff, Nat.reduceLT, ofV, ofCell, ↓reduceIte, hl, a6, a8, a9, CP, k8, Ty.ld207, k10, Ty.st207]; exact rfl, ?_⟩
  show P151_1 _ _
  exact ⟨i6, by simp [hl], by simp [a6], k13, k14, by simp [hl]⟩
theorem R151_1 (pe pr) : Ref Cl P151_2 (Cat [true, true, true, false, true, true, true, true, true, true] (bodyOf Tryz.f151)) m151_1 (post P151_2 pe pr) := by
  rintro s ⟨t, h⟩ hp x s' hm
  obtain ⟨w1_0, w2_0, i6, i8, w12_0, hl, a1, r1_0, a2, r2_0, a6, g6, l6, a8, g8, l8, a9, a12, r12_0, a13, a14, ne6_8⟩ : P151_2' s t h := hp
  unfold m151_1 at hm
  cases hm
  refine ⟨⟨_, _⟩, by simp only [bodyOf, Tryz.f151, Cat, Zs, awanted, aoper, evalO, put, acallOp, abuiltin, Nat.reduceEqDiff, Nat.reduceLT, ofV, ofCell, ↓reduceIte, hl, a1, a2, a6, a8, a9, a12, a13, a14, CP]; exact rfl, ?_⟩
  show P151_2 _ _
  exact ⟨w1_0, w2_0, i6, i8, w12_0, by simp [hl], by simp [a1], r1_0, by simp [a2], r2_0, by simp [a6], g6, l6, by simp [a8], g8, l8, by simp [a9], by simp [a12], r12_0, by simp [a13], by simp [hl], ne6_8⟩
theorem R151_2 (pe pr) : Ref Cl P151_3 (Cat [true, true, true, false, true, true, true, true, true, false, true, true, true, false] (bodyOf Tryz.f151)) m151_2 (post P151_2 pe pr) := by
  rintro s ⟨t, h⟩ hp x s' hm
  obtain ⟨w1_0, w2_0, i6, i8, i11, w12_0, hl, a1, r1_0, a2, r2_0, a6, g6, l6, a8, g8, l8, a11, g11, l11, a12, r12_0, a13, a14, ne6_8, ne6_11, ne8_11⟩ : P151_3' s t h := hp
  unfold m151_2 at hm
  have k24 : loadA h true 6 (.ptr i11 0) = some (.agg [.int .i64 s.t11.Set, .int .i64 s.t11.State, .int .i64 s.t11.Seq, .int .i64 s.t11.Rows, .int .i64 s.t11.Bytes, .int .i64 s.t11.Readers]) := by rw [Heap.load_gen g11 (Nat.le_of_ble_eq_true rfl)]; first | rfl | exact ofc6 _ _ _ _ _ _ _
  obtain ⟨H25, eH25⟩ : ∃ x : AHeap, x = h.set i8 (some (.arr [.int .i64 s.t11.Set, .int .i64 s.t11.State, .int .i64 s.t11.Seq, .int .i64 s.t11.Rows, .int .i64 s.t11.Bytes, .int .i64 s.t11.Readers])) := ⟨_, rfl⟩
  have k26 : storeA h 6 (.ptr i8 0) (.agg [.int .i64 s.t11.Set, .int .i64 s.t11.State, .int .i64 s.t11.Seq, .int .i64 s.t11.Rows, .int .i64 s.t11.Bytes, .int .i64 s.t11.Readers]) = some H25 := by rw [eH25]; exact Heap.store_gen g8 (show (.agg [.int .i64 s.t11.Set, .int .i64 s.t11.State, .int .i64 s.t11.Seq, .int .i64 s.t11.Rows, .int .i64 s.t11.Bytes, .int .i64 s.t11.Readers] : AVal).cells = [.int .i64 s.t11.Set, .int .i64 s.t11.State, .int .i64 s.t11.Seq, .int .i64 s.t11.Rows, .int .i64 s.t11.Bytes, .int .i64 s.t11.Readers] by simp only [Zc]) rfl (by simp only [Zc]) (Nat.le_of_ble_eq_true rfl) rfl
  have k27 := gsn eH25 ne6_8 g6
  have k28 := nxs eH25 l6
  have k29 := gsn eH25 (Ne.symm ne8_11) g11
  have k30 := nxs eH25 l11
  have k31 := gse eH25
  have k32 := nxs eH25 l8
  cases hm
  refine ⟨⟨_, _⟩, by simp only [bodyOf, Tryz.f151, Cat, Zs, awanted, aoper, evalO, put, acallOp, abuiltin, Nat.reduceEqDiff, Nat.reduceLT, ofV, ofCell, ↓reduceIte, hl, a1, a2, a6, a8, a11, a12, a13, a14, CP, k24, Ty.ld207, k26, Ty.st207]; exact rfl, ?_⟩
  show P151_2 _ _
  exact ⟨w1_0, w2_0, i6, i8, w12_0, by simp [hl], by simp [a1], r1_0, by simp [a2], r2_0, by simp [a6], k27, k28, by simp [a8], k31, k32, by simp [hl], by simp [a12], r12_0, by simp [a13], by simp [a14], ne6_8⟩
theorem R151_3 (pe pr) : Ref Cl P151_5 (Cat [true, true, true, false, true, true, true, true, true, false, true, true, false] (bodyOf Tryz.f151)) m151_3 (post P151_4 pe pr) := by
  rintro s ⟨t, h⟩ hp x s' hm
  obtain ⟨w1_0, w2_0, i6, i8, i11, w12_0, hl, a1, r1_0, a2, r2_0, a6, g6, l6, a8, g8, l8, a9, a11, g11, l11, a12, r12_0, a13, a14, ne6_8, ne6_11, ne8_11⟩ : P151_5' s t h := hp
  unfold m151_3 at hm
  have k42 : loadA h true 6 (.ptr i11 0) = some (.agg [.int .i64 s.t11.Set, .int .i64 s.t11.State, .int .i64 s.t11.Seq, .int .i64 s.t11.Rows, .int .i64 s.t11.Bytes, .int .i64 s.t11.Readers]) := by rw [Heap.load_gen g11 (Nat.le_of_ble_eq_true rfl)]; first | rfl | exact ofc6 _ _ _ _ _ _ _
  obtain ⟨z43, hz43, hm⟩ := Option.bind_eq_some_iff.1 hm
  obtain ⟨Fu44, Lu44, qu44, rLu44, sLu44, Hu44⟩ := r1_0
  subst qu44
  have iu44 := Hu44 s.t11  _ hz43
  cases hb45 : z43 with
  | true =>
    all_goals (
      try simp only [hb45, Zb] at hm
      cases hb46 : (!s.t9) with
      | true =>
        all_goals (
          try simp only [hb46, Zb] at hm
          cases hm
          refine ⟨⟨_, _⟩, by simp only [bodyOf, Tryz.f151, Cat, Zs, awanted, aoper, evalO, put, acallOp, abuiltin, Nat.reduceEqDiff, Nat.reduceLT, ofV, ofCell, ↓reduceIte, hl, a1, a2, a6, a8, a9, a11, a12, a13, a14, CP, k42, Ty.ld207, iu44, aun_not, hb45, hb46]; exact rfl, ?_⟩
          show P151_4 _ _
          exact ⟨(.fn (.func Fu44) [] Lu44 : AVal), w2_0, i6, i8, i11, w12_0, by simp [hl], by simp [a1], ⟨Fu44, Lu44, rfl, rLu44, sLu44, Hu44⟩, by simp [a2], r2_0, by simp [a6], g6, l6, by simp [a8], g8, l8, by simp [a9], by simp [a11], g11, l11, by simp [a12], r12_0, by simp [a13], by simp [a14], by simp [hl, hb45, hb46], ne6_8, ne6_11, ne8_11⟩)
      | false =>
        all_goals (
          try simp only [hb46, Zb] at hm
          have k47 : loadA h true 6 (.ptr i11 0) = some (.agg [.int .i64 s.t11.Set, .int .i64 s.t11.State, .int .i64 s.t11.Seq, .int .i64 s.t11.Rows, .int .i64 s.t11.Bytes, .int .i64 s.t11.Readers]) := by rw [Heap.load_gen g11 (Nat.le_of_ble_eq_true rfl)]; first | rfl | exact ofc6 _ _ _ _ _ _ _
          have k48 : loadA h true 6 (.ptr i8 0) = some (.agg [.int .i64 s.t8.Set, .int .i64 s.t8.State, .int .i64 s.t8.Seq, .int .i64 s.t8.Rows, .int .i64 s.t8.Bytes, .int .i64 s.t8.Readers]) := by rw [Heap.load_gen g8 (Nat.le_of_ble_eq_true rfl)]; first | rfl | exact ofc6 _ _ _ _ _ _ _
          obtain ⟨z49, hz49, hm⟩ := Option.bind_eq_some_iff.1 hm
          obtain ⟨Fu50, Lu50, qu50, rLu50, sLu50, Hu50⟩ := r2_0
          subst qu50
          have iu50 := Hu50 s.t11 s.t8  _ hz49
          try simp only [Zb] at hm
          cases hm
          refine ⟨⟨_, _⟩, by simp only [bodyOf, Tryz.f151, Cat, Zs, awanted, aoper, evalO, put, acallOp, abuiltin, Nat.reduceEqDiff, Nat.reduceLT, ofV, ofCell, ↓reduceIte, hl, a1, a2, a6, a8, a9, a11, a12, a13, a14, CP, k42, Ty.ld207, iu44, aun_not, k47, k48, iu50, hb45, hb46]; exact rfl, ?_⟩
          show P151_4 _ _
          exact ⟨(.fn (.func Fu44) [] Lu44 : AVal), (.fn (.func Fu50) [] Lu50 : AVal), i6, i8, i11, w12_0, by simp [hl], by simp [a1], ⟨Fu44, Lu44, rfl, rLu44, sLu44, Hu44⟩, by simp [a2], ⟨Fu50, Lu50, rfl, rLu50, sLu50, Hu50⟩, by simp [a6], g6, l6, by simp [a8], g8, l8, by simp [a9], by simp [a11], g11, l11, by simp [a12], r12_0, by simp [a13], by simp [a14], by simp [hl, hb45, hb46], ne6_8, ne6_11, ne8_11⟩))
  | false =>
    all_goals (
      try simp only [hb45, Zb] at hm
      cases hm
      refine ⟨⟨_, _⟩, by simp only [bodyOf, Tryz.f151, Cat, Zs, awanted, aoper, evalO, put, acallOp, abuiltin, Nat.reduceEqDiff, Nat.reduceLT, ofV, ofCell, ↓reduceIte, hl, a1, a2, a6, a8, a9, a11, a12, a13, a14, CP, k42, Ty.ld207, iu44, hb45]; exact rfl, ?_⟩
      show P151_4 _ _
      exact ⟨(.fn (.func Fu44) [] Lu44 : AVal), w2_0, i6, i8, i11, w12_0, by simp [hl], by simp [a1], ⟨Fu44, Lu44, rfl, rLu44, sLu44, Hu44⟩, by simp [a2], r2_0, by simp [a6], g6, l6, by simp [a8], g8, l8, by simp [a9], by simp [a11], g11, l11, by simp [a12], r12_0, by simp [a13], by simp [a14], by simp [hl, hb45], ne6_8, ne6_11, ne8_11⟩)
theorem R151_4 (pe pr) : Ref Cl P151_2 (Cat [true, true, true, false, true, true, true, true, true, false, true, false] (bodyOf Tryz.f151)) m151_4 (post P151_5 pe pr) := by
  rintro s ⟨t, h⟩ hp x s' hm
  obtain ⟨w1_0, w2_0, i6, i8, w12_0, hl, a1, r1_0, a2, r2_0, a6, g6, l6, a8, g8, l8, a9, a12, r12_0, a13, a14, ne6_8⟩ : P151_2' s t h := hp
  unfold m151_4 at hm
  obtain ⟨y72, hy72, hm⟩ := Option.bind_eq_some_iff.1 hm
  obtain ⟨cu73, du73, eu73, iu73, _⟩ := Sl.ix rViewInfo_p r12_0 hy72
  have eu73 := eu73; unfold rViewInfo at eu73; subst eu73
  obtain ⟨H74, eH74⟩ : ∃ x : AHeap, x = h.new (.arr [.int .i64 0, .int .i64 0, .int .i64 0, .int .i64 0, .int .i64 0, .int .i64 0]) := ⟨_, rfl⟩
  obtain ⟨id75, eid75⟩ : ∃ x : Nat, x = h.next := ⟨_, rfl⟩
  have k76 := gnl eH74 l6 g6
  have k77 : i6 < H74.next := by rw [eH74, Heap.new_next]; exact Nat.lt_succ_of_lt l6
  have k78 := gnl eH74 l8 g8
  have k79 : i8 < H74.next := by rw [eH74, Heap.new_next]; exact Nat.lt_succ_of_lt l8
  have k80 : H74.get id75 = some (.arr [.int .i64 0, .int .i64 0, .int .i64 0, .int .i64 0, .int .i64 0, .int .i64 0]) := by rw [eH74, eid75]; exact Heap.get_new_eq
  have k81 : id75 < H74.next := by rw [eH74, eid75, Heap.new_next]; exact Nat.lt_succ_self _
  have k82 : i6 ≠ id75 := by rw [eid75]; exact Nat.ne_of_lt l6
  have k83 : i8 ≠ id75 := by rw [eid75]; exact Nat.ne_of_lt l8
  have k84 : abox h (.agg [.int .i64 0, .int .i64 0, .int .i64 0, .int .i64 0, .int .i64 0, .int .i64 0]) = some (.ptr id75 0, H74) := by simp only [abox, eH74, eid75, Zc, if_true]
  obtain ⟨H85, eH85⟩ : ∃ x : AHeap, x = H74.set id75 (some (.arr [.int .i64 y72.Set, .int .i64 y72.State, .int .i64 y72.Seq, .int .i64 y72.Rows, .int .i64 y72.Bytes, .int .i64 y72.Readers])) := ⟨_, rfl⟩
  have k86 : storeA H74 6 (.ptr id75 0) (.agg [.int .i64 y72.Set, .int .i64 y72.State, .int .i64 y72.Seq, .int .i64 y72.Rows, .int .i64 y72.Bytes, .int .i64 y72.Readers]) = some H85 := by rw [eH85]; exact Heap.store_gen k80 (show (.agg [.int .i64 y72.Set, .int .i64 y72.State, .int .i64 y72.Seq, .int .i64 y72.Rows, .int .i64 y72.Bytes, .int .i64 y72.Readers] : AVal).cells = [.int .i64 y72.Set, .int .i64 y72.State, .int .i64 y72.Seq, .int .i64 y72.Rows, .int .i64 y72.Bytes, .int .i64 y72.Readers] by simp only [Zc]) rfl (by simp only [Zc]) (Nat.le_of_ble_eq_true rfl) rfl
  have k87 := gsn eH85 k82 k76
  have k88 := nxs eH85 k77
  have k89 := gsn eH85 k83 k78
  have k90 := nxs eH85 k79
  have k91 := gse eH85
  have k92 := nxs eH85 k81
  cases hm
  refine ⟨⟨_, _⟩, by simp only [bodyOf, Tryz.f151, Cat, Zs, awanted, aoper, evalO, put, acallOp, abuiltin, Nat.reduceEqDiff, Nat.reduceLT, ofV, ofCell, ↓reduceIte, hl, a1, a2, a6, a8, a9, a12, a13, a14, CP, Ty.ix68, iu73, Ty.ld207, ld_ip, ofc6, List.drop_succ_cons, List.drop_zero, List.length_cons, List.length_nil, Ty.ze207, Ty.own_plan_go_18, k84, k86, Ty.st207]; exact rfl, ?_⟩
  show P151_5 _ _
  exact ⟨w1_0, w2_0, i6, i8, id75, w12_0, by simp [hl], by simp [a1], r1_0, by simp [a2], r2_0, by simp [a6], k87, k88, by simp [a8], k89, k90, by simp [a9], by simp [hl], k91, k92, by simp [a12], r12_0, by simp [a13], by simp [a14], ne6_8, k82, k83⟩
theorem R151_5 (pe pr) : Ref Cl P151_2 (Cat [true, true, true, false, true, true, true, false] (bodyOf Tryz.f151)) m151_5 (post P151_6 pe pr) := by
  rintro s ⟨t, h⟩ hp x s' hm
  obtain ⟨w1_0, w2_0, i6, i8, w12_0, hl, a1, r1_0, a2, r2_0, a6, g6, l6, a8, g8, l8, a9, a12, r12_0, a13, a14, ne6_8⟩ : P151_2' s t h := hp
  unfold m151_5 at hm
  cases hm
  refine ⟨⟨_, _⟩, by simp only [bodyOf, Tryz.f151, Cat, Zs, awanted, aoper, evalO, put, acallOp, abuiltin, Nat.reduceEqDiff, Nat.reduceLT, ofV, ofCell, ↓reduceIte, hl, a1, a2, a6, a8, a9, a12, a13, a14, CP]; exact rfl, ?_⟩
  show P151_6 _ _
  exact ⟨w1_0, w2_0, i6, i8, w12_0, by simp [hl], by simp [a1], r1_0, by simp [a2], r2_0, by simp [a6], g6, l6, by simp [a8], g8, l8, by simp [a9], by simp [a12], r12_0, by simp [a13], by simp [a14], by simp [hl], ne6_8⟩
theorem R151_7 (pe pr) : Ref Cl P151_7 (Cat [true, true, true, false, false] (bodyOf Tryz.f151)) m151_7 (post P151_2 pe pr) := by
  rintro s ⟨t, h⟩ hp x s' hm
  obtain ⟨w0_0, w1_0, w2_0, i6, i8, hl, a0, r0_0, a1, r1_0, a2, r2_0, a6, g6, l6, a8, g8, l8, a9, ne6_8⟩ : P151_7' s t h := hp
  unfold m151_7 at hm
  have lu94 := fun h => Sl.len r0_0 Ty.un68 h
  cases hm
  refine ⟨⟨_, _⟩, by simp only [bodyOf, Tryz.f151, Cat, Zs, awanted, aoper, evalO, put, acallOp, abuiltin, Nat.reduceEqDiff, Nat.reduceLT, ofV, ofCell, ↓reduceIte, hl, a0, a1, a2, a6, a8, a9, CP, lu94]; exact rfl, ?_⟩
  show P151_2 _ _
  exact ⟨w1_0, w2_0, i6, i8, w0_0, by simp [hl], by simp [a1], r1_0, by simp [a2], r2_0, by simp [a6], g6, l6, by simp [a8], g8, l8, by simp [a9], by simp [hl], r0_0, by simp [hl], by simp [hl], ne6_8⟩
theorem R151_8 (pe pr) : Ref Cl P151_8 (Cat [true, true, false] (bodyOf Tryz.f151)) m151_8 (post P151_7 pe pr) := by
  rintro s ⟨t, h⟩ hp x s' hm
  obtain ⟨w0_0, w1_0, w2_0, i6, i8, hl, a0, r0_0, a1, r1_0, a2, r2_0, a6, g6, l6, a8, g8, l8, ne6_8⟩ : P151_8' s t h := hp
  unfold m151_8 at hm
  cases hm
  refine ⟨⟨_, _⟩, by simp only [bodyOf, Tryz.f151, Cat, Zs, awanted, aoper, evalO, put, acallOp, abuiltin, Nat.reduceEqDiff, Nat.reduceLT, ofV, ofCell, ↓reduceIte, hl, a0, a1, a2, a6, a8, CP]; exact rfl, ?_⟩
  show P151_7 _ _
  exact ⟨w0_0, w1_0, w2_0, i6, i8, by simp [hl], by simp [a0], r0_0, by simp [a1], r1_0, by simp [a2], r2_0, by simp [a6], g6, l6, by simp [a8], g8, l8, by simp [hl], ne6_8⟩
theorem R151_9 (pe pr) : Ref Cl P151_9 (Cat [true, false] (bodyOf Tryz.f151)) m151_9 (post P151_8 pe pr) := by
  rintro s ⟨t, h⟩ hp x s' hm
  obtain ⟨w0_0, w1_0, w2_0, i6, hl, a0, r0_0, a1, r1_0, a2, r2_0, a6, g6, l6⟩ : P151_9' s t h := hp
  unfold m151_9 at hm
  obtain ⟨H103, eH103⟩ : ∃ x : AHeap, x = h.new (.arr [.int .i64 0, .int .i64 0, .int .i64 0, .int .i64 0, .int .i64 0, .int .i64 0]) := ⟨_, rfl⟩
  obtain ⟨id104, eid104⟩ : ∃ x : Nat, x = h.next := ⟨_, rfl⟩
  have k105 := gnl eH103 l6 g6
  have k106 : i6 < H103.next := by rw [eH103, Heap.new_next]; exact Nat.lt_succ_of_lt l6
  have k107 : H103.get id104 = some (.arr [.int .i64 0, .int .i64 0, .int .i64 0, .int .i64 0, .int .i64 0, .int .i64 0]) := by rw [eH103, eid104]; exact Heap.get_new_eq
  have k108 : id104 < H103.next := by rw [eH103, eid104, Heap.new_next]; exact Nat.lt_succ_self _
  have k109 : i6 ≠ id104 := by rw [eid104]; exact Nat.ne_of_lt l6
  have k110 : abox h (.agg [.int .i64 0, .int .i64 0, .int .i64 0, .int .i64 0, .int .i64 0, .int .i64 0]) = some (.ptr id104 0, H103) := by simp only [abox, eH103, eid104, Zc, if_true]
  cases hm
  refine ⟨⟨_, _⟩, by simp only [bodyOf, Tryz.f151, Cat, Zs, awanted, aoper, evalO, put, acallOp, abuiltin, Nat.reduceEqDiff, Nat.reduceLT, ofV, ofCell, ↓reduceIte, hl, a0, a1, a2, a6, CP, Ty.ze207, Ty.own_plan_go_16, k110]; exact rfl, ?_⟩
  show P151_8 _ _
  exact ⟨w0_0, w1_0, w2_0, i6, id104, by simp [hl], by simp [a0], r0_0, by simp [a1], r1_0, by simp [a2], r2_0, by simp [a6], k105, k106, by simp [hl], k107, k108, k109⟩
theorem R151_10 (pe pr) : Ref Cl P151_10 (Cat [false] (bodyOf Tryz.f151)) m151_10 (post P151_9 pe pr) := by
  rintro s ⟨t, h⟩ hp x s' hm
  obtain ⟨w0_0, w1_0, w2_0, hl, a0, r0_0, a1, r1_0, a2, r2_0⟩ : P151_10' s t h := hp
  unfold m151_10 at hm
  obtain ⟨H116, eH116⟩ : ∃ x : AHeap, x = h.new (.arr [.int .i64 0, .int .i64 0, .int .i64 0, .int .i64 0, .int .i64 0, .int .i64 0]) := ⟨_, rfl⟩
  obtain ⟨id117, eid117⟩ : ∃ x : Nat, x = h.next := ⟨_, rfl⟩
  have k118 : H116.get id117 = some (.arr [.int .i64 0, .int .i64 0, .int .i64 0, .int .i64 0, .int .i64 0, .int .i64 0]) := by rw [eH116, eid117]; exact Heap.get_new_eq
  have k119 : id117 < H116.next := by rw [eH116, eid117, Heap.new_next]; exact Nat.lt_succ_self _
  have k120 : abox h (.agg [.int .i64 0, .int .i64 0, .int .i64 0, .int .i64 0, .int .i64 0, .int .i64 0]) = some (.ptr id117 0, H116) := by simp only [abox, eH116, eid117, Zc, if_true]
  cases hm
  refine ⟨⟨_, _⟩, by simp only [bodyOf, Tryz.f151, Cat, Zs, awanted, aoper, evalO, put, acallOp, abuiltin, Nat.reduceEqDiff, Nat.reduceLT, ofV, ofCell, ↓reduceIte, hl, a0, a1, a2, CP, Ty.ze207, Ty.own_plan_go_15, k120]; exact rfl, ?_⟩
  show P151_9 _ _
  exact ⟨w0_0, w1_0, w2_0, id117, by simp [hl], by simp [a0], r0_0, by simp [a1], r1_0, by simp [a2], r2_0, by simp [hl], k118, k119⟩
theorem B151 : Ref Cl P151_10 (bodyOf Tryz.f151) (M151) (post P151_1 (fun _ _ _ => False) P151_1) := by
  rw [show bodyOf Tryz.f151 = .seq (Cat [false] (bodyOf Tryz.f151)) (.seq (Cat [true, false] (bodyOf Tryz.f151)) (.seq (Cat [true, true, false] (bodyOf Tryz.f151)) (.seq (.seq (Cat [true, true, true, false, false] (bodyOf Tryz.f151)) (.block 0 (.loop (.seq (Cat [true, true, true, false, true, true, true, false] (bodyOf Tryz.f151)) (.seq (.cond (.tmp 15) (.skip) (.exit 0)) (.seq (.block 1 (.seq (Cat [true, true, true, false, true, true, true, true, true, false, true, false] (bodyOf Tryz.f151)) (.seq (Cat [true, true, true, false, true, true, true, true, true, false, true, true, false] (bodyOf Tryz.f151)) (.cond (.tmp 31) (Cat [true, true, true, false, true, true, true, true, true, false, true, true, true, false] (bodyOf Tryz.f151)) (.skip))))) (Cat [true, true, true, false, true, true, true, true, true, true] (bodyOf Tryz.f151)))))))) (.seq (Cat [true, true, true, true, false] (bodyOf Tryz.f151)) (.ret))))) from rfl]
  unfold M151
  exact ref_seq (R151_10 _ _) (ref_seq (R151_9 _ _) (ref_seq (R151_8 _ _) (ref_seq (ref_seq (R151_7 _ _) (ref_block (ref_loop (P := P151_2) (ref_weak (P' := P151_2) (fun s st hp => hp) (ref_seq (R151_5 _ _) (ref_seq (ref_cond (P := P151_6) (c := fun s => s.t15) (fun s st hp => by obtain ⟨w1_0, w2_0, i6, i8, w12_0, hl, a1, r1_0, a2, r2_0, a6, g6, l6, a8, g8, l8, a9, a12, r12_0, a13, a14, a15, ne6_8⟩ := (hp : P151_6' s st.tmps st.h); simp only [evalO, a15, Option.getD_some]) (ref_weak (P' := P151_2) (fun s st hp => by obtain ⟨w1_0, w2_0, i6, i8, w12_0, hl, a1, r1_0, a2, r2_0, a6, g6, l6, a8, g8, l8, a9, a12, r12_0, a13, a14, a15, ne6_8⟩ := (hp : P151_6' s st.tmps st.h); exact (⟨w1_0, w2_0, i6, i8, w12_0, hl, a1, r1_0, a2, r2_0, a6, g6, l6, a8, g8, l8, a9, a12, r12_0, a13, a14, ne6_8⟩ : P151_2' s st.tmps st.h)) (ref_skip (fun s st hp => hp))) (ref_weak (P' := P151_0) (fun s st hp => by obtain ⟨w1_0, w2_0, i6, i8, w12_0, hl, a1, r1_0, a2, r2_0, a6, g6, l6, a8, g8, l8, a9, a12, r12_0, a13, a14, a15, ne6_8⟩ := (hp : P151_6' s st.tmps st.h); exact (⟨i6, i8, hl, a6, g6, l6, a8, g8, l8, a9, ne6_8⟩ : P151_0' s st.tmps st.h)) (ref_exit (fun s st hp => hp)))) (ref_seq (ref_block (ref_seq (R151_4 _ _) (ref_seq (R151_3 _ _) (ref_cond (P := P151_4) (c := fun s => s.t31) (fun s st hp => by obtain ⟨w1_0, w2_0, i6, i8, i11, w12_0, hl, a1, r1_0, a2, r2_0, a6, g6, l6, a8, g8, l8, a9, a11, g11, l11, a12, r12_0, a13, a14, a31, ne6_8, ne6_11, ne8_11⟩ := (hp : P151_4' s st.tmps st.h); simp only [evalO, a31, Option.getD_some]) (ref_weak (P' := P151_3) (fun s st hp => by obtain ⟨w1_0, w2_0, i6, i8, i11, w12_0, hl, a1, r1_0, a2, r2_0, a6, g6, l6, a8, g8, l8, a9, a11, g11, l11, a12, r12_0, a13, a14, a31, ne6_8, ne6_11, ne8_11⟩ := (hp : P151_4' s st.tmps st.h); exact (⟨w1_0, w2_0, i6, i8, i11, w12_0, hl, a1, r1_0, a2, r2_0, a6, g6, l6, a8, g8, l8, a11, g11, l11, a12, r12_0, a13, a14, ne6_8, ne6_11, ne8_11⟩ : P151_3' s st.tmps st.h)) (R151_2 _ _)) (ref_weak (P' := P151_2) (fun s st hp => by obtain ⟨w1_0, w2_0, i6, i8, i11, w12_0, hl, a1, r1_0, a2, r2_0, a6, g6, l6, a8, g8, l8, a9, a11, g11, l11, a12, r12_0, a13, a14, a31, ne6_8, ne6_11, ne8_11⟩ := (hp : P151_4' s st.tmps st.h); exact (⟨w1_0, w2_0, i6, i8, w12_0, hl, a1, r1_0, a2, r2_0, a6, g6, l6, a8, g8, l8, a9, a12, r12_0, a13, a14, ne6_8⟩ : P151_2' s st.tmps st.h)) (ref_skip (fun s st hp => hp))))))) (R151_1 _ _)))))))) (ref_seq (R151_0 _ _) (ref_ret (fun s st hp => hp))))))
noncomputable def G151 (x0 : (List ViewInfo)) (x1 : (ViewInfo → Option Bool)) (x2 : (ViewInfo → ViewInfo → Option Int)) : Option (ViewInfo × Bool) := match M151 { (default : Fr151) with t0 := x0, t1 := x1, t2 := x2 } with
  | some (.nrm, s) => some (s.t6, s.t7)
  | some (.ret, s) => some (s.t6, s.t7)
  | _ => none
theorem G151_spec : Spec151 (G151) := by
  intro x0 x1 x2 vx0_0 hvx0_0 vx1_0 hvx1_0 vx2_0 hvx2_0 r hr
  unfold G151 at hr
  cases hm : M151 { (default : Fr151) with t0 := x0, t1 := x1, t2 := x2 } with
  | none => rw [hm] at hr; cases hr
  | some q =>
    obtain ⟨x, s⟩ := q
    rw [hm] at hr
    have hx : x = .nrm ∨ x = .ret := by cases x <;> first | exact .inl rfl | exact .inr rfl | cases hr
    have hr : (s.t6, s.t7) = r := by cases x <;> first | exact Option.some.inj hr | cases hr
    subst hr
    have hp0 : P151_10' ({ (default : Fr151) with t0 := x0, t1 := x1, t2 := x2 }) (slots Tryz.f151 (stripL [vx0_0, vx1_0, vx2_0])) bare := ⟨(strip vx0_0 : AVal), (strip vx1_0 : AVal), (strip vx2_0 : AVal), rfl, rfl, hvx0_0.strip rViewInfo_p, rfl, rFn0_strip hvx1_0, rfl, rFn1_strip hvx2_0⟩
    obtain ⟨v, hR, hrun⟩ := run_of_ref (C := Cl) (f := 151) (fn := Tryz.f151) Tryz.func151 rfl rfl rfl rfl (args := [vx0_0, vx1_0, vx2_0]) (by simp only [refsL, refs, List.append_nil, hvx0_0.refs rViewInfo_p, rFn0_refs hvx1_0, rFn1_refs hvx2_0]) (B151) (s0 := { (default : Fr151) with t0 := x0, t1 := x1, t2 := x2 }) hp0 hm hx (R := fun v => v = .tup [.agg [.int .i64 s.t6.Set, .int .i64 s.t6.State, .int .i64 s.t6.Seq, .int .i64 s.t6.Rows, .int .i64 s.t6.Bytes, .int .i64 s.t6.Readers], .bool s.t7]) (by
      have key : ∀ st : ASt, P151_1 s st → ∃ vs v, aresults Cl Tryz.f151.results.toList st = some vs ∧ Nrm [] st.h (packRes vs) v ∧ (fun v => v = .tup [.agg [.int .i64 s.t6.Set, .int .i64 s.t6.State, .int .i64 s.t6.Seq, .int .i64 s.t6.Rows, .int .i64 s.t6.Bytes, .int .i64 s.t6.Readers], .bool s.t7]) v := by
        intro st hp
        obtain ⟨i6, hl, a6, g6, l6, a7⟩ := (hp : P151_1' s st.tmps st.h)
        have ld6 : loadA st.h true 6 (.ptr i6 0) = some (.agg [.int .i64 s.t6.Set, .int .i64 s.t6.State, .int .i64 s.t6.Seq, .int .i64 s.t6.Rows, .int .i64 s.t6.Bytes, .int .i64 s.t6.Readers]) := by rw [Heap.load_gen g6 (Nat.zero_le _)]; first | rfl | exact ofc6 _ _ _ _ _ _ _
        exact ⟨[.agg [.int .i64 s.t6.Set, .int .i64 s.t6.State, .int .i64 s.t6.Seq, .int .i64 s.t6.Rows, .int .i64 s.t6.Bytes, .int .i64 s.t6.Readers], .bool s.t7], _, by simp only [show Tryz.f151.results.toList = [ResultVar.cell 6 207, ResultVar.tmp 7] from rfl, aresults, ares1, CP, a6, a7, Option.getD_some, ld6, Ty.ld207], (Nrm.tup (NrmL.cons (Nrm.of (w := .agg [.int .i64 s.t6.Set, .int .i64 s.t6.State, .int .i64 s.t6.Seq, .int .i64 s.t6.Rows, .int .i64 s.t6.Bytes, .int .i64 s.t6.Readers]) (by simp only [refsL, refs, List.append_nil])) (NrmL.cons (Nrm.of (w := .bool s.t7) (by simp only [refsL, refs, List.append_nil])) NrmL.nil))), rfl⟩
      intro st hq
      rcases hx with rfl | rfl
      · exact key st hq
      · exact key st hq)
    subst hR
    exact hrun
/-! ### caisson/caissonref11.bit -/
structure Fr175 where
  t0 : Int
  t2 : Int
  t3 : Int
  t4 : Int
  t7 : Bool
instance : Inhabited Fr175 := ⟨⟨0, 0, 0, 0, false⟩⟩
def P175_0' (s : Fr175) (t : List AVal) (h : AHeap) : Prop := t.length = 13 ∧ t[3]? = some (.int .i64 s.t3)
def P175_0 (s : Fr175) (st : ASt) : Prop := P175_0' s st.tmps st.h
def P175_1' (s : Fr175) (t : List AVal) (h : AHeap) : Prop := t.length = 13 ∧ t[2]? = some (.int .i64 s.t2)
def P175_1 (s : Fr175) (st : ASt) : Prop := P175_1' s st.tmps st.h
def P175_2' (s : Fr175) (t : List AVal) (h : AHeap) : Prop := t.length = 13 ∧ t[0]? = some (.int .i64 s.t0) ∧ t[3]? = some (.int .i64 s.t3) ∧ t[4]? = some (.int .i64 s.t4)
def P175_2 (s : Fr175) (st : ASt) : Prop := P175_2' s st.tmps st.h
def P175_3' (s : Fr175) (t : List AVal) (h : AHeap) : Prop := t.length = 13 ∧ t[0]? = some (.int .i64 s.t0) ∧ t[3]? = some (.int .i64 s.t3) ∧ t[4]? = some (.int .i64 s.t4) ∧ t[7]? = some (.bool s.t7)
def P175_3 (s : Fr175) (st : ASt) : Prop := P175_3' s st.tmps st.h
def P175_4' (s : Fr175) (t : List AVal) (h : AHeap) : Prop := t.length = 13 ∧ t[0]? = some (.int .i64 s.t0) ∧ t[3]? = some (.int .i64 s.t3)
def P175_4 (s : Fr175) (st : ASt) : Prop := P175_4' s st.tmps st.h
def P175_5' (s : Fr175) (t : List AVal) (h : AHeap) : Prop := t.length = 13 ∧ t[0]? = some (.int .i64 s.t0)
def P175_5 (s : Fr175) (st : ASt) : Prop := P175_5' s st.tmps st.h
noncomputable def m175_0 : Mo Fr175 := fun s => some (.nrm, { s with t2 := s.t3 })
noncomputable def m175_1 : Mo Fr175 := fun s => some (.nrm, { s with t4 := IntKind.wrap .i64 (s.t4 + 1) })
noncomputable def m175_2 : Mo Fr175 := fun s => some (.nrm, { s with t3 := IntKind.wrap .i64 (s.t3 * 2) })
noncomputable def m175_3 : Mo Fr175 := fun s => some (.nrm, { s with t7 := decide (s.t4 < s.t0) })
noncomputable def L175_4 : Mo Fr175 := seqM (seqM (m175_3) (condM (fun s => s.t7) (skipM) (exitM 0))) (seqM (blockM 1 (m175_2)) (m175_1))
noncomputable def m175_5 : Mo Fr175 := fun s => some (.nrm, { s with t4 := 0 })
noncomputable def m175_6 : Mo Fr175 := fun s => some (.nrm, { s with t3 := 1 })
noncomputable def m175_7 : Mo Fr175 := fun s => some (.nrm, s)
noncomputable def M175 : Mo Fr175 := seqM (m175_7) (seqM (m175_6) (seqM (seqM (m175_5) (blockM 0 (loopM (L175_4)))) (seqM (m175_0) (retM))))
def Spec175 (f : Int → Option Int) : Prop := ∀ (x0 : Int) (r : Int), f x0 = some r → ∀ h, run Cl 175 [.int .i64 x0] h = some (.ret (.int .i64 r), h)
theorem Spec175_of {f g : Int → Option Int} (hg : Spec175 g) (h : ∀ x0 r, f x0 = some r → g x0 = some r) : Spec175 f := fun x0 r hr => hg x0 r (h x0 r hr)
theorem R175_0 (pe pr) : Ref Cl P175_0 (Cat [true, true, true, false] (bodyOf Tryz.f175)) m175_0 (post P175_1 pe pr) := by
  rintro s ⟨t, h⟩ hp x s' hm
  obtain ⟨hl, a3⟩ : P175_0' s t h := hp
  unfold m175_0 at hm
  cases hm
  refine ⟨⟨_, _⟩, by simp only [bodyOf, Tryz.f175, Cat, Zs, awanted, aoper, evalO, put, acallOp, abuiltin, Nat.reduceEqDiff, Nat.reduceLT, ofV, ofCell, ↓reduceIte, hl, a3, CP]; exact rfl, ?_⟩
  show P175_1 _ _
  exact ⟨by simp [hl], by simp [hl]⟩
theorem R175_1 (pe pr) : Ref Cl P175_2 (Cat [true, true, false, true, true, true, true, true] (bodyOf Tryz.f175)) m175_1 (post P175_2 pe pr) := by
  rintro s ⟨t, h⟩ hp x s' hm
  obtain ⟨hl, a0, a3, a4⟩ : P175_2' s t h := hp
  unfold m175_1 at hm
  cases hm
  refine ⟨⟨_, _⟩, by simp only [bodyOf, Tryz.f175, Cat, Zs, awanted, aoper, evalO, put, acallOp, abuiltin, Nat.reduceEqDiff, Nat.reduceLT, ofV, ofCell, ↓reduceIte, hl, a0, a3, a4, CP]; exact rfl, ?_⟩
  show P175_2 _ _
  exact ⟨by simp [hl], by simp [a0], by simp [a3], by simp [hl]⟩
theorem R175_2 (pe pr) : Ref Cl P175_2 (Cat [true, true, false, true, true, true, true, false, true] (bodyOf Tryz.f175)) m175_2 (post P175_2 pe pr) := by
  rintro s ⟨t, h⟩ hp x s' hm
  obtain ⟨hl, a0, a3, a4⟩ : P175_2' s t h := hp
  unfold m175_2 at hm
  cases hm
  refine ⟨⟨_, _⟩, by simp only [bodyOf, Tryz.f175, Cat, Zs, awanted, aoper, evalO, put, acallOp, abuiltin, Nat.reduceEqDiff, Nat.reduceLT, ofV, ofCell, ↓reduceIte, hl, a0, a3, a4, CP]; exact rfl, ?_⟩
  show P175_2 _ _
  exact ⟨by simp [hl], by simp [a0], by simp [hl], by simp [a4]⟩
theorem R175_3 (pe pr) : Ref Cl P175_2 (Cat [true, true, false, true, true, true, false, false] (bodyOf Tryz.f175)) m175_3 (post P175_3 pe pr) := by
  rintro s ⟨t, h⟩ hp x s' hm
  obtain ⟨hl, a0, a3, a4⟩ : P175_2' s t h := hp
  unfold m175_3 at hm
  cases hm
  refine ⟨⟨_, _⟩, by simp only [bodyOf, Tryz.f175, Cat, Zs, awanted, aoper, evalO, put, acallOp, abuiltin, Nat.reduceEqDiff, Nat.reduceLT, ofV, ofCell, ↓reduceIte, hl, a0, a3, a4, CP]; exact rfl, ?_⟩
  show P175_3 _ _
  exact ⟨by simp [hl], by simp [a0], by simp [a3], by simp [a4], by simp [hl]⟩
theorem R175_5 (pe pr) : Ref Cl P175_4 (Cat [true, true, false, false] (bodyOf Tryz.f175)) m175_5 (post P175_2 pe pr) := by
  rintro s ⟨t, h⟩ hp x s' hm
  obtain ⟨hl, a0, a3⟩ : P175_4' s t h := hp
  unfold m175_5 at hm
  cases hm
  refine ⟨⟨_, _⟩, by simp only [bodyOf, Tryz.f175, Cat, Zs, awanted, aoper, evalO, put, acallOp, abuiltin, Nat.reduceEqDiff, Nat.reduceLT, ofV, ofCell, ↓reduceIte, hl, a0, a3, CP]; exact rfl, ?_⟩
  show P175_2 _ _
  exact ⟨by simp [hl], by simp [a0], by simp [a3], by simp [hl]⟩
theorem R175_6 (pe pr) : Ref Cl P175_5 (Cat [true, false] (bodyOf Tryz.f175)) m175_6 (post P175_4 pe pr) := by
  rintro s ⟨t, h⟩ hp x s' hm
  obtain ⟨hl, a0⟩ : P175_5' s t h := hp
  unfold m175_6 at hm
  cases hm
  refine ⟨⟨_, _⟩, by simp only [bodyOf, Tryz.f175, Cat, Zs, awanted, aoper, evalO, put, acallOp, abuiltin, Nat.reduceEqDiff, Nat.reduceLT, ofV, ofCell, ↓reduceIte, hl, a0, CP]; exact rfl, ?_⟩
  show P175_4 _ _
  exact ⟨by simp [hl], by simp [a0], by simp [hl]⟩
theorem R175_7 (pe pr) : Ref Cl P175_5 (Cat [false] (bodyOf Tryz.f175)) m175_7 (post P175_5 pe pr) := by
  rintro s ⟨t, h⟩ hp x s' hm
  obtain ⟨hl, a0⟩ : P175_5' s t h := hp
  unfold m175_7 at hm
  cases hm
  refine ⟨⟨_, _⟩, by simp only [bodyOf, Tryz.f175, Cat, Zs, awanted, aoper, evalO, put, acallOp, abuiltin, Nat.reduceEqDiff, Nat.reduceLT, ofV, ofCell, ↓reduceIte, hl, a0, CP]; exact rfl, ?_⟩
  show P175_5 _ _
  exact ⟨by simp [hl], by simp [a0]⟩
theorem B175 : Ref Cl P175_5 (bodyOf Tryz.f175) (M175) (post P175_1 (fun _ _ _ => False) P175_1) := by
  rw [show bodyOf Tryz.f175 = .seq (Cat [false] (bodyOf Tryz.f175)) (.seq (Cat [true, false] (bodyOf Tryz.f175)) (.seq (.seq (Cat [true, true, false, false] (bodyOf Tryz.f175)) (.block 0 (.loop (.seq (.seq (Cat [true, true, false, true, true, true, false, false] (bodyOf Tryz.f175)) (.cond (.tmp 7) (.skip) (.exit 0))) (.seq (.block 1 (Cat [true, true, false, true, true, true, true, false, true] (bodyOf Tryz.f175))) (Cat [true, true, false, true, true, true, true, true] (bodyOf Tryz.f175))))))) (.seq (Cat [true, true, true, false] (bodyOf Tryz.f175)) (.ret)))) from rfl]
  unfold M175
  exact ref_seq (R175_7 _ _) (ref_seq (R175_6 _ _) (ref_seq (ref_seq (R175_5 _ _) (ref_block (ref_loop (P := P175_2) (ref_weak (P' := P175_2) (fun s st hp => hp) (ref_seq (ref_seq (R175_3 _ _) (ref_cond (P := P175_3) (c := fun s => s.t7) (fun s st hp => by obtain ⟨hl, a0, a3, a4, a7⟩ := (hp : P175_3' s st.tmps st.h); simp only [evalO, a7, Option.getD_some]) (ref_weak (P' := P175_2) (fun s st hp => by obtain ⟨hl, a0, a3, a4, a7⟩ := (hp : P175_3' s st.tmps st.h); exact (⟨hl, a0, a3, a4⟩ : P175_2' s st.tmps st.h)) (ref_skip (fun s st hp => hp))) (ref_weak (P' := P175_0) (fun s st hp => by obtain ⟨hl, a0, a3, a4, a7⟩ := (hp : P175_3' s st.tmps st.h); exact (⟨hl, a3⟩ : P175_0' s st.tmps st.h)) (ref_exit (fun s st hp => hp))))) (ref_seq (ref_block (R175_2 _ _)) (R175_1 _ _))))))) (ref_seq (R175_0 _ _) (ref_ret (fun s st hp => hp)))))
noncomputable def G175 (x0 : Int) : Option Int := match M175 { (default : Fr175) with t0 := x0 } with
  | some (.nrm, s) => some s.t2
  | some (.ret, s) => some s.t2
  | _ => none
theorem G175_spec : Spec175 (G175) := by
  intro x0 r hr
  unfold G175 at hr
  cases hm : M175 { (default : Fr175) with t0 := x0 } with
  | none => rw [hm] at hr; cases hr
  | some q =>
    obtain ⟨x, s⟩ := q
    rw [hm] at hr
    have hx : x = .nrm ∨ x = .ret := by cases x <;> first | exact .inl rfl | exact .inr rfl | cases hr
    have hr : s.t2 = r := by cases x <;> first | exact Option.some.inj hr | cases hr
    subst hr
    have hp0 : P175_5' ({ (default : Fr175) with t0 := x0 }) (slots Tryz.f175 (stripL [.int .i64 x0])) bare := ⟨rfl, rfl⟩
    obtain ⟨v, hR, hrun⟩ := run_of_ref (C := Cl) (f := 175) (fn := Tryz.f175) Tryz.func175 rfl rfl rfl rfl (args := [.int .i64 x0]) (by simp only [refsL, refs, List.append_nil]) (B175) (s0 := { (default : Fr175) with t0 := x0 }) hp0 hm hx (R := fun v => v = .int .i64 s.t2) (by
      have key : ∀ st : ASt, P175_1 s st → ∃ vs v, aresults Cl Tryz.f175.results.toList st = some vs ∧ Nrm [] st.h (packRes vs) v ∧ (fun v => v = .int .i64 s.t2) v := by
        intro st hp
        obtain ⟨hl, a2⟩ := (hp : P175_1' s st.tmps st.h)
        exact ⟨[.int .i64 s.t2], _, by simp only [show Tryz.f175.results.toList = [ResultVar.tmp 2] from rfl, aresults, ares1, CP, a2, Option.getD_some], (Nrm.of (w := .int .i64 s.t2) (by simp only [refsL, refs, List.append_nil])), rfl⟩
      intro st hq
      rcases hx with rfl | rfl
      · exact key st hq
      · exact key st hq)
    subst hR
    exact hrun
/-! ### caisson/caissonref11.has -/
structure Fr118 where
  t0 : Int
  t1 : Int
  t4 : Bool
instance : Inhabited Fr118 := ⟨⟨0, 0, false⟩⟩
def P118_0' (s : Fr118) (t : List AVal) (h : AHeap) : Prop := t.length = 11 ∧ t[0]? = some (.int .i64 s.t0) ∧ t[1]? = some (.int .i64 s.t1)
def P118_0 (s : Fr118) (st : ASt) : Prop := P118_0' s st.tmps st.h
def P118_1' (s : Fr118) (t : List AVal) (h : AHeap) : Prop := t.length = 11 ∧ t[4]? = some (.bool s.t4)
def P118_1 (s : Fr118) (st : ASt) : Prop := P118_1' s st.tmps st.h
noncomputable def m118_0 : Mo Fr118 := fun s => (G175 s.t1).bind fun z1 => (quoT .i64 s.t0 z1).bind fun z3 => some (.nrm, { s with t4 := ((z3.tmod 2) == 1) })
noncomputable def m118_1 : Mo Fr118 := fun s => some (.nrm, s)
noncomputable def M118 : Mo Fr118 := seqM (m118_1) (seqM (m118_0) (retM))
def Spec118 (f : Int → Int → Option Bool) : Prop := ∀ (x0 : Int) (x1 : Int) (r : Bool), f x0 x1 = some r → ∀ h, run Cl 118 [.int .i64 x0, .int .i64 x1] h = some (.ret (.bool r), h)
theorem Spec118_of {f g : Int → Int → Option Bool} (hg : Spec118 g) (h : ∀ x0 x1 r, f x0 x1 = some r → g x0 x1 = some r) : Spec118 f := fun x0 x1 r hr => hg x0 x1 r (h x0 x1 r hr)
theorem R118_0 (pe pr) : Ref Cl P118_0 (Cat [true, false] (bodyOf Tryz.f118)) m118_0 (post P118_1 pe pr) := by
  rintro s ⟨t, h⟩ hp x s' hm
  obtain ⟨hl, a0, a1⟩ : P118_0' s t h := hp
  unfold m118_0 at hm
  obtain ⟨z5, hz5, hm⟩ := Option.bind_eq_some_iff.1 hm
  have iu6 := G175_spec s.t1  _ hz5
  obtain ⟨z7, hz7, hm⟩ := Option.bind_eq_some_iff.1 hm
  have iu8 := quo_v (C := Cl) hz7
  cases hm
  refine ⟨⟨_, _⟩, by simp only [bodyOf, Tryz.f118, Cat, Zs, awanted, aoper, evalO, put, acallOp, abuiltin, Nat.reduceEqDiff, Nat.reduceLT, ofV, ofCell, ↓reduceIte, hl, a0, a1, CP, iu6, iu8, rem_c (show (2 : Int) ≠ 0 by decide)]; exact rfl, ?_⟩
  show P118_1 _ _
  exact ⟨by simp [hl], by simp [hl]⟩
theorem R118_1 (pe pr) : Ref Cl P118_0 (Cat [false] (bodyOf Tryz.f118)) m118_1 (post P118_0 pe pr) := by
  rintro s ⟨t, h⟩ hp x s' hm
  obtain ⟨hl, a0, a1⟩ : P118_0' s t h := hp
  unfold m118_1 at hm
  cases hm
  refine ⟨⟨_, _⟩, by simp only [bodyOf, Tryz.f118, Cat, Zs, awanted, aoper, evalO, put, acallOp, abuiltin, Nat.reduceEqDiff, Nat.reduceLT, ofV, ofCell, ↓reduceIte, hl, a0, a1, CP]; exact rfl, ?_⟩
  show P118_0 _ _
  exact ⟨by simp [hl], by simp [a0], by simp [a1]⟩
theorem B118 : Ref Cl P118_0 (bodyOf Tryz.f118) (M118) (post P118_1 (fun _ _ _ => False) P118_1) := by
  rw [show bodyOf Tryz.f118 = .seq (Cat [false] (bodyOf Tryz.f118)) (.seq (Cat [true, false] (bodyOf Tryz.f118)) (.ret)) from rfl]
  unfold M118
  exact ref_seq (R118_1 _ _) (ref_seq (R118_0 _ _) (ref_ret (fun s st hp => hp)))
noncomputable def G118 (x0 : Int) (x1 : Int) : Option Bool := match M118 { (default : Fr118) with t0 := x0, t1 := x1 } with
  | some (.nrm, s) => some s.t4
  | some (.ret, s) => some s.t4
  | _ => none
theorem G118_spec : Spec118 (G118) := by
  intro x0 x1 r hr
  unfold G118 at hr
  cases hm : M118 { (default : Fr118) with t0 := x0, t1 := x1 } with
  | none => rw [hm] at hr; cases hr
  | some q =>
    obtain ⟨x, s⟩ := q
    rw [hm] at hr
    have hx : x = .nrm ∨ x = .ret := by cases x <;> first | exact .inl rfl | exact .inr rfl | cases hr
    have hr : s.t4 = r := by cases x <;> first | exact Option.some.inj hr | cases hr
    subst hr
    have hp0 : P118_0' ({ (default : Fr118) with t0 := x0, t1 := x1 }) (slots Tryz.f118 (stripL [.int .i64 x0, .int .i64 x1])) bare := ⟨rfl, rfl, rfl⟩
    obtain ⟨v, hR, hrun⟩ := run_of_ref (C := Cl) (f := 118) (fn := Tryz.f118) Tryz.func118 rfl rfl rfl rfl (args := [.int .i64 x0, .int .i64 x1]) (by simp only [refsL, refs, List.append_nil]) (B118) (s0 := { (default : Fr118) with t0 := x0, t1 := x1 }) hp0 hm hx (R := fun v => v = .bool s.t4) (by
      have key : ∀ st : ASt, P118_1 s st → ∃ vs v, aresults Cl Tryz.f118.results.toList st = some vs ∧ Nrm [] st.h (packRes vs) v ∧ (fun v => v = .bool s.t4) v := by
        intro st hp
        obtain ⟨hl, a4⟩ := (hp : P118_1' s st.tmps st.h)
        exact ⟨[.bool s.t4], _, by simp only [show Tryz.f118.results.toList = [ResultVar.tmp 4] from rfl, aresults, ares1, CP, a4, Option.getD_some], (Nrm.of (w := .bool s.t4) (by simp only [refsL, refs, List.append_nil])), rfl⟩
      intro st hq
      rcases hx with rfl | rfl
      · exact key st hq
      · exact key st hq)
    subst hR
    exact hrun
/-! ### caisson/caissonref11.union -/
structure Fr117 where
  t0 : Int
  t1 : Int
  t4 : Int
  t5 : Int
  t6 : Int
  t7 : Bool
  t8 : Bool
  t10 : Bool
  t22 : Bool
instance : Inhabited Fr117 := ⟨⟨0, 0, 0, 0, 0, false, false, false, false⟩⟩
def P117_0' (s : Fr117) (t : List AVal) (h : AHeap) : Prop := t.length = 28 ∧ t[5]? = some (.int .i64 s.t5)
def P117_0 (s : Fr117) (st : ASt) : Prop := P117_0' s st.tmps st.h
def P117_1' (s : Fr117) (t : List AVal) (h : AHeap) : Prop := t.length = 28 ∧ t[4]? = some (.int .i64 s.t4)
def P117_1 (s : Fr117) (st : ASt) : Prop := P117_1' s st.tmps st.h
def P117_2' (s : Fr117) (t : List AVal) (h : AHeap) : Prop := t.length = 28 ∧ t[0]? = some (.int .i64 s.t0) ∧ t[1]? = some (.int .i64 s.t1) ∧ t[5]? = some (.int .i64 s.t5) ∧ t[6]? = some (.int .i64 s.t6)
def P117_2 (s : Fr117) (st : ASt) : Prop := P117_2' s st.tmps st.h
def P117_3' (s : Fr117) (t : List AVal) (h : AHeap) : Prop := t.length = 28 ∧ t[0]? = some (.int .i64 s.t0) ∧ t[1]? = some (.int .i64 s.t1) ∧ t[5]? = some (.int .i64 s.t5) ∧ t[6]? = some (.int .i64 s.t6) ∧ t[22]? = some (.bool s.t22)
def P117_3 (s : Fr117) (st : ASt) : Prop := P117_3' s st.tmps st.h
def P117_4' (s : Fr117) (t : List AVal) (h : AHeap) : Prop := t.length = 28 ∧ t[0]? = some (.int .i64 s.t0) ∧ t[1]? = some (.int .i64 s.t1) ∧ t[5]? = some (.int .i64 s.t5) ∧ t[6]? = some (.int .i64 s.t6) ∧ t[7]? = some (.bool s.t7) ∧ t[8]? = some (.bool s.t8)
def P117_4 (s : Fr117) (st : ASt) : Prop := P117_4' s st.tmps st.h
def P117_5' (s : Fr117) (t : List AVal) (h : AHeap) : Prop := t.length = 28 ∧ t[0]? = some (.int .i64 s.t0) ∧ t[1]? = some (.int .i64 s.t1) ∧ t[5]? = some (.int .i64 s.t5) ∧ t[6]? = some (.int .i64 s.t6) ∧ t[7]? = some (.bool s.t7)
def P117_5 (s : Fr117) (st : ASt) : Prop := P117_5' s st.tmps st.h
def P117_6' (s : Fr117) (t : List AVal) (h : AHeap) : Prop := t.length = 28 ∧ t[0]? = some (.int .i64 s.t0) ∧ t[1]? = some (.int .i64 s.t1) ∧ t[5]? = some (.int .i64 s.t5) ∧ t[6]? = some (.int .i64 s.t6) ∧ t[10]? = some (.bool s.t10)
def P117_6 (s : Fr117) (st : ASt) : Prop := P117_6' s st.tmps st.h
def P117_7' (s : Fr117) (t : List AVal) (h : AHeap) : Prop := t.length = 28 ∧ t[0]? = some (.int .i64 s.t0) ∧ t[1]? = some (.int .i64 s.t1) ∧ t[5]? = some (.int .i64 s.t5)
def P117_7 (s : Fr117) (st : ASt) : Prop := P117_7' s st.tmps st.h
def P117_8' (s : Fr117) (t : List AVal) (h : AHeap) : Prop := t.length = 28 ∧ t[0]? = some (.int .i64 s.t0) ∧ t[1]? = some (.int .i64 s.t1)
def P117_8 (s : Fr117) (st : ASt) : Prop := P117_8' s st.tmps st.h
noncomputable def m117_0 : Mo Fr117 := fun s => some (.nrm, { s with t4 := s.t5 })
noncomputable def m117_1 : Mo Fr117 := fun s => some (.nrm, { s with t6 := IntKind.wrap .i64 (s.t6 + 1) })
noncomputable def m117_2 : Mo Fr117 := fun s => (G175 s.t6).bind fun z1 => some (.nrm, { s with t5 := IntKind.wrap .i64 (s.t5 + z1) })
noncomputable def m117_3 : Mo Fr117 := fun s => some (.nrm, { s with t22 := (s.t7 || s.t8) })
noncomputable def m117_4 : Mo Fr117 := fun s => (G118 s.t1 s.t6).bind fun z6 => some (.nrm, { s with t8 := z6 })
noncomputable def m117_5 : Mo Fr117 := fun s => (G118 s.t0 s.t6).bind fun z10 => some (.nrm, { s with t7 := z10 })
noncomputable def m117_6 : Mo Fr117 := fun s => some (.nrm, { s with t10 := decide (s.t6 < 6) })
noncomputable def L117_7 : Mo Fr117 := seqM (seqM (m117_6) (condM (fun s => s.t10) (skipM) (exitM 0))) (seqM (blockM 1 (seqM (m117_5) (seqM (m117_4) (seqM (m117_3) (condM (fun s => s.t22) (m117_2) (skipM)))))) (m117_1))
noncomputable def m117_8 : Mo Fr117 := fun s => some (.nrm, { s with t6 := 0 })
noncomputable def m117_9 : Mo Fr117 := fun s => some (.nrm, { s with t5 := 0 })
noncomputable def m117_10 : Mo Fr117 := fun s => some (.nrm, s)
noncomputable def M117 : Mo Fr117 := seqM (m117_10) (seqM (m117_9) (seqM (seqM (m117_8) (blockM 0 (loopM (L117_7)))) (seqM (m117_0) (retM))))
def Spec117 (f : Int → Int → Option Int) : Prop := ∀ (x0 : Int) (x1 : Int) (r : Int), f x0 x1 = some r → ∀ h, run Cl 117 [.int .i64 x0, .int .i64 x1] h = some (.ret (.int .i64 r), h)
theorem Spec117_of {f g : Int → Int → Option Int} (hg : Spec117 g) (h : ∀ x0 x1 r, f x0 x1 = some r → g x0 x1 = some r) : Spec117 f := fun x0 x1 r hr => hg x0 x1 r (h x0 x1 r hr)
theorem R117_0 (pe pr) : Ref Cl P117_0 (Cat [true, true, true, false] (bodyOf Tryz.f117)) m117_0 (post P117_1 pe pr) := by
  rintro s ⟨t, h⟩ hp x s' hm
  obtain ⟨hl, a5⟩ : P117_0' s t h := hp
  unfold m117_0 at hm
  cases hm
  refine ⟨⟨_, _⟩, by simp only [bodyOf, Tryz.f117, Cat, Zs, awanted, aoper, evalO, put, acallOp, abuiltin, Nat.reduceEqDiff, Nat.reduceLT, ofV, ofCell, ↓reduceIte, hl, a5, CP]; exact rfl, ?_⟩
  show P117_1 _ _
  exact ⟨by simp [hl], by simp [hl]⟩
theorem R117_1 (pe pr) : Ref Cl P117_2 (Cat [true, true, false, true, true, true, true, true] (bodyOf Tryz.f117)) m117_1 (post P117_2 pe pr) := by
  rintro s ⟨t, h⟩ hp x s' hm
  obtain ⟨hl, a0, a1, a5, a6⟩ : P117_2' s t h := hp
  unfold m117_1 at hm
  cases hm
  refine ⟨⟨_, _⟩, by simp only [bodyOf, Tryz.f117, Cat, Zs, awanted, aoper, evalO, put, acallOp, abuiltin, Nat.reduceEqDiff, Nat.reduceLT, ofV, ofCell, ↓reduceIte, hl, a0, a1, a5, a6, CP]; exact rfl, ?_⟩
  show P117_2 _ _
  exact ⟨by simp [hl], by simp [a0], by simp [a1], by simp [a5], by simp [hl]⟩
theorem R117_2 (pe pr) : Ref Cl P117_2 (Cat [true, true, false, true, true, true, true, false, true, true, true, true, false] (bodyOf Tryz.f117)) m117_2 (post P117_2 pe pr) := by
  rintro s ⟨t, h⟩ hp x s' hm
  obtain ⟨hl, a0, a1, a5, a6⟩ : P117_2' s t h := hp
  unfold m117_2 at hm
  obtain ⟨z3, hz3, hm⟩ := Option.bind_eq_some_iff.1 hm
  have iu4 := G175_spec s.t6  _ hz3
  cases hm
  refine ⟨⟨_, _⟩, by simp only [bodyOf, Tryz.f117, Cat, Zs, awanted, aoper, evalO, put, acallOp, abuiltin, Nat.reduceEqDiff, Nat.reduceLT, ofV, ofCell, ↓reduceIte, hl, a0, a1, a5, a6, CP, iu4]; exact rfl, ?_⟩
  show P117_2 _ _
  exact ⟨by simp [hl], by simp [a0], by simp [a1], by simp [hl], by simp [a6]⟩
theorem R117_3 (pe pr) : Ref Cl P117_4 (Cat [true, true, false, true, true, true, true, false, true, true, true, false] (bodyOf Tryz.f117)) m117_3 (post P117_3 pe pr) := by
  rintro s ⟨t, h⟩ hp x s' hm
  obtain ⟨hl, a0, a1, a5, a6, a7, a8⟩ : P117_4' s t h := hp
  unfold m117_3 at hm
  cases hb5 : s.t7 with
  | true =>
    all_goals (
      try simp only [hb5, Zb] at hm
      cases hm
      refine ⟨⟨_, _⟩, by simp only [bodyOf, Tryz.f117, Cat, Zs, awanted, aoper, evalO, put, acallOp, abuiltin, Nat.reduceEqDiff, Nat.reduceLT, ofV, ofCell, ↓reduceIte, hl, a0, a1, a5, a6, a7, a8, CP, hb5]; exact rfl, ?_⟩
      show P117_3 _ _
      exact ⟨by simp [hl], by simp [a0], by simp [a1], by simp [a5], by simp [a6], by simp [hl, hb5]⟩)
  | false =>
    all_goals (
      try simp only [hb5, Zb] at hm
      cases hm
      refine ⟨⟨_, _⟩, by simp only [bodyOf, Tryz.f117, Cat, Zs, awanted, aoper, evalO, put, acallOp, abuiltin, Nat.reduceEqDiff, Nat.reduceLT, ofV, ofCell, ↓reduceIte, hl, a0, a1, a5, a6, a7, a8, CP, hb5]; exact rfl, ?_⟩
      show P117_3 _ _
      exact ⟨by simp [hl], by simp [a0], by simp [a1], by simp [a5], by simp [a6], by simp [hl, hb5]⟩)
theorem R117_4 (pe pr) : Ref Cl P117_5 (Cat [true, true, false, true, true, true, true, false, true, true, false] (bodyOf Tryz.f117)) m117_4 (post P117_4 pe pr) := by
  rintro s ⟨t, h⟩ hp x s' hm
  obtain ⟨hl, a0, a1, a5, a6, a7⟩ : P117_5' s t h := hp
  unfold m117_4 at hm
  obtain ⟨z8, hz8, hm⟩ := Option.bind_eq_some_iff.1 hm
  have iu9 := G118_spec s.t1 s.t6  _ hz8
  cases hm
  refine ⟨⟨_, _⟩, by simp only [bodyOf, Tryz.f117, Cat, Zs, awanted, aoper, evalO, put, acallOp, abuiltin, Nat.reduceEqDiff, Nat.reduceLT, ofV, ofCell, ↓reduceIte, hl, a0, a1, a5, a6, a7, CP, iu9]; exact rfl, ?_⟩
  show P117_4 _ _
  exact ⟨by simp [hl], by simp [a0], by simp [a1], by simp [a5], by simp [a6], by simp [a7], by simp [hl]⟩
theorem R117_5 (pe pr) : Ref Cl P117_2 (Cat [true, true, false, true, true, true, true, false, true, false] (bodyOf Tryz.f117)) m117_5 (post P117_5 pe pr) := by
  rintro s ⟨t, h⟩ hp x s' hm
  obtain ⟨hl, a0, a1, a5, a6⟩ : P117_2' s t h := hp
  unfold m117_5 at hm
  obtain ⟨z12, hz12, hm⟩ := Option.bind_eq_some_iff.1 hm
  have iu13 := G118_spec s.t0 s.t6  _ hz12
  cases hm
  refine ⟨⟨_, _⟩, by simp only [bodyOf, Tryz.f117, Cat, Zs, awanted, aoper, evalO, put, acallOp, abuiltin, Nat.reduceEqDiff, Nat.reduceLT, ofV, ofCell, ↓reduceIte, hl, a0, a1, a5, a6, CP, iu13]; exact rfl, ?_⟩
  show P117_5 _ _
  exact ⟨by simp [hl], by simp [a0], by simp [a1], by simp [a5], by simp [a6], by simp [hl]⟩
theorem R117_6 (pe pr) : Ref Cl P117_2 (Cat [true, true, false, true, true, true, false, false] (bodyOf Tryz.f117)) m117_6 (post P117_6 pe pr) := by
  rintro s ⟨t, h⟩ hp x s' hm
  obtain ⟨hl, a0, a1, a5, a6⟩ : P117_2' s t h := hp
  unfold m117_6 at hm
  cases hm
  refine ⟨⟨_, _⟩, by simp only [bodyOf, Tryz.f117, Cat, Zs, awanted, aoper, evalO, put, acallOp, abuiltin, Nat.reduceEqDiff, Nat.reduceLT, ofV, ofCell, ↓reduceIte, hl, a0, a1, a5, a6, CP]; exact rfl, ?_⟩
  show P117_6 _ _
  exact ⟨by simp [hl], by simp [a0], by simp [a1], by simp [a5], by simp [a6], by simp [hl]⟩
theorem R117_8 (pe pr) : Ref Cl P117_7 (Cat [true, true, false, false] (bodyOf Tryz.f117)) m117_8 (post P117_2 pe pr) := by
  rintro s ⟨t, h⟩ hp x s' hm
  obtain ⟨hl, a0, a1, a5⟩ : P117_7' s t h := hp
  unfold m117_8 at hm
  cases hm
  refine ⟨⟨_, _⟩, by simp only [bodyOf, Tryz.f117, Cat, Zs, awanted, aoper, evalO, put, acallOp, abuiltin, Nat.reduceEqDiff, Nat.reduceLT, ofV, ofCell, ↓reduceIte, hl, a0, a1, a5, CP]; exact rfl, ?_⟩
  show P117_2 _ _
  exact ⟨by simp [hl], by simp [a0], by simp [a1], by simp [a5], by simp [hl]⟩
theorem R117_9 (pe pr) : Ref Cl P117_8 (Cat [true, false] (bodyOf Tryz.f117)) m117_9 (post P117_7 pe pr) := by
  rintro s ⟨t, h⟩ hp x s' hm
  obtain ⟨hl, a0, a1⟩ : P117_8' s t h := hp
  unfold m117_9 at hm
  cases hm
  refine ⟨⟨_, _⟩, by simp only [bodyOf, Tryz.f117, Cat, Zs, awanted, aoper, evalO, put, acallOp, abuiltin, Nat.reduceEqDiff, Nat.reduceLT, ofV, ofCell, ↓reduceIte, hl, a0, a1, CP]; exact rfl, ?_⟩
  show P117_7 _ _
  exact ⟨by simp [hl], by simp [a0], by simp [a1], by simp [hl]⟩
theorem R117_10 (pe pr) : Ref Cl P117_8 (Cat [false] (bodyOf Tryz.f117)) m117_10 (post P117_8 pe pr) := by
  rintro s ⟨t, h⟩ hp x s' hm
  obtain ⟨hl, a0, a1⟩ : P117_8' s t h := hp
  unfold m117_10 at hm
  cases hm
  refine ⟨⟨_, _⟩, by simp only [bodyOf, Tryz.f117, Cat, Zs, awanted, aoper, evalO, put, acallOp, abuiltin, Nat.reduceEqDiff, Nat.reduceLT, ofV, ofCell, ↓reduceIte, hl, a0, a1, CP]; exact rfl, ?_⟩
  show P117_8 _ _
  exact ⟨by simp [hl], by simp [a0], by simp [a1]⟩
theorem B117 : Ref Cl P117_8 (bodyOf Tryz.f117) (M117) (post P117_1 (fun _ _ _ => False) P117_1) := by
  rw [show bodyOf Tryz.f117 = .seq (Cat [false] (bodyOf Tryz.f117)) (.seq (Cat [true, false] (bodyOf Tryz.f117)) (.seq (.seq (Cat [true, true, false, false] (bodyOf Tryz.f117)) (.block 0 (.loop (.seq (.seq (Cat [true, true, false, true, true, true, false, false] (bodyOf Tryz.f117)) (.cond (.tmp 10) (.skip) (.exit 0))) (.seq (.block 1 (.seq (Cat [true, true, false, true, true, true, true, false, true, false] (bodyOf Tryz.f117)) (.seq (Cat [true, true, false, true, true, true, true, false, true, true, false] (bodyOf Tryz.f117)) (.seq (Cat [true, true, false, true, true, true, true, false, true, true, true, false] (bodyOf Tryz.f117)) (.cond (.tmp 22) (Cat [true, true, false, true, true, true, true, false, true, true, true, true, false] (bodyOf Tryz.f117)) (.skip)))))) (Cat [true, true, false, true, true, true, true, true] (bodyOf Tryz.f117))))))) (.seq (Cat [true, true, true, false] (bodyOf Tryz.f117)) (.ret)))) from rfl]
  unfold M117
  exact ref_seq (R117_10 _ _) (ref_seq (R117_9 _ _) (ref_seq (ref_seq (R117_8 _ _) (ref_block (ref_loop (P := P117_2) (ref_weak (P' := P117_2) (fun s st hp => hp) (ref_seq (ref_seq (R117_6 _ _) (ref_cond (P := P117_6) (c := fun s => s.t10) (fun s st hp => by obtain ⟨hl, a0, a1, a5, a6, a10⟩ := (hp : P117_6' s st.tmps st.h); simp only [evalO, a10, Option.getD_some]) (ref_weak (P' := P117_2) (fun s st hp => by obtain ⟨hl, a0, a1, a5, a6, a10⟩ := (hp : P117_6' s st.tmps st.h); exact (⟨hl, a0, a1, a5, a6⟩ : P117_2' s st.tmps st.h)) (ref_skip (fun s st hp => hp))) (ref_weak (P' := P117_0) (fun s st hp => by obtain ⟨hl, a0, a1, a5, a6, a10⟩ := (hp : P117_6' s st.tmps st.h); exact (⟨hl, a5⟩ : P117_0' s st.tmps st.h)) (ref_exit (fun s st hp => hp))))) (ref_seq (ref_block (ref_seq (R117_5 _ _) (ref_seq (R117_4 _ _) (ref_seq (R117_3 _ _) (ref_cond (P := P117_3) (c := fun s => s.t22) (fun s st hp => by obtain ⟨hl, a0, a1, a5, a6, a22⟩ := (hp : P117_3' s st.tmps st.h); simp only [evalO, a22, Option.getD_some]) (ref_weak (P' := P117_2) (fun s st hp => by obtain ⟨hl, a0, a1, a5, a6, a22⟩ := (hp : P117_3' s st.tmps st.h); exact (⟨hl, a0, a1, a5, a6⟩ : P117_2' s st.tmps st.h)) (R117_2 _ _)) (ref_weak (P' := P117_2) (fun s st hp => by obtain ⟨hl, a0, a1, a5, a6, a22⟩ := (hp : P117_3' s st.tmps st.h); exact (⟨hl, a0, a1, a5, a6⟩ : P117_2' s st.tmps st.h)) (ref_skip (fun s st hp => hp)))))))) (R117_1 _ _))))))) (ref_seq (R117_0 _ _) (ref_ret (fun s st hp => hp)))))
noncomputable def G117 (x0 : Int) (x1 : Int) : Option Int := match M117 { (default : Fr117) with t0 := x0, t1 := x1 } with
  | some (.nrm, s) => some s.t4
  | some (.ret, s) => some s.t4
  | _ => none
theorem G117_spec : Spec117 (G117) := by
  intro x0 x1 r hr
  unfold G117 at hr
  cases hm : M117 { (default : Fr117) with t0 := x0, t1 := x1 } with
  | none => rw [hm] at hr; cases hr
  | some q =>
    obtain ⟨x, s⟩ := q
    rw [hm] at hr
    have hx : x = .nrm ∨ x = .ret := by cases x <;> first | exact .inl rfl | exact .inr rfl | cases hr
    have hr : s.t4 = r := by cases x <;> first | exact Option.some.inj hr | cases hr
    subst hr
    have hp0 : P117_8' ({ (default : Fr117) with t0 := x0, t1 := x1 }) (slots Tryz.f117 (stripL [.int .i64 x0, .int .i64 x1])) bare := ⟨rfl, rfl, rfl⟩
    obtain ⟨v, hR, hrun⟩ := run_of_ref (C := Cl) (f := 117) (fn := Tryz.f117) Tryz.func117 rfl rfl rfl rfl (args := [.int .i64 x0, .int .i64 x1]) (by simp only [refsL, refs, List.append_nil]) (B117) (s0 := { (default : Fr117) with t0 := x0, t1 := x1 }) hp0 hm hx (R := fun v => v = .int .i64 s.t4) (by
      have key : ∀ st : ASt, P117_1 s st → ∃ vs v, aresults Cl Tryz.f117.results.toList st = some vs ∧ Nrm [] st.h (packRes vs) v ∧ (fun v => v = .int .i64 s.t4) v := by
        intro st hp
        obtain ⟨hl, a4⟩ := (hp : P117_1' s st.tmps st.h)
        exact ⟨[.int .i64 s.t4], _, by simp only [show Tryz.f117.results.toList = [ResultVar.tmp 4] from rfl, aresults, ares1, CP, a4, Option.getD_some], (Nrm.of (w := .int .i64 s.t4) (by simp only [refsL, refs, List.append_nil])), rfl⟩
      intro st hq
      rcases hx with rfl | rfl
      · exact key st hq
      · exact key st hq)
    subst hR
    exact hrun
/-! ### caisson/caissonref11.List -/
structure Fr49 where
  t0 : Int
  t2 : (List Int)
  t3 : (List Int)
  t4 : Int
  t5 : Bool
  t15 : Bool
  t21 : Bool
instance : Inhabited Fr49 := ⟨⟨0, [], [], 0, false, false, false⟩⟩
def P49_0' (s : Fr49) (t : List AVal) (h : AHeap) : Prop := ∃ w3_0, t.length = 27 ∧ t[3]? = some w3_0 ∧ Gr (rI .i64) 1 s.t3 w3_0 h
def P49_0 (s : Fr49) (st : ASt) : Prop := P49_0' s st.tmps st.h
def P49_1' (s : Fr49) (t : List AVal) (h : AHeap) : Prop := ∃ w2_0, t.length = 27 ∧ t[2]? = some w2_0 ∧ Sl (rI .i64) s.t2 w2_0
def P49_1 (s : Fr49) (st : ASt) : Prop := P49_1' s st.tmps st.h
def P49_2' (s : Fr49) (t : List AVal) (h : AHeap) : Prop := ∃ w3_0, t.length = 27 ∧ t[0]? = some (.int .i64 s.t0) ∧ t[3]? = some w3_0 ∧ Gr (rI .i64) 1 s.t3 w3_0 h ∧ t[4]? = some (.int .i64 s.t4)
def P49_2 (s : Fr49) (st : ASt) : Prop := P49_2' s st.tmps st.h
def P49_3' (s : Fr49) (t : List AVal) (h : AHeap) : Prop := ∃ w3_0, t.length = 27 ∧ t[0]? = some (.int .i64 s.t0) ∧ t[3]? = some w3_0 ∧ Gr (rI .i64) 1 s.t3 w3_0 h ∧ t[4]? = some (.int .i64 s.t4) ∧ t[21]? = some (.bool s.t21)
def P49_3 (s : Fr49) (st : ASt) : Prop := P49_3' s st.tmps st.h
def P49_4' (s : Fr49) (t : List AVal) (h : AHeap) : Prop := ∃ w3_0, t.length = 27 ∧ t[0]? = some (.int .i64 s.t0) ∧ t[3]? = some w3_0 ∧ Gr (rI .i64) 1 s.t3 w3_0 h ∧ t[4]? = some (.int .i64 s.t4) ∧ t[5]? = some (.bool s.t5)
def P49_4 (s : Fr49) (st : ASt) : Prop := P49_4' s st.tmps st.h
def P49_5' (s : Fr49) (t : List AVal) (h : AHeap) : Prop := ∃ w3_0, t.length = 27 ∧ t[0]? = some (.int .i64 s.t0) ∧ t[3]? = some w3_0 ∧ Gr (rI .i64) 1 s.t3 w3_0 h ∧ t[4]? = some (.int .i64 s.t4) ∧ t[15]? = some (.bool s.t15)
def P49_5 (s : Fr49) (st : ASt) : Prop := P49_5' s st.tmps st.h
def P49_6' (s : Fr49) (t : List AVal) (h : AHeap) : Prop := ∃ w3_0, t.length = 27 ∧ t[0]? = some (.int .i64 s.t0) ∧ t[3]? = some w3_0 ∧ Gr (rI .i64) 1 s.t3 w3_0 h
def P49_6 (s : Fr49) (st : ASt) : Prop := P49_6' s st.tmps st.h
def P49_7' (s : Fr49) (t : List AVal) (h : AHeap) : Prop := t.length = 27 ∧ t[0]? = some (.int .i64 s.t0)
def P49_7 (s : Fr49) (st : ASt) : Prop := P49_7' s st.tmps st.h
noncomputable def m49_0 : Mo Fr49 := fun s => some (.nrm, { s with t2 := s.t3 })
noncomputable def m49_1 : Mo Fr49 := fun s => some (.nrm, { s with t4 := IntKind.wrap .i64 (s.t4 + 1) })
noncomputable def m49_2 : Mo Fr49 := fun s => (appT 8 s.t3 [s.t4]).bind fun z5 => some (.nrm, { s with t3 := z5 })
noncomputable def m49_3 : Mo Fr49 := fun s => some (.nrm, { s with t21 := s.t5 })
noncomputable def m49_4 : Mo Fr49 := fun s => (G118 s.t0 s.t4).bind fun z13 => some (.nrm, { s with t5 := z13 })
noncomputable def m49_5 : Mo Fr49 := fun s => some (.nrm, { s with t15 := (((decide (s.t4 < 6)) && (decide (s.t0 ≥ 0))) && (decide (s.t0 < 64))) })
noncomputable def L49_6 : Mo Fr49 := seqM (seqM (m49_5) (condM (fun s => s.t15) (skipM) (exitM 0))) (seqM (blockM 1 (seqM (m49_4) (seqM (m49_3) (condM (fun s => s.t21) (m49_2) (skipM))))) (m49_1))
noncomputable def m49_7 : Mo Fr49 := fun s => some (.nrm, { s with t4 := 0 })
noncomputable def m49_8 : Mo Fr49 := fun s => some (.nrm, { s with t3 := [] })
noncomputable def m49_9 : Mo Fr49 := fun s => some (.nrm, s)
noncomputable def M49 : Mo Fr49 := seqM (m49_9) (seqM (m49_8) (seqM (seqM (m49_7) (blockM 0 (loopM (L49_6)))) (seqM (m49_0) (retM))))
def Spec49 (f : Int → Option (List Int)) : Prop := ∀ (x0 : Int) (r : (List Int)), f x0 = some r → ∃ y0_0, Sl (rI .i64) r y0_0 ∧ ∀ h, run Cl 49 [.int .i64 x0] h = some (.ret (y0_0), h)
theorem Spec49_of {f g : Int → Option (List Int)} (hg : Spec49 g) (h : ∀ x0 r, f x0 = some r → g x0 = some r) : Spec49 f := fun x0 r hr => hg x0 r (h x0 r hr)
theorem R49_0 (pe pr) : Ref Cl P49_0 (Cat [true, true, true, false] (bodyOf Tryz.f49)) m49_0 (post P49_1 pe pr) := by
  rintro s ⟨t, h⟩ hp x s' hm
  obtain ⟨w3_0, hl, a3, r3_0⟩ : P49_0' s t h := hp
  unfold m49_0 at hm
  cases hm
  refine ⟨⟨_, _⟩, by simp only [bodyOf, Tryz.f49, Cat, Zs, awanted, aoper, evalO, put, acallOp, abuiltin, Nat.reduceEqDiff, Nat.reduceLT, ofV, ofCell, ↓reduceIte, hl, a3, CP]; exact rfl, ?_⟩
  show P49_1 _ _
  exact ⟨w3_0, by simp [hl], by simp [hl], r3_0.1⟩
theorem R49_1 (pe pr) : Ref Cl P49_2 (Cat [true, true, false, true, true, true, true, true] (bodyOf Tryz.f49)) m49_1 (post P49_2 pe pr) := by
  rintro s ⟨t, h⟩ hp x s' hm
  obtain ⟨w3_0, hl, a0, a3, r3_0, a4⟩ : P49_2' s t h := hp
  unfold m49_1 at hm
  cases hm
  refine ⟨⟨_, _⟩, by simp only [bodyOf, Tryz.f49, Cat, Zs, awanted, aoper, evalO, put, acallOp, abuiltin, Nat.reduceEqDiff, Nat.reduceLT, ofV, ofCell, ↓reduceIte, hl, a0, a3, a4, CP]; exact rfl, ?_⟩
  show P49_2 _ _
  exact ⟨w3_0, by simp [hl], by simp [a0], by simp [a3], r3_0, by simp [hl]⟩
theorem R49_2 (pe pr) : Ref Cl P49_2 (Cat [true, true, false, true, true, true, true, false, true, true, true, false] (bodyOf Tryz.f49)) m49_2 (post P49_2 pe pr) := by
  rintro s ⟨t, h⟩ hp x s' hm
  obtain ⟨w3_0, hl, a0, a3, r3_0, a4⟩ : P49_2' s t h := hp
  unfold m49_2 at hm
  have bd7 : abuildSlice Tryz.prog 33 1 [(0, .int .i64 s.t4)] = some ([.int .i64 s.t4], 1) := by kernel_rfl
  have bs8 : Els (rI .i64) [s.t4] [[.int .i64 s.t4]] := (Els.cons rfl Els.nil)
  have sl9 : Sl (rI .i64) [s.t4] (.lst [.int .i64 s.t4] 1 .full) := Sl.lst .full bs8
  have gr10 : ∀ h, Gr (rI .i64) 1 [s.t4] (.lst [.int .i64 s.t4] 1 .full) h := fun h => Gr.full bs8 h
  obtain ⟨z11, hz11, hm⟩ := Option.bind_eq_some_iff.1 hm
  obtain ⟨vu12, hu12, pu12, gu12, nu12, ku12, fu12⟩ := Gr.app (rI_p .i64) r3_0 sl9 hz11
  cases hm
  refine ⟨⟨_, _⟩, by simp only [bodyOf, Tryz.f49, Cat, Zs, awanted, aoper, evalO, put, acallOp, abuiltin, Nat.reduceEqDiff, Nat.reduceLT, ofV, ofCell, ↓reduceIte, hl, a0, a3, a4, CP, bd7, Ty.own_ref_go_63, pu12, Ty.ap33]; exact rfl, ?_⟩
  show P49_2 _ _
  exact ⟨vu12, by simp [hl], by simp [a0], by simp [hl], gu12, by simp [a4]⟩
theorem R49_3 (pe pr) : Ref Cl P49_4 (Cat [true, true, false, true, true, true, true, false, true, true, false] (bodyOf Tryz.f49)) m49_3 (post P49_3 pe pr) := by
  rintro s ⟨t, h⟩ hp x s' hm
  obtain ⟨w3_0, hl, a0, a3, r3_0, a4, a5⟩ : P49_4' s t h := hp
  unfold m49_3 at hm
  cases hm
  refine ⟨⟨_, _⟩, by simp only [bodyOf, Tryz.f49, Cat, Zs, awanted, aoper, evalO, put, acallOp, abuiltin, Nat.reduceEqDiff, Nat.reduceLT, ofV, ofCell, ↓reduceIte, hl, a0, a3, a4, a5, CP]; exact rfl, ?_⟩
  show P49_3 _ _
  exact ⟨w3_0, by simp [hl], by simp [a0], by simp [a3], r3_0, by simp [a4], by simp [hl]⟩
theorem R49_4 (pe pr) : Ref Cl P49_2 (Cat [true, true, false, true, true, true, true, false, true, false] (bodyOf Tryz.f49)) m49_4 (post P49_4 pe pr) := by
  rintro s ⟨t, h⟩ hp x s' hm
  obtain ⟨w3_0, hl, a0, a3, r3_0, a4⟩ : P49_2' s t h := hp
  unfold m49_4 at hm
  obtain ⟨z15, hz15, hm⟩ := Option.bind_eq_some_iff.1 hm
  have iu16 := G118_spec s.t0 s.t4  _ hz15
  cases hm
  refine ⟨⟨_, _⟩, by simp only [bodyOf, Tryz.f49, Cat, Zs, awanted, aoper, evalO, put, acallOp, abuiltin, Nat.reduceEqDiff, Nat.reduceLT, ofV, ofCell, ↓reduceIte, hl, a0, a3, a4, CP, iu16]; exact rfl, ?_⟩
  show P49_4 _ _
  exact ⟨w3_0, by simp [hl], by simp [a0], by simp [a3], r3_0, by simp [a4], by simp [hl]⟩
theorem R49_5 (pe pr) : Ref Cl P49_2 (Cat [true, true, false, true, true, true, false, false] (bodyOf Tryz.f49)) m49_5 (post P49_5 pe pr) := by
  rintro s ⟨t, h⟩ hp x s' hm
  obtain ⟨w3_0, hl, a0, a3, r3_0, a4⟩ : P49_2' s t h := hp
  unfold m49_5 at hm
  cases hb17 : decide (s.t4 < 6) with
  | true =>
    all_goals (
      try simp only [hb17, Zb] at hm
      cases hb18 : decide (s.t0 ≥ 0) with
      | true =>
        all_goals (
          try simp only [hb18, Zb] at hm
          cases hm
          refine ⟨⟨_, _⟩, by simp only [bodyOf, Tryz.f49, Cat, Zs, awanted, aoper, evalO, put, acallOp, abuiltin, Nat.reduceEqDiff, Nat.reduceLT, ofV, ofCell, ↓reduceIte, hl, a0, a3, a4, CP, hb17, hb18]; exact rfl, ?_⟩
          show P49_5 _ _
          exact ⟨w3_0, by simp [hl], by simp [a0], by simp [a3], r3_0, by simp [a4], by simp [hl, hb17, hb18]⟩)
      | false =>
        all_goals (
          try simp only [hb18, Zb] at hm
          cases hm
          refine ⟨⟨_, _⟩, by simp only [bodyOf, Tryz.f49, Cat, Zs, awanted, aoper, evalO, put, acallOp, abuiltin, Nat.reduceEqDiff, Nat.reduceLT, ofV, ofCell, ↓reduceIte, hl, a0, a3, a4, CP, hb17, hb18]; exact rfl, ?_⟩
          show P49_5 _ _
          exact ⟨w3_0, by simp [hl], by simp [a0], by simp [a3], r3_0, by simp [a4], by simp [hl, hb17, hb18]⟩))
  | false =>
    all_goals (
      try simp only [hb17, Zb] at hm
      cases hm
      refine ⟨⟨_, _⟩, by simp only [bodyOf, Tryz.f49, Cat, Zs, awanted, aoper, evalO, put, acallOp, abuiltin, Nat.reduceEqDiff, Nat.reduceLT, ofV, ofCell, ↓reduceIte, hl, a0, a3, a4, CP, hb17]; exact rfl, ?_⟩
      show P49_5 _ _
      exact ⟨w3_0, by simp [hl], by simp [a0], by simp [a3], r3_0, by simp [a4], by simp [hl, hb17]⟩)
theorem R49_7 (pe pr) : Ref Cl P49_6 (Cat [true, true, false, false] (bodyOf Tryz.f49)) m49_7 (post P49_2 pe pr) := by
  rintro s ⟨t, h⟩ hp x s' hm
  obtain ⟨w3_0, hl, a0, a3, r3_0⟩ : P49_6' s t h := hp
  unfold m49_7 at hm
  cases hm
  refine ⟨⟨_, _⟩, by simp only [bodyOf, Tryz.f49, Cat, Zs, awanted, aoper, evalO, put, acallOp, abuiltin, Nat.reduceEqDiff, Nat.reduceLT, ofV, ofCell, ↓reduceIte, hl, a0, a3, CP]; exact rfl, ?_⟩
  show P49_2 _ _
  exact ⟨w3_0, by simp [hl], by simp [a0], by simp [a3], r3_0, by simp [hl]⟩
theorem R49_8 (pe pr) : Ref Cl P49_7 (Cat [true, false] (bodyOf Tryz.f49)) m49_8 (post P49_6 pe pr) := by
  rintro s ⟨t, h⟩ hp x s' hm
  obtain ⟨hl, a0⟩ : P49_7' s t h := hp
  unfold m49_8 at hm
  cases hm
  refine ⟨⟨_, _⟩, by simp only [bodyOf, Tryz.f49, Cat, Zs, awanted, aoper, evalO, put, acallOp, abuiltin, Nat.reduceEqDiff, Nat.reduceLT, ofV, ofCell, ↓reduceIte, hl, a0, CP]; exact rfl, ?_⟩
  show P49_6 _ _
  exact ⟨(.nilSl : AVal), by simp [hl], by simp [a0], by simp [hl], (Gr.nil h)⟩
theorem R49_9 (pe pr) : Ref Cl P49_7 (Cat [false] (bodyOf Tryz.f49)) m49_9 (post P49_7 pe pr) := by
  rintro s ⟨t, h⟩ hp x s' hm
  obtain ⟨hl, a0⟩ : P49_7' s t h := hp
  unfold m49_9 at hm
  cases hm
  refine ⟨⟨_, _⟩, by simp only [bodyOf, Tryz.f49, Cat, Zs, awanted, aoper, evalO, put, acallOp, abuiltin, Nat.reduceEqDiff, Nat.reduceLT, ofV, ofCell, ↓reduceIte, hl, a0, CP]; exact rfl, ?_⟩
  show P49_7 _ _
  exact ⟨by simp [hl], by simp [a0]⟩
theorem B49 : Ref Cl P49_7 (bodyOf Tryz.f49) (M49) (post P49_1 (fun _ _ _ => False) P49_1) := by
  rw [show bodyOf Tryz.f49 = .seq (Cat [false] (bodyOf Tryz.f49)) (.seq (Cat [true, false] (bodyOf Tryz.f49)) (.seq (.seq (Cat [true, true, false, false] (bodyOf Tryz.f49)) (.block 0 (.loop (.seq (.seq (Cat [true, true, false, true, true, true, false, false] (bodyOf Tryz.f49)) (.cond (.tmp 15) (.skip) (.exit 0))) (.seq (.block 1 (.seq (Cat [true, true, false, true, true, true, true, false, true, false] (bodyOf Tryz.f49)) (.seq (Cat [true, true, false, true, true, true, true, false, true, true, false] (bodyOf Tryz.f49)) (.cond (.tmp 21) (Cat [true, true, false, true, true, true, true, false, true, true, true, false] (bodyOf Tryz.f49)) (.skip))))) (Cat [true, true, false, true, true, true, true, true] (bodyOf Tryz.f49))))))) (.seq (Cat [true, true, true, false] (bodyOf Tryz.f49)) (.ret)))) from rfl]
  unfold M49
  exact ref_seq (R49_9 _ _) (ref_seq (R49_8 _ _) (ref_seq (ref_seq (R49_7 _ _) (ref_block (ref_loop (P := P49_2) (ref_weak (P' := P49_2) (fun s st hp => hp) (ref_seq (ref_seq (R49_5 _ _) (ref_cond (P := P49_5) (c := fun s => s.t15) (fun s st hp => by obtain ⟨w3_0, hl, a0, a3, r3_0, a4, a15⟩ := (hp : P49_5' s st.tmps st.h); simp only [evalO, a15, Option.getD_some]) (ref_weak (P' := P49_2) (fun s st hp => by obtain ⟨w3_0, hl, a0, a3, r3_0, a4, a15⟩ := (hp : P49_5' s st.tmps st.h); exact (⟨w3_0, hl, a0, a3, r3_0, a4⟩ : P49_2' s st.tmps st.h)) (ref_skip (fun s st hp => hp))) (ref_weak (P' := P49_0) (fun s st hp => by obtain ⟨w3_0, hl, a0, a3, r3_0, a4, a15⟩ := (hp : P49_5' s st.tmps st.h); exact (⟨w3_0, hl, a3, r3_0⟩ : P49_0' s st.tmps st.h)) (ref_exit (fun s st hp => hp))))) (ref_seq (ref_block (ref_seq (R49_4 _ _) (ref_seq (R49_3 _ _) (ref_cond (P := P49_3) (c := fun s => s.t21) (fun s st hp => by obtain ⟨w3_0, hl, a0, a3, r3_0, a4, a21⟩ := (hp : P49_3' s st.tmps st.h); simp only [evalO, a21, Option.getD_some]) (ref_weak (P' := P49_2) (fun s st hp => by obtain ⟨w3_0, hl, a0, a3, r3_0, a4, a21⟩ := (hp : P49_3' s st.tmps st.h); exact (⟨w3_0, hl, a0, a3, r3_0, a4⟩ : P49_2' s st.tmps st.h)) (R49_2 _ _)) (ref_weak (P' := P49_2) (fun s st hp => by obtain ⟨w3_0, hl, a0, a3, r3_0, a4, a21⟩ := (hp : P49_3' s st.tmps st.h); exact (⟨w3_0, hl, a0, a3, r3_0, a4⟩ : P49_2' s st.tmps st.h)) (ref_skip (fun s st hp => hp))))))) (R49_1 _ _))))))) (ref_seq (R49_0 _ _) (ref_ret (fun s st hp => hp)))))
noncomputable def G49 (x0 : Int) : Option (List Int) := match M49 { (default : Fr49) with t0 := x0 } with
  | some (.nrm, s) => some s.t2
  | some (.ret, s) => some s.t2
  | _ => none
theorem G49_spec : Spec49 (G49) := by
  intro x0 r hr
  unfold G49 at hr
  cases hm : M49 { (default : Fr49) with t0 := x0 } with
  | none => rw [hm] at hr; cases hr
  | some q =>
    obtain ⟨x, s⟩ := q
    rw [hm] at hr
    have hx : x = .nrm ∨ x = .ret := by cases x <;> first | exact .inl rfl | exact .inr rfl | cases hr
    have hr : s.t2 = r := by cases x <;> first | exact Option.some.inj hr | cases hr
    subst hr
    have hp0 : P49_7' ({ (default : Fr49) with t0 := x0 }) (slots Tryz.f49 (stripL [.int .i64 x0])) bare := ⟨rfl, rfl⟩
    obtain ⟨v, hR, hrun⟩ := run_of_ref (C := Cl) (f := 49) (fn := Tryz.f49) Tryz.func49 rfl rfl rfl rfl (args := [.int .i64 x0]) (by simp only [refsL, refs, List.append_nil]) (B49) (s0 := { (default : Fr49) with t0 := x0 }) hp0 hm hx (R := fun v => ∃ y0_0, Sl (rI .i64) s.t2 y0_0 ∧ v = y0_0) (by
      have key : ∀ st : ASt, P49_1 s st → ∃ vs v, aresults Cl Tryz.f49.results.toList st = some vs ∧ Nrm [] st.h (packRes vs) v ∧ (fun v => ∃ y0_0, Sl (rI .i64) s.t2 y0_0 ∧ v = y0_0) v := by
        intro st hp
        obtain ⟨w2_0, hl, a2, r2_0⟩ := (hp : P49_1' s st.tmps st.h)
        exact ⟨[w2_0], _, by simp only [show Tryz.f49.results.toList = [ResultVar.tmp 2] from rfl, aresults, ares1, CP, a2, Option.getD_some], (Nrm.of (w := w2_0) (by simp only [refsL, refs, List.append_nil, r2_0.refs (rI_p .i64)])), ⟨strip w2_0, r2_0.strip (rI_p .i64), rfl⟩⟩
      intro st hq
      rcases hx with rfl | rfl
      · exact key st hq
      · exact key st hq)
    obtain ⟨z0, g0, hv⟩ := hR
    exact ⟨z0, g0, fun h => by rw [hrun h, hv]⟩
end Go.Proofs.Plm
