/-
  THE ABSTRACT MACHINE: operators.
-/
import Derived.Test.YtgjdlakemaabfaaAmOps2
set_option linter.unusedVariables false
set_option linter.unusedSimpArgs false
namespace Go.Am
open Go

theorem run_runPure {α : Type} {P : Program} (s : Sem α) : ∀ {a : α}, runPure P s = some a → ∀ w, s.run P w = .ok a w := by
  induction s with
  | pure a => intro b h w; simp only [runPure, Option.some.injEq] at h; subst h; rfl
  | program k ih => intro b h w; exact ih P h w
  | _ => intro b h; simp [runPure] at h

section
variable {P : Program} {g : G}

theorem flatV_ok {v : AVal} {v' x : Value} (hv : VRel g.ι g.μ v v') (h : flatV v = some x) : v' = x := by
  cases v <;> simp only [flatV, Option.some.injEq] at h <;> first | (cases h; done) | (subst h; cases hv; rfl)
theorem flatVs_ok {vs : List AVal} {vs' xs : List Value} (hv : VsRel g.ι g.μ vs vs') (h : flatVs vs = some xs) : vs' = xs := by
  induction vs generalizing vs' xs with
  | nil => cases hv; simp only [flatVs, Option.some.injEq] at h; exact h
  | cons v vs ih =>
    cases hv with
    | cons h1 hs =>
      simp only [flatVs, Option.bind_eq_bind, Option.bind_eq_some_iff, Option.some.injEq] at h
      obtain ⟨x, hx, ys, hys, rfl⟩ := h
      rw [flatV_ok h1 hx, ih hs hys]
theorem flatW_ok {v : AVal} {v' x : Value} (hv : VRel g.ι g.μ v v') (h : flatW v = some x) : v' = x := by
  unfold flatW at h
  split at h
  · simp only [Option.bind_eq_bind, Option.bind_eq_some_iff, Option.some.injEq] at h
    obtain ⟨xs, hxs, rfl⟩ := h
    cases hv with | agg hc => rw [← flatVs_ok hc hxs]
  · simp only [Option.bind_eq_bind, Option.bind_eq_some_iff, Option.some.injEq] at h
    obtain ⟨xs, hxs, rfl⟩ := h
    cases hv with | iface hv => cases hv with | agg hc => rw [← flatVs_ok hc hxs]
  · simp only [Option.bind_eq_bind, Option.bind_eq_some_iff, Option.some.injEq] at h
    obtain ⟨y, hy, rfl⟩ := h
    cases hv with | iface hv => rw [flatV_ok hv hy]
  · exact flatV_ok hv h

theorem bytes_toList (s : List UInt8) : (⟨s.toArray⟩ : ByteArray).toList = s := by rw [ByteArray.toList_eq]
theorem bytes_size (s : List UInt8) : (⟨s.toArray⟩ : ByteArray).size = s.length := by show s.toArray.size = _; simp
theorem bytes_append (a b : List UInt8) : (⟨a.toArray⟩ : ByteArray) ++ ⟨b.toArray⟩ = ⟨(a ++ b).toArray⟩ := by ext1; simp

theorem run_equal (t : TypeId) (x y : Value) : Op.equal t x y = Op.equalIn (9999 + 1) t x y := rfl

/-- A live block's place: of a shape, and nothing of it frozen. -/
theorem arr_facts {w : World} {b o : Nat} {cs : Array Value} {e : TypeId} (h : w.heap[b]? = some (.cells cs e (0, 0))) : w.frozen? ⟨b, o, none⟩ = false ∧ w.shape? b = some (e, cs.size) := by
  refine ⟨?_, by simp [World.shape?, h]⟩
  simp [World.frozen?, h]
theorem run_sameAddr_ne {w : World} {b o b' o' : Nat} {cs cs' : Array Value} {e e' : TypeId} (h : w.heap[b]? = some (.cells cs e (0, 0))) (h' : w.heap[b']? = some (.cells cs' e' (0, 0))) (hne : b ≠ b') :
    (sameAddr ⟨b, o, none⟩ ⟨b', o', none⟩).run P w = .ok false w := by
  have f1 := fun o => arr_facts (o := o) h
  have f2 := fun o => arr_facts (o := o) h'
  have hb : (b == b') = false := by simpa using hne
  simp only [sameAddr, hb, Bool.false_eq_true, if_false, Sem.run_bind, run_frozen, (f1 _).1, (f2 _).1, Result.andThen_ok, Bool.and_self, noView, viewAt, run_shape, (f1 0).2, (f2 0).2, Option.isSome_some, if_true, Sem.run_pure, Option.isSome_none,
    mayBeOne, stringish, Bool.or_self, Bool.false_and]

theorem eqGuard_none {op : BinOp} {t : TypeId} {xo yo : Operand} {x y : Value} (h1 : x ≠ .nilIface ∨ y ≠ .nilIface) (h2 : (∀ cs, x ≠ .agg cs) ∨ (∀ cs, y ≠ .agg cs)) (w : World) : (eqGuard op t xo yo x y).run P w = .ok () w := by
  unfold eqGuard
  have key : (match x, y with
    | .nilIface, .nilIface =>
      (if (xo matches .const _) || (yo matches .const _) then pure () else do
        if ← Op.eqGuardIn Op.maxDepth t x y then unsupported (.noEntry "binop/eql: two nil values of an interface type with methods, neither of them the literal nil") else pure ())
    | .agg _, .agg _ => (do
      if !(← program).eqGuardType (← program).depth t then pure () else do
        if ← Op.eqGuardIn Op.maxDepth t x y then unsupported (.noEntry "binop/eql: two nil values of an interface type with methods, in a part of a struct or an array") else pure ())
    | _, _ => (pure () : Sem Unit)) = pure () := by
    split
    · rcases h1 with h | h <;> exact absurd rfl h
    · rcases h2 with h | h <;> exact absurd rfl (h _)
    · rfl
  split <;> simp only [Bool.not_true, Bool.not_false, Bool.false_eq_true, if_false, if_true]
  · exact (congrArg (fun s : Sem Unit => s.run P w) key).trans rfl
  · exact (congrArg (fun s : Sem Unit => s.run P w) key).trans rfl
  · rfl

theorem guarded {op : BinOp} {t : TypeId} {xo yo : Operand} {x y r : Value} {w : World} (hg : (eqGuard op t xo yo x y).run P w = .ok () w) (h : (binOp op t x y).run P w = .ok r w) :
    (do eqGuard op t xo yo x y; binOp op t x y : Sem Value).run P w = .ok r w := by
  simp only [Sem.run_bind, hg, Result.andThen_ok, h]

theorem eqIn_ptr (d : Nat) {t e : TypeId} {i : TypeInfo} (hu : P.underlying t = some (.pointer e)) (hi : P.info? e = some i) (hz : i.size ≠ 0) (a b : Addr) (w : World) :
    (Op.equalIn (d + 1) t (.pointer (some a)) (.pointer (some b))).run P w = (sameAddr a b).run P w := by
  simp only [Op.equalIn, Sem.run_bind, run_underlying hu, Result.andThen_ok, run_sizeOf' hi, hz, ne_eq, not_false_eq_true, if_true]
theorem eqIn_ptr_nil1 (d : Nat) {t e : TypeId} (hu : P.underlying t = some (.pointer e)) (a : Addr) (w : World) : (Op.equalIn (d + 1) t (.pointer (some a)) (.pointer none)).run P w = .ok false w := by
  simp [Op.equalIn, run_underlying hu]
theorem eqIn_ptr_nil2 (d : Nat) {t e : TypeId} (hu : P.underlying t = some (.pointer e)) (a : Addr) (w : World) : (Op.equalIn (d + 1) t (.pointer none) (.pointer (some a))).run P w = .ok false w := by
  simp [Op.equalIn, run_underlying hu]
theorem eqIn_slice_nil (d : Nat) {t e : TypeId} (hu : P.underlying t = some (.slice e)) (a : Addr) (n c : Nat) (w : World) : (Op.equalIn (d + 1) t (.slice (some a) n c) (.slice none 0 0)).run P w = .ok false w := by
  simp [Op.equalIn, run_underlying hu]
theorem eqIn_map_nil (d : Nat) {t k e : TypeId} (hu : P.underlying t = some (.map k e)) (r : Nat) (w : World) : (Op.equalIn (d + 1) t (.map (some r)) (.map none)).run P w = .ok false w := by
  simp [Op.equalIn, run_underlying hu]
theorem eqIn_fn_nil (d : Nat) {t : TypeId} {ps rs : Array TypeId} {va : Bool} (hu : P.underlying t = some (.func ps rs va)) (f : Fn) (x y : Array Value) (w : World) : (Op.equalIn (d + 1) t (.func f x y) .nilFunc).run P w = .ok false w := by
  simp [Op.equalIn, run_underlying hu]
theorem eqIn_iface_nil (d : Nat) {t : TypeId} {ms : Array (String × TypeId)} (hu : P.underlying t = some (.interface ms)) (u : TypeId) (x : Value) (w : World) : (Op.equalIn (d + 1) t (.iface u x) .nilIface).run P w = .ok false w := by
  simp [Op.equalIn, run_underlying hu]

theorem isPtrT_some {C : Cfg} {t : TypeId} (h : abin.isPtrT C t = true) : ∃ e, C.P.underlying t = some (.pointer e) := by
  unfold abin.isPtrT at h; split at h
  · exact ⟨_, by assumption⟩
  · cases h
theorem isSlT_some {C : Cfg} {t : TypeId} (h : abin.isSlT C t = true) : ∃ e, C.P.underlying t = some (.slice e) := by
  unfold abin.isSlT at h; split at h
  · exact ⟨_, by assumption⟩
  · cases h
theorem isMapT_some {C : Cfg} {t : TypeId} (h : abin.isMapT C t = true) : ∃ k e, C.P.underlying t = some (.map k e) := by
  unfold abin.isMapT at h; split at h
  · exact ⟨_, _, by assumption⟩
  · cases h
theorem isFnT_some {C : Cfg} {t : TypeId} (h : abin.isFnT C t = true) : ∃ a b c, C.P.underlying t = some (.func a b c) := by
  unfold abin.isFnT at h; split at h
  · exact ⟨_, _, _, by assumption⟩
  · cases h
theorem isIfT_some {C : Cfg} {t : TypeId} (h : abin.isIfT C t = true) : ∃ a, C.P.underlying t = some (.interface a) := by
  unfold abin.isIfT at h; split at h
  · exact ⟨_, by assumption⟩
  · cases h

theorem bin_ok {C : Cfg} (hC : C.P = P) {B : Nat} {h : AHeap} (I : Inv B h g) {op : BinOp} {t : TypeId} {xo yo : Operand} {x y v : AVal} {x' y' : Value} (hx : VRel g.ι g.μ x x') (hy : VRel g.ι g.μ y y') (hl : abin C op t xo yo h x y = some v) :
    ∃ v', (do eqGuard op t xo yo x' y'; binOp op t x' y' : Sem Value).run P g.w = .ok v' g.w ∧ VRel g.ι g.μ v v' := by
  subst hC
  unfold abin at hl
  split at hl
  iterate 9
    next =>
      split at hl
      case isFalse => cases hl
      rename_i hk
      subst hk
      simp only [Option.some.injEq] at hl; subst hl
      cases hx; cases hy
      first
        | exact ⟨_, guarded (eqGuard_none (.inl (by simp)) (.inl (by simp)) _) (by simp only [binOp, ne_eq, not_true_eq_false, if_false, Op.intArith, Op.intCmp]; rfl), .int _ _⟩
        | exact ⟨_, guarded (eqGuard_none (.inl (by simp)) (.inl (by simp)) _) (by simp only [binOp, ne_eq, not_true_eq_false, if_false, Op.intArith, Op.intCmp]; rfl), .bool _⟩
  iterate 2
    next =>
      split at hl
      case isFalse => cases hl
      rename_i hk
      obtain ⟨rfl, hb⟩ := hk
      simp only [Option.some.injEq] at hl; subst hl
      cases hx; cases hy
      exact ⟨_, guarded (eqGuard_none (.inl (by simp)) (.inl (by simp)) _) (by simp only [binOp, ne_eq, not_true_eq_false, if_false, Op.intDiv, hb]; rfl), .int _ _⟩
  iterate 2
    next =>
      split at hl
      case isFalse => cases hl
      rename_i hk
      simp only [Option.some.injEq] at hl; subst hl
      cases hx; cases hy
      exact ⟨_, guarded (eqGuard_none (.inl (by simp)) (.inl (by simp)) _) (by simp only [binOp, Op.shift, Int.not_lt.2 hk, if_false]; rfl), .int _ _⟩
  · split at hl
    case isFalse => cases hl
    rename_i hk
    simp only [Option.some.injEq] at hl; subst hl
    cases hx; cases hy
    refine ⟨_, guarded (eqGuard_none (.inl (by simp)) (.inl (by simp)) _) ?_, .str _⟩
    simp only [binOp, Op.stringOp, bytes_size]
    rw [if_neg (by show ¬ (_ : Int) > (9223372036854775807 : Int); omega), bytes_append]
    rfl
  iterate 2
    next =>
      simp only [Option.some.injEq] at hl; subst hl
      cases hx; cases hy
      exact ⟨_, guarded (eqGuard_none (.inl (by simp)) (.inl (by simp)) _) (by simp only [binOp, Op.stringOp, bytes_toList]; rfl), .bool _⟩
  iterate 2
    next =>
      split at hl
      case h_2 => cases hl
      rename_i id1 a id2 b _ _ c1 cs1 c2 cs2 hg1 hg2
      split at hl
      case isFalse => cases hl
      rename_i hP
      simp only [Option.some.injEq] at hl; subst hl
      obtain ⟨b1, o1, ccs1, e1, vs1, hm1, h01, hh1, hv1, hc1, hn1⟩ := I.blk _ _ hg1
      obtain ⟨b2, o2, ccs2, e2, vs2, hm2, h02, hh2, hv2, hc2, hn2⟩ := I.blk _ _ hg2
      cases hx with | ptr hmx =>
      cases hy with | ptr hmy =>
      rw [hm1] at hmx; cases hmx
      rw [hm2] at hmy; cases hmy
      have heq : (Op.equal t (.pointer (some ⟨b1, o1 + a, none⟩)) (.pointer (some ⟨b2, o2 + b, none⟩))).run C.P g.w = .ok (decide (id1 = id2) && decide (a = b)) g.w := by
        unfold abin.P2 at hP
        split at hP
        case h_2 => cases hP
        rename_i e hu
        split at hP
        case h_2 => cases hP
        rename_i i hi
        have hz : i.size ≠ 0 := by simpa using hP
        rw [run_equal]
        rw [eqIn_ptr 9999 hu hi hz]
        by_cases hid : id1 = id2
        · subst hid
          rw [hm1] at hm2
          simp only [Option.some.injEq, Ent.arr.injEq] at hm2
          obtain ⟨rfl, rfl, _⟩ := hm2
          simp only [sameAddr, beq_self_eq_true, if_true, Sem.run_pure, decide_true, Bool.true_and]
          congr 1
          by_cases hab : a = b
          · subst hab; simp
          · have : (⟨b1, o1 + a, none⟩ : Addr) ≠ ⟨b1, o1 + b, none⟩ := by intro h; injection h; omega
            simp [hab, this]
        · have hbne : b1 ≠ b2 := fun hb => hid (I.inj id1 id2 _ _ b1 hg1 hg2 (by simp [blkOf, hm1, Ent.block]) (by simp [blkOf, hm2, Ent.block, hb]))
          simp only [run_sameAddr_ne hh1 hh2 hbne, hid, decide_false, Bool.false_and]
      refine ⟨_, guarded (eqGuard_none (.inl (by simp)) (.inl (by simp)) _) (by simp only [binOp, Sem.run_bind, heq, Result.andThen_ok, Sem.run_pure]), .bool _⟩
  -- against nil
  iterate 4
    next =>
      split at hl
      case isFalse => cases hl
      rename_i hP
      obtain ⟨e, hu⟩ := isPtrT_some hP
      simp only [Option.some.injEq] at hl; subst hl
      cases hx; cases hy
      exact ⟨_, guarded (eqGuard_none (.inl (by simp)) (.inl (by simp)) _) (by simp only [binOp, Sem.run_bind, run_equal, eqIn_ptr_nil1 9999 hu, eqIn_ptr_nil2 9999 hu, Result.andThen_ok, Sem.run_pure] <;> rfl), .bool _⟩
  iterate 4
    next =>
      split at hl
      case isFalse => cases hl
      rename_i hP
      obtain ⟨e, hu⟩ := isPtrT_some hP
      simp only [Option.some.injEq] at hl; subst hl
      cases hx; cases hy
      exact ⟨_, guarded (eqGuard_none (.inl (by simp)) (.inl (by simp)) _) (by simp only [binOp, Sem.run_bind, run_equal, eqIn_ptr_nil1 9999 hu, eqIn_ptr_nil2 9999 hu, Result.andThen_ok, Sem.run_pure] <;> rfl), .bool _⟩
  iterate 2
    next =>
      split at hl
      case isFalse => cases hl
      rename_i hP
      obtain ⟨e, hu⟩ := isSlT_some hP
      simp only [Option.some.injEq] at hl; subst hl
      cases hx; cases hy
      exact ⟨_, guarded (eqGuard_none (.inl (by simp)) (.inl (by simp)) _) (by simp only [binOp, Sem.run_bind, run_equal, eqIn_slice_nil 9999 hu, Result.andThen_ok, Sem.run_pure] <;> rfl), .bool _⟩
  iterate 2
    next =>
      split at hl
      case isFalse => cases hl
      rename_i hP
      obtain ⟨e, hu⟩ := isSlT_some hP
      simp only [Option.some.injEq] at hl; subst hl
      cases hx; cases hy
      exact ⟨_, guarded (eqGuard_none (.inl (by simp)) (.inl (by simp)) _) (by simp only [binOp, Sem.run_bind, run_equal, eqIn_slice_nil 9999 hu, Result.andThen_ok, Sem.run_pure] <;> rfl), .bool _⟩
  iterate 2
    next =>
      split at hl
      case isFalse => cases hl
      rename_i hP
      obtain ⟨k, e, hu⟩ := isMapT_some hP
      simp only [Option.some.injEq] at hl; subst hl
      cases hx; cases hy
      exact ⟨_, guarded (eqGuard_none (.inl (by simp)) (.inl (by simp)) _) (by simp only [binOp, Sem.run_bind, run_equal, eqIn_map_nil 9999 hu, Result.andThen_ok, Sem.run_pure] <;> rfl), .bool _⟩
  iterate 2
    next =>
      split at hl
      case isFalse => cases hl
      rename_i hP
      obtain ⟨ps, rs, va, hu⟩ := isFnT_some hP
      simp only [Option.some.injEq] at hl; subst hl
      cases hx; cases hy
      exact ⟨_, guarded (eqGuard_none (.inl (by simp)) (.inl (by simp)) _) (by simp only [binOp, Sem.run_bind, run_equal, eqIn_fn_nil 9999 hu, Result.andThen_ok, Sem.run_pure] <;> rfl), .bool _⟩
  iterate 2
    next =>
      split at hl
      case isFalse => cases hl
      rename_i hP
      obtain ⟨ms, hu⟩ := isIfT_some hP
      simp only [Option.some.injEq] at hl; subst hl
      cases hx; cases hy
      exact ⟨_, guarded (eqGuard_none (.inl (by simp)) (.inl (by simp)) _) (by simp only [binOp, Sem.run_bind, run_equal, eqIn_iface_nil 9999 hu, Result.andThen_ok, Sem.run_pure] <;> rfl), .bool _⟩
  · simp only [Option.bind_eq_bind, Option.bind_eq_some_iff] at hl
    obtain ⟨a, ha, b, hb, r, hr, hl⟩ := hl
    have e1 := flatW_ok hx ha
    have e2 := flatW_ok hy hb
    subst e1; subst e2
    have hrun := run_runPure _ hr g.w
    refine ⟨r, hrun, ?_⟩
    split at hl
    · cases hl
    · cases hl
    · simp only [Option.some.injEq] at hl; subst hl; exact ofCell_rel r

theorem un_ok {C : Cfg} (hC : C.P = P) {op : UnOp} {x v : AVal} {x' : Value} (hx : VRel g.ι g.μ x x') (hl : aun C op x = some v) : ∃ v', (Op.unary op x').run P g.w = .ok v' g.w ∧ VRel g.ι g.μ v v' := by
  subst hC
  unfold aun at hl
  split at hl
  · simp only [Option.some.injEq] at hl; subst hl; cases hx; exact ⟨_, rfl, .bool _⟩
  · simp only [Option.some.injEq] at hl; subst hl; cases hx; exact ⟨_, rfl, .int _ _⟩
  · simp only [Option.bind_eq_bind, Option.bind_eq_some_iff] at hl
    obtain ⟨a, ha, r, hr, hl⟩ := hl
    have e1 := flatV_ok hx ha
    subst e1
    refine ⟨r, run_runPure _ hr g.w, ?_⟩
    split at hl
    · cases hl
    · cases hl
    · simp only [Option.some.injEq] at hl; subst hl; exact ofCell_rel r
end
end Go.Am
