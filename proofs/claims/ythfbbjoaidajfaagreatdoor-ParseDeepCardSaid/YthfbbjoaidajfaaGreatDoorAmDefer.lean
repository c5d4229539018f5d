import Derived.Test.YthfbbjoaidajfaaGreatDoorAmSound
import Derived.Recover
set_option linter.unusedVariables false
set_option linter.unusedSimpArgs false
set_option linter.unusedSimpArgs false
set_option linter.unusedVariables false
namespace Go.Am
open Go
def NameOk (C : Cfg) : Prop := ∀ (f : FuncId) (fn : Func), C.P.funcs[f]? = some fn → (fn.name == "runtime.NumGoroutine") = false
theorem run_enter {C : Cfg} (hN : NameOk C) {f : FuncId} {fn : Func} {body : Code} (hf : C.P.funcs[f]? = some fn) (hb : fn.body = some body) (args : Array Value) (w : World) : (callFunc f args).run C.P w = .ok (.enter f args) w := by
  simp only [callFunc, Sem.run_bind, run_program, Result.andThen_ok, hf, hN f fn hf, Bool.false_eq_true, if_false, hb, Option.isNone_some, Sem.run_pure]
def MRel (ι : Imm) (μ : Mu) : AMode → FrameMode → Prop
  | .calm, u => u = .returning
  | .pan v, u => ∃ v', u = .panicking [{ v := v', recovered := false }] ∧ VRel ι μ v v'
  | .done v, u => ∃ v', u = .panicking [{ v := v', recovered := true }] ∧ VRel ι μ v v'
theorem MRel.mono {ι ι' : Imm} {μ μ' : Mu} (l : Le ι ι' μ μ') {m : AMode} {u : FrameMode} (h : MRel ι μ m u) : MRel ι' μ' m u := by
  cases m with
  | calm => exact h
  | pan v => obtain ⟨v', rfl, hv⟩ := h; exact ⟨v', rfl, hv.mono l⟩
  | done v => obtain ⟨v', rfl, hv⟩ := h; exact ⟨v', rfl, hv.mono l⟩
def PostR (B : Nat) (s : ASt) (g : G) (c₀ : Frame) (cs : List Frame) (x : AExit) (s' : ASt) (m' : AMode) (ex : Exit) (a' : Act) (cs' : List Frame) (w' : World) : Prop :=
  ∃ u' ι' μ', cs' = { c₀ with mode := u' } :: cs ∧ MRel ι' μ' m' u' ∧ Inv B s'.h ⟨w', ι', μ'⟩ ∧ Ext s.h g s'.h ⟨w', ι', μ'⟩ ∧ VsRel ι' μ' s'.tmps a'.tmps.toList ∧ a'.defers = [] ∧ match x with
    | .normal => ex = .normal
    | .exit id => ex = .exit id
    | .ret => ex = .ret
    | .pan v => ∃ v', ex = .panic [{ v := v', recovered := false }] ∧ VRel ι' μ' v v'
theorem PostR.trans {B : Nat} {s s1 s' : ASt} {g g1 : G} {c₀ : Frame} {cs : List Frame} {x : AExit} {m' : AMode} {ex : Exit} {a' : Act} {cs' : List Frame} {w' : World} (E : Ext s.h g s1.h g1) (h : PostR B s1 g1 c₀ cs x s' m' ex a' cs' w') : PostR B s g c₀ cs x s' m' ex a' cs' w' := by
  obtain ⟨u', ι', μ', h1, h2, I', E', rest⟩ := h
  exact ⟨u', ι', μ', h1, h2, I', E.trans E', rest⟩
theorem run_recover {C : Cfg} {o : Oper} (h : isRecover o = true) (ρ : Operand → Value) (w : World) : (execOp ρ o).run C.P w = .ok .recover w := by
  unfold isRecover at h
  split at h
  · rename_i c hop
    split at h
    · rename_i hc
      simp only [execOp, hop, resolve, hc, Sem.run_bind, Sem.run_pure, Result.andThen_ok, invoke, builtin]
    · cases h
  · cases h
theorem opsR_sound {C : Cfg} {call : CallF} (hcall : CallOk C call) {ops : Array Oper} {B : Nat} (c₀ : Frame) (cs : List Frame) : ∀ (l : List Oper) (k : Nat), (∀ j, l[j]? = ops[k + j]?) → ∀ (s : ASt) (m : AMode) (x : AExit) (s' : ASt) (m' : AMode), aopsR C call ops l s m = some (x, s', m') →
    ∀ (g : G) (a : Act) (u : FrameMode), Inv B s.h g → GlobOk C B g → VsRel g.ι g.μ s.tmps a.tmps.toList → a.defers = [] → MRel g.ι g.μ m u →
    ∀ Q : Exit → Act → List Frame → World → Prop, (∀ ex a' cs' w', PostR B s g c₀ cs x s' m' ex a' cs' w' → Q ex a' cs' w') → wpOpsS C.P ops Q (List.range' k l.length) a ({ c₀ with mode := u } :: cs) g.w := by
  intro l
  induction l with
  | nil =>
    intro k _ s m x s' m' h g a u I hG ht hd hm Q hQ
    simp only [aopsR, Option.some.injEq, Prod.mk.injEq] at h
    obtain ⟨rfl, rfl, rfl⟩ := h
    exact hQ _ _ _ _ ⟨u, g.ι, g.μ, rfl, hm, I, Ext.refl _ _, ht, hd, rfl⟩
  | cons o rest ih =>
    intro k hk s m x s' m' h g a u I hG ht hd hm Q hQ
    have h0 : ops[k]? = some o := by simpa using (hk 0).symm
    have hk' : ∀ j, rest[j]? = ops[k + 1 + j]? := fun j => by have := hk (j + 1); simpa [Nat.add_assoc, Nat.add_comm 1 j] using this
    simp only [List.length_cons, List.range'_succ, wpOpsS, h0]
    simp only [aopsR] at h
    cases hw : awanted ops s.tmps o with
    | none => simp [hw] at h
    | some b =>
      have hwc := wanted_ok ht hw
      rw [hwc]
      cases b with
      | false =>
        simp only [hw] at h
        rw [if_neg (by simp)]
        exact ih (k + 1) hk' _ m x s' m' h g (a.put o.dst undef) u I hG (put_rel ht o.dst (.tup .nil)) (by rw [put_defers]; exact hd) hm Q hQ
      | true =>
        simp only [hw] at h
        rw [if_pos rfl]
        by_cases hr : isRecover o = true
        · rw [if_pos hr] at h
          rw [run_recover hr]
          simp only
          cases m with
          | calm =>
            simp only at h
            have hu : u = .returning := hm
            subst hu
            simp only [recoverD]
            exact ih (k + 1) hk' _ .calm x s' m' h g (a.put o.dst .nilIface) .returning I hG (put_rel ht o.dst .nilI) (by rw [put_defers]; exact hd) rfl Q hQ
          | pan v =>
            simp only at h
            obtain ⟨v', rfl, hv⟩ := hm
            simp only [recoverD]
            exact ih (k + 1) hk' _ (.done v) x s' m' h g (a.put o.dst v') _ I hG (put_rel ht o.dst hv) (by rw [put_defers]; exact hd) ⟨v', rfl, hv⟩ Q hQ
          | done v => cases h
        · rw [if_neg hr] at h
          have hstep : o.wp C.P a g.w (fun a' w' => wpOpsS C.P ops Q (List.range' (k + 1) rest.length) a' ({ c₀ with mode := u } :: cs) w') (fun e a' w' => Q e a' ({ c₀ with mode := u } :: cs) w') := by
            refine oper_step hcall I hG ht hd (fun v h' hor g' v' I' E hv => ?_) (fun v h' hor g' v' I' E hv => ?_) ?_
            · have hcont : aopsR C call ops rest { tmps := put s.tmps o.dst v, h := h' } m = some (x, s', m') := by
                rcases hor with hv' | ⟨f, args, hc, hr⟩
                · simpa only [hv'] using h
                · simpa only [hc, hr] using h
              exact ih (k + 1) hk' _ m x s' m' hcont g' (a.put o.dst v') u I' (hG.ext I E) (put_rel (ht.mono E.le) o.dst hv) (by rw [put_defers]; exact hd) (hm.mono E.le) Q (fun ex a' cs' w' hp => hQ ex a' cs' w' (hp.trans E))
            · have hcont : x = .pan v ∧ s' = { s with h := h' } ∧ m' = m := by
                rcases hor with ⟨hv', rfl⟩ | ⟨f, args, hc, hr⟩
                · simp only [hv', Option.some.injEq, Prod.mk.injEq] at h; exact ⟨h.1.symm, h.2.1.symm, h.2.2.symm⟩
                · simp only [hc, hr, Option.some.injEq, Prod.mk.injEq] at h; exact ⟨h.1.symm, h.2.1.symm, h.2.2.symm⟩
              obtain ⟨rfl, rfl, rfl⟩ := hcont
              exact hQ _ _ _ _ ⟨u, g'.ι, g'.μ, rfl, hm.mono E.le, I', E, ht.mono E.le, hd, v', rfl, hv⟩
            · cases ho : aoper C (evalO C s.tmps) s.h o with
              | none => simp [ho] at h
              | some out => cases out with
                | val v h' => exact .inl ⟨v, h', rfl⟩
                | pan v => exact .inr (.inl ⟨v, rfl⟩)
                | call f args =>
                  cases hr : call f args s.h with
                  | none => simp [ho, hr] at h
                  | some r => exact .inr (.inr ⟨f, args, r, rfl, hr⟩)
          unfold Oper.wp at hstep
          split
          · rename_i w' hrun
            rw [hrun] at hstep
            exact hstep.elim
          · exact hstep
theorem wpS_mono {P : Program} {c : Code} {Q Q' : Exit → Act → List Frame → World → Prop} {a : Act} {cs : List Frame} {w : World} (h : c.wpS P Q a cs w) (hq : ∀ e a cs w, Q e a cs w → Q' e a cs w) : c.wpS P Q' a cs w :=
  fun b k hb hr => let ⟨e, a', cs', w', q, r⟩ := h b k hb hr; ⟨e, a', cs', w', hq _ _ _ _ q, r⟩
theorem execR_sound {C : Cfg} {call : CallF} (hcall : CallOk C call) (hdraw : DrawOk C call) {B : Nat} (n : Nat) (c₀ : Frame) (cs : List Frame) : ∀ (c : Code) (s : ASt) (m : AMode) (x : AExit) (s' : ASt) (m' : AMode), aexecR C call n c s m = some (x, s', m') →
    ∀ (g : G) (a : Act) (u : FrameMode), Inv B s.h g → GlobOk C B g → VsRel g.ι g.μ s.tmps a.tmps.toList → a.defers = [] → MRel g.ι g.μ m u →
    c.wpS C.P (PostR B s g c₀ cs x s' m') a ({ c₀ with mode := u } :: cs) g.w := by
  have other : ∀ (c : Code) (s : ASt) (m : AMode) (x : AExit) (s' : ASt) (m' : AMode), (aexec C call n c s).map (fun r => (r.1, r.2, m)) = some (x, s', m') →
      ∀ (g : G) (a : Act) (u : FrameMode), Inv B s.h g → GlobOk C B g → VsRel g.ι g.μ s.tmps a.tmps.toList → a.defers = [] → MRel g.ι g.μ m u →
      c.wpS C.P (PostR B s g c₀ cs x s' m') a ({ c₀ with mode := u } :: cs) g.w := by
    intro c s m x s' m' h g a u I hG ht hd hm
    rw [Option.map_eq_some_iff] at h
    obtain ⟨⟨x1, s1⟩, he, heq⟩ := h
    simp only [Prod.mk.injEq] at heq
    obtain ⟨rfl, rfl, rfl⟩ := heq
    refine wpS_of_wp (Code.wp_mono (fun ex a' w' hp => ?_) (exec_sound hcall hdraw (B := B) n c [] s x1 s1 he g a I hG ht hd))
    obtain ⟨ι', μ', I', E, ht', hd', hx⟩ := hp
    exact ⟨u, ι', μ', rfl, hm.mono E.le, I', E, ht', hd', hx⟩
  intro c
  induction c with
  | region id ops draw =>
    intro s m x s' m' h g a u I hG ht hd hm
    cases draw with
    | true => exact other _ s m x s' m' h g a u I hG ht hd hm
    | false =>
      refine wpS_region ?_
      have := opsR_sound hcall (B := B) c₀ cs ops.toList 0 (by intro j; simp) s m x s' m' h g a u I hG ht hd hm _ (fun _ _ _ _ hp => hp)
      rw [List.range_eq_range', ← Array.length_toList]; exact this
  | seq c1 c2 ih1 ih2 =>
    intro s m x s' m' h g a u I hG ht hd hm
    simp only [aexecR] at h
    cases hfs : aexecR C call n c1 s m with
    | none => simp [hfs] at h
    | some r =>
      obtain ⟨x1, s1, m1⟩ := r
      refine wpS_seq (wpS_mono (ih1 s m x1 s1 m1 hfs g a u I hG ht hd hm) (fun ex a1 cs1 w1 hp => ?_))
      have hp0 := hp
      obtain ⟨u1, ι1, μ1, rfl, hm1, I1, E1, ht1, hd1, hx1⟩ := hp
      cases x1 with
      | normal =>
        simp only at hx1; subst hx1
        simp only [hfs] at h
        exact wpS_mono (ih2 s1 m1 x s' m' h ⟨w1, ι1, μ1⟩ a1 u1 I1 (hG.ext I E1) ht1 hd1 hm1) (fun ex a' cs' w' hp => hp.trans E1)
      | exit id => simp only at hx1; subst hx1; simp only [hfs, Option.some.injEq, Prod.mk.injEq] at h; obtain ⟨rfl, rfl, rfl⟩ := h; exact hp0
      | ret => simp only at hx1; subst hx1; simp only [hfs, Option.some.injEq, Prod.mk.injEq] at h; obtain ⟨rfl, rfl, rfl⟩ := h; exact hp0
      | pan v => obtain ⟨v', rfl, hv⟩ := hx1; simp only [hfs, Option.some.injEq, Prod.mk.injEq] at h; obtain ⟨rfl, rfl, rfl⟩ := h; exact hp0
  | cond o c1 c2 ih1 ih2 =>
    intro s m x s' m' h g a u I hG ht hd hm
    simp only [aexecR] at h
    have hev := eval_rel hG.imm ht o
    cases hc : evalO C s.tmps o <;> rw [hc] at h <;> try (cases h; done)
    case bool b =>
      rw [hc] at hev
      have hb : a.eval o = .bool b := by generalize a.eval o = v at hev; cases hev; rfl
      cases b with
      | true => exact wpS_cond hb (ih1 s m x s' m' h g a u I hG ht hd hm)
      | false => exact wpS_cond hb (ih2 s m x s' m' h g a u I hG ht hd hm)
  | _ => intro s m x s' m' h g a u I hG ht hd hm; exact other _ s m x s' m' h g a u I hG ht hd hm
theorem defer_sound {C : Cfg} {call : CallF} (hcall : CallOk C call) (hdraw : DrawOk C call) {n : Nat} {g : FuncId} {args : List AVal} {m : AMode} {h h' : AHeap} {r : ARes} {m' : AMode} (hr : adefer C call n g args m h = some (r, h', m')) {B : Nat} {gg : G} {args' : Array Value} {u : FrameMode}
    (I : Inv B h gg) (hG : GlobOk C B gg) (ha : VsRel gg.ι gg.μ args args'.toList) (hm : MRel gg.ι gg.μ m u) :
    (∃ fn body, C.P.funcs[g]? = some fn ∧ fn.body = some body) ∧ CallsD C.P g args' u gg.w fun e u' w' => ∃ ι' μ', MRel ι' μ' m' u' ∧ Inv B h' ⟨w', ι', μ'⟩ ∧ Ext h gg h' ⟨w', ι', μ'⟩ ∧ match r with
      | .ret v => ∃ v', e = .returned v'
      | .pan v => ∃ v', e = .panicked [{ v := v', recovered := false }] ∧ VRel ι' μ' v v' := by
  unfold adefer at hr
  cases hf : C.P.funcs[g]? with
  | none => rw [hf] at hr; cases hr
  | some fn =>
  rw [hf] at hr
  cases hb : fn.body with
  | none => simp only [hb] at hr; cases hr
  | some body =>
  refine ⟨⟨fn, body, rfl, hb⟩, ?_⟩
  simp only [hb] at hr
  have htm : VsRel gg.ι gg.μ (args ++ List.replicate (fn.ntmps - args.length) .top) (args' ++ Array.replicate (fn.ntmps - args'.size) undef).toList := by
    rw [Array.toList_append]
    refine ha.append ?_
    have := ha.length
    simp only [Array.length_toList] at this
    rw [this]
    exact VsRel.replicate_top _ _ (by simp)
  refine callsD_of_wpS hf hb fun c₀ cs hu => ?_
  cases he : aexecR C call n body { tmps := args ++ List.replicate (fn.ntmps - args.length) .top, h } m with
  | none => rw [he] at hr; cases hr
  | some q =>
    obtain ⟨x, s, m1⟩ := q
    rw [he] at hr
    have hcc : c₀ :: cs = { c₀ with mode := u } :: cs := by subst hu; rfl
    rw [hcc]
    refine wpS_mono (execR_sound hcall hdraw (B := B) n c₀ cs body _ m x s m1 he gg { tmps := args' ++ Array.replicate (fn.ntmps - args'.size) undef, defers := [] } u I hG htm rfl hm) (fun ex a1 cs1 w1 hp => ?_)
    obtain ⟨u1, ι1, μ1, rfl, hm1, I1, E1, ht1, hd1, hx1⟩ := hp
    cases x with
    | normal =>
      simp only at hx1; subst hx1
      simp only [Option.map_eq_some_iff, Prod.mk.injEq] at hr
      obtain ⟨vs, hvs, rfl, rfl, rfl⟩ := hr
      obtain ⟨v', hrun, hv⟩ := results_run (g := ⟨w1, ι1, μ1⟩) I1 ht1 hvs
      exact ⟨hd1, u1, rfl, v', hrun, ι1, μ1, hm1, I1, E1, v', rfl⟩
    | ret =>
      simp only at hx1; subst hx1
      simp only [Option.map_eq_some_iff, Prod.mk.injEq] at hr
      obtain ⟨vs, hvs, rfl, rfl, rfl⟩ := hr
      obtain ⟨v', hrun, hv⟩ := results_run (g := ⟨w1, ι1, μ1⟩) I1 ht1 hvs
      exact ⟨hd1, u1, rfl, v', hrun, ι1, μ1, hm1, I1, E1, v', rfl⟩
    | pan v =>
      obtain ⟨v', rfl, hv⟩ := hx1
      simp only [Option.some.injEq, Prod.mk.injEq] at hr
      obtain ⟨rfl, rfl, rfl⟩ := hr
      exact ⟨hd1, u1, rfl, ι1, μ1, hm1, I1, E1, v', rfl, hv⟩
    | exit id => cases hr
theorem opsR_calm {C : Cfg} {call : CallF} {ops : Array Oper} : ∀ (l : List Oper) (s : ASt) (x : AExit) (s' : ASt) (m' : AMode), aopsR C call ops l s .calm = some (x, s', m') → m' = .calm := by
  intro l
  induction l with
  | nil =>
    intro s x s' m' h
    simp only [aopsR, Option.some.injEq, Prod.mk.injEq] at h
    exact h.2.2.symm
  | cons o rest ih =>
    intro s x s' m' h
    simp only [aopsR] at h
    split at h
    · cases h
    · exact ih _ _ _ _ h
    · split at h
      · exact ih _ _ _ _ h
      · split at h
        · cases h
        · exact ih _ _ _ _ h
        · simp only [Option.some.injEq, Prod.mk.injEq] at h; exact h.2.2.symm
        · split at h
          · cases h
          · exact ih _ _ _ _ h
          · simp only [Option.some.injEq, Prod.mk.injEq] at h; exact h.2.2.symm
theorem execR_calm {C : Cfg} {call : CallF} {n : Nat} : ∀ (c : Code) (s : ASt) (x : AExit) (s' : ASt) (m' : AMode), aexecR C call n c s .calm = some (x, s', m') → m' = .calm := by
  have other : ∀ (c : Code) (s : ASt) (x : AExit) (s' : ASt) (m' : AMode), (aexec C call n c s).map (fun r => (r.1, r.2, AMode.calm)) = some (x, s', m') → m' = .calm := by
    intro c s x s' m' h
    rw [Option.map_eq_some_iff] at h
    obtain ⟨q, _, heq⟩ := h
    simp only [Prod.mk.injEq] at heq
    exact heq.2.2.symm
  intro c
  induction c with
  | region id ops draw =>
    intro s x s' m' h
    cases draw with
    | true => exact other _ _ _ _ _ h
    | false => exact opsR_calm _ _ _ _ _ h
  | seq a b iha ihb =>
    intro s x s' m' h
    simp only [aexecR] at h
    split at h
    · rename_i s1 m1 hfs
      have := iha _ _ _ _ hfs
      subst this
      exact ihb _ _ _ _ h
    · exact iha _ _ _ _ h
  | cond o a b iha ihb =>
    intro s x s' m' h
    simp only [aexecR] at h
    split at h
    · exact iha _ _ _ _ h
    · exact ihb _ _ _ _ h
    · cases h
  | _ => intro s x s' m' h; exact other _ _ _ _ _ h
theorem defer_calm {C : Cfg} {call : CallF} {n : Nat} {g : FuncId} {args : List AVal} {h h' : AHeap} {r : ARes} {m' : AMode} (hr : adefer C call n g args .calm h = some (r, h', m')) : m' = .calm := by
  unfold adefer at hr
  split at hr
  · cases hr
  · split at hr
    · cases hr
    · split at hr
      · rename_i s m1 he
        rw [Option.map_eq_some_iff] at hr
        obtain ⟨vs, _, heq⟩ := hr
        simp only [Prod.mk.injEq] at heq
        rw [← heq.2.2]; exact execR_calm _ _ _ _ _ he
      · rename_i s m1 he
        rw [Option.map_eq_some_iff] at hr
        obtain ⟨vs, _, heq⟩ := hr
        simp only [Prod.mk.injEq] at heq
        rw [← heq.2.2]; exact execR_calm _ _ _ _ _ he
      · rename_i v s m1 he
        simp only [Option.some.injEq, Prod.mk.injEq] at hr
        rw [← hr.2.2]; exact execR_calm _ _ _ _ _ he
      · cases hr
theorem VsRel.map_eval {C : Cfg} {ι : Imm} {μ : Mu} (hG : GlobI C ι) {tmps : List AVal} {a : Act} (ht : VsRel ι μ tmps a.tmps.toList) : ∀ (l : List Operand), VsRel ι μ (l.map (evalO C tmps)) (l.map a.eval) := by
  intro l
  induction l with
  | nil => exact .nil
  | cons x l ih => exact .cons (eval_rel hG ht x) ih
theorem leaves_mono {P : Program} {fn : Func} {tmps : Array Value} {R R' : Ending → World → Prop} (hR : ∀ e w, R e w → R' e w) : ∀ (ds : List Deferred) (u : FrameMode) (w : World), Leaves P fn tmps R ds u w → Leaves P fn tmps R' ds u w := by
  intro ds
  induction ds with
  | nil =>
    intro u w h
    cases u with
    | run => exact h.elim
    | returning => obtain ⟨v, h1, h2⟩ := h; exact ⟨v, h1, hR _ _ h2⟩
    | panicking chain => exact hR _ _ h
  | cons d ds ih =>
    intro u w h
    obtain ⟨h1, fv, cap, f, args, h2, h3, h4⟩ := h
    refine ⟨h1, fv, cap, f, args, h2, h3, h4.mono fun e u' w' hq => ?_⟩
    cases e with
    | returned v => exact ih _ _ hq
    | panicked chain => exact ih _ _ hq
    | outgrown => exact hR _ _ hq
theorem bodyPostD_mono {P : Program} {fn : Func} {R R' : Ending → World → Prop} (hR : ∀ e w, R e w → R' e w) {ex : Exit} {a : Act} {w : World} (h : bodyPostD P fn R ex a w) : bodyPostD P fn R' ex a w := by
  cases ex with
  | normal => exact leaves_mono hR _ _ _ h
  | ret => exact leaves_mono hR _ _ _ h
  | panic chain => exact leaves_mono hR _ _ _ h
  | outgrown => exact hR _ _ h
  | exit id => exact h.elim
  | goto l => exact h.elim
theorem leave_sound {C : Cfg} (hN : NameOk C) {call : CallF} (hcall : CallOk C call) (hdraw : DrawOk C call) {n : Nat} {fn : Func} {g : FuncId} {args : List AVal} {x : AExit} {s s0 : ASt} {r : ARes} {h' : AHeap} (hr : aleave C call n fn g args (some (x, s)) = some (r, h')) {B : Nat} {gg : G} {cap dargs : Array Value} {ex : Exit} {a' : Act} {w' : World}
    (I0 : Inv B s0.h gg) (hG : GlobOk C B gg) (hargs : VsRel gg.ι gg.μ args (dargs ++ cap).toList)
    (hp : PostOk [{ target := .fn (.func g) cap, args := dargs }] B s0 gg x s ex a' w') : bodyPostD C.P fn (ResOk B s0.h gg h' r) ex a' w' := by
  obtain ⟨ι1, μ1, I1, E1, ht1, hd1, hx1⟩ := hp
  have hargs1 := hargs.mono E1.le
  have hG1 := hG.ext I0 E1
  have inv : ∀ (w : World), (∃ fn body, C.P.funcs[g]? = some fn ∧ fn.body = some body) → (invoke (.fn (.func g) cap) dargs).run C.P w = .ok (.enter g (dargs ++ cap)) w := by
    rintro w ⟨fn2, body2, hf2, hb2⟩
    simp only [invoke]
    exact run_enter hN hf2 hb2 _ w
  have calm : (match adefer C call n g args .calm s.h with
      | some (.ret _, h', _) => (aresults C fn.results.toList { s with h := h' }).map fun vs => (.ret (packRes vs), h')
      | some (.pan v, h', _) => some (.pan v, h')
      | none => none) = some (r, h') → Leaves C.P fn a'.tmps (ResOk B s0.h gg h' r) a'.defers .returning w' := by
    intro hr
    rw [hd1]
    cases hq : adefer C call n g args .calm s.h with
    | none => rw [hq] at hr; cases hr
    | some q =>
      obtain ⟨rr, h2, m2⟩ := q
      have hmc := defer_calm hq
      subst hmc
      rw [hq] at hr
      obtain ⟨hfb, hc⟩ := defer_sound hcall hdraw hq (gg := ⟨w', ι1, μ1⟩) (u := .returning) I1 hG1 hargs1 rfl
      refine leaves_cons (by simp) (inv w' hfb) (hc.mono fun e u' w2 hres => ?_)
      obtain ⟨ι2, μ2, hm2, I2, E2, hrr⟩ := hres
      cases rr with
      | ret v =>
        obtain ⟨v', rfl⟩ := hrr
        simp only at hr
        rw [Option.map_eq_some_iff] at hr
        obtain ⟨vs, hvs, heq⟩ := hr
        simp only [Prod.mk.injEq] at heq
        obtain ⟨rfl, rfl⟩ := heq
        obtain ⟨v2, hrun, hv⟩ := results_run (s := { s with h := h2 }) (g := ⟨w2, ι2, μ2⟩) I2 (ht1.mono E2.le) hvs
        have hset : settle u' = .returning := by rw [show u' = .returning from hm2]; rfl
        simp only
        rw [hset]
        exact ⟨v2, hrun, ι2, μ2, I2, E1.trans E2, v2, rfl, hv⟩
      | pan v =>
        obtain ⟨v', rfl, hv⟩ := hrr
        simp only [Option.some.injEq, Prod.mk.injEq] at hr
        obtain ⟨rfl, rfl⟩ := hr
        have hu : u' = .returning := hm2
        simp only
        rw [hu]
        exact ⟨ι2, μ2, I2, E1.trans E2, v', rfl, hv⟩
  cases x with
  | normal => simp only at hx1; subst hx1; exact calm hr
  | ret => simp only at hx1; subst hx1; exact calm hr
  | exit id => cases hr
  | pan v0 =>
    obtain ⟨v0', rfl, hv0⟩ := hx1
    show Leaves C.P fn a'.tmps (ResOk B s0.h gg h' r) a'.defers (.panicking [{ v := v0', recovered := false }]) w'
    rw [hd1]
    simp only [aleave] at hr
    cases hq : adefer C call n g args (.pan v0) s.h with
    | none => rw [hq] at hr; cases hr
    | some q =>
      obtain ⟨rr, h2, m2⟩ := q
      rw [hq] at hr
      obtain ⟨hfb, hc⟩ := defer_sound hcall hdraw hq (gg := ⟨w', ι1, μ1⟩) (u := .panicking [{ v := v0', recovered := false }]) I1 hG1 hargs1 ⟨v0', rfl, hv0⟩
      refine leaves_cons (by simp) (inv w' hfb) (hc.mono fun e u' w2 hres => ?_)
      obtain ⟨ι2, μ2, hm2, I2, E2, hrr⟩ := hres
      cases rr with
      | pan v => cases hr
      | ret v =>
        obtain ⟨v', rfl⟩ := hrr
        cases m2 with
        | calm => cases hr
        | done vv =>
          obtain ⟨vv', rfl, hvv⟩ := hm2
          simp only at hr
          rw [Option.map_eq_some_iff] at hr
          obtain ⟨vs, hvs, heq⟩ := hr
          simp only [Prod.mk.injEq] at heq
          obtain ⟨rfl, rfl⟩ := heq
          obtain ⟨v2, hrun, hv⟩ := results_run (s := { s with h := h2 }) (g := ⟨w2, ι2, μ2⟩) I2 (ht1.mono E2.le) hvs
          exact ⟨v2, hrun, ι2, μ2, I2, E1.trans E2, v2, rfl, hv⟩
        | pan vv =>
          obtain ⟨vv', rfl, hvv⟩ := hm2
          simp only [Option.some.injEq, Prod.mk.injEq] at hr
          obtain ⟨rfl, rfl⟩ := hr
          exact ⟨ι2, μ2, I2, E1.trans E2, vv', rfl, hvv⟩
theorem ops_then {C : Cfg} {call : CallF} (hcall : CallOk C call) {ops : Array Oper} {B : Nat} (more : List Oper) : ∀ (l : List Oper) (s s' : ASt), aops C call ops l s = some (.normal, s') → ∀ (g : G) (a : Act), Inv B s.h g → GlobOk C B g → VsRel g.ι g.μ s.tmps a.tmps.toList → a.defers = [] →
    ∀ Q : Exit → Act → World → Prop, (∀ a' w', PostOk [] B s g .normal s' .normal a' w' → wpList C.P ops Q more a' w') → wpList C.P ops Q (l ++ more) a g.w := by
  intro l
  induction l with
  | nil =>
    intro s s' h g a I hG ht hd Q hQ
    simp only [aops, Option.some.injEq, Prod.mk.injEq] at h
    obtain ⟨_, rfl⟩ := h
    exact hQ _ _ ⟨g.ι, g.μ, I, Ext.refl _ _, ht, hd, rfl⟩
  | cons o rest ih =>
    intro s s' h g a I hG ht hd Q hQ
    simp only [aops] at h
    cases hw : awanted ops s.tmps o with
    | none => simp [hw] at h
    | some b =>
      have hwc := wanted_ok ht hw
      rw [List.cons_append]
      unfold wpList
      rw [hwc]
      cases b with
      | false =>
        simp only [hw] at h
        rw [if_neg (by simp)]
        exact ih _ s' h g (a.put o.dst undef) I hG (put_rel ht o.dst (.tup .nil)) (by rw [put_defers]; exact hd) Q hQ
      | true =>
        simp only [hw] at h
        rw [if_pos rfl]
        refine .inl ?_
        refine oper_step hcall I hG ht hd (fun v h' hor g' v' I' E hv => ?_) (fun v h' hor g' v' I' E hv => ?_) ?_
        · have hcont : aops C call ops rest { tmps := put s.tmps o.dst v, h := h' } = some (.normal, s') := by
            rcases hor with hv' | ⟨f, args, hc, hr⟩
            · simpa only [hv'] using h
            · simpa only [hc, hr] using h
          exact ih _ s' hcont g' (a.put o.dst v') I' (hG.ext I E) (put_rel (ht.mono E.le) o.dst hv) (by rw [put_defers]; exact hd) Q (fun a' w' hp => hQ a' w' (hp.trans E))
        · exfalso
          rcases hor with ⟨hv', rfl⟩ | ⟨f, args, hc, hr⟩
          · simp [hv'] at h
          · simp [hc, hr] at h
        · cases ho : aoper C (evalO C s.tmps) s.h o with
          | none => simp [ho] at h
          | some out => cases out with
            | val v h' => exact .inl ⟨v, h', rfl⟩
            | pan v => exact .inr (.inl ⟨v, rfl⟩)
            | call f args =>
              cases hr : call f args s.h with
              | none => simp [ho, hr] at h
              | some r => exact .inr (.inr ⟨f, args, r, rfl, hr⟩)
theorem deferOf_some {a : Code} {ops : Array Oper} {init : List Oper} {o : Oper} {c : Call} (h : deferOf a = some (ops, init, o, c)) : ∃ id, a = .region id ops false ∧ ops.toList = init ++ [o] ∧ o.op = .defer c ∧ o.guard = none := by
  unfold deferOf at h
  split at h
  · rename_i id ops'
    split at h
    · rename_i o' init' hrev
      split at h
      · rename_i c' hop hgu
        simp only [Option.some.injEq, Prod.mk.injEq] at h
        obtain ⟨rfl, rfl, rfl, rfl⟩ := h
        refine ⟨id, rfl, ?_, hop, hgu⟩
        have := congrArg List.reverse hrev
        simpa using this
      · cases h
    · cases h
  · cases h
theorem bodyD_sound {C : Cfg} (hN : NameOk C) {call : CallF} (hcall : CallOk C call) (hdraw : DrawOk C call) {n : Nat} {fn : Func} {B : Nat} : ∀ (body : Code) (s : ASt) (r : ARes) (h' : AHeap), abodyD C call n fn body s = some (r, h') → ∀ (g : G) (a : Act), Inv B s.h g → GlobOk C B g → VsRel g.ι g.μ s.tmps a.tmps.toList → a.defers = [] →
    body.wp C.P (bodyPostD C.P fn (ResOk B s.h g h' r)) a g.w := by
  intro body
  induction body with
  | seq c1 c2 _ ih2 =>
    intro s r h' h g a I hG ht hd
    simp only [abodyD] at h
    cases hdo : deferOf c1 with
    | some q =>
      obtain ⟨ops, init, o, c⟩ := q
      obtain ⟨id, rfl, hops, hop, hgu⟩ := deferOf_some hdo
      simp only [hdo] at h
      cases hao : aops C call ops init s with
      | none => rw [hao] at h; cases h
      | some q2 =>
        obtain ⟨x1, s1⟩ := q2
        rw [hao] at h
        cases x1 with
        | normal =>
          simp only at h
          cases hce : calleeOf (evalO C s1.tmps) c with
          | none => rw [hce] at h; cases h
          | some ga =>
            obtain ⟨gf, args⟩ := ga
            rw [hce] at h
            simp only at h
            refine wp_seq (wp_region_list ?_)
            rw [hops]
            refine ops_then hcall [o] init s s1 hao g a I hG ht hd _ (fun a1 w1 hp => ?_)
            obtain ⟨ι1, μ1, I1, E1, ht1, hd1, _⟩ := hp
            have hG1 := hG.ext I E1
            unfold wpList
            have hwt : Region.wanted o (yielded ops a1.tmps) = true := by unfold Region.wanted; rw [hgu]
            rw [hwt, if_pos rfl]
            refine .inl ?_
            unfold Oper.wp
            unfold calleeOf at hce
            split at hce
            · rename_i fo hcal
              split at hce
              · rename_i gf' first cap hfe
                simp only [Option.some.injEq, Prod.mk.injEq] at hce
                obtain ⟨rfl, rfl⟩ := hce
                have hev := eval_rel hG1.imm ht1 fo
                rw [hfe] at hev
                generalize hfv : a1.eval fo = fvv at hev
                cases hev with
                | @fn _ _ _ first' cap' h1 h2 =>
                  have hrun : (execOp a1.eval o).run C.P w1 = .ok (.defer { target := .fn (.func gf') cap', args := first' ++ c.args.map a1.eval }) w1 := by
                    simp only [execOp, hop, resolve, hcal, hfv, Deferred.ofValue, Sem.run_bind, Sem.run_pure, Result.andThen_ok]
                  rw [hrun, Oper.upon_defer]
                  have hargs : VsRel ι1 μ1 (first ++ c.args.toList.map (evalO C s1.tmps) ++ cap) ((first' ++ c.args.map a1.eval) ++ cap').toList := by
                    rw [Array.toList_append, Array.toList_append, Array.toList_map]
                    exact (h1.append (VsRel.map_eval hG1.imm ht1 _)).append h2
                  show Code.wp C.P c2 _ _ w1
                  cases hex : aexec C call n c2 { s1 with tmps := put s1.tmps o.dst .top } with
                  | none => rw [hex] at h; cases h
                  | some q3 =>
                    obtain ⟨x3, s3⟩ := q3
                    rw [hex] at h
                    have hcode := exec_sound hcall hdraw (B := B) n c2 [{ target := .fn (.func gf') cap', args := first' ++ c.args.map a1.eval }] _ x3 s3 hex ⟨w1, ι1, μ1⟩ (({ a1 with defers := { target := .fn (.func gf') cap', args := first' ++ c.args.map a1.eval } :: a1.defers } : Act).put o.dst undef) I1 hG1
                      (put_rel (a := { a1 with defers := { target := .fn (.func gf') cap', args := first' ++ c.args.map a1.eval } :: a1.defers }) ht1 o.dst (.top _)) (by rw [put_defers]; simp only [hd1])
                    refine Code.wp_mono (fun ex a' w' hp => ?_) hcode
                    have hl := leave_sound hN hcall hdraw h (B := B) (s0 := { s1 with tmps := put s1.tmps o.dst .top }) (gg := ⟨w1, ι1, μ1⟩) I1 hG1 hargs hp
                    have hmono : ∀ e w2, ResOk B s1.h ⟨w1, ι1, μ1⟩ h' r e w2 → ResOk B s.h g h' r e w2 := fun e w2 hq => by
                      obtain ⟨ι2, μ2, I2, E2, hm⟩ := hq
                      exact ⟨ι2, μ2, I2, E1.trans E2, hm⟩
                    exact bodyPostD_mono hmono hl
              · cases hce
            · cases hce
        | _ => cases h
    | none =>
      simp only [hdo] at h
      cases hfs : aexec C call n c1 s with
      | none => rw [hfs] at h; cases h
      | some q =>
        obtain ⟨x1, s1⟩ := q
        rw [hfs] at h
        cases x1 with
        | normal =>
          simp only at h
          refine wp_seq (Code.wp_mono (fun ex a1 w1 hp => ?_) (exec_sound hcall hdraw (B := B) n c1 [] s .normal s1 hfs g a I hG ht hd))
          obtain ⟨ι1, μ1, I1, E1, ht1, hd1, hx1⟩ := hp
          simp only at hx1; subst hx1
          refine Code.wp_mono (fun ex a' w' hp => ?_) (ih2 s1 r h' h ⟨w1, ι1, μ1⟩ a1 I1 (hG.ext I E1) ht1 hd1)
          refine bodyPostD_mono (fun e w2 hq => ?_) hp
          obtain ⟨ι2, μ2, I2, E2, hm⟩ := hq
          exact ⟨ι2, μ2, I2, E1.trans E2, hm⟩
        | _ => cases h
  | _ => intro s r h' h; cases h
theorem bodyX_sound {C : Cfg} (hN : NameOk C) {call : CallF} (hcall : CallOk C call) (hdraw : DrawOk C call) {n : Nat} {f : FuncId} {fn : Func} {body : Code} (hf : C.P.funcs[f]? = some fn) (hb : fn.body = some body) {args : List AVal} {h h' : AHeap} {r : ARes} (hr : abodyX C call n f fn body args h = some (r, h')) {B : Nat} {g : G} {args' : Array Value}
    (I : Inv B h g) (hG : GlobOk C B g) (ha : VsRel g.ι g.μ args args'.toList) : Calls C.P f args' g.w (ResOk B h g h' r) := by
  unfold abodyX at hr
  split at hr
  · have htm : VsRel g.ι g.μ (args ++ List.replicate (fn.ntmps - args.length) .top) (args' ++ Array.replicate (fn.ntmps - args'.size) undef).toList := by
      rw [Array.toList_append]
      refine ha.append ?_
      have := ha.length
      simp only [Array.length_toList] at this
      rw [this]
      exact VsRel.replicate_top _ _ (by simp)
    exact calls_of_wp_defers hf hb (bodyD_sound hN hcall hdraw body _ r h' hr g { tmps := args' ++ Array.replicate (fn.ntmps - args'.size) undef, defers := [] } I hG htm rfl)
  · exact body_sound hcall hdraw hf hb hr I hG ha
end Go.Am

