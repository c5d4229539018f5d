import Derived.Test.YthfbbjoaidajfaaGreatDoorAmOps
import Derived.LoopN
import Derived.Scope
set_option linter.unusedVariables false
set_option linter.unusedSimpArgs false
set_option linter.unusedSimpArgs false
namespace Go.Am
open Go
def GlobI (C : Cfg) (ι : Imm) : Prop := ∀ gi cells, C.glob gi = some cells → ∃ vs, VsRel ι (fun _ => none) cells vs ∧ ICells ι gi 0 vs
structure GlobOk (C : Cfg) (B : Nat) (g : G) : Prop where
  imm : GlobI C g.ι
  known : ∀ p ∈ C.known, p.1 < B ∧ p.2 (g.w.heap[p.1]?)
theorem GlobOk.ext {C : Cfg} {B : Nat} {h h' : AHeap} {g g' : G} (hG : GlobOk C B g) (I : Inv B h g) (E : Ext h g h' g') : GlobOk C B g' := by
  refine ⟨fun gi cells hg => ?_, fun p hp => ?_⟩
  · obtain ⟨vs, hv, hi⟩ := hG.imm gi cells hg
    exact ⟨vs, hv.mono ⟨E.le.imm, fun _ _ h => h⟩, fun j v hj => E.le.imm _ _ _ (hi j v hj)⟩
  · obtain ⟨h1, h2⟩ := hG.known p hp
    refine ⟨h1, ?_⟩
    rw [E.fr p.1 (Nat.lt_of_lt_of_le h1 I.base) (fun o => Nat.lt_irrefl _ (Nat.lt_of_lt_of_le h1 (I.base_own o)))]
    exact h2
theorem eval_rel {C : Cfg} {ι : Imm} {μ : Mu} (hG : GlobI C ι) {tmps : List AVal} {a : Act} (ht : VsRel ι μ tmps a.tmps.toList) (x : Operand) : VRel ι μ (evalO C tmps x) (a.eval x) := by
  cases x with
  | tmp t =>
    simp only [evalO, Act.eval]
    cases hx : tmps[t]? with
    | none => exact .top _
    | some v =>
      obtain ⟨v', hv', hr⟩ := ht.get hx
      have : a.tmps.getD t undef = v' := by
        rw [Array.getElem?_toList] at hv'
        simp [hv']
      rw [this]; exact hr
  | const v => exact ofV_rel v
  | global gi =>
    simp only [evalO, Act.eval]
    split
    · rename_i cs hg
      obtain ⟨vs, hv, hi⟩ := hG gi cs hg
      exact .iptr (hv.mono ⟨fun _ _ _ h => h, fun _ _ h => by cases h⟩) hi
    · exact .top _
  | func f => exact .fn .nil .nil
theorem put_rel {ι : Imm} {μ : Mu} {tmps : List AVal} {a : Act} (ht : VsRel ι μ tmps a.tmps.toList) (dst : Option Tmp) {v : AVal} {v' : Value} (hv : VRel ι μ v v') : VsRel ι μ (put tmps dst v) (a.put dst v').tmps.toList := by
  cases dst with
  | none => exact ht
  | some d => simp only [put, Act.put, Array.toList_setIfInBounds]; exact ht.set d hv
theorem put_defers (a : Act) (dst : Option Tmp) (v : Value) : (a.put dst v).defers = a.defers := by cases dst <;> rfl
theorem wanted_ok {ι : Imm} {μ : Mu} {ops : Array Oper} {tmps : List AVal} {a : Act} (ht : VsRel ι μ tmps a.tmps.toList) {o : Oper} {b : Bool} (h : awanted ops tmps o = some b) : Region.wanted o (yielded ops a.tmps) = b := by
  unfold awanted at h
  unfold Region.wanted
  split at h
  · rename_i hg
    simp only [Option.some.injEq] at h; subst h
    rw [hg]
  · rename_i j want hg
    rw [hg]
    simp only [yielded]
    cases hd : (ops[j]?).bind (·.dst) with
    | none => simp only [hd, Option.bind_none, Option.some.injEq] at h ⊢; rw [← h]; rfl
    | some t =>
      simp only [hd, Option.bind_some] at h ⊢
      cases hx : tmps[t]? with
      | none =>
        simp only [hx, Option.some.injEq] at h; subst h
        have : a.tmps[t]? = none := by
          rw [List.getElem?_eq_none_iff] at hx
          rw [Array.getElem?_eq_none_iff, ← Array.length_toList, ← ht.length]; exact hx
        rw [this]; rfl
      | some v =>
        obtain ⟨v', hv', hr⟩ := ht.get hx
        rw [Array.getElem?_toList] at hv'
        rw [hv']
        rw [hx] at h
        cases hr <;> simp only [Option.some.injEq, reduceCtorEq] at h <;> subst h <;> rfl
def ResOk (B : Nat) (h : AHeap) (g : G) (h' : AHeap) (r : ARes) (e : Ending) (w' : World) : Prop :=
  ∃ ι' μ', Inv B h' ⟨w', ι', μ'⟩ ∧ Ext h g h' ⟨w', ι', μ'⟩ ∧ match r with
    | .ret v => ∃ v', e = .returned v' ∧ VRel ι' μ' v v'
    | .pan v => ∃ v', e = .panicked [{ v := v', recovered := false }] ∧ VRel ι' μ' v v'
def CallOk (C : Cfg) (call : CallF) : Prop :=
  ∀ f args h r h', call f args h = some (r, h') → ∀ B g args', Inv B h g → GlobOk C B g → VsRel g.ι g.μ args args'.toList →
    ((callFunc f args').run C.P g.w = .ok (.enter f args') g.w ∧ Calls C.P f args' g.w (ResOk B h g h' r)) ∨ ∃ v, r = .ret v ∧ OkOp B h g ((callFunc f args').run C.P g.w) v h'
def PostOk (ds : List Deferred) (B : Nat) (s : ASt) (g : G) (x : AExit) (s' : ASt) (ex : Exit) (a' : Act) (w' : World) : Prop :=
  ∃ ι' μ', Inv B s'.h ⟨w', ι', μ'⟩ ∧ Ext s.h g s'.h ⟨w', ι', μ'⟩ ∧ VsRel ι' μ' s'.tmps a'.tmps.toList ∧ a'.defers = ds ∧ match x with
    | .normal => ex = .normal
    | .exit id => ex = .exit id
    | .ret => ex = .ret
    | .pan v => ∃ v', ex = .panic [{ v := v', recovered := false }] ∧ VRel ι' μ' v v'
section
variable {ds : List Deferred}
theorem PostOk.trans {B : Nat} {s s1 s' : ASt} {g g1 : G} {x : AExit} {ex : Exit} {a' : Act} {w' : World} (E : Ext s.h g s1.h g1) (h : PostOk ds B s1 g1 x s' ex a' w') : PostOk ds B s g x s' ex a' w' := by
  obtain ⟨ι', μ', I, E', ht, hd, hx⟩ := h
  exact ⟨ι', μ', I, E.trans E', ht, hd, hx⟩
theorem oper_step {C : Cfg} {call : CallF} (hcall : CallOk C call) {B : Nat} {s : ASt} {g : G} {a : Act} (I : Inv B s.h g) (hG : GlobOk C B g) (ht : VsRel g.ι g.μ s.tmps a.tmps.toList) (hd : a.defers = ds) {o : Oper} {K : Act → World → Prop} {Q : Exit → Act → World → Prop}
    (hval : ∀ v h', (aoper C (evalO C s.tmps) s.h o = some (.val v h') ∨ ∃ f args, aoper C (evalO C s.tmps) s.h o = some (.call f args) ∧ call f args s.h = some (.ret v, h')) → ∀ g' v', Inv B h' g' → Ext s.h g h' g' → VRel g'.ι g'.μ v v' → K (a.put o.dst v') g'.w)
    (hpan : ∀ v h', (aoper C (evalO C s.tmps) s.h o = some (.pan v) ∧ h' = s.h ∨ ∃ f args, aoper C (evalO C s.tmps) s.h o = some (.call f args) ∧ call f args s.h = some (.pan v, h')) → ∀ g' v', Inv B h' g' → Ext s.h g h' g' → VRel g'.ι g'.μ v v' → Q (.panic [{ v := v', recovered := false }]) a g'.w)
    (hsome : (∃ v h', aoper C (evalO C s.tmps) s.h o = some (.val v h')) ∨ (∃ v, aoper C (evalO C s.tmps) s.h o = some (.pan v)) ∨ ∃ f args r, aoper C (evalO C s.tmps) s.h o = some (.call f args) ∧ call f args s.h = some r) : o.wp C.P a g.w K Q := by
  have hev := fun x => eval_rel hG.imm ht x
  unfold Oper.wp
  rcases hsome with ⟨v, h', hv⟩ | ⟨v, hv⟩ | ⟨f, args, r, hc, hr⟩
  · obtain ⟨v', g', nx, hrun, hnx, I', E, hvr⟩ := oper_val I hev hv
    rw [hrun]
    rcases hnx with rfl | ⟨rfl, rfl⟩
    · exact hval v h' (.inl hv) g' v' I' E hvr
    · exact hval v h' (.inl hv) g' undef I' E hvr
  · obtain ⟨v', hrun, hvr⟩ := oper_pan (C := C) hev hv
    rw [hrun]
    exact hpan v s.h (.inl ⟨hv, rfl⟩) g v' I (Ext.refl _ _) hvr
  · obtain ⟨args', hrun, hvr⟩ := oper_call (C := C) hev hc
    rw [hrun]
    obtain ⟨r, h'⟩ := r
    rcases hcall f args s.h r h' hr B g args' I hG hvr with ⟨henter, hcalls⟩ | ⟨v, hrv, hop⟩
    · rw [henter]
      rw [Oper.upon_enter]
      refine hcalls.mono fun e w' hres => ?_
      obtain ⟨ι', μ', I', E, hm⟩ := hres
      cases r with
      | ret v => obtain ⟨v', rfl, hv⟩ := hm; exact hval v h' (.inr ⟨f, args, hc, hr⟩) ⟨w', ι', μ'⟩ v' I' E hv
      | pan v => obtain ⟨v', rfl, hv⟩ := hm; exact hpan v h' (.inr ⟨f, args, hc, hr⟩) ⟨w', ι', μ'⟩ v' I' E hv
    · subst hrv
      obtain ⟨v', g', nx, hrun', hnx, I', E, hvr'⟩ := hop
      rw [hrun']
      rcases hnx with rfl | ⟨rfl, rfl⟩
      · exact hval v h' (.inr ⟨f, args, hc, hr⟩) g' v' I' E hvr'
      · exact hval v h' (.inr ⟨f, args, hc, hr⟩) g' undef I' E hvr'
theorem ops_sound {C : Cfg} {call : CallF} (hcall : CallOk C call) {ops : Array Oper} {B : Nat} : ∀ (l : List Oper) (s : ASt) (x : AExit) (s' : ASt), aops C call ops l s = some (x, s') → ∀ (g : G) (a : Act), Inv B s.h g → GlobOk C B g → VsRel g.ι g.μ s.tmps a.tmps.toList → a.defers = ds →
    ∀ Q : Exit → Act → World → Prop, (∀ ex a' w', PostOk ds B s g x s' ex a' w' → Q ex a' w') → wpList C.P ops Q l a g.w := by
  intro l
  induction l with
  | nil =>
    intro s x s' h g a I hG ht hd Q hQ
    simp only [aops, Option.some.injEq, Prod.mk.injEq] at h
    obtain ⟨rfl, rfl⟩ := h
    exact hQ _ _ _ ⟨g.ι, g.μ, I, Ext.refl _ _, ht, hd, rfl⟩
  | cons o rest ih =>
    intro s x s' h g a I hG ht hd Q hQ
    simp only [aops] at h
    cases hw : awanted ops s.tmps o with
    | none => simp [hw] at h
    | some b =>
      have hwc := wanted_ok ht hw
      unfold wpList
      rw [hwc]
      cases b with
      | false =>
        simp only [hw] at h
        rw [if_neg (by simp)]
        exact ih _ x s' h g (a.put o.dst undef) I hG (put_rel ht o.dst (.tup .nil)) (by rw [put_defers]; exact hd) Q hQ
      | true =>
        simp only [hw] at h
        rw [if_pos rfl]
        refine .inl ?_
        refine oper_step hcall I hG ht hd (fun v h' hor g' v' I' E hv => ?_) (fun v h' hor g' v' I' E hv => ?_) ?_
        · have hcont : aops C call ops rest { tmps := put s.tmps o.dst v, h := h' } = some (x, s') := by
            rcases hor with hv' | ⟨f, args, hc, hr⟩
            · simpa only [hv'] using h
            · simpa only [hc, hr] using h
          exact ih _ x s' hcont g' (a.put o.dst v') I' (hG.ext I E) (put_rel (ht.mono E.le) o.dst hv) (by rw [put_defers]; exact hd) Q (fun ex a' w' hp => hQ ex a' w' (hp.trans E))
        · have hcont : x = .pan v ∧ s' = { s with h := h' } := by
            rcases hor with ⟨hv', rfl⟩ | ⟨f, args, hc, hr⟩
            · simp only [hv', Option.some.injEq, Prod.mk.injEq] at h; exact ⟨h.1.symm, h.2.symm⟩
            · simp only [hc, hr, Option.some.injEq, Prod.mk.injEq] at h; exact ⟨h.1.symm, h.2.symm⟩
          obtain ⟨rfl, rfl⟩ := hcont
          exact hQ _ _ _ ⟨g'.ι, g'.μ, I', E, ht.mono E.le, hd, v', rfl, hv⟩
        · cases ho : aoper C (evalO C s.tmps) s.h o with
          | none => simp [ho] at h
          | some out => cases out with
            | val v h' => exact .inl ⟨v, h', rfl⟩
            | pan v => exact .inr (.inl ⟨v, rfl⟩)
            | call f args =>
              cases hr : call f args s.h with
              | none => simp [ho, hr] at h
              | some r => exact .inr (.inr ⟨f, args, r, rfl, hr⟩)
def DrawOk (C : Cfg) (call : CallF) : Prop :=
  ∀ ds ops s x s', adraw C call ops s = some (x, s') → ∀ B g a, Inv B s.h g → GlobOk C B g → VsRel g.ι g.μ s.tmps a.tmps.toList → a.defers = ds → ∀ id, (Code.region id ops true).wp C.P (PostOk ds B s g x s') a g.w
def CodeOk (C : Cfg) (B : Nat) (c : Code) (f : ASt → Option (AExit × ASt)) : Prop :=
  ∀ ds s x s', f s = some (x, s') → ∀ g a, Inv B s.h g → GlobOk C B g → VsRel g.ι g.μ s.tmps a.tmps.toList → a.defers = ds → c.wp C.P (PostOk ds B s g x s') a g.w
theorem iter_sound {C : Cfg} {B : Nat} {f : ASt → Option (AExit × ASt)} {c : Code} (hf : CodeOk C B c f) :
    ∀ (k : Nat) (s : ASt) (x : AExit) (s' : ASt), iter f k s = some (x, s') → ∀ g a, Inv B s.h g → GlobOk C B g → VsRel g.ι g.μ s.tmps a.tmps.toList → a.defers = ds →
    ∀ Q : Exit → Act → World → Prop, (∀ ex a' w', PostOk ds B s g x s' ex a' w' → Q ex a' w') → Code.rounds C.P c Q k a g.w := by
  intro k
  induction k with
  | zero => intro s x s' h; simp [iter] at h
  | succ k ih =>
    intro s x s' h g a I hG ht hd Q hQ
    rw [rounds_succ]
    simp only [iter] at h
    cases hfs : f s with
    | none => simp [hfs] at h
    | some r =>
      obtain ⟨x1, s1⟩ := r
      refine Code.wp_mono (fun ex a1 w1 hp => ?_) (hf ds s x1 s1 hfs g a I hG ht hd)
      have hp0 := hp
      obtain ⟨ι1, μ1, I1, E1, ht1, hd1, hx1⟩ := hp
      cases x1 with
      | normal =>
        simp only at hx1; subst hx1
        simp only [hfs] at h
        exact ih s1 x s' h ⟨w1, ι1, μ1⟩ a1 I1 (hG.ext I E1) ht1 hd1 Q (fun ex a' w' hp => hQ ex a' w' (hp.trans E1))
      | exit id => simp only at hx1; subst hx1; simp only [hfs, Option.some.injEq, Prod.mk.injEq] at h; obtain ⟨rfl, rfl⟩ := h; exact hQ _ _ _ hp0
      | ret => simp only at hx1; subst hx1; simp only [hfs, Option.some.injEq, Prod.mk.injEq] at h; obtain ⟨rfl, rfl⟩ := h; exact hQ _ _ _ hp0
      | pan v => obtain ⟨v', rfl, hv⟩ := hx1; simp only [hfs, Option.some.injEq, Prod.mk.injEq] at h; obtain ⟨rfl, rfl⟩ := h; exact hQ _ _ _ hp0
theorem exec_sound {C : Cfg} {call : CallF} (hcall : CallOk C call) (hdraw : DrawOk C call) {B : Nat} (n : Nat) : ∀ (c : Code), CodeOk C B c (aexec C call n c) := by
  intro c
  induction c with
  | skip =>
    intro ds s x s' h g a I hG ht hd
    simp only [aexec, Option.some.injEq, Prod.mk.injEq] at h; obtain ⟨rfl, rfl⟩ := h
    exact wp_skip ⟨g.ι, g.μ, I, Ext.refl _ _, ht, hd, rfl⟩
  | region id ops draw =>
    intro ds s x s' h g a I hG ht hd
    cases draw with
    | false => exact wp_region_list (ops_sound hcall ops.toList s x s' h g a I hG ht hd _ (fun _ _ _ hp => hp))
    | true => exact hdraw ds ops s x s' h B g a I hG ht hd id
  | seq c1 c2 ih1 ih2 =>
    intro ds s x s' h g a I hG ht hd
    simp only [aexec] at h
    cases hfs : aexec C call n c1 s with
    | none => simp [hfs] at h
    | some r =>
      obtain ⟨x1, s1⟩ := r
      refine wp_seq (Code.wp_mono (fun ex a1 w1 hp => ?_) (ih1 ds s x1 s1 hfs g a I hG ht hd))
      have hp0 := hp
      obtain ⟨ι1, μ1, I1, E1, ht1, hd1, hx1⟩ := hp
      cases x1 with
      | normal =>
        simp only at hx1; subst hx1
        simp only [hfs] at h
        exact Code.wp_mono (fun ex a' w' hp => hp.trans E1) (ih2 ds s1 x s' h ⟨w1, ι1, μ1⟩ a1 I1 (hG.ext I E1) ht1 hd1)
      | exit id => simp only at hx1; subst hx1; simp only [hfs, Option.some.injEq, Prod.mk.injEq] at h; obtain ⟨rfl, rfl⟩ := h; exact hp0
      | ret => simp only at hx1; subst hx1; simp only [hfs, Option.some.injEq, Prod.mk.injEq] at h; obtain ⟨rfl, rfl⟩ := h; exact hp0
      | pan v => obtain ⟨v', rfl, hv⟩ := hx1; simp only [hfs, Option.some.injEq, Prod.mk.injEq] at h; obtain ⟨rfl, rfl⟩ := h; exact hp0
  | cond o c1 c2 ih1 ih2 =>
    intro ds s x s' h g a I hG ht hd
    simp only [aexec] at h
    have hev := eval_rel hG.imm ht o
    cases hc : evalO C s.tmps o <;> rw [hc] at h <;> try (cases h; done)
    case bool b =>
      rw [hc] at hev
      have hb : a.eval o = .bool b := by generalize a.eval o = v at hev; cases hev; rfl
      cases b with
      | true => exact wp_cond_true hb (ih1 ds s x s' h g a I hG ht hd)
      | false => exact wp_cond_false hb (ih2 ds s x s' h g a I hG ht hd)
  | block id c1 ih1 =>
    intro ds s x s' h g a I hG ht hd
    simp only [aexec] at h
    cases hfs : aexec C call n c1 s with
    | none => simp [hfs] at h
    | some r =>
      obtain ⟨x1, s1⟩ := r
      refine wp_block (Code.wp_mono (fun ex a1 w1 hp => ?_) (ih1 ds s x1 s1 hfs g a I hG ht hd))
      have hp0 := hp
      obtain ⟨ι1, μ1, I1, E1, ht1, hd1, hx1⟩ := hp
      cases x1 with
      | normal => simp only at hx1; subst hx1; simp only [hfs, Option.some.injEq, Prod.mk.injEq] at h; obtain ⟨rfl, rfl⟩ := h; exact hp0
      | exit j =>
        simp only at hx1; subst hx1
        simp only [hfs] at h
        by_cases hj : j = id
        · rw [if_pos hj] at h
          simp only [Option.some.injEq, Prod.mk.injEq] at h; obtain ⟨rfl, rfl⟩ := h
          simp only [Exit.inBlock, hj, if_true]
          exact ⟨ι1, μ1, I1, E1, ht1, hd1, rfl⟩
        · rw [if_neg hj] at h
          simp only [Option.some.injEq, Prod.mk.injEq] at h; obtain ⟨rfl, rfl⟩ := h
          simp only [Exit.inBlock, hj, if_false]
          exact hp0
      | ret => simp only at hx1; subst hx1; simp only [hfs, Option.some.injEq, Prod.mk.injEq] at h; obtain ⟨rfl, rfl⟩ := h; exact hp0
      | pan v => obtain ⟨v', rfl, hv⟩ := hx1; simp only [hfs, Option.some.injEq, Prod.mk.injEq] at h; obtain ⟨rfl, rfl⟩ := h; exact hp0
  | loop c1 ih1 =>
    intro ds s x s' h g a I hG ht hd
    exact wp_loop_rounds n (iter_sound ih1 n s x s' h g a I hG ht hd _ (fun _ _ _ hp => hp))
  | exit id =>
    intro ds s x s' h g a I hG ht hd
    simp only [aexec, Option.some.injEq, Prod.mk.injEq] at h; obtain ⟨rfl, rfl⟩ := h
    exact wp_exit ⟨g.ι, g.μ, I, Ext.refl _ _, ht, hd, rfl⟩
  | ret =>
    intro ds s x s' h g a I hG ht hd
    simp only [aexec, Option.some.injEq, Prod.mk.injEq] at h; obtain ⟨rfl, rfl⟩ := h
    exact wp_ret ⟨g.ι, g.μ, I, Ext.refl _ _, ht, hd, rfl⟩
  | scope c1 ih1 =>
    intro ds s x s' h g a I hG ht hd
    simp only [aexec] at h
    refine wp_scope_straight (Code.wp_mono (fun ex a1 w1 hp => ?_) (ih1 ds s x s' h g a I hG ht hd))
    have hp0 := hp
    obtain ⟨ι1, μ1, I1, E1, ht1, hd1, hx1⟩ := hp
    cases x with
    | normal => simp only at hx1; subst hx1; exact hp0
    | exit id => simp only at hx1; subst hx1; exact hp0
    | ret => simp only at hx1; subst hx1; exact hp0
    | pan v => obtain ⟨v', rfl, hv⟩ := hx1; exact hp0
  | label l =>
    intro ds s x s' h g a I hG ht hd
    simp only [aexec, Option.some.injEq, Prod.mk.injEq] at h; obtain ⟨rfl, rfl⟩ := h
    exact wp_label ⟨g.ι, g.μ, I, Ext.refl _ _, ht, hd, rfl⟩
  | _ => intro ds s x s' h; simp [aexec] at h
end
def resVar (tmps : Array Value) : ResultVar → Sem Value
  | .tmp t => pure (tmps.getD t undef)
  | .cell a t => do loadVar t (← asAddr (tmps.getD a undef))
theorem results_eq (fn : Func) (tmps : Array Value) : results fn tmps = (do
    let vs ← fn.results.mapM (resVar tmps)
    pure (if h : vs.size = 1 then vs[0] else .tuple vs)) := rfl
theorem results_ok {C : Cfg} {B : Nat} {s : ASt} {g : G} (I : Inv B s.h g) {tmps' : Array Value} (ht : VsRel g.ι g.μ s.tmps tmps'.toList) : ∀ (rs : List ResultVar) (vs : List AVal), aresults C rs s = some vs →
    ∃ vs', (rs.mapM (resVar tmps')).run C.P g.w = .ok vs' g.w ∧ VsRel g.ι g.μ vs vs' := by
  have hget : ∀ t, VRel g.ι g.μ ((s.tmps[t]?).getD .top) (tmps'.getD t undef) := fun t => by
    cases hx : s.tmps[t]? with
    | none => exact .top _
    | some v =>
      obtain ⟨v', hv', hr⟩ := ht.get hx
      rw [Array.getElem?_toList] at hv'
      have : tmps'.getD t undef = v' := by simp [hv']
      rw [this]; exact hr
  intro rs
  induction rs with
  | nil => intro vs h; simp only [aresults, Option.some.injEq] at h; subst h; exact ⟨[], rfl, .nil⟩
  | cons r rest ih =>
    intro vs h
    simp only [aresults] at h
    cases hv : ares1 C s r with
    | none => simp [hv] at h
    | some v =>
    cases h1 : aresults C rest s with
    | none => simp [hv, h1] at h
    | some vs1 =>
    simp only [hv, h1, Option.some.injEq] at h; subst h
    obtain ⟨vs', hr, hrel⟩ := ih vs1 h1
    cases r with
    | tmp t =>
      simp only [ares1, Option.some.injEq] at hv; subst hv
      exact ⟨_, by simp only [List.mapM_cons, resVar, Sem.run_bind, Sem.run_pure, Result.andThen_ok, hr], .cons (hget t) hrel⟩
    | cell a t =>
      simp only [ares1] at hv
      obtain ⟨v', hl, hvr⟩ := load_ok (P := C.P) I (hget a) hv
      have haddr : ∃ ad, tmps'.getD a undef = .pointer (some ad) := by
        have h3 := hget a
        generalize tmps'.getD a undef = pv at h3 hl
        revert h3 hv
        generalize (s.tmps[a]?).getD .top = pa
        intro hv h3
        cases pa <;> simp [aload, loadA] at hv
        · cases h3 with | ptr _ => exact ⟨_, rfl⟩
        · cases h3 with | iptr _ _ => exact ⟨_, rfl⟩
      obtain ⟨ad, had⟩ := haddr
      rw [had] at hl
      simp only [Instr.loadAt, Instr.sureAddr, Sem.run_bind, Sem.run_pure, Result.andThen_ok] at hl
      exact ⟨_, by simp only [List.mapM_cons, resVar, Sem.run_bind, had, asAddr, Sem.run_pure, Result.andThen_ok, hl, hr], .cons hvr hrel⟩
theorem results_run {C : Cfg} {B : Nat} {s : ASt} {g : G} (I : Inv B s.h g) {fn : Func} {tmps' : Array Value} (ht : VsRel g.ι g.μ s.tmps tmps'.toList) {vs : List AVal} (h : aresults C fn.results.toList s = some vs) :
    ∃ v', (results fn tmps').run C.P g.w = .ok v' g.w ∧ VRel g.ι g.μ (packRes vs) v' := by
  obtain ⟨vs', hr, hrel⟩ := results_ok I ht fn.results.toList vs h
  refine ⟨if hs : vs'.toArray.size = 1 then vs'.toArray[0] else .tuple vs'.toArray, ?_, ?_⟩
  · rw [results_eq, Array.mapM_eq_mapM_toList]
    simp only [Sem.run_bind, Sem.run_map, hr, Result.andThen_ok, Sem.run_pure]
  · cases hrel with
    | nil => exact .tup .nil
    | cons h1 hs =>
      cases hs with
      | nil => exact h1
      | cons h2 hs => exact .tup (.cons h1 (.cons h2 hs))
theorem body_sound {C : Cfg} {call : CallF} (hcall : CallOk C call) (hdraw : DrawOk C call) {n : Nat} {f : FuncId} {fn : Func} {body : Code} (hf : C.P.funcs[f]? = some fn) (hb : fn.body = some body) {args : List AVal} {h h' : AHeap} {r : ARes} (hr : abody C call n fn body args h = some (r, h')) {B : Nat} {g : G} {args' : Array Value}
    (I : Inv B h g) (hG : GlobOk C B g) (ha : VsRel g.ι g.μ args args'.toList) : Calls C.P f args' g.w (ResOk B h g h' r) := by
  have htm : VsRel g.ι g.μ (args ++ List.replicate (fn.ntmps - args.length) .top) (args' ++ Array.replicate (fn.ntmps - args'.size) undef).toList := by
    rw [Array.toList_append]
    refine ha.append ?_
    have := ha.length
    simp only [Array.length_toList] at this
    rw [this]
    exact VsRel.replicate_top _ _ (by simp)
  simp only [abody] at hr
  refine calls_of_wp hf hb ?_
  cases he : aexec C call n body { tmps := args ++ List.replicate (fn.ntmps - args.length) .top, h } with
  | none => simp [he] at hr
  | some q =>
    obtain ⟨x, s⟩ := q
    rw [he] at hr
    refine Code.wp_mono (fun ex a1 w1 hp => ?_) (exec_sound hcall hdraw (B := B) n body [] _ x s he g { tmps := args' ++ Array.replicate (fn.ntmps - args'.size) undef, defers := [] } I hG htm rfl)
    obtain ⟨ι1, μ1, I1, E1, ht1, hd1, hx1⟩ := hp
    cases x with
    | normal =>
      simp only at hx1; subst hx1
      simp only [Option.map_eq_some_iff, Prod.mk.injEq] at hr
      obtain ⟨vs, hvs, rfl, rfl⟩ := hr
      obtain ⟨v', hrun, hv⟩ := results_run (g := ⟨w1, ι1, μ1⟩) I1 ht1 hvs
      exact ⟨hd1, v', hrun, ι1, μ1, I1, E1, v', rfl, hv⟩
    | ret =>
      simp only at hx1; subst hx1
      simp only [Option.map_eq_some_iff, Prod.mk.injEq] at hr
      obtain ⟨vs, hvs, rfl, rfl⟩ := hr
      obtain ⟨v', hrun, hv⟩ := results_run (g := ⟨w1, ι1, μ1⟩) I1 ht1 hvs
      exact ⟨hd1, v', hrun, ι1, μ1, I1, E1, v', rfl, hv⟩
    | pan v =>
      obtain ⟨v', rfl, hv⟩ := hx1
      simp only [Option.some.injEq, Prod.mk.injEq] at hr
      obtain ⟨rfl, rfl⟩ := hr
      exact ⟨hd1, ι1, μ1, I1, E1, v', rfl, hv⟩
    | exit id => cases hr
end Go.Am

