import Derived.Test.YthfbbjoaidajfaaGreatDoorAmFirst
set_option linter.unusedVariables false
set_option linter.unusedSimpArgs false
set_option linter.unusedSimpArgs false
namespace Go.Am
open Go
def CallLe (c c' : CallF) : Prop := ∀ f a h r, c f a h = some r → c' f a h = some r
section
variable {C : Cfg} {call call' : CallF}
theorem aops_le (hc : CallLe call call') {ops : Array Oper} : ∀ (l : List Oper) (s : ASt) (r : AExit × ASt), aops C call ops l s = some r → aops C call' ops l s = some r := by
  intro l
  induction l with
  | nil => intro s r h; exact h
  | cons o rest ih =>
    intro s r h
    simp only [aops] at h ⊢
    cases hw : awanted ops s.tmps o with
    | none => rw [hw] at h; cases h
    | some b =>
      rw [hw] at h
      cases b with
      | false => exact ih _ _ h
      | true =>
        simp only at h ⊢
        cases ho : aoper C (evalO C s.tmps) s.h o with
        | none => rw [ho] at h; cases h
        | some out =>
          rw [ho] at h
          cases out with
          | val v h' => exact ih _ _ h
          | pan v => exact h
          | call f args =>
            simp only at h ⊢
            cases hq : call f args s.h with
            | none => rw [hq] at h; cases h
            | some q =>
              rw [hq] at h
              rw [hc _ _ _ _ hq]
              obtain ⟨q1, q2⟩ := q
              cases q1 with
              | ret v => exact ih _ _ h
              | pan v => exact h
theorem drawGo_le (hc : CallLe call call') {ops : Array Oper} : ∀ (l : List Oper) (s : ASt) (r : List Did × ASt), drawGo C call ops l s = some r → drawGo C call' ops l s = some r := by
  intro l
  induction l with
  | nil => intro s r h; exact h
  | cons o rest ih =>
    intro s r h
    have map : ∀ (s1 : ASt) (k : List Did × ASt → List Did × ASt), (drawGo C call ops rest s1).map k = some r → (drawGo C call' ops rest s1).map k = some r := by
      intro s1 k hk
      rw [Option.map_eq_some_iff] at hk
      obtain ⟨q, hq, rfl⟩ := hk
      rw [ih _ _ hq]; rfl
    simp only [drawGo] at h ⊢
    cases hw : awanted ops s.tmps o with
    | none => rw [hw] at h; cases h
    | some b =>
      rw [hw] at h
      cases b with
      | false => exact map _ _ h
      | true =>
        simp only at h ⊢
        cases ho : aoper C (evalO C s.tmps) s.h o with
        | none => rw [ho] at h; cases h
        | some out =>
          rw [ho] at h
          cases out with
          | val v h' => exact map _ _ h
          | pan v => exact h
          | call f args =>
            simp only at h ⊢
            cases hq : call f args s.h with
            | none => rw [hq] at h; cases h
            | some q =>
              rw [hq] at h
              rw [hc _ _ _ _ hq]
              obtain ⟨q1, q2⟩ := q
              cases q1 with
              | ret v => exact map _ _ h
              | pan v => exact h
theorem iter_le {f f' : ASt → Option (AExit × ASt)} (hf : ∀ s r, f s = some r → f' s = some r) : ∀ (k k' : Nat) (s : ASt) (r : AExit × ASt), k ≤ k' → iter f k s = some r → iter f' k' s = some r := by
  intro k
  induction k with
  | zero => intro k' s r _ h; cases h
  | succ k ih =>
    intro k' s r hk h
    obtain ⟨k', rfl⟩ : ∃ j, k' = j + 1 := ⟨k' - 1, by omega⟩
    simp only [iter] at h ⊢
    cases hs : f s with
    | none => rw [hs] at h; cases h
    | some q =>
      rw [hs] at h
      rw [hf _ _ hs]
      obtain ⟨x, s1⟩ := q
      cases x with
      | normal => exact ih _ _ _ (by omega) h
      | _ => exact h
theorem aexec_le (hc : CallLe call call') {n n' : Nat} (hn : n ≤ n') : ∀ (c : Code) (s : ASt) (r : AExit × ASt), aexec C call n c s = some r → aexec C call' n' c s = some r := by
  intro c
  induction c with
  | skip => intro s r h; exact h
  | region id ops draw =>
    intro s r h
    cases draw with
    | false => exact aops_le hc _ _ _ h
    | true =>
      simp only [aexec, adraw] at h ⊢
      cases hd : drawGo C call ops ops.toList s with
      | none => rw [hd] at h; cases h
      | some q => rw [hd] at h; rw [drawGo_le hc _ _ _ hd]; exact h
  | seq a b iha ihb =>
    intro s r h
    simp only [aexec] at h ⊢
    cases hs : aexec C call n a s with
    | none => rw [hs] at h; cases h
    | some q =>
      rw [hs] at h
      rw [iha _ _ hs]
      obtain ⟨x, s1⟩ := q
      cases x with
      | normal => exact ihb _ _ h
      | _ => exact h
  | cond o a b iha ihb =>
    intro s r h
    simp only [aexec] at h ⊢
    split at h
    · exact iha _ _ h
    · exact ihb _ _ h
    · cases h
  | block id a iha =>
    intro s r h
    simp only [aexec] at h ⊢
    cases hs : aexec C call n a s with
    | none => rw [hs] at h; cases h
    | some q => rw [hs] at h; rw [iha _ _ hs]; exact h
  | loop a iha =>
    intro s r h
    simp only [aexec] at h ⊢
    exact iter_le (fun s r h => iha s r h) _ _ _ _ hn h
  | exit id => intro s r h; exact h
  | ret => intro s r h; exact h
  | scope a iha => intro s r h; exact iha _ _ h
  | label l => intro s r h; exact h
  | _ => intro s r h; simp [aexec] at h
theorem abody_le (hc : CallLe call call') {n n' : Nat} (hn : n ≤ n') {fn : Func} {body : Code} {args : List AVal} {h : AHeap} {r : ARes × AHeap} (hb : abody C call n fn body args h = some r) : abody C call' n' fn body args h = some r := by
  simp only [abody] at hb ⊢
  cases hs : aexec C call n body { tmps := args ++ List.replicate (fn.ntmps - args.length) .top, h } with
  | none => rw [hs] at hb; cases hb
  | some q => rw [hs] at hb; rw [aexec_le hc hn _ _ _ hs]; exact hb
theorem aopsR_le (hc : CallLe call call') {ops : Array Oper} : ∀ (l : List Oper) (s : ASt) (m : AMode) (r : AExit × ASt × AMode), aopsR C call ops l s m = some r → aopsR C call' ops l s m = some r := by
  intro l
  induction l with
  | nil => intro s m r h; exact h
  | cons o rest ih =>
    intro s m r h
    simp only [aopsR] at h ⊢
    split at h
    · cases h
    · exact ih _ _ _ h
    · by_cases hr : isRecover o = true
      · rw [if_pos hr] at h ⊢
        cases m with
        | calm => exact ih _ _ _ h
        | pan v => exact ih _ _ _ h
        | done v => cases h
      · rw [if_neg hr] at h ⊢
        cases ho : aoper C (evalO C s.tmps) s.h o with
        | none => rw [ho] at h; cases h
        | some out =>
          rw [ho] at h
          cases out with
          | val v h' => exact ih _ _ _ h
          | pan v => exact h
          | call f args =>
            simp only at h ⊢
            cases hq : call f args s.h with
            | none => rw [hq] at h; cases h
            | some q =>
              rw [hq] at h
              rw [hc _ _ _ _ hq]
              obtain ⟨q1, q2⟩ := q
              cases q1 with
              | ret v => exact ih _ _ _ h
              | pan v => exact h
theorem map_le {α β : Type} {a b : Option α} {f : α → β} {r : β} (h : ∀ x, a = some x → b = some x) (hm : a.map f = some r) : b.map f = some r := by
  rw [Option.map_eq_some_iff] at hm ⊢
  obtain ⟨x, hx, e⟩ := hm
  exact ⟨x, h x hx, e⟩
theorem aexecR_le (hc : CallLe call call') {n n' : Nat} (hn : n ≤ n') : ∀ (c : Code) (s : ASt) (m : AMode) (r : AExit × ASt × AMode), aexecR C call n c s m = some r → aexecR C call' n' c s m = some r := by
  intro c
  induction c with
  | region id ops draw =>
    intro s m r h
    cases draw with
    | false => exact aopsR_le hc _ _ _ _ h
    | true => exact map_le (fun x hx => aexec_le hc hn _ _ _ hx) h
  | seq a b iha ihb =>
    intro s m r h
    simp only [aexecR] at h ⊢
    cases hs : aexecR C call n a s m with
    | none => rw [hs] at h; cases h
    | some q =>
      rw [hs] at h
      rw [iha _ _ _ hs]
      obtain ⟨x, s1, m1⟩ := q
      cases x with
      | normal => exact ihb _ _ _ h
      | _ => exact h
  | cond o a b iha ihb =>
    intro s m r h
    simp only [aexecR] at h ⊢
    split at h
    · exact iha _ _ _ h
    · exact ihb _ _ _ h
    · cases h
  | _ => intro s m r h; exact map_le (fun x hx => aexec_le hc hn _ _ _ hx) h
theorem adefer_le (hc : CallLe call call') {n n' : Nat} (hn : n ≤ n') {g : FuncId} {args : List AVal} {m : AMode} {h : AHeap} {r : ARes × AHeap × AMode} (hb : adefer C call n g args m h = some r) : adefer C call' n' g args m h = some r := by
  unfold adefer at hb ⊢
  cases hf : C.P.funcs[g]? with
  | none => rw [hf] at hb; cases hb
  | some fn =>
    rw [hf] at hb
    simp only at hb ⊢
    cases hbo : fn.body with
    | none => rw [hbo] at hb; cases hb
    | some body =>
      rw [hbo] at hb
      simp only at hb ⊢
      cases hs : aexecR C call n body { tmps := args ++ List.replicate (fn.ntmps - args.length) .top, h } m with
      | none => rw [hs] at hb; cases hb
      | some q => rw [hs] at hb; rw [aexecR_le hc hn _ _ _ _ hs]; exact hb
theorem aleave_le (hc : CallLe call call') {n n' : Nat} (hn : n ≤ n') {fn : Func} {g : FuncId} {args : List AVal} {q : Option (AExit × ASt)} {r : ARes × AHeap} (hb : aleave C call n fn g args q = some r) : aleave C call' n' fn g args q = some r := by
  have calm : ∀ (s : ASt), (match adefer C call n g args .calm s.h with
      | some (.ret _, h', _) => (aresults C fn.results.toList { s with h := h' }).map fun vs => (ARes.ret (packRes vs), h')
      | some (.pan v, h', _) => some (.pan v, h')
      | none => none) = some r → (match adefer C call' n' g args .calm s.h with
      | some (.ret _, h', _) => (aresults C fn.results.toList { s with h := h' }).map fun vs => (ARes.ret (packRes vs), h')
      | some (.pan v, h', _) => some (.pan v, h')
      | none => none) = some r := by
    intro s hb
    cases hs : adefer C call n g args .calm s.h with
    | none => rw [hs] at hb; cases hb
    | some q => rw [hs] at hb; rw [adefer_le hc hn hs]; exact hb
  cases q with
  | none => cases hb
  | some q =>
    obtain ⟨x, s⟩ := q
    cases x with
    | normal => exact calm s hb
    | ret => exact calm s hb
    | exit id => cases hb
    | pan v =>
      simp only [aleave] at hb ⊢
      cases hs : adefer C call n g args (.pan v) s.h with
      | none => rw [hs] at hb; cases hb
      | some q => rw [hs] at hb; rw [adefer_le hc hn hs]; exact hb
theorem abodyD_le (hc : CallLe call call') {n n' : Nat} (hn : n ≤ n') {fn : Func} : ∀ (body : Code) (s : ASt) (r : ARes × AHeap), abodyD C call n fn body s = some r → abodyD C call' n' fn body s = some r := by
  intro body
  induction body with
  | seq a b _ ihb =>
    intro s r h
    simp only [abodyD] at h ⊢
    cases hd : deferOf a with
    | some q =>
      obtain ⟨ops, init, o, c⟩ := q
      rw [hd] at h
      simp only at h ⊢
      cases ha : aops C call ops init s with
      | none => rw [ha] at h; cases h
      | some q2 =>
        rw [ha] at h; rw [aops_le hc _ _ _ ha]
        obtain ⟨x, s1⟩ := q2
        cases x with
        | normal =>
          simp only at h ⊢
          cases hce : calleeOf (evalO C s1.tmps) c with
          | none => rw [hce] at h; cases h
          | some ga =>
            rw [hce] at h
            simp only at h ⊢
            cases he : aexec C call n b { s1 with tmps := put s1.tmps o.dst .top } with
            | none => rw [he] at h; cases h
            | some q3 => rw [he] at h; rw [aexec_le hc hn _ _ _ he]; exact aleave_le hc hn h
        | _ => exact h
    | none =>
      rw [hd] at h
      simp only at h ⊢
      cases ha : aexec C call n a s with
      | none => rw [ha] at h; cases h
      | some q2 =>
        rw [ha] at h; rw [aexec_le hc hn _ _ _ ha]
        obtain ⟨x, s1⟩ := q2
        cases x with
        | normal => exact ihb _ _ h
        | _ => exact h
  | _ => intro s r h; cases h
theorem abodyX_le (hc : CallLe call call') {n n' : Nat} (hn : n ≤ n') {f : FuncId} {fn : Func} {body : Code} {args : List AVal} {h : AHeap} {r : ARes × AHeap} (hb : abodyX C call n f fn body args h = some r) : abodyX C call' n' f fn body args h = some r := by
  unfold abodyX at hb ⊢
  split at hb
  · rename_i hd; rw [if_pos hd]; exact abodyD_le hc hn _ _ _ hb
  · rename_i hd; rw [if_neg hd]; exact abody_le hc hn hb
end
theorem arun_le {C : Cfg} : ∀ n, CallLe (arun C n) (arun C (n + 1)) := by
  intro n
  induction n with
  | zero => intro f a h r hr; simp [arun] at hr
  | succ n ih =>
    intro f args h r hr
    rw [arun] at hr ⊢
    cases hs : C.summ f with
    | some s => simp only [hs] at hr ⊢; exact hr
    | none =>
      simp only [hs] at hr ⊢
      cases hf : C.P.funcs[f]? with
      | none => simp [hf] at hr
      | some fn =>
        simp only [hf] at hr ⊢
        cases hb : fn.body with
        | none => simp only [hb] at hr ⊢; exact hr
        | some body =>
          simp only [hb] at hr ⊢
          by_cases hfo : C.foc f = true
          · simp only [hfo, if_true] at hr ⊢
            split at hr
            · rename_i as h0 ha hh
              cases hbo : abodyX C (arun C n) n f fn body as h0 with
              | none => rw [hbo] at hr; cases hr
              | some q => rw [hbo] at hr; rw [abodyX_le ih (Nat.le_succ n) hbo]; exact hr
            · cases hr
          · simp only [hfo, if_false, Bool.false_eq_true] at hr ⊢
            exact abodyX_le ih (Nat.le_succ n) hr
theorem arun_mono {C : Cfg} {n m : Nat} (h : n ≤ m) : CallLe (arun C n) (arun C m) := by
  induction m with
  | zero => have : n = 0 := by omega
            subst this; exact fun _ _ _ _ h => h
  | succ m ih =>
    rcases Nat.lt_or_ge m n with h1 | h1
    · have : n = m + 1 := by omega
      subst this; exact fun _ _ _ _ h => h
    · exact fun f a hh r hr => arun_le m f a hh r (ih h1 f a hh r hr)
def Mono {α : Type} (g : Nat → Option α) : Prop := ∀ n m, n ≤ m → ∀ v, g n = some v → g m = some v
open Classical in
noncomputable def lim {α : Type} (g : Nat → Option α) : Option α := if h : ∃ n, (g n).isSome = true then g (Classical.choose h) else none
theorem lim_of {α : Type} {g : Nat → Option α} (hg : Mono g) {n : Nat} {v : α} (h : g n = some v) : lim g = some v := by
  have hex : ∃ n, (g n).isSome = true := ⟨n, by rw [h]; rfl⟩
  unfold lim
  rw [dif_pos hex]
  have := Classical.choose_spec hex
  rw [Option.isSome_iff_exists] at this
  obtain ⟨u, hu⟩ := this
  rw [hu]
  rcases Nat.le_total n (Classical.choose hex) with h1 | h1
  · have := hg _ _ h1 _ h; rw [hu] at this; exact this
  · have := hg _ _ h1 _ hu; rw [h] at this; exact this.symm
theorem of_lim {α : Type} {g : Nat → Option α} {v : α} (h : lim g = some v) : ∃ n, g n = some v := by
  unfold lim at h
  split at h
  · exact ⟨_, h⟩
  · cases h
theorem lim_none {α : Type} {g : Nat → Option α} (h : ∀ n, g n = none) : lim g = none := by
  unfold lim
  rw [dif_neg]
  rintro ⟨n, hn⟩
  rw [h n] at hn; cases hn
theorem lim_const {α : Type} (v : Option α) : lim (fun _ => v) = v := by
  cases v with
  | none => exact lim_none fun _ => rfl
  | some v => exact lim_of (g := fun _ => some v) (n := 0) (fun _ _ _ _ h => h) rfl
theorem lim_ext {α : Type} {g g' : Nat → Option α} (hg : Mono g) (hg' : Mono g') (h : ∀ v, (∃ n, g n = some v) ↔ ∃ n, g' n = some v) : lim g = lim g' := by
  cases h1 : lim g with
  | some v => obtain ⟨n, hn⟩ := (h v).1 (of_lim h1); exact (lim_of hg' hn).symm
  | none =>
    cases h2 : lim g' with
    | none => rfl
    | some v => obtain ⟨n, hn⟩ := (h v).2 (of_lim h2); rw [lim_of hg hn] at h1; cases h1
theorem lim_bind {α β : Type} {g : Nat → Option α} {k : α → Nat → Option β} (hg : Mono g) (hk : ∀ v, Mono (k v)) : lim (fun n => (g n).bind fun v => k v n) = (lim g).bind fun v => lim (k v) := by
  have hm : Mono (fun n => (g n).bind fun v => k v n) := by
    intro n m hnm v h
    simp only [Option.bind_eq_some_iff] at h ⊢
    obtain ⟨a, ha, hb⟩ := h
    exact ⟨a, hg _ _ hnm _ ha, hk a _ _ hnm _ hb⟩
  cases h1 : lim g with
  | none =>
    refine lim_none fun n => ?_
    cases h2 : g n with
    | none => rfl
    | some v => rw [lim_of hg h2] at h1; cases h1
  | some a =>
    obtain ⟨n, hn⟩ := of_lim h1
    simp only [Option.bind_some]
    refine lim_ext hm (hk a) fun v => ⟨fun ⟨m, h2⟩ => ?_, fun ⟨m, h2⟩ => ⟨max n m, ?_⟩⟩
    · simp only [Option.bind_eq_some_iff] at h2
      obtain ⟨b, hb, h2⟩ := h2
      have := lim_of hg hb
      rw [h1] at this; cases this
      exact ⟨m, h2⟩
    · rw [hg n _ (Nat.le_max_left _ _) _ hn]
      exact hk a m _ (Nat.le_max_right _ _) _ h2
noncomputable def run (C : Cfg) (f : FuncId) (args : List AVal) (h : AHeap) : Option (ARes × AHeap) := lim fun n => arun C n f args h
noncomputable def ex (C : Cfg) (c : Code) (s : ASt) : Option (AExit × ASt) := lim fun n => aexec C (arun C n) n c s
noncomputable def xops (C : Cfg) (ops : Array Oper) (l : List Oper) (s : ASt) : Option (AExit × ASt) := lim fun n => aops C (arun C n) ops l s
noncomputable def xgo (C : Cfg) (ops : Array Oper) (l : List Oper) (s : ASt) : Option (List Did × ASt) := lim fun n => drawGo C (arun C n) ops l s
section
variable {C : Cfg}
theorem mono_run (f : FuncId) (args : List AVal) (h : AHeap) : Mono (fun n => arun C n f args h) := fun _ _ hnm _ hv => arun_mono hnm _ _ _ _ hv
theorem mono_ex (c : Code) (s : ASt) : Mono (fun n => aexec C (arun C n) n c s) := fun _ _ hnm _ hv => aexec_le (arun_mono hnm) hnm _ _ _ hv
theorem mono_xops (ops : Array Oper) (l : List Oper) (s : ASt) : Mono (fun n => aops C (arun C n) ops l s) := fun _ _ hnm _ hv => aops_le (arun_mono hnm) _ _ _ hv
theorem mono_xgo (ops : Array Oper) (l : List Oper) (s : ASt) : Mono (fun n => drawGo C (arun C n) ops l s) := fun _ _ hnm _ hv => drawGo_le (arun_mono hnm) _ _ _ hv
theorem mono_const {α : Type} (v : Option α) : Mono (fun _ => v) := fun _ _ _ _ h => h
theorem run_of {n : Nat} {f : FuncId} {args : List AVal} {h : AHeap} {r : ARes × AHeap} (hr : arun C n f args h = some r) : run C f args h = some r := lim_of (mono_run f args h) hr
theorem of_run {f : FuncId} {args : List AVal} {h : AHeap} {r : ARes × AHeap} (hr : run C f args h = some r) : ∃ n, arun C n f args h = some r := of_lim hr
theorem ex_skip (s : ASt) : ex C .skip s = some (.normal, s) := lim_const _
theorem ex_exit (id : Nat) (s : ASt) : ex C (.exit id) s = some (.exit id, s) := lim_const _
theorem ex_ret (s : ASt) : ex C .ret s = some (.ret, s) := lim_const _
theorem ex_draw (id : Nat) (ops : Array Oper) (s : ASt) : ex C (.region id ops true) s = match xgo C ops ops.toList s with
    | some (cs, s') => if pairsOk ops (ancs ops.toList) cs && backOk ops then some (.normal, s') else none
    | none => none := by
  have h1 : ex C (.region id ops true) s = lim (fun n => (drawGo C (arun C n) ops ops.toList s).bind fun q => if pairsOk ops (ancs ops.toList) q.1 && backOk ops then some (AExit.normal, q.2) else none) := by
    unfold ex
    congr 1
    funext n
    simp only [aexec, adraw]
    cases drawGo C (arun C n) ops ops.toList s <;> rfl
  rw [h1, lim_bind (k := fun q _ => if pairsOk ops (ancs ops.toList) q.1 && backOk ops then some (AExit.normal, q.2) else none) (mono_xgo ops ops.toList s) (fun q => mono_const _)]
  change (xgo C ops ops.toList s).bind _ = _
  cases xgo C ops ops.toList s with
  | none => rfl
  | some q => simp only [Option.bind_some, lim_const]
theorem ex_seq (a b : Code) (s : ASt) : ex C (.seq a b) s = match ex C a s with
    | some (.normal, s') => ex C b s'
    | r => r := by
  let k : AExit × ASt → Nat → Option (AExit × ASt) := fun q n => match q with
    | (.normal, s') => aexec C (arun C n) n b s'
    | q => some q
  have h1 : ex C (.seq a b) s = lim (fun n => (aexec C (arun C n) n a s).bind fun q => k q n) := by
    unfold ex
    congr 1
    funext n
    simp only [aexec]
    cases aexec C (arun C n) n a s with
    | none => rfl
    | some q => obtain ⟨x, s1⟩ := q; cases x <;> rfl
  rw [h1, lim_bind (mono_ex a s) (fun q => by
    obtain ⟨x, s1⟩ := q
    cases x with
    | normal => exact mono_ex b s1
    | _ => exact mono_const _)]
  change (ex C a s).bind _ = _
  cases ex C a s with
  | none => rfl
  | some q =>
    obtain ⟨x, s1⟩ := q
    cases x with
    | normal => rfl
    | _ => exact lim_const _
theorem ex_cond (c : Operand) (a b : Code) (s : ASt) : ex C (.cond c a b) s = match evalO C s.tmps c with
    | .bool true => ex C a s
    | .bool false => ex C b s
    | _ => none := by
  unfold ex
  simp only [aexec]
  cases h : evalO C s.tmps c <;> try exact lim_none fun n => rfl
  rename_i t
  cases t <;> rfl
theorem ex_scope (a : Code) (s : ASt) : ex C (.scope a) s = ex C a s := rfl
theorem ex_label (l : Nat) (s : ASt) : ex C (.label l) s = some (.normal, s) := by
  unfold ex
  simp only [aexec]
  exact lim_const _
theorem ex_block (id : Nat) (a : Code) (s : ASt) : ex C (.block id a) s = match ex C a s with
    | some (.exit j, s') => if j = id then some (.normal, s') else some (.exit j, s')
    | r => r := by
  let k : AExit × ASt → Nat → Option (AExit × ASt) := fun q _ => match q with
    | (.exit j, s') => if j = id then some (.normal, s') else some (.exit j, s')
    | q => some q
  have h1 : ex C (.block id a) s = lim (fun n => (aexec C (arun C n) n a s).bind fun q => k q n) := by
    unfold ex
    congr 1
    funext n
    simp only [aexec]
    cases aexec C (arun C n) n a s with
    | none => rfl
    | some q => obtain ⟨x, s1⟩ := q; cases x <;> rfl
  rw [h1, lim_bind (mono_ex a s) (fun q => mono_const _)]
  change (ex C a s).bind _ = _
  cases ex C a s with
  | none => rfl
  | some q =>
    obtain ⟨x, s1⟩ := q
    simp only [Option.bind_some]
    rw [show lim (k (x, s1)) = _ from lim_const (match (x, s1) with
      | (.exit j, s') => if j = id then some (.normal, s') else some (.exit j, s')
      | q => some q)]
    cases x <;> rfl
theorem loop_norm {c : Code} {s s1 : ASt} {m : Nat} (h : aexec C (arun C (m + 1)) (m + 1) c s = some (.normal, s1)) : aexec C (arun C (m + 1)) (m + 1) (.loop c) s = iter (aexec C (arun C (m + 1)) (m + 1) c) m s1 := by
  simp only [aexec, iter]
  rw [h]
theorem loop_out {c : Code} {s s1 : ASt} {x : AExit} {m : Nat} (hx : x ≠ .normal) (h : aexec C (arun C (m + 1)) (m + 1) c s = some (x, s1)) : aexec C (arun C (m + 1)) (m + 1) (.loop c) s = some (x, s1) := by
  simp only [aexec, iter]
  rw [h]
  cases x <;> first | rfl | exact absurd rfl hx
theorem ex_loop (c : Code) (s : ASt) : ex C (.loop c) s = match ex C c s with
    | some (.normal, s') => ex C (.loop c) s'
    | r => r := by
  have hm := mono_ex (C := C) (.loop c)
  cases h1 : ex C c s with
  | none =>
    refine lim_none fun n => ?_
    simp only [aexec]
    cases n with
    | zero => rfl
    | succ n =>
      simp only [iter]
      cases h2 : aexec C (arun C (n + 1)) (n + 1) c s with
      | none => rfl
      | some q => have := lim_of (mono_ex c s) h2; unfold ex at h1; rw [h1] at this; cases this
  | some q =>
    obtain ⟨n, hn⟩ := of_lim h1
    obtain ⟨x, s1⟩ := q
    cases x with
    | normal =>
      have step : ∀ m, n ≤ m → aexec C (arun C (m + 1)) (m + 1) (.loop c) s = iter (aexec C (arun C (m + 1)) (m + 1) c) m s1 := fun m hmn => loop_norm (mono_ex c s n (m + 1) (by omega) _ hn)
      refine lim_ext (hm s) (hm s1) fun v => ⟨fun ⟨m, h2⟩ => ?_, fun ⟨m, h2⟩ => ?_⟩
      · have h3 := hm s m (max n m + 1) (by omega) v h2
        change aexec C (arun C (max n m + 1)) (max n m + 1) (.loop c) s = some v at h3
        rw [step _ (Nat.le_max_left _ _)] at h3
        refine ⟨max n m + 1, ?_⟩
        simp only [aexec]
        exact iter_le (fun s r h => h) _ _ _ _ (Nat.le_succ _) h3
      · refine ⟨max n m + 1, ?_⟩
        change aexec C (arun C (max n m + 1)) (max n m + 1) (.loop c) s = some v
        rw [step _ (Nat.le_max_left _ _)]
        simp only [aexec] at h2
        exact iter_le (fun s r h => aexec_le (arun_mono (by omega)) (by omega) _ _ _ h) _ _ _ _ (by omega) h2
    | _ => exact lim_of (hm s) (n := n + 1) (loop_out (by simp) (mono_ex c s n (n + 1) (by omega) _ hn))
theorem xops_nil (ops : Array Oper) (s : ASt) : xops C ops [] s = some (.normal, s) := lim_const _
theorem xops_cons (ops : Array Oper) (o : Oper) (rest : List Oper) (s : ASt) : xops C ops (o :: rest) s = match awanted ops s.tmps o with
    | none => none
    | some false => xops C ops rest { s with tmps := put s.tmps o.dst (.tup []) }
    | some true => match aoper C (evalO C s.tmps) s.h o with
      | none => none
      | some (.val v h') => xops C ops rest { tmps := put s.tmps o.dst v, h := h' }
      | some (.pan v) => some (.pan v, s)
      | some (.call f args) => match run C f args s.h with
        | none => none
        | some (.ret v, h') => xops C ops rest { tmps := put s.tmps o.dst v, h := h' }
        | some (.pan v, h') => some (.pan v, { s with h := h' }) := by
  unfold xops
  simp only [aops]
  cases hw : awanted ops s.tmps o with
  | none => exact lim_none fun n => rfl
  | some b =>
    cases b with
    | false => rfl
    | true =>
      simp only
      cases ho : aoper C (evalO C s.tmps) s.h o with
      | none => exact lim_none fun n => rfl
      | some out =>
        cases out with
        | val v h' => rfl
        | pan v => exact lim_const _
        | call f args =>
          simp only
          let k : ARes × AHeap → Nat → Option (AExit × ASt) := fun q n => match q with
            | (.ret v, h') => aops C (arun C n) ops rest { tmps := put s.tmps o.dst v, h := h' }
            | (.pan v, h') => some (.pan v, { s with h := h' })
          refine Eq.trans (b := lim (fun n => (arun C n f args s.h).bind fun q => k q n)) (congrArg lim (funext fun n => ?_)) ?_
          · cases arun C n f args s.h with
            | none => rfl
            | some q => obtain ⟨x, h'⟩ := q; cases x <;> rfl
          rw [lim_bind (mono_run f args s.h) (fun q => by
            obtain ⟨x, h'⟩ := q
            cases x with
            | ret v => exact mono_xops _ _ _
            | pan v => exact mono_const _)]
          change (run C f args s.h).bind _ = _
          cases run C f args s.h with
          | none => rfl
          | some q =>
            obtain ⟨x, h'⟩ := q
            cases x with
            | ret v => rfl
            | pan v => exact lim_const _
theorem xgo_nil (ops : Array Oper) (s : ASt) : xgo C ops [] s = some ([], s) := lim_const _
theorem xgo_cons (ops : Array Oper) (o : Oper) (rest : List Oper) (s : ASt) : xgo C ops (o :: rest) s = match awanted ops s.tmps o with
    | none => none
    | some false => (xgo C ops rest { s with tmps := put s.tmps o.dst (.tup []) }).map fun r => (⟨some [], s.h, s.h⟩ :: r.1, r.2)
    | some true => match aoper C (evalO C s.tmps) s.h o with
      | none => none
      | some (.val v h') => (xgo C ops rest { tmps := put s.tmps o.dst v, h := h' }).map fun r => (⟨areads C (evalO C s.tmps) o, s.h, h'⟩ :: r.1, r.2)
      | some (.pan _) => none
      | some (.call f args) => match run C f args s.h with
        | some (.ret v, h') => (xgo C ops rest { tmps := put s.tmps o.dst v, h := h' }).map fun r => (⟨if apure C f args then some [] else none, s.h, h'⟩ :: r.1, r.2)
        | _ => none := by
  have lim_map : ∀ (s1 : ASt) (d : Did), lim (fun n => (drawGo C (arun C n) ops rest s1).map fun r => (d :: r.1, r.2)) = (xgo C ops rest s1).map fun r => (d :: r.1, r.2) := by
    intro s1 d
    have : (fun n => (drawGo C (arun C n) ops rest s1).map fun r => (d :: r.1, r.2)) = fun n => (drawGo C (arun C n) ops rest s1).bind fun r => some (d :: r.1, r.2) := by
      funext n; cases drawGo C (arun C n) ops rest s1 <;> rfl
    rw [this, lim_bind (k := fun r _ => some (d :: r.1, r.2)) (mono_xgo ops rest s1) (fun q => mono_const _)]
    change (xgo C ops rest s1).bind _ = _
    cases xgo C ops rest s1 with
    | none => rfl
    | some q => simp only [Option.bind_some, lim_const, Option.map_some]
  rw [show xgo C ops (o :: rest) s = lim (fun n => drawGo C (arun C n) ops (o :: rest) s) from rfl]
  simp only [drawGo]
  cases hw : awanted ops s.tmps o with
  | none => exact lim_none fun n => rfl
  | some b =>
    cases b with
    | false => exact lim_map _ _
    | true =>
      simp only
      cases ho : aoper C (evalO C s.tmps) s.h o with
      | none => exact lim_none fun n => rfl
      | some out =>
        cases out with
        | val v h' => exact lim_map _ _
        | pan v => exact lim_none fun n => rfl
        | call f args =>
          simp only
          let k : ARes × AHeap → Nat → Option (List Did × ASt) := fun q n => match q with
            | (.ret v, h') => (drawGo C (arun C n) ops rest { tmps := put s.tmps o.dst v, h := h' }).map fun r => (⟨if apure C f args then some [] else none, s.h, h'⟩ :: r.1, r.2)
            | (.pan _, _) => none
          refine Eq.trans (b := lim (fun n => (arun C n f args s.h).bind fun q => k q n)) (congrArg lim (funext fun n => ?_)) ?_
          · cases arun C n f args s.h with
            | none => rfl
            | some q => obtain ⟨x, h'⟩ := q; cases x <;> rfl
          rw [lim_bind (mono_run f args s.h) (fun q => by
            obtain ⟨x, h'⟩ := q
            cases x with
            | ret v =>
              intro n m hnm u hu
              simp only [k, Option.map_eq_some_iff] at hu ⊢
              obtain ⟨a, ha, hb⟩ := hu
              exact ⟨a, mono_xgo _ _ _ n m hnm _ ha, hb⟩
            | pan v => exact mono_const _)]
          change (run C f args s.h).bind _ = _
          cases run C f args s.h with
          | none => rfl
          | some q =>
            obtain ⟨x, h'⟩ := q
            cases x with
            | ret v => exact lim_map _ _
            | pan v => exact lim_none fun n => rfl
end
end Go.Am



set_option linter.unusedSimpArgs false
namespace Go.Am
open Go
section
variable {C : Cfg}
def endOf (C : Cfg) (fn : Func) : Option (AExit × ASt) → Option (ARes × AHeap)
  | some (.normal, s) | some (.ret, s) => (aresults C fn.results.toList s).map fun vs => (.ret (packRes vs), s.h)
  | some (.pan v, s) => some (.pan v, s.h)
  | _ => none
noncomputable def xbody (C : Cfg) (fn : Func) (body : Code) (args : List AVal) (h : AHeap) : Option (ARes × AHeap) :=
  endOf C fn (ex C body { tmps := args ++ List.replicate (fn.ntmps - args.length) .top, h })
theorem abody_eq (call : CallF) (n : Nat) (fn : Func) (body : Code) (args : List AVal) (h : AHeap) :
    abody C call n fn body args h = endOf C fn (aexec C call n body { tmps := args ++ List.replicate (fn.ntmps - args.length) .top, h }) := by
  unfold abody endOf
  cases aexec C call n body { tmps := args ++ List.replicate (fn.ntmps - args.length) .top, h } with
  | none => rfl
  | some q => obtain ⟨x, s⟩ := q; cases x <;> rfl
theorem lim_succ {α : Type} {g : Nat → Option α} (hg : Mono g) : lim g = lim fun n => g (n + 1) :=
  lim_ext hg (fun n m hnm v h => hg _ _ (by omega) v h) fun v => ⟨fun ⟨n, hn⟩ => ⟨n, hg _ _ (by omega) v hn⟩, fun ⟨n, hn⟩ => ⟨n + 1, hn⟩⟩
theorem lim_body (fn : Func) (body : Code) (args : List AVal) (h : AHeap) : lim (fun n => abody C (arun C n) n fn body args h) = xbody C fn body args h := by
  have e : (fun n => abody C (arun C n) n fn body args h) = fun n => (aexec C (arun C n) n body { tmps := args ++ List.replicate (fn.ntmps - args.length) .top, h }).bind fun q => endOf C fn (some q) := by
    funext n
    rw [abody_eq]
    cases aexec C (arun C n) n body { tmps := args ++ List.replicate (fn.ntmps - args.length) .top, h } <;> rfl
  rw [e, lim_bind (k := fun q _ => endOf C fn (some q)) (mono_ex _ _) (fun q => mono_const _)]
  change (ex C body _).bind _ = _
  unfold xbody
  cases ex C body { tmps := args ++ List.replicate (fn.ntmps - args.length) .top, h } with
  | none => rfl
  | some q => simp only [Option.bind_some, lim_const]
theorem mono_body (fn : Func) (body : Code) (args : List AVal) (h : AHeap) : Mono (fun n => abody C (arun C n) n fn body args h) := fun _ _ hnm _ hv => abody_le (arun_mono hnm) hnm hv
theorem run_plain {f : FuncId} {fn : Func} {body : Code} (hf : C.P.funcs[f]? = some fn) (hb : fn.body = some body) (hs : C.summ f = none) (hfoc : C.foc f = false) (args : List AVal) (h : AHeap) (hd : C.dfr f = false := by rfl) : run C f args h = xbody C fn body args h := by
  unfold run
  rw [lim_succ (mono_run f args h), ← lim_body]
  congr 1
  funext n
  simp only [arun, hs, hf, hb, hfoc, abodyX, hd, Bool.false_eq_true, if_false]
theorem run_apart {f : FuncId} {fn : Func} {body : Code} (hf : C.P.funcs[f]? = some fn) (hb : fn.body = some body) (hs : C.summ f = none) (hfoc : C.foc f = true) (args : List AVal) (h : AHeap) (hd : C.dfr f = false := by rfl) :
    run C f args h = match norms (fun i => (refsL args).eraseDups.contains i) AHeap.empty depth args, focus (refsL args).eraseDups depth h with
      | some as, some h0 => match xbody C fn body as h0 with
        | some (r, h1) => home (refsL args).eraseDups depth h h1 r
        | none => none
      | _, _ => none := by
  unfold run
  rw [lim_succ (mono_run f args h)]
  simp only [arun, hs, hf, hb, hfoc, abodyX, hd, if_true, Bool.false_eq_true, if_false]
  cases norms (fun i => (refsL args).eraseDups.contains i) AHeap.empty depth args with
  | none => exact lim_none fun n => rfl
  | some as =>
    cases focus (refsL args).eraseDups depth h with
    | none => exact lim_none fun n => rfl
    | some h0 =>
      simp only
      rw [← lim_body]
      refine Eq.trans (b := lim (fun n => (abody C (arun C n) n fn body as h0).bind fun q => home (refsL args).eraseDups depth h q.2 q.1)) (congrArg lim (funext fun n => ?_)) ?_
      · cases abody C (arun C n) n fn body as h0 with
        | none => rfl
        | some q => rfl
      · rw [lim_bind (k := fun q _ => home (refsL args).eraseDups depth h q.2 q.1) (mono_body _ _ _ _) (fun q => mono_const _)]
        cases lim (fun n => abody C (arun C n) n fn body as h0) with
        | none => rfl
        | some q => simp only [Option.bind_some, lim_const]
mutual
def contB : AVal → Bool
  | .ptr _ _ | .sl _ _ _ _ _ _ | .map _ => false
  | .iptr cs | .agg cs | .tup cs => contBs cs
  | .lst cs _ c => contBs cs && (match c with | .tok _ => false | _ => true)
  | .fn _ a b => contBs a && contBs b
  | .iface _ v => contB v
  | .top | .bool _ | .int _ _ | .str _ | .nilPtr | .nilSl | .nilMap | .nilI | .nilFn => true
def contBs : List AVal → Bool
  | [] => true
  | v :: vs => contB v && contBs vs
end
mutual
theorem normW_cont (keep : Nat → Bool) (hop : Nat → Option (List AVal)) : ∀ v, contB v = true → normW keep hop v = some v
  | .ptr _ _, h | .sl _ _ _ _ _ _, h | .map _, h => by simp [contB] at h
  | .iptr cs, h => by simp only [contB] at h; simp only [normW, normL_cont keep hop cs h, Option.map_some]
  | .agg cs, h => by simp only [contB] at h; simp only [normW, normL_cont keep hop cs h, Option.map_some]
  | .tup cs, h => by simp only [contB] at h; simp only [normW, normL_cont keep hop cs h, Option.map_some]
  | .lst cs n c, h => by
    simp only [contB, Bool.and_eq_true] at h
    simp only [normW, normL_cont keep hop cs h.1, Option.map_some]
    cases c <;> first | rfl | simp at h
  | .fn _ a b, h => by simp only [contB, Bool.and_eq_true] at h; simp only [normW, normL_cont keep hop a h.1, normL_cont keep hop b h.2]
  | .iface _ v, h => by simp only [contB] at h; simp only [normW, normW_cont keep hop v h, Option.map_some]
  | .top, _ | .bool _, _ | .int _ _, _ | .str _, _ | .nilPtr, _ | .nilSl, _ | .nilMap, _ | .nilI, _ | .nilFn, _ => rfl
theorem normL_cont (keep : Nat → Bool) (hop : Nat → Option (List AVal)) : ∀ vs, contBs vs = true → normL keep hop vs = some vs
  | [], _ => rfl
  | v :: vs, h => by simp only [contBs, Bool.and_eq_true] at h; simp only [normL, normW_cont keep hop v h.1, normL_cont keep hop vs h.2]
end
mutual
theorem refs_cont : ∀ v, contB v = true → refs v = []
  | .ptr _ _, h | .sl _ _ _ _ _ _, h | .map _, h => by simp [contB] at h
  | .iptr cs, h | .agg cs, h | .tup cs, h => by simp only [contB] at h; simp only [refs, refsL_cont cs h]
  | .lst cs n c, h => by simp only [contB, Bool.and_eq_true] at h; simp only [refs, refsL_cont cs h.1]
  | .fn _ a b, h => by simp only [contB, Bool.and_eq_true] at h; simp only [refs, refsL_cont a h.1, refsL_cont b h.2, List.append_nil]
  | .iface _ v, h => by simp only [contB] at h; simp only [refs, refs_cont v h]
  | .top, _ | .bool _, _ | .int _ _, _ | .str _, _ | .nilPtr, _ | .nilSl, _ | .nilMap, _ | .nilI, _ | .nilFn, _ => rfl
theorem refsL_cont : ∀ vs, contBs vs = true → refsL vs = []
  | [], _ => rfl
  | v :: vs, h => by simp only [contBs, Bool.and_eq_true] at h; simp only [refsL, refs_cont v h.1, refsL_cont vs h.2, List.append_nil]
end
def bare : AHeap := { get := fun _ => none, next := 0, ty := fun _ => none }
theorem run_cont {f : FuncId} {fn : Func} {body : Code} (hf : C.P.funcs[f]? = some fn) (hb : fn.body = some body) (hs : C.summ f = none) (hfoc : C.foc f = true) (args : List AVal) (hc : contBs args = true) (h : AHeap) (hd : C.dfr f = false := by rfl) :
    run C f args h = match xbody C fn body args bare with
      | some (r, h1) => (normRes (fun _ => false) h1 depth r).map fun r' => (r', h)
      | none => none := by
  rw [run_apart hf hb hs hfoc args h hd, refsL_cont args hc]
  simp only [List.eraseDups_nil]
  rw [show norms (fun i => ([] : List Nat).contains i) AHeap.empty depth args = some args from normL_cont _ _ _ hc]
  simp only [focus, putAll, List.foldlM_nil, Option.pure_def, topId]
  change (match xbody C fn body args bare with | some (r, h1) => home [] depth h h1 r | none => none) = _
  cases xbody C fn body args bare with
  | none => rfl
  | some q =>
    obtain ⟨r, h1⟩ := q
    simp only [home, putAll, List.foldlM_nil, Option.pure_def]
    rw [show (fun i => ([] : List Nat).contains i) = fun _ => false from funext fun i => rfl]
    cases normRes (fun _ => false) h1 depth r <;> rfl
end
end Go.Am



set_option linter.unusedSimpArgs false
namespace Go.Am
open Go
section
variable {C : Cfg}
noncomputable def callK (C : Cfg) (ops : Array Oper) (dst : Option Tmp) (s : ASt) (rest : List Oper) : Option (ARes × AHeap) → Option (AExit × ASt)
  | none => none
  | some (.ret v, h') => xops C ops rest { tmps := put s.tmps dst v, h := h' }
  | some (.pan v, h') => some (.pan v, { s with h := h' })
noncomputable def stepK (C : Cfg) (ops : Array Oper) (dst : Option Tmp) (s : ASt) (rest : List Oper) : Option AOut → Option (AExit × ASt)
  | none => none
  | some (.val v h') => xops C ops rest { tmps := put s.tmps dst v, h := h' }
  | some (.pan v) => some (.pan v, s)
  | some (.call f args) => callK C ops dst s rest (run C f args s.h)
noncomputable def wantK (C : Cfg) (ops : Array Oper) (o : Oper) (s : ASt) (rest : List Oper) : Option Bool → Option (AExit × ASt)
  | none => none
  | some false => xops C ops rest { s with tmps := put s.tmps o.dst (.tup []) }
  | some true => stepK C ops o.dst s rest (aoper C (evalO C s.tmps) s.h o)
noncomputable def seqK (C : Cfg) (b : Code) : Option (AExit × ASt) → Option (AExit × ASt)
  | some (.normal, s') => ex C b s'
  | r => r
noncomputable def condK (C : Cfg) (a b : Code) (s : ASt) : AVal → Option (AExit × ASt)
  | .bool true => ex C a s
  | .bool false => ex C b s
  | _ => none
def blockK (id : Nat) : Option (AExit × ASt) → Option (AExit × ASt)
  | some (.exit j, s') => if j = id then some (.normal, s') else some (.exit j, s')
  | r => r
noncomputable def loopK (C : Cfg) (c : Code) : Option (AExit × ASt) → Option (AExit × ASt)
  | some (.normal, s') => ex C (.loop c) s'
  | r => r
theorem e_seq (a b : Code) (s : ASt) : ex C (.seq a b) s = seqK C b (ex C a s) := by
  rw [ex_seq]; unfold seqK
  cases ex C a s with
  | none => rfl
  | some q => obtain ⟨x, s1⟩ := q; cases x <;> rfl
theorem e_cond (c : Operand) (a b : Code) (s : ASt) : ex C (.cond c a b) s = condK C a b s (evalO C s.tmps c) := by
  rw [ex_cond]; unfold condK
  cases evalO C s.tmps c <;> rfl
theorem e_block (id : Nat) (a : Code) (s : ASt) : ex C (.block id a) s = blockK id (ex C a s) := by
  rw [ex_block]; unfold blockK
  cases ex C a s with
  | none => rfl
  | some q => obtain ⟨x, s1⟩ := q; cases x <;> rfl
theorem e_loop (a : Code) (s : ASt) : ex C (.loop a) s = loopK C a (ex C a s) := by
  rw [ex_loop]; unfold loopK
  cases ex C a s with
  | none => rfl
  | some q => obtain ⟨x, s1⟩ := q; cases x <;> rfl
theorem e_region (id : Nat) (ops : Array Oper) (s : ASt) : ex C (.region id ops false) s = xops C ops ops.toList s := rfl
theorem o_cons (ops : Array Oper) (o : Oper) (rest : List Oper) (s : ASt) : xops C ops (o :: rest) s = wantK C ops o s rest (awanted ops s.tmps o) := by
  rw [xops_cons]
  unfold wantK
  cases awanted ops s.tmps o with
  | none => rfl
  | some b =>
    cases b with
    | false => rfl
    | true =>
      simp only
      unfold stepK
      cases aoper C (evalO C s.tmps) s.h o with
      | none => rfl
      | some out =>
        cases out with
        | call f args =>
          simp only; unfold callK
          cases run C f args s.h with
          | none => rfl
          | some q => obtain ⟨x, h'⟩ := q; cases x <;> rfl
        | _ => rfl
theorem k_want_none (ops : Array Oper) (o : Oper) (s : ASt) (rest : List Oper) : wantK C ops o s rest (some true) = stepK C ops o.dst s rest (aoper C (evalO C s.tmps) s.h o) := rfl
theorem k_want_false (ops : Array Oper) (o : Oper) (s : ASt) (rest : List Oper) : wantK C ops o s rest (some false) = xops C ops rest { s with tmps := put s.tmps o.dst (.tup []) } := rfl
theorem k_val (ops : Array Oper) (dst : Option Tmp) (s : ASt) (rest : List Oper) (v : AVal) (h' : AHeap) : stepK C ops dst s rest (some (.val v h')) = xops C ops rest { tmps := put s.tmps dst v, h := h' } := rfl
theorem k_pan (ops : Array Oper) (dst : Option Tmp) (s : ASt) (rest : List Oper) (v : AVal) : stepK C ops dst s rest (some (.pan v)) = some (.pan v, s) := rfl
theorem k_call (ops : Array Oper) (dst : Option Tmp) (s : ASt) (rest : List Oper) (f : FuncId) (args : List AVal) : stepK C ops dst s rest (some (.call f args)) = callK C ops dst s rest (run C f args s.h) := rfl
theorem k_ret (ops : Array Oper) (dst : Option Tmp) (s : ASt) (rest : List Oper) (v : AVal) (h' : AHeap) : callK C ops dst s rest (some (.ret v, h')) = xops C ops rest { tmps := put s.tmps dst v, h := h' } := rfl
theorem k_seq (b : Code) (s : ASt) : seqK C b (some (.normal, s)) = ex C b s := rfl
theorem k_seq_exit (b : Code) (j : Nat) (s : ASt) : seqK C b (some (.exit j, s)) = some (.exit j, s) := rfl
theorem k_seq_ret (b : Code) (s : ASt) : seqK C b (some (.ret, s)) = some (.ret, s) := rfl
theorem k_true (a b : Code) (s : ASt) : condK C a b s (.bool true) = ex C a s := rfl
theorem k_false (a b : Code) (s : ASt) : condK C a b s (.bool false) = ex C b s := rfl
theorem k_block (id : Nat) (s : ASt) : blockK id (some (.normal, s)) = some (.normal, s) := rfl
theorem k_block_exit (id j : Nat) (s : ASt) : blockK id (some (.exit j, s)) = if j = id then some (.normal, s) else some (.exit j, s) := rfl
theorem k_block_ret (id : Nat) (s : ASt) : blockK id (some (.ret, s)) = some (.ret, s) := rfl
theorem k_loop (c : Code) (s : ASt) : loopK C c (some (.normal, s)) = ex C (.loop c) s := rfl
theorem k_loop_exit (c : Code) (j : Nat) (s : ASt) : loopK C c (some (.exit j, s)) = some (.exit j, s) := rfl
theorem k_loop_ret (c : Code) (s : ASt) : loopK C c (some (.ret, s)) = some (.ret, s) := rfl
end
section
variable {C : Cfg}
noncomputable def xga (C : Cfg) (ops : Array Oper) (acc : List Did) (l : List Oper) (s : ASt) : Option (List Did × ASt) := (xgo C ops l s).map fun r => (acc ++ r.1, r.2)
noncomputable def gcallK (C : Cfg) (ops : Array Oper) (acc : List Did) (c : Option (List Nat)) (dst : Option Tmp) (s : ASt) (rest : List Oper) : Option (ARes × AHeap) → Option (List Did × ASt)
  | some (.ret v, h') => xga C ops (acc ++ [⟨c, s.h, h'⟩]) rest { tmps := put s.tmps dst v, h := h' }
  | _ => none
noncomputable def gstepK (C : Cfg) (ops : Array Oper) (acc : List Did) (o : Oper) (s : ASt) (rest : List Oper) : Option AOut → Option (List Did × ASt)
  | some (.val v h') => xga C ops (acc ++ [⟨areads C (evalO C s.tmps) o, s.h, h'⟩]) rest { tmps := put s.tmps o.dst v, h := h' }
  | some (.call f args) => gcallK C ops acc (if apure C f args then some [] else none) o.dst s rest (run C f args s.h)
  | _ => none
noncomputable def gwantK (C : Cfg) (ops : Array Oper) (acc : List Did) (o : Oper) (s : ASt) (rest : List Oper) : Option Bool → Option (List Did × ASt)
  | none => none
  | some false => xga C ops (acc ++ [⟨some [], s.h, s.h⟩]) rest { s with tmps := put s.tmps o.dst (.tup []) }
  | some true => gstepK C ops acc o s rest (aoper C (evalO C s.tmps) s.h o)
def drawK (ops : Array Oper) : Option (List Did × ASt) → Option (AExit × ASt)
  | some (cs, s') => if pairsOk ops (ancs ops.toList) cs && backOk ops then some (.normal, s') else none
  | none => none
theorem e_draw (id : Nat) (ops : Array Oper) (s : ASt) : ex C (.region id ops true) s = drawK ops (xga C ops [] ops.toList s) := by
  rw [ex_draw]; unfold drawK xga
  cases xgo C ops ops.toList s with
  | none => rfl
  | some q => rfl
theorem g_nil (ops : Array Oper) (acc : List Did) (s : ASt) : xga C ops acc [] s = some (acc, s) := by
  unfold xga; rw [xgo_nil]; simp
theorem xga_map (ops : Array Oper) (acc : List Did) (d : Did) (rest : List Oper) (s : ASt) : ((xgo C ops rest s).map fun r => (d :: r.1, r.2)).map (fun r => (acc ++ r.1, r.2)) = xga C ops (acc ++ [d]) rest s := by
  unfold xga
  cases xgo C ops rest s with
  | none => rfl
  | some q => simp
theorem g_cons (ops : Array Oper) (acc : List Did) (o : Oper) (rest : List Oper) (s : ASt) : xga C ops acc (o :: rest) s = gwantK C ops acc o s rest (awanted ops s.tmps o) := by
  rw [show xga C ops acc (o :: rest) s = (xgo C ops (o :: rest) s).map fun r => (acc ++ r.1, r.2) from rfl, xgo_cons]
  unfold gwantK
  cases awanted ops s.tmps o with
  | none => rfl
  | some b =>
    cases b with
    | false => exact xga_map _ _ _ _ _
    | true =>
      simp only
      unfold gstepK
      cases aoper C (evalO C s.tmps) s.h o with
      | none => rfl
      | some out =>
        cases out with
        | val v h' => exact xga_map _ _ _ _ _
        | pan v => rfl
        | call f args =>
          simp only; unfold gcallK
          cases run C f args s.h with
          | none => rfl
          | some q =>
            obtain ⟨x, h'⟩ := q
            cases x with
            | ret v => exact xga_map _ _ _ _ _
            | pan v => rfl
theorem g_want (ops : Array Oper) (acc : List Did) (o : Oper) (s : ASt) (rest : List Oper) : gwantK C ops acc o s rest (some true) = gstepK C ops acc o s rest (aoper C (evalO C s.tmps) s.h o) := rfl
theorem g_skip (ops : Array Oper) (acc : List Did) (o : Oper) (s : ASt) (rest : List Oper) : gwantK C ops acc o s rest (some false) = xga C ops (acc ++ [⟨some [], s.h, s.h⟩]) rest { s with tmps := put s.tmps o.dst (.tup []) } := rfl
theorem g_val (ops : Array Oper) (acc : List Did) (o : Oper) (s : ASt) (rest : List Oper) (v : AVal) (h' : AHeap) : gstepK C ops acc o s rest (some (.val v h')) = xga C ops (acc ++ [⟨areads C (evalO C s.tmps) o, s.h, h'⟩]) rest { tmps := put s.tmps o.dst v, h := h' } := rfl
theorem g_call (ops : Array Oper) (acc : List Did) (o : Oper) (s : ASt) (rest : List Oper) (f : FuncId) (args : List AVal) : gstepK C ops acc o s rest (some (.call f args)) = gcallK C ops acc (if apure C f args then some [] else none) o.dst s rest (run C f args s.h) := rfl
theorem g_ret (ops : Array Oper) (acc : List Did) (c : Option (List Nat)) (dst : Option Tmp) (s : ASt) (rest : List Oper) (v : AVal) (h' : AHeap) : gcallK C ops acc c dst s rest (some (.ret v, h')) = xga C ops (acc ++ [⟨c, s.h, h'⟩]) rest { tmps := put s.tmps dst v, h := h' } := rfl
theorem k_draw (ops : Array Oper) (cs : List Did) (s' : ASt) (h : (pairsOk ops (ancs ops.toList) cs && backOk ops) = true) : drawK ops (some (cs, s')) = some (.normal, s') := if_pos h
end
def bodyOf (fn : Func) : Code := match fn.body with
  | some c => c
  | none => .skip
def Cat : List Bool → Code → Code
  | [], c => c
  | b :: bs, .seq x y => Cat bs (if b then y else x)
  | _ :: bs, .block _ x => Cat bs x
  | _ :: bs, .scope x => Cat bs x
  | _ :: bs, .loop x => Cat bs x
  | b :: bs, .cond _ x y => Cat bs (if b then y else x)
  | _, c => c
def slots (fn : Func) (args : List AVal) : List AVal := args ++ List.replicate (fn.ntmps - args.length) .top
theorem fn_run {C : Cfg} {f : FuncId} {fn : Func} (hf : C.P.funcs[f]? = some fn) (hb : fn.body = some (bodyOf fn)) (hs : C.summ f = none) (hfoc : C.foc f = false) {args : List AVal} {h h' : AHeap} {t : List AVal} {x : AExit} {vs : List AVal}
    (hx : x = .ret ∨ x = .normal) (he : ex C (bodyOf fn) ⟨slots fn args, h⟩ = some (x, ⟨t, h'⟩)) (hr : aresults C fn.results.toList ⟨t, h'⟩ = some vs) (hd : C.dfr f = false := by rfl) : run C f args h = some (.ret (packRes vs), h') := by
  rw [run_plain hf hb hs hfoc args h hd]
  unfold xbody
  rw [show args ++ List.replicate (fn.ntmps - args.length) AVal.top = slots fn args from rfl, he]
  rcases hx with rfl | rfl <;> simp only [endOf, hr, Option.map_some]
theorem fn_runC {C : Cfg} {f : FuncId} {fn : Func} (hf : C.P.funcs[f]? = some fn) (hb : fn.body = some (bodyOf fn)) (hs : C.summ f = none) (hfoc : C.foc f = true) {args : List AVal} (hc : contBs args = true) {h' : AHeap} {t : List AVal} {x : AExit} {vs : List AVal} {v : AVal}
    (hx : x = .ret ∨ x = .normal) (he : ex C (bodyOf fn) ⟨slots fn args, bare⟩ = some (x, ⟨t, h'⟩)) (hr : aresults C fn.results.toList ⟨t, h'⟩ = some vs) (hn : normRes (fun _ => false) h' depth (.ret (packRes vs)) = some (.ret v)) (h : AHeap) (hd : C.dfr f = false := by rfl) : run C f args h = some (.ret v, h) := by
  rw [run_cont hf hb hs hfoc _ hc h hd]
  unfold xbody
  rw [show args ++ List.replicate (fn.ntmps - args.length) AVal.top = slots fn args from rfl, he]
  rcases hx with rfl | rfl <;> simp only [endOf, hr, Option.map_some, hn]
theorem add_i (C : Cfg) (t : TypeId) (xo yo : Operand) (h : AHeap) (k : IntKind) (a b : Int) : abin C .add t xo yo h (.int k a) (.int k b) = some (.int k (k.wrap (a + b))) := by simp [abin]
theorem sub_i (C : Cfg) (t : TypeId) (xo yo : Operand) (h : AHeap) (k : IntKind) (a b : Int) : abin C .sub t xo yo h (.int k a) (.int k b) = some (.int k (k.wrap (a - b))) := by simp [abin]
theorem mul_i (C : Cfg) (t : TypeId) (xo yo : Operand) (h : AHeap) (k : IntKind) (a b : Int) : abin C .mul t xo yo h (.int k a) (.int k b) = some (.int k (k.wrap (a * b))) := by simp [abin]
theorem eql_i (C : Cfg) (t : TypeId) (xo yo : Operand) (h : AHeap) (k : IntKind) (a b : Int) : abin C .eql t xo yo h (.int k a) (.int k b) = some (.bool (a == b)) := by simp [abin]
theorem neq_i (C : Cfg) (t : TypeId) (xo yo : Operand) (h : AHeap) (k : IntKind) (a b : Int) : abin C .neq t xo yo h (.int k a) (.int k b) = some (.bool (a != b)) := by simp [abin]
theorem lss_i (C : Cfg) (t : TypeId) (xo yo : Operand) (h : AHeap) (k : IntKind) (a b : Int) : abin C .lss t xo yo h (.int k a) (.int k b) = some (.bool (decide (a < b))) := by simp [abin]
theorem leq_i (C : Cfg) (t : TypeId) (xo yo : Operand) (h : AHeap) (k : IntKind) (a b : Int) : abin C .leq t xo yo h (.int k a) (.int k b) = some (.bool (decide (a ≤ b))) := by simp [abin]
theorem gtr_i (C : Cfg) (t : TypeId) (xo yo : Operand) (h : AHeap) (k : IntKind) (a b : Int) : abin C .gtr t xo yo h (.int k a) (.int k b) = some (.bool (decide (a > b))) := by simp [abin]
theorem geq_i (C : Cfg) (t : TypeId) (xo yo : Operand) (h : AHeap) (k : IntKind) (a b : Int) : abin C .geq t xo yo h (.int k a) (.int k b) = some (.bool (decide (a ≥ b))) := by simp [abin]
theorem wrap64 {x : Int} (h1 : -9223372036854775808 ≤ x) (h2 : x < 9223372036854775808) : IntKind.i64.wrap x = x := by
  unfold IntKind.wrap
  simp only [show IntKind.i64.bits = 64 from rfl, show IntKind.i64.signed = true from rfl, Bool.true_and, decide_eq_true_eq]
  rw [show (2 ^ 64 : Int) = 18446744073709551616 from rfl, show (2 ^ (64 - 1) : Int) = 9223372036854775808 from rfl]
  split <;> omega
end Go.Am

