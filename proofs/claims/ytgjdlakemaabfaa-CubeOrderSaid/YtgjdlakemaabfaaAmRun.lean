/-
  THE ABSTRACT MACHINE without fuel: calls; loops by a measure; content is normal as it is.
-/
import Derived.Test.YtgjdlakemaabfaaAmLim
set_option linter.unusedVariables false
set_option linter.unusedSimpArgs false
namespace Go.Am
open Go

section
variable {C : Cfg}

/-- what a body's end comes to -/
def endOf (C : Cfg) (fn : Func) : Option (AExit × ASt) → Option (ARes × AHeap)
  | some (.normal, s) | some (.ret, s) => (aresults C fn.results.toList s).map fun vs => (.ret (packRes vs), s.h)
  | some (.pan v, s) => some (.pan v, s.h)
  | _ => none
noncomputable def xbody (C : Cfg) (fn : Func) (body : Code) (args : List AVal) (h : AHeap) : Option (ARes × AHeap) :=
  endOf C fn (ex C body { tmps := args ++ List.replicate (fn.ntmps - args.length) .top, h })

theorem abody_eq (call : CallF) (n : Nat) (fn : Func) (body : Code) (args : List AVal) (h : AHeap) :
    abody C call n fn body args h = endOf C fn (aexec C call n body { tmps := args ++ List.replicate (fn.ntmps - args.length) .top, h }) := by
  unfold abody endOf
  cases aexec C call n body { tmps := args ++ List.replicate (fn.ntmps - args.length) .top, h } with
  | none => rfl
  | some q => obtain ⟨x, s⟩ := q; cases x <;> rfl

theorem lim_succ {α : Type} {g : Nat → Option α} (hg : Mono g) : lim g = lim fun n => g (n + 1) :=
  lim_ext hg (fun n m hnm v h => hg _ _ (by omega) v h) fun v => ⟨fun ⟨n, hn⟩ => ⟨n, hg _ _ (by omega) v hn⟩, fun ⟨n, hn⟩ => ⟨n + 1, hn⟩⟩

theorem lim_body (fn : Func) (body : Code) (args : List AVal) (h : AHeap) : lim (fun n => abody C (arun C n) n fn body args h) = xbody C fn body args h := by
  have e : (fun n => abody C (arun C n) n fn body args h) = fun n => (aexec C (arun C n) n body { tmps := args ++ List.replicate (fn.ntmps - args.length) .top, h }).bind fun q => endOf C fn (some q) := by
    funext n
    rw [abody_eq]
    cases aexec C (arun C n) n body { tmps := args ++ List.replicate (fn.ntmps - args.length) .top, h } <;> rfl
  rw [e, lim_bind (k := fun q _ => endOf C fn (some q)) (mono_ex _ _) (fun q => mono_const _)]
  change (ex C body _).bind _ = _
  unfold xbody
  cases ex C body { tmps := args ++ List.replicate (fn.ntmps - args.length) .top, h } with
  | none => rfl
  | some q => simp only [Option.bind_some, lim_const]

theorem mono_body (fn : Func) (body : Code) (args : List AVal) (h : AHeap) : Mono (fun n => abody C (arun C n) n fn body args h) := fun _ _ hnm _ hv => abody_le (arun_mono hnm) hnm hv

/-- A call of a function that is not run apart. -/
theorem run_plain {f : FuncId} {fn : Func} {body : Code} (hf : C.P.funcs[f]? = some fn) (hb : fn.body = some body) (hs : C.summ f = none) (hfoc : C.foc f = false) (args : List AVal) (h : AHeap) (hd : C.dfr f = false := by rfl) : run C f args h = xbody C fn body args h := by
  unfold run
  rw [lim_succ (mono_run f args h), ← lim_body]
  congr 1
  funext n
  simp only [arun, hs, hf, hb, hfoc, abodyX, hd, Bool.false_eq_true, if_false]

/-- A call that is run over a heap of its own. -/
theorem run_apart {f : FuncId} {fn : Func} {body : Code} (hf : C.P.funcs[f]? = some fn) (hb : fn.body = some body) (hs : C.summ f = none) (hfoc : C.foc f = true) (args : List AVal) (h : AHeap) (hd : C.dfr f = false := by rfl) :
    run C f args h = match norms (fun i => (refsL args).eraseDups.contains i) AHeap.empty depth args, focus (refsL args).eraseDups depth h with
      | some as, some h0 => match xbody C fn body as h0 with
        | some (r, h1) => home (refsL args).eraseDups depth h h1 r
        | none => none
      | _, _ => none := by
  unfold run
  rw [lim_succ (mono_run f args h)]
  simp only [arun, hs, hf, hb, hfoc, abodyX, hd, if_true, Bool.false_eq_true, if_false]
  cases norms (fun i => (refsL args).eraseDups.contains i) AHeap.empty depth args with
  | none => exact lim_none fun n => rfl
  | some as =>
    cases focus (refsL args).eraseDups depth h with
    | none => exact lim_none fun n => rfl
    | some h0 =>
      simp only
      rw [← lim_body]
      refine Eq.trans (b := lim (fun n => (abody C (arun C n) n fn body as h0).bind fun q => home (refsL args).eraseDups depth h q.2 q.1)) (congrArg lim (funext fun n => ?_)) ?_
      · cases abody C (arun C n) n fn body as h0 with
        | none => rfl
        | some q => rfl
      · rw [lim_bind (k := fun q _ => home (refsL args).eraseDups depth h q.2 q.1) (mono_body _ _ _ _) (fun q => mono_const _)]
        cases lim (fun n => abody C (arun C n) n fn body as h0) with
        | none => rfl
        | some q => simp only [Option.bind_some, lim_const]

/-! ### content is normal as it is -/
mutual
def contB : AVal → Bool
  | .ptr _ _ | .sl _ _ _ _ _ _ | .map _ => false
  | .iptr cs | .agg cs | .tup cs => contBs cs
  | .lst cs _ c => contBs cs && (match c with | .tok _ => false | _ => true)
  | .fn _ a b => contBs a && contBs b
  | .iface _ v => contB v
  | .top | .bool _ | .int _ _ | .str _ | .nilPtr | .nilSl | .nilMap | .nilI | .nilFn => true
def contBs : List AVal → Bool
  | [] => true
  | v :: vs => contB v && contBs vs
end

mutual
theorem normW_cont (keep : Nat → Bool) (hop : Nat → Option (List AVal)) : ∀ v, contB v = true → normW keep hop v = some v
  | .ptr _ _, h | .sl _ _ _ _ _ _, h | .map _, h => by simp [contB] at h
  | .iptr cs, h => by simp only [contB] at h; simp only [normW, normL_cont keep hop cs h, Option.map_some]
  | .agg cs, h => by simp only [contB] at h; simp only [normW, normL_cont keep hop cs h, Option.map_some]
  | .tup cs, h => by simp only [contB] at h; simp only [normW, normL_cont keep hop cs h, Option.map_some]
  | .lst cs n c, h => by
    simp only [contB, Bool.and_eq_true] at h
    simp only [normW, normL_cont keep hop cs h.1, Option.map_some]
    cases c <;> first | rfl | simp at h
  | .fn _ a b, h => by simp only [contB, Bool.and_eq_true] at h; simp only [normW, normL_cont keep hop a h.1, normL_cont keep hop b h.2]
  | .iface _ v, h => by simp only [contB] at h; simp only [normW, normW_cont keep hop v h, Option.map_some]
  | .top, _ | .bool _, _ | .int _ _, _ | .str _, _ | .nilPtr, _ | .nilSl, _ | .nilMap, _ | .nilI, _ | .nilFn, _ => rfl
theorem normL_cont (keep : Nat → Bool) (hop : Nat → Option (List AVal)) : ∀ vs, contBs vs = true → normL keep hop vs = some vs
  | [], _ => rfl
  | v :: vs, h => by simp only [contBs, Bool.and_eq_true] at h; simp only [normL, normW_cont keep hop v h.1, normL_cont keep hop vs h.2]
end
mutual
theorem refs_cont : ∀ v, contB v = true → refs v = []
  | .ptr _ _, h | .sl _ _ _ _ _ _, h | .map _, h => by simp [contB] at h
  | .iptr cs, h | .agg cs, h | .tup cs, h => by simp only [contB] at h; simp only [refs, refsL_cont cs h]
  | .lst cs n c, h => by simp only [contB, Bool.and_eq_true] at h; simp only [refs, refsL_cont cs h.1]
  | .fn _ a b, h => by simp only [contB, Bool.and_eq_true] at h; simp only [refs, refsL_cont a h.1, refsL_cont b h.2, List.append_nil]
  | .iface _ v, h => by simp only [contB] at h; simp only [refs, refs_cont v h]
  | .top, _ | .bool _, _ | .int _ _, _ | .str _, _ | .nilPtr, _ | .nilSl, _ | .nilMap, _ | .nilI, _ | .nilFn, _ => rfl
theorem refsL_cont : ∀ vs, contBs vs = true → refsL vs = []
  | [], _ => rfl
  | v :: vs, h => by simp only [contBs, Bool.and_eq_true] at h; simp only [refsL, refs_cont v h.1, refsL_cont vs h.2, List.append_nil]
end
theorem contBs_append (a b : List AVal) : contBs (a ++ b) = (contBs a && contBs b) := by
  induction a with
  | nil => rfl
  | cons v a ih => simp only [List.cons_append, contBs, ih, Bool.and_assoc]
theorem contBs_iff {vs : List AVal} : contBs vs = true ↔ ∀ v ∈ vs, contB v = true := by
  induction vs with
  | nil => simp [contBs]
  | cons v vs ih => simp [contBs, ih]

/-- the empty heap of a call that is given content alone -/
def bare : AHeap := { get := fun _ => none, next := 0 }

/-- A call over a heap of its own, of content alone. -/
theorem run_cont {f : FuncId} {fn : Func} {body : Code} (hf : C.P.funcs[f]? = some fn) (hb : fn.body = some body) (hs : C.summ f = none) (hfoc : C.foc f = true) (args : List AVal) (hc : contBs args = true) (h : AHeap) (hd : C.dfr f = false := by rfl) :
    run C f args h = match xbody C fn body args bare with
      | some (r, h1) => (normRes (fun _ => false) h1 depth r).map fun r' => (r', h)
      | none => none := by
  rw [run_apart hf hb hs hfoc args h hd, refsL_cont args hc]
  simp only [List.eraseDups_nil]
  rw [show norms (fun i => ([] : List Nat).contains i) AHeap.empty depth args = some args from normL_cont _ _ _ hc]
  simp only [focus, putAll, List.foldlM_nil, Option.pure_def, topId]
  change (match xbody C fn body args bare with | some (r, h1) => home [] depth h h1 r | none => none) = _
  cases xbody C fn body args bare with
  | none => rfl
  | some q =>
    obtain ⟨r, h1⟩ := q
    simp only [home, putAll, List.foldlM_nil, Option.pure_def]
    rw [show (fun i => ([] : List Nat).contains i) = fun _ => false from funext fun i => rfl]
    cases normRes (fun _ => false) h1 depth r <;> rfl

theorem normRes_cont (keep : Nat → Bool) (h : AHeap) (d : Nat) (v : AVal) (hc : contB v = true) : normRes keep h d (.ret v) = some (.ret v) := by
  simp only [normRes, norm, normW_cont _ _ v hc, Option.map_some]

/-! ### loops -/
/-- A loop, by an invariant and a measure: each round goes on to less, or leaves. -/
theorem loop_rule {c : Code} {s : ASt} (I : Nat → ASt → Prop) (Q : AExit → ASt → Prop)
    (hstep : ∀ n s, I n s → ∃ x s', ex C c s = some (x, s') ∧ ((x = .normal ∧ ∃ m, m < n ∧ I m s') ∨ (x ≠ .normal ∧ Q x s'))) :
    ∀ n s, I n s → ∃ x s', ex C (.loop c) s = some (x, s') ∧ x ≠ .normal ∧ Q x s' := by
  intro n
  induction n using Nat.strongRecOn with
  | _ n ih =>
    intro s hI
    obtain ⟨x, s1, he, hor⟩ := hstep n s hI
    rcases hor with ⟨rfl, m, hm, hI'⟩ | ⟨hx, hQ⟩
    · obtain ⟨x, s2, h2, h3⟩ := ih m hm s1 hI'
      exact ⟨x, s2, by rw [ex_loop, he]; exact h2, h3⟩
    · refine ⟨x, s1, ?_, hx, hQ⟩
      rw [ex_loop, he]
      cases x <;> first | rfl | exact absurd rfl hx
end
end Go.Am
