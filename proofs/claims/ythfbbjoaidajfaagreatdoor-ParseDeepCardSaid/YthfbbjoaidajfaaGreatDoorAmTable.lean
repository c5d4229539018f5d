import Derived.Test.YthfbbjoaidajfaaGreatDoorAmLimit
import Derived.Test.YthfbbjoaidajfaaGreatDoorAmDraw
set_option linter.unusedVariables false
set_option linter.unusedSimpArgs false
set_option linter.unusedVariables false
set_option linter.unusedSimpArgs false
namespace Go.Am
open Go
structure Ans where
  f : FuncId
  args : List AVal
  ret : AVal
def Ans.At (C : Cfg) (n : Nat) (e : Ans) : Prop := ∀ h : AHeap, arun C n e.f e.args h = some (.ret e.ret, h)
def Ans.Good (C : Cfg) (e : Ans) : Prop := ∃ n, e.At C n
def AllGood (C : Cfg) (tbl : List Ans) : Prop := ∃ n, ∀ e ∈ tbl, e.At C n
theorem Ans.At.up {C : Cfg} {n m : Nat} {e : Ans} (h : e.At C n) (hm : n ≤ m) : e.At C m := fun hh => arun_mono hm _ _ _ _ (h hh)
theorem AllGood.nil {C : Cfg} : AllGood C [] := ⟨0, fun e he => by cases he⟩
theorem AllGood.cons {C : Cfg} {e : Ans} {tbl : List Ans} (h : e.Good C) (hs : AllGood C tbl) : AllGood C (e :: tbl) := by
  obtain ⟨n, hn⟩ := h
  obtain ⟨m, hm⟩ := hs
  refine ⟨max n m, fun e' he => ?_⟩
  rcases List.mem_cons.1 he with rfl | he
  · exact hn.up (Nat.le_max_left _ _)
  · exact (hm e' he).up (Nat.le_max_right _ _)
def lookT (f : FuncId) (args : List AVal) : List Ans → Option AVal
  | [] => none
  | e :: r => if decide (e.f = f) && eqAs e.args args then some e.ret else lookT f args r
theorem lookT_ok {f : FuncId} {args : List AVal} {tbl : List Ans} {v : AVal} (h : lookT f args tbl = some v) : ∃ e ∈ tbl, e.f = f ∧ e.args = args ∧ e.ret = v := by
  induction tbl with
  | nil => cases h
  | cons e r ih =>
    unfold lookT at h
    split at h
    · rename_i hc
      simp only [Bool.and_eq_true, decide_eq_true_eq] at hc
      exact ⟨e, by simp, hc.1, eqAs_ok _ _ hc.2, by simpa using h⟩
    · obtain ⟨e', he, h2⟩ := ih h
      exact ⟨e', by simp [he], h2⟩
def tstep (C : Cfg) (call : CallF) (n : Nat) : CallF := fun f args h =>
    match C.summ f with
    | some s => match norms (fun _ => false) AHeap.empty depth args with
      | some as => (s as).map fun v => (.ret v, h)
      | none => none
    | none =>
      match C.P.funcs[f]? with
      | none => none
      | some fn =>
        match fn.body with
        | none => (aextern C fn h args).map fun r => (.ret r.1, r.2)
        | some body =>
          if C.foc f then
            let ids := (refsL args).eraseDups
            match norms (fun i => ids.contains i) AHeap.empty depth args, focus ids depth h with
            | some as, some h0 =>
              match abodyX C call n f fn body as h0 with
              | some (r, h1) => home ids depth h h1 r
              | none => none
            | _, _ => none
          else abodyX C call n f fn body args h
theorem tstep_le {C : Cfg} {call call' : CallF} (hc : CallLe call call') {n n' : Nat} (hn : n ≤ n') : CallLe (tstep C call n) (tstep C call' n') := by
  intro f args h r hr
  unfold tstep at hr ⊢
  cases hs : C.summ f with
  | some s => simp only [hs] at hr ⊢; exact hr
  | none =>
    simp only [hs] at hr ⊢
    cases hf : C.P.funcs[f]? with
    | none => simp [hf] at hr
    | some fn =>
      simp only [hf] at hr ⊢
      cases hb : fn.body with
      | none => simp only [hb] at hr ⊢; exact hr
      | some body =>
        simp only [hb] at hr ⊢
        by_cases hfo : C.foc f = true
        · simp only [hfo, if_true] at hr ⊢
          split at hr
          · rename_i as h0 ha hh
            cases hbo : abodyX C call n f fn body as h0 with
            | none => rw [hbo] at hr; cases hr
            | some q => rw [hbo] at hr; rw [abodyX_le hc hn hbo]; exact hr
          · cases hr
        · simp only [hfo, if_false, Bool.false_eq_true] at hr ⊢
          exact abodyX_le hc hn hr
def trun (C : Cfg) (tbl : List Ans) : Nat → CallF
  | 0 => fun _ _ _ => none
  | n + 1 => fun f args h => match lookT f args tbl with
    | some v => some (.ret v, h)
    | none => tstep C (trun C tbl n) n f args h
theorem trun_le {C : Cfg} {tbl : List Ans} {N : Nat} (hg : ∀ e ∈ tbl, e.At C N) : ∀ n, CallLe (trun C tbl n) (arun C (N + n)) := by
  intro n
  induction n with
  | zero => intro f args h r hr; cases hr
  | succ n ih =>
    intro f args h r hr
    unfold trun at hr
    split at hr
    · rename_i v hv
      obtain ⟨e, he, rfl, rfl, rfl⟩ := lookT_ok hv
      cases hr
      exact ((hg e he).up (by omega)) h
    · exact tstep_le ih (Nat.le_add_left n N) f args h r hr
def retIs (v : AVal) : Option (ARes × AHeap) → Bool
  | some (.ret u, _) => eqA u v
  | _ => false
theorem retIs_ok {v : AVal} {q : Option (ARes × AHeap)} (h : retIs v q = true) : ∃ h', q = some (.ret v, h') := by
  unfold retIs at h
  split at h
  · rename_i u h'
    exact ⟨h', by rw [eqA_ok _ _ h]⟩
  · cases h
theorem Ans.good_of {C : Cfg} {tbl : List Ans} (hg : AllGood C tbl) {e : Ans} (m : Nat) (hp : apure C e.f e.args = true) (hr : retIs e.ret (trun C tbl m e.f e.args AHeap.empty) = true) : e.Good C := by
  obtain ⟨N, hN⟩ := hg
  obtain ⟨h', hq⟩ := retIs_ok hr
  exact ⟨N + m, fun h => (run_pure (N + m) _ _ _ _ _ hp (trun_le hN m _ _ _ _ hq)).2 h⟩
end Go.Am

