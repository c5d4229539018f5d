/-
  THE ABSTRACT MACHINE: closed runs in pieces: calls over one block whose answers are known are looked up in a table.
-/
import Derived.Test.YtgjdlakemaabfaaAmHeap
import Derived.Test.YtgjdlakemaabfaaAmDraw
set_option linter.unusedVariables false
set_option linter.unusedSimpArgs false
set_option linter.unusedVariables false
set_option linter.unusedSimpArgs false
namespace Go.Am
open Go

/-- a call over one block: its arguments, the block ahead of it and behind it, its answer -/
structure Known where
  f : FuncId
  args : List AVal
  id : Nat
  inp : List AVal
  out : List AVal
  ret : AVal

def Known.Good (C : Cfg) (n : Nat) (e : Known) : Prop := ∀ h : AHeap, h.get e.id = some (.arr e.inp) → arun C n e.f e.args h = some (.ret e.ret, h.set e.id (some (.arr e.out)))

theorem Known.Good.up {C : Cfg} {n m : Nat} {e : Known} (hg : e.Good C n) (hm : n ≤ m) : e.Good C m := fun h hh => arun_mono hm _ _ _ _ (hg h hh)

def orc (C : Cfg) (n : Nat) (skip : FuncId → Bool) (tbl : List Known) : CallF := fun f args h =>
  if skip f then (match tbl.find? (fun e => decide (e.f = f) && eqAs args e.args) with
    | some e => match h.get e.id with
      | some (.arr cs) => if eqAs cs e.inp then some (.ret e.ret, h.set e.id (some (.arr e.out))) else none
      | _ => none
    | none => none)
  else arun C n f args h

theorem orc_le {C : Cfg} {n : Nat} {skip : FuncId → Bool} {tbl : List Known} (hg : ∀ e ∈ tbl, e.Good C n) : CallLe (orc C n skip tbl) (arun C n) := by
  intro f args h r hr
  unfold orc at hr
  split at hr
  · split at hr
    · rename_i e he
      have hm := List.mem_of_find?_eq_some he
      have hp := List.find?_some he
      simp only [Bool.and_eq_true, decide_eq_true_eq] at hp
      obtain ⟨rfl, ha⟩ := hp
      have ha := eqAs_ok _ _ ha
      subst ha
      split at hr
      · rename_i cs hc
        split at hr
        · rename_i hi
          have hi := eqAs_ok _ _ hi
          subst hi
          cases hr
          exact hg e hm h hc
        · cases hr
      · cases hr
    · cases hr
  · exact hr

def isD (e : Known) (id : Nat) : Option (ARes × AHeap) → Bool
  | some (r, h1) => (match normRes (fun i => [id].contains i) h1 depth r with
    | some (.ret v) => eqA v e.ret
    | _ => false) && (match arrAt (fun i => [id].contains i) h1 depth h1 id with
    | some cs => eqAs cs e.out
    | none => false)
  | none => false

def heapAt (id : Nat) (cs : List AVal) : AHeap := (⟨fun _ => none, topId [id]⟩ : AHeap).set id (some (.arr cs))

/-- A call's entry, by a closed run in which the calls within are looked up. -/
theorem good_of {C : Cfg} {e : Known} {n : Nat} {fn : Func} {body : Code} {skip : FuncId → Bool} {tbl : List Known} (hg : ∀ e ∈ tbl, e.Good C n)
    (hs : C.summ e.f = none) (hf : C.P.funcs[e.f]? = some fn) (hb : fn.body = some body) (hfoc : C.foc e.f = true)
    (hid : (refsL e.args).eraseDups = [e.id]) (ha : norms (fun i => [e.id].contains i) AHeap.empty depth e.args = some e.args) (hi : norms (fun i => [e.id].contains i) AHeap.empty depth e.inp = some e.inp)
    (hr : isD e e.id (abodyX C (orc C n skip tbl) n e.f fn body e.args (heapAt e.id e.inp)) = true) : e.Good C (n + 1) := by
  intro h hh
  have hfo : focus [e.id] depth h = some (heapAt e.id e.inp) := by
    simp only [focus, putAll, List.foldlM_cons, List.foldlM_nil, arrAt, hh, hi, Option.map_some, Option.bind_eq_bind, Option.bind_some]
    rfl
  rw [arun]
  simp only [hs, hf, hb, hfoc, if_true, hid, ha, hfo]
  cases hq : abodyX C (orc C n skip tbl) n e.f fn body e.args (heapAt e.id e.inp) with
  | none => rw [hq] at hr; cases hr
  | some q =>
    obtain ⟨r, h1⟩ := q
    rw [hq] at hr
    rw [abodyX_le (orc_le hg) (Nat.le_refl n) hq]
    simp only [isD, Bool.and_eq_true] at hr
    obtain ⟨hr1, hr2⟩ := hr
    have e1 : normRes (fun i => [e.id].contains i) h1 depth r = some (.ret e.ret) := by
      revert hr1
      cases hn : normRes (fun i => [e.id].contains i) h1 depth r with
      | none => simp
      | some x =>
        cases x with
        | ret v => intro hr1; rw [eqA_ok _ _ hr1]
        | pan v => simp
    have e2 : arrAt (fun i => [e.id].contains i) h1 depth h1 e.id = some e.out := by
      revert hr2
      cases hn : arrAt (fun i => [e.id].contains i) h1 depth h1 e.id with
      | none => simp
      | some x => intro hr2; rw [eqAs_ok _ _ hr2]
    simp only [home, e1, putAll, List.foldlM_cons, List.foldlM_nil, e2, Option.map_some, Option.bind_eq_bind, Option.bind_some, Option.pure_def]
end Go.Am
