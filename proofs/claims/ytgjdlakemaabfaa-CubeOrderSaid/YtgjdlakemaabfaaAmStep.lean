/-
  THE ABSTRACT MACHINE, step by step: the equations in a form in which each step waits for the one ahead of it.
-/
import Derived.Test.YtgjdlakemaabfaaAmRun
set_option linter.unusedVariables false
set_option linter.unusedSimpArgs false
namespace Go.Am
open Go

section
variable {C : Cfg}
noncomputable def callK (C : Cfg) (ops : Array Oper) (dst : Option Tmp) (s : ASt) (rest : List Oper) : Option (ARes × AHeap) → Option (AExit × ASt)
  | none => none
  | some (.ret v, h') => xops C ops rest { tmps := put s.tmps dst v, h := h' }
  | some (.pan v, h') => some (.pan v, { s with h := h' })
noncomputable def stepK (C : Cfg) (ops : Array Oper) (dst : Option Tmp) (s : ASt) (rest : List Oper) : Option AOut → Option (AExit × ASt)
  | none => none
  | some (.val v h') => xops C ops rest { tmps := put s.tmps dst v, h := h' }
  | some (.pan v) => some (.pan v, s)
  | some (.call f args) => callK C ops dst s rest (run C f args s.h)
noncomputable def wantK (C : Cfg) (ops : Array Oper) (o : Oper) (s : ASt) (rest : List Oper) : Option Bool → Option (AExit × ASt)
  | none => none
  | some false => xops C ops rest { s with tmps := put s.tmps o.dst (.tup []) }
  | some true => stepK C ops o.dst s rest (aoper C (evalO C s.tmps) s.h o)
noncomputable def seqK (C : Cfg) (b : Code) : Option (AExit × ASt) → Option (AExit × ASt)
  | some (.normal, s') => ex C b s'
  | r => r
noncomputable def condK (C : Cfg) (a b : Code) (s : ASt) : AVal → Option (AExit × ASt)
  | .bool true => ex C a s
  | .bool false => ex C b s
  | _ => none
def blockK (id : Nat) : Option (AExit × ASt) → Option (AExit × ASt)
  | some (.exit j, s') => if j = id then some (.normal, s') else some (.exit j, s')
  | r => r
noncomputable def loopK (C : Cfg) (c : Code) : Option (AExit × ASt) → Option (AExit × ASt)
  | some (.normal, s') => ex C (.loop c) s'
  | r => r

theorem e_seq (a b : Code) (s : ASt) : ex C (.seq a b) s = seqK C b (ex C a s) := by
  rw [ex_seq]; unfold seqK
  cases ex C a s with
  | none => rfl
  | some q => obtain ⟨x, s1⟩ := q; cases x <;> rfl
theorem e_cond (c : Operand) (a b : Code) (s : ASt) : ex C (.cond c a b) s = condK C a b s (evalO C s.tmps c) := by
  rw [ex_cond]; unfold condK
  cases evalO C s.tmps c <;> rfl
theorem e_block (id : Nat) (a : Code) (s : ASt) : ex C (.block id a) s = blockK id (ex C a s) := by
  rw [ex_block]; unfold blockK
  cases ex C a s with
  | none => rfl
  | some q => obtain ⟨x, s1⟩ := q; cases x <;> rfl
theorem e_loop (a : Code) (s : ASt) : ex C (.loop a) s = loopK C a (ex C a s) := by
  rw [ex_loop]; unfold loopK
  cases ex C a s with
  | none => rfl
  | some q => obtain ⟨x, s1⟩ := q; cases x <;> rfl
theorem e_region (id : Nat) (ops : Array Oper) (s : ASt) : ex C (.region id ops false) s = xops C ops ops.toList s := rfl
theorem o_cons (ops : Array Oper) (o : Oper) (rest : List Oper) (s : ASt) : xops C ops (o :: rest) s = wantK C ops o s rest (awanted ops s.tmps o) := by
  rw [xops_cons]
  unfold wantK
  cases awanted ops s.tmps o with
  | none => rfl
  | some b =>
    cases b with
    | false => rfl
    | true =>
      simp only
      unfold stepK
      cases aoper C (evalO C s.tmps) s.h o with
      | none => rfl
      | some out =>
        cases out with
        | call f args =>
          simp only; unfold callK
          cases run C f args s.h with
          | none => rfl
          | some q => obtain ⟨x, h'⟩ := q; cases x <;> rfl
        | _ => rfl
theorem k_want_none (ops : Array Oper) (o : Oper) (s : ASt) (rest : List Oper) : wantK C ops o s rest (some true) = stepK C ops o.dst s rest (aoper C (evalO C s.tmps) s.h o) := rfl
theorem k_want_false (ops : Array Oper) (o : Oper) (s : ASt) (rest : List Oper) : wantK C ops o s rest (some false) = xops C ops rest { s with tmps := put s.tmps o.dst (.tup []) } := rfl
theorem k_val (ops : Array Oper) (dst : Option Tmp) (s : ASt) (rest : List Oper) (v : AVal) (h' : AHeap) : stepK C ops dst s rest (some (.val v h')) = xops C ops rest { tmps := put s.tmps dst v, h := h' } := rfl
theorem k_pan (ops : Array Oper) (dst : Option Tmp) (s : ASt) (rest : List Oper) (v : AVal) : stepK C ops dst s rest (some (.pan v)) = some (.pan v, s) := rfl
theorem k_call (ops : Array Oper) (dst : Option Tmp) (s : ASt) (rest : List Oper) (f : FuncId) (args : List AVal) : stepK C ops dst s rest (some (.call f args)) = callK C ops dst s rest (run C f args s.h) := rfl
theorem k_ret (ops : Array Oper) (dst : Option Tmp) (s : ASt) (rest : List Oper) (v : AVal) (h' : AHeap) : callK C ops dst s rest (some (.ret v, h')) = xops C ops rest { tmps := put s.tmps dst v, h := h' } := rfl
theorem k_seq (b : Code) (s : ASt) : seqK C b (some (.normal, s)) = ex C b s := rfl
theorem k_seq_exit (b : Code) (j : Nat) (s : ASt) : seqK C b (some (.exit j, s)) = some (.exit j, s) := rfl
theorem k_seq_ret (b : Code) (s : ASt) : seqK C b (some (.ret, s)) = some (.ret, s) := rfl
theorem k_true (a b : Code) (s : ASt) : condK C a b s (.bool true) = ex C a s := rfl
theorem k_false (a b : Code) (s : ASt) : condK C a b s (.bool false) = ex C b s := rfl
theorem k_block (id : Nat) (s : ASt) : blockK id (some (.normal, s)) = some (.normal, s) := rfl
theorem k_block_exit (id j : Nat) (s : ASt) : blockK id (some (.exit j, s)) = if j = id then some (.normal, s) else some (.exit j, s) := rfl
theorem k_block_ret (id : Nat) (s : ASt) : blockK id (some (.ret, s)) = some (.ret, s) := rfl
theorem k_loop (c : Code) (s : ASt) : loopK C c (some (.normal, s)) = ex C (.loop c) s := rfl
theorem k_loop_exit (c : Code) (j : Nat) (s : ASt) : loopK C c (some (.exit j, s)) = some (.exit j, s) := rfl
theorem k_loop_ret (c : Code) (s : ASt) : loopK C c (some (.ret, s)) = some (.ret, s) := rfl
end

/-! ### regions that draw their order -/
section
variable {C : Cfg}
noncomputable def xga (C : Cfg) (ops : Array Oper) (acc : List Did) (l : List Oper) (s : ASt) : Option (List Did × ASt) := (xgo C ops l s).map fun r => (acc ++ r.1, r.2)
noncomputable def gcallK (C : Cfg) (ops : Array Oper) (acc : List Did) (c : Option (List Nat)) (dst : Option Tmp) (s : ASt) (rest : List Oper) : Option (ARes × AHeap) → Option (List Did × ASt)
  | some (.ret v, h') => xga C ops (acc ++ [⟨c, s.h, h'⟩]) rest { tmps := put s.tmps dst v, h := h' }
  | _ => none
noncomputable def gstepK (C : Cfg) (ops : Array Oper) (acc : List Did) (o : Oper) (s : ASt) (rest : List Oper) : Option AOut → Option (List Did × ASt)
  | some (.val v h') => xga C ops (acc ++ [⟨areads (evalO C s.tmps) o, s.h, h'⟩]) rest { tmps := put s.tmps o.dst v, h := h' }
  | some (.call f args) => gcallK C ops acc (if apure C f args then some [] else none) o.dst s rest (run C f args s.h)
  | _ => none
noncomputable def gwantK (C : Cfg) (ops : Array Oper) (acc : List Did) (o : Oper) (s : ASt) (rest : List Oper) : Option Bool → Option (List Did × ASt)
  | none => none
  | some false => xga C ops (acc ++ [⟨some [], s.h, s.h⟩]) rest { s with tmps := put s.tmps o.dst (.tup []) }
  | some true => gstepK C ops acc o s rest (aoper C (evalO C s.tmps) s.h o)
def drawK (ops : Array Oper) : Option (List Did × ASt) → Option (AExit × ASt)
  | some (cs, s') => if pairsOk ops (ancs ops.toList) cs && backOk ops then some (.normal, s') else none
  | none => none

theorem e_draw (id : Nat) (ops : Array Oper) (s : ASt) : ex C (.region id ops true) s = drawK ops (xga C ops [] ops.toList s) := by
  rw [ex_draw]; unfold drawK xga
  cases xgo C ops ops.toList s with
  | none => rfl
  | some q => rfl
theorem g_nil (ops : Array Oper) (acc : List Did) (s : ASt) : xga C ops acc [] s = some (acc, s) := by
  unfold xga; rw [xgo_nil]; simp
theorem xga_map (ops : Array Oper) (acc : List Did) (d : Did) (rest : List Oper) (s : ASt) : ((xgo C ops rest s).map fun r => (d :: r.1, r.2)).map (fun r => (acc ++ r.1, r.2)) = xga C ops (acc ++ [d]) rest s := by
  unfold xga
  cases xgo C ops rest s with
  | none => rfl
  | some q => simp
theorem g_cons (ops : Array Oper) (acc : List Did) (o : Oper) (rest : List Oper) (s : ASt) : xga C ops acc (o :: rest) s = gwantK C ops acc o s rest (awanted ops s.tmps o) := by
  rw [show xga C ops acc (o :: rest) s = (xgo C ops (o :: rest) s).map fun r => (acc ++ r.1, r.2) from rfl, xgo_cons]
  unfold gwantK
  cases awanted ops s.tmps o with
  | none => rfl
  | some b =>
    cases b with
    | false => exact xga_map _ _ _ _ _
    | true =>
      simp only
      unfold gstepK
      cases aoper C (evalO C s.tmps) s.h o with
      | none => rfl
      | some out =>
        cases out with
        | val v h' => exact xga_map _ _ _ _ _
        | pan v => rfl
        | call f args =>
          simp only; unfold gcallK
          cases run C f args s.h with
          | none => rfl
          | some q =>
            obtain ⟨x, h'⟩ := q
            cases x with
            | ret v => exact xga_map _ _ _ _ _
            | pan v => rfl
theorem g_want (ops : Array Oper) (acc : List Did) (o : Oper) (s : ASt) (rest : List Oper) : gwantK C ops acc o s rest (some true) = gstepK C ops acc o s rest (aoper C (evalO C s.tmps) s.h o) := rfl
theorem g_skip (ops : Array Oper) (acc : List Did) (o : Oper) (s : ASt) (rest : List Oper) : gwantK C ops acc o s rest (some false) = xga C ops (acc ++ [⟨some [], s.h, s.h⟩]) rest { s with tmps := put s.tmps o.dst (.tup []) } := rfl
theorem g_val (ops : Array Oper) (acc : List Did) (o : Oper) (s : ASt) (rest : List Oper) (v : AVal) (h' : AHeap) : gstepK C ops acc o s rest (some (.val v h')) = xga C ops (acc ++ [⟨areads (evalO C s.tmps) o, s.h, h'⟩]) rest { tmps := put s.tmps o.dst v, h := h' } := rfl
theorem g_call (ops : Array Oper) (acc : List Did) (o : Oper) (s : ASt) (rest : List Oper) (f : FuncId) (args : List AVal) : gstepK C ops acc o s rest (some (.call f args)) = gcallK C ops acc (if apure C f args then some [] else none) o.dst s rest (run C f args s.h) := rfl
theorem g_ret (ops : Array Oper) (acc : List Did) (c : Option (List Nat)) (dst : Option Tmp) (s : ASt) (rest : List Oper) (v : AVal) (h' : AHeap) : gcallK C ops acc c dst s rest (some (.ret v, h')) = xga C ops (acc ++ [⟨c, s.h, h'⟩]) rest { tmps := put s.tmps dst v, h := h' } := rfl
theorem k_draw (ops : Array Oper) (cs : List Did) (s' : ASt) (h : (pairsOk ops (ancs ops.toList) cs && backOk ops) = true) : drawK ops (some (cs, s')) = some (.normal, s') := if_pos h

/-- A call of a function without a body. -/
theorem run_ext {f : FuncId} {fn : Func} (hf : C.P.funcs[f]? = some fn) (hb : fn.body = none) (hs : C.summ f = none) (args : List AVal) (h : AHeap) : run C f args h = (aextern C fn.name h args).map fun r => (.ret r.1, r.2) := by
  unfold run
  rw [lim_succ (mono_run f args h)]
  simp only [arun, hs, hf, hb]
  exact lim_const _
end

/-! ### a function's body as a whole -/
def bodyOf (fn : Func) : Code := match fn.body with
  | some c => c
  | none => .skip
/-- a path into a piece of code -/
def Cat : List Bool → Code → Code
  | [], c => c
  | b :: bs, .seq x y => Cat bs (if b then y else x)
  | _ :: bs, .block _ x => Cat bs x
  | _ :: bs, .loop x => Cat bs x
  | b :: bs, .cond _ x y => Cat bs (if b then y else x)
  | _, c => c
/-- the slots at a body's start -/
def slots (fn : Func) (args : List AVal) : List AVal := args ++ List.replicate (fn.ntmps - args.length) .top
theorem slots_length {fn : Func} {args : List AVal} (h : args.length ≤ fn.ntmps) : (slots fn args).length = fn.ntmps := by
  simp [slots]; omega
theorem slots_get {fn : Func} {args : List AVal} {i : Nat} {v : AVal} (h : args[i]? = some v) : (slots fn args)[i]? = some v := by
  unfold slots
  have hlt := (List.getElem?_eq_some_iff.1 h).1
  rw [List.getElem?_append_left hlt]; exact h
theorem fn_run {C : Cfg} {f : FuncId} {fn : Func} (hf : C.P.funcs[f]? = some fn) (hb : fn.body = some (bodyOf fn)) (hs : C.summ f = none) (hfoc : C.foc f = false) {args : List AVal} {h h' : AHeap} {t : List AVal} {x : AExit} {vs : List AVal}
    (hx : x = .ret ∨ x = .normal) (he : ex C (bodyOf fn) ⟨slots fn args, h⟩ = some (x, ⟨t, h'⟩)) (hr : aresults C fn.results.toList ⟨t, h'⟩ = some vs) (hd : C.dfr f = false := by rfl) : run C f args h = some (.ret (packRes vs), h') := by
  rw [run_plain hf hb hs hfoc args h hd]
  unfold xbody
  rw [show args ++ List.replicate (fn.ntmps - args.length) AVal.top = slots fn args from rfl, he]
  rcases hx with rfl | rfl <;> simp only [endOf, hr, Option.map_some]
theorem fn_runC {C : Cfg} {f : FuncId} {fn : Func} (hf : C.P.funcs[f]? = some fn) (hb : fn.body = some (bodyOf fn)) (hs : C.summ f = none) (hfoc : C.foc f = true) {args : List AVal} (hc : contBs args = true) {h' : AHeap} {t : List AVal} {x : AExit} {vs : List AVal} {v : AVal}
    (hx : x = .ret ∨ x = .normal) (he : ex C (bodyOf fn) ⟨slots fn args, bare⟩ = some (x, ⟨t, h'⟩)) (hr : aresults C fn.results.toList ⟨t, h'⟩ = some vs) (hn : normRes (fun _ => false) h' depth (.ret (packRes vs)) = some (.ret v)) (h : AHeap) (hd : C.dfr f = false := by rfl) : run C f args h = some (.ret v, h) := by
  rw [run_cont hf hb hs hfoc _ hc h hd]
  unfold xbody
  rw [show args ++ List.replicate (fn.ntmps - args.length) AVal.top = slots fn args from rfl, he]
  rcases hx with rfl | rfl <;> simp only [endOf, hr, Option.map_some, hn]

/-! ### numbers -/
theorem add_i (C : Cfg) (t : TypeId) (xo yo : Operand) (h : AHeap) (k : IntKind) (a b : Int) : abin C .add t xo yo h (.int k a) (.int k b) = some (.int k (k.wrap (a + b))) := by simp [abin]
theorem sub_i (C : Cfg) (t : TypeId) (xo yo : Operand) (h : AHeap) (k : IntKind) (a b : Int) : abin C .sub t xo yo h (.int k a) (.int k b) = some (.int k (k.wrap (a - b))) := by simp [abin]
theorem mul_i (C : Cfg) (t : TypeId) (xo yo : Operand) (h : AHeap) (k : IntKind) (a b : Int) : abin C .mul t xo yo h (.int k a) (.int k b) = some (.int k (k.wrap (a * b))) := by simp [abin]
theorem eql_i (C : Cfg) (t : TypeId) (xo yo : Operand) (h : AHeap) (k : IntKind) (a b : Int) : abin C .eql t xo yo h (.int k a) (.int k b) = some (.bool (a == b)) := by simp [abin]
theorem neq_i (C : Cfg) (t : TypeId) (xo yo : Operand) (h : AHeap) (k : IntKind) (a b : Int) : abin C .neq t xo yo h (.int k a) (.int k b) = some (.bool (a != b)) := by simp [abin]
theorem lss_i (C : Cfg) (t : TypeId) (xo yo : Operand) (h : AHeap) (k : IntKind) (a b : Int) : abin C .lss t xo yo h (.int k a) (.int k b) = some (.bool (decide (a < b))) := by simp [abin]
theorem leq_i (C : Cfg) (t : TypeId) (xo yo : Operand) (h : AHeap) (k : IntKind) (a b : Int) : abin C .leq t xo yo h (.int k a) (.int k b) = some (.bool (decide (a ≤ b))) := by simp [abin]
theorem gtr_i (C : Cfg) (t : TypeId) (xo yo : Operand) (h : AHeap) (k : IntKind) (a b : Int) : abin C .gtr t xo yo h (.int k a) (.int k b) = some (.bool (decide (a > b))) := by simp [abin]
theorem geq_i (C : Cfg) (t : TypeId) (xo yo : Operand) (h : AHeap) (k : IntKind) (a b : Int) : abin C .geq t xo yo h (.int k a) (.int k b) = some (.bool (decide (a ≥ b))) := by simp [abin]
theorem wrap64 {x : Int} (h1 : -9223372036854775808 ≤ x) (h2 : x < 9223372036854775808) : IntKind.i64.wrap x = x := by
  unfold IntKind.wrap
  simp only [show IntKind.i64.bits = 64 from rfl, show IntKind.i64.signed = true from rfl, Bool.true_and, decide_eq_true_eq]
  rw [show (2 ^ 64 : Int) = 18446744073709551616 from rfl, show (2 ^ (64 - 1) : Int) = 9223372036854775808 from rfl]
  split <;> omega
end Go.Am
