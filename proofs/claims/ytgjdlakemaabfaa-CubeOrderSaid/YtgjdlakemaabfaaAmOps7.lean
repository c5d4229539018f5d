/-
  THE ABSTRACT MACHINE: one operation, whatever it is.
-/
import Derived.Test.YtgjdlakemaabfaaAmOps6
set_option linter.unusedVariables false
set_option linter.unusedSimpArgs false
namespace Go.Am
open Go

section
variable {g : G} {B : Nat} {h : AHeap} {C : Cfg} {ev : Operand → AVal} {ρ : Operand → Value}

theorem OkOp.plain (I : Inv B h g) {v : AVal} {v' : Value} (hv : VRel g.ι g.μ v v') : OkOp B h g (.ok (.value v') g.w) v h := ⟨v', g, _, rfl, .inl rfl, I, Ext.refl h g, hv⟩

theorem resolve_value {f : Operand} {args : Array Operand} {ats : Array TypeId} {ty : TypeId} {fn : FuncId} {first cap : Array Value} (hf : ρ f = .func (.func fn) first cap) (w : World) :
    (do let d ← resolve ρ { callee := .value f, args, argTypes := ats } ty; invoke d.target d.args : Sem Next).run C.P w = (callFunc fn (first ++ args.map ρ ++ cap)).run C.P w := by
  simp [resolve, hf, Deferred.ofValue, invoke]

/-- Which answers an operation may give. -/
theorem oper_only {o : Oper} : (∀ f args, aoper C ev h o = some (.call f args) → ∃ c, o.op = .call c) ∧ (∀ v, aoper C ev h o = some (.pan v) → ∃ x, o.op = .panic x) := by
  constructor
  · intro f args hl
    unfold aoper at hl
    split at hl
    all_goals try (simp only [Option.bind_eq_bind, Option.bind_eq_some_iff, Option.some.injEq, reduceCtorEq, and_false, exists_false] at hl; done)
    all_goals try (split at hl <;> first | (simp only [Option.some.injEq, reduceCtorEq] at hl; done) | (cases hl; done))
    all_goals try (cases hl; done)
    all_goals try (rename_i ho; exact ⟨_, ho⟩)
    all_goals (exfalso; revert hl; repeat' split)
    all_goals first
      | (simp; done)
      | (intro hx; simp only [Option.bind_eq_bind, Option.bind_eq_some_iff, Option.some.injEq, reduceCtorEq, and_false, exists_false] at hx; done)
      | (intro hx; simp only [Option.bind_eq_bind, Option.bind_eq_some_iff] at hx; obtain ⟨_, _, _, _, hx⟩ := hx; split at hx <;> simp at hx; done)
      | (intro hx; simp only [acallOp] at hx; split at hx <;> first | (simp at hx; done) | (split at hx <;> simp at hx))
  · intro v hl
    unfold aoper at hl
    split at hl
    all_goals try (simp only [Option.bind_eq_bind, Option.bind_eq_some_iff, Option.some.injEq, reduceCtorEq, and_false, exists_false] at hl; done)
    all_goals try (split at hl <;> first | (simp only [Option.some.injEq, reduceCtorEq] at hl; done) | (cases hl; done))
    all_goals try (cases hl; done)
    all_goals try (rename_i ho; exact ⟨_, ho⟩)
    all_goals (exfalso; revert hl; repeat' split)
    all_goals first
      | (simp; done)
      | (intro hx; simp only [Option.bind_eq_bind, Option.bind_eq_some_iff, Option.some.injEq, reduceCtorEq, and_false, exists_false] at hx; done)
      | (intro hx; simp only [Option.bind_eq_bind, Option.bind_eq_some_iff] at hx; obtain ⟨_, _, _, _, hx⟩ := hx; split at hx <;> simp at hx; done)
      | (intro hx; simp only [acallOp] at hx; split at hx <;> first | (simp at hx; done) | (split at hx <;> simp at hx))

theorem oper_call (hev : ∀ x, VRel g.ι g.μ (ev x) (ρ x)) {o : Oper} {f : FuncId} {args : List AVal} (hl : aoper C ev h o = some (.call f args)) :
    ∃ args', (∀ w, (execOp ρ o).run C.P w = (callFunc f args').run C.P w) ∧ VsRel g.ι g.μ args args'.toList := by
  obtain ⟨c, ho⟩ := oper_only.1 _ _ hl
  unfold aoper at hl
  rw [ho] at hl
  simp only [acallOp] at hl
  obtain ⟨callee, cargs, cts⟩ := c
  cases callee with
  | builtin b => simp at hl
  | invoke _ _ => simp at hl
  | value fo =>
    simp only at hl
    have hf := hev fo
    revert hl
    generalize ev fo = fv at hf
    intro hl
    split at hl
    case h_2 => cases hl
    rename_i g' first cap
    simp only [Option.some.injEq, AOut.call.injEq] at hl
    obtain ⟨rfl, rfl⟩ := hl
    cases hfv : ρ fo with
    | func f2 first' cap' =>
      rw [hfv] at hf
      cases hf with | fn h1 h2 =>
      refine ⟨first' ++ cargs.map ρ ++ cap', fun w => ?_, ?_⟩
      · have := resolve_value (C := C) (args := cargs) (ats := cts) (ty := o.type) hfv w
        unfold execOp; rw [ho]; exact this
      · rw [Array.toList_append, Array.toList_append]
        exact (h1.append (args_rel hev cargs)).append h2
    | _ => rw [hfv] at hf; cases hf

theorem oper_pan (hev : ∀ x, VRel g.ι g.μ (ev x) (ρ x)) {o : Oper} {v : AVal} (hl : aoper C ev h o = some (.pan v)) :
    ∃ v', (∀ w, (execOp ρ o).run C.P w = .halt (.panic v') w) ∧ VRel g.ι g.μ v v' := by
  obtain ⟨x, ho⟩ := oper_only.2 _ hl
  unfold aoper at hl
  rw [ho] at hl
  simp only at hl
  have hx := hev x
  revert hl
  generalize ev x = xv at hx
  intro hl
  split at hl
  case h_2 => cases hl
  simp only [Option.some.injEq, AOut.pan.injEq] at hl; subst hl
  cases hxv : ρ x with
  | iface t u =>
    rw [hxv] at hx
    refine ⟨.iface t u, fun w => ?_, hx⟩
    unfold execOp; rw [ho]; simp only [hxv, Instr.panic, Sem.run_bind, run_goPanic, Result.andThen_halt]
  | _ => rw [hxv] at hx; cases hx

theorem oper_val (I : Inv B h g) (hev : ∀ x, VRel g.ι g.μ (ev x) (ρ x)) {o : Oper} {v : AVal} {h' : AHeap} (hl : aoper C ev h o = some (.val v h')) : OkOp B h g ((execOp ρ o).run C.P g.w) v h' := by
  unfold aoper at hl
  unfold execOp
  split at hl <;> rename_i ho <;> simp only [ho]
  case h_1 x => simp only [Option.some.injEq, AOut.val.injEq] at hl; obtain ⟨rfl, rfl⟩ := hl; exact OkOp.plain I (hev x)
  case h_2 x => simp only [Option.some.injEq, AOut.val.injEq] at hl; obtain ⟨rfl, rfl⟩ := hl; exact OkOp.plain I (hev x)
  case h_3 c a b =>
    have hc := hev c
    revert hl; generalize ev c = cv at hc; intro hl
    split at hl
    case h_2 => cases hl
    rename_i t
    simp only [Option.some.injEq, AOut.val.injEq] at hl; obtain ⟨rfl, rfl⟩ := hl
    have hc' : ρ c = .bool t := by generalize ρ c = cv' at hc; cases hc; rfl
    simp only [hc', asBool, Sem.run_bind, Sem.run_pure, Result.andThen_ok]
    cases t
    · exact OkOp.plain I (hev b)
    · exact OkOp.plain I (hev a)
  case h_4 e =>
    simp only [Option.bind_eq_bind, Option.bind_eq_some_iff, Option.some.injEq, AOut.val.injEq] at hl
    obtain ⟨z, hz, r, hr, rfl, rfl⟩ := hl
    exact OkOp.ofV (alloc_ok I hz hr)
  case h_5 e x =>
    simp only [Option.bind_eq_bind, Option.bind_eq_some_iff, Option.some.injEq, AOut.val.injEq] at hl
    obtain ⟨r, hr, rfl, rfl⟩ := hl
    exact OkOp.ofV (box_ok I (hev x) hr)
  case h_6 t parts =>
    simp only [Option.bind_eq_bind, Option.bind_eq_some_iff, Option.some.injEq, AOut.val.injEq] at hl
    obtain ⟨r, hr, rfl, rfl⟩ := hl
    exact OkOp.ofV (OkV.ofP I (build_ok (parts_rel hev parts) hr))
  case h_7 t len parts =>
    simp only [Option.bind_eq_bind, Option.bind_eq_some_iff] at hl
    obtain ⟨r, hr, hl⟩ := hl
    split at hl
    · simp only [Option.some.injEq, AOut.val.injEq] at hl; obtain ⟨rfl, rfl⟩ := hl
      exact OkOp.ofV (buildSlice_own I (parts_rel hev parts) hr)
    · simp only [Option.some.injEq, AOut.val.injEq] at hl; obtain ⟨rfl, rfl⟩ := hl
      exact OkOp.ofV (buildSlice_lst I (parts_rel hev parts) hr)
  case h_8 t a =>
    simp only [Option.bind_eq_bind, Option.bind_eq_some_iff, Option.some.injEq, AOut.val.injEq] at hl
    obtain ⟨r, hr, rfl, rfl⟩ := hl
    exact OkOp.ofV (OkV.ofP I (load_ok I (hev a) hr))
  case h_9 t a x =>
    simp only [Option.bind_eq_bind, Option.bind_eq_some_iff, Option.some.injEq, AOut.val.injEq] at hl
    obtain ⟨r, hr, rfl, rfl⟩ := hl
    exact OkOp.ofU (store_ok I (hev a) (hev x) hr)
  case h_10 x =>
    have hx := hev x
    revert hl; generalize ev x = xv at hx; intro hl
    generalize ρ x = xv' at hx ⊢
    split at hl
    · cases hl
    · cases hl
    · cases hl
    · cases hl
    · simp only [Option.some.injEq, AOut.val.injEq] at hl; obtain ⟨rfl, rfl⟩ := hl
      cases hx with | fn h1 h2 => exact OkOp.plain I (.fn h1 h2)
    · cases hl
    · rename_i n1 n2 n3 n4 n6 n7
      simp only [Option.some.injEq, AOut.val.injEq] at hl; obtain ⟨rfl, rfl⟩ := hl
      cases hx <;> first
        | exact absurd rfl n1 | exact absurd rfl n2 | exact absurd rfl n3 | exact absurd rfl n4 | exact absurd rfl (n7 _ _ _)
        | exact OkOp.plain I (by first | assumption | (constructor <;> assumption) | constructor)
  case h_11 op t x y yt =>
    simp only [Option.bind_eq_bind, Option.bind_eq_some_iff, Option.some.injEq, AOut.val.injEq] at hl
    obtain ⟨r, hr, rfl, rfl⟩ := hl
    exact OkOp.ofV (OkV.ofP I (bin_ok rfl I (hev x) (hev y) hr))
  case h_12 op t x =>
    simp only [Option.bind_eq_bind, Option.bind_eq_some_iff, Option.some.injEq, AOut.val.injEq] at hl
    obtain ⟨r, hr, rfl, rfl⟩ := hl
    exact OkOp.ofV (OkV.ofP I (un_ok rfl (hev x) hr))
  case h_13 s d x =>
    simp only [Option.bind_eq_bind, Option.bind_eq_some_iff, Option.some.injEq, AOut.val.injEq] at hl
    obtain ⟨r, hr, rfl, rfl⟩ := hl
    exact OkOp.ofV (convert_ok I (hev x) hr)
  case h_14 t x =>
    split at hl
    · cases hl
    · cases hl
    · rename_i d hni hu
      simp only [Option.some.injEq, AOut.val.injEq] at hl; obtain ⟨rfl, rfl⟩ := hl
      refine OkOp.ofV (OkV.ofP I ⟨.iface t (ρ x), ?_, .iface (hev x)⟩)
      simp only [Instr.makeInterface, Sem.run_bind, run_underlying hu, Result.andThen_ok]
      cases d <;> first | rfl | exact absurd rfl (hni _)
  case h_15 fn first cap =>
    simp only [Option.some.injEq, AOut.val.injEq] at hl; obtain ⟨rfl, rfl⟩ := hl
    exact OkOp.ofV (OkV.ofP I ⟨.func fn (first.map ρ) (cap.map ρ), rfl, .fn (args_rel hev first) (args_rel hev cap)⟩)
  case h_16 t =>
    simp only [Option.some.injEq, AOut.val.injEq] at hl; obtain ⟨rfl, rfl⟩ := hl
    have T := I.fresh (w' := { g.w with heap := g.w.heap.push (.map #[] 0) }) (o := .map #[] 0) ⟨rfl, rfl, rfl, rfl⟩ (.map [] 0) (.map g.w.heap.size) rfl ⟨g.w.heap.size, #[], by simp [addMu], I.base, by simp, .nil⟩
    refine OkOp.ofV ⟨.map (some g.w.heap.size), _, ?_, T.1, T.2, .map (by simp [addMu])⟩
    simp [Instr.makeMap]
  case h_17 t r =>
    split at hl
    case h_2 => cases hl
    rename_i k n k1 e1 hu hr
    simp only [Option.some.injEq, AOut.val.injEq] at hl; obtain ⟨rfl, rfl⟩ := hl
    have hr' := hev r
    rw [hr] at hr'
    have T := I.fresh (w' := { g.w with heap := g.w.heap.push (.map #[] 0) }) (o := .map #[] 0) ⟨rfl, rfl, rfl, rfl⟩ (.map [] 0) (.map g.w.heap.size) rfl ⟨g.w.heap.size, #[], by simp [addMu], I.base, by simp, .nil⟩
    refine OkOp.ofV ⟨.map (some g.w.heap.size), _, ?_, T.1, T.2, .map (by simp [addMu])⟩
    have hrv : ρ r = .int k1 e1 := by generalize ρ r = rv at hr'; cases hr'; rfl
    simp [Instr.makeMap, run_underlying hu, asInt, asIntOf, hrv]
  case h_18 t l c =>
    split at hl
    case h_2 => cases hl
    rename_i e k1 n k2 m hu hn hm
    simp only [Option.bind_eq_bind, Option.bind_eq_some_iff] at hl
    obtain ⟨i, hi, z, hz, hl⟩ := hl
    split at hl
    case isFalse => cases hl
    rename_i hc
    obtain ⟨h0, h1, h2, h3, h4, h5⟩ := hc
    obtain ⟨iz, z', hiz, hz', rfl⟩ := zeroA_some hz
    rw [hi] at hiz; cases hiz
    have hln := hev l
    have hcm := hev c
    rw [hn] at hln
    rw [hm] at hcm
    generalize ρ l = lv at hln ⊢
    generalize ρ c = cv at hcm ⊢
    cases hln; cases hcm
    have M := makeSlice_ok (k := k1) (k' := k2) I hu hi hz' h4 h0 h1 h2 h3 h5
    split at hl
    · rename_i hn0
      simp only [Option.some.injEq, AOut.val.injEq] at hl; obtain ⟨rfl, rfl⟩ := hl
      exact OkOp.ofV (M.1 hn0.1)
    · simp only [Option.some.injEq, AOut.val.injEq] at hl; obtain ⟨rfl, rfl⟩ := hl
      exact OkOp.ofV M.2
  case h_19 t x lo hi mx =>
    simp only [Option.bind_eq_bind, Option.bind_eq_some_iff, Option.some.injEq, AOut.val.injEq] at hl
    obtain ⟨r, hr, rfl, rfl⟩ := hl
    exact OkOp.ofV (OkV.ofP I (slice_ok I (hev x) (o_rel hev lo) (o_rel hev hi) (o_rel hev mx) hr))
  case h_20 t x f =>
    simp only [Option.bind_eq_bind, Option.bind_eq_some_iff, Option.some.injEq, AOut.val.injEq] at hl
    obtain ⟨r, hr, rfl, rfl⟩ := hl
    exact OkOp.ofV (OkV.ofP I (fieldAddr_ok (hev x) hr))
  case h_21 t x f =>
    simp only [Option.bind_eq_bind, Option.bind_eq_some_iff, Option.some.injEq, AOut.val.injEq] at hl
    obtain ⟨r, hr, rfl, rfl⟩ := hl
    exact OkOp.ofV (OkV.ofP I (field_ok (hev x) hr))
  case h_22 t x i =>
    simp only [Option.bind_eq_bind, Option.bind_eq_some_iff, Option.some.injEq, AOut.val.injEq] at hl
    obtain ⟨r, hr, rfl, rfl⟩ := hl
    exact OkOp.ofV (OkV.ofP I (indexAddr_ok I (hev x) (hev i) hr))
  case h_23 t x i =>
    simp only [Option.bind_eq_bind, Option.bind_eq_some_iff, Option.some.injEq, AOut.val.injEq] at hl
    obtain ⟨r, hr, rfl, rfl⟩ := hl
    exact OkOp.ofV (OkV.ofP I (index_ok (hev x) (hev i) hr))
  case h_24 t x k ok =>
    simp only [Option.bind_eq_bind, Option.bind_eq_some_iff, Option.some.injEq, AOut.val.injEq] at hl
    obtain ⟨r, hr, rfl, rfl⟩ := hl
    exact OkOp.ofV (OkV.ofP I (lookup_ok I (hev x) (hev k) hr))
  case h_25 t m k x =>
    simp only [Option.bind_eq_bind, Option.bind_eq_some_iff, Option.some.injEq, AOut.val.injEq] at hl
    obtain ⟨r, hr, rfl, rfl⟩ := hl
    exact OkOp.ofU (mapUpdate_ok I (hev m) (hev k) (hev x) hr)
  case h_26 t m k x =>
    simp only [Option.bind_eq_bind, Option.bind_eq_some_iff, Option.some.injEq, AOut.val.injEq] at hl
    obtain ⟨r, hr, rfl, rfl⟩ := hl
    exact OkOp.ofU (mapUpdate_ok I (hev m) (hev k) (hev x) hr)
  case h_27 t i =>
    simp only [Option.bind_eq_bind, Option.bind_eq_some_iff, Option.some.injEq, AOut.val.injEq] at hl
    obtain ⟨r, hr, rfl, rfl⟩ := hl
    exact OkOp.ofV (OkV.ofP I (extract_ok (hev t) hr))
  case h_28 x xt asserted ok =>
    have hx := hev x
    revert hl; generalize ev x = xv at hx; intro hl
    generalize ρ x = xv' at hx ⊢
    split at hl
    · cases hl
    · cases hl
    · rename_i d t v hni hu
      cases hx with | @iface _ _ u hv =>
      refine OkOp.ofV ?_
      have hrun : ∀ w, (Instr.typeAssert (.iface t u) xt asserted ok).run C.P w = (if t = asserted then (pure (if ok then .tuple #[u, .bool true] else u) : Sem Value) else (if ok then (do pure (.tuple #[← zeroValue asserted, .bool false])) else runtimePanic (.typeAssertion (some xt) (some t) asserted ""))).run C.P w := fun w => by
        simp only [Instr.typeAssert, Sem.run_bind, run_underlying hu, Result.andThen_ok]
      rw [hrun]
      split at hl
      · rename_i ht
        simp only [Option.some.injEq, AOut.val.injEq] at hl; obtain ⟨rfl, rfl⟩ := hl
        rw [if_pos ht]
        cases ok
        · exact OkV.pure I hv
        · exact OkV.pure I (.tup (.cons hv (.cons (.bool true) .nil)))
      · rename_i ht
        rw [if_neg ht]
        split at hl
        · rename_i hok
          simp only [Option.bind_eq_bind, Option.bind_eq_some_iff, Option.some.injEq, AOut.val.injEq] at hl
          obtain ⟨z, hz, rfl, rfl⟩ := hl
          obtain ⟨i, z', hi, hz', rfl⟩ := zeroA_some hz
          rw [if_pos hok]
          exact OkV.ofP I ⟨.tuple #[z', .bool false], by simp only [Sem.run_bind, run_zeroValue hi hz', Result.andThen_ok, Sem.run_pure], .tup (.cons (ofV_rel _) (.cons (.bool false) .nil))⟩
        · cases hl
    · cases hl
  case h_29 c =>
    simp only [acallOp] at hl
    obtain ⟨callee, cargs, cts⟩ := c
    cases callee with
    | builtin b =>
      simp only [Option.map_eq_some_iff, AOut.val.injEq] at hl
      obtain ⟨r, hr, rfl, rfl⟩ := hl
      simp only [resolve, pure_bind, invoke]
      exact builtin_ok rfl I (args_rel hev cargs) hr
    | value fo =>
      simp only at hl
      split at hl <;> cases hl
    | invoke _ _ => cases hl
  case h_30 x =>
    split at hl <;> cases hl
  all_goals cases hl
end
end Go.Am
