import Derived.Test.YthfbbjoaidajfaaGreatDoorAmDraw
import Derived.Below
import Derived.Lib.Bytealg
import Derived.Lib.MakeNoZero
set_option linter.unusedVariables false
set_option linter.unusedSimpArgs false
set_option linter.unusedSimpArgs false
namespace Go.Am
open Go Go.RowKit
def atomicNames : List String := ["sync/atomic.AddInt64", "sync/atomic.LoadInt64", "internal/abi.NoEscape", "internal/bytealg.CountString", "internal/bytealg.IndexByteString", "internal/bytealg.MakeNoZero"]
def namesOk (P : Program) : Bool :=
  P.funcs.all fun fn => !(fn.name == "runtime.NumGoroutine") && (fn.body.isSome || !atomicNames.contains fn.name || fn.origin == "")
theorem find_add {fn : Func} (h : fn.name = "sync/atomic.AddInt64") : Extern.find fn = some (Extern.Atomic.update (Op.intArith .add) .i64 true) := by
  unfold Extern.find
  rw [h]
  rfl
theorem find_load {fn : Func} (h : fn.name = "sync/atomic.LoadInt64") : Extern.find fn = some (Extern.Atomic.loadT (.int .i64)) := by
  unfold Extern.find
  rw [h]
  rfl
theorem next_add {fn : Func} (h : fn.name = "sync/atomic.AddInt64") (ho : fn.origin = "") : Extern.findNext fn = none := by
  unfold Extern.findNext
  rw [h, ho]
  rfl
theorem next_load {fn : Func} (h : fn.name = "sync/atomic.LoadInt64") (ho : fn.origin = "") : Extern.findNext fn = none := by
  unfold Extern.findNext
  rw [h, ho]
  rfl
theorem find_noEscape {fn : Func} (h : fn.name = "internal/abi.NoEscape") : Extern.find fn = some Extern.AbiNoEscape.same := by
  unfold Extern.find
  rw [h]
  rfl
theorem next_noEscape {fn : Func} (h : fn.name = "internal/abi.NoEscape") (ho : fn.origin = "") : Extern.findNext fn = none := by
  unfold Extern.findNext
  rw [h, ho]
  rfl
theorem find_count {fn : Func} (h : fn.name = "internal/bytealg.CountString") : Extern.find fn = some Extern.BytealgCount.count := by
  unfold Extern.find
  rw [h]
  rfl
theorem next_count {fn : Func} (h : fn.name = "internal/bytealg.CountString") (ho : fn.origin = "") : Extern.findNext fn = none := by
  unfold Extern.findNext
  rw [h, ho]
  rfl
theorem find_index {fn : Func} (h : fn.name = "internal/bytealg.IndexByteString") : Extern.find fn = some Extern.BytealgIndexByte.indexByte := by
  unfold Extern.find
  rw [h]
  rfl
theorem next_index {fn : Func} (h : fn.name = "internal/bytealg.IndexByteString") (ho : fn.origin = "") : Extern.findNext fn = none := by
  unfold Extern.findNext
  rw [h, ho]
  rfl
theorem find_noZero {fn : Func} (h : fn.name = "internal/bytealg.MakeNoZero") : Extern.find fn = some (Extern.BytealgMakeNoZero.makeNoZero fn.params fn.resultTypes) := by
  unfold Extern.find
  rw [h]
  rfl
theorem next_noZero {fn : Func} (h : fn.name = "internal/bytealg.MakeNoZero") (ho : fn.origin = "") : Extern.findNext fn = none := by
  unfold Extern.findNext
  rw [h, ho]
  rfl
theorem findByte_eq (c : UInt8) : ∀ (l : List UInt8) (k : Nat), findByte c l k = if Lib.indexByte l c = -1 then -1 else Lib.indexByte l c + k := by
  intro l
  induction l with
  | nil => intro k; rfl
  | cons b l ih =>
    intro k
    have hge := Lib.indexByte_ge l c
    unfold findByte Lib.indexByte
    by_cases hb : (b == c) = true
    · simp [hb]
    · simp only [hb, Bool.false_eq_true, if_false]
      rw [ih (k + 1)]
      by_cases hi : Lib.indexByte l c = -1
      · simp [hi]
      · have h2 : (Lib.indexByte l c == -1) = false := by simpa using hi
        simp only [h2, Bool.false_eq_true, if_false, hi]
        rw [if_neg (by omega)]
        omega
theorem namesOk_get {P : Program} (h : namesOk P = true) {f : FuncId} {fn : Func} (hf : P.funcs[f]? = some fn) :
    (fn.name == "runtime.NumGoroutine") = false ∧ (fn.body = none → fn.name ∈ atomicNames → fn.origin = "") := by
  unfold namesOk at h
  rw [Array.all_eq_true_iff_forall_mem] at h
  have := h fn (Array.mem_of_getElem? hf)
  simp only [Bool.and_eq_true, Bool.not_eq_true', Bool.or_eq_true, beq_iff_eq, List.contains_eq_mem, decide_eq_false_iff_not] at this
  obtain ⟨h1, h2⟩ := this
  refine ⟨h1, fun hb hm => ?_⟩
  rcases h2 with (h2 | h2) | h2
  · rw [hb] at h2; cases h2
  · exact absurd hm h2
  · exact h2
theorem run_mark {P : Program} {m : Mark} (w : World) : (mark m).run P w = .ok () w := rfl
theorem call_ext {C : Cfg} {f : FuncId} {fn : Func} (hf : C.P.funcs[f]? = some fn) (hng : (fn.name == "runtime.NumGoroutine") = false) (hb : fn.body = none) {e : Array Value → Sem Value} (hne : Extern.findNext fn = none) (hfi : Extern.find fn = some e)
    {args : Array Value} {w w' : World} {v : Value} (hr : (e args).run C.P w = .ok v w') : (callFunc f args).run C.P w = .ok (.value v) w' := by
  have hnone : fn.body.isNone = true := by rw [hb]; rfl
  simp only [callFunc, Sem.run_bind, run_program, Result.andThen_ok, hf, hng, Bool.false_eq_true, if_false, hnone, if_true, run_mark, hne, hfi, hr, Sem.run_pure]
theorem ext_ok2 {C : Cfg} (hn : namesOk C.P = true) {f : FuncId} {fn : Func} (hf : C.P.funcs[f]? = some fn) (hb : fn.body = none) {h : AHeap} {args : List AVal} {r : AVal × AHeap} (hr : aextern2 C fn h args = some r) {B : Nat} {g : G} {args' : Array Value} (I : Inv B h g) (ha : VsRel g.ι g.μ args args'.toList) :
    OkOp B h g ((callFunc f args').run C.P g.w) r.1 r.2 := by
  obtain ⟨hng, horig⟩ := namesOk_get hn hf
  unfold aextern2 at hr
  obtain ⟨al⟩ := args'
  split at hr
  · rename_i hname
    have hfi := find_noEscape hname
    have hne := next_noEscape hname (horig hb (by rw [hname]; decide))
    split at hr
    case h_2 => cases hr
    simp only [Option.some.injEq] at hr; subst hr
    cases ha with | cons h1 ha =>
    cases ha
    exact ⟨_, g, _, call_ext hf hng hb hne hfi rfl, .inl rfl, I, Ext.refl h g, h1⟩
  split at hr
  · rename_i hname
    have hfi := find_count hname
    have hne := next_count hname (horig hb (by rw [hname]; decide))
    split at hr
    case h_2 => cases hr
    rename_i s c
    simp only [Option.bind_eq_bind, Option.bind_eq_some_iff, Option.some.injEq] at hr
    obtain ⟨b, hbt, rfl⟩ := hr
    unfold asByteA at hbt
    split at hbt
    case h_2 => cases hbt
    rename_i n
    simp only [Option.some.injEq] at hbt; subst hbt
    cases ha with | cons h1 ha =>
    cases ha with | cons h2 ha =>
    cases ha
    cases h1
    cases h2
    exact ⟨_, g, _, call_ext hf hng hb hne hfi (Lib.run_countString ⟨s.toArray⟩ n g.w), .inl rfl, I, Ext.refl h g, .int _ _⟩
  split at hr
  · rename_i hname
    have hfi := find_index hname
    have hne := next_index hname (horig hb (by rw [hname]; decide))
    split at hr
    case h_2 => cases hr
    rename_i s c
    simp only [Option.bind_eq_bind, Option.bind_eq_some_iff, Option.some.injEq] at hr
    obtain ⟨b, hbt, rfl⟩ := hr
    unfold asByteA at hbt
    split at hbt
    case h_2 => cases hbt
    rename_i n
    simp only [Option.some.injEq] at hbt; subst hbt
    cases ha with | cons h1 ha =>
    cases ha with | cons h2 ha =>
    cases ha
    cases h1
    cases h2
    have hq : findByte n.toNat.toUInt8 s 0 = Lib.indexByte s n.toNat.toUInt8 := by
      rw [findByte_eq]
      split
      · rename_i h; exact h.symm
      · simp
    refine ⟨_, g, _, call_ext hf hng hb hne hfi (Lib.run_indexByteString ⟨s.toArray⟩ n g.w), .inl rfl, I, Ext.refl h g, ?_⟩
    rw [hq]
    exact .int _ _
  split at hr
  · rename_i hname
    have hfi := find_noZero hname
    have hne := next_noZero hname (horig hb (by rw [hname]; decide))
    split at hr
    case h_2 => cases hr
    rename_i t n hts
    split at hr
    case h_2 => cases hr
    rename_i e ht
    split at hr
    case isFalse => cases hr
    rename_i hc
    simp only [Option.some.injEq] at hr; subst hr
    have hres : fn.resultTypes = #[t] := by apply Array.ext'; simpa using hts
    cases ha with | cons h1 ha =>
    cases ha
    cases h1
    obtain ⟨cs, hrun, hle, _⟩ := Lib.run_makeNoZero (P := C.P) g.w fn.params t e ht n.toNat (by omega)
    rw [Int.toNat_of_nonneg hc.1] at hrun
    rw [hres] at hfi
    have T := I.newArr (w' := g.w.drew.drew.alloc (.cells cs e)) (cells := List.replicate n.toNat .top) (cs := cs) (e := e) (vs := cs.toList.take n.toNat) ⟨rfl, rfl, rfl, rfl⟩ (VsRel.replicate_top _ _ (by simp; omega)) (fun j v hj => by
      rw [List.getElem?_take] at hj
      split at hj
      · simpa using hj
      · cases hj) (by simpa using hle)
    have M := T.1.mark (id := h.next) (t := e) (z := false) (addMu_self _ _ _) (fun h => by cases h)
    exact ⟨_, _, _, call_ext hf hng hb hne hfi hrun, .inl rfl, M.1, T.2.trans M.2, VRel.sl (o := 0) (s := cs.size) (addMu_self _ _ _) (Nat.le_refl _) hle (fun h0 => by cases h0) (fun _ => ⟨rfl, by omega⟩)⟩
  · cases hr
theorem ext_ok {C : Cfg} (hn : namesOk C.P = true) : ExtOk C := by
  intro f fn hf hb h args r hr B g args' I ha
  obtain ⟨hng, horig⟩ := namesOk_get hn hf
  have read : ∀ {p : AVal} {p' : Value} {n : Int}, VRel g.ι g.μ p p' → loadA h false 1 p = some (.int .i64 n) → ∃ b o, p' = .pointer (some ⟨b, o, none⟩) ∧ g.w.cell? ⟨b, o, none⟩ = some (.int .i64 n) := by
    intro p p' n hp hl
    rw [loadA_eq, Option.bind_eq_some_iff] at hl
    obtain ⟨cs, hcs, hof⟩ := hl
    obtain ⟨b, o, vs, rfl, hv, hat⟩ := ptr_cells I hp hcs
    simp only [ofCells, Bool.false_eq_true, if_false] at hof
    obtain ⟨v', hv', hr⟩ := hv.get hof
    cases hr
    have := hat 0 _ hv'
    exact ⟨b, o, rfl, by simpa using this⟩
  unfold aextern at hr
  split at hr
  · rename_i hname
    have hfi := find_add hname
    have hne := next_add hname (horig hb (by rw [hname]; decide))
    split at hr
    case h_2 => cases hr
    rename_i p k d
    simp only [Option.bind_eq_bind, Option.bind_eq_some_iff] at hr
    obtain ⟨x, hx, hr⟩ := hr
    split at hr
    case h_2 => cases hr
    rename_i n
    simp only [Option.bind_eq_some_iff, Option.some.injEq] at hr
    obtain ⟨h1, hs, rfl⟩ := hr
    obtain ⟨al⟩ := args'
    cases ha with | cons hp ha =>
    cases ha with | cons hd ha =>
    cases ha
    cases hd
    obtain ⟨b, o, hpe, hcell⟩ := read hp hx
    subst hpe
    unfold storeA at hs
    split at hs
    case h_2 => cases hs
    rename_i id off
    split at hs
    case h_2 => cases hs
    rename_i cells hget
    split at hs
    case isFalse => cases hs
    rename_i hcond
    simp only [Option.some.injEq] at hs; subst hs
    obtain ⟨hc1, hall, hle⟩ := hcond
    cases hp with
    | @ptr _ _ _ o0 s0 _ hm =>
    obtain ⟨g', hrun, I', E⟩ := I.setArr (P := C.P) (off := off) hget (VsRel.cons (VRel.int .i64 (IntKind.i64.wrap (n + d))) .nil) (by rfl) (by simpa [AVal.cells] using hle) hm
    refine ⟨.int .i64 (IntKind.i64.wrap (n + d)), g', .value (.int .i64 (IntKind.i64.wrap (n + d))), ?_, .inl rfl, I', E, .int _ _⟩
    have hst : ((store ⟨b, o0 + off, none⟩ (.int .i64 (IntKind.i64.wrap (n + d))) .atomic).run C.P g.w) = .ok () g'.w := by
      have h2 : ((store ⟨b, o0 + off, none⟩ (.int .i64 (IntKind.i64.wrap (n + d)))).run C.P g.w) = .ok () g'.w := by
        have h3 := hrun
        simp only [storeCells, add_plain, Nat.add_zero, Sem.run_bind] at h3
        cases h4 : (store ⟨b, o0 + off, none⟩ (.int .i64 (IntKind.i64.wrap (n + d)))).run C.P g.w with
        | ok u w2 => rw [h4] at h3; simpa [Result.andThen] using h3
        | halt x w2 => rw [h4] at h3; simp [Result.andThen] at h3
      rw [← h2]
      simp only [store, Sem.run, hcell]
    have hup : Extern.Atomic.update (Op.intArith .add) .i64 true #[.pointer (some ⟨b, o0 + off, none⟩), .int k d] = (do
        let old ← Extern.Atomic.read (.int .i64) ⟨b, o0 + off, none⟩
        let new ← Op.intArith .add .i64 (← asInt old) d
        store ⟨b, o0 + off, none⟩ new .atomic
        pure new) := rfl
    have hrd : (Extern.Atomic.read (.int .i64) ⟨b, o0 + off, none⟩).run C.P g.w = .ok (.int .i64 n) g.w := by
      unfold Extern.Atomic.read
      simp only [Sem.run_bind, load, Sem.run, hcell, Result.andThen_ok, if_true]
      rfl
    have hnone : fn.body.isNone = true := by rw [hb]; rfl
    simp only [callFunc, Sem.run_bind, run_program, Result.andThen_ok, hf, hng, Bool.false_eq_true, if_false, hnone, if_true, run_mark, hne, hfi]
    rw [hup]
    simp only [Sem.run_bind, hrd, Result.andThen_ok, asInt, asIntOf, Sem.run_pure, Op.intArith, hst]
  · split at hr
    case isFalse => exact ext_ok2 hn hf hb hr I ha
    rename_i hname
    have hfi := find_load hname
    have hne := next_load hname (horig hb (by rw [hname]; decide))
    split at hr
    case h_2 => cases hr
    rename_i p
    simp only [Option.bind_eq_bind, Option.bind_eq_some_iff] at hr
    obtain ⟨x, hx, hr⟩ := hr
    split at hr
    case h_2 => cases hr
    rename_i n
    simp only [Option.some.injEq] at hr; subst hr
    obtain ⟨al⟩ := args'
    cases ha with | cons hp ha =>
    cases ha
    obtain ⟨b, o, hpe, hcell⟩ := read hp hx
    subst hpe
    refine ⟨.int .i64 n, g, .value (.int .i64 n), ?_, .inl rfl, I, Ext.refl h g, .int _ _⟩
    have hup : Extern.Atomic.loadT (.int .i64) #[.pointer (some ⟨b, o, none⟩)] = (do
        Extern.Atomic.read (.int .i64) ⟨b, o, none⟩) := rfl
    have hrd : (Extern.Atomic.read (.int .i64) ⟨b, o, none⟩).run C.P g.w = .ok (.int .i64 n) g.w := by
      unfold Extern.Atomic.read
      simp only [Sem.run_bind, load, Sem.run, hcell, Result.andThen_ok, if_true]
      rfl
    have hnone : fn.body.isNone = true := by rw [hb]; rfl
    simp only [callFunc, Sem.run_bind, run_program, Result.andThen_ok, hf, hng, Bool.false_eq_true, if_false, hnone, if_true, run_mark, hne, hfi]
    rw [hup]
    simp only [Sem.run_bind, hrd, Result.andThen_ok, Sem.run_pure]
theorem all_sound {C : Cfg} (hn : namesOk C.P = true) (hmix : C.P.follows .mixedOrders = true) (hS : SummOk C) : ∀ n, CallOk C (arun C n) :=
  run_sound (fun f fn hf => (namesOk_get hn hf).1) hS (ext_ok hn) fun n hc => draw_sound hc (run_pure n) hmix
def allCells (W : World) : Imm := fun b o => W.cell? ⟨b, o, none⟩
def start (W : World) : G := ⟨W, allCells W, fun _ => none⟩
theorem start_inv (W : World) : Inv W.heap.size AHeap.empty (start W) where
  nx := fun id _ => ⟨rfl, rfl⟩
  base := Nat.le_refl _
  imm := fun b o v h => h
  blk := fun id x h => by cases h
  inj := fun i j x y b h => by cases h
  ty := fun i t z h => by cases h
theorem Ext.below {W : World} {h' : AHeap} {g' : G} (E : Ext AHeap.empty (start W) h' g') : Below W.heap.size W g'.w where
  os := E.os
  tape := E.tape
  output := E.output
  size := E.size
  block := fun k hk => E.fr k hk (fun ⟨id, x, hx, _⟩ => by cases hx)
theorem law_callsF {C : Cfg} (hn : namesOk C.P = true) (hmix : C.P.follows .mixedOrders = true) (hS : SummOk C) {f : FuncId} {fn : Func} {body : Code} (hf : C.P.funcs[f]? = some fn) (hb : fn.body = some body) (hs : C.summ f = none) (hfoc : C.foc f = true)
    {W : World} {args : Array Value} {as : List AVal} (hG : GlobOk C W.heap.size (start W)) (ha : VsRel (allCells W) (fun _ => none) as args.toList) {n : Nat} {h' : AHeap} (hr : arun C n f as AHeap.empty = some (.ret (.bool true), h')) :
    Calls C.P f args W fun e W' => e = .returned (.bool true) ∧ Below W.heap.size W W' := by
  cases n with
  | zero => simp [arun] at hr
  | succ n =>
    simp only [arun, hs, hf, hb, hfoc, if_true] at hr
    have hc := all_sound hn hmix hS n
    split at hr
    · rename_i as' h0 has hfo
      split at hr
      · rename_i r h1 hbo
        refine (foc_sound (fun f fn hf => (namesOk_get hn hf).1) hc (draw_sound hc (run_pure n) hmix) hf hb has hfo hbo hr (start_inv W) hG ha).mono fun e W' hres => ?_
        obtain ⟨ι', μ', I, E, v', rfl, hv⟩ := hres
        cases hv
        exact ⟨rfl, E.below⟩
      · cases hr
    · cases hr
end Go.Am

