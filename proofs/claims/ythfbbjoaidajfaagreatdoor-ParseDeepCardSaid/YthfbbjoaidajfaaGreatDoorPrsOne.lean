import Derived.Test.YthfbbjoaidajfaaGreatDoorParPTypes
import Derived.Test.YthfbbjoaidajfaaGreatDoorAmTyped
import Derived.Test.YthfbbjoaidajfaaGreatDoorAmPack
import Derived.Test.YthfbbjoaidajfaaGreatDoorQryAll
set_option linter.unusedVariables false
set_option linter.unusedSimpArgs false
set_option linter.unusedSimpArgs false
set_option linter.unusedVariables false
set_option maxRecDepth 100000
namespace Go.Proofs.Q.Par
open Go Go.Am Go.Proofs
structure Wf (all ws : List Word) : Prop where
  suf : ws <:+ all
  ok : OKs ws
  fin : ∃ i e, ws = i ++ [e] ∧ (∀ w ∈ i, w.Kind ≠ 6) ∧ e.Kind = 6
  small : all.length ≤ 5000
section
variable {all : List Word}
theorem Wf.cons {ws : List Word} (h : Wf all ws) : ∃ w r, ws = w :: r := by
  obtain ⟨i, e, h1, h2⟩ := h.fin
  cases i with
  | nil => exact ⟨e, [], h1⟩
  | cons a i => exact ⟨a, i ++ [e], h1⟩
theorem Wf.next {w : Word} {r : List Word} (h : Wf all (w :: r)) (hw : w.Kind ≠ 6) : Wf all r := by
  obtain ⟨i, e, h1, h2, h3⟩ := h.fin
  cases i with
  | nil => simp only [List.nil_append, List.cons.injEq] at h1; rw [h1.1] at hw; exact absurd h3 hw
  | cons a i =>
    simp only [List.cons_append, List.cons.injEq] at h1
    exact ⟨(List.suffix_cons _ _).trans h.suf, fun v hv => h.ok v (List.mem_cons_of_mem _ hv), ⟨i, e, h1.2, fun v hv => h2 v (List.mem_cons_of_mem _ hv), h3⟩, h.small⟩
theorem Wf.len {ws : List Word} (h : Wf all ws) : ws.length ≤ all.length := h.suf.length_le
theorem all_at {w : Word} {r : List Word} (h : Wf all (w :: r)) : at? all ((all.length - (w :: r).length : Nat) : Int) = some w := by
  rw [at_nat]
  obtain ⟨p, rfl⟩ := h.suf
  rw [List.length_append, Nat.add_sub_cancel, List.getElem?_append_right (Nat.le_refl _), Nat.sub_self]
  rfl
theorem all_next {w : Word} {r : List Word} (h : Wf all (w :: r)) : IntKind.i64.wrap (((all.length - (w :: r).length : Nat) : Int) + 1) = ((all.length - r.length : Nat) : Int) := by
  have h1 := h.len
  have h2 := h.small
  simp only [List.length_cons] at h1
  rw [wrap64 (by omega) (by omega)]
  simp only [List.length_cons]
  omega
theorem isH_kind {s : Bs} {w : Word} {r : List Word} (h : isH s (w :: r) = true) : w.Kind ≠ 6 := by
  have h' : isW s w = true := h
  unfold isW at h'
  simp only [Bool.and_eq_true, Bool.or_eq_true, beq_iff_eq] at h'
  rcases h'.1 with e | e <;> omega
theorem Wf.isH {s : Bs} {ws : List Word} (h : Wf all ws) (hs : isH s ws = true) : Wf all (ws.drop 1) := by
  obtain ⟨w, r, rfl⟩ := h.cons
  exact h.next (isH_kind hs)
theorem which_isH : ∀ {l : List Bs} {ws : List Word} {i : Nat}, which l ws = some i → ∃ s, isH s ws = true
  | [], _, _, h => by cases h
  | s :: l, ws, i, h => by
    unfold which at h
    split at h
    · rename_i hs; exact ⟨s, hs⟩
    · cases hw : which l ws with
      | none => rw [hw] at h; cases h
      | some j => exact which_isH hw
theorem Wf.which {l : List Bs} {ws : List Word} {i : Nat} (h : Wf all ws) (hs : which l ws = some i) : Wf all (ws.drop 1) := by
  obtain ⟨s, hs⟩ := which_isH hs
  exact h.isH hs
end
structure Mem (w : AVal) (all : List Word) : Prop where
  sl : Sl rWord all w
  st : strip w = w
def cel (w : AVal) (all ws : List Word) : List AVal := [w, .int .i64 ((all.length - ws.length : Nat) : Int)]
section
variable {w : AVal} {all ws : List Word}
theorem Mem.rf (E : Mem w all) (ws : List Word) : refsL (cel w all ws) = [] := by simp only [cel, refsL, refs, E.sl.refs rWord_p, List.append_nil]
theorem Mem.cs (E : Mem w all) (ws : List Word) : stripL (cel w all ws) = cel w all ws := by simp only [cel, stripL, E.st]; rfl
theorem Mem.hd (E : Mem w all) {x : Word} {r : List Word} (hw : Wf all (x :: r)) : ∃ d, indexAddrA 3 w ((all.length - (x :: r).length : Nat) : Int) = some (.iptr (.int .i64 x.Kind :: .str x.Text :: .int .i64 x.At :: d)) := by
  obtain ⟨c, d, hc, hi, _⟩ := Sl.ix rWord_p E.sl (all_at hw)
  rw [show c = _ from hc] at hi
  exact ⟨d, hi⟩
abbrev At0 (w : AVal) (all ws : List Word) (h : AHeap) : Prop := h.get 2 = some (.arr (cel w all ws))
abbrev to0 (w : AVal) (all ws : List Word) (h : AHeap) : AHeap := h.set 2 (some (.arr (cel w all ws)))
abbrev H0 (w : AVal) (all ws : List Word) : AHeap := one 2 (cel w all ws)
theorem At0.H0 : At0 w all ws (H0 w all ws) := one_get _ _
theorem to_H0 {r : List Word} : to0 w all r (H0 w all ws) = H0 w all r := one_set _ _ _
theorem to_to {r r' : List Word} {h : AHeap} : to0 w all r (to0 w all r' h) = to0 w all r h := hset_set _ _ _ _
theorem At0.same {h : AHeap} (g : At0 w all ws h) : to0 w all ws h = h := Heap.set_same g
theorem At0.to {r : List Word} {h : AHeap} : At0 w all r (to0 w all r h) := Heap.get_set_eq
def flt (e : Fault) : AVal := .iface 30 (PV.fs [e.Code, e.At]).val
def Pn (e : Fault) (h : AHeap) (o : Option (ARes × AHeap)) : Prop := ∃ cs, refsL cs = [] ∧ o = some (.pan (flt e), h.set 2 (some (.arr cs)))
def Does {α : Type} (f : FuncId) (args : List AVal) (w : AVal) (all ws : List Word) (rd : α → AVal → Prop) (res : R α) : Prop := match res with
  | .ok x r => Wf all r ∧ ∀ h, At0 w all ws h → ∃ v, rd x v ∧ run Cp f args h = some (.ret v, to0 w all r h)
  | .er e => ∀ h, At0 w all ws h → Pn e h (run Cp f args h)
  | .out => True
theorem dok {f : FuncId} {fn : Func} {args : List AVal} (E : Mem w all) {h : AHeap} (hg : At0 w all ws h) (hf : Cp.P.funcs[f]? = some fn) (hb : fn.body = some (bodyOf fn)) (hs : Cp.summ f = none) (hfoc : Cp.foc f = true) (hd : Cp.dfr f = false)
    (hids : (refsL args).eraseDups = [2]) (hst : stripL args = args) {x : AExit} {t : List AVal} {h' : AHeap} {r : List Word} (he : ex Cp (bodyOf fn) ⟨slots fn args, H0 w all ws⟩ = some (x, ⟨t, h'⟩)) (hx : x = .ret ∨ x = .normal)
    {vs : List AVal} {v : AVal} (ha : aresults Cp fn.results.toList ⟨t, h'⟩ = some vs) (hn : Nrm [2] h' (packRes vs) v) (hg' : At0 w all r h') : run Cp f args h = some (.ret v, to0 w all r h) :=
  st_ret hf hb hs hfoc hd hg (E.rf ws) hids hst (E.cs ws) he hx ha hn hg' (E.rf r) (E.cs r)
theorem dpan {f : FuncId} {fn : Func} {args : List AVal} (E : Mem w all) {h : AHeap} (hg : At0 w all ws h) (hf : Cp.P.funcs[f]? = some fn) (hb : fn.body = some (bodyOf fn)) (hs : Cp.summ f = none) (hfoc : Cp.foc f = true) (hd : Cp.dfr f = false)
    (hids : (refsL args).eraseDups = [2]) (hst : stripL args = args) {e : Fault} {t : List AVal} {h' : AHeap} (he : ex Cp (bodyOf fn) ⟨slots fn args, H0 w all ws⟩ = some (.pan (flt e), ⟨t, h'⟩))
    {cs : List AVal} (hg' : h'.get 2 = some (.arr cs)) (hcr' : refsL cs = []) : Pn e h (run Cp f args h) :=
  st_pan hf hb hs hfoc hd hg (E.rf ws) hids hst (E.cs ws) he hg' hcr'
theorem put_all {h : AHeap} {i n : Nat} {cs ds : List AVal} (hg : h.get i = some (.arr cs)) (hn : cs.length = n) (hd : ds.length = n) (hc : ds.all AVal.isCell = true) : storeA h n (.ptr i 0) (.agg ds) = some (h.set i (some (.arr ds))) := by
  refine Heap.store_gen hg rfl hd hc (by omega) ?_
  have : ∀ (p cs ds : List AVal), cs.length = ds.length → setRange (p ++ cs) p.length ds = p ++ ds := by
    intro p cs ds
    induction ds generalizing p cs with
    | nil => intro h; rw [List.eq_nil_of_length_eq_zero h]; rfl
    | cons d ds ih =>
      intro h
      cases cs with
      | nil => cases h
      | cons c cs =>
        have h2 : (p ++ c :: cs).set p.length d = (p ++ [d]) ++ cs := by simp
        show setRange ((p ++ c :: cs).set p.length d) (p.length + 1) ds = _
        rw [h2, show p.length + 1 = (p ++ [d]).length by simp, ih (p ++ [d]) cs (by simpa using h)]
        simp
  have h2 := this [] cs ds (by omega)
  simp only [List.nil_append, List.length_nil] at h2
  exact h2
theorem ld_all {h : AHeap} {i n : Nat} {cs : List AVal} (hg : h.get i = some (.arr cs)) (hn : cs.length = n) : loadA h true n (.ptr i 0) = some (.agg cs) := by
  rw [Heap.load_gen hg (Nat.zero_le _)]
  simp only [ofCells, if_true, List.drop_zero]
  rw [if_pos (by omega), ← hn, List.take_length]
theorem adv {x : Word} {r : List Word} (hw : Wf all (x :: r)) {h : AHeap} (g : At0 w all (x :: r) h) : storeA h 1 (.ptr 2 1) (.int .i64 (IntKind.i64.wrap (((all.length - (x :: r).length : Nat) : Int) + 1))) = some (to0 w all r h) := by
  rw [all_next hw]
  exact Heap.store_at g rfl (by simp [cel])
theorem pok {f : FuncId} {fn : Func} {args : List AVal} (hf : Cp.P.funcs[f]? = some fn) (hb : fn.body = some (bodyOf fn)) (hs : Cp.summ f = none) (hfoc : Cp.foc f = true) (hd : Cp.dfr f = false) (hr : refsL args = []) {x : AExit} {t : List AVal} {h' : AHeap}
    (he : ex Cp (bodyOf fn) ⟨slots fn (stripL args), bare⟩ = some (x, ⟨t, h'⟩)) (hx : x = .ret ∨ x = .normal) {vs : List AVal} {v : AVal} (ha : aresults Cp fn.results.toList ⟨t, h'⟩ = some vs) (hn : Nrm [] h' (packRes vs) v) (h : AHeap) : run Cp f args h = some (.ret v, h) := by
  rw [run_stripped (fn := fn) hf hb hs hfoc args hr h hd]
  refine fn_runC hf hb hs hfoc (stripL_cont args hr) hx he ha ?_ h hd
  simp only [normRes, norm]
  rw [show normW (fun _ => false) (hops (fun _ => false) h' Am.depth) (packRes vs) = some v from hn]
  rfl
def El {α : Type} (r : α → List AVal → Prop) (n : Nat) (x : α) (v : AVal) : Prop := r x v.cells ∧ v.cells.length = n ∧ v.boxable = true
theorem set_range (p : List AVal) : ∀ (cs ds : List AVal), cs.length = ds.length → setRange (p ++ cs) p.length ds = p ++ ds := by
  intro cs ds
  induction ds generalizing p cs with
  | nil => intro h; rw [List.eq_nil_of_length_eq_zero h]; rfl
  | cons d ds ih =>
    intro h
    cases cs with
    | nil => cases h
    | cons c cs =>
      have h2 : (p ++ c :: cs).set p.length d = (p ++ [d]) ++ cs := by simp
      show setRange ((p ++ c :: cs).set p.length d) (p.length + 1) ds = _
      rw [h2, show p.length + 1 = (p ++ [d]).length by simp, ih (p ++ [d]) cs (by simpa using h)]
      simp
theorem bs_one {P : Program} {t e : TypeId} {i : TypeInfo} {z v : AVal} {n : Nat} (hu : P.underlying t = some (.slice e)) (hi : P.info? e = some i) (hs : i.size = n) (h24 : n ≤ 2 ^ 24) (hz : zeroA P e = some z) (hzl : z.cells.length = n) (hc : v.cells.length = n) (hb : v.boxable = true) :
    abuildSlice P t 1 [(0, v)] = some (v.cells, n) := by
  have h2 := set_range [] (z.cells ++ []) v.cells (by simp [hzl, hc])
  simp only [List.nil_append, List.length_nil, List.append_nil] at h2
  simp [abuildSlice, hu, hi, hs, hz, hzl, h24, zerosA, fillA, hc, hb, h2]
theorem El.els {α : Type} {r : α → List AVal → Prop} {n : Nat} {x : α} {v : AVal} (h : El r n x v) : Els r [x] [v.cells] := .cons h.1 .nil
theorem El.sl {α : Type} {r : α → List AVal → Prop} {n : Nat} {x : α} {v : AVal} (h : El r n x v) : Sl r [x] (.lst v.cells 1 .full) := by
  have := Sl.lst .full h.els
  simpa using this
theorem El.gr {α : Type} {r : α → List AVal → Prop} {n : Nat} {x : α} {v : AVal} (h : El r n x v) (hp : AHeap) : Gr r n [x] (.lst v.cells 1 .full) hp := by
  have := Gr.full (n := n) h.els hp
  simpa using this
theorem app_ok {α : Type} (b : Nat) (hb : b ≤ 100) (l : List α) (x : α) (h : l.length ≤ 10000) : appT b l [x] = some (l ++ [x]) := by
  unfold appT
  rw [if_pos]
  simp only [List.length_cons, List.length_nil]
  refine ⟨?_, by omega⟩
  have : (l.length + (0 + 1)) * b ≤ 10001 * 100 := Nat.mul_le_mul (by omega) hb
  omega
theorem cut_all {α : Type} (l : List α) : cutT l none (some (l.length : Int)) (some (l.length : Int)) = some l := by
  simp [cutT, bndZ, asNat]
end
end Go.Proofs.Q.Par



set_option linter.unusedSimpArgs false
set_option linter.unusedVariables false
set_option maxRecDepth 100000
namespace Go.Proofs.Q.Par
open Go Go.Am Go.Proofs
section
variable {w : AVal} {all ws : List Word}
def wv (x : Word) : AVal := .agg [.int .i64 x.Kind, .str x.Text, .int .i64 x.At]
theorem word_run (E : Mem w all) {x : Word} {r : List Word} (hw : Wf all (x :: r)) {h : AHeap} (hg : At0 w all (x :: r) h) : run Cp 138 [.ptr 2 0] h = some (.ret (wv x), h) := by
  obtain ⟨d, hd⟩ := E.hd hw
  obtain ⟨h1, e1⟩ : ∃ h1, h1 = (H0 w all (x :: r)).new (.arr [.int .i64 0, .str [], .int .i64 0]) := ⟨_, rfl⟩
  have g1 : At0 w all (x :: r) h1 := by rw [e1]; rfl
  have k1 : h1.get 3 = some (.arr [.int .i64 0, .str [], .int .i64 0]) := by rw [e1]; rfl
  have st : storeA h1 3 (.ptr 3 0) (wv x) = some (h1.set 3 (some (.arr [.int .i64 x.Kind, .str x.Text, .int .i64 x.At]))) := put_all k1 rfl rfl rfl
  have ab : abox (H0 w all (x :: r)) (.agg [.int .i64 0, .str [], .int .i64 0]) = some (.ptr 3 0, h1) := by rw [e1]; rfl
  have l0 : loadA h1 false 1 (.ptr 2 0) = some w := Heap.load_at g1 rfl
  have l1 : loadA h1 false 1 (.ptr 2 1) = some (.int .i64 ((all.length - (x :: r).length : Nat) : Int)) := Heap.load_at g1 rfl
  have p : ∃ t, ex Cp (bodyOf Tryz.f138) ⟨slots Tryz.f138 [.ptr 2 0], H0 w all (x :: r)⟩ = some (.ret, ⟨t, h1.set 3 (some (.arr [.int .i64 x.Kind, .str x.Text, .int .i64 x.At]))⟩) ∧ t[2]? = some (.ptr 3 0) := by
    obtain ⟨a0, ha0⟩ : ∃ a0, a0 = slots Tryz.f138 [.ptr 2 0] := ⟨_, rfl⟩
    have hl : a0.length = 13 := by rw [ha0]; rfl
    have i0 : a0[0]? = some (.ptr 2 0) := by rw [ha0]; rfl
    rw [← ha0]
    simp only [bodyOf, Tryz.f138, Cat, Zs, awanted, aoper, evalO, put, acallOp, abuiltin, Nat.reduceEqDiff, Nat.reduceLT, ofV, ofCell, ↓reduceIte, hl, i0, CP, TyP.ze42, TyP.own_parse_go_18, ab, TyP.fa97_0, TyP.fa97_1, dropCells, Nat.zero_add, Nat.add_zero, TyP.ld38, TyP.ld3, l0, l1, TyP.ix38, hd, TyP.ld42, ld_ip, ofc3, TyP.st42, show (AVal.agg [.int .i64 x.Kind, .str x.Text, .int .i64 x.At]) = wv x from rfl, st]
    rw [k_draw _ _ _ (by kernel_rfl)]
    simp only [k_seq, ex_ret]
    exact ⟨_, rfl, by simp [hl]⟩
  obtain ⟨t, he, t2⟩ := p
  have := dok (f := 138) (args := [.ptr 2 0]) (r := x :: r) E hg Tryz.func138 rfl rfl rfl rfl rfl rfl he (.inl rfl) (vs := [wv x]) (v := wv x)
    (by simp only [show Tryz.f138.results.toList = [ResultVar.cell 2 42] from rfl, aresults, ares1, CP, t2, Option.getD_some, TyP.ld42, ld_all (Heap.get_set_eq) (show [AVal.int .i64 x.Kind, .str x.Text, .int .i64 x.At].length = 3 from rfl)]; rfl) (Nrm.of (w := wv x) rfl) ((Heap.get_set_ne (by decide)).trans g1)
  rw [hg.same] at this
  exact this
namespace Pz
theorem bd30 (a b : Int) : abuild Tryz.prog 30 [(0, .int .i64 a), (1, .int .i64 b)] = some (.agg [.int .i64 a, .int .i64 b]) := by kernel_rfl
theorem f42_2 (a b c : AVal) : afield Tryz.prog 42 (.agg [a, b, c]) 2 = some c := by kernel_rfl
theorem f42_0 (a b c : AVal) : afield Tryz.prog 42 (.agg [a, b, c]) 0 = some a := by kernel_rfl
theorem mi30 : ∃ fs, Tryz.prog.underlying 30 = some (.struct fs) := ⟨_, rfl⟩
theorem bs52 (s : Bs) : abuildSlice Tryz.prog 52 1 [(0, .str s)] = some ([.str s], 1) := by kernel_rfl
end Pz
theorem fail_run (E : Mem w all) {x : Word} {r : List Word} (hw : Wf all (x :: r)) (e : Int) {h : AHeap} (hg : At0 w all (x :: r) h) : Pn ⟨e, x.At⟩ h (run Cp 136 [.ptr 2 0, .int .i64 e] h) := by
  have ew := word_run E hw (At0.H0 (w := w) (all := all) (ws := x :: r))
  obtain ⟨fs, hu⟩ := Pz.mi30
  have p : ∃ t, ex Cp (bodyOf Tryz.f136) ⟨slots Tryz.f136 [.ptr 2 0, .int .i64 e], H0 w all (x :: r)⟩ = some (.pan (flt ⟨e, x.At⟩), ⟨t, H0 w all (x :: r)⟩) := by
    obtain ⟨a0, ha0⟩ : ∃ a0, a0 = slots Tryz.f136 [.ptr 2 0, .int .i64 e] := ⟨_, rfl⟩
    have hl : a0.length = 10 := by rw [ha0]; rfl
    have i0 : a0[0]? = some (.ptr 2 0) := by rw [ha0]; rfl
    have i1 : a0[1]? = some (.int .i64 e) := by rw [ha0]; rfl
    rw [← ha0]
    simp only [bodyOf, Tryz.f136, Cat, Zs, awanted, aoper, evalO, put, acallOp, abuiltin, Nat.reduceEqDiff, Nat.reduceLT, ofV, ofCell, ↓reduceIte, hl, i0, i1, CP, ew, wv, Pz.f42_2, Pz.bd30, hu]
    exact ⟨_, rfl⟩
  obtain ⟨t, he⟩ := p
  exact dpan (f := 136) (args := [.ptr 2 0, .int .i64 e]) E hg Tryz.func136 rfl rfl rfl rfl rfl rfl he At0.H0 (E.rf _)
def hw1 (w : AVal) (all ws : List Word) (x : Word) : AHeap := ((H0 w all ws).new (.arr [.int .i64 0, .str [], .int .i64 0])).set 3 (some (.arr [.int .i64 x.Kind, .str x.Text, .int .i64 x.At]))
theorem hw1_at (x : Word) : At0 w all ws (hw1 w all ws x) := rfl
theorem hw1_1 (x : Word) : (hw1 w all ws x).get 3 = some (.arr [.int .i64 x.Kind, .str x.Text, .int .i64 x.At]) := rfl
theorem hw1_ab : abox (H0 w all ws) (.agg [.int .i64 0, .str [], .int .i64 0]) = some (.ptr 3 0, (H0 w all ws).new (.arr [.int .i64 0, .str [], .int .i64 0])) := rfl
theorem hw1_st (x : Word) : storeA ((H0 w all ws).new (.arr [.int .i64 0, .str [], .int .i64 0])) 3 (.ptr 3 0) (wv x) = some (hw1 w all ws x) := put_all (cs := [.int .i64 0, .str [], .int .i64 0]) rfl rfl rfl rfl
theorem hw1_k (x : Word) : loadA (hw1 w all ws x) false 1 (.ptr 3 0) = some (.int .i64 x.Kind) := Heap.load_at (hw1_1 x) rfl
theorem hw1_t (x : Word) : loadA (hw1 w all ws x) false 1 (.ptr 3 1) = some (.str x.Text) := Heap.load_at (hw1_1 x) rfl
theorem is_run (E : Mem w all) {x : Word} {r : List Word} (hw : Wf all (x :: r)) (s : Bs) {h : AHeap} (hg : At0 w all (x :: r) h) : run Cp 140 [.ptr 2 0, .str s] h = some (.ret (.bool (isH s (x :: r))), h) := by
  have ew := word_run E hw (At0.H0 (w := w) (all := all) (ws := x :: r))
  have p : ∃ t, ex Cp (bodyOf Tryz.f140) ⟨slots Tryz.f140 [.ptr 2 0, .str s], H0 w all (x :: r)⟩ = some (.ret, ⟨t, hw1 w all (x :: r) x⟩) ∧ t[4]? = some (.bool (isH s (x :: r))) := by
    obtain ⟨a0, ha0⟩ : ∃ a0, a0 = slots Tryz.f140 [.ptr 2 0, .str s] := ⟨_, rfl⟩
    have hl : a0.length = 22 := by rw [ha0]; rfl
    have i0 : a0[0]? = some (.ptr 2 0) := by rw [ha0]; rfl
    have i1 : a0[1]? = some (.str s) := by rw [ha0]; rfl
    rw [← ha0]
    have hq : isH s (x :: r) = ((x.Kind == 2 || x.Kind == 5) && x.Text == s) := rfl
    rw [hq]
    cases h1 : (x.Kind == 2) <;> cases h2 : (x.Kind == 5) <;> cases h3 : (x.Text == s)
    all_goals
      simp only [bodyOf, Tryz.f140, Cat, Zs, awanted, aoper, evalO, put, acallOp, abuiltin, Nat.reduceEqDiff, Nat.reduceLT, ofV, ofCell, ↓reduceIte, hl, i0, i1, CP, ew, TyP.ze42, TyP.own_parse_go_25, hw1_ab, TyP.st42, hw1_st, TyP.fa42_0, TyP.fa42_1, dropCells, Nat.zero_add, Nat.add_zero, TyP.ld3, TyP.ld9, hw1_k, hw1_t, h1, h2, h3, eql_s, bq1, bq2, bq3, bq4, Bool.or_self, Bool.or_true, Bool.true_or, Bool.and_self, Bool.and_true, Bool.true_and, Bool.and_false, Bool.false_and]
      exact ⟨_, rfl, by simp [hl]⟩
  obtain ⟨t, he, t4⟩ := p
  have := dok (f := 140) (args := [.ptr 2 0, .str s]) (r := x :: r) E hg Tryz.func140 rfl rfl rfl rfl rfl rfl he (.inl rfl) (vs := [.bool (isH s (x :: r))]) (v := .bool (isH s (x :: r)))
    (by simp only [show Tryz.f140.results.toList = [ResultVar.tmp 4] from rfl, aresults, ares1, t4]; rfl) (Nrm.of (w := .bool _) rfl) (hw1_at x)
  rw [hg.same] at this
  exact this
def ixW (o : Option Nat) : Int := match o with
  | some i => (i : Int)
  | none => -1
noncomputable def lp139 : Code := Cat [true, false, true, true, true] (bodyOf Tryz.f139)
theorem which_drop (l : List Bs) (ws : List Word) (j : Nat) (hj : ∀ i s, i < j → l[i]? = some s → isH s ws = false) : which l ws = (which (l.drop j) ws).map (· + j) := by
  induction j generalizing l with
  | zero => simp
  | succ j ih =>
    cases l with
    | nil => simp [which]
    | cons s l =>
      have h0 : isH s ws = false := hj 0 s (by omega) rfl
      rw [List.drop_succ_cons, which, h0, ih l fun i u hi hu => hj (i + 1) u (by omega) (by simpa using hu)]
      cases which (l.drop j) ws <;> simp <;> omega
theorem loop139 (E : Mem w all) (hw : Wf all ws) (l : List Bs) (vl : AVal) (hv : Sl rS l vl) (hll : l.length ≤ 1000) :
    ∀ (k j : Nat) (hk : k + j = l.length) (hpre : ∀ i s, i < j → l[i]? = some s → isH s ws = false) (a : List AVal) (hl : a.length = 19) (i0 : a[0]? = some vl) (i1 : a[1]? = some (.fn (.func 140) [.ptr 2 0] [])) (i7 : a[7]? = some (.int .i64 l.length)) (i8 : a[8]? = some (.int .i64 j)),
      ∃ t, t.length = 19 ∧ ((∃ i, which l ws = some i ∧ ex Cp (.loop lp139) ⟨a, H0 w all ws⟩ = some (.ret, ⟨t, H0 w all ws⟩) ∧ t[4]? = some (.int .i64 i)) ∨ (which l ws = none ∧ ex Cp (.loop lp139) ⟨a, H0 w all ws⟩ = some (.exit 0, ⟨t, H0 w all ws⟩))) := by
  intro k
  induction k with
  | zero =>
    intro j hk hpre a hl i0 i1 i7 i8
    have hg : decide ((j : Int) < (l.length : Int)) = false := by simp; omega
    have hn : which l ws = none := by
      rw [which_drop l ws j hpre, List.drop_eq_nil_of_le (by omega)]; rfl
    have p : ∃ t, t.length = 19 ∧ ex Cp lp139 ⟨a, H0 w all ws⟩ = some (.exit 0, ⟨t, H0 w all ws⟩) := by
      simp only [lp139, bodyOf, Tryz.f139, Cat, Zs, awanted, aoper, evalO, put, acallOp, abuiltin, Nat.reduceEqDiff, Nat.reduceLT, ofV, ofCell, ↓reduceIte, hl, i0, i1, i7, i8, CP, bq1, bq2, bq3, bq4, hg]
      exact ⟨_, by simp [hl], rfl⟩
    obtain ⟨t, tl, e⟩ := p
    exact ⟨t, tl, .inr ⟨hn, by rw [e_loop, e]; rfl⟩⟩
  | succ k ih =>
    intro j hk hpre a hl i0 i1 i7 i8
    have hg : decide ((j : Int) < (l.length : Int)) = true := by simp; omega
    obtain ⟨s, hs⟩ : ∃ s, l[j]? = some s := ⟨_, List.getElem?_eq_getElem (by omega)⟩
    have hat : at? l (j : Int) = some s := by rw [at_nat]; exact hs
    obtain ⟨cu, du, eu, iu, _⟩ := Sl.ix rS_p hv hat
    subst eu
    obtain ⟨x, r, rfl⟩ := hw.cons
    have ew := is_run E hw s (At0.H0 (w := w) (all := all) (ws := x :: r))
    have hw1 : IntKind.i64.wrap ((j : Int) + 1) = ((j + 1 : Nat) : Int) := by rw [wrap64 (by omega) (by omega)]; rfl
    cases hh : isH s (x :: r) with
    | true =>
      rw [hh] at ew
      have p : ∃ t, t.length = 19 ∧ ex Cp lp139 ⟨a, H0 w all (x :: r)⟩ = some (.ret, ⟨t, H0 w all (x :: r)⟩) ∧ t[4]? = some (.int .i64 j) := by
        simp only [lp139, bodyOf, Tryz.f139, Cat, Zs, awanted, aoper, evalO, put, acallOp, abuiltin, Nat.reduceEqDiff, Nat.reduceLT, ofV, ofCell, ↓reduceIte, hl, i0, i1, i7, i8, CP, bq1, bq2, bq3, bq4, hg, TyP.ix52, iu, TyP.ld9, ld_ip, ofc1, List.cons_append, List.nil_append, ew]
        exact ⟨_, by simp [hl], rfl, by simp [hl]⟩
      obtain ⟨t, tl, e, t4⟩ := p
      refine ⟨t, tl, .inl ⟨j, ?_, by rw [e_loop, e]; rfl, t4⟩⟩
      rw [which_drop l _ j hpre]
      have : l.drop j = s :: l.drop (j + 1) := by
        rw [List.drop_eq_getElem_cons (by omega)]
        rw [List.getElem?_eq_getElem (by omega)] at hs
        rw [Option.some.inj hs]
      rw [this, which, hh]; simp
    | false =>
      rw [hh] at ew
      have p : ∃ t, ex Cp lp139 ⟨a, H0 w all (x :: r)⟩ = some (.normal, ⟨t, H0 w all (x :: r)⟩) ∧ t.length = 19 ∧ t[0]? = some vl ∧ t[1]? = some (.fn (.func 140) [.ptr 2 0] []) ∧ t[7]? = some (.int .i64 l.length) ∧ t[8]? = some (.int .i64 ((j + 1 : Nat) : Int)) := by
        simp only [lp139, bodyOf, Tryz.f139, Cat, Zs, awanted, aoper, evalO, put, acallOp, abuiltin, Nat.reduceEqDiff, Nat.reduceLT, ofV, ofCell, ↓reduceIte, hl, i0, i1, i7, i8, CP, bq1, bq2, bq3, bq4, hg, TyP.ix52, iu, TyP.ld9, ld_ip, ofc1, List.cons_append, List.nil_append, ew, hw1]
        exact ⟨_, rfl, by simp [hl], by simp [i0], by simp [i1], by simp [i7], by simp [hl]⟩
      obtain ⟨t, e, tl, t0, t1, t7, t8⟩ := p
      obtain ⟨t', tl', h'⟩ := ih (j + 1) (by omega) (fun i u hi hu => by
        rcases Nat.lt_or_ge i j with h | h
        · exact hpre i u h hu
        · obtain rfl : i = j := by omega
          rw [hs] at hu; cases hu; exact hh) t tl t0 t1 t7 t8
      refine ⟨t', tl', ?_⟩
      rw [e_loop, e]
      exact h'
theorem index_run (E : Mem w all) (hw : Wf all ws) (l : List Bs) (vl : AVal) (hv : Sl rS l vl) (hst : strip vl = vl) (hll : l.length ≤ 1000) {h : AHeap} (hg : At0 w all ws h) : run Cp 139 [vl, .fn (.func 140) [.ptr 2 0] []] h = some (.ret (.int .i64 (ixW (which l ws))), h) := by
  have lu := fun h => Sl.len hv TyP.un52 h
  obtain ⟨a0, ha0⟩ : ∃ a0, a0 = slots Tryz.f139 [vl, .fn (.func 140) [.ptr 2 0] []] := ⟨_, rfl⟩
  have hl : a0.length = 19 := by rw [ha0]; rfl
  have i0 : a0[0]? = some vl := by rw [ha0]; rfl
  have i1 : a0[1]? = some (.fn (.func 140) [.ptr 2 0] []) := by rw [ha0]; rfl
  have p0 : ∃ t, ex Cp (Cat [false] (bodyOf Tryz.f139)) ⟨a0, H0 w all ws⟩ = some (.normal, ⟨t, H0 w all ws⟩) ∧ t.length = 19 ∧ t[0]? = some vl ∧ t[1]? = some (.fn (.func 140) [.ptr 2 0] []) := by
    simp only [bodyOf, Tryz.f139, Cat, Zs, awanted, aoper, evalO, put, acallOp, abuiltin, Nat.reduceEqDiff, Nat.reduceLT, ofV, ofCell, ↓reduceIte, hl, i0, i1, CP]
    exact ⟨_, rfl, by simp [hl], by simp [i0], by simp [i1]⟩
  obtain ⟨t0, x0, tl0, t00, t01⟩ := p0
  have p1 : ∃ t, ex Cp (Cat [true, false, false] (bodyOf Tryz.f139)) ⟨t0, H0 w all ws⟩ = some (.normal, ⟨t, H0 w all ws⟩) ∧ t.length = 19 ∧ t[0]? = some vl ∧ t[1]? = some (.fn (.func 140) [.ptr 2 0] []) ∧ t[7]? = some (.int .i64 l.length) ∧ t[8]? = some (.int .i64 (0 : Nat)) := by
    simp only [bodyOf, Tryz.f139, Cat, Zs, awanted, aoper, evalO, put, acallOp, abuiltin, Nat.reduceEqDiff, Nat.reduceLT, ofV, ofCell, ↓reduceIte, tl0, t00, t01, CP, lu]
    exact ⟨_, rfl, by simp [tl0], by simp [t00], by simp [t01], by simp [tl0], by simp [tl0]⟩
  obtain ⟨t1, x1, tl1, t10, t11, t17, t18⟩ := p1
  obtain ⟨t2, tl2, h2⟩ := loop139 E hw l vl hv hll l.length 0 (by omega) (fun i s hi => by omega) t1 tl1 t10 t11 t17 t18
  have p : ∃ t, ex Cp (bodyOf Tryz.f139) ⟨a0, H0 w all ws⟩ = some (.ret, ⟨t, H0 w all ws⟩) ∧ t[4]? = some (.int .i64 (ixW (which l ws))) := by
    rw [show bodyOf Tryz.f139 = .seq (Cat [false] (bodyOf Tryz.f139)) (.seq (.seq (Cat [true, false, false] (bodyOf Tryz.f139)) (.block 0 (.loop lp139))) (Cat [true, true] (bodyOf Tryz.f139))) from rfl]
    rw [e_seq, x0]
    simp only [k_seq]
    rw [e_seq, e_seq, x1]
    simp only [k_seq]
    rcases h2 with ⟨i, hi, e, t4⟩ | ⟨hn, e⟩
    · rw [e_block, e]
      exact ⟨t2, rfl, by rw [hi]; exact t4⟩
    · rw [e_block, e]
      simp only [k_block_exit, if_true, k_seq, hn, ixW]
      simp only [bodyOf, Tryz.f139, Cat, Zs, awanted, aoper, evalO, put, acallOp, abuiltin, Nat.reduceEqDiff, Nat.reduceLT, ofV, ofCell, ↓reduceIte, tl2]
      exact ⟨_, rfl, by simp [tl2]⟩
  obtain ⟨t, he, t4⟩ := p
  rw [ha0] at he
  have := dok (f := 139) (args := [vl, .fn (.func 140) [.ptr 2 0] []]) (r := ws) E hg Tryz.func139 rfl rfl rfl rfl (by simp only [refsL, refs, hv.refs rS_p, List.append_nil, List.nil_append]; rfl) (by simp only [stripL, hst]; rfl) he (.inl rfl) (vs := [.int .i64 (ixW (which l ws))]) (v := .int .i64 (ixW (which l ws)))
    (by simp only [show Tryz.f139.results.toList = [ResultVar.tmp 4] from rfl, aresults, ares1, t4]; rfl) (Nrm.of (w := .int _ _) rfl) At0.H0
  rw [hg.same] at this
  exact this
end
end Go.Proofs.Q.Par



set_option linter.unusedSimpArgs false
set_option linter.unusedVariables false
set_option maxRecDepth 100000
namespace Go.Proofs.Q.Par
open Go Go.Am Go.Proofs
section
variable {w : AVal} {all ws : List Word}
theorem take_none (E : Mem w all) (hw : Wf all ws) (l : List Bs) (vl : AVal) (hv : Sl rS l vl) (hst : strip vl = vl) (hll : l.length ≤ 1000) (hi : which l ws = none) {h : AHeap} (hg : At0 w all ws h) : run Cp 110 [.ptr 2 0, vl] h = some (.ret (.int .i64 (-1)), h) := by
  have ei := index_run E hw l vl hv hst hll (At0.H0 (w := w) (all := all) (ws := ws))
  rw [hi] at ei
  have p : ∃ t, ex Cp (bodyOf Tryz.f110) ⟨slots Tryz.f110 [.ptr 2 0, vl], H0 w all ws⟩ = some (.ret, ⟨t, H0 w all ws⟩) ∧ t[4]? = some (.int .i64 (-1)) := by
    obtain ⟨a0, ha0⟩ : ∃ a0, a0 = slots Tryz.f110 [.ptr 2 0, vl] := ⟨_, rfl⟩
    have hl : a0.length = 20 := by rw [ha0]; rfl
    have i0 : a0[0]? = some (.ptr 2 0) := by rw [ha0]; rfl
    have i1 : a0[1]? = some vl := by rw [ha0]; rfl
    rw [← ha0]
    simp only [bodyOf, Tryz.f110, Cat, Zs, awanted, aoper, evalO, put, acallOp, abuiltin, Nat.reduceEqDiff, Nat.reduceLT, ofV, ofCell, ↓reduceIte, hl, i0, i1, CP, ei, ixW, show decide ((-1 : Int) ≥ 0) = false from rfl]
    exact ⟨_, rfl, by simp [hl]⟩
  obtain ⟨t, he, t4⟩ := p
  have := dok (f := 110) (args := [.ptr 2 0, vl]) (r := ws) E hg Tryz.func110 rfl rfl rfl rfl (by simp only [refsL, refs, hv.refs rS_p, List.append_nil, List.nil_append]; rfl) (by simp only [stripL, hst]; rfl) he (.inl rfl) (vs := [.int .i64 (-1)]) (v := .int .i64 (-1))
    (by simp only [show Tryz.f110.results.toList = [ResultVar.tmp 4] from rfl, aresults, ares1, t4]; rfl) (Nrm.of (w := .int _ _) rfl) At0.H0
  rw [hg.same] at this
  exact this
theorem take_some (E : Mem w all) (hw : Wf all ws) (l : List Bs) (vl : AVal) (hv : Sl rS l vl) (hst : strip vl = vl) (hll : l.length ≤ 1000) {i : Nat} (hi : which l ws = some i) {h : AHeap} (hg : At0 w all ws h) : run Cp 110 [.ptr 2 0, vl] h = some (.ret (.int .i64 i), to0 w all (ws.drop 1) h) := by
  have ei := index_run E hw l vl hv hst hll (At0.H0 (w := w) (all := all) (ws := ws))
  rw [hi] at ei
  obtain ⟨x, r, rfl⟩ := hw.cons
  have l1 : loadA (H0 w all (x :: r)) false 1 (.ptr 2 1) = some (.int .i64 ((all.length - (x :: r).length : Nat) : Int)) := Heap.load_at At0.H0 rfl
  have sa := adv hw (At0.H0 (w := w) (all := all) (ws := x :: r))
  rw [to_H0] at sa
  have p : ∃ t, ex Cp (bodyOf Tryz.f110) ⟨slots Tryz.f110 [.ptr 2 0, vl], H0 w all (x :: r)⟩ = some (.ret, ⟨t, H0 w all r⟩) ∧ t[4]? = some (.int .i64 i) := by
    obtain ⟨a0, ha0⟩ : ∃ a0, a0 = slots Tryz.f110 [.ptr 2 0, vl] := ⟨_, rfl⟩
    have hl : a0.length = 20 := by rw [ha0]; rfl
    have i0 : a0[0]? = some (.ptr 2 0) := by rw [ha0]; rfl
    have i1 : a0[1]? = some vl := by rw [ha0]; rfl
    rw [← ha0]
    have hd : decide ((i : Int) ≥ 0) = true := by simp
    simp only [bodyOf, Tryz.f110, Cat, Zs, awanted, aoper, evalO, put, acallOp, abuiltin, Nat.reduceEqDiff, Nat.reduceLT, ofV, ofCell, ↓reduceIte, hl, i0, i1, CP, ei, ixW, hd, TyP.fa97_1, dropCells, Nat.zero_add, TyP.ld3, l1, TyP.st3, sa]
    exact ⟨_, rfl, by simp [hl]⟩
  obtain ⟨t, he, t4⟩ := p
  exact dok (f := 110) (args := [.ptr 2 0, vl]) (r := r) E hg Tryz.func110 rfl rfl rfl rfl (by simp only [refsL, refs, hv.refs rS_p, List.append_nil, List.nil_append]; rfl) (by simp only [stripL, hst]; rfl) he (.inl rfl) (vs := [.int .i64 i]) (v := .int .i64 i)
    (by simp only [show Tryz.f110.results.toList = [ResultVar.tmp 4] from rfl, aresults, ares1, t4]; rfl) (Nrm.of (w := .int _ _) rfl) At0.H0
def litS (l : List Bs) : AVal := .lst (l.map .str) l.length .full
theorem litS_sl (l : List Bs) : Sl rS l (litS l) := by
  have e : Els rS l (l.map fun s => [.str s]) := by
    induction l with
    | nil => exact .nil
    | cons s l ih => exact .cons rfl ih
  have h := Sl.lst .full e
  have hf : (l.map fun s => [AVal.str s]).flatten = l.map AVal.str := by
    clear e h
    induction l with
    | nil => rfl
    | cons s l ih => simp only [List.map_cons, List.flatten_cons, ih]; rfl
  rw [hf, List.length_map] at h
  exact h
theorem litS_st (l : List Bs) : strip (litS l) = litS l := by
  have : stripL (l.map AVal.str) = l.map AVal.str := by
    induction l with
    | nil => rfl
    | cons s l ih => simp only [List.map_cons, stripL, ih]; rfl
  simp only [litS, strip, this]
theorem one_no (E : Mem w all) (hw : Wf all ws) (s : Bs) (hs : isH s ws = false) {h : AHeap} (hg : At0 w all ws h) : run Cp 110 [.ptr 2 0, .lst [.str s] 1 .full] h = some (.ret (.int .i64 (-1)), h) :=
  take_none E hw [s] (.lst [.str s] 1 .full) (litS_sl [s]) rfl (by simp) (by simp [which, hs]) hg
theorem one_yes (E : Mem w all) (hw : Wf all ws) (s : Bs) (hs : isH s ws = true) {h : AHeap} (hg : At0 w all ws h) : run Cp 110 [.ptr 2 0, .lst [.str s] 1 .full] h = some (.ret (.int .i64 (0 : Nat)), to0 w all (ws.drop 1) h) :=
  take_some E hw [s] (.lst [.str s] 1 .full) (litS_sl [s]) rfl (by simp) (by simp [which, hs]) hg
noncomputable def lp106 : Code := Cat [true, true, true] (bodyOf Tryz.f106)
theorem loop106 (E : Mem w all) (l : List Bs) (vl : AVal) (hv : Sl rS l vl) (hll : l.length ≤ 1000) :
    ∀ (q p : List Bs) (hq : l = p ++ q) (ws : List Word) (hw : Wf all ws) (a : List AVal) (hl : a.length = 20) (i0 : a[0]? = some (.ptr 2 0)) (i6 : a[6]? = some vl) (i7 : a[7]? = some (.int .i64 l.length)) (i8 : a[8]? = some (.int .i64 p.length)),
      match must q ws with
      | .ok _ r => Wf all r ∧ ∃ t, ex Cp (.loop lp106) ⟨a, H0 w all ws⟩ = some (.exit 0, ⟨t, H0 w all r⟩)
      | .er e => ∃ t h' cs, ex Cp (.loop lp106) ⟨a, H0 w all ws⟩ = some (.pan (flt e), ⟨t, h'⟩) ∧ h'.get 2 = some (.arr cs) ∧ refsL cs = []
      | .out => True := by
  intro q
  induction q with
  | nil =>
    intro p hq ws hw a hl i0 i6 i7 i8
    rw [List.append_nil] at hq
    have hg : decide ((p.length : Int) < (l.length : Int)) = false := by rw [hq]; simp
    refine ⟨hw, ?_⟩
    have pp : ∃ t, ex Cp lp106 ⟨a, H0 w all ws⟩ = some (.exit 0, ⟨t, H0 w all ws⟩) := by
      simp only [lp106, bodyOf, Tryz.f106, Cat, Zs, awanted, aoper, evalO, put, acallOp, abuiltin, Nat.reduceEqDiff, Nat.reduceLT, ofV, ofCell, ↓reduceIte, hl, i0, i6, i7, i8, CP, bq1, bq2, bq3, bq4, hg]
      exact ⟨_, rfl⟩
    obtain ⟨t, e⟩ := pp
    exact ⟨t, by rw [e_loop, e]; rfl⟩
  | cons s q ih =>
    intro p hq ws hw a hl i0 i6 i7 i8
    have hl2 : l.length = p.length + (q.length + 1) := by rw [hq]; simp
    have hg : decide ((p.length : Int) < (l.length : Int)) = true := by rw [hl2]; simp; omega
    have hw1 : IntKind.i64.wrap ((p.length : Int) + 1) = (((p ++ [s]).length : Nat) : Int) := by rw [wrap64 (by omega) (by omega)]; simp
    have hat : at? l (p.length : Int) = some s := by rw [hq, at_nat]; simp
    obtain ⟨cu, du, eu, iu, _⟩ := Sl.ix rS_p hv hat
    subst eu
    unfold must
    cases hs : isH s ws with
    | true =>
      simp only [if_true]
      have ey := one_yes E hw s hs (At0.H0 (w := w) (all := all) (ws := ws))
      rw [to_H0] at ey
      have hd : decide (((0 : Nat) : Int) < 0) = false := rfl
      have pp : ∃ t, ex Cp lp106 ⟨a, H0 w all ws⟩ = some (.normal, ⟨t, H0 w all (ws.drop 1)⟩) ∧ t.length = 20 ∧ t[0]? = some (.ptr 2 0) ∧ t[6]? = some vl ∧ t[7]? = some (.int .i64 l.length) ∧ t[8]? = some (.int .i64 (p ++ [s]).length) := by
        simp only [lp106, bodyOf, Tryz.f106, Cat, Zs, awanted, aoper, evalO, put, acallOp, abuiltin, Nat.reduceEqDiff, Nat.reduceLT, ofV, ofCell, ↓reduceIte, hl, i0, i6, i7, i8, CP, bq1, bq2, bq3, bq4, hg, TyP.ix52, iu, TyP.ld9, ld_ip, ofc1, List.cons_append, List.nil_append, Pz.bs52, TyP.own_parse_go_41, ey, hd, hw1]
        exact ⟨_, rfl, by simp [hl], by simp [i0], by simp [i6], by simp [i7], by simp [hl]⟩
      obtain ⟨t, e, tl, t0, t6, t7, t8⟩ := pp
      have := ih (p ++ [s]) (by rw [hq]; simp) (ws.drop 1) (hw.isH hs) t tl t0 t6 t7 t8
      rw [e_loop, e]
      exact this
    | false =>
      simp only [Bool.false_eq_true, if_false]
      have en := one_no E hw s hs (At0.H0 (w := w) (all := all) (ws := ws))
      obtain ⟨x, r, rfl⟩ := hw.cons
      obtain ⟨cs, hcs, ef⟩ := fail_run E hw 41 (At0.H0 (w := w) (all := all) (ws := x :: r))
      have hd : decide ((-1 : Int) < 0) = true := rfl
      have pp : ∃ t, ex Cp lp106 ⟨a, H0 w all (x :: r)⟩ = some (.pan (flt ⟨41, x.At⟩), ⟨t, (H0 w all (x :: r)).set 2 (some (.arr cs))⟩) := by
        simp only [lp106, bodyOf, Tryz.f106, Cat, Zs, awanted, aoper, evalO, put, acallOp, abuiltin, Nat.reduceEqDiff, Nat.reduceLT, ofV, ofCell, ↓reduceIte, hl, i0, i6, i7, i8, CP, bq1, bq2, bq3, bq4, hg, TyP.ix52, iu, TyP.ld9, ld_ip, ofc1, List.cons_append, List.nil_append, Pz.bs52, TyP.own_parse_go_41, en, hd, ef, kc_pan]
        exact ⟨_, rfl⟩
      obtain ⟨t, e⟩ := pp
      exact ⟨t, _, cs, by rw [e_loop, e]; rfl, Heap.get_set_eq, hcs⟩
theorem must_does (E : Mem w all) (hw : Wf all ws) (l : List Bs) (vl : AVal) (hv : Sl rS l vl) (hst : strip vl = vl) (hll : l.length ≤ 1000) :
    Does 106 [.ptr 2 0, vl] w all ws (fun _ v => v = .tup []) (must l ws) := by
  have lu := fun h => Sl.len hv TyP.un52 h
  obtain ⟨a0, ha0⟩ : ∃ a0, a0 = slots Tryz.f106 [.ptr 2 0, vl] := ⟨_, rfl⟩
  have hl : a0.length = 20 := by rw [ha0]; rfl
  have i0 : a0[0]? = some (.ptr 2 0) := by rw [ha0]; rfl
  have i1 : a0[1]? = some vl := by rw [ha0]; rfl
  have p0 : ∃ t, ex Cp (Cat [false] (bodyOf Tryz.f106)) ⟨a0, H0 w all ws⟩ = some (.normal, ⟨t, H0 w all ws⟩) ∧ t.length = 20 ∧ t[0]? = some (.ptr 2 0) ∧ t[6]? = some vl ∧ t[7]? = some (.int .i64 l.length) ∧ t[8]? = some (.int .i64 ([] : List Bs).length) := by
    simp only [bodyOf, Tryz.f106, Cat, Zs, awanted, aoper, evalO, put, acallOp, abuiltin, Nat.reduceEqDiff, Nat.reduceLT, ofV, ofCell, ↓reduceIte, hl, i0, i1, CP, lu]
    exact ⟨_, rfl, by simp [hl], by simp [i0], by simp [hl], by simp [hl], by simp [hl]⟩
  obtain ⟨t0, x0, tl0, t00, t06, t07, t08⟩ := p0
  have lp := loop106 E l vl hv hll l [] rfl ws hw t0 tl0 t00 t06 t07 t08
  have hb : bodyOf Tryz.f106 = .seq (Cat [false] (bodyOf Tryz.f106)) (.block 0 (.loop lp106)) := rfl
  have hids : (refsL [.ptr 2 0, vl]).eraseDups = [2] := by simp only [refsL, refs, hv.refs rS_p, List.append_nil, List.nil_append]; rfl
  have hss : stripL [.ptr 2 0, vl] = [.ptr 2 0, vl] := by simp only [stripL, hst]; rfl
  revert lp
  cases hm : must l ws with
  | ok u r =>
    rintro ⟨hwf, t, e⟩
    refine ⟨hwf, fun h hg => ?_⟩
    have he : ex Cp (bodyOf Tryz.f106) ⟨a0, H0 w all ws⟩ = some (.normal, ⟨t, H0 w all r⟩) := by
      rw [hb, e_seq, x0]
      simp only [k_seq]
      rw [e_block, e]
      rfl
    rw [ha0] at he
    exact ⟨_, rfl, dok (f := 106) (args := [.ptr 2 0, vl]) (r := r) E hg Tryz.func106 rfl rfl rfl rfl hids hss he (.inr rfl) (vs := []) (v := .tup []) rfl (Nrm.of (w := .tup []) rfl) At0.H0⟩
  | er e =>
    rintro ⟨t, h', cs, e1, g1, hc⟩ h hg
    have he : ex Cp (bodyOf Tryz.f106) ⟨a0, H0 w all ws⟩ = some (.pan (flt e), ⟨t, h'⟩) := by
      rw [hb, e_seq, x0]
      simp only [k_seq]
      rw [e_block, e1]
      rfl
    rw [ha0] at he
    exact dpan (f := 106) (args := [.ptr 2 0, vl]) E hg Tryz.func106 rfl rfl rfl rfl hids hss he g1 hc
  | out => intro _; trivial
theorem must_lit (E : Mem w all) (hw : Wf all ws) (l : List Bs) (hll : l.length ≤ 1000) : Does 106 [.ptr 2 0, litS l] w all ws (fun _ v => v = .tup []) (must l ws) := must_does E hw l _ (litS_sl l) (litS_st l) hll
theorem of_run (E : Mem w all) (k : Int) {x : Word} {r : List Word} (hw : Wf all (x :: r)) : if x.Kind = k then ∀ h, At0 w all (x :: r) h → run Cp 114 [.ptr 2 0, .int .i64 k] h = some (.ret (.str x.Text), to0 w all r h)
    else ∀ h, At0 w all (x :: r) h → Pn ⟨41, x.At⟩ h (run Cp 114 [.ptr 2 0, .int .i64 k] h) := by
  have ew := word_run E hw (At0.H0 (w := w) (all := all) (ws := x :: r))
  obtain ⟨a0, ha0⟩ : ∃ a0, a0 = slots Tryz.f114 [.ptr 2 0, .int .i64 k] := ⟨_, rfl⟩
  have hl : a0.length = 23 := by rw [ha0]; rfl
  have i0 : a0[0]? = some (.ptr 2 0) := by rw [ha0]; rfl
  have i1 : a0[1]? = some (.int .i64 k) := by rw [ha0]; rfl
  by_cases hk : x.Kind = k
  · simp only [hk, if_true]
    intro h hg
    have hd : (x.Kind != k) = false := by simp [hk]
    have l1 : loadA (hw1 w all (x :: r) x) false 1 (.ptr 2 1) = some (.int .i64 ((all.length - (x :: r).length : Nat) : Int)) := Heap.load_at (hw1_at x) rfl
    have sa := adv hw (hw1_at (w := w) (all := all) (ws := x :: r) x)
    have l2 : loadA (to0 w all r (hw1 w all (x :: r) x)) false 1 (.ptr 3 1) = some (.str x.Text) := Heap.load_at ((Heap.get_set_ne (by decide)).trans (hw1_1 x)) rfl
    have p : ∃ t, ex Cp (bodyOf Tryz.f114) ⟨a0, H0 w all (x :: r)⟩ = some (.ret, ⟨t, to0 w all r (hw1 w all (x :: r) x)⟩) ∧ t[4]? = some (.str x.Text) := by
      simp only [bodyOf, Tryz.f114, Cat, Zs, awanted, aoper, evalO, put, acallOp, abuiltin, Nat.reduceEqDiff, Nat.reduceLT, ofV, ofCell, ↓reduceIte, hl, i0, i1, CP, ew, TyP.ze42, TyP.own_parse_go_49, hw1_ab, TyP.st42, hw1_st, TyP.fa42_0, TyP.fa42_1, TyP.fa97_1, dropCells, Nat.zero_add, Nat.add_zero, TyP.ld3, TyP.ld9, hw1_k, hd, l1, TyP.st3, sa, l2]
      exact ⟨_, rfl, by simp [hl]⟩
    obtain ⟨t, he, t4⟩ := p
    rw [ha0] at he
    exact dok (f := 114) (args := [.ptr 2 0, .int .i64 k]) (r := r) E hg Tryz.func114 rfl rfl rfl rfl rfl rfl he (.inl rfl) (vs := [.str x.Text]) (v := .str x.Text)
      (by simp only [show Tryz.f114.results.toList = [ResultVar.tmp 4] from rfl, aresults, ares1, t4]; rfl) (Nrm.of (w := .str _) rfl) At0.to
  · simp only [hk, if_false]
    intro h hg
    have hd : (x.Kind != k) = true := by simp [hk]
    obtain ⟨cs, hcs, ef⟩ := fail_run E hw 41 (hw1_at (w := w) (all := all) (ws := x :: r) x)
    have p : ∃ t, ex Cp (bodyOf Tryz.f114) ⟨a0, H0 w all (x :: r)⟩ = some (.pan (flt ⟨41, x.At⟩), ⟨t, (hw1 w all (x :: r) x).set 2 (some (.arr cs))⟩) := by
      simp only [bodyOf, Tryz.f114, Cat, Zs, awanted, aoper, evalO, put, acallOp, abuiltin, Nat.reduceEqDiff, Nat.reduceLT, ofV, ofCell, ↓reduceIte, hl, i0, i1, CP, ew, TyP.ze42, TyP.own_parse_go_49, hw1_ab, TyP.st42, hw1_st, TyP.fa42_0, TyP.fa42_1, TyP.fa97_1, dropCells, Nat.zero_add, Nat.add_zero, TyP.ld3, TyP.ld9, hw1_k, hd, ef, kc_pan]
      exact ⟨_, rfl⟩
    obtain ⟨t, he⟩ := p
    rw [ha0] at he
    exact dpan (f := 114) (args := [.ptr 2 0, .int .i64 k]) E hg Tryz.func114 rfl rfl rfl rfl rfl rfl he Heap.get_set_eq hcs
theorem of_does (E : Mem w all) (hw : Wf all ws) (k : Int) (h6 : k ≠ 6) : Does 114 [.ptr 2 0, .int .i64 k] w all ws (fun s v => v = .str s) (ofKind k ws) := by
  obtain ⟨x, r, rfl⟩ := hw.cons
  have k1 := of_run E k hw
  unfold ofKind
  by_cases hk : x.Kind = k
  · simp only [hk, if_true] at k1 ⊢
    exact ⟨hw.next (by rw [hk]; exact h6), fun h hg => ⟨_, rfl, k1 h hg⟩⟩
  · simp only [hk, if_false] at k1 ⊢
    exact k1
end
end Go.Proofs.Q.Par



set_option linter.unusedSimpArgs false
set_option linter.unusedVariables false
set_option maxRecDepth 100000
namespace Go.Proofs.Q.Par
open Go Go.Am Go.Proofs
section
variable {w : AVal} {all ws : List Word}
namespace Pz
theorem in52 : ∃ i, Tryz.prog.info? 9 = some i ∧ i.size = 1 := ⟨_, rfl, rfl⟩
theorem ze52 : zeroA Tryz.prog 9 = some (.str []) := by kernel_rfl
theorem un52 : Tryz.prog.underlying 52 = some (.slice 9) := by kernel_rfl
theorem ap52 (h : AHeap) (s x : AVal) : aappend Tryz.prog false h [52, 52] [s, x] = appendA false h 1 16 s x := by kernel_rfl
theorem sa52 (h : AHeap) (x : AVal) (lo hi mx : Option AVal) (hx : ∀ s, x ≠ .str s) : aslice Tryz.prog h 52 x lo hi mx = sliceA 1 x lo hi mx := by
  cases x with
  | str s => exact absurd rfl (hx s)
  | _ => kernel_rfl
theorem sb52 {α : Type} {r : α → List AVal → Prop} {x : α} {v : AVal} (h : El r 1 x v) : abuildSlice Tryz.prog 52 1 [(0, v)] = some (v.cells, 1) := by
  obtain ⟨i, hi, hs⟩ := in52
  exact bs_one un52 hi hs (by decide) ze52 rfl h.2.1 h.2.2
end Pz
theorem clip52 {xs : List (Bs)} {v : AVal} (hv : Sl rS xs v) : ∃ v', Sl rS xs v' ∧ ∀ h, run Cp 169 [v] h = some (.ret v', h) := by
  have hs := hv.strip rS_p
  obtain ⟨c, hc⟩ : ∃ c, c = strip v := ⟨_, rfl⟩
  rw [← hc] at hs
  obtain ⟨v', hi, hv', _⟩ := Sl.cut rS_p hs (cut_all xs)
  simp only [Option.map_some, Option.map_none] at hi
  have lu := fun h => Sl.len hs Pz.un52 h
  have p : ∃ t, ex Cp (bodyOf Tryz.f169) ⟨slots Tryz.f169 [c], bare⟩ = some (.ret, ⟨t, bare⟩) ∧ t[2]? = some v' := by
    obtain ⟨a0, ha0⟩ : ∃ a0, a0 = slots Tryz.f169 [c] := ⟨_, rfl⟩
    have hl : a0.length = 9 := by rw [ha0]; rfl
    have i0 : a0[0]? = some c := by rw [ha0]; rfl
    rw [← ha0]
    simp only [bodyOf, Tryz.f169, Cat, Zs, awanted, aoper, evalO, put, acallOp, abuiltin, Nat.reduceEqDiff, Nat.reduceLT, ofV, ofCell, ↓reduceIte, hl, i0, CP, lu, hi, Pz.sa52 _ _ _ _ _ (Sl.ne_str hs)]
    exact ⟨_, rfl, by simp [hl]⟩
  obtain ⟨t, he, t2⟩ := p
  rw [hc] at he
  exact ⟨strip v', hv'.strip rS_p, pok (f := 169) (args := [v]) Tryz.func169 rfl rfl rfl rfl (by simp only [refsL, hv.refs rS_p, List.append_nil]) he (.inl rfl) (vs := [v']) (by simp only [show Tryz.f169.results.toList = [ResultVar.tmp 2] from rfl, aresults, ares1, t2]; rfl) (Nrm.of (w := v') (hv'.refs rS_p))⟩
noncomputable def lp157 : Code := Cat [true, true, false, true, true] (bodyOf Tryz.f157)
theorem loop157 (E : Mem w all) (HP : ∀ ws, Wf all ws → Does 109 [.ptr 2 0] w all ws (El rS 1) (pName ws)) :
    ∀ (m : Nat) (ws : List Word) (hw : Wf all ws) (acc : List (Bs)) (hacc : acc.length + ws.length ≤ 10000) (h : AHeap) (g : At0 w all ws h) (h0 : 2 < h.next) (v : AVal) (gv : Gr rS 1 acc v h) (a : List AVal) (hl : a.length = 20) (i0 : a[0]? = some (.ptr 2 0)) (i1 : a[1]? = some (.fn (.func 109) [.ptr 2 0] [])) (i5 : a[5]? = some v),
      match sevRest pName m ws with
      | .ok l r' => Wf all r' ∧ ∃ t h' v', ex Cp (.loop lp157) ⟨a, h⟩ = some (.exit 0, ⟨t, h'⟩) ∧ t.length = 20 ∧ t[5]? = some v' ∧ At0 w all r' h' ∧ Sl rS (acc ++ l) v'
      | .er e => ∃ t h' cs, ex Cp (.loop lp157) ⟨a, h⟩ = some (.pan (flt e), ⟨t, h'⟩) ∧ h'.get 2 = some (.arr cs) ∧ refsL cs = []
      | .out => True := by
  intro m
  induction m with
  | zero => intro ws hw acc hacc h g h0 v gv a hl i0 i1 i5; exact trivial
  | succ m ih =>
    intro ws hw acc hacc h g h0 v gv a hl i0 i1 i5
    unfold sevRest
    cases hb : isH ([44] : List UInt8) ws with
    | false =>
      simp only [Bool.false_eq_true, if_false]
      have en := one_no E hw ([44] : List UInt8) hb g
      have hd : decide ((-1 : Int) ≥ 0) = false := rfl
      have pp : ∃ t, ex Cp lp157 ⟨a, h⟩ = some (.exit 0, ⟨t, h⟩) ∧ t.length = 20 ∧ t[5]? = some v := by
        simp only [lp157, bodyOf, Tryz.f157, Cat, Zs, awanted, aoper, evalO, put, acallOp, abuiltin, Nat.reduceEqDiff, Nat.reduceLT, ofV, ofCell, ↓reduceIte, hl, i0, i1, i5, CP, bq1, bq2, bq3, bq4, Pz.bs52, TyP.own_parse_go_60, en, hd]
        exact ⟨_, rfl, by simp [hl], by simp [i5]⟩
      obtain ⟨t, e, tl, t5⟩ := pp
      exact ⟨hw, t, h, v, by rw [e_loop, e]; rfl, tl, t5, g, by rw [List.append_nil]; exact gv.1⟩
    | true =>
      simp only [if_true]
      have ey := one_yes E hw ([44] : List UInt8) hb g
      have hd : decide (((0 : Nat) : Int) ≥ 0) = true := rfl
      have hw1 := hw.isH hb
      obtain ⟨x0, r0, rfl⟩ := hw.cons
      rw [List.drop_succ_cons, List.drop_zero] at ey hw1 ⊢
      have dp := HP r0 hw1
      cases hp : pName r0 with
      | out => exact trivial
      | er e =>
        rw [hp] at dp
        rw [R.bind_er]
        obtain ⟨cs, hcs, ef⟩ := dp (to0 w all r0 h) At0.to
        have pp : ∃ t, ex Cp lp157 ⟨a, h⟩ = some (.pan (flt e), ⟨t, (to0 w all r0 h).set 2 (some (.arr cs))⟩) := by
          simp only [lp157, bodyOf, Tryz.f157, Cat, Zs, awanted, aoper, evalO, put, acallOp, abuiltin, Nat.reduceEqDiff, Nat.reduceLT, ofV, ofCell, ↓reduceIte, hl, i0, i1, i5, CP, bq1, bq2, bq3, bq4, Pz.bs52, TyP.own_parse_go_60, ey, hd, ef, kc_pan]
          exact ⟨_, rfl⟩
        obtain ⟨t, e1⟩ := pp
        exact ⟨t, _, cs, by rw [e_loop, e1]; rfl, Heap.get_set_eq, hcs⟩
      | ok x r =>
        rw [hp] at dp
        rw [R.bind_ok]
        obtain ⟨hwr, dp⟩ := dp
        obtain ⟨xv, hx, ex1⟩ := dp (to0 w all r0 h) At0.to
        rw [to_to] at ex1
        have hlen := (ofKind_shr 1) _ _ _ hp
        simp only [List.length_cons] at hacc
        have gv1 : Gr rS 1 acc v (to0 w all r h) := Gr.keep gv (Nat.le_refl _) fun i hi => Heap.get_set_ne (Gr.ne_arr gv g i hi)
        obtain ⟨v', h2, pa, gv2, hn2, hk2, _⟩ := Gr.app rS_p gv1 hx.sl (app_ok 16 (by decide) acc x (by omega))
        have g2 : At0 w all r h2 := (hk2 2 h0 (Gr.not_acc gv1 At0.to)).trans At0.to
        have pp : ∃ t, ex Cp lp157 ⟨a, h⟩ = some (.normal, ⟨t, h2⟩) ∧ t.length = 20 ∧ t[0]? = some (.ptr 2 0) ∧ t[1]? = some (.fn (.func 109) [.ptr 2 0] []) ∧ t[5]? = some v' := by
          simp only [lp157, bodyOf, Tryz.f157, Cat, Zs, awanted, aoper, evalO, put, acallOp, abuiltin, Nat.reduceEqDiff, Nat.reduceLT, ofV, ofCell, ↓reduceIte, hl, i0, i1, i5, CP, bq1, bq2, bq3, bq4, Pz.bs52, TyP.own_parse_go_60, TyP.own_parse_go_61, ey, hd, ex1, Pz.sb52 hx, Pz.ap52, pa]
          exact ⟨_, rfl, by simp [hl], by simp [i0], by simp [i1], by simp [hl]⟩
        obtain ⟨t, e, tl, t0, t1, t5⟩ := pp
        have k := ih r hwr (acc ++ [x]) (by simp only [List.length_append, List.length_cons, List.length_nil]; omega) h2 g2 (Nat.lt_of_lt_of_le h0 hn2) v' gv2 t tl t0 t1 t5
        cases hq : sevRest pName m r with
        | out => exact trivial
        | er f =>
          rw [hq] at k
          obtain ⟨t', h', cs, e1, k1⟩ := k
          exact ⟨t', h', cs, by rw [e_loop, e]; exact e1, k1⟩
        | ok l r' =>
          rw [hq] at k
          obtain ⟨k0, t', h', v1, e1, k1, k2, k3, k4⟩ := k
          exact ⟨k0, t', h', v1, by rw [e_loop, e]; exact e1, k1, k2, k3, by rw [List.append_assoc] at k4; exact k4⟩
theorem sev157 (E : Mem w all) (HP : ∀ ws, Wf all ws → Does 109 [.ptr 2 0] w all ws (El rS 1) (pName ws)) (hw : Wf all ws) :
    Does 157 [.ptr 2 0, .fn (.func 109) [.ptr 2 0] []] w all ws (Sl rS) (several pName ws) := by
  obtain ⟨a0, ha0⟩ : ∃ a0, a0 = slots Tryz.f157 [.ptr 2 0, .fn (.func 109) [.ptr 2 0] []] := ⟨_, rfl⟩
  have hl : a0.length = 20 := by rw [ha0]; rfl
  have i0 : a0[0]? = some (.ptr 2 0) := by rw [ha0]; rfl
  have i1 : a0[1]? = some (.fn (.func 109) [.ptr 2 0] []) := by rw [ha0]; rfl
  have hb : bodyOf Tryz.f157 = .seq (Cat [false] (bodyOf Tryz.f157)) (.seq (Cat [true, false] (bodyOf Tryz.f157)) (.seq (.block 0 (.loop lp157)) (Cat [true, true, true] (bodyOf Tryz.f157)))) := rfl
  unfold several
  have dp := HP ws hw
  have p0 : ∃ t, ex Cp (Cat [false] (bodyOf Tryz.f157)) ⟨a0, H0 w all ws⟩ = some (.normal, ⟨t, H0 w all ws⟩) ∧ t.length = 20 ∧ t[0]? = some (.ptr 2 0) ∧ t[1]? = some (.fn (.func 109) [.ptr 2 0] []) := by
    simp only [bodyOf, Tryz.f157, Cat, Zs, awanted, aoper, evalO, put, acallOp, abuiltin, Nat.reduceEqDiff, Nat.reduceLT, ofV, ofCell, ↓reduceIte, hl, i0, i1, CP]
    exact ⟨_, rfl, by simp [hl], by simp [i0], by simp [i1]⟩
  obtain ⟨t0, x0, tl0, t00, t01⟩ := p0
  cases hp : pName ws with
  | out => exact trivial
  | er e =>
    rw [hp] at dp
    intro h hg
    obtain ⟨cs, hcs, ef⟩ := dp (H0 w all ws) At0.H0
    have pp : ∃ t, ex Cp (Cat [true, false] (bodyOf Tryz.f157)) ⟨t0, H0 w all ws⟩ = some (.pan (flt e), ⟨t, (H0 w all ws).set 2 (some (.arr cs))⟩) := by
      simp only [bodyOf, Tryz.f157, Cat, Zs, awanted, aoper, evalO, put, acallOp, abuiltin, Nat.reduceEqDiff, Nat.reduceLT, ofV, ofCell, ↓reduceIte, tl0, t00, t01, CP, ef, kc_pan]
      exact ⟨_, rfl⟩
    obtain ⟨t, e1⟩ := pp
    have he : ex Cp (bodyOf Tryz.f157) ⟨a0, H0 w all ws⟩ = some (.pan (flt e), ⟨t, (H0 w all ws).set 2 (some (.arr cs))⟩) := by
      rw [hb, e_seq, x0]
      simp only [k_seq]
      rw [e_seq, e1]
      rfl
    rw [ha0] at he
    exact dpan (f := 157) (args := [.ptr 2 0, .fn (.func 109) [.ptr 2 0] []]) E hg Tryz.func157 rfl rfl rfl rfl rfl rfl he Heap.get_set_eq hcs
  | ok x r =>
    rw [hp] at dp
    obtain ⟨hwr, dp⟩ := dp
    obtain ⟨xv, hx, ex1⟩ := dp (H0 w all ws) At0.H0
    rw [to_H0] at ex1
    have pp : ∃ t, ex Cp (Cat [true, false] (bodyOf Tryz.f157)) ⟨t0, H0 w all ws⟩ = some (.normal, ⟨t, H0 w all r⟩) ∧ t.length = 20 ∧ t[0]? = some (.ptr 2 0) ∧ t[1]? = some (.fn (.func 109) [.ptr 2 0] []) ∧ t[5]? = some (.lst xv.cells 1 .full) := by
      simp only [bodyOf, Tryz.f157, Cat, Zs, awanted, aoper, evalO, put, acallOp, abuiltin, Nat.reduceEqDiff, Nat.reduceLT, ofV, ofCell, ↓reduceIte, tl0, t00, t01, CP, ex1, Pz.sb52 hx, TyP.own_parse_go_59]
      exact ⟨_, rfl, by simp [tl0], by simp [t00], by simp [t01], by simp [tl0]⟩
    obtain ⟨t1, x1, tl1, t10, t11, t15⟩ := pp
    have hle := (ofKind_shr 1) _ _ _ hp
    have hsm := hw.len
    have hsm2 := hw.small
    have k := loop157 E HP (r.length + 1) r hwr [x] (by simp only [List.length_cons, List.length_nil]; omega) (H0 w all r) At0.H0 (one_lt _ _) _ (hx.gr _) t1 tl1 t10 t11 t15
    simp only [R.bind_ok]
    cases hq : sevRest pName (r.length + 1) r with
    | out => exact trivial
    | er f =>
      rw [hq] at k
      intro h hg
      obtain ⟨t', h', cs, e1, k1, k2⟩ := k
      have he : ex Cp (bodyOf Tryz.f157) ⟨a0, H0 w all ws⟩ = some (.pan (flt f), ⟨t', h'⟩) := by
        rw [hb, e_seq, x0]
        simp only [k_seq]
        rw [e_seq, x1]
        simp only [k_seq]
        rw [e_seq, e_block, e1]
        rfl
      rw [ha0] at he
      exact dpan (f := 157) (args := [.ptr 2 0, .fn (.func 109) [.ptr 2 0] []]) E hg Tryz.func157 rfl rfl rfl rfl rfl rfl he k1 k2
    | ok l r' =>
      rw [hq] at k
      obtain ⟨k0, t', h', v1, e1, k1, k2, k3, k4⟩ := k
      refine ⟨k0, fun h hg => ?_⟩
      obtain ⟨v2, hv2, ec⟩ := clip52 k4
      have p3 : ∃ t, ex Cp (Cat [true, true, true] (bodyOf Tryz.f157)) ⟨t', h'⟩ = some (.ret, ⟨t, h'⟩) ∧ t[4]? = some v2 := by
        simp only [bodyOf, Tryz.f157, Cat, Zs, awanted, aoper, evalO, put, acallOp, abuiltin, Nat.reduceEqDiff, Nat.reduceLT, ofV, ofCell, ↓reduceIte, k1, k2, CP, ec]
        exact ⟨_, rfl, by simp [k1]⟩
      obtain ⟨t3, x3, t34⟩ := p3
      have he : ex Cp (bodyOf Tryz.f157) ⟨a0, H0 w all ws⟩ = some (.ret, ⟨t3, h'⟩) := by
        rw [hb, e_seq, x0]
        simp only [k_seq]
        rw [e_seq, x1]
        simp only [k_seq]
        rw [e_seq, e_block, e1]
        simp only [k_block_exit, if_true, k_seq]
        exact x3
      rw [ha0] at he
      exact ⟨strip v2, hv2.strip rS_p, dok (f := 157) (args := [.ptr 2 0, .fn (.func 109) [.ptr 2 0] []]) (r := r') E hg Tryz.func157 rfl rfl rfl rfl rfl rfl he (.inl rfl) (vs := [v2]) (v := strip v2)
        (by simp only [show Tryz.f157.results.toList = [ResultVar.tmp 4] from rfl, aresults, ares1, t34]; rfl) (Nrm.of (w := v2) (hv2.refs rS_p)) k3⟩
end
end Go.Proofs.Q.Par



set_option linter.unusedSimpArgs false
set_option linter.unusedVariables false
set_option maxRecDepth 100000
namespace Go.Proofs.Q.Par
open Go Go.Am Go.Proofs
section
variable {w : AVal} {all ws : List Word}
namespace Pz
theorem in23 : ∃ i, Tryz.prog.info? 45 = some i ∧ i.size = 2 := ⟨_, rfl, rfl⟩
theorem ze23 : zeroA Tryz.prog 45 = some (.agg [.int .i64 0, .str []]) := by kernel_rfl
theorem un23 : Tryz.prog.underlying 23 = some (.slice 45) := by kernel_rfl
theorem ap23 (h : AHeap) (s x : AVal) : aappend Tryz.prog false h [23, 23] [s, x] = appendA false h 2 24 s x := by kernel_rfl
theorem sa23 (h : AHeap) (x : AVal) (lo hi mx : Option AVal) (hx : ∀ s, x ≠ .str s) : aslice Tryz.prog h 23 x lo hi mx = sliceA 2 x lo hi mx := by
  cases x with
  | str s => exact absurd rfl (hx s)
  | _ => kernel_rfl
theorem sb23 {α : Type} {r : α → List AVal → Prop} {x : α} {v : AVal} (h : El r 2 x v) : abuildSlice Tryz.prog 23 1 [(0, v)] = some (v.cells, 2) := by
  obtain ⟨i, hi, hs⟩ := in23
  exact bs_one un23 hi hs (by decide) ze23 rfl h.2.1 h.2.2
end Pz
theorem clip23 {xs : List (Item)} {v : AVal} (hv : Sl rItem xs v) : ∃ v', Sl rItem xs v' ∧ ∀ h, run Cp 137 [v] h = some (.ret v', h) := by
  have hs := hv.strip rItem_p
  obtain ⟨c, hc⟩ : ∃ c, c = strip v := ⟨_, rfl⟩
  rw [← hc] at hs
  obtain ⟨v', hi, hv', _⟩ := Sl.cut rItem_p hs (cut_all xs)
  simp only [Option.map_some, Option.map_none] at hi
  have lu := fun h => Sl.len hs Pz.un23 h
  have p : ∃ t, ex Cp (bodyOf Tryz.f137) ⟨slots Tryz.f137 [c], bare⟩ = some (.ret, ⟨t, bare⟩) ∧ t[2]? = some v' := by
    obtain ⟨a0, ha0⟩ : ∃ a0, a0 = slots Tryz.f137 [c] := ⟨_, rfl⟩
    have hl : a0.length = 9 := by rw [ha0]; rfl
    have i0 : a0[0]? = some c := by rw [ha0]; rfl
    rw [← ha0]
    simp only [bodyOf, Tryz.f137, Cat, Zs, awanted, aoper, evalO, put, acallOp, abuiltin, Nat.reduceEqDiff, Nat.reduceLT, ofV, ofCell, ↓reduceIte, hl, i0, CP, lu, hi, Pz.sa23 _ _ _ _ _ (Sl.ne_str hs)]
    exact ⟨_, rfl, by simp [hl]⟩
  obtain ⟨t, he, t2⟩ := p
  rw [hc] at he
  exact ⟨strip v', hv'.strip rItem_p, pok (f := 137) (args := [v]) Tryz.func137 rfl rfl rfl rfl (by simp only [refsL, hv.refs rItem_p, List.append_nil]) he (.inl rfl) (vs := [v']) (by simp only [show Tryz.f137.results.toList = [ResultVar.tmp 2] from rfl, aresults, ares1, t2]; rfl) (Nrm.of (w := v') (hv'.refs rItem_p))⟩
noncomputable def lp107 : Code := Cat [true, true, false, true, true] (bodyOf Tryz.f107)
theorem loop107 (E : Mem w all) (HP : ∀ ws, Wf all ws → Does 108 [.ptr 2 0] w all ws (El rItem 2) (pItem ws)) :
    ∀ (m : Nat) (ws : List Word) (hw : Wf all ws) (acc : List (Item)) (hacc : acc.length + ws.length ≤ 10000) (h : AHeap) (g : At0 w all ws h) (h0 : 2 < h.next) (v : AVal) (gv : Gr rItem 2 acc v h) (a : List AVal) (hl : a.length = 20) (i0 : a[0]? = some (.ptr 2 0)) (i1 : a[1]? = some (.fn (.func 108) [.ptr 2 0] [])) (i5 : a[5]? = some v),
      match sevRest pItem m ws with
      | .ok l r' => Wf all r' ∧ ∃ t h' v', ex Cp (.loop lp107) ⟨a, h⟩ = some (.exit 0, ⟨t, h'⟩) ∧ t.length = 20 ∧ t[5]? = some v' ∧ At0 w all r' h' ∧ Sl rItem (acc ++ l) v'
      | .er e => ∃ t h' cs, ex Cp (.loop lp107) ⟨a, h⟩ = some (.pan (flt e), ⟨t, h'⟩) ∧ h'.get 2 = some (.arr cs) ∧ refsL cs = []
      | .out => True := by
  intro m
  induction m with
  | zero => intro ws hw acc hacc h g h0 v gv a hl i0 i1 i5; exact trivial
  | succ m ih =>
    intro ws hw acc hacc h g h0 v gv a hl i0 i1 i5
    unfold sevRest
    cases hb : isH ([44] : List UInt8) ws with
    | false =>
      simp only [Bool.false_eq_true, if_false]
      have en := one_no E hw ([44] : List UInt8) hb g
      have hd : decide ((-1 : Int) ≥ 0) = false := rfl
      have pp : ∃ t, ex Cp lp107 ⟨a, h⟩ = some (.exit 0, ⟨t, h⟩) ∧ t.length = 20 ∧ t[5]? = some v := by
        simp only [lp107, bodyOf, Tryz.f107, Cat, Zs, awanted, aoper, evalO, put, acallOp, abuiltin, Nat.reduceEqDiff, Nat.reduceLT, ofV, ofCell, ↓reduceIte, hl, i0, i1, i5, CP, bq1, bq2, bq3, bq4, Pz.bs52, TyP.own_parse_go_60, en, hd]
        exact ⟨_, rfl, by simp [hl], by simp [i5]⟩
      obtain ⟨t, e, tl, t5⟩ := pp
      exact ⟨hw, t, h, v, by rw [e_loop, e]; rfl, tl, t5, g, by rw [List.append_nil]; exact gv.1⟩
    | true =>
      simp only [if_true]
      have ey := one_yes E hw ([44] : List UInt8) hb g
      have hd : decide (((0 : Nat) : Int) ≥ 0) = true := rfl
      have hw1 := hw.isH hb
      obtain ⟨x0, r0, rfl⟩ := hw.cons
      rw [List.drop_succ_cons, List.drop_zero] at ey hw1 ⊢
      have dp := HP r0 hw1
      cases hp : pItem r0 with
      | out => exact trivial
      | er e =>
        rw [hp] at dp
        rw [R.bind_er]
        obtain ⟨cs, hcs, ef⟩ := dp (to0 w all r0 h) At0.to
        have pp : ∃ t, ex Cp lp107 ⟨a, h⟩ = some (.pan (flt e), ⟨t, (to0 w all r0 h).set 2 (some (.arr cs))⟩) := by
          simp only [lp107, bodyOf, Tryz.f107, Cat, Zs, awanted, aoper, evalO, put, acallOp, abuiltin, Nat.reduceEqDiff, Nat.reduceLT, ofV, ofCell, ↓reduceIte, hl, i0, i1, i5, CP, bq1, bq2, bq3, bq4, Pz.bs52, TyP.own_parse_go_60, ey, hd, ef, kc_pan]
          exact ⟨_, rfl⟩
        obtain ⟨t, e1⟩ := pp
        exact ⟨t, _, cs, by rw [e_loop, e1]; rfl, Heap.get_set_eq, hcs⟩
      | ok x r =>
        rw [hp] at dp
        rw [R.bind_ok]
        obtain ⟨hwr, dp⟩ := dp
        obtain ⟨xv, hx, ex1⟩ := dp (to0 w all r0 h) At0.to
        rw [to_to] at ex1
        have hlen := pItem_shr _ _ _ hp
        simp only [List.length_cons] at hacc
        have gv1 : Gr rItem 2 acc v (to0 w all r h) := Gr.keep gv (Nat.le_refl _) fun i hi => Heap.get_set_ne (Gr.ne_arr gv g i hi)
        obtain ⟨v', h2, pa, gv2, hn2, hk2, _⟩ := Gr.app rItem_p gv1 hx.sl (app_ok 24 (by decide) acc x (by omega))
        have g2 : At0 w all r h2 := (hk2 2 h0 (Gr.not_acc gv1 At0.to)).trans At0.to
        have pp : ∃ t, ex Cp lp107 ⟨a, h⟩ = some (.normal, ⟨t, h2⟩) ∧ t.length = 20 ∧ t[0]? = some (.ptr 2 0) ∧ t[1]? = some (.fn (.func 108) [.ptr 2 0] []) ∧ t[5]? = some v' := by
          simp only [lp107, bodyOf, Tryz.f107, Cat, Zs, awanted, aoper, evalO, put, acallOp, abuiltin, Nat.reduceEqDiff, Nat.reduceLT, ofV, ofCell, ↓reduceIte, hl, i0, i1, i5, CP, bq1, bq2, bq3, bq4, Pz.bs52, TyP.own_parse_go_60, TyP.own_parse_go_61, ey, hd, ex1, Pz.sb23 hx, Pz.ap23, pa]
          exact ⟨_, rfl, by simp [hl], by simp [i0], by simp [i1], by simp [hl]⟩
        obtain ⟨t, e, tl, t0, t1, t5⟩ := pp
        have k := ih r hwr (acc ++ [x]) (by simp only [List.length_append, List.length_cons, List.length_nil]; omega) h2 g2 (Nat.lt_of_lt_of_le h0 hn2) v' gv2 t tl t0 t1 t5
        cases hq : sevRest pItem m r with
        | out => exact trivial
        | er f =>
          rw [hq] at k
          obtain ⟨t', h', cs, e1, k1⟩ := k
          exact ⟨t', h', cs, by rw [e_loop, e]; exact e1, k1⟩
        | ok l r' =>
          rw [hq] at k
          obtain ⟨k0, t', h', v1, e1, k1, k2, k3, k4⟩ := k
          exact ⟨k0, t', h', v1, by rw [e_loop, e]; exact e1, k1, k2, k3, by rw [List.append_assoc] at k4; exact k4⟩
theorem sev107 (E : Mem w all) (HP : ∀ ws, Wf all ws → Does 108 [.ptr 2 0] w all ws (El rItem 2) (pItem ws)) (hw : Wf all ws) :
    Does 107 [.ptr 2 0, .fn (.func 108) [.ptr 2 0] []] w all ws (Sl rItem) (several pItem ws) := by
  obtain ⟨a0, ha0⟩ : ∃ a0, a0 = slots Tryz.f107 [.ptr 2 0, .fn (.func 108) [.ptr 2 0] []] := ⟨_, rfl⟩
  have hl : a0.length = 20 := by rw [ha0]; rfl
  have i0 : a0[0]? = some (.ptr 2 0) := by rw [ha0]; rfl
  have i1 : a0[1]? = some (.fn (.func 108) [.ptr 2 0] []) := by rw [ha0]; rfl
  have hb : bodyOf Tryz.f107 = .seq (Cat [false] (bodyOf Tryz.f107)) (.seq (Cat [true, false] (bodyOf Tryz.f107)) (.seq (.block 0 (.loop lp107)) (Cat [true, true, true] (bodyOf Tryz.f107)))) := rfl
  unfold several
  have dp := HP ws hw
  have p0 : ∃ t, ex Cp (Cat [false] (bodyOf Tryz.f107)) ⟨a0, H0 w all ws⟩ = some (.normal, ⟨t, H0 w all ws⟩) ∧ t.length = 20 ∧ t[0]? = some (.ptr 2 0) ∧ t[1]? = some (.fn (.func 108) [.ptr 2 0] []) := by
    simp only [bodyOf, Tryz.f107, Cat, Zs, awanted, aoper, evalO, put, acallOp, abuiltin, Nat.reduceEqDiff, Nat.reduceLT, ofV, ofCell, ↓reduceIte, hl, i0, i1, CP]
    exact ⟨_, rfl, by simp [hl], by simp [i0], by simp [i1]⟩
  obtain ⟨t0, x0, tl0, t00, t01⟩ := p0
  cases hp : pItem ws with
  | out => exact trivial
  | er e =>
    rw [hp] at dp
    intro h hg
    obtain ⟨cs, hcs, ef⟩ := dp (H0 w all ws) At0.H0
    have pp : ∃ t, ex Cp (Cat [true, false] (bodyOf Tryz.f107)) ⟨t0, H0 w all ws⟩ = some (.pan (flt e), ⟨t, (H0 w all ws).set 2 (some (.arr cs))⟩) := by
      simp only [bodyOf, Tryz.f107, Cat, Zs, awanted, aoper, evalO, put, acallOp, abuiltin, Nat.reduceEqDiff, Nat.reduceLT, ofV, ofCell, ↓reduceIte, tl0, t00, t01, CP, ef, kc_pan]
      exact ⟨_, rfl⟩
    obtain ⟨t, e1⟩ := pp
    have he : ex Cp (bodyOf Tryz.f107) ⟨a0, H0 w all ws⟩ = some (.pan (flt e), ⟨t, (H0 w all ws).set 2 (some (.arr cs))⟩) := by
      rw [hb, e_seq, x0]
      simp only [k_seq]
      rw [e_seq, e1]
      rfl
    rw [ha0] at he
    exact dpan (f := 107) (args := [.ptr 2 0, .fn (.func 108) [.ptr 2 0] []]) E hg Tryz.func107 rfl rfl rfl rfl rfl rfl he Heap.get_set_eq hcs
  | ok x r =>
    rw [hp] at dp
    obtain ⟨hwr, dp⟩ := dp
    obtain ⟨xv, hx, ex1⟩ := dp (H0 w all ws) At0.H0
    rw [to_H0] at ex1
    have pp : ∃ t, ex Cp (Cat [true, false] (bodyOf Tryz.f107)) ⟨t0, H0 w all ws⟩ = some (.normal, ⟨t, H0 w all r⟩) ∧ t.length = 20 ∧ t[0]? = some (.ptr 2 0) ∧ t[1]? = some (.fn (.func 108) [.ptr 2 0] []) ∧ t[5]? = some (.lst xv.cells 1 .full) := by
      simp only [bodyOf, Tryz.f107, Cat, Zs, awanted, aoper, evalO, put, acallOp, abuiltin, Nat.reduceEqDiff, Nat.reduceLT, ofV, ofCell, ↓reduceIte, tl0, t00, t01, CP, ex1, Pz.sb23 hx, TyP.own_parse_go_59]
      exact ⟨_, rfl, by simp [tl0], by simp [t00], by simp [t01], by simp [tl0]⟩
    obtain ⟨t1, x1, tl1, t10, t11, t15⟩ := pp
    have hle := pItem_shr _ _ _ hp
    have hsm := hw.len
    have hsm2 := hw.small
    have k := loop107 E HP (r.length + 1) r hwr [x] (by simp only [List.length_cons, List.length_nil]; omega) (H0 w all r) At0.H0 (one_lt _ _) _ (hx.gr _) t1 tl1 t10 t11 t15
    simp only [R.bind_ok]
    cases hq : sevRest pItem (r.length + 1) r with
    | out => exact trivial
    | er f =>
      rw [hq] at k
      intro h hg
      obtain ⟨t', h', cs, e1, k1, k2⟩ := k
      have he : ex Cp (bodyOf Tryz.f107) ⟨a0, H0 w all ws⟩ = some (.pan (flt f), ⟨t', h'⟩) := by
        rw [hb, e_seq, x0]
        simp only [k_seq]
        rw [e_seq, x1]
        simp only [k_seq]
        rw [e_seq, e_block, e1]
        rfl
      rw [ha0] at he
      exact dpan (f := 107) (args := [.ptr 2 0, .fn (.func 108) [.ptr 2 0] []]) E hg Tryz.func107 rfl rfl rfl rfl rfl rfl he k1 k2
    | ok l r' =>
      rw [hq] at k
      obtain ⟨k0, t', h', v1, e1, k1, k2, k3, k4⟩ := k
      refine ⟨k0, fun h hg => ?_⟩
      obtain ⟨v2, hv2, ec⟩ := clip23 k4
      have p3 : ∃ t, ex Cp (Cat [true, true, true] (bodyOf Tryz.f107)) ⟨t', h'⟩ = some (.ret, ⟨t, h'⟩) ∧ t[4]? = some v2 := by
        simp only [bodyOf, Tryz.f107, Cat, Zs, awanted, aoper, evalO, put, acallOp, abuiltin, Nat.reduceEqDiff, Nat.reduceLT, ofV, ofCell, ↓reduceIte, k1, k2, CP, ec]
        exact ⟨_, rfl, by simp [k1]⟩
      obtain ⟨t3, x3, t34⟩ := p3
      have he : ex Cp (bodyOf Tryz.f107) ⟨a0, H0 w all ws⟩ = some (.ret, ⟨t3, h'⟩) := by
        rw [hb, e_seq, x0]
        simp only [k_seq]
        rw [e_seq, x1]
        simp only [k_seq]
        rw [e_seq, e_block, e1]
        simp only [k_block_exit, if_true, k_seq]
        exact x3
      rw [ha0] at he
      exact ⟨strip v2, hv2.strip rItem_p, dok (f := 107) (args := [.ptr 2 0, .fn (.func 108) [.ptr 2 0] []]) (r := r') E hg Tryz.func107 rfl rfl rfl rfl rfl rfl he (.inl rfl) (vs := [v2]) (v := strip v2)
        (by simp only [show Tryz.f107.results.toList = [ResultVar.tmp 4] from rfl, aresults, ares1, t34]; rfl) (Nrm.of (w := v2) (hv2.refs rItem_p)) k3⟩
namespace Pz
theorem in48 : ∃ i, Tryz.prog.info? 47 = some i ∧ i.size = 3 := ⟨_, rfl, rfl⟩
theorem ze48 : zeroA Tryz.prog 47 = some (.agg [.bool false, .str [], .int .i64 0]) := by kernel_rfl
theorem un48 : Tryz.prog.underlying 48 = some (.slice 47) := by kernel_rfl
theorem ap48 (h : AHeap) (s x : AVal) : aappend Tryz.prog false h [48, 48] [s, x] = appendA false h 3 32 s x := by kernel_rfl
theorem sa48 (h : AHeap) (x : AVal) (lo hi mx : Option AVal) (hx : ∀ s, x ≠ .str s) : aslice Tryz.prog h 48 x lo hi mx = sliceA 3 x lo hi mx := by
  cases x with
  | str s => exact absurd rfl (hx s)
  | _ => kernel_rfl
theorem sb48 {α : Type} {r : α → List AVal → Prop} {x : α} {v : AVal} (h : El r 3 x v) : abuildSlice Tryz.prog 48 1 [(0, v)] = some (v.cells, 3) := by
  obtain ⟨i, hi, hs⟩ := in48
  exact bs_one un48 hi hs (by decide) ze48 rfl h.2.1 h.2.2
end Pz
theorem clip48 {xs : List (Value)} {v : AVal} (hv : Sl rValue xs v) : ∃ v', Sl rValue xs v' ∧ ∀ h, run Cp 179 [v] h = some (.ret v', h) := by
  have hs := hv.strip rValue_p
  obtain ⟨c, hc⟩ : ∃ c, c = strip v := ⟨_, rfl⟩
  rw [← hc] at hs
  obtain ⟨v', hi, hv', _⟩ := Sl.cut rValue_p hs (cut_all xs)
  simp only [Option.map_some, Option.map_none] at hi
  have lu := fun h => Sl.len hs Pz.un48 h
  have p : ∃ t, ex Cp (bodyOf Tryz.f179) ⟨slots Tryz.f179 [c], bare⟩ = some (.ret, ⟨t, bare⟩) ∧ t[2]? = some v' := by
    obtain ⟨a0, ha0⟩ : ∃ a0, a0 = slots Tryz.f179 [c] := ⟨_, rfl⟩
    have hl : a0.length = 9 := by rw [ha0]; rfl
    have i0 : a0[0]? = some c := by rw [ha0]; rfl
    rw [← ha0]
    simp only [bodyOf, Tryz.f179, Cat, Zs, awanted, aoper, evalO, put, acallOp, abuiltin, Nat.reduceEqDiff, Nat.reduceLT, ofV, ofCell, ↓reduceIte, hl, i0, CP, lu, hi, Pz.sa48 _ _ _ _ _ (Sl.ne_str hs)]
    exact ⟨_, rfl, by simp [hl]⟩
  obtain ⟨t, he, t2⟩ := p
  rw [hc] at he
  exact ⟨strip v', hv'.strip rValue_p, pok (f := 179) (args := [v]) Tryz.func179 rfl rfl rfl rfl (by simp only [refsL, hv.refs rValue_p, List.append_nil]) he (.inl rfl) (vs := [v']) (by simp only [show Tryz.f179.results.toList = [ResultVar.tmp 2] from rfl, aresults, ares1, t2]; rfl) (Nrm.of (w := v') (hv'.refs rValue_p))⟩
noncomputable def lp168 : Code := Cat [true, true, false, true, true] (bodyOf Tryz.f168)
theorem loop168 (E : Mem w all) (HP : ∀ ws, Wf all ws → Does 167 [.ptr 2 0] w all ws (El rValue 3) (pValue ws)) :
    ∀ (m : Nat) (ws : List Word) (hw : Wf all ws) (acc : List (Value)) (hacc : acc.length + ws.length ≤ 10000) (h : AHeap) (g : At0 w all ws h) (h0 : 2 < h.next) (v : AVal) (gv : Gr rValue 3 acc v h) (a : List AVal) (hl : a.length = 20) (i0 : a[0]? = some (.ptr 2 0)) (i1 : a[1]? = some (.fn (.func 167) [.ptr 2 0] [])) (i5 : a[5]? = some v),
      match sevRest pValue m ws with
      | .ok l r' => Wf all r' ∧ ∃ t h' v', ex Cp (.loop lp168) ⟨a, h⟩ = some (.exit 0, ⟨t, h'⟩) ∧ t.length = 20 ∧ t[5]? = some v' ∧ At0 w all r' h' ∧ Sl rValue (acc ++ l) v'
      | .er e => ∃ t h' cs, ex Cp (.loop lp168) ⟨a, h⟩ = some (.pan (flt e), ⟨t, h'⟩) ∧ h'.get 2 = some (.arr cs) ∧ refsL cs = []
      | .out => True := by
  intro m
  induction m with
  | zero => intro ws hw acc hacc h g h0 v gv a hl i0 i1 i5; exact trivial
  | succ m ih =>
    intro ws hw acc hacc h g h0 v gv a hl i0 i1 i5
    unfold sevRest
    cases hb : isH ([44] : List UInt8) ws with
    | false =>
      simp only [Bool.false_eq_true, if_false]
      have en := one_no E hw ([44] : List UInt8) hb g
      have hd : decide ((-1 : Int) ≥ 0) = false := rfl
      have pp : ∃ t, ex Cp lp168 ⟨a, h⟩ = some (.exit 0, ⟨t, h⟩) ∧ t.length = 20 ∧ t[5]? = some v := by
        simp only [lp168, bodyOf, Tryz.f168, Cat, Zs, awanted, aoper, evalO, put, acallOp, abuiltin, Nat.reduceEqDiff, Nat.reduceLT, ofV, ofCell, ↓reduceIte, hl, i0, i1, i5, CP, bq1, bq2, bq3, bq4, Pz.bs52, TyP.own_parse_go_60, en, hd]
        exact ⟨_, rfl, by simp [hl], by simp [i5]⟩
      obtain ⟨t, e, tl, t5⟩ := pp
      exact ⟨hw, t, h, v, by rw [e_loop, e]; rfl, tl, t5, g, by rw [List.append_nil]; exact gv.1⟩
    | true =>
      simp only [if_true]
      have ey := one_yes E hw ([44] : List UInt8) hb g
      have hd : decide (((0 : Nat) : Int) ≥ 0) = true := rfl
      have hw1 := hw.isH hb
      obtain ⟨x0, r0, rfl⟩ := hw.cons
      rw [List.drop_succ_cons, List.drop_zero] at ey hw1 ⊢
      have dp := HP r0 hw1
      cases hp : pValue r0 with
      | out => exact trivial
      | er e =>
        rw [hp] at dp
        rw [R.bind_er]
        obtain ⟨cs, hcs, ef⟩ := dp (to0 w all r0 h) At0.to
        have pp : ∃ t, ex Cp lp168 ⟨a, h⟩ = some (.pan (flt e), ⟨t, (to0 w all r0 h).set 2 (some (.arr cs))⟩) := by
          simp only [lp168, bodyOf, Tryz.f168, Cat, Zs, awanted, aoper, evalO, put, acallOp, abuiltin, Nat.reduceEqDiff, Nat.reduceLT, ofV, ofCell, ↓reduceIte, hl, i0, i1, i5, CP, bq1, bq2, bq3, bq4, Pz.bs52, TyP.own_parse_go_60, ey, hd, ef, kc_pan]
          exact ⟨_, rfl⟩
        obtain ⟨t, e1⟩ := pp
        exact ⟨t, _, cs, by rw [e_loop, e1]; rfl, Heap.get_set_eq, hcs⟩
      | ok x r =>
        rw [hp] at dp
        rw [R.bind_ok]
        obtain ⟨hwr, dp⟩ := dp
        obtain ⟨xv, hx, ex1⟩ := dp (to0 w all r0 h) At0.to
        rw [to_to] at ex1
        have hlen := pValue_shr _ _ _ hp
        simp only [List.length_cons] at hacc
        have gv1 : Gr rValue 3 acc v (to0 w all r h) := Gr.keep gv (Nat.le_refl _) fun i hi => Heap.get_set_ne (Gr.ne_arr gv g i hi)
        obtain ⟨v', h2, pa, gv2, hn2, hk2, _⟩ := Gr.app rValue_p gv1 hx.sl (app_ok 32 (by decide) acc x (by omega))
        have g2 : At0 w all r h2 := (hk2 2 h0 (Gr.not_acc gv1 At0.to)).trans At0.to
        have pp : ∃ t, ex Cp lp168 ⟨a, h⟩ = some (.normal, ⟨t, h2⟩) ∧ t.length = 20 ∧ t[0]? = some (.ptr 2 0) ∧ t[1]? = some (.fn (.func 167) [.ptr 2 0] []) ∧ t[5]? = some v' := by
          simp only [lp168, bodyOf, Tryz.f168, Cat, Zs, awanted, aoper, evalO, put, acallOp, abuiltin, Nat.reduceEqDiff, Nat.reduceLT, ofV, ofCell, ↓reduceIte, hl, i0, i1, i5, CP, bq1, bq2, bq3, bq4, Pz.bs52, TyP.own_parse_go_60, TyP.own_parse_go_61, ey, hd, ex1, Pz.sb48 hx, Pz.ap48, pa]
          exact ⟨_, rfl, by simp [hl], by simp [i0], by simp [i1], by simp [hl]⟩
        obtain ⟨t, e, tl, t0, t1, t5⟩ := pp
        have k := ih r hwr (acc ++ [x]) (by simp only [List.length_append, List.length_cons, List.length_nil]; omega) h2 g2 (Nat.lt_of_lt_of_le h0 hn2) v' gv2 t tl t0 t1 t5
        cases hq : sevRest pValue m r with
        | out => exact trivial
        | er f =>
          rw [hq] at k
          obtain ⟨t', h', cs, e1, k1⟩ := k
          exact ⟨t', h', cs, by rw [e_loop, e]; exact e1, k1⟩
        | ok l r' =>
          rw [hq] at k
          obtain ⟨k0, t', h', v1, e1, k1, k2, k3, k4⟩ := k
          exact ⟨k0, t', h', v1, by rw [e_loop, e]; exact e1, k1, k2, k3, by rw [List.append_assoc] at k4; exact k4⟩
theorem sev168 (E : Mem w all) (HP : ∀ ws, Wf all ws → Does 167 [.ptr 2 0] w all ws (El rValue 3) (pValue ws)) (hw : Wf all ws) :
    Does 168 [.ptr 2 0, .fn (.func 167) [.ptr 2 0] []] w all ws (Sl rValue) (several pValue ws) := by
  obtain ⟨a0, ha0⟩ : ∃ a0, a0 = slots Tryz.f168 [.ptr 2 0, .fn (.func 167) [.ptr 2 0] []] := ⟨_, rfl⟩
  have hl : a0.length = 20 := by rw [ha0]; rfl
  have i0 : a0[0]? = some (.ptr 2 0) := by rw [ha0]; rfl
  have i1 : a0[1]? = some (.fn (.func 167) [.ptr 2 0] []) := by rw [ha0]; rfl
  have hb : bodyOf Tryz.f168 = .seq (Cat [false] (bodyOf Tryz.f168)) (.seq (Cat [true, false] (bodyOf Tryz.f168)) (.seq (.block 0 (.loop lp168)) (Cat [true, true, true] (bodyOf Tryz.f168)))) := rfl
  unfold several
  have dp := HP ws hw
  have p0 : ∃ t, ex Cp (Cat [false] (bodyOf Tryz.f168)) ⟨a0, H0 w all ws⟩ = some (.normal, ⟨t, H0 w all ws⟩) ∧ t.length = 20 ∧ t[0]? = some (.ptr 2 0) ∧ t[1]? = some (.fn (.func 167) [.ptr 2 0] []) := by
    simp only [bodyOf, Tryz.f168, Cat, Zs, awanted, aoper, evalO, put, acallOp, abuiltin, Nat.reduceEqDiff, Nat.reduceLT, ofV, ofCell, ↓reduceIte, hl, i0, i1, CP]
    exact ⟨_, rfl, by simp [hl], by simp [i0], by simp [i1]⟩
  obtain ⟨t0, x0, tl0, t00, t01⟩ := p0
  cases hp : pValue ws with
  | out => exact trivial
  | er e =>
    rw [hp] at dp
    intro h hg
    obtain ⟨cs, hcs, ef⟩ := dp (H0 w all ws) At0.H0
    have pp : ∃ t, ex Cp (Cat [true, false] (bodyOf Tryz.f168)) ⟨t0, H0 w all ws⟩ = some (.pan (flt e), ⟨t, (H0 w all ws).set 2 (some (.arr cs))⟩) := by
      simp only [bodyOf, Tryz.f168, Cat, Zs, awanted, aoper, evalO, put, acallOp, abuiltin, Nat.reduceEqDiff, Nat.reduceLT, ofV, ofCell, ↓reduceIte, tl0, t00, t01, CP, ef, kc_pan]
      exact ⟨_, rfl⟩
    obtain ⟨t, e1⟩ := pp
    have he : ex Cp (bodyOf Tryz.f168) ⟨a0, H0 w all ws⟩ = some (.pan (flt e), ⟨t, (H0 w all ws).set 2 (some (.arr cs))⟩) := by
      rw [hb, e_seq, x0]
      simp only [k_seq]
      rw [e_seq, e1]
      rfl
    rw [ha0] at he
    exact dpan (f := 168) (args := [.ptr 2 0, .fn (.func 167) [.ptr 2 0] []]) E hg Tryz.func168 rfl rfl rfl rfl rfl rfl he Heap.get_set_eq hcs
  | ok x r =>
    rw [hp] at dp
    obtain ⟨hwr, dp⟩ := dp
    obtain ⟨xv, hx, ex1⟩ := dp (H0 w all ws) At0.H0
    rw [to_H0] at ex1
    have pp : ∃ t, ex Cp (Cat [true, false] (bodyOf Tryz.f168)) ⟨t0, H0 w all ws⟩ = some (.normal, ⟨t, H0 w all r⟩) ∧ t.length = 20 ∧ t[0]? = some (.ptr 2 0) ∧ t[1]? = some (.fn (.func 167) [.ptr 2 0] []) ∧ t[5]? = some (.lst xv.cells 1 .full) := by
      simp only [bodyOf, Tryz.f168, Cat, Zs, awanted, aoper, evalO, put, acallOp, abuiltin, Nat.reduceEqDiff, Nat.reduceLT, ofV, ofCell, ↓reduceIte, tl0, t00, t01, CP, ex1, Pz.sb48 hx, TyP.own_parse_go_59]
      exact ⟨_, rfl, by simp [tl0], by simp [t00], by simp [t01], by simp [tl0]⟩
    obtain ⟨t1, x1, tl1, t10, t11, t15⟩ := pp
    have hle := pValue_shr _ _ _ hp
    have hsm := hw.len
    have hsm2 := hw.small
    have k := loop168 E HP (r.length + 1) r hwr [x] (by simp only [List.length_cons, List.length_nil]; omega) (H0 w all r) At0.H0 (one_lt _ _) _ (hx.gr _) t1 tl1 t10 t11 t15
    simp only [R.bind_ok]
    cases hq : sevRest pValue (r.length + 1) r with
    | out => exact trivial
    | er f =>
      rw [hq] at k
      intro h hg
      obtain ⟨t', h', cs, e1, k1, k2⟩ := k
      have he : ex Cp (bodyOf Tryz.f168) ⟨a0, H0 w all ws⟩ = some (.pan (flt f), ⟨t', h'⟩) := by
        rw [hb, e_seq, x0]
        simp only [k_seq]
        rw [e_seq, x1]
        simp only [k_seq]
        rw [e_seq, e_block, e1]
        rfl
      rw [ha0] at he
      exact dpan (f := 168) (args := [.ptr 2 0, .fn (.func 167) [.ptr 2 0] []]) E hg Tryz.func168 rfl rfl rfl rfl rfl rfl he k1 k2
    | ok l r' =>
      rw [hq] at k
      obtain ⟨k0, t', h', v1, e1, k1, k2, k3, k4⟩ := k
      refine ⟨k0, fun h hg => ?_⟩
      obtain ⟨v2, hv2, ec⟩ := clip48 k4
      have p3 : ∃ t, ex Cp (Cat [true, true, true] (bodyOf Tryz.f168)) ⟨t', h'⟩ = some (.ret, ⟨t, h'⟩) ∧ t[4]? = some v2 := by
        simp only [bodyOf, Tryz.f168, Cat, Zs, awanted, aoper, evalO, put, acallOp, abuiltin, Nat.reduceEqDiff, Nat.reduceLT, ofV, ofCell, ↓reduceIte, k1, k2, CP, ec]
        exact ⟨_, rfl, by simp [k1]⟩
      obtain ⟨t3, x3, t34⟩ := p3
      have he : ex Cp (bodyOf Tryz.f168) ⟨a0, H0 w all ws⟩ = some (.ret, ⟨t3, h'⟩) := by
        rw [hb, e_seq, x0]
        simp only [k_seq]
        rw [e_seq, x1]
        simp only [k_seq]
        rw [e_seq, e_block, e1]
        simp only [k_block_exit, if_true, k_seq]
        exact x3
      rw [ha0] at he
      exact ⟨strip v2, hv2.strip rValue_p, dok (f := 168) (args := [.ptr 2 0, .fn (.func 167) [.ptr 2 0] []]) (r := r') E hg Tryz.func168 rfl rfl rfl rfl rfl rfl he (.inl rfl) (vs := [v2]) (v := strip v2)
        (by simp only [show Tryz.f168.results.toList = [ResultVar.tmp 4] from rfl, aresults, ares1, t34]; rfl) (Nrm.of (w := v2) (hv2.refs rValue_p)) k3⟩
namespace Pz
theorem in63 : ∃ i, Tryz.prog.info? 52 = some i ∧ i.size = 1 := ⟨_, rfl, rfl⟩
theorem ze63 : zeroA Tryz.prog 52 = some (.nilSl) := by kernel_rfl
theorem un63 : Tryz.prog.underlying 63 = some (.slice 52) := by kernel_rfl
theorem ap63 (h : AHeap) (s x : AVal) : aappend Tryz.prog false h [63, 63] [s, x] = appendA false h 1 24 s x := by kernel_rfl
theorem sa63 (h : AHeap) (x : AVal) (lo hi mx : Option AVal) (hx : ∀ s, x ≠ .str s) : aslice Tryz.prog h 63 x lo hi mx = sliceA 1 x lo hi mx := by
  cases x with
  | str s => exact absurd rfl (hx s)
  | _ => kernel_rfl
theorem sb63 {α : Type} {r : α → List AVal → Prop} {x : α} {v : AVal} (h : El r 1 x v) : abuildSlice Tryz.prog 63 1 [(0, v)] = some (v.cells, 1) := by
  obtain ⟨i, hi, hs⟩ := in63
  exact bs_one un63 hi hs (by decide) ze63 rfl h.2.1 h.2.2
end Pz
theorem clip63 {xs : List (List Bs)} {v : AVal} (hv : Sl (rSl rS) xs v) : ∃ v', Sl (rSl rS) xs v' ∧ ∀ h, run Cp 158 [v] h = some (.ret v', h) := by
  have hs := hv.strip (rSl_p rS_p)
  obtain ⟨c, hc⟩ : ∃ c, c = strip v := ⟨_, rfl⟩
  rw [← hc] at hs
  obtain ⟨v', hi, hv', _⟩ := Sl.cut (rSl_p rS_p) hs (cut_all xs)
  simp only [Option.map_some, Option.map_none] at hi
  have lu := fun h => Sl.len hs Pz.un63 h
  have p : ∃ t, ex Cp (bodyOf Tryz.f158) ⟨slots Tryz.f158 [c], bare⟩ = some (.ret, ⟨t, bare⟩) ∧ t[2]? = some v' := by
    obtain ⟨a0, ha0⟩ : ∃ a0, a0 = slots Tryz.f158 [c] := ⟨_, rfl⟩
    have hl : a0.length = 9 := by rw [ha0]; rfl
    have i0 : a0[0]? = some c := by rw [ha0]; rfl
    rw [← ha0]
    simp only [bodyOf, Tryz.f158, Cat, Zs, awanted, aoper, evalO, put, acallOp, abuiltin, Nat.reduceEqDiff, Nat.reduceLT, ofV, ofCell, ↓reduceIte, hl, i0, CP, lu, hi, Pz.sa63 _ _ _ _ _ (Sl.ne_str hs)]
    exact ⟨_, rfl, by simp [hl]⟩
  obtain ⟨t, he, t2⟩ := p
  rw [hc] at he
  exact ⟨strip v', hv'.strip (rSl_p rS_p), pok (f := 158) (args := [v]) Tryz.func158 rfl rfl rfl rfl (by simp only [refsL, hv.refs (rSl_p rS_p), List.append_nil]) he (.inl rfl) (vs := [v']) (by simp only [show Tryz.f158.results.toList = [ResultVar.tmp 2] from rfl, aresults, ares1, t2]; rfl) (Nrm.of (w := v') (hv'.refs (rSl_p rS_p)))⟩
noncomputable def lp146 : Code := Cat [true, true, false, true, true] (bodyOf Tryz.f146)
theorem loop146 (E : Mem w all) (HP : ∀ ws, Wf all ws → Does 147 [.ptr 2 0] w all ws (El (rSl rS) 1) (pSet ws)) :
    ∀ (m : Nat) (ws : List Word) (hw : Wf all ws) (acc : List (List Bs)) (hacc : acc.length + ws.length ≤ 10000) (h : AHeap) (g : At0 w all ws h) (h0 : 2 < h.next) (v : AVal) (gv : Gr (rSl rS) 1 acc v h) (a : List AVal) (hl : a.length = 20) (i0 : a[0]? = some (.ptr 2 0)) (i1 : a[1]? = some (.fn (.func 147) [.ptr 2 0] [])) (i5 : a[5]? = some v),
      match sevRest pSet m ws with
      | .ok l r' => Wf all r' ∧ ∃ t h' v', ex Cp (.loop lp146) ⟨a, h⟩ = some (.exit 0, ⟨t, h'⟩) ∧ t.length = 20 ∧ t[5]? = some v' ∧ At0 w all r' h' ∧ Sl (rSl rS) (acc ++ l) v'
      | .er e => ∃ t h' cs, ex Cp (.loop lp146) ⟨a, h⟩ = some (.pan (flt e), ⟨t, h'⟩) ∧ h'.get 2 = some (.arr cs) ∧ refsL cs = []
      | .out => True := by
  intro m
  induction m with
  | zero => intro ws hw acc hacc h g h0 v gv a hl i0 i1 i5; exact trivial
  | succ m ih =>
    intro ws hw acc hacc h g h0 v gv a hl i0 i1 i5
    unfold sevRest
    cases hb : isH ([44] : List UInt8) ws with
    | false =>
      simp only [Bool.false_eq_true, if_false]
      have en := one_no E hw ([44] : List UInt8) hb g
      have hd : decide ((-1 : Int) ≥ 0) = false := rfl
      have pp : ∃ t, ex Cp lp146 ⟨a, h⟩ = some (.exit 0, ⟨t, h⟩) ∧ t.length = 20 ∧ t[5]? = some v := by
        simp only [lp146, bodyOf, Tryz.f146, Cat, Zs, awanted, aoper, evalO, put, acallOp, abuiltin, Nat.reduceEqDiff, Nat.reduceLT, ofV, ofCell, ↓reduceIte, hl, i0, i1, i5, CP, bq1, bq2, bq3, bq4, Pz.bs52, TyP.own_parse_go_60, en, hd]
        exact ⟨_, rfl, by simp [hl], by simp [i5]⟩
      obtain ⟨t, e, tl, t5⟩ := pp
      exact ⟨hw, t, h, v, by rw [e_loop, e]; rfl, tl, t5, g, by rw [List.append_nil]; exact gv.1⟩
    | true =>
      simp only [if_true]
      have ey := one_yes E hw ([44] : List UInt8) hb g
      have hd : decide (((0 : Nat) : Int) ≥ 0) = true := rfl
      have hw1 := hw.isH hb
      obtain ⟨x0, r0, rfl⟩ := hw.cons
      rw [List.drop_succ_cons, List.drop_zero] at ey hw1 ⊢
      have dp := HP r0 hw1
      cases hp : pSet r0 with
      | out => exact trivial
      | er e =>
        rw [hp] at dp
        rw [R.bind_er]
        obtain ⟨cs, hcs, ef⟩ := dp (to0 w all r0 h) At0.to
        have pp : ∃ t, ex Cp lp146 ⟨a, h⟩ = some (.pan (flt e), ⟨t, (to0 w all r0 h).set 2 (some (.arr cs))⟩) := by
          simp only [lp146, bodyOf, Tryz.f146, Cat, Zs, awanted, aoper, evalO, put, acallOp, abuiltin, Nat.reduceEqDiff, Nat.reduceLT, ofV, ofCell, ↓reduceIte, hl, i0, i1, i5, CP, bq1, bq2, bq3, bq4, Pz.bs52, TyP.own_parse_go_60, ey, hd, ef, kc_pan]
          exact ⟨_, rfl⟩
        obtain ⟨t, e1⟩ := pp
        exact ⟨t, _, cs, by rw [e_loop, e1]; rfl, Heap.get_set_eq, hcs⟩
      | ok x r =>
        rw [hp] at dp
        rw [R.bind_ok]
        obtain ⟨hwr, dp⟩ := dp
        obtain ⟨xv, hx, ex1⟩ := dp (to0 w all r0 h) At0.to
        rw [to_to] at ex1
        have hlen := pSet_shr _ _ _ hp
        simp only [List.length_cons] at hacc
        have gv1 : Gr (rSl rS) 1 acc v (to0 w all r h) := Gr.keep gv (Nat.le_refl _) fun i hi => Heap.get_set_ne (Gr.ne_arr gv g i hi)
        obtain ⟨v', h2, pa, gv2, hn2, hk2, _⟩ := Gr.app (rSl_p rS_p) gv1 hx.sl (app_ok 24 (by decide) acc x (by omega))
        have g2 : At0 w all r h2 := (hk2 2 h0 (Gr.not_acc gv1 At0.to)).trans At0.to
        have pp : ∃ t, ex Cp lp146 ⟨a, h⟩ = some (.normal, ⟨t, h2⟩) ∧ t.length = 20 ∧ t[0]? = some (.ptr 2 0) ∧ t[1]? = some (.fn (.func 147) [.ptr 2 0] []) ∧ t[5]? = some v' := by
          simp only [lp146, bodyOf, Tryz.f146, Cat, Zs, awanted, aoper, evalO, put, acallOp, abuiltin, Nat.reduceEqDiff, Nat.reduceLT, ofV, ofCell, ↓reduceIte, hl, i0, i1, i5, CP, bq1, bq2, bq3, bq4, Pz.bs52, TyP.own_parse_go_60, TyP.own_parse_go_61, ey, hd, ex1, Pz.sb63 hx, Pz.ap63, pa]
          exact ⟨_, rfl, by simp [hl], by simp [i0], by simp [i1], by simp [hl]⟩
        obtain ⟨t, e, tl, t0, t1, t5⟩ := pp
        have k := ih r hwr (acc ++ [x]) (by simp only [List.length_append, List.length_cons, List.length_nil]; omega) h2 g2 (Nat.lt_of_lt_of_le h0 hn2) v' gv2 t tl t0 t1 t5
        cases hq : sevRest pSet m r with
        | out => exact trivial
        | er f =>
          rw [hq] at k
          obtain ⟨t', h', cs, e1, k1⟩ := k
          exact ⟨t', h', cs, by rw [e_loop, e]; exact e1, k1⟩
        | ok l r' =>
          rw [hq] at k
          obtain ⟨k0, t', h', v1, e1, k1, k2, k3, k4⟩ := k
          exact ⟨k0, t', h', v1, by rw [e_loop, e]; exact e1, k1, k2, k3, by rw [List.append_assoc] at k4; exact k4⟩
theorem sev146 (E : Mem w all) (HP : ∀ ws, Wf all ws → Does 147 [.ptr 2 0] w all ws (El (rSl rS) 1) (pSet ws)) (hw : Wf all ws) :
    Does 146 [.ptr 2 0, .fn (.func 147) [.ptr 2 0] []] w all ws (Sl (rSl rS)) (several pSet ws) := by
  obtain ⟨a0, ha0⟩ : ∃ a0, a0 = slots Tryz.f146 [.ptr 2 0, .fn (.func 147) [.ptr 2 0] []] := ⟨_, rfl⟩
  have hl : a0.length = 20 := by rw [ha0]; rfl
  have i0 : a0[0]? = some (.ptr 2 0) := by rw [ha0]; rfl
  have i1 : a0[1]? = some (.fn (.func 147) [.ptr 2 0] []) := by rw [ha0]; rfl
  have hb : bodyOf Tryz.f146 = .seq (Cat [false] (bodyOf Tryz.f146)) (.seq (Cat [true, false] (bodyOf Tryz.f146)) (.seq (.block 0 (.loop lp146)) (Cat [true, true, true] (bodyOf Tryz.f146)))) := rfl
  unfold several
  have dp := HP ws hw
  have p0 : ∃ t, ex Cp (Cat [false] (bodyOf Tryz.f146)) ⟨a0, H0 w all ws⟩ = some (.normal, ⟨t, H0 w all ws⟩) ∧ t.length = 20 ∧ t[0]? = some (.ptr 2 0) ∧ t[1]? = some (.fn (.func 147) [.ptr 2 0] []) := by
    simp only [bodyOf, Tryz.f146, Cat, Zs, awanted, aoper, evalO, put, acallOp, abuiltin, Nat.reduceEqDiff, Nat.reduceLT, ofV, ofCell, ↓reduceIte, hl, i0, i1, CP]
    exact ⟨_, rfl, by simp [hl], by simp [i0], by simp [i1]⟩
  obtain ⟨t0, x0, tl0, t00, t01⟩ := p0
  cases hp : pSet ws with
  | out => exact trivial
  | er e =>
    rw [hp] at dp
    intro h hg
    obtain ⟨cs, hcs, ef⟩ := dp (H0 w all ws) At0.H0
    have pp : ∃ t, ex Cp (Cat [true, false] (bodyOf Tryz.f146)) ⟨t0, H0 w all ws⟩ = some (.pan (flt e), ⟨t, (H0 w all ws).set 2 (some (.arr cs))⟩) := by
      simp only [bodyOf, Tryz.f146, Cat, Zs, awanted, aoper, evalO, put, acallOp, abuiltin, Nat.reduceEqDiff, Nat.reduceLT, ofV, ofCell, ↓reduceIte, tl0, t00, t01, CP, ef, kc_pan]
      exact ⟨_, rfl⟩
    obtain ⟨t, e1⟩ := pp
    have he : ex Cp (bodyOf Tryz.f146) ⟨a0, H0 w all ws⟩ = some (.pan (flt e), ⟨t, (H0 w all ws).set 2 (some (.arr cs))⟩) := by
      rw [hb, e_seq, x0]
      simp only [k_seq]
      rw [e_seq, e1]
      rfl
    rw [ha0] at he
    exact dpan (f := 146) (args := [.ptr 2 0, .fn (.func 147) [.ptr 2 0] []]) E hg Tryz.func146 rfl rfl rfl rfl rfl rfl he Heap.get_set_eq hcs
  | ok x r =>
    rw [hp] at dp
    obtain ⟨hwr, dp⟩ := dp
    obtain ⟨xv, hx, ex1⟩ := dp (H0 w all ws) At0.H0
    rw [to_H0] at ex1
    have pp : ∃ t, ex Cp (Cat [true, false] (bodyOf Tryz.f146)) ⟨t0, H0 w all ws⟩ = some (.normal, ⟨t, H0 w all r⟩) ∧ t.length = 20 ∧ t[0]? = some (.ptr 2 0) ∧ t[1]? = some (.fn (.func 147) [.ptr 2 0] []) ∧ t[5]? = some (.lst xv.cells 1 .full) := by
      simp only [bodyOf, Tryz.f146, Cat, Zs, awanted, aoper, evalO, put, acallOp, abuiltin, Nat.reduceEqDiff, Nat.reduceLT, ofV, ofCell, ↓reduceIte, tl0, t00, t01, CP, ex1, Pz.sb63 hx, TyP.own_parse_go_59]
      exact ⟨_, rfl, by simp [tl0], by simp [t00], by simp [t01], by simp [tl0]⟩
    obtain ⟨t1, x1, tl1, t10, t11, t15⟩ := pp
    have hle := pSet_shr _ _ _ hp
    have hsm := hw.len
    have hsm2 := hw.small
    have k := loop146 E HP (r.length + 1) r hwr [x] (by simp only [List.length_cons, List.length_nil]; omega) (H0 w all r) At0.H0 (one_lt _ _) _ (hx.gr _) t1 tl1 t10 t11 t15
    simp only [R.bind_ok]
    cases hq : sevRest pSet (r.length + 1) r with
    | out => exact trivial
    | er f =>
      rw [hq] at k
      intro h hg
      obtain ⟨t', h', cs, e1, k1, k2⟩ := k
      have he : ex Cp (bodyOf Tryz.f146) ⟨a0, H0 w all ws⟩ = some (.pan (flt f), ⟨t', h'⟩) := by
        rw [hb, e_seq, x0]
        simp only [k_seq]
        rw [e_seq, x1]
        simp only [k_seq]
        rw [e_seq, e_block, e1]
        rfl
      rw [ha0] at he
      exact dpan (f := 146) (args := [.ptr 2 0, .fn (.func 147) [.ptr 2 0] []]) E hg Tryz.func146 rfl rfl rfl rfl rfl rfl he k1 k2
    | ok l r' =>
      rw [hq] at k
      obtain ⟨k0, t', h', v1, e1, k1, k2, k3, k4⟩ := k
      refine ⟨k0, fun h hg => ?_⟩
      obtain ⟨v2, hv2, ec⟩ := clip63 k4
      have p3 : ∃ t, ex Cp (Cat [true, true, true] (bodyOf Tryz.f146)) ⟨t', h'⟩ = some (.ret, ⟨t, h'⟩) ∧ t[4]? = some v2 := by
        simp only [bodyOf, Tryz.f146, Cat, Zs, awanted, aoper, evalO, put, acallOp, abuiltin, Nat.reduceEqDiff, Nat.reduceLT, ofV, ofCell, ↓reduceIte, k1, k2, CP, ec]
        exact ⟨_, rfl, by simp [k1]⟩
      obtain ⟨t3, x3, t34⟩ := p3
      have he : ex Cp (bodyOf Tryz.f146) ⟨a0, H0 w all ws⟩ = some (.ret, ⟨t3, h'⟩) := by
        rw [hb, e_seq, x0]
        simp only [k_seq]
        rw [e_seq, x1]
        simp only [k_seq]
        rw [e_seq, e_block, e1]
        simp only [k_block_exit, if_true, k_seq]
        exact x3
      rw [ha0] at he
      exact ⟨strip v2, hv2.strip (rSl_p rS_p), dok (f := 146) (args := [.ptr 2 0, .fn (.func 147) [.ptr 2 0] []]) (r := r') E hg Tryz.func146 rfl rfl rfl rfl rfl rfl he (.inl rfl) (vs := [v2]) (v := strip v2)
        (by simp only [show Tryz.f146.results.toList = [ResultVar.tmp 4] from rfl, aresults, ares1, t34]; rfl) (Nrm.of (w := v2) (hv2.refs (rSl_p rS_p))) k3⟩
namespace Pz
theorem in25 : ∃ i, Tryz.prog.info? 65 = some i ∧ i.size = 3 := ⟨_, rfl, rfl⟩
theorem ze25 : zeroA Tryz.prog 65 = some (.agg [.int .i64 0, .nilSl, .nilSl]) := by kernel_rfl
theorem un25 : Tryz.prog.underlying 25 = some (.slice 65) := by kernel_rfl
theorem ap25 (h : AHeap) (s x : AVal) : aappend Tryz.prog false h [25, 25] [s, x] = appendA false h 3 56 s x := by kernel_rfl
theorem sa25 (h : AHeap) (x : AVal) (lo hi mx : Option AVal) (hx : ∀ s, x ≠ .str s) : aslice Tryz.prog h 25 x lo hi mx = sliceA 3 x lo hi mx := by
  cases x with
  | str s => exact absurd rfl (hx s)
  | _ => kernel_rfl
theorem sb25 {α : Type} {r : α → List AVal → Prop} {x : α} {v : AVal} (h : El r 3 x v) : abuildSlice Tryz.prog 25 1 [(0, v)] = some (v.cells, 3) := by
  obtain ⟨i, hi, hs⟩ := in25
  exact bs_one un25 hi hs (by decide) ze25 rfl h.2.1 h.2.2
end Pz
theorem clip25 {xs : List (Group)} {v : AVal} (hv : Sl rGroup xs v) : ∃ v', Sl rGroup xs v' ∧ ∀ h, run Cp 144 [v] h = some (.ret v', h) := by
  have hs := hv.strip rGroup_p
  obtain ⟨c, hc⟩ : ∃ c, c = strip v := ⟨_, rfl⟩
  rw [← hc] at hs
  obtain ⟨v', hi, hv', _⟩ := Sl.cut rGroup_p hs (cut_all xs)
  simp only [Option.map_some, Option.map_none] at hi
  have lu := fun h => Sl.len hs Pz.un25 h
  have p : ∃ t, ex Cp (bodyOf Tryz.f144) ⟨slots Tryz.f144 [c], bare⟩ = some (.ret, ⟨t, bare⟩) ∧ t[2]? = some v' := by
    obtain ⟨a0, ha0⟩ : ∃ a0, a0 = slots Tryz.f144 [c] := ⟨_, rfl⟩
    have hl : a0.length = 9 := by rw [ha0]; rfl
    have i0 : a0[0]? = some c := by rw [ha0]; rfl
    rw [← ha0]
    simp only [bodyOf, Tryz.f144, Cat, Zs, awanted, aoper, evalO, put, acallOp, abuiltin, Nat.reduceEqDiff, Nat.reduceLT, ofV, ofCell, ↓reduceIte, hl, i0, CP, lu, hi, Pz.sa25 _ _ _ _ _ (Sl.ne_str hs)]
    exact ⟨_, rfl, by simp [hl]⟩
  obtain ⟨t, he, t2⟩ := p
  rw [hc] at he
  exact ⟨strip v', hv'.strip rGroup_p, pok (f := 144) (args := [v]) Tryz.func144 rfl rfl rfl rfl (by simp only [refsL, hv.refs rGroup_p, List.append_nil]) he (.inl rfl) (vs := [v']) (by simp only [show Tryz.f144.results.toList = [ResultVar.tmp 2] from rfl, aresults, ares1, t2]; rfl) (Nrm.of (w := v') (hv'.refs rGroup_p))⟩
noncomputable def lp112 : Code := Cat [true, true, false, true, true] (bodyOf Tryz.f112)
theorem loop112 (E : Mem w all) (HP : ∀ ws, Wf all ws → Does 113 [.ptr 2 0] w all ws (El rGroup 3) (pElement ws)) :
    ∀ (m : Nat) (ws : List Word) (hw : Wf all ws) (acc : List (Group)) (hacc : acc.length + ws.length ≤ 10000) (h : AHeap) (g : At0 w all ws h) (h0 : 2 < h.next) (v : AVal) (gv : Gr rGroup 3 acc v h) (a : List AVal) (hl : a.length = 20) (i0 : a[0]? = some (.ptr 2 0)) (i1 : a[1]? = some (.fn (.func 113) [.ptr 2 0] [])) (i5 : a[5]? = some v),
      match sevRest pElement m ws with
      | .ok l r' => Wf all r' ∧ ∃ t h' v', ex Cp (.loop lp112) ⟨a, h⟩ = some (.exit 0, ⟨t, h'⟩) ∧ t.length = 20 ∧ t[5]? = some v' ∧ At0 w all r' h' ∧ Sl rGroup (acc ++ l) v'
      | .er e => ∃ t h' cs, ex Cp (.loop lp112) ⟨a, h⟩ = some (.pan (flt e), ⟨t, h'⟩) ∧ h'.get 2 = some (.arr cs) ∧ refsL cs = []
      | .out => True := by
  intro m
  induction m with
  | zero => intro ws hw acc hacc h g h0 v gv a hl i0 i1 i5; exact trivial
  | succ m ih =>
    intro ws hw acc hacc h g h0 v gv a hl i0 i1 i5
    unfold sevRest
    cases hb : isH ([44] : List UInt8) ws with
    | false =>
      simp only [Bool.false_eq_true, if_false]
      have en := one_no E hw ([44] : List UInt8) hb g
      have hd : decide ((-1 : Int) ≥ 0) = false := rfl
      have pp : ∃ t, ex Cp lp112 ⟨a, h⟩ = some (.exit 0, ⟨t, h⟩) ∧ t.length = 20 ∧ t[5]? = some v := by
        simp only [lp112, bodyOf, Tryz.f112, Cat, Zs, awanted, aoper, evalO, put, acallOp, abuiltin, Nat.reduceEqDiff, Nat.reduceLT, ofV, ofCell, ↓reduceIte, hl, i0, i1, i5, CP, bq1, bq2, bq3, bq4, Pz.bs52, TyP.own_parse_go_60, en, hd]
        exact ⟨_, rfl, by simp [hl], by simp [i5]⟩
      obtain ⟨t, e, tl, t5⟩ := pp
      exact ⟨hw, t, h, v, by rw [e_loop, e]; rfl, tl, t5, g, by rw [List.append_nil]; exact gv.1⟩
    | true =>
      simp only [if_true]
      have ey := one_yes E hw ([44] : List UInt8) hb g
      have hd : decide (((0 : Nat) : Int) ≥ 0) = true := rfl
      have hw1 := hw.isH hb
      obtain ⟨x0, r0, rfl⟩ := hw.cons
      rw [List.drop_succ_cons, List.drop_zero] at ey hw1 ⊢
      have dp := HP r0 hw1
      cases hp : pElement r0 with
      | out => exact trivial
      | er e =>
        rw [hp] at dp
        rw [R.bind_er]
        obtain ⟨cs, hcs, ef⟩ := dp (to0 w all r0 h) At0.to
        have pp : ∃ t, ex Cp lp112 ⟨a, h⟩ = some (.pan (flt e), ⟨t, (to0 w all r0 h).set 2 (some (.arr cs))⟩) := by
          simp only [lp112, bodyOf, Tryz.f112, Cat, Zs, awanted, aoper, evalO, put, acallOp, abuiltin, Nat.reduceEqDiff, Nat.reduceLT, ofV, ofCell, ↓reduceIte, hl, i0, i1, i5, CP, bq1, bq2, bq3, bq4, Pz.bs52, TyP.own_parse_go_60, ey, hd, ef, kc_pan]
          exact ⟨_, rfl⟩
        obtain ⟨t, e1⟩ := pp
        exact ⟨t, _, cs, by rw [e_loop, e1]; rfl, Heap.get_set_eq, hcs⟩
      | ok x r =>
        rw [hp] at dp
        rw [R.bind_ok]
        obtain ⟨hwr, dp⟩ := dp
        obtain ⟨xv, hx, ex1⟩ := dp (to0 w all r0 h) At0.to
        rw [to_to] at ex1
        have hlen := pElement_shr _ _ _ hp
        simp only [List.length_cons] at hacc
        have gv1 : Gr rGroup 3 acc v (to0 w all r h) := Gr.keep gv (Nat.le_refl _) fun i hi => Heap.get_set_ne (Gr.ne_arr gv g i hi)
        obtain ⟨v', h2, pa, gv2, hn2, hk2, _⟩ := Gr.app rGroup_p gv1 hx.sl (app_ok 56 (by decide) acc x (by omega))
        have g2 : At0 w all r h2 := (hk2 2 h0 (Gr.not_acc gv1 At0.to)).trans At0.to
        have pp : ∃ t, ex Cp lp112 ⟨a, h⟩ = some (.normal, ⟨t, h2⟩) ∧ t.length = 20 ∧ t[0]? = some (.ptr 2 0) ∧ t[1]? = some (.fn (.func 113) [.ptr 2 0] []) ∧ t[5]? = some v' := by
          simp only [lp112, bodyOf, Tryz.f112, Cat, Zs, awanted, aoper, evalO, put, acallOp, abuiltin, Nat.reduceEqDiff, Nat.reduceLT, ofV, ofCell, ↓reduceIte, hl, i0, i1, i5, CP, bq1, bq2, bq3, bq4, Pz.bs52, TyP.own_parse_go_60, TyP.own_parse_go_61, ey, hd, ex1, Pz.sb25 hx, Pz.ap25, pa]
          exact ⟨_, rfl, by simp [hl], by simp [i0], by simp [i1], by simp [hl]⟩
        obtain ⟨t, e, tl, t0, t1, t5⟩ := pp
        have k := ih r hwr (acc ++ [x]) (by simp only [List.length_append, List.length_cons, List.length_nil]; omega) h2 g2 (Nat.lt_of_lt_of_le h0 hn2) v' gv2 t tl t0 t1 t5
        cases hq : sevRest pElement m r with
        | out => exact trivial
        | er f =>
          rw [hq] at k
          obtain ⟨t', h', cs, e1, k1⟩ := k
          exact ⟨t', h', cs, by rw [e_loop, e]; exact e1, k1⟩
        | ok l r' =>
          rw [hq] at k
          obtain ⟨k0, t', h', v1, e1, k1, k2, k3, k4⟩ := k
          exact ⟨k0, t', h', v1, by rw [e_loop, e]; exact e1, k1, k2, k3, by rw [List.append_assoc] at k4; exact k4⟩
theorem sev112 (E : Mem w all) (HP : ∀ ws, Wf all ws → Does 113 [.ptr 2 0] w all ws (El rGroup 3) (pElement ws)) (hw : Wf all ws) :
    Does 112 [.ptr 2 0, .fn (.func 113) [.ptr 2 0] []] w all ws (Sl rGroup) (several pElement ws) := by
  obtain ⟨a0, ha0⟩ : ∃ a0, a0 = slots Tryz.f112 [.ptr 2 0, .fn (.func 113) [.ptr 2 0] []] := ⟨_, rfl⟩
  have hl : a0.length = 20 := by rw [ha0]; rfl
  have i0 : a0[0]? = some (.ptr 2 0) := by rw [ha0]; rfl
  have i1 : a0[1]? = some (.fn (.func 113) [.ptr 2 0] []) := by rw [ha0]; rfl
  have hb : bodyOf Tryz.f112 = .seq (Cat [false] (bodyOf Tryz.f112)) (.seq (Cat [true, false] (bodyOf Tryz.f112)) (.seq (.block 0 (.loop lp112)) (Cat [true, true, true] (bodyOf Tryz.f112)))) := rfl
  unfold several
  have dp := HP ws hw
  have p0 : ∃ t, ex Cp (Cat [false] (bodyOf Tryz.f112)) ⟨a0, H0 w all ws⟩ = some (.normal, ⟨t, H0 w all ws⟩) ∧ t.length = 20 ∧ t[0]? = some (.ptr 2 0) ∧ t[1]? = some (.fn (.func 113) [.ptr 2 0] []) := by
    simp only [bodyOf, Tryz.f112, Cat, Zs, awanted, aoper, evalO, put, acallOp, abuiltin, Nat.reduceEqDiff, Nat.reduceLT, ofV, ofCell, ↓reduceIte, hl, i0, i1, CP]
    exact ⟨_, rfl, by simp [hl], by simp [i0], by simp [i1]⟩
  obtain ⟨t0, x0, tl0, t00, t01⟩ := p0
  cases hp : pElement ws with
  | out => exact trivial
  | er e =>
    rw [hp] at dp
    intro h hg
    obtain ⟨cs, hcs, ef⟩ := dp (H0 w all ws) At0.H0
    have pp : ∃ t, ex Cp (Cat [true, false] (bodyOf Tryz.f112)) ⟨t0, H0 w all ws⟩ = some (.pan (flt e), ⟨t, (H0 w all ws).set 2 (some (.arr cs))⟩) := by
      simp only [bodyOf, Tryz.f112, Cat, Zs, awanted, aoper, evalO, put, acallOp, abuiltin, Nat.reduceEqDiff, Nat.reduceLT, ofV, ofCell, ↓reduceIte, tl0, t00, t01, CP, ef, kc_pan]
      exact ⟨_, rfl⟩
    obtain ⟨t, e1⟩ := pp
    have he : ex Cp (bodyOf Tryz.f112) ⟨a0, H0 w all ws⟩ = some (.pan (flt e), ⟨t, (H0 w all ws).set 2 (some (.arr cs))⟩) := by
      rw [hb, e_seq, x0]
      simp only [k_seq]
      rw [e_seq, e1]
      rfl
    rw [ha0] at he
    exact dpan (f := 112) (args := [.ptr 2 0, .fn (.func 113) [.ptr 2 0] []]) E hg Tryz.func112 rfl rfl rfl rfl rfl rfl he Heap.get_set_eq hcs
  | ok x r =>
    rw [hp] at dp
    obtain ⟨hwr, dp⟩ := dp
    obtain ⟨xv, hx, ex1⟩ := dp (H0 w all ws) At0.H0
    rw [to_H0] at ex1
    have pp : ∃ t, ex Cp (Cat [true, false] (bodyOf Tryz.f112)) ⟨t0, H0 w all ws⟩ = some (.normal, ⟨t, H0 w all r⟩) ∧ t.length = 20 ∧ t[0]? = some (.ptr 2 0) ∧ t[1]? = some (.fn (.func 113) [.ptr 2 0] []) ∧ t[5]? = some (.lst xv.cells 1 .full) := by
      simp only [bodyOf, Tryz.f112, Cat, Zs, awanted, aoper, evalO, put, acallOp, abuiltin, Nat.reduceEqDiff, Nat.reduceLT, ofV, ofCell, ↓reduceIte, tl0, t00, t01, CP, ex1, Pz.sb25 hx, TyP.own_parse_go_59]
      exact ⟨_, rfl, by simp [tl0], by simp [t00], by simp [t01], by simp [tl0]⟩
    obtain ⟨t1, x1, tl1, t10, t11, t15⟩ := pp
    have hle := pElement_shr _ _ _ hp
    have hsm := hw.len
    have hsm2 := hw.small
    have k := loop112 E HP (r.length + 1) r hwr [x] (by simp only [List.length_cons, List.length_nil]; omega) (H0 w all r) At0.H0 (one_lt _ _) _ (hx.gr _) t1 tl1 t10 t11 t15
    simp only [R.bind_ok]
    cases hq : sevRest pElement (r.length + 1) r with
    | out => exact trivial
    | er f =>
      rw [hq] at k
      intro h hg
      obtain ⟨t', h', cs, e1, k1, k2⟩ := k
      have he : ex Cp (bodyOf Tryz.f112) ⟨a0, H0 w all ws⟩ = some (.pan (flt f), ⟨t', h'⟩) := by
        rw [hb, e_seq, x0]
        simp only [k_seq]
        rw [e_seq, x1]
        simp only [k_seq]
        rw [e_seq, e_block, e1]
        rfl
      rw [ha0] at he
      exact dpan (f := 112) (args := [.ptr 2 0, .fn (.func 113) [.ptr 2 0] []]) E hg Tryz.func112 rfl rfl rfl rfl rfl rfl he k1 k2
    | ok l r' =>
      rw [hq] at k
      obtain ⟨k0, t', h', v1, e1, k1, k2, k3, k4⟩ := k
      refine ⟨k0, fun h hg => ?_⟩
      obtain ⟨v2, hv2, ec⟩ := clip25 k4
      have p3 : ∃ t, ex Cp (Cat [true, true, true] (bodyOf Tryz.f112)) ⟨t', h'⟩ = some (.ret, ⟨t, h'⟩) ∧ t[4]? = some v2 := by
        simp only [bodyOf, Tryz.f112, Cat, Zs, awanted, aoper, evalO, put, acallOp, abuiltin, Nat.reduceEqDiff, Nat.reduceLT, ofV, ofCell, ↓reduceIte, k1, k2, CP, ec]
        exact ⟨_, rfl, by simp [k1]⟩
      obtain ⟨t3, x3, t34⟩ := p3
      have he : ex Cp (bodyOf Tryz.f112) ⟨a0, H0 w all ws⟩ = some (.ret, ⟨t3, h'⟩) := by
        rw [hb, e_seq, x0]
        simp only [k_seq]
        rw [e_seq, x1]
        simp only [k_seq]
        rw [e_seq, e_block, e1]
        simp only [k_block_exit, if_true, k_seq]
        exact x3
      rw [ha0] at he
      exact ⟨strip v2, hv2.strip rGroup_p, dok (f := 112) (args := [.ptr 2 0, .fn (.func 113) [.ptr 2 0] []]) (r := r') E hg Tryz.func112 rfl rfl rfl rfl rfl rfl he (.inl rfl) (vs := [v2]) (v := strip v2)
        (by simp only [show Tryz.f112.results.toList = [ResultVar.tmp 4] from rfl, aresults, ares1, t34]; rfl) (Nrm.of (w := v2) (hv2.refs rGroup_p)) k3⟩
end
end Go.Proofs.Q.Par



set_option linter.unusedSimpArgs false
set_option linter.unusedVariables false
set_option maxRecDepth 100000
namespace Go.Proofs.Q.Par
open Go Go.Am Go.Proofs
section
variable {w : AVal} {all ws : List Word}
theorem Does.mono {α : Type} {f : FuncId} {args : List AVal} {rd rd' : α → AVal → Prop} {res : R α} (h : Does f args w all ws rd res) (m : ∀ x v, rd x v → rd' x v) : Does f args w all ws rd' res := by
  cases res with
  | ok x r => exact ⟨h.1, fun hp g => by obtain ⟨v, hv, e⟩ := h.2 hp g; exact ⟨v, m _ _ hv, e⟩⟩
  | er e => exact h
  | out => trivial
theorem el_str (s : Bs) : El rS 1 s (.str s) := ⟨rfl, rfl, rfl⟩
theorem name_does (E : Mem w all) (hw : Wf all ws) : Does 109 [.ptr 2 0] w all ws (fun s v => v = .str s) (pName ws) := by
  have dp := of_does E hw 1 (by decide)
  unfold pName
  obtain ⟨a0, ha0⟩ : ∃ a0, a0 = slots Tryz.f109 [.ptr 2 0] := ⟨_, rfl⟩
  have hl : a0.length = 5 := by rw [ha0]; rfl
  have i0 : a0[0]? = some (.ptr 2 0) := by rw [ha0]; rfl
  cases hp : ofKind 1 ws with
  | out => exact trivial
  | er e =>
    rw [hp] at dp
    intro h hg
    obtain ⟨cs, hcs, ef⟩ := dp (H0 w all ws) At0.H0
    have pp : ∃ t, ex Cp (bodyOf Tryz.f109) ⟨a0, H0 w all (ws)⟩ = some (.pan (flt e), ⟨t, (H0 w all ws).set 2 (some (.arr cs))⟩) := by
      simp only [bodyOf, Tryz.f109, Cat, Zs, awanted, aoper, evalO, put, acallOp, abuiltin, Nat.reduceEqDiff, Nat.reduceLT, ofV, ofCell, ↓reduceIte, hl, i0, CP, TyP.fa97_1, TyP.fa97_0, dropCells, Nat.zero_add, Nat.add_zero, TyP.ld3, TyP.ld9, TyP.st3, TyP.ld42, TyP.st42, TyP.ze42, Pz.f42_0, wv, Pz.bs52, ef, kc_pan]
      exact ⟨_, rfl⟩
    obtain ⟨t, he⟩ := pp
    rw [ha0] at he
    exact dpan (f := 109) (args := [.ptr 2 0]) E hg Tryz.func109 rfl rfl rfl rfl rfl rfl he Heap.get_set_eq hcs
  | ok s r =>
    rw [hp] at dp
    refine ⟨dp.1, fun h hg => ?_⟩
    obtain ⟨v, rfl, ex1⟩ := dp.2 (H0 w all ws) At0.H0
    rw [to_H0] at ex1
    have pp : ∃ t, ex Cp (bodyOf Tryz.f109) ⟨a0, H0 w all (ws)⟩ = some (.ret, ⟨t, H0 w all r⟩) ∧ t[2]? = some (.str s) := by
      simp only [bodyOf, Tryz.f109, Cat, Zs, awanted, aoper, evalO, put, acallOp, abuiltin, Nat.reduceEqDiff, Nat.reduceLT, ofV, ofCell, ↓reduceIte, hl, i0, CP, TyP.fa97_1, TyP.fa97_0, dropCells, Nat.zero_add, Nat.add_zero, TyP.ld3, TyP.ld9, TyP.st3, TyP.ld42, TyP.st42, TyP.ze42, Pz.f42_0, wv, Pz.bs52, ex1]
      exact ⟨_, rfl, by simp [hl]⟩
    obtain ⟨t, he, ts⟩ := pp
    rw [ha0] at he
    exact ⟨.str s, rfl, dok (f := 109) (args := [.ptr 2 0]) (r := r) E hg Tryz.func109 rfl rfl rfl rfl rfl rfl he (.inl rfl) (vs := [.str s]) (v := .str s) (by simp only [show Tryz.f109.results.toList = [ResultVar.tmp 2] from rfl, aresults, ares1, ts]; rfl) (Nrm.of (w := .str s) (rfl)) (At0.H0)⟩
theorem names_does (E : Mem w all) (hw : Wf all ws) : Does 145 [.ptr 2 0] w all ws (Sl rS) (pNames ws) := by
  have d1 := must_lit E hw [([40] : List UInt8)] (by decide)
  unfold pNames
  obtain ⟨a0, ha0⟩ : ∃ a0, a0 = slots Tryz.f145 [.ptr 2 0] := ⟨_, rfl⟩
  have hl : a0.length = 15 := by rw [ha0]; rfl
  have i0 : a0[0]? = some (.ptr 2 0) := by rw [ha0]; rfl
  cases h1 : must [([40] : List UInt8)] ws with
  | out => exact trivial
  | er e =>
    rw [h1] at d1
    intro h hg
    obtain ⟨cs, hcs, ef⟩ : Pn e _ (run Cp 106 [.ptr 2 0, .lst [.str ([40] : List UInt8)] 1 .full] _) := d1 (H0 w all ws) At0.H0
    have pp : ∃ t, ex Cp (bodyOf Tryz.f145) ⟨a0, H0 w all (ws)⟩ = some (.pan (flt e), ⟨t, (H0 w all ws).set 2 (some (.arr cs))⟩) := by
      simp only [bodyOf, Tryz.f145, Cat, Zs, awanted, aoper, evalO, put, acallOp, abuiltin, Nat.reduceEqDiff, Nat.reduceLT, ofV, ofCell, ↓reduceIte, hl, i0, CP, TyP.fa97_1, TyP.fa97_0, dropCells, Nat.zero_add, Nat.add_zero, TyP.ld3, TyP.ld9, TyP.st3, TyP.ld42, TyP.st42, TyP.ze42, Pz.f42_0, wv, Pz.bs52, TyP.own_parse_go_70, TyP.own_parse_go_72, ef, kc_pan]
      exact ⟨_, rfl⟩
    obtain ⟨t, he⟩ := pp
    rw [ha0] at he
    exact dpan (f := 145) (args := [.ptr 2 0]) E hg Tryz.func145 rfl rfl rfl rfl rfl rfl he Heap.get_set_eq hcs
  | ok u r1 =>
    rw [h1] at d1
    obtain ⟨w1, d1⟩ := d1
    obtain ⟨v1, rfl, e1⟩ := d1 (H0 w all ws) At0.H0
    have e1 : run Cp 106 [.ptr 2 0, .lst [.str ([40] : List UInt8)] 1 .full] _ = _ := e1
    rw [to_H0] at e1
    have d2 := sev157 E (fun ws hw => (name_does E hw).mono fun s v e => by rw [e]; exact el_str s) w1
    rw [R.bind_ok]
    cases h2 : several pName r1 with
    | out => exact trivial
    | er e =>
      rw [h2] at d2
      intro h hg
      obtain ⟨cs, hcs, ef⟩ := d2 (H0 w all r1) At0.H0
      have pp : ∃ t, ex Cp (bodyOf Tryz.f145) ⟨a0, H0 w all (ws)⟩ = some (.pan (flt e), ⟨t, (H0 w all r1).set 2 (some (.arr cs))⟩) := by
        simp only [bodyOf, Tryz.f145, Cat, Zs, awanted, aoper, evalO, put, acallOp, abuiltin, Nat.reduceEqDiff, Nat.reduceLT, ofV, ofCell, ↓reduceIte, hl, i0, CP, TyP.fa97_1, TyP.fa97_0, dropCells, Nat.zero_add, Nat.add_zero, TyP.ld3, TyP.ld9, TyP.st3, TyP.ld42, TyP.st42, TyP.ze42, Pz.f42_0, wv, Pz.bs52, TyP.own_parse_go_70, TyP.own_parse_go_72, e1, ef, kc_pan]
        exact ⟨_, rfl⟩
      obtain ⟨t, he⟩ := pp
      rw [ha0] at he
      exact dpan (f := 145) (args := [.ptr 2 0]) E hg Tryz.func145 rfl rfl rfl rfl rfl rfl he Heap.get_set_eq hcs
    | ok l r2 =>
      rw [h2] at d2
      obtain ⟨w2, d2⟩ := d2
      obtain ⟨v2, hv2, e2⟩ := d2 (H0 w all r1) At0.H0
      rw [to_H0] at e2
      have d3 := must_lit E w2 [([41] : List UInt8)] (by decide)
      rw [R.bind_ok]
      cases h3 : must [([41] : List UInt8)] r2 with
      | out => exact trivial
      | er e =>
        rw [h3] at d3
        intro h hg
        obtain ⟨cs, hcs, ef⟩ : Pn e _ (run Cp 106 [.ptr 2 0, .lst [.str ([41] : List UInt8)] 1 .full] _) := d3 (H0 w all r2) At0.H0
        have pp : ∃ t, ex Cp (bodyOf Tryz.f145) ⟨a0, H0 w all (ws)⟩ = some (.pan (flt e), ⟨t, (H0 w all r2).set 2 (some (.arr cs))⟩) := by
          simp only [bodyOf, Tryz.f145, Cat, Zs, awanted, aoper, evalO, put, acallOp, abuiltin, Nat.reduceEqDiff, Nat.reduceLT, ofV, ofCell, ↓reduceIte, hl, i0, CP, TyP.fa97_1, TyP.fa97_0, dropCells, Nat.zero_add, Nat.add_zero, TyP.ld3, TyP.ld9, TyP.st3, TyP.ld42, TyP.st42, TyP.ze42, Pz.f42_0, wv, Pz.bs52, TyP.own_parse_go_70, TyP.own_parse_go_72, e1, e2, ef, kc_pan]
          exact ⟨_, rfl⟩
        obtain ⟨t, he⟩ := pp
        rw [ha0] at he
        exact dpan (f := 145) (args := [.ptr 2 0]) E hg Tryz.func145 rfl rfl rfl rfl rfl rfl he Heap.get_set_eq hcs
      | ok u r3 =>
        rw [h3] at d3
        obtain ⟨w3, d3⟩ := d3
        obtain ⟨v3, rfl, e3⟩ := d3 (H0 w all r2) At0.H0
        have e3 : run Cp 106 [.ptr 2 0, .lst [.str ([41] : List UInt8)] 1 .full] _ = _ := e3
        rw [to_H0] at e3
        refine ⟨w3, fun h hg => ?_⟩
        have pp : ∃ t, ex Cp (bodyOf Tryz.f145) ⟨a0, H0 w all (ws)⟩ = some (.ret, ⟨t, H0 w all r3⟩) ∧ t[2]? = some (v2) := by
          simp only [bodyOf, Tryz.f145, Cat, Zs, awanted, aoper, evalO, put, acallOp, abuiltin, Nat.reduceEqDiff, Nat.reduceLT, ofV, ofCell, ↓reduceIte, hl, i0, CP, TyP.fa97_1, TyP.fa97_0, dropCells, Nat.zero_add, Nat.add_zero, TyP.ld3, TyP.ld9, TyP.st3, TyP.ld42, TyP.st42, TyP.ze42, Pz.f42_0, wv, Pz.bs52, TyP.own_parse_go_70, TyP.own_parse_go_72, e1, e2, e3]
          exact ⟨_, rfl, by simp [hl]⟩
        obtain ⟨t, he, ts⟩ := pp
        rw [ha0] at he
        exact ⟨strip (v2), hv2.strip rS_p, dok (f := 145) (args := [.ptr 2 0]) (r := r3) E hg Tryz.func145 rfl rfl rfl rfl rfl rfl he (.inl rfl) (vs := [v2]) (v := strip (v2)) (by simp only [show Tryz.f145.results.toList = [ResultVar.tmp 2] from rfl, aresults, ares1, ts]; rfl) (Nrm.of (w := v2) (hv2.refs rS_p)) (At0.H0)⟩
end
end Go.Proofs.Q.Par



set_option linter.unusedSimpArgs false
set_option linter.unusedVariables false
set_option maxRecDepth 100000
namespace Go.Proofs.Q.Par
open Go Go.Am Go.Proofs
section
variable {w : AVal} {all ws : List Word}
def hB (w : AVal) (all ws : List Word) (c : List AVal) : AHeap := (H0 w all ws).new (.arr c)
theorem hB_at {c : List AVal} : At0 w all ws (hB w all ws c) := rfl
theorem hB_put {r : List Word} {c ds : List AVal} {n : Nat} (hc : c.length = n) (hd : ds.length = n) (hs : ds.all AVal.isCell = true) : storeA (to0 w all r (hB w all ws c)) n (.ptr 3 0) (.agg ds) = some ((to0 w all r (hB w all ws c)).set 3 (some (.arr ds))) :=
  put_all (cs := c) rfl hc hd hs
namespace Pz
theorem la45 (h : AHeap) (p : AVal) : aload Tryz.prog h 45 p = loadA h true 2 p := by kernel_rfl
theorem bd45 (k : Int) (s : Bs) : abuild Tryz.prog 45 [(0, .int .i64 k), (1, .str s)] = some (.agg [.int .i64 k, .str s]) := by kernel_rfl
theorem bd45c : abuild Tryz.prog 45 [(0, .int .i64 2)] = some (.agg [.int .i64 2, .str []]) := by kernel_rfl
theorem ab45 : abox (H0 w all ws) (.agg [.int .i64 0, .str []]) = some (.ptr 3 0, hB w all ws [.int .i64 0, .str []]) := rfl
theorem bs52i : abuildSlice Tryz.prog 52 5 [(0, .str ([67, 79, 85, 78, 84] : List UInt8)), (1, .str ([83, 85, 77] : List UInt8)), (2, .str ([77, 73, 78] : List UInt8)), (3, .str ([77, 65, 88] : List UInt8)), (4, .str ([71, 82, 79, 85, 80, 73, 78, 71] : List UInt8))] = some ([.str ([67, 79, 85, 78, 84] : List UInt8), .str ([83, 85, 77] : List UInt8), .str ([77, 73, 78] : List UInt8), .str ([77, 65, 88] : List UInt8), .str ([71, 82, 79, 85, 80, 73, 78, 71] : List UInt8)], 1) := by kernel_rfl
theorem bs52s : abuildSlice Tryz.prog 52 3 [(0, .str ([40] : List UInt8)), (1, .str ([42] : List UInt8)), (2, .str ([41] : List UInt8))] = some ([.str ([40] : List UInt8), .str ([42] : List UInt8), .str ([41] : List UInt8)], 1) := by kernel_rfl
end Pz
theorem item_does (E : Mem w all) (hw : Wf all ws) : Does 108 [.ptr 2 0] w all ws (El rItem 2) (pItem ws) := by
  obtain ⟨x, r0, rfl⟩ := hw.cons
  obtain ⟨a0, ha0⟩ : ∃ a0, a0 = slots Tryz.f108 [.ptr 2 0] := ⟨_, rfl⟩
  have hl : a0.length = 38 := by rw [ha0]; rfl
  have i0 : a0[0]? = some (.ptr 2 0) := by rw [ha0]; rfl
  have ew := word_run E hw (hB_at (w := w) (all := all) (ws := x :: r0) (c := [.int .i64 0, .str []]))
  unfold pItem
  by_cases hk : hKind (x :: r0) = 1
  · rw [if_pos hk]
    have hk' : x.Kind = 1 := hk
    have hd : (x.Kind == 1) = true := by simp [hk']
    have hn : pName (x :: r0) = .ok x.Text r0 := by simp [pName, ofKind, hk']
    have d1 := name_does E hw
    rw [hn] at d1 ⊢
    obtain ⟨w1, d1⟩ := d1
    obtain ⟨v1, rfl, e1⟩ := d1 (hB w all (x :: r0) [.int .i64 0, .str []]) hB_at
    rw [R.bind_ok]
    refine ⟨w1, fun h hg => ?_⟩
    have sp := hB_put (w := w) (all := all) (ws := x :: r0) (r := r0) (c := [.int .i64 0, .str []]) (ds := [.int .i64 1, .str x.Text]) (n := 2) rfl rfl rfl
    have hcell : ((to0 w all r0 (hB w all (x :: r0) [.int .i64 0, .str []])).set 3 (some (.arr [.int .i64 1, .str x.Text]))).get 3 = some (.arr [.int .i64 1, .str x.Text]) := Heap.get_set_eq
    have pp : ∃ t, ex Cp (bodyOf Tryz.f108) ⟨a0, H0 w all (x :: r0)⟩ = some (.ret, ⟨t, (to0 w all r0 (hB w all (x :: r0) [.int .i64 0, .str []])).set 3 (some (.arr [.int .i64 1, .str x.Text]))⟩) ∧ t[2]? = some (.ptr 3 0) := by
      simp only [bodyOf, Tryz.f108, Cat, Zs, awanted, aoper, evalO, put, acallOp, abuiltin, Nat.reduceEqDiff, Nat.reduceLT, ofV, ofCell, ↓reduceIte, hl, i0, CP, TyP.fa97_1, TyP.fa97_0, dropCells, Nat.zero_add, Nat.add_zero, TyP.ld3, TyP.ld9, TyP.st3, TyP.ld42, TyP.st42, TyP.ze42, Pz.f42_0, wv, Pz.bs52, TyP.own_parse_go_76, TyP.own_parse_go_80, TyP.own_parse_go_85, TyP.own_parse_go_88, TyP.own_parse_go_90, TyP.ze45, TyP.st45, Pz.ab45, Pz.bd45, Pz.bd45c, Pz.bs52i, Pz.bs52s, ew, hd, e1, sp]
      exact ⟨_, rfl, by simp [hl]⟩
    obtain ⟨t, he, ts⟩ := pp
    rw [ha0] at he
    exact ⟨.agg [.int .i64 1, .str x.Text], ⟨rfl, rfl, rfl⟩, dok (f := 108) (args := [.ptr 2 0]) (r := r0) E hg Tryz.func108 rfl rfl rfl rfl rfl rfl he (.inl rfl) (vs := [.agg [.int .i64 1, .str x.Text]]) (v := .agg [.int .i64 1, .str x.Text]) (by simp only [show Tryz.f108.results.toList = [ResultVar.cell 2 45] from rfl, aresults, ares1, CP, ts, Option.getD_some, Pz.la45, ld_all hcell (show _ = 2 from rfl)] <;> rfl) (Nrm.of (w := .agg [.int .i64 1, .str x.Text]) (rfl)) ((Heap.get_set_ne (by decide)).trans At0.to)⟩
  · rw [if_neg hk]
    have hd : (x.Kind == 1) = false := beq_eq_false_iff_ne.2 hk
    cases hq : which [([67, 79, 85, 78, 84] : List UInt8), ([83, 85, 77] : List UInt8), ([77, 73, 78] : List UInt8), ([77, 65, 88] : List UInt8), ([71, 82, 79, 85, 80, 73, 78, 71] : List UInt8)] (x :: r0) with
    | none =>
      intro h hg
      have et : run Cp 110 [.ptr 2 0, .lst [.str ([67, 79, 85, 78, 84] : List UInt8), .str ([83, 85, 77] : List UInt8), .str ([77, 73, 78] : List UInt8), .str ([77, 65, 88] : List UInt8), .str ([71, 82, 79, 85, 80, 73, 78, 71] : List UInt8)] 5 .full] _ = _ := take_none E hw _ _ (litS_sl [([67, 79, 85, 78, 84] : List UInt8), ([83, 85, 77] : List UInt8), ([77, 73, 78] : List UInt8), ([77, 65, 88] : List UInt8), ([71, 82, 79, 85, 80, 73, 78, 71] : List UInt8)]) (litS_st _) (by decide) hq (hB_at (c := [.int .i64 0, .str []]))
      have hm : ((-1 : Int) == -1) = true := rfl
      obtain ⟨cs, hcs, ef⟩ := fail_run E hw 41 (hB_at (w := w) (all := all) (ws := x :: r0) (c := [.int .i64 0, .str []]))
      have pp : ∃ t, ex Cp (bodyOf Tryz.f108) ⟨a0, H0 w all (x :: r0)⟩ = some (.pan (flt ⟨41, x.At⟩), ⟨t, (hB w all (x :: r0) [.int .i64 0, .str []]).set 2 (some (.arr cs))⟩) := by
        simp only [bodyOf, Tryz.f108, Cat, Zs, awanted, aoper, evalO, put, acallOp, abuiltin, Nat.reduceEqDiff, Nat.reduceLT, ofV, ofCell, ↓reduceIte, hl, i0, CP, TyP.fa97_1, TyP.fa97_0, dropCells, Nat.zero_add, Nat.add_zero, TyP.ld3, TyP.ld9, TyP.st3, TyP.ld42, TyP.st42, TyP.ze42, Pz.f42_0, wv, Pz.bs52, TyP.own_parse_go_76, TyP.own_parse_go_80, TyP.own_parse_go_85, TyP.own_parse_go_88, TyP.own_parse_go_90, TyP.ze45, TyP.st45, Pz.ab45, Pz.bd45, Pz.bd45c, Pz.bs52i, Pz.bs52s, ew, hd, et, hm, ef, kc_pan]
        exact ⟨_, rfl⟩
      obtain ⟨t, he⟩ := pp
      rw [ha0] at he
      exact dpan (f := 108) (args := [.ptr 2 0]) E hg Tryz.func108 rfl rfl rfl rfl rfl rfl he Heap.get_set_eq hcs
    | some k =>
      have et : run Cp 110 [.ptr 2 0, .lst [.str ([67, 79, 85, 78, 84] : List UInt8), .str ([83, 85, 77] : List UInt8), .str ([77, 73, 78] : List UInt8), .str ([77, 65, 88] : List UInt8), .str ([71, 82, 79, 85, 80, 73, 78, 71] : List UInt8)] 5 .full] _ = _ := take_some E hw _ _ (litS_sl [([67, 79, 85, 78, 84] : List UInt8), ([83, 85, 77] : List UInt8), ([77, 73, 78] : List UInt8), ([77, 65, 88] : List UInt8), ([71, 82, 79, 85, 80, 73, 78, 71] : List UInt8)]) (litS_st _) (by decide) hq (hB_at (c := [.int .i64 0, .str []]))
      have hw0 : Wf all r0 := hw.which hq
      rw [List.drop_succ_cons, List.drop_zero] at et
      have hm : ((k : Int) == -1) = false := by
        rw [beq_eq_false_iff_ne]; omega
      have hkl := which_lt _ _ _ hq
      simp only [List.drop_succ_cons, List.drop_zero]
      cases k with
      | zero =>
        have hz : (((0 : Nat) : Int) == 0) = true := rfl
        have d1 := must_lit E hw0 [([40] : List UInt8), ([42] : List UInt8), ([41] : List UInt8)] (by decide)
        cases h1 : must [([40] : List UInt8), ([42] : List UInt8), ([41] : List UInt8)] r0 with
        | out => exact trivial
        | er e =>
          rw [h1] at d1
          intro h hg
          obtain ⟨cs, hcs, ef⟩ : Pn e _ (run Cp 106 [.ptr 2 0, .lst [.str ([40] : List UInt8), .str ([42] : List UInt8), .str ([41] : List UInt8)] 3 .full] _) := d1 (to0 w all r0 (hB w all (x :: r0) [.int .i64 0, .str []])) At0.to
          have pp : ∃ t, ex Cp (bodyOf Tryz.f108) ⟨a0, H0 w all (x :: r0)⟩ = some (.pan (flt e), ⟨t, (to0 w all r0 (hB w all (x :: r0) [.int .i64 0, .str []])).set 2 (some (.arr cs))⟩) := by
            simp only [bodyOf, Tryz.f108, Cat, Zs, awanted, aoper, evalO, put, acallOp, abuiltin, Nat.reduceEqDiff, Nat.reduceLT, ofV, ofCell, ↓reduceIte, hl, i0, CP, TyP.fa97_1, TyP.fa97_0, dropCells, Nat.zero_add, Nat.add_zero, TyP.ld3, TyP.ld9, TyP.st3, TyP.ld42, TyP.st42, TyP.ze42, Pz.f42_0, wv, Pz.bs52, TyP.own_parse_go_76, TyP.own_parse_go_80, TyP.own_parse_go_85, TyP.own_parse_go_88, TyP.own_parse_go_90, TyP.ze45, TyP.st45, Pz.ab45, Pz.bd45, Pz.bd45c, Pz.bs52i, Pz.bs52s, ew, hd, et, hm, hz, ef, kc_pan]
            exact ⟨_, rfl⟩
          obtain ⟨t, he⟩ := pp
          rw [ha0] at he
          exact dpan (f := 108) (args := [.ptr 2 0]) E hg Tryz.func108 rfl rfl rfl rfl rfl rfl he Heap.get_set_eq hcs
        | ok x1 r1 =>
          rw [h1] at d1
          obtain ⟨w1, d1⟩ := d1
          obtain ⟨v1, rfl, e1⟩ := d1 (to0 w all r0 (hB w all (x :: r0) [.int .i64 0, .str []])) At0.to
          have e1 : run Cp 106 [.ptr 2 0, .lst [.str ([40] : List UInt8), .str ([42] : List UInt8), .str ([41] : List UInt8)] 3 .full] _ = _ := e1
          rw [to_to] at e1
          rw [R.bind_ok]
          refine ⟨w1, fun h hg => ?_⟩
          have sp := hB_put (w := w) (all := all) (ws := x :: r0) (r := r1) (c := [.int .i64 0, .str []]) (ds := [.int .i64 2, .str []]) (n := 2) rfl rfl rfl
          have hcell : ((to0 w all r1 (hB w all (x :: r0) [.int .i64 0, .str []])).set 3 (some (.arr [.int .i64 2, .str []]))).get 3 = some (.arr [.int .i64 2, .str []]) := Heap.get_set_eq
          have pp : ∃ t, ex Cp (bodyOf Tryz.f108) ⟨a0, H0 w all (x :: r0)⟩ = some (.ret, ⟨t, (to0 w all r1 (hB w all (x :: r0) [.int .i64 0, .str []])).set 3 (some (.arr [.int .i64 2, .str []]))⟩) ∧ t[2]? = some (.ptr 3 0) := by
            simp only [bodyOf, Tryz.f108, Cat, Zs, awanted, aoper, evalO, put, acallOp, abuiltin, Nat.reduceEqDiff, Nat.reduceLT, ofV, ofCell, ↓reduceIte, hl, i0, CP, TyP.fa97_1, TyP.fa97_0, dropCells, Nat.zero_add, Nat.add_zero, TyP.ld3, TyP.ld9, TyP.st3, TyP.ld42, TyP.st42, TyP.ze42, Pz.f42_0, wv, Pz.bs52, TyP.own_parse_go_76, TyP.own_parse_go_80, TyP.own_parse_go_85, TyP.own_parse_go_88, TyP.own_parse_go_90, TyP.ze45, TyP.st45, Pz.ab45, Pz.bd45, Pz.bd45c, Pz.bs52i, Pz.bs52s, ew, hd, et, hm, hz, e1, sp]
            exact ⟨_, rfl, by simp [hl]⟩
          obtain ⟨t, he, ts⟩ := pp
          rw [ha0] at he
          exact ⟨.agg [.int .i64 2, .str []], ⟨rfl, rfl, rfl⟩, dok (f := 108) (args := [.ptr 2 0]) (r := r1) E hg Tryz.func108 rfl rfl rfl rfl rfl rfl he (.inl rfl) (vs := [.agg [.int .i64 2, .str []]]) (v := .agg [.int .i64 2, .str []]) (by simp only [show Tryz.f108.results.toList = [ResultVar.cell 2 45] from rfl, aresults, ares1, CP, ts, Option.getD_some, Pz.la45, ld_all hcell (show _ = 2 from rfl)] <;> rfl) (Nrm.of (w := .agg [.int .i64 2, .str []]) (rfl)) ((Heap.get_set_ne (by decide)).trans At0.to)⟩
      | succ k =>
        have hz : (((k + 1 : Nat) : Int) == 0) = false := by
          rw [beq_eq_false_iff_ne]; omega
        simp only [List.length_cons, List.length_nil] at hkl
        have hw2 : IntKind.i64.wrap (2 + ((k + 1 : Nat) : Int)) = 2 + ((k + 1 : Nat) : Int) := wrap64 (by omega) (by omega)
        dsimp only
        have d1 := must_lit E hw0 [([40] : List UInt8)] (by decide)
        cases h1 : must [([40] : List UInt8)] r0 with
        | out => exact trivial
        | er e =>
          rw [h1] at d1
          intro h hg
          obtain ⟨cs, hcs, ef⟩ : Pn e _ (run Cp 106 [.ptr 2 0, .lst [.str ([40] : List UInt8)] 1 .full] _) := d1 (to0 w all r0 (hB w all (x :: r0) [.int .i64 0, .str []])) At0.to
          have pp : ∃ t, ex Cp (bodyOf Tryz.f108) ⟨a0, H0 w all (x :: r0)⟩ = some (.pan (flt e), ⟨t, (to0 w all r0 (hB w all (x :: r0) [.int .i64 0, .str []])).set 2 (some (.arr cs))⟩) := by
            simp only [bodyOf, Tryz.f108, Cat, Zs, awanted, aoper, evalO, put, acallOp, abuiltin, Nat.reduceEqDiff, Nat.reduceLT, ofV, ofCell, ↓reduceIte, hl, i0, CP, TyP.fa97_1, TyP.fa97_0, dropCells, Nat.zero_add, Nat.add_zero, TyP.ld3, TyP.ld9, TyP.st3, TyP.ld42, TyP.st42, TyP.ze42, Pz.f42_0, wv, Pz.bs52, TyP.own_parse_go_76, TyP.own_parse_go_80, TyP.own_parse_go_85, TyP.own_parse_go_88, TyP.own_parse_go_90, TyP.ze45, TyP.st45, Pz.ab45, Pz.bd45, Pz.bd45c, Pz.bs52i, Pz.bs52s, ew, hd, et, hm, hz, ef, kc_pan]
            exact ⟨_, rfl⟩
          obtain ⟨t, he⟩ := pp
          rw [ha0] at he
          exact dpan (f := 108) (args := [.ptr 2 0]) E hg Tryz.func108 rfl rfl rfl rfl rfl rfl he Heap.get_set_eq hcs
        | ok x1 r1 =>
          rw [h1] at d1
          obtain ⟨w1, d1⟩ := d1
          obtain ⟨v1, rfl, e1⟩ := d1 (to0 w all r0 (hB w all (x :: r0) [.int .i64 0, .str []])) At0.to
          have e1 : run Cp 106 [.ptr 2 0, .lst [.str ([40] : List UInt8)] 1 .full] _ = _ := e1
          rw [to_to] at e1
          rw [R.bind_ok]
          have d2 := name_does E w1
          cases h2 : pName r1 with
          | out => exact trivial
          | er e =>
            rw [h2] at d2
            intro h hg
            obtain ⟨cs, hcs, ef⟩ := d2 (to0 w all r1 (hB w all (x :: r0) [.int .i64 0, .str []])) At0.to
            have pp : ∃ t, ex Cp (bodyOf Tryz.f108) ⟨a0, H0 w all (x :: r0)⟩ = some (.pan (flt e), ⟨t, (to0 w all r1 (hB w all (x :: r0) [.int .i64 0, .str []])).set 2 (some (.arr cs))⟩) := by
              simp only [bodyOf, Tryz.f108, Cat, Zs, awanted, aoper, evalO, put, acallOp, abuiltin, Nat.reduceEqDiff, Nat.reduceLT, ofV, ofCell, ↓reduceIte, hl, i0, CP, TyP.fa97_1, TyP.fa97_0, dropCells, Nat.zero_add, Nat.add_zero, TyP.ld3, TyP.ld9, TyP.st3, TyP.ld42, TyP.st42, TyP.ze42, Pz.f42_0, wv, Pz.bs52, TyP.own_parse_go_76, TyP.own_parse_go_80, TyP.own_parse_go_85, TyP.own_parse_go_88, TyP.own_parse_go_90, TyP.ze45, TyP.st45, Pz.ab45, Pz.bd45, Pz.bd45c, Pz.bs52i, Pz.bs52s, ew, hd, et, hm, hz, e1, ef, kc_pan]
              exact ⟨_, rfl⟩
            obtain ⟨t, he⟩ := pp
            rw [ha0] at he
            exact dpan (f := 108) (args := [.ptr 2 0]) E hg Tryz.func108 rfl rfl rfl rfl rfl rfl he Heap.get_set_eq hcs
          | ok x2 r2 =>
            rw [h2] at d2
            obtain ⟨w2, d2⟩ := d2
            obtain ⟨v2, rfl, e2⟩ := d2 (to0 w all r1 (hB w all (x :: r0) [.int .i64 0, .str []])) At0.to
            rw [to_to] at e2
            rw [R.bind_ok]
            have d3 := must_lit E w2 [([41] : List UInt8)] (by decide)
            cases h3 : must [([41] : List UInt8)] r2 with
            | out => exact trivial
            | er e =>
              rw [h3] at d3
              intro h hg
              obtain ⟨cs, hcs, ef⟩ : Pn e _ (run Cp 106 [.ptr 2 0, .lst [.str ([41] : List UInt8)] 1 .full] _) := d3 (to0 w all r2 (hB w all (x :: r0) [.int .i64 0, .str []])) At0.to
              have pp : ∃ t, ex Cp (bodyOf Tryz.f108) ⟨a0, H0 w all (x :: r0)⟩ = some (.pan (flt e), ⟨t, (to0 w all r2 (hB w all (x :: r0) [.int .i64 0, .str []])).set 2 (some (.arr cs))⟩) := by
                simp only [bodyOf, Tryz.f108, Cat, Zs, awanted, aoper, evalO, put, acallOp, abuiltin, Nat.reduceEqDiff, Nat.reduceLT, ofV, ofCell, ↓reduceIte, hl, i0, CP, TyP.fa97_1, TyP.fa97_0, dropCells, Nat.zero_add, Nat.add_zero, TyP.ld3, TyP.ld9, TyP.st3, TyP.ld42, TyP.st42, TyP.ze42, Pz.f42_0, wv, Pz.bs52, TyP.own_parse_go_76, TyP.own_parse_go_80, TyP.own_parse_go_85, TyP.own_parse_go_88, TyP.own_parse_go_90, TyP.ze45, TyP.st45, Pz.ab45, Pz.bd45, Pz.bd45c, Pz.bs52i, Pz.bs52s, ew, hd, et, hm, hz, e1, e2, ef, kc_pan]
                exact ⟨_, rfl⟩
              obtain ⟨t, he⟩ := pp
              rw [ha0] at he
              exact dpan (f := 108) (args := [.ptr 2 0]) E hg Tryz.func108 rfl rfl rfl rfl rfl rfl he Heap.get_set_eq hcs
            | ok x3 r3 =>
              rw [h3] at d3
              obtain ⟨w3, d3⟩ := d3
              obtain ⟨v3, rfl, e3⟩ := d3 (to0 w all r2 (hB w all (x :: r0) [.int .i64 0, .str []])) At0.to
              have e3 : run Cp 106 [.ptr 2 0, .lst [.str ([41] : List UInt8)] 1 .full] _ = _ := e3
              rw [to_to] at e3
              rw [R.bind_ok]
              refine ⟨w3, fun h hg => ?_⟩
              have sp := hB_put (w := w) (all := all) (ws := x :: r0) (r := r3) (c := [.int .i64 0, .str []]) (ds := [.int .i64 (2 + ((k + 1 : Nat) : Int)), .str x2]) (n := 2) rfl rfl rfl
              have hcell : ((to0 w all r3 (hB w all (x :: r0) [.int .i64 0, .str []])).set 3 (some (.arr [.int .i64 (2 + ((k + 1 : Nat) : Int)), .str x2]))).get 3 = some (.arr [.int .i64 (2 + ((k + 1 : Nat) : Int)), .str x2]) := Heap.get_set_eq
              have pp : ∃ t, ex Cp (bodyOf Tryz.f108) ⟨a0, H0 w all (x :: r0)⟩ = some (.ret, ⟨t, (to0 w all r3 (hB w all (x :: r0) [.int .i64 0, .str []])).set 3 (some (.arr [.int .i64 (2 + ((k + 1 : Nat) : Int)), .str x2]))⟩) ∧ t[2]? = some (.ptr 3 0) := by
                simp only [bodyOf, Tryz.f108, Cat, Zs, awanted, aoper, evalO, put, acallOp, abuiltin, Nat.reduceEqDiff, Nat.reduceLT, ofV, ofCell, ↓reduceIte, hl, i0, CP, TyP.fa97_1, TyP.fa97_0, dropCells, Nat.zero_add, Nat.add_zero, TyP.ld3, TyP.ld9, TyP.st3, TyP.ld42, TyP.st42, TyP.ze42, Pz.f42_0, wv, Pz.bs52, TyP.own_parse_go_76, TyP.own_parse_go_80, TyP.own_parse_go_85, TyP.own_parse_go_88, TyP.own_parse_go_90, TyP.ze45, TyP.st45, Pz.ab45, Pz.bd45, Pz.bd45c, Pz.bs52i, Pz.bs52s, ew, hd, et, hm, hz, e1, e2, e3, sp, hw2]
                exact ⟨_, rfl, by simp [hl]⟩
              obtain ⟨t, he, ts⟩ := pp
              rw [ha0] at he
              exact ⟨.agg [.int .i64 (2 + ((k + 1 : Nat) : Int)), .str x2], ⟨rfl, rfl, rfl⟩, dok (f := 108) (args := [.ptr 2 0]) (r := r3) E hg Tryz.func108 rfl rfl rfl rfl rfl rfl he (.inl rfl) (vs := [.agg [.int .i64 (2 + ((k + 1 : Nat) : Int)), .str x2]]) (v := .agg [.int .i64 (2 + ((k + 1 : Nat) : Int)), .str x2]) (by simp only [show Tryz.f108.results.toList = [ResultVar.cell 2 45] from rfl, aresults, ares1, CP, ts, Option.getD_some, Pz.la45, ld_all hcell (show _ = 2 from rfl)] <;> rfl) (Nrm.of (w := .agg [.int .i64 (2 + ((k + 1 : Nat) : Int)), .str x2]) (rfl)) ((Heap.get_set_ne (by decide)).trans At0.to)⟩
end
end Go.Proofs.Q.Par



set_option linter.unusedSimpArgs false
set_option linter.unusedVariables false
set_option maxRecDepth 100000
namespace Go.Proofs.Q.Par
open Go Go.Am Go.Proofs
section
variable {w : AVal} {all ws : List Word}
def noNum {α : Type} : Go.Lib.NumEnd α → Bool
  | .ok _ => false
  | .range => false
  | _ => true
theorem uintM_digits (M : Nat) : ∀ (t : Bs) (n : Nat), (∀ b ∈ t, isD b = true) → noNum (Go.Lib.parseUintM M n t) = false
  | [], n, _ => rfl
  | c :: t, n, h => by
    have hc := kind_of_isD (h c (List.mem_cons_self ..))
    have hr : 48 ≤ c.toNat ∧ c.toNat ≤ 57 := by
      unfold kindB kindN at hc
      split at hc
      · cases hc
      split at hc
      · cases hc
      split at hc
      · assumption
      split at hc
      · cases hc
      split at hc <;> cases hc
    unfold Go.Lib.parseUintM
    rw [if_pos hr]
    split
    · rfl
    split
    · rfl
    · exact uintM_digits M t _ fun b hb => h b (List.mem_cons_of_mem _ hb)
theorem int_digits (m t : Bs) (hm : m = [] ∨ m = [45]) (ht : t ≠ []) (hd : ∀ b ∈ t, isD b = true) : noNum (Go.Lib.parseIntB 64 (m ++ t)) = false := by
  have hu : noNum (Go.Lib.parseUintB 64 t) = false := by
    unfold Go.Lib.parseUintB
    rw [if_neg ht]
    exact uintM_digits _ t 0 hd
  obtain ⟨c, r, rfl⟩ : ∃ c r, t = c :: r := by cases t with
    | nil => exact absurd rfl ht
    | cons c r => exact ⟨c, r, rfl⟩
  have hc : ¬ (c.toNat = 43 ∨ c.toNat = 45) := by
    have := kind_of_isD (hd c (List.mem_cons_self ..))
    intro h
    unfold kindB at this
    rcases h with h | h <;> (rw [h] at this; revert this; decide)
  rcases hm with rfl | rfl
  · simp only [List.nil_append, Go.Lib.parseIntB]
    rw [if_neg hc]
    cases hp : Go.Lib.parseUintB 64 (c :: r) with
    | range => rfl
    | ok u => simp only; split; · rfl
              split <;> rfl
    | _ => rw [hp] at hu; cases hu
  · simp only [List.singleton_append, Go.Lib.parseIntB]
    rw [if_pos (by decide)]
    cases hp : Go.Lib.parseUintB 64 (c :: r) with
    | range => rfl
    | ok u => simp only; split; · rfl
              split <;> rfl
    | _ => rw [hp] at hu; cases hu
def hV (w : AVal) (all ws : List Word) (y : Word) (r1 : List Word) : AHeap := ((to0 w all (y :: r1) (hB w all ws [.bool false, .str [], .int .i64 0])).new (.arr [.int .i64 0, .str [], .int .i64 0])).set 4 (some (.arr [.int .i64 y.Kind, .str y.Text, .int .i64 y.At]))
theorem hV_at {y : Word} {r1 : List Word} : At0 w all (y :: r1) (hV w all ws y r1) := rfl
theorem hV_2 {y : Word} {r1 : List Word} : (hV w all ws y r1).get 4 = some (.arr [.int .i64 y.Kind, .str y.Text, .int .i64 y.At]) := rfl
namespace Pz
theorem la47 (h : AHeap) (p : AVal) : aload Tryz.prog h 47 p = loadA h true 3 p := by kernel_rfl
theorem bd47a (s : Bs) : abuild Tryz.prog 47 [(0, .bool true), (1, .str s)] = some (.agg [.bool true, .str s, .int .i64 0]) := by kernel_rfl
theorem bd47b (k : Int) : abuild Tryz.prog 47 [(2, .int .i64 k)] = some (.agg [.bool false, .str [], .int .i64 k]) := by kernel_rfl
theorem ab47 : abox (H0 w all ws) (.agg [.bool false, .str [], .int .i64 0]) = some (.ptr 3 0, hB w all ws [.bool false, .str [], .int .i64 0]) := rfl
theorem ab42 {r : List Word} : abox (to0 w all r (hB w all ws [.bool false, .str [], .int .i64 0])) (.agg [.int .i64 0, .str [], .int .i64 0]) = some (.ptr 4 0, (to0 w all r (hB w all ws [.bool false, .str [], .int .i64 0])).new (.arr [.int .i64 0, .str [], .int .i64 0])) := rfl
theorem st42 {y : Word} {r1 : List Word} : storeA ((to0 w all (y :: r1) (hB w all ws [.bool false, .str [], .int .i64 0])).new (.arr [.int .i64 0, .str [], .int .i64 0])) 3 (.ptr 4 0) (.agg [.int .i64 y.Kind, .str y.Text, .int .i64 y.At]) = some (hV w all ws y r1) := put_all (cs := [.int .i64 0, .str [], .int .i64 0]) rfl rfl rfl rfl
theorem nq0 (h : AHeap) : abin Cp .neq 131 (.tmp 33) (.const .nilIface) h .nilI .nilI = some (.bool false) := TyP.neqe131 33 h false
theorem nq1 (h : AHeap) : abin Cp .neq 131 (.tmp 33) (.const .nilIface) h (.iface 202 .top) .nilI = some (.bool true) := TyP.neqe131 33 h true
end Pz
theorem parse_run {s : Bs} {v : AVal} (hs : sum178 [.str s, .int .i64 10, .int .i64 64] = some v) (h : AHeap) : run Cp 178 [.str s, .int .i64 10, .int .i64 64] h = some (.ret v, h) := by
  refine run_of (n := 1) ?_
  simp only [arun, show Cp.summ 178 = some sum178 from rfl]
  rw [show norms (fun x => false) AHeap.empty Am.depth [.str s, .int .i64 10, .int .i64 64] = some [.str s, .int .i64 10, .int .i64 64] from normL_cont _ _ _ rfl]
  simp only [hs, Option.map_some]
theorem value_num (E : Mem w all) {x : Word} {r0 : List Word} (hw : Wf all (x :: r0)) (h4 : x.Kind ≠ 4) (b : Bool) (i : Int) (hi : decide (i ≥ 0) = b) {y : Word} {r1 : List Word} (hy : Wf all (y :: r1))
    (et : run Cp 110 [.ptr 2 0, .lst [.str ([45] : List UInt8)] 1 .full] (hB w all (x :: r0) [.bool false, .str [], .int .i64 0]) = some (.ret (.int .i64 i), to0 w all (y :: r1) (hB w all (x :: r0) [.bool false, .str [], .int .i64 0]))) :
    Does 167 [.ptr 2 0] w all (x :: r0) (El rValue 3) (pNumber (if b then ([45] : List UInt8) else []) (y :: r1)) := by
  obtain ⟨a0, ha0⟩ : ∃ a0, a0 = slots Tryz.f167 [.ptr 2 0] := ⟨_, rfl⟩
  have hl : a0.length = 46 := by rw [ha0]; rfl
  have i0 : a0[0]? = some (.ptr 2 0) := by rw [ha0]; rfl
  have ew := word_run E hw (hB_at (w := w) (all := all) (ws := x :: r0) (c := [.bool false, .str [], .int .i64 0]))
  have ey := word_run E hy (At0.to (w := w) (all := all) (r := y :: r1) (h := hB w all (x :: r0) [.bool false, .str [], .int .i64 0]))
  have hd : (x.Kind == 4) = false := beq_eq_false_iff_ne.2 h4
  have lk : loadA (hV w all (x :: r0) y r1) false 1 (.ptr 4 0) = some (.int .i64 y.Kind) := Heap.load_at hV_2 rfl
  have lt : loadA (hV w all (x :: r0) y r1) false 1 (.ptr 4 1) = some (.str y.Text) := Heap.load_at hV_2 rfl
  unfold pNumber
  dsimp only
  by_cases h3 : y.Kind = 3
  · rw [if_pos h3]
    have hd3 : (y.Kind != 3) = false := by simp [h3]
    obtain ⟨o1, o2, o3⟩ := (hy.ok y (List.mem_cons_self ..)).2.2 h3
    obtain ⟨m, hm⟩ : ∃ m : Bs, m = if b then ([45] : List UInt8) else [] := ⟨_, rfl⟩
    rw [← hm]
    have hm2 : m = [] ∨ m = [45] := by cases b <;> simp [hm]
    have hs := int_digits m y.Text hm2 o1 o3
    have hlm : (m ++ y.Text).length ≤ 20 := by
      rw [List.length_append]
      rcases hm2 with e | e <;> rw [e] <;> simp <;> omega
    have cc : ∀ (t : TypeId) (xo yo : Operand) (h : AHeap), abin Cp .add t xo yo h (.str m) (.str y.Text) = some (.str (m ++ y.Text)) := fun t xo yo h => cat_v (z := m ++ y.Text) (by unfold catT; rw [List.length_append] at hlm; rw [if_pos (by omega)]) t xo yo h
    cases hp : Go.Lib.parseIntB 64 (m ++ y.Text) with
    | range =>
      intro h hg
      have pr := fun h => parse_run (s := m ++ y.Text) (v := .tup [.int .i64 (Go.Lib.intSat 64 (m ++ y.Text)), .iface 202 .top]) (by simp only [sum178]; rw [if_pos (by omega), hp]) h
      obtain ⟨cs, hcs, ef⟩ := fail_run E hy 45 (hV_at (w := w) (all := all) (ws := x :: r0) (y := y) (r1 := r1))
      cases b <;> (simp only [Bool.false_eq_true, if_false, if_true] at hm; subst hm; simp only [List.nil_append, List.cons_append] at pr)
      · have pp : ∃ t, ex Cp (bodyOf Tryz.f167) ⟨a0, H0 w all (x :: r0)⟩ = some (.pan (flt ⟨45, y.At⟩), ⟨t, (hV w all (x :: r0) y r1).set 2 (some (.arr cs))⟩) := by
          simp only [bodyOf, Tryz.f167, Cat, Zs, awanted, aoper, evalO, put, acallOp, abuiltin, Nat.reduceEqDiff, Nat.reduceLT, ofV, ofCell, ↓reduceIte, hl, i0, CP, TyP.fa97_1, TyP.fa97_0, dropCells, Nat.zero_add, Nat.add_zero, TyP.ld3, TyP.ld9, TyP.st3, TyP.ld42, TyP.st42, TyP.ze42, Pz.f42_0, wv, Pz.bs52, TyP.own_parse_go_94, TyP.own_parse_go_99, TyP.own_parse_go_102, TyP.ze47, TyP.st47, Pz.ab47, Pz.bd47a, Pz.bd47b, ex_tup, TyP.fa42_0, TyP.fa42_1, ew, hd, et, hi, ey, Pz.ab42, Pz.st42, lk, lt, hd3, cc, pr, Pz.nq1, ef, kc_pan]
          exact ⟨_, rfl⟩
        obtain ⟨t, he⟩ := pp
        rw [ha0] at he
        exact dpan (f := 167) (args := [.ptr 2 0]) E hg Tryz.func167 rfl rfl rfl rfl rfl rfl he Heap.get_set_eq hcs
      · have pp : ∃ t, ex Cp (bodyOf Tryz.f167) ⟨a0, H0 w all (x :: r0)⟩ = some (.pan (flt ⟨45, y.At⟩), ⟨t, (hV w all (x :: r0) y r1).set 2 (some (.arr cs))⟩) := by
          simp only [bodyOf, Tryz.f167, Cat, Zs, awanted, aoper, evalO, put, acallOp, abuiltin, Nat.reduceEqDiff, Nat.reduceLT, ofV, ofCell, ↓reduceIte, hl, i0, CP, TyP.fa97_1, TyP.fa97_0, dropCells, Nat.zero_add, Nat.add_zero, TyP.ld3, TyP.ld9, TyP.st3, TyP.ld42, TyP.st42, TyP.ze42, Pz.f42_0, wv, Pz.bs52, TyP.own_parse_go_94, TyP.own_parse_go_99, TyP.own_parse_go_102, TyP.ze47, TyP.st47, Pz.ab47, Pz.bd47a, Pz.bd47b, ex_tup, TyP.fa42_0, TyP.fa42_1, ew, hd, et, hi, ey, Pz.ab42, Pz.st42, lk, lt, hd3, cc, pr, Pz.nq1, ef, kc_pan]
          exact ⟨_, rfl⟩
        obtain ⟨t, he⟩ := pp
        rw [ha0] at he
        exact dpan (f := 167) (args := [.ptr 2 0]) E hg Tryz.func167 rfl rfl rfl rfl rfl rfl he Heap.get_set_eq hcs
    | ok n =>
      have pr := fun h => parse_run (s := m ++ y.Text) (v := .tup [.int .i64 n, .nilI]) (by simp only [sum178]; rw [if_pos (by omega), hp]) h
      refine ⟨hy.next (by omega), fun h hg => ?_⟩
      have sa := adv hy (hV_at (w := w) (all := all) (ws := x :: r0) (y := y) (r1 := r1))
      have la : loadA (hV w all (x :: r0) y r1) false 1 (.ptr 2 1) = some (.int .i64 ((all.length - (y :: r1).length : Nat) : Int)) := Heap.load_at hV_at rfl
      have sp : storeA (to0 w all r1 (hV w all (x :: r0) y r1)) 3 (.ptr 3 0) (.agg [.bool false, .str [], .int .i64 n]) = some ((to0 w all r1 (hV w all (x :: r0) y r1)).set 3 (some (.arr [.bool false, .str [], .int .i64 n]))) := put_all (cs := [.bool false, .str [], .int .i64 0]) rfl rfl rfl rfl
      have hcell : ((to0 w all r1 (hV w all (x :: r0) y r1)).set 3 (some (.arr [.bool false, .str [], .int .i64 n]))).get 3 = some (.arr [.bool false, .str [], .int .i64 n]) := Heap.get_set_eq
      cases b <;> (simp only [Bool.false_eq_true, if_false, if_true] at hm; subst hm; simp only [List.nil_append, List.cons_append] at pr)
      · have pp : ∃ t, ex Cp (bodyOf Tryz.f167) ⟨a0, H0 w all (x :: r0)⟩ = some (.ret, ⟨t, (to0 w all r1 (hV w all (x :: r0) y r1)).set 3 (some (.arr [.bool false, .str [], .int .i64 n]))⟩) ∧ t[2]? = some (.ptr 3 0) := by
          simp only [bodyOf, Tryz.f167, Cat, Zs, awanted, aoper, evalO, put, acallOp, abuiltin, Nat.reduceEqDiff, Nat.reduceLT, ofV, ofCell, ↓reduceIte, hl, i0, CP, TyP.fa97_1, TyP.fa97_0, dropCells, Nat.zero_add, Nat.add_zero, TyP.ld3, TyP.ld9, TyP.st3, TyP.ld42, TyP.st42, TyP.ze42, Pz.f42_0, wv, Pz.bs52, TyP.own_parse_go_94, TyP.own_parse_go_99, TyP.own_parse_go_102, TyP.ze47, TyP.st47, Pz.ab47, Pz.bd47a, Pz.bd47b, ex_tup, TyP.fa42_0, TyP.fa42_1, ew, hd, et, hi, ey, Pz.ab42, Pz.st42, lk, lt, hd3, cc, pr, Pz.nq0, la, sa, sp]
          exact ⟨_, rfl, by simp [hl]⟩
        obtain ⟨t, he, ts⟩ := pp
        rw [ha0] at he
        exact ⟨.agg [.bool false, .str [], .int .i64 n], ⟨rfl, rfl, rfl⟩, dok (f := 167) (args := [.ptr 2 0]) (r := r1) E hg Tryz.func167 rfl rfl rfl rfl rfl rfl he (.inl rfl) (vs := [.agg [.bool false, .str [], .int .i64 n]]) (v := .agg [.bool false, .str [], .int .i64 n]) (by simp only [show Tryz.f167.results.toList = [ResultVar.cell 2 47] from rfl, aresults, ares1, CP, ts, Option.getD_some, Pz.la47, ld_all hcell (show _ = 3 from rfl)] <;> rfl) (Nrm.of (w := .agg [.bool false, .str [], .int .i64 n]) (rfl)) ((Heap.get_set_ne (by decide)).trans At0.to)⟩
      · have pp : ∃ t, ex Cp (bodyOf Tryz.f167) ⟨a0, H0 w all (x :: r0)⟩ = some (.ret, ⟨t, (to0 w all r1 (hV w all (x :: r0) y r1)).set 3 (some (.arr [.bool false, .str [], .int .i64 n]))⟩) ∧ t[2]? = some (.ptr 3 0) := by
          simp only [bodyOf, Tryz.f167, Cat, Zs, awanted, aoper, evalO, put, acallOp, abuiltin, Nat.reduceEqDiff, Nat.reduceLT, ofV, ofCell, ↓reduceIte, hl, i0, CP, TyP.fa97_1, TyP.fa97_0, dropCells, Nat.zero_add, Nat.add_zero, TyP.ld3, TyP.ld9, TyP.st3, TyP.ld42, TyP.st42, TyP.ze42, Pz.f42_0, wv, Pz.bs52, TyP.own_parse_go_94, TyP.own_parse_go_99, TyP.own_parse_go_102, TyP.ze47, TyP.st47, Pz.ab47, Pz.bd47a, Pz.bd47b, ex_tup, TyP.fa42_0, TyP.fa42_1, ew, hd, et, hi, ey, Pz.ab42, Pz.st42, lk, lt, hd3, cc, pr, Pz.nq0, la, sa, sp]
          exact ⟨_, rfl, by simp [hl]⟩
        obtain ⟨t, he, ts⟩ := pp
        rw [ha0] at he
        exact ⟨.agg [.bool false, .str [], .int .i64 n], ⟨rfl, rfl, rfl⟩, dok (f := 167) (args := [.ptr 2 0]) (r := r1) E hg Tryz.func167 rfl rfl rfl rfl rfl rfl he (.inl rfl) (vs := [.agg [.bool false, .str [], .int .i64 n]]) (v := .agg [.bool false, .str [], .int .i64 n]) (by simp only [show Tryz.f167.results.toList = [ResultVar.cell 2 47] from rfl, aresults, ares1, CP, ts, Option.getD_some, Pz.la47, ld_all hcell (show _ = 3 from rfl)] <;> rfl) (Nrm.of (w := .agg [.bool false, .str [], .int .i64 n]) (rfl)) ((Heap.get_set_ne (by decide)).trans At0.to)⟩
    | _ => rw [hp] at hs; cases hs
  · rw [if_neg h3]
    have hd3 : (y.Kind != 3) = true := by simp [h3]
    intro h hg
    obtain ⟨cs, hcs, ef⟩ := fail_run E hy 41 (hV_at (w := w) (all := all) (ws := x :: r0) (y := y) (r1 := r1))
    cases b
    · have pp : ∃ t, ex Cp (bodyOf Tryz.f167) ⟨a0, H0 w all (x :: r0)⟩ = some (.pan (flt ⟨41, y.At⟩), ⟨t, (hV w all (x :: r0) y r1).set 2 (some (.arr cs))⟩) := by
        simp only [bodyOf, Tryz.f167, Cat, Zs, awanted, aoper, evalO, put, acallOp, abuiltin, Nat.reduceEqDiff, Nat.reduceLT, ofV, ofCell, ↓reduceIte, hl, i0, CP, TyP.fa97_1, TyP.fa97_0, dropCells, Nat.zero_add, Nat.add_zero, TyP.ld3, TyP.ld9, TyP.st3, TyP.ld42, TyP.st42, TyP.ze42, Pz.f42_0, wv, Pz.bs52, TyP.own_parse_go_94, TyP.own_parse_go_99, TyP.own_parse_go_102, TyP.ze47, TyP.st47, Pz.ab47, Pz.bd47a, Pz.bd47b, ex_tup, TyP.fa42_0, TyP.fa42_1, ew, hd, et, hi, ey, Pz.ab42, Pz.st42, lk, hd3, ef, kc_pan]
        exact ⟨_, rfl⟩
      obtain ⟨t, he⟩ := pp
      rw [ha0] at he
      exact dpan (f := 167) (args := [.ptr 2 0]) E hg Tryz.func167 rfl rfl rfl rfl rfl rfl he Heap.get_set_eq hcs
    · have pp : ∃ t, ex Cp (bodyOf Tryz.f167) ⟨a0, H0 w all (x :: r0)⟩ = some (.pan (flt ⟨41, y.At⟩), ⟨t, (hV w all (x :: r0) y r1).set 2 (some (.arr cs))⟩) := by
        simp only [bodyOf, Tryz.f167, Cat, Zs, awanted, aoper, evalO, put, acallOp, abuiltin, Nat.reduceEqDiff, Nat.reduceLT, ofV, ofCell, ↓reduceIte, hl, i0, CP, TyP.fa97_1, TyP.fa97_0, dropCells, Nat.zero_add, Nat.add_zero, TyP.ld3, TyP.ld9, TyP.st3, TyP.ld42, TyP.st42, TyP.ze42, Pz.f42_0, wv, Pz.bs52, TyP.own_parse_go_94, TyP.own_parse_go_99, TyP.own_parse_go_102, TyP.ze47, TyP.st47, Pz.ab47, Pz.bd47a, Pz.bd47b, ex_tup, TyP.fa42_0, TyP.fa42_1, ew, hd, et, hi, ey, Pz.ab42, Pz.st42, lk, hd3, ef, kc_pan]
        exact ⟨_, rfl⟩
      obtain ⟨t, he⟩ := pp
      rw [ha0] at he
      exact dpan (f := 167) (args := [.ptr 2 0]) E hg Tryz.func167 rfl rfl rfl rfl rfl rfl he Heap.get_set_eq hcs
theorem value_does (E : Mem w all) (hw : Wf all ws) : Does 167 [.ptr 2 0] w all ws (El rValue 3) (pValue ws) := by
  obtain ⟨x, r0, rfl⟩ := hw.cons
  unfold pValue
  by_cases hk : hKind (x :: r0) = 4
  · rw [if_pos hk]
    obtain ⟨a0, ha0⟩ : ∃ a0, a0 = slots Tryz.f167 [.ptr 2 0] := ⟨_, rfl⟩
    have hl : a0.length = 46 := by rw [ha0]; rfl
    have i0 : a0[0]? = some (.ptr 2 0) := by rw [ha0]; rfl
    have ew := word_run E hw (hB_at (w := w) (all := all) (ws := x :: r0) (c := [.bool false, .str [], .int .i64 0]))
    have hk' : x.Kind = 4 := hk
    have hd : (x.Kind == 4) = true := by simp [hk']
    have hn : ofKind 4 (x :: r0) = .ok x.Text r0 := by simp [ofKind, hk']
    have d1 := of_does E hw 4 (by decide)
    rw [hn] at d1 ⊢
    obtain ⟨w1, d1⟩ := d1
    obtain ⟨v1, rfl, e1⟩ := d1 (hB w all (x :: r0) [.bool false, .str [], .int .i64 0]) hB_at
    rw [R.bind_ok]
    refine ⟨w1, fun h hg => ?_⟩
    have sp := hB_put (w := w) (all := all) (ws := x :: r0) (r := r0) (c := [.bool false, .str [], .int .i64 0]) (ds := [.bool true, .str x.Text, .int .i64 0]) (n := 3) rfl rfl rfl
    have hcell : ((to0 w all r0 (hB w all (x :: r0) [.bool false, .str [], .int .i64 0])).set 3 (some (.arr [.bool true, .str x.Text, .int .i64 0]))).get 3 = some (.arr [.bool true, .str x.Text, .int .i64 0]) := Heap.get_set_eq
    have pp : ∃ t, ex Cp (bodyOf Tryz.f167) ⟨a0, H0 w all (x :: r0)⟩ = some (.ret, ⟨t, (to0 w all r0 (hB w all (x :: r0) [.bool false, .str [], .int .i64 0])).set 3 (some (.arr [.bool true, .str x.Text, .int .i64 0]))⟩) ∧ t[2]? = some (.ptr 3 0) := by
      simp only [bodyOf, Tryz.f167, Cat, Zs, awanted, aoper, evalO, put, acallOp, abuiltin, Nat.reduceEqDiff, Nat.reduceLT, ofV, ofCell, ↓reduceIte, hl, i0, CP, TyP.fa97_1, TyP.fa97_0, dropCells, Nat.zero_add, Nat.add_zero, TyP.ld3, TyP.ld9, TyP.st3, TyP.ld42, TyP.st42, TyP.ze42, Pz.f42_0, wv, Pz.bs52, TyP.own_parse_go_94, TyP.own_parse_go_99, TyP.own_parse_go_102, TyP.ze47, TyP.st47, Pz.ab47, Pz.bd47a, Pz.bd47b, ex_tup, TyP.fa42_0, TyP.fa42_1, ew, hd, e1, sp]
      exact ⟨_, rfl, by simp [hl]⟩
    obtain ⟨t, he, ts⟩ := pp
    rw [ha0] at he
    exact ⟨.agg [.bool true, .str x.Text, .int .i64 0], ⟨rfl, rfl, rfl⟩, dok (f := 167) (args := [.ptr 2 0]) (r := r0) E hg Tryz.func167 rfl rfl rfl rfl rfl rfl he (.inl rfl) (vs := [.agg [.bool true, .str x.Text, .int .i64 0]]) (v := .agg [.bool true, .str x.Text, .int .i64 0]) (by simp only [show Tryz.f167.results.toList = [ResultVar.cell 2 47] from rfl, aresults, ares1, CP, ts, Option.getD_some, Pz.la47, ld_all hcell (show _ = 3 from rfl)] <;> rfl) (Nrm.of (w := .agg [.bool true, .str x.Text, .int .i64 0]) (rfl)) ((Heap.get_set_ne (by decide)).trans At0.to)⟩
  · rw [if_neg hk]
    cases hm : isH ([45] : List UInt8) (x :: r0) with
    | true =>
      rw [if_pos rfl]
      have et := one_yes E hw ([45] : List UInt8) hm (hB_at (w := w) (all := all) (ws := x :: r0) (c := [.bool false, .str [], .int .i64 0]))
      have hw0 := hw.isH hm
      rw [List.drop_succ_cons, List.drop_zero] at et hw0 ⊢
      obtain ⟨y, r1, rfl⟩ := hw0.cons
      exact value_num E hw hk true _ rfl hw0 et
    | false =>
      rw [if_neg (by decide)]
      have et := one_no E hw ([45] : List UInt8) hm (hB_at (w := w) (all := all) (ws := x :: r0) (c := [.bool false, .str [], .int .i64 0]))
      exact value_num E hw hk false (-1) rfl hw (by rw [et, At0.same hB_at])
end
end Go.Proofs.Q.Par

