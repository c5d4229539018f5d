import Derived.Test.YthfbbjoaidajfaaGreatDoorAmStart
import Derived.Laws.Sem
import Derived.Laws.Entries
set_option linter.unusedVariables false
set_option linter.unusedSimpArgs false
namespace Go.Am
open Go
def OkV (B : Nat) (h : AHeap) (g : G) (r : Result Value) (v : AVal) (h' : AHeap) : Prop :=
  ∃ v' g', r = .ok v' g'.w ∧ Inv B h' g' ∧ Ext h g h' g' ∧ VRel g'.ι g'.μ v v'
def OkU (B : Nat) (h : AHeap) (g : G) (r : Result Unit) (h' : AHeap) : Prop :=
  ∃ g', r = .ok () g'.w ∧ Inv B h' g' ∧ Ext h g h' g'
theorem OkV.pure {B : Nat} {h : AHeap} {g : G} (I : Inv B h g) {v : AVal} {v' : Value} (hv : VRel g.ι g.μ v v') : OkV B h g (.ok v' g.w) v h := ⟨v', g, rfl, I, Ext.refl h g, hv⟩
theorem add_plain (b o n : Nat) : (⟨b, o, none⟩ : Addr).add n = ⟨b, o + n, none⟩ := by
  unfold Addr.add; split
  · rename_i h; subst h; rfl
  · rfl
def CellsAt (w : World) (b o : Nat) (vs : List Value) : Prop := ∀ (j : Nat) (v : Value), vs[j]? = some v → w.cell? ⟨b, o + j, none⟩ = some v
theorem CellsAt.take {w : World} {b o : Nat} {vs : List Value} (h : CellsAt w b o vs) (n : Nat) : CellsAt w b o (vs.take n) := fun j v hv => by
  rw [List.getElem?_take] at hv
  split at hv
  · exact h j v hv
  · simp at hv
theorem ICells.at_ {B : Nat} {h : AHeap} {g : G} (I : Inv B h g) {b o : Nat} {vs : List Value} (hi : ICells g.ι b o vs) : CellsAt g.w b o vs := fun j v hv => I.imm _ _ _ (hi j v hv)
theorem run_loadCellsFrom {P : Program} {w : World} {b o : Nat} (vs : List Value) : ∀ (i : Nat) (acc : Array Value), CellsAt w b (o + i) vs → (loadCellsFrom ⟨b, o, none⟩ i vs.length acc).run P w = .ok (acc ++ vs.toArray) w := by
  induction vs with
  | nil => intro i acc _; simp [loadCellsFrom]
  | cons v vs ih =>
    intro i acc hc
    have h0 := hc 0 v (by simp)
    simp only [List.length_cons, loadCellsFrom, Sem.run_bind, add_plain, run_load]
    rw [show o + i = o + i + 0 from rfl, h0]
    simp only [Result.andThen_ok]
    rw [ih (i + 1) (acc.push v) (fun j u hu => by
      have := hc (j + 1) u (by simpa using hu)
      rw [show o + (i + 1) + j = o + i + (j + 1) from by omega]; exact this)]
    simp
theorem run_loadCells {P : Program} {w : World} {b o : Nat} (vs : List Value) (h : CellsAt w b o vs) : (loadCells ⟨b, o, none⟩ vs.length).run P w = .ok vs.toArray w := by
  have := run_loadCellsFrom (P := P) (w := w) (b := b) (o := o) vs 0 #[] (by simpa using h)
  unfold loadCells; rw [this]; simp
theorem run_isAgg {P : Program} {t : TypeId} {ag : Bool} (h : isAggT P t = some ag) (w : World) : (isAgg t).run P w = .ok ag w := by
  unfold isAggT at h
  cases hu : P.underlying t with
  | none => simp [hu] at h
  | some d =>
    simp only [hu, Option.map_some, Option.some.injEq] at h
    simp only [isAgg, Sem.run_bind, run_underlying hu, Result.andThen_ok]
    subst h
    cases d <;> rfl
theorem run_sizeOf' {P : Program} {t : TypeId} {i : TypeInfo} (h : P.info? t = some i) (w : World) : (sizeOf t).run P w = .ok i.size w := by
  simp [sizeOf, typeInfo, h]
theorem run_typeInfo' {P : Program} {t : TypeId} {i : TypeInfo} (h : P.info? t = some i) (w : World) : (typeInfo t).run P w = .ok i w := by
  simp [typeInfo, h]
def ptrCells (h : AHeap) : AVal → Option (List AVal)
  | .ptr id off => match h.get id with
    | some (.arr cells) => if off ≤ cells.length then some (cells.drop off) else none
    | _ => none
  | .iptr cells => some cells
  | _ => none
theorem loadA_eq (h : AHeap) (ag : Bool) (n : Nat) (p : AVal) : loadA h ag n p = (ptrCells h p).bind (ofCells ag n) := by
  cases p with
  | ptr id off =>
    simp only [loadA, ptrCells]
    cases h.get id with
    | none => rfl
    | some x => cases x with
      | arr cells => simp only; split <;> rfl
      | _ => rfl
  | _ => rfl
theorem ptr_cells {B : Nat} {h : AHeap} {g : G} (I : Inv B h g) {p : AVal} {p' : Value} (hp : VRel g.ι g.μ p p') {cs : List AVal} (hc : ptrCells h p = some cs) :
    ∃ b o vs, p' = .pointer (some ⟨b, o, none⟩) ∧ VsRel g.ι g.μ cs vs ∧ CellsAt g.w b o vs := by
  unfold ptrCells at hc
  split at hc
  · rename_i id off
    split at hc
    · rename_i cells hget
      split at hc
      · rename_i hle
        simp only [Option.some.injEq] at hc; subst hc
        obtain ⟨b, o, ccs, e, vs, hm, h0, hh, hv, hcs, hn⟩ := I.blk id _ hget
        cases hp with
        | ptr hm' =>
          rw [hm] at hm'; cases hm'
          refine ⟨b, o + off, vs.drop off, rfl, hv.drop off, fun j u hu => ?_⟩
          rw [cell?_of_heap hh, Nat.add_assoc]
          exact hcs (off + j) u (by simpa using hu)
      · cases hc
    · cases hc
  · simp only [Option.some.injEq] at hc; subst hc
    cases hp with
    | iptr hv hi => exact ⟨_, _, _, rfl, hv, hi.at_ I⟩
  · cases hc
theorem ofCells_load {P : Program} {g : G} {t : TypeId} {ag : Bool} {i : TypeInfo} {b o : Nat} {cs : List AVal} {vs : List Value} {v : AVal} (hag : isAggT P t = some ag) (hi : P.info? t = some i)
    (hv : VsRel g.ι g.μ cs vs) (hc : CellsAt g.w b o vs) (h : ofCells ag i.size cs = some v) : ∃ v', (loadVar t ⟨b, o, none⟩).run P g.w = .ok v' g.w ∧ VRel g.ι g.μ v v' := by
  simp only [loadVar, Sem.run_bind, run_isAgg hag, Result.andThen_ok]
  cases ag with
  | true =>
    simp only [ofCells, if_true] at h
    split at h
    · rename_i hle
      simp only [Option.some.injEq] at h; subst h
      have hl : (vs.take i.size).length = i.size := by simp; have := hv.length; omega
      have := run_loadCells (P := P) (vs.take i.size) (hc.take i.size)
      rw [hl] at this
      simp only [if_true, Sem.run_bind, run_sizeOf' hi, Result.andThen_ok, this, Sem.run_pure]
      exact ⟨_, rfl, .agg (by simpa using hv.take i.size)⟩
    · cases h
  | false =>
    simp only [ofCells, Bool.false_eq_true, if_false] at h
    obtain ⟨u, hu, hr⟩ := hv.get h
    have := hc 0 u hu
    simp only [Bool.false_eq_true, if_false, run_load]
    rw [show o = o + 0 from rfl, this]
    exact ⟨u, rfl, hr⟩
theorem load_ok {P : Program} {B : Nat} {h : AHeap} {g : G} (I : Inv B h g) {t : TypeId} {p : AVal} {p' : Value} (hp : VRel g.ι g.μ p p') {v : AVal} (hl : aload P h t p = some v) :
    ∃ v', (Instr.loadAt t p').run P g.w = .ok v' g.w ∧ VRel g.ι g.μ v v' := by
  simp only [aload, Option.bind_eq_bind, Option.bind_eq_some_iff, loadA_eq] at hl
  obtain ⟨ag, hag, i, hi, cs, hcs, hof⟩ := hl
  obtain ⟨b, o, vs, rfl, hv, hc⟩ := ptr_cells I hp hcs
  simp only [Instr.loadAt, Instr.sureAddr, Sem.run_bind, Sem.run_pure, Result.andThen_ok]
  exact ofCells_load hag hi hv hc hof
def setRangeV (cs : List Value) (off : Nat) : List Value → List Value
  | [] => cs
  | v :: vs => setRangeV (cs.set off v) (off + 1) vs
theorem setRangeV_length (cs : List Value) (off : Nat) (vs : List Value) : (setRangeV cs off vs).length = cs.length := by
  induction vs generalizing cs off with
  | nil => rfl
  | cons v vs ih => simp [setRangeV, ih]
theorem setRange_length (cs : List AVal) (off : Nat) (vs : List AVal) : (setRange cs off vs).length = cs.length := by
  induction vs generalizing cs off with
  | nil => rfl
  | cons v vs ih => simp [setRange, ih]
theorem setRange_rel {ι : Imm} {μ : Mu} {cs : List AVal} {cs' : List Value} (h : VsRel ι μ cs cs') (off : Nat) {vs : List AVal} {vs' : List Value} (hv : VsRel ι μ vs vs') : VsRel ι μ (setRange cs off vs) (setRangeV cs' off vs') := by
  induction vs generalizing cs cs' off vs' with
  | nil => cases hv; exact h
  | cons v vs ih => cases hv with | cons h1 hs => exact ih (h.set off h1) (off + 1) hs
theorem setRangeV_get (cs : List Value) (off : Nat) (vs : List Value) (j : Nat) (hj : j < off ∨ off + vs.length ≤ j) : (setRangeV cs off vs)[j]? = cs[j]? := by
  induction vs generalizing cs off with
  | nil => rfl
  | cons v vs ih =>
    simp only [setRangeV]
    rw [ih (cs.set off v) (off + 1) (by simp only [List.length_cons] at hj; omega)]
    rw [List.getElem?_set]
    simp only [List.length_cons] at hj
    rw [if_neg (by omega)]
theorem setRangeV_in (cs : List Value) (off : Nat) (vs : List Value) (j : Nat) (v : Value) (hj : vs[j]? = some v) (hl : off + vs.length ≤ cs.length) : (setRangeV cs off vs)[off + j]? = some v := by
  induction vs generalizing cs off j with
  | nil => simp at hj
  | cons u vs ih =>
    simp only [setRangeV]
    simp only [List.length_cons] at hl
    cases j with
    | zero =>
      simp only [List.getElem?_cons_zero, Option.some.injEq] at hj; subst hj
      rw [setRangeV_get _ _ _ _ (by omega), List.getElem?_set]
      simp; omega
    | succ j =>
      have := ih (cs.set off u) (off + 1) j (by simpa using hj) (by simp; omega)
      rw [show off + (j + 1) = off + 1 + j from by omega]; exact this
theorem VRel.oneCell {ι : Imm} {μ : Mu} {v : AVal} {v' : Value} (h : VRel ι μ v v') (hc : v.isCell = true) : v'.oneCell' = true := by
  cases h <;> first | rfl | (simp [AVal.isCell] at hc; done)
theorem VsRel.oneCells {ι : Imm} {μ : Mu} {vs : List AVal} {vs' : List Value} (h : VsRel ι μ vs vs') (hc : vs.all AVal.isCell = true) : ∀ v ∈ vs', v.oneCell' = true := by
  induction vs generalizing vs' with
  | nil => cases h; simp
  | cons v vs ih =>
    cases h with
    | cons h1 hs =>
      simp only [List.all_cons, Bool.and_eq_true] at hc
      intro u hu
      rcases List.mem_cons.1 hu with rfl | hu
      · exact h1.oneCell hc.1
      · exact ih hs hc.2 u hu
theorem run_storeCells {P : Program} {b o : Nat} {e : TypeId} {lo hi : Nat} (vs : List Value) : ∀ (i : Nat) (w : World) (cs : Array Value), w.heap[b]? = some (.cells cs e (lo, hi)) → o + i + vs.length ≤ cs.size →
    (∀ v ∈ vs, v.oneCell' = true) → (∀ j, o + i ≤ j → j < o + i + vs.length → ¬ (lo ≤ j ∧ j < hi)) →
    ∃ w', (storeCells ⟨b, o, none⟩ vs i).run P w = .ok () w' ∧ Upd w w' b (.cells (setRangeV cs.toList (o + i) vs).toArray e (lo, hi)) := by
  induction vs with
  | nil => intro i w cs hh _ _ _; exact ⟨w, by simp [storeCells], rfl, rfl, rfl, rfl, by simpa [setRangeV] using hh, fun _ _ => rfl⟩
  | cons v vs ih =>
    intro i w cs hh hl h1 hf
    simp only [List.length_cons] at hl hf
    have hcell : w.cell? ⟨b, o + i, none⟩ = some cs[o + i] := by rw [cell?_of_heap hh]; simp [Array.getElem?_eq_getElem (show o + i < cs.size by omega)]
    have hfr : w.frozen? ⟨b, o + i, none⟩ = false := by
      simp only [World.frozen?, hh]
      have := hf (o + i) (by omega) (by omega)
      by_cases h : lo ≤ o + i
      · simp [h]; omega
      · simp [h]
    have hset : (w.setCell ⟨b, o + i, none⟩ v).heap[b]? = some (.cells (cs.setIfInBounds (o + i) v) e (lo, hi)) := by
      simp only [World.setCell]
      rw [Array.getElem?_modify]
      simp [hh]
    obtain ⟨w', hr, u⟩ := ih (i + 1) (w.setCell ⟨b, o + i, none⟩ v) (cs.setIfInBounds (o + i) v) hset (by simp; omega) (fun x hx => h1 x (by simp [hx])) (fun j h2 h3 => hf j (by omega) (by omega))
    refine ⟨w', ?_, u.os, u.tape, u.output, ?_, ?_, ?_⟩
    · simp only [storeCells, Sem.run_bind, add_plain]
      rw [run_store P w _ v .plain (h1 v (by simp))]
      simp only [hcell, hfr, Bool.false_eq_true, if_false, Result.andThen_ok]
      exact hr
    · rw [u.size]; simp [World.setCell]
    · have := u.at_
      simp only [setRangeV]
      rw [this]
      simp [Array.toList_setIfInBounds, Nat.add_assoc]
    · intro b' hb'
      rw [u.other b' hb']
      simp only [World.setCell]
      rw [Array.getElem?_modify]
      simp [Ne.symm hb']
theorem Inv.setArr {B : Nat} {h : AHeap} {g : G} (I : Inv B h g) {P : Program} {id off : Nat} {cells vs : List AVal} {vs' : List Value} (hx : h.get id = some (.arr cells)) (hv : VsRel g.ι g.μ vs vs') (hc : vs.all AVal.isCell = true)
    (hl : off + vs.length ≤ cells.length) {b o s : Nat} {e : TypeId} (hm : g.μ id = some (.arr b o s e)) :
    OkU B h g ((storeCells ⟨b, o + off, none⟩ vs').run P g.w) (h.set id (some (.arr (setRange cells off vs)))) := by
  obtain ⟨b', o', cs, e, ws, hm', h0, hh, hws, hcs, hn⟩ := I.blk id _ hx
  rw [hm] at hm'; cases hm'
  have hlen := hws.length
  have hlv := hv.length
  by_cases hz : vs = []
  · subst hz
    cases hv
    have he : h.set id (some (.arr (setRange cells off []))) = h := by
      cases h with | mk get next =>
      simp only [AHeap.set, setRange, AHeap.mk.injEq, and_true]
      funext j
      split
      · rename_i hj; subst hj; exact hx.symm
      · rfl
    rw [he]
    exact ⟨g, by simp [storeCells], I, Ext.refl h g⟩
  · have h1 : 0 < vs'.length := by
      rw [← hlv]; exact List.length_pos_iff.2 hz
    have hsz' : o + off + vs'.length ≤ cs.size := by have := hn.2; omega
    obtain ⟨w', hr, u⟩ := run_storeCells (P := P) vs' 0 g.w cs hh (by simpa using hsz') (hv.oneCells hc) (fun j _ _ => by omega)
    have hb : blkOf g.μ id = some b := by simp [blkOf, hm, Ent.block]
    have T := I.turn hx hb u g.ι (fun _ _ _ h => h) (fun _ _ _ => rfl) (fun j v hj => by rw [hn.1 j] at hj; cases hj) (y := some (.arr (setRange cells off vs))) (fun z hz => by
      simp only [Option.some.injEq] at hz; subst hz
      refine ⟨b, o, _, e, setRangeV ws off vs', by rw [hm]; simp [setRangeV_length], h0, u.at_, setRange_rel hws off hv, fun j v hj => ?_, hn.1, by simp [setRange_length, setRangeV_length]; exact hn.2⟩
      simp only [Nat.add_zero, List.getElem?_toArray]
      by_cases hin : off ≤ j ∧ j < off + vs'.length
      · obtain ⟨k, rfl⟩ : ∃ k, j = off + k := ⟨j - off, by omega⟩
        have hk : vs'[k]? = some vs'[k] := by simp [show k < vs'.length by omega]
        rw [setRangeV_in ws off vs' k _ hk (by omega)] at hj
        rw [← Nat.add_assoc, setRangeV_in cs.toList (o + off) vs' k _ hk (by simpa using hsz')]
        exact hj
      · rw [setRangeV_get ws off vs' j (by omega)] at hj
        rw [setRangeV_get cs.toList (o + off) vs' (o + j) (by omega)]
        simpa using hcs j v hj)
    exact ⟨⟨w', g.ι, g.μ⟩, hr, T.1, T.2⟩
theorem store_ok {P : Program} {B : Nat} {h h' : AHeap} {g : G} (I : Inv B h g) {t : TypeId} {p v : AVal} {p' v' : Value} (hp : VRel g.ι g.μ p p') (hv : VRel g.ι g.μ v v') (hl : astore P h t p v = some h') :
    OkU B h g ((Instr.storeAt t p' v').run P g.w) h' := by
  simp only [astore, Option.bind_eq_bind, Option.bind_eq_some_iff] at hl
  obtain ⟨i, hi, hs⟩ := hl
  unfold storeA at hs
  split at hs
  · rename_i id off
    split at hs
    · rename_i cells hget
      split at hs
      · rename_i hcond
        simp only [Option.some.injEq] at hs; subst hs
        obtain ⟨hn, hall, hle⟩ := hcond
        have hb : v.boxable = true := by
          cases v <;> first | exact hall | (simp [AVal.cells, AVal.isCell, AVal.boxable] at hall ⊢)
        have hcv := hv.cells hb
        cases hp with
        | ptr hm =>
          have := I.setArr (P := P) hget hcv hall (show off + v.cells.length ≤ cells.length by omega) hm
          have hsz : v'.cells.size = i.size := by have := hcv.length; simp at this; omega
          simp only [Instr.storeAt, Instr.sureAddr, storeVar, Sem.run_bind, Sem.run_pure, Result.andThen_ok, run_sizeOf' hi, hsz, ne_eq, not_true_eq_false, if_false]
          exact this
      · cases hs
    · cases hs
  · cases hs
theorem run_newRow {P : Program} (e : TypeId) (cs : Array Value) (w : World) : (newRow e cs).run P w = .ok ⟨w.heap.size, 0, none⟩ { w with heap := w.heap.push (.cells cs e) } := by
  simp [newRow]
theorem Inv.newArr {B : Nat} {h : AHeap} {g : G} (I : Inv B h g) {w' : World} {cells : List AVal} {cs : Array Value} {e : TypeId} (p : Psh g.w w' (.cells cs e (0, 0))) {vs : List Value} (hv : VsRel g.ι g.μ cells vs) (hvs : ∀ (j : Nat) (v : Value), vs[j]? = some v → cs[j]? = some v) (hsz : cells.length ≤ cs.size) :
    Inv B (h.new (.arr cells)) ⟨w', g.ι, addMu g.μ h.next (.arr g.w.heap.size 0 cs.size e)⟩ ∧ Ext h g (h.new (.arr cells)) ⟨w', g.ι, addMu g.μ h.next (.arr g.w.heap.size 0 cs.size e)⟩ := by
  exact I.fresh p (.arr cells) _ rfl ⟨g.w.heap.size, 0, cs, e, vs, by simp [addMu], I.base, psh_new p, hv.mono (I.le_add _), fun j v hj => by simpa using hvs j v hj, I.no_imm, by omega⟩
theorem box_okM {P : Program} {B : Nat} {h : AHeap} {g : G} (I : Inv B h g) {e : TypeId} {v : AVal} {v' : Value} (hv : VRel g.ι g.μ v v') {r : AVal × AHeap} (hl : abox h v = some r) :
    ∃ u' g', (Instr.box e v').run P g.w = .ok u' g'.w ∧ Inv B r.2 g' ∧ Ext h g r.2 g' ∧ VRel g'.ι g'.μ r.1 u' ∧ ∃ b s, g'.μ h.next = some (.arr b 0 s e) := by
  unfold abox at hl
  split at hl
  · rename_i hb
    simp only [Option.some.injEq] at hl; subst hl
    have T := I.newArr (w' := { g.w with heap := g.w.heap.push (.cells v'.cells e) }) (cs := v'.cells) (e := e) ⟨rfl, rfl, rfl, rfl⟩ (hv.cells hb) (fun j v hj => by simpa using hj) (by have := (hv.cells hb).length; simp at this; omega)
    refine ⟨.pointer (some ⟨g.w.heap.size, 0, none⟩), _, ?_, T.1, T.2, ?_, g.w.heap.size, v'.cells.size, by simp [addMu]⟩
    · simp [Instr.box, newVar, run_newRow]
    · exact VRel.ptr (o := 0) (s := v'.cells.size) (e := e) (by simp [addMu])
  · cases hl
theorem box_ok {P : Program} {B : Nat} {h : AHeap} {g : G} (I : Inv B h g) {e : TypeId} {v : AVal} {v' : Value} (hv : VRel g.ι g.μ v v') {r : AVal × AHeap} (hl : abox h v = some r) : OkV B h g ((Instr.box e v').run P g.w) r.1 r.2 := by
  obtain ⟨u', g', h1, h2, h3, h4, _⟩ := box_okM (P := P) I (e := e) hv hl
  exact ⟨u', g', h1, h2, h3, h4⟩
theorem box_okT {P : Program} {B : Nat} {h : AHeap} {g : G} (I : Inv B h g) {e : TypeId} {v : AVal} {v' : Value} (hv : VRel g.ι g.μ v v') {r : AVal × AHeap} (hl : abox h v = some r) : OkV B h g ((Instr.box e v').run P g.w) r.1 (r.2.mark h.next (e, true)) := by
  obtain ⟨u', g', h1, h2, h3, h4, b, s, h5⟩ := box_okM (P := P) I (e := e) hv hl
  have T := h2.mark (z := true) h5 (fun _ => rfl)
  exact ⟨u', g', h1, T.1, h3.trans T.2, h4⟩
theorem run_zeroValue {P : Program} {t : TypeId} {i : TypeInfo} {z : Value} (h : P.info? t = some i) (hz : i.zero = some z) (w : World) : (zeroValue t).run P w = .ok z w := by
  simp [zeroValue, run_typeInfo' h, hz]
theorem zeroA_some {P : Program} {t : TypeId} {v : AVal} (h : zeroA P t = some v) : ∃ i z, P.info? t = some i ∧ i.zero = some z ∧ v = ofV z := by
  simp only [zeroA, Option.bind_eq_bind, Option.bind_eq_some_iff, Option.some.injEq] at h
  obtain ⟨i, hi, z, hz, rfl⟩ := h
  exact ⟨i, z, hi, hz, rfl⟩
theorem alloc_ok {P : Program} {B : Nat} {h : AHeap} {g : G} (I : Inv B h g) {e : TypeId} {z : AVal} (hz : zeroA P e = some z) {r : AVal × AHeap} (hl : abox h z = some r) : OkV B h g ((Instr.alloc e true (.tuple #[])).run P g.w) r.1 r.2 := by
  obtain ⟨i, z', hi, hz', rfl⟩ := zeroA_some hz
  have := box_ok (P := P) I (e := e) (ofV_rel (ι := g.ι) (μ := g.μ) z') hl
  simp only [Instr.alloc, Sem.run_bind, run_zeroValue hi hz', Result.andThen_ok]
  simpa [Instr.box] using this
theorem alloc_okM {P : Program} {B : Nat} {h : AHeap} {g : G} (I : Inv B h g) {e : TypeId} {z : AVal} (hz : zeroA P e = some z) {r : AVal × AHeap} (hl : abox h z = some r) : OkV B h g ((Instr.alloc e true (.tuple #[])).run P g.w) r.1 (r.2.mark h.next (e, true)) := by
  obtain ⟨i, z', hi, hz', rfl⟩ := zeroA_some hz
  obtain ⟨u', g', h1, h2, h3, h4, b, s, h5⟩ := box_okM (P := P) I (e := e) (ofV_rel (ι := g.ι) (μ := g.μ) z') hl
  have T := h2.mark (z := true) h5 (fun _ => rfl)
  refine ⟨u', g', ?_, T.1, h3.trans T.2, h4⟩
  simp only [Instr.alloc, Sem.run_bind, run_zeroValue hi hz', Result.andThen_ok]
  simpa [Instr.box] using h1
end Go.Am

