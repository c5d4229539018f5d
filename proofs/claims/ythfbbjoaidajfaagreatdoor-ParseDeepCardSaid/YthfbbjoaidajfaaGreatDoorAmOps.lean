import Derived.Test.YthfbbjoaidajfaaGreatDoorAmMem
import Derived.Laws.Tables
import Derived.Lib.Strings
import Derived.Room.Entries
import Derived.Laws.StructEq
import Derived.Laws.BytesArg
import Derived.Lib.UnsafeStr
import Derived.Lib.Builder
set_option linter.unusedVariables false
set_option linter.unusedSimpArgs false
namespace Go.Am
open Go
section
variable {ι : Imm} {μ : Mu}
theorem VsRel.of_get {xs : List AVal} {ys : List Value} (hl : xs.length = ys.length) (h : ∀ (j : Nat) (x : AVal) (y : Value), xs[j]? = some x → ys[j]? = some y → VRel ι μ x y) : VsRel ι μ xs ys := by
  induction xs generalizing ys with
  | nil => cases ys with
    | nil => exact .nil
    | cons _ _ => simp at hl
  | cons x xs ih => cases ys with
    | nil => simp at hl
    | cons y ys => exact .cons (h 0 x y rfl rfl) (ih (by simpa using hl) fun j a b ha hb => h (j + 1) a b (by simpa using ha) (by simpa using hb))
theorem setIf_fold (l : List Value) : ∀ (k off : Nat) (cs : Array Value), ((l.zipIdx k).foldl (fun (cs : Array Value) (x : Value × Nat) => cs.setIfInBounds (off + x.2) x.1) cs).toList = setRangeV cs.toList (off + k) l := by
  induction l with
  | nil => intro k off cs; simp [setRangeV]
  | cons v l ih =>
    intro k off cs
    simp only [List.zipIdx_cons, List.foldl_cons, setRangeV]
    rw [ih (k + 1) off]
    simp [Array.toList_setIfInBounds, Nat.add_assoc]
inductive PsRel (ι : Imm) (μ : Mu) : List (Nat × AVal) → List (Nat × Value) → Prop
  | nil : PsRel ι μ [] []
  | cons {i : Nat} {v : AVal} {v' : Value} {ps : List (Nat × AVal)} {ps' : List (Nat × Value)} (h : VRel ι μ v v') (hs : PsRel ι μ ps ps') : PsRel ι μ ((i, v) :: ps) ((i, v') :: ps')
theorem fill_ok (place : Nat → Option (Nat × Nat)) : ∀ (ps : List (Nat × AVal)) (ps' : List (Nat × Value)) (cells : List AVal) (cs : Array Value) (r : List AVal), PsRel ι μ ps ps' → VsRel ι μ cells cs.toList → fillA place cells ps = some r →
    ∃ r', Instr.fill place cs ps' = some r' ∧ VsRel ι μ r r'.toList := by
  intro ps
  induction ps with
  | nil => intro ps' cells cs r hp hc hf; cases hp; simp only [fillA, Option.some.injEq] at hf; subst hf; exact ⟨cs, rfl, hc⟩
  | cons p ps ih =>
    intro ps' cells cs r hp hc hf
    cases hp with
    | @cons i v v' _ ps'' hv hps =>
      simp only [fillA] at hf
      cases hpl : place i with
      | none => simp [hpl] at hf
      | some q =>
        obtain ⟨off, size⟩ := q
        simp only [hpl] at hf
        split at hf
        · rename_i hcond
          obtain ⟨h1, h2, h3⟩ := hcond
          have hcv := hv.cells h2
          have hlv := hcv.length
          have hlc := hc.length
          simp only [Array.length_toList] at hlv hlc
          have hc' : VsRel ι μ (setRange cells off v.cells) (v'.cells.toList.zipIdx.foldl (fun (cs : Array Value) (x : Value × Nat) => cs.setIfInBounds (off + x.2) x.1) cs).toList := by
            rw [setIf_fold]; simpa using setRange_rel hc off hcv
          obtain ⟨r', hr, hrel⟩ := ih ps'' _ _ r hps hc' hf
          refine ⟨r', ?_, hrel⟩
          simp only [Instr.fill, hpl]
          rw [if_neg (by simp; omega)]
          rw [← hr]
          congr 1
          rw [← Array.foldl_toList, Array.toList_zipIdx]
        · cases hf
theorem zerosA_length (z : List AVal) (n : Nat) : (zerosA z n).length = n * z.length := by
  induction n with
  | zero => simp [zerosA]
  | succ n ih => simp only [zerosA, List.length_append, ih, Nat.succ_mul]; omega
theorem zerosA_get (z : List AVal) (n : Nat) : ∀ (j : Nat) (_ : j < n * z.length), (zerosA z n)[j]? = z[j % z.length]? := by
  induction n with
  | zero => intro j hj; simp at hj
  | succ n ih =>
    intro j hj
    simp only [zerosA]
    rw [Nat.succ_mul] at hj
    by_cases h : j < z.length
    · rw [List.getElem?_append_left h, Nat.mod_eq_of_lt h]
    · rw [List.getElem?_append_right (by omega), ih (j - z.length) (by omega)]
      rw [Nat.mod_eq_sub_mod (a := j) (by omega)]
theorem zeros_rel {za : List AVal} {z : Array Value} (h : VsRel ι μ za z.toList) (len n : Nat) (hn : n = len * z.size) : VsRel ι μ (zerosA za len) (((Array.range n).map (z[· % z.size]!)).toList) := by
  have hl := h.length
  simp only [Array.length_toList] at hl
  refine VsRel.of_get (by simp [zerosA_length, hl, hn]) fun j x y hx hy => ?_
  have hj : j < len * za.length := by
    rcases Nat.lt_or_ge j (len * za.length) with h1 | h1
    · exact h1
    · rw [List.getElem?_eq_none (by rw [zerosA_length]; exact h1)] at hx; cases hx
  rw [zerosA_get za len j hj] at hx
  obtain ⟨y', hy', hr⟩ := h.get hx
  have hz0 : 0 < z.size := by
    rcases Nat.eq_zero_or_pos z.size with h1 | h1
    · rw [hl, h1] at hj; simp at hj
    · exact h1
  have : y = z[j % z.size]! := by
    simp only [Array.toList_map, Array.toList_range, List.getElem?_map] at hy
    rw [List.getElem?_range (by rw [hn, ← hl]; exact hj)] at hy
    simp only [Option.map_some, Option.some.injEq] at hy
    exact hy.symm
  subst this
  have hlt := Nat.mod_lt j hz0
  have : z.toList[j % z.size]? = some z[j % z.size]! := by
    simp [hlt]
  rw [hl, this] at hy'
  cases hy'
  exact hr
end
theorem ofCell_cells (v : Value) : (ofCell v).cells = [ofCell v] := by
  unfold ofCell; split <;> first | rfl | (split <;> rfl)
theorem ofV_cells {ι : Imm} {μ : Mu} (z : Value) : VsRel ι μ (ofV z).cells z.cells.toList := by
  cases z with
  | agg cs =>
    have := ofV_rel (ι := ι) (μ := μ) (.agg cs)
    cases this with | agg h => exact h
  | _ => simp only [ofV, Value.cells, ofCell_cells]; exact .cons (ofCell_rel _) .nil
theorem build_ok {P : Program} {g : G} {t : TypeId} {parts : List (Nat × AVal)} {parts' : Array (Nat × Value)} (hp : PsRel g.ι g.μ parts parts'.toList) {v : AVal} (hl : abuild P t parts = some v) :
    ∃ v', (Instr.build t parts').run P g.w = .ok v' g.w ∧ VRel g.ι g.μ v v' := by
  simp only [abuild, Option.bind_eq_bind, Option.bind_eq_some_iff] at hl
  obtain ⟨z, hz, d, hd, hl⟩ := hl
  obtain ⟨it, z', hi, hz', rfl⟩ := zeroA_some hz
  have hzc := ofV_cells (ι := g.ι) (μ := g.μ) z'
  cases d <;> try (cases hl; done)
  case array n e =>
    simp only [Option.bind_eq_some_iff, Option.some.injEq] at hl
    obtain ⟨ie, hie, cells, hf, rfl⟩ := hl
    obtain ⟨r', hr, hrel⟩ := fill_ok _ _ _ _ _ _ hp hzc hf
    exact ⟨.agg r', run_build g.w t parts' r' (by simp [Program.built, hi, hd, hz', hie, hr]), .agg hrel⟩
  case struct fs =>
    simp only [Option.bind_eq_some_iff, Option.some.injEq] at hl
    obtain ⟨places, hpl, cells, hf, rfl⟩ := hl
    obtain ⟨r', hr, hrel⟩ := fill_ok _ _ _ _ _ _ hp hzc hf
    refine ⟨.agg r', run_build g.w t parts' r' ?_, .agg hrel⟩
    have hr2 : Instr.fill (fun x => places[x]?) z'.cells parts'.toList = some r' := by simpa using hr
    simp [Program.built, hi, hd, hz', hpl, hr2]
theorem buildSlice_run {P : Program} {g : G} {t : TypeId} {len : Nat} {parts : List (Nat × AVal)} {parts' : Array (Nat × Value)} (hp : PsRel g.ι g.μ parts parts'.toList) {r : List AVal × Nat} (hl : abuildSlice P t len parts = some r) :
    ∃ e cs, (Instr.buildSlice t len parts').run P g.w = .ok (.slice (some ⟨g.w.heap.size, 0, none⟩) len len) { g.w with heap := g.w.heap.push (.cells cs e) } ∧ VsRel g.ι g.μ r.1 cs.toList ∧ r.1.length = len * r.2 := by
  simp only [abuildSlice, Option.bind_eq_bind, Option.bind_eq_some_iff] at hl
  obtain ⟨d, hd, hl⟩ := hl
  cases d <;> try (cases hl; done)
  case slice e =>
  simp only [Option.bind_eq_some_iff] at hl
  obtain ⟨ie, hie, hl⟩ := hl
  split at hl
  case isFalse => cases hl
  rename_i hsmall
  simp only [Option.bind_eq_some_iff] at hl
  obtain ⟨z, hz, hl⟩ := hl
  split at hl
  case isFalse => cases hl
  rename_i hzl
  simp only [Option.bind_eq_some_iff, Option.some.injEq] at hl
  obtain ⟨cells, hf, rfl⟩ := hl
  obtain ⟨it, z', hi, hz', rfl⟩ := zeroA_some hz
  rw [hie] at hi; cases hi
  have hzc := ofV_cells (ι := g.ι) (μ := g.μ) z'
  have hsz : z'.cells.size = ie.size := by have := hzc.length; simp at this; omega
  have hlenf : ∀ (ps : List (Nat × AVal)) (cs r : List AVal), fillA (fun k => some (k * ie.size, ie.size)) cs ps = some r → r.length = cs.length := by
    intro ps
    induction ps with
    | nil => intro cs r h; simp only [fillA, Option.some.injEq] at h; rw [h]
    | cons p ps ih =>
      intro cs r h
      simp only [fillA] at h
      split at h
      · rw [ih _ _ h, setRange_length]
      · cases h
  by_cases h0 : len * ie.size = 0
  · have hz0 : zerosA (ofV z').cells len = [] := by
      apply List.eq_nil_of_length_eq_zero; rw [zerosA_length, hzl]; exact h0
    rw [hz0] at hf
    obtain ⟨r', hr, hrel⟩ := fill_ok _ _ _ _ #[] _ hp .nil hf
    refine ⟨e, r', ?_, hrel, ?_⟩
    · have hr2 : Instr.fill (fun i => some (i * ie.size, ie.size)) #[] parts'.toList = some r' := hr
      simp only [Instr.buildSlice, Sem.run_bind, run_underlying hd, Result.andThen_ok, run_sizeOf' hie]
      rw [if_neg (by omega), if_pos h0, h0]
      have hz1 : ∀ f : Nat → Value, (Array.range 0).map f = #[] := fun f => by simp
      simp only [Sem.run_bind, Sem.run_pure, Result.andThen_ok, hz1, hr2]
      simp [newRow]
    · rw [hlenf _ _ _ hf]; simp [h0]
  · have hz1 := zeros_rel hzc len (len * ie.size) (by rw [hsz])
    obtain ⟨r', hr, hrel⟩ := fill_ok _ _ _ _ _ _ hp hz1 hf
    refine ⟨e, r', ?_, hrel, ?_⟩
    · simp only [Instr.buildSlice, Sem.run_bind, run_underlying hd, Result.andThen_ok, run_sizeOf' hie]
      rw [if_neg (by omega), if_neg h0]
      simp only [Sem.run_bind, run_zeroValue hie hz', Result.andThen_ok, Sem.run_pure, hr]
      simp [newRow]
    · rw [hlenf _ _ _ hf, zerosA_length, hzl]
theorem buildSlice_lst {P : Program} {B : Nat} {h : AHeap} {g : G} (I : Inv B h g) {t : TypeId} {len : Nat} {parts : List (Nat × AVal)} {parts' : Array (Nat × Value)} (hp : PsRel g.ι g.μ parts parts'.toList) {r : List AVal × Nat} (hl : abuildSlice P t len parts = some r) :
    OkV B h g ((Instr.buildSlice t len parts').run P g.w) (.lst r.1 len .full) h := by
  obtain ⟨e, cs, hr, hv, hn⟩ := buildSlice_run hp hl
  obtain ⟨ι', I', E, hι⟩ := I.fresh_imm (w' := { g.w with heap := g.w.heap.push (.cells cs e) }) (cs := cs) (e := e) (f := (0, 0)) ⟨rfl, rfl, rfl, rfl⟩
  refine ⟨_, _, hr, I', E, VRel.lst (hv.mono E.le) (fun j v hj => ?_) (fun _ => rfl) (Nat.le_refl _) rfl⟩
  show ι' g.w.heap.size (0 + j) = some v
  rw [hι]; simpa using hj
theorem box_imm {P : Program} {B : Nat} {h : AHeap} {g : G} (I : Inv B h g) {e : TypeId} {v : AVal} {v' : Value} (hv : VRel g.ι g.μ v v') (hb : v.boxable = true) : OkV B h g ((Instr.box e v').run P g.w) (.iptr v.cells) h := by
  obtain ⟨ι', I', E, hι⟩ := I.fresh_imm (w' := { g.w with heap := g.w.heap.push (.cells v'.cells e) }) (cs := v'.cells) (e := e) (f := (0, 0)) ⟨rfl, rfl, rfl, rfl⟩
  refine ⟨.pointer (some ⟨g.w.heap.size, 0, none⟩), _, ?_, I', E, VRel.iptr (vs := v'.cells.toList) ((hv.cells hb).mono E.le) (fun j v hj => ?_)⟩
  · simp [Instr.box, newVar, run_newRow]
  · show ι' g.w.heap.size (0 + j) = some v
    rw [hι]; simpa using hj
theorem buildSlice_own {P : Program} {B : Nat} {h : AHeap} {g : G} (I : Inv B h g) {t : TypeId} {len : Nat} {parts : List (Nat × AVal)} {parts' : Array (Nat × Value)} (hp : PsRel g.ι g.μ parts parts'.toList) {r : List AVal × Nat} (hl : abuildSlice P t len parts = some r) :
    OkV B h g ((Instr.buildSlice t len parts').run P g.w) (.sl h.next 0 r.2 len len false) (h.new (.arr r.1)) := by
  obtain ⟨e, cs, hr, hv, hn⟩ := buildSlice_run hp hl
  have T := I.newArr (w' := { g.w with heap := g.w.heap.push (.cells cs e) }) (cs := cs) (e := e) ⟨rfl, rfl, rfl, rfl⟩ hv (fun j v hj => by simpa using hj) (by have := hv.length; simp at this; omega)
  exact ⟨_, _, hr, T.1, T.2, VRel.sl (b := g.w.heap.size) (o := 0) (s := cs.size) (addMu_self _ _ _) (Nat.le_refl _) (Nat.le_refl _) (fun _ => rfl) (fun _ => ⟨rfl, by have := hv.length; simp at this; omega⟩)⟩
end Go.Am



namespace Go.Am
open Go
section
variable {P : Program} {g : G}
theorem dropCells_ok {n : Nat} {p q : AVal} {p' : Value} (hp : VRel g.ι g.μ p p') (h : dropCells n p = some q) : ∃ b o, p' = .pointer (some ⟨b, o, none⟩) ∧ VRel g.ι g.μ q (.pointer (some ⟨b, o + n, none⟩)) := by
  unfold dropCells at h
  split at h
  · simp only [Option.some.injEq] at h; subst h
    cases hp with | ptr hm => exact ⟨_, _, rfl, by rw [Nat.add_assoc]; exact .ptr hm⟩
  · simp only [Option.some.injEq] at h; subst h
    cases hp with | iptr hc hi => exact ⟨_, _, rfl, .iptr (hc.drop n) (hi.drop n)⟩
  · cases h
theorem fieldAddr_ok {t : TypeId} {p q : AVal} {p' : Value} {f : Nat} (hp : VRel g.ι g.μ p p') (h : afieldAddr P t p f = some q) : ∃ v', (Instr.fieldAt t p' f).run P g.w = .ok v' g.w ∧ VRel g.ι g.μ q v' := by
  simp only [afieldAddr, Option.bind_eq_bind, Option.bind_eq_some_iff] at h
  obtain ⟨d, hd, h⟩ := h
  cases d <;> try (cases h; done)
  case struct fs =>
  simp only [Option.bind_eq_some_iff] at h
  obtain ⟨fld, hf, i, hi, h⟩ := h
  split at h
  · rename_i hz
    obtain ⟨b, o, rfl, hr⟩ := dropCells_ok hp h
    refine ⟨_, ?_, hr⟩
    simp only [Instr.fieldAt, Sem.run_bind, run_underlying hd, Result.andThen_ok, hf, Instr.sureAddr, Sem.run_pure, fieldPlace, run_sizeOf' hi, hz, if_false, add_plain]
  · cases h
theorem part_ok {t : TypeId} {cs : List AVal} {cs' : Array Value} {off : Nat} {v : AVal} (hc : VsRel g.ι g.μ cs cs'.toList) (h : partA P t cs off = some v) : ∃ v', (part t cs' off).run P g.w = .ok v' g.w ∧ VRel g.ι g.μ v v' := by
  simp only [partA, Option.bind_eq_bind, Option.bind_eq_some_iff] at h
  obtain ⟨ag, hag, i, hi, h⟩ := h
  split at h
  case isFalse => cases h
  simp only [part, Sem.run_bind, run_isAgg hag, Result.andThen_ok]
  cases ag with
  | true =>
    simp only [ofCells, if_true] at h
    split at h
    case isFalse => cases h
    simp only [Option.some.injEq] at h; subst h
    simp only [if_true, Sem.run_bind, run_sizeOf' hi, Result.andThen_ok, Sem.run_pure]
    refine ⟨_, rfl, .agg ?_⟩
    have := (hc.drop off).take i.size
    simpa [Array.toList_extract, List.extract_eq_take_drop] using this
  | false =>
    simp only [ofCells, Bool.false_eq_true, if_false] at h
    obtain ⟨u, hu, hr⟩ := (hc.drop off).get h
    have hu' : cs'[off]? = some u := by simpa using hu
    simp only [Bool.false_eq_true, if_false, hu']
    exact ⟨u, rfl, hr⟩
theorem field_ok {t : TypeId} {x v : AVal} {x' : Value} {f : Nat} (hx : VRel g.ι g.μ x x') (h : afield P t x f = some v) : ∃ v', (Instr.field t x' f).run P g.w = .ok v' g.w ∧ VRel g.ι g.μ v v' := by
  simp only [afield, Option.bind_eq_bind, Option.bind_eq_some_iff] at h
  obtain ⟨d, hd, h⟩ := h
  cases d <;> try (cases h; done)
  case struct fs =>
  simp only [Option.bind_eq_some_iff] at h
  obtain ⟨fld, hf, h⟩ := h
  cases x <;> try (cases h; done)
  case agg cs =>
  cases hx with | agg hc =>
  obtain ⟨v', hr, hv⟩ := part_ok hc h
  exact ⟨v', by simp [Instr.field, run_underlying hd, hf, asAgg, hr], hv⟩
theorem VRel.intVal {k : IntKind} {n : Int} {v' : Value} (h : VRel g.ι g.μ (.int k n) v') : v' = .int k n := by cases h; rfl
theorem indexAddr_ok {B : Nat} {h : AHeap} (_ : Inv B h g) {t : TypeId} {x i v : AVal} {x' i' : Value} (hx : VRel g.ι g.μ x x') (hi : VRel g.ι g.μ i i') (hl : aindexAddr P t x i = some v) : ∃ v', (Instr.indexAt t x' i').run P g.w = .ok v' g.w ∧ VRel g.ι g.μ v v' := by
  simp only [aindexAddr, Option.bind_eq_bind] at hl
  cases i <;> try (cases hl; done)
  case int k i =>
  cases hi.intVal
  simp only [Option.bind_eq_some_iff] at hl
  obtain ⟨d, hd, hl⟩ := hl
  cases d <;> try (cases hl; done)
  case slice e =>
    simp only [Option.bind_eq_some_iff] at hl
    obtain ⟨j, hj, hl⟩ := hl
    unfold indexAddrA at hl
    split at hl
    · rename_i cells len cap
      split at hl
      case isFalse => cases hl
      rename_i hc
      simp only [Option.some.injEq] at hl; subst hl
      cases hx with
      | @lst _ vs _ cap' _ a hcs hics hs hn hcap =>
        obtain ⟨b, o, sp⟩ := a
        have : sp = none := hs (by omega)
        subst this
        refine ⟨.pointer (some ⟨b, o + i.toNat * j.size, none⟩), ?_, .iptr (hcs.drop _) (hics.drop _)⟩
        simp only [Instr.indexAt, Sem.run_bind, asIntOf, Sem.run_pure, Result.andThen_ok, run_underlying hd, hc, if_true, and_self, run_sizeOf' hj, add_plain]
    · rename_i id off es len cap op
      split at hl
      case isFalse => cases hl
      rename_i hc
      obtain ⟨he, hc0, hc1⟩ := hc
      simp only [Option.some.injEq] at hl; subst hl
      cases hx with
      | @sl _ _ _ _ _ cap' b o s _ _ a hm hn hcap hop ha =>
        have hcp : cap' ≠ 0 := by omega
        have ha' := (ha (by omega)).1
        subst ha'
        refine ⟨.pointer (some ⟨b, o + (off + i.toNat * j.size), none⟩), ?_, .ptr hm⟩
        simp only [Instr.indexAt, Sem.run_bind, asIntOf, Sem.run_pure, Result.andThen_ok, run_underlying hd, hc0, hc1, if_true, and_self, run_sizeOf' hj, add_plain, Nat.add_assoc]
    · cases hl
  case array len e =>
    simp only [Option.bind_eq_some_iff] at hl
    obtain ⟨j, hj, hl⟩ := hl
    split at hl
    case isFalse => cases hl
    rename_i hc
    obtain ⟨b, o, rfl, hr⟩ := dropCells_ok hx hl
    refine ⟨_, ?_, hr⟩
    simp only [Instr.indexAt, Sem.run_bind, asIntOf, Sem.run_pure, Result.andThen_ok, run_underlying hd, Instr.sureAddr, hc, if_true, and_self, run_sizeOf' hj, add_plain]
theorem index_ok {t : TypeId} {x i v : AVal} {x' i' : Value} (hx : VRel g.ι g.μ x x') (hi : VRel g.ι g.μ i i') (hl : aindex P t x i = some v) : ∃ v', (Instr.index t x' i').run P g.w = .ok v' g.w ∧ VRel g.ι g.μ v v' := by
  simp only [aindex, Option.bind_eq_bind] at hl
  cases i <;> try (cases hl; done)
  case int k i =>
  cases hi.intVal
  simp only [Option.bind_eq_some_iff] at hl
  obtain ⟨d, hd, hl⟩ := hl
  split at hl
  · rename_i s
    split at hl
    case isFalse => cases hl
    rename_i h0
    simp only [Option.map_eq_some_iff] at hl
    obtain ⟨b, hb, rfl⟩ := hl
    cases hx
    refine ⟨.int .u8 b.toNat, ?_, .int _ _⟩
    have hlt : i.toNat < s.length := by
      rcases Nat.lt_or_ge i.toNat s.length with h1 | h1
      · exact h1
      · simp [List.getElem?_eq_none h1] at hb
    have hb' : (⟨s.toArray⟩ : ByteArray)[i.toNat]? = some b := by
      rw [getElem?_pos _ _ (by show i.toNat < s.toArray.size; simpa using hlt)]
      congr 1
      have : s[i.toNat] = b := by simpa [List.getElem?_eq_getElem hlt] using hb
      rw [← this]; rfl
    simp only [Instr.index, Sem.run_bind, asIntOf, Sem.run_pure, Result.andThen_ok, run_underlying hd, h0, if_true, hb']
  · rename_i len e cs
    simp only [Option.bind_eq_some_iff] at hl
    obtain ⟨j, hj, hl⟩ := hl
    split at hl
    case isFalse => cases hl
    rename_i hc
    cases hx with | agg hcs =>
    obtain ⟨v', hr, hv⟩ := part_ok hcs hl
    refine ⟨v', ?_, hv⟩
    simp only [Instr.index, Sem.run_bind, asIntOf, Sem.run_pure, Result.andThen_ok, run_underlying hd, hc, if_true, and_self, run_sizeOf' hj, hr]
  · cases hl
theorem extract_ok {x v : AVal} {x' : Value} {i : Nat} (hx : VRel g.ι g.μ x x') (h : extractA x i = some v) : ∃ v', (Instr.extract x' i).run P g.w = .ok v' g.w ∧ VRel g.ι g.μ v v' := by
  unfold extractA at h
  split at h
  · cases hx with | tup hc =>
    obtain ⟨y, hy, hr⟩ := hc.get h
    refine ⟨y, ?_, hr⟩
    simp only [Instr.extract]
    rw [show (_ : Array Value)[i]? = some y from by simpa using hy]
    rfl
  · cases h
inductive ORel (ι : Imm) (μ : Mu) : Option AVal → Option Value → Prop
  | none : ORel ι μ none none
  | some {v : AVal} {v' : Value} (h : VRel ι μ v v') : ORel ι μ (some v) (some v')
theorem bnd_some {x : Option AVal} {x' : Option Value} {d n : Nat} (hx : ORel g.ι g.μ x x') (h : bnd x d = some n) : (x = none ∧ x' = none ∧ n = d) ∨ ∃ k i, x' = some (.int k i) ∧ 0 ≤ i ∧ i.toNat = n := by
  cases hx with
  | none => simp only [bnd, Option.some.injEq] at h; exact .inl ⟨rfl, rfl, h.symm⟩
  | some hv =>
    rename_i v v'
    cases v <;> try (simp [bnd] at h; done)
    case int k i =>
    cases hv
    simp only [bnd, asNat] at h
    split at h
    · rename_i h0
      simp only [Option.some.injEq] at h
      exact .inr ⟨k, i, rfl, h0, h⟩
    · cases h
theorem run_sliceBound {k : IntKind} {i : Int} {y : Nat} {code : BoundsCode} (h0 : 0 ≤ i) (h1 : i.toNat ≤ y) (w : World) : (Instr.sliceBound (.int k i) y code).run P w = .ok i.toNat w := by
  simp only [Instr.sliceBound, Sem.run_bind, asIntOf, Sem.run_pure, Result.andThen_ok]
  rw [if_pos ⟨h0, by omega⟩]; rfl
theorem run_bounds_none {isSl : Bool} {len cap : Nat} {lo hi : Option AVal} {lo' hi' : Option Value} {l h : Nat} (hlo : ORel g.ι g.μ lo lo') (hhi : ORel g.ι g.μ hi hi') (hl : bnd lo 0 = some l) (hh : bnd hi len = some h) (h1 : l ≤ h) (h2 : h ≤ cap) (w : World) :
    (Instr.sliceBounds isSl len cap lo' hi' none).run P w = .ok (l, h, cap) w := by
  rcases bnd_some hlo hl with ⟨rfl, rfl, rfl⟩ | ⟨k, i, rfl, hi0, rfl⟩ <;> rcases bnd_some hhi hh with ⟨rfl, rfl, rfl⟩ | ⟨k', j, rfl, hj0, rfl⟩ <;>
    simp only [Instr.sliceBounds, Sem.run_bind, Sem.run_pure, Result.andThen_ok, Option.isSome_none, Bool.false_eq_true, if_false]
  · rw [run_sliceBound hj0 h2]; simp only [Result.andThen_ok]
  · rw [run_sliceBound hi0 h1]; simp only [Result.andThen_ok]
  · rw [run_sliceBound hj0 h2]; simp only [Result.andThen_ok]; rw [run_sliceBound hi0 h1]; simp only [Result.andThen_ok]
theorem run_bounds_some {isSl : Bool} {len cap : Nat} {lo hi mx : Option AVal} {lo' hi' mx' : Option Value} {l h m : Nat} (hlo : ORel g.ι g.μ lo lo') (hhi : ORel g.ι g.μ hi hi') (hmx : ORel g.ι g.μ mx mx') (hl : bnd lo 0 = some l) (hh : bnd hi len = some h)
    (hm : bnd mx 0 = some m) (hms : mx.isSome = true) (hhs : hi.isSome = true) (h1 : l ≤ h) (h2 : h ≤ m) (h3 : m ≤ cap) (w : World) : (Instr.sliceBounds isSl len cap lo' hi' mx').run P w = .ok (l, h, m) w := by
  rcases bnd_some hmx hm with ⟨rfl, rfl, rfl⟩ | ⟨k'', u, rfl, hu0, rfl⟩
  · simp at hms
  rcases bnd_some hhi hh with ⟨rfl, rfl, rfl⟩ | ⟨k', j, rfl, hj0, rfl⟩
  · simp at hhs
  rcases bnd_some hlo hl with ⟨rfl, rfl, rfl⟩ | ⟨k, i, rfl, hi0, rfl⟩ <;> simp only [Instr.sliceBounds, Sem.run_bind]
  · rw [run_sliceBound hu0 h3]; simp only [Result.andThen_ok]; rw [run_sliceBound hj0 h2]; simp only [Result.andThen_ok, Sem.run_pure]
  · rw [run_sliceBound hu0 h3]; simp only [Result.andThen_ok]; rw [run_sliceBound hj0 h2]; simp only [Result.andThen_ok]; rw [run_sliceBound hi0 h1]; simp only [Result.andThen_ok, Sem.run_pure]
theorem bytes_extract (s : List UInt8) (l h : Nat) : (⟨s.toArray⟩ : ByteArray).extract l h = ⟨((s.take h).drop l).toArray⟩ := by
  ext1
  simp [List.drop_take]
theorem lst_cut {cells : List AVal} {vs : List Value} {len cap' es l h m : Nat} {cap : Cap} {a : Addr} (hc : VsRel g.ι g.μ cells vs) (hi : ICells g.ι a.block a.off vs) (hs : 0 < len → a.spot = none) (hh : h ≤ len) (hm : m ≤ cap') (hlh : l ≤ h) (hhm : h ≤ m)
    {cap2 : Cap} (hcap2 : ∀ a', a' = (if m = l then a else a.add (l * es)) → CapRel g.μ cap2 a' (h - l) ((cells.take (h * es)).drop (l * es)).length (m - l)) (hlen : len ≤ cap') :
    VRel g.ι g.μ (.lst ((cells.take (h * es)).drop (l * es)) (h - l) cap2) (.slice (if m = l then some a else some (a.add (l * es))) (h - l) (m - l)) := by
  obtain ⟨b, o, sp⟩ := a
  have hv := (hc.take (h * es)).drop (l * es)
  have hic := ((hi.take (h * es)).drop (l * es))
  by_cases hml : m = l
  · have : h = l := by omega
    subst this
    rw [if_pos hml]
    have he : (cells.take (h * es)).drop (h * es) = [] := by simp
    have he' : (vs.take (h * es)).drop (h * es) = [] := by simp
    have := hcap2 _ (if_pos hml).symm
    rw [he] at this ⊢
    exact VRel.lst .nil (fun j v hj => by simp at hj) (fun h0 => by omega) (by omega) this
  · rw [if_neg hml]
    have := hcap2 _ (if_neg hml).symm
    refine VRel.lst hv ?_ (fun h0 => ?_) (by omega) this
    · have hz : ((⟨b, o, sp⟩ : Addr).add (l * es)).block = b ∧ ((⟨b, o, sp⟩ : Addr).add (l * es)).off = o + l * es := by
        unfold Addr.add; split
        · rename_i h0; rw [h0]; exact ⟨rfl, rfl⟩
        · exact ⟨rfl, rfl⟩
      rw [hz.1, hz.2]; exact hic
    · have := hs (by omega)
      simp only at this; subst this
      rw [add_plain]
theorem sliceA_slice {es : Nat} {x v : AVal} {x' : Value} {lo hi mx : Option AVal} {lo' hi' mx' : Option Value} {t e : TypeId} {i : TypeInfo} (hd : P.underlying t = some (.slice e)) (hie : P.info? e = some i) (hes : i.size = es)
    (hx : VRel g.ι g.μ x x') (hlo : ORel g.ι g.μ lo lo') (hhi : ORel g.ι g.μ hi hi') (hmx : ORel g.ι g.μ mx mx') (hl : sliceA es x lo hi mx = some v) (hns : ∀ s, x ≠ .str s) :
    ∃ v', (Instr.slice t x' lo' hi' mx').run P g.w = .ok v' g.w ∧ VRel g.ι g.μ v v' := by
  subst hes
  unfold sliceA at hl
  split at hl
  · exact absurd rfl (hns _)
  · simp only [Option.bind_eq_bind, Option.bind_eq_some_iff] at hl
    obtain ⟨m, hm, h, hh, l, hl', hl⟩ := hl
    split at hl
    case isFalse => cases hl
    rename_i hz
    obtain ⟨rfl, rfl, rfl, hmh⟩ := hz
    simp only [Option.some.injEq] at hl; subst hl
    cases hx
    have hb : (Instr.sliceBounds true 0 0 lo' hi' mx').run P g.w = .ok (0, 0, 0) g.w := by
      cases hmx with
      | none => exact run_bounds_none hlo hhi hl' hh (Nat.le_refl _) (Nat.le_refl _) _
      | some hv => exact run_bounds_some hlo hhi (.some hv) hl' hh hm rfl (hmh rfl) (Nat.le_refl _) (Nat.le_refl _) (Nat.le_refl _) _
    refine ⟨.slice none 0 0, ?_, .nilSl⟩
    simp only [Instr.slice, Sem.run_bind, run_underlying hd, Result.andThen_ok, hb, run_sizeOf' hie, Sem.run_pure, if_true, Nat.sub_self]
  · rename_i cells len cap
    simp only [Option.bind_eq_bind, Option.bind_eq_some_iff] at hl
    obtain ⟨h, hh, l, hl', hl⟩ := hl
    cases hx with
    | @lst _ vs _ cap' _ a hc hi' hs hn hcap =>
    cases hmx with
    | none =>
      simp only at hl
      split at hl
      case isFalse => cases hl
      rename_i hcond
      simp only [Option.some.injEq] at hl; subst hl
      obtain ⟨hlh, hhl, hlen⟩ := hcond
      refine ⟨_, ?_, lst_cut (cap := cap) (es := i.size) (l := l) (m := cap') hc hi' hs hhl (Nat.le_refl _) hlh (by omega) (fun a' ha' => ?_) hn⟩
      · simp only [Instr.slice, Sem.run_bind, run_underlying hd, Result.andThen_ok, run_bounds_none hlo hhi hl' hh hlh (Nat.le_trans hhl hn), run_sizeOf' hie, Sem.run_pure, Option.map_some]
      · by_cases he : h = len
        · rw [if_pos he]
          subst he
          cases cap with
          | full => simp only [CapRel] at hcap ⊢; omega
          | unk => trivial
          | tok r =>
            obtain ⟨b, m, s, es, hmu, ht⟩ := hcap
            refine ⟨b, m, s, es, hmu, fun hlt => ?_⟩
            have hlt' : h < cap' := by omega
            obtain ⟨ht1, ht2, ht3⟩ := ht hlt'
            rw [if_neg (by omega)] at ha'
            rw [ha', ht2, add_plain]
            have hm1 : l * i.size ≤ h * i.size := Nat.mul_le_mul_right _ hlh
            have hl2 : ((cells.take (h * i.size)).drop (l * i.size)).length = h * i.size - l * i.size := by simp; omega
            rw [hl2]
            refine ⟨by omega, ?_, ?_⟩
            · congr 1; omega
            · rw [show cap' - l - (h - l) = cap' - h from by omega]; exact ht3
        · rw [if_neg he]; trivial
    | @some y y' hv =>
      simp only [Option.bind_eq_some_iff] at hl
      obtain ⟨m, hm, hl⟩ := hl
      split at hl
      case isFalse => cases hl
      rename_i hcond
      obtain ⟨hlh, hhm, hml, hhi'⟩ := hcond
      simp only [Option.some.injEq] at hl; subst hl
      refine ⟨_, ?_, lst_cut (cap := cap) (es := i.size) (l := l) (m := m) hc hi' hs (by omega) (by omega) hlh hhm (fun a' ha' => ?_) hn⟩
      · simp only [Instr.slice, Sem.run_bind, run_underlying hd, Result.andThen_ok, run_bounds_some (cap := cap') hlo hhi (.some hv) hl' hh hm rfl hhi' hlh hhm (show m ≤ cap' by omega), run_sizeOf' hie, Sem.run_pure, Option.map_some]
      · by_cases he : h = m
        · rw [if_pos he]; simp only [CapRel]; omega
        · rw [if_neg he]; trivial
  · rename_i id off es' len cap op
    simp only [Option.bind_eq_bind, Option.bind_eq_some_iff] at hl
    obtain ⟨h, hh, l, hl', hl⟩ := hl
    cases hx with
    | @sl _ _ _ _ _ cap' b o s _ _ a hm hn hcap hop ha =>
    cases hmx with
    | none =>
      simp only at hl
      split at hl
      case isFalse => cases hl
      rename_i hcond
      obtain ⟨he, hlh, hhc⟩ := hcond
      simp only [Option.some.injEq] at hl; subst hl
      refine ⟨.slice (if cap' = l then some a else some (a.add (l * i.size))) (h - l) (cap' - l), ?_, ?_⟩
      · simp only [Instr.slice, Sem.run_bind, run_underlying hd, Result.andThen_ok, run_bounds_none hlo hhi hl' hh hlh (Nat.le_trans hhc hcap), run_sizeOf' hie, Sem.run_pure, Option.map_some]
      · by_cases hcl : cap' = l
        · rw [if_pos hcl]
          exact .sl hm (by omega) (by omega) (fun h0 => by have := hop h0; omega) (fun h0 => by omega)
        · rw [if_neg hcl]
          refine .sl hm (by omega) (by omega) (fun h0 => by have := hop h0; omega) (fun h0 => ?_)
          obtain ⟨h1, h2⟩ := ha (by omega)
          rw [h1, add_plain, Nat.add_assoc]
          refine ⟨rfl, ?_⟩
          have : (cap' - l) * i.size + l * i.size = cap' * i.size := by rw [← Nat.add_mul]; congr 1; omega
          rw [he] at h2; omega
    | @some y y' hv =>
      simp only [Option.bind_eq_some_iff] at hl
      obtain ⟨m, hm', hl⟩ := hl
      split at hl
      case isFalse => cases hl
      rename_i hcond
      obtain ⟨he, hlh, hhm, hmc, hhi'⟩ := hcond
      simp only [Option.some.injEq] at hl; subst hl
      refine ⟨.slice (if m = l then some a else some (a.add (l * i.size))) (h - l) (m - l), ?_, ?_⟩
      · simp only [Instr.slice, Sem.run_bind, run_underlying hd, Result.andThen_ok, run_bounds_some (cap := cap') hlo hhi (.some hv) hl' hh hm' rfl hhi' hlh hhm (show m ≤ cap' by omega), run_sizeOf' hie, Sem.run_pure, Option.map_some]
      · by_cases hcl : m = l
        · rw [if_pos hcl]
          exact .sl hm (by omega) (by omega) (fun _ => rfl) (fun h0 => by omega)
        · rw [if_neg hcl]
          refine .sl hm (by omega) (by omega) (fun _ => rfl) (fun h0 => ?_)
          obtain ⟨h1, h2⟩ := ha (by omega)
          rw [h1, add_plain, Nat.add_assoc]
          refine ⟨rfl, ?_⟩
          have : (m - l) * i.size + l * i.size = m * i.size := by rw [← Nat.add_mul]; congr 1; omega
          have : m * i.size ≤ cap' * i.size := Nat.mul_le_mul_right _ (by omega)
          rw [he] at h2; omega
  · cases hl
theorem slice_ok {B : Nat} {hp : AHeap} (I : Inv B hp g) {x v : AVal} {x' : Value} {lo hi mx : Option AVal} {lo' hi' mx' : Option Value} {t : TypeId} (hx : VRel g.ι g.μ x x') (hlo : ORel g.ι g.μ lo lo') (hhi : ORel g.ι g.μ hi hi') (hmx : ORel g.ι g.μ mx mx')
    (hl : aslice P hp t x lo hi mx = some v) : ∃ v', (Instr.sliceAt t x' lo' hi' mx').run P g.w = .ok v' g.w ∧ VRel g.ι g.μ v v' := by
  simp only [aslice, Option.bind_eq_bind, Option.bind_eq_some_iff] at hl
  obtain ⟨d, hd, hl⟩ := hl
  cases d <;> try (cases hl; done)
  case slice e =>
    simp only [Option.bind_eq_some_iff] at hl
    obtain ⟨i, hie, hl⟩ := hl
    have hns : ∀ s, x ≠ .str s := fun s h => by subst h; cases hl
    have hl2 : sliceA i.size x lo hi mx = some v := by
      cases x <;> first | exact hl | (cases hl; done)
    obtain ⟨v', hr, hv⟩ := sliceA_slice hd hie rfl hx hlo hhi hmx hl2 hns
    exact ⟨v', by simp only [Instr.sliceAt, Sem.run_bind, run_underlying hd, Result.andThen_ok, hr], hv⟩
  case string =>
    cases x <;> try (cases hl; done)
    case str s =>
    cases hx
    simp only [sliceA, Option.bind_eq_bind] at hl
    split at hl
    · cases hl
    rename_i hmn
    simp only [Option.bind_eq_some_iff] at hl
    obtain ⟨h, hh, l, hl', hl⟩ := hl
    split at hl
    case isFalse => cases hl
    rename_i hcond
    simp only [Option.some.injEq] at hl; subst hl
    cases hmx with
    | some hv => simp at hmn
    | none =>
    have hsz : (⟨s.toArray⟩ : ByteArray).size = s.length := by show s.toArray.size = _; simp
    refine ⟨.string ⟨((s.take h).drop l).toArray⟩, ?_, .str _⟩
    simp only [Instr.sliceAt, Instr.slice, Sem.run_bind, run_underlying hd, Result.andThen_ok, Option.isSome_none, Bool.false_eq_true, if_false, hsz, Sem.run_pure,
      run_bounds_none hlo hhi hl' hh hcond.1 hcond.2, bytes_extract]
  case array n e =>
    simp only [Option.bind_eq_some_iff] at hl
    obtain ⟨i, hie, hl⟩ := hl
    split at hl
    · cases hl
    rename_i hmn
    simp only [Option.bind_eq_some_iff] at hl
    obtain ⟨h, hh, l, hl', hl⟩ := hl
    split at hl
    case isFalse => cases hl
    rename_i hcond
    cases hmx with
    | some hv => simp at hmn
    | none =>
    cases x <;> try (cases hl; done)
    case ptr id off =>
      simp only at hl
      split at hl
      case h_2 => cases hl
      rename_i cells hget
      split at hl
      case isFalse => cases hl
      rename_i hfit
      simp only [Option.some.injEq] at hl; subst hl
      obtain ⟨b', o', cs, ce, ws, hm', h0, hh', hws, hcs, hn⟩ := I.blk id _ hget
      cases hx with
      | @ptr _ _ b o s e0 hm =>
      rw [hm'] at hm
      simp only [Option.some.injEq, Ent.arr.injEq] at hm
      obtain ⟨rfl, rfl, rfl, rfl⟩ := hm
      refine ⟨.slice (some (if n = l then ⟨b', o' + off, none⟩ else (⟨b', o' + off, none⟩ : Addr).add (l * i.size))) (h - l) (n - l), ?_, ?_⟩
      · simp only [Instr.sliceAt, Instr.sureAddr, Sem.run_bind, run_underlying hd, Result.andThen_ok, Sem.run_pure, run_bounds_none hlo hhi hl' hh hcond.1 hcond.2, run_sizeOf' hie]
      · refine .sl hm' (by omega) (Nat.le_refl _) (fun _ => rfl) (fun h0 => ?_)
        rw [if_neg (by omega), add_plain, Nat.add_assoc]
        refine ⟨rfl, ?_⟩
        have h1 : (n - l) * i.size + l * i.size = n * i.size := by rw [← Nat.add_mul]; congr 1; omega
        have := hn.2
        omega
    case iptr cells =>
      simp only at hl
      split at hl
      case isFalse => cases hl
      rename_i hcl
      simp only [Option.some.injEq] at hl; subst hl
      cases hx with
      | @iptr _ vs b o hc hi' =>
      refine ⟨.slice (some (if n = l then ⟨b, o, none⟩ else (⟨b, o, none⟩ : Addr).add (l * i.size))) (h - l) (n - l), ?_, ?_⟩
      · simp only [Instr.sliceAt, Instr.sureAddr, Sem.run_bind, run_underlying hd, Result.andThen_ok, Sem.run_pure, run_bounds_none hlo hhi hl' hh hcond.1 hcond.2, run_sizeOf' hie]
      · by_cases hnl : n = l
        · rw [if_pos hnl]
          have : h = l := by omega
          subst this
          have he : (cells.take (h * i.size)).drop (h * i.size) = [] := by simp
          rw [he]
          refine VRel.lst (a := ⟨b, o, none⟩) .nil (fun j v hj => by simp at hj) (fun _ => rfl) (by omega) ?_
          split
          · simp only [CapRel]; omega
          · trivial
        · rw [if_neg hnl, add_plain]
          refine VRel.lst (a := ⟨b, o + l * i.size, none⟩) ((hc.take _).drop _) ((hi'.take _).drop _) (fun _ => rfl) (by omega) ?_
          split
          · simp only [CapRel]; omega
          · trivial
end
end Go.Am



set_option linter.unusedSimpArgs false
namespace Go.Am
open Go
theorem run_runPure {α : Type} {P : Program} (s : Sem α) : ∀ {a : α}, runPure P s = some a → ∀ w, s.run P w = .ok a w := by
  induction s with
  | pure a => intro b h w; simp only [runPure, Option.some.injEq] at h; subst h; rfl
  | program k ih => intro b h w; exact ih P h w
  | _ => intro b h; simp [runPure] at h
section
variable {P : Program} {g : G}
theorem flatV_ok {v : AVal} {v' x : Value} (hv : VRel g.ι g.μ v v') (h : flatV v = some x) : v' = x := by
  cases v <;> simp only [flatV, Option.some.injEq] at h <;> first | (cases h; done) | (subst h; cases hv; rfl)
theorem flatVs_ok {vs : List AVal} {vs' xs : List Value} (hv : VsRel g.ι g.μ vs vs') (h : flatVs vs = some xs) : vs' = xs := by
  induction vs generalizing vs' xs with
  | nil => cases hv; simp only [flatVs, Option.some.injEq] at h; exact h
  | cons v vs ih =>
    cases hv with
    | cons h1 hs =>
      simp only [flatVs, Option.bind_eq_bind, Option.bind_eq_some_iff, Option.some.injEq] at h
      obtain ⟨x, hx, ys, hys, rfl⟩ := h
      rw [flatV_ok h1 hx, ih hs hys]
theorem flatW_ok {v : AVal} {v' x : Value} (hv : VRel g.ι g.μ v v') (h : flatW v = some x) : v' = x := by
  unfold flatW at h
  split at h
  · simp only [Option.bind_eq_bind, Option.bind_eq_some_iff, Option.some.injEq] at h
    obtain ⟨xs, hxs, rfl⟩ := h
    cases hv with | agg hc => rw [← flatVs_ok hc hxs]
  · simp only [Option.bind_eq_bind, Option.bind_eq_some_iff, Option.some.injEq] at h
    obtain ⟨xs, hxs, rfl⟩ := h
    cases hv with | iface hv => cases hv with | agg hc => rw [← flatVs_ok hc hxs]
  · simp only [Option.bind_eq_bind, Option.bind_eq_some_iff, Option.some.injEq] at h
    obtain ⟨y, hy, rfl⟩ := h
    cases hv with | iface hv => rw [flatV_ok hv hy]
  · exact flatV_ok hv h
theorem bytes_toList (s : List UInt8) : (⟨s.toArray⟩ : ByteArray).toList = s := by rw [ByteArray.toList_eq]
theorem bytes_size (s : List UInt8) : (⟨s.toArray⟩ : ByteArray).size = s.length := by show s.toArray.size = _; simp
theorem bytes_append (a b : List UInt8) : (⟨a.toArray⟩ : ByteArray) ++ ⟨b.toArray⟩ = ⟨(a ++ b).toArray⟩ := by ext1; simp
theorem run_equal (t : TypeId) (x y : Value) : Op.equal t x y = Op.equalIn (9999 + 1) t x y := rfl
theorem arr_facts {w : World} {b o : Nat} {cs : Array Value} {e : TypeId} (h : w.heap[b]? = some (.cells cs e (0, 0))) : w.frozen? ⟨b, o, none⟩ = false ∧ w.shape? b = some (e, cs.size) := by
  refine ⟨?_, by simp [World.shape?, h]⟩
  simp [World.frozen?, h]
theorem run_sameAddr_ne {w : World} {b o b' o' : Nat} {cs cs' : Array Value} {e e' : TypeId} (h : w.heap[b]? = some (.cells cs e (0, 0))) (h' : w.heap[b']? = some (.cells cs' e' (0, 0))) (hne : b ≠ b') :
    (sameAddr ⟨b, o, none⟩ ⟨b', o', none⟩).run P w = .ok false w := by
  have f1 := fun o => arr_facts (o := o) h
  have f2 := fun o => arr_facts (o := o) h'
  have hb : (b == b') = false := by simpa using hne
  simp only [sameAddr, hb, Bool.false_eq_true, if_false, Sem.run_bind, run_frozen, (f1 _).1, (f2 _).1, Result.andThen_ok, Bool.and_self, noView, viewAt, run_shape, (f1 0).2, (f2 0).2, Option.isSome_some, if_true, Sem.run_pure, Option.isSome_none,
    mayBeOne, stringish, Bool.or_self, Bool.false_and]
theorem eqGuard_none {op : BinOp} {t : TypeId} {xo yo : Operand} {x y : Value} (h1 : x ≠ .nilIface ∨ y ≠ .nilIface) (h2 : (∀ cs, x ≠ .agg cs) ∨ (∀ cs, y ≠ .agg cs)) (w : World) : (eqGuard op t xo yo x y).run P w = .ok () w := by
  unfold eqGuard
  have key : (match x, y with
    | .nilIface, .nilIface =>
      (if (xo matches .const _) || (yo matches .const _) then pure () else do
        if ← Op.eqGuardIn Op.maxDepth t x y then unsupported (.noEntry "binop/eql: two nil values of an interface type with methods, neither of them the literal nil") else pure ())
    | .agg _, .agg _ => (do
      if !(← program).eqGuardType (← program).depth t then pure () else do
        if ← Op.eqGuardIn Op.maxDepth t x y then unsupported (.noEntry "binop/eql: two nil values of an interface type with methods, in a part of a struct or an array") else pure ())
    | _, _ => (pure () : Sem Unit)) = pure () := by
    split
    · rcases h1 with h | h <;> exact absurd rfl h
    · rcases h2 with h | h <;> exact absurd rfl (h _)
    · rfl
  split <;> simp only [Bool.not_true, Bool.not_false, Bool.false_eq_true, if_false, if_true]
  · exact (congrArg (fun s : Sem Unit => s.run P w) key).trans rfl
  · exact (congrArg (fun s : Sem Unit => s.run P w) key).trans rfl
  · rfl
theorem guarded {op : BinOp} {t : TypeId} {xo yo : Operand} {x y r : Value} {w : World} (hg : (eqGuard op t xo yo x y).run P w = .ok () w) (h : (binOp op t x y).run P w = .ok r w) :
    (do eqGuard op t xo yo x y; binOp op t x y : Sem Value).run P w = .ok r w := by
  simp only [Sem.run_bind, hg, Result.andThen_ok, h]
theorem eqIn_ptr (d : Nat) {t e : TypeId} {i : TypeInfo} (hu : P.underlying t = some (.pointer e)) (hi : P.info? e = some i) (hz : i.size ≠ 0) (a b : Addr) (w : World) :
    (Op.equalIn (d + 1) t (.pointer (some a)) (.pointer (some b))).run P w = (sameAddr a b).run P w := by
  simp only [Op.equalIn, Sem.run_bind, run_underlying hu, Result.andThen_ok, run_sizeOf' hi, hz, ne_eq, not_false_eq_true, if_true]
theorem eqIn_ptr_nil1 (d : Nat) {t e : TypeId} (hu : P.underlying t = some (.pointer e)) (a : Addr) (w : World) : (Op.equalIn (d + 1) t (.pointer (some a)) (.pointer none)).run P w = .ok false w := by
  simp [Op.equalIn, run_underlying hu]
theorem eqIn_ptr_nil2 (d : Nat) {t e : TypeId} (hu : P.underlying t = some (.pointer e)) (a : Addr) (w : World) : (Op.equalIn (d + 1) t (.pointer none) (.pointer (some a))).run P w = .ok false w := by
  simp [Op.equalIn, run_underlying hu]
theorem eqIn_slice_nil (d : Nat) {t e : TypeId} (hu : P.underlying t = some (.slice e)) (a : Addr) (n c : Nat) (w : World) : (Op.equalIn (d + 1) t (.slice (some a) n c) (.slice none 0 0)).run P w = .ok false w := by
  simp [Op.equalIn, run_underlying hu]
theorem eqIn_map_nil (d : Nat) {t k e : TypeId} (hu : P.underlying t = some (.map k e)) (r : Nat) (w : World) : (Op.equalIn (d + 1) t (.map (some r)) (.map none)).run P w = .ok false w := by
  simp [Op.equalIn, run_underlying hu]
theorem eqIn_fn_nil (d : Nat) {t : TypeId} {ps rs : Array TypeId} {va : Bool} (hu : P.underlying t = some (.func ps rs va)) (f : Fn) (x y : Array Value) (w : World) : (Op.equalIn (d + 1) t (.func f x y) .nilFunc).run P w = .ok false w := by
  simp [Op.equalIn, run_underlying hu]
theorem eqIn_iface_nil (d : Nat) {t : TypeId} {ms : Array (String × TypeId)} (hu : P.underlying t = some (.interface ms)) (u : TypeId) (x : Value) (w : World) : (Op.equalIn (d + 1) t (.iface u x) .nilIface).run P w = .ok false w := by
  simp [Op.equalIn, run_underlying hu]
theorem isPtrT_some {C : Cfg} {t : TypeId} (h : abin.isPtrT C t = true) : ∃ e, C.P.underlying t = some (.pointer e) := by
  unfold abin.isPtrT at h; split at h
  · exact ⟨_, by assumption⟩
  · cases h
theorem isSlT_some {C : Cfg} {t : TypeId} (h : abin.isSlT C t = true) : ∃ e, C.P.underlying t = some (.slice e) := by
  unfold abin.isSlT at h; split at h
  · exact ⟨_, by assumption⟩
  · cases h
theorem isMapT_some {C : Cfg} {t : TypeId} (h : abin.isMapT C t = true) : ∃ k e, C.P.underlying t = some (.map k e) := by
  unfold abin.isMapT at h; split at h
  · exact ⟨_, _, by assumption⟩
  · cases h
theorem isFnT_some {C : Cfg} {t : TypeId} (h : abin.isFnT C t = true) : ∃ a b c, C.P.underlying t = some (.func a b c) := by
  unfold abin.isFnT at h; split at h
  · exact ⟨_, _, _, by assumption⟩
  · cases h
theorem isIfT_some {C : Cfg} {t : TypeId} (h : abin.isIfT C t = true) : ∃ a, C.P.underlying t = some (.interface a) := by
  unfold abin.isIfT at h; split at h
  · exact ⟨_, by assumption⟩
  · cases h
theorem bin_ok {C : Cfg} (hC : C.P = P) {B : Nat} {h : AHeap} (I : Inv B h g) {op : BinOp} {t : TypeId} {xo yo : Operand} {x y v : AVal} {x' y' : Value} (hx : VRel g.ι g.μ x x') (hy : VRel g.ι g.μ y y') (hl : abin C op t xo yo h x y = some v) :
    ∃ v', (do eqGuard op t xo yo x' y'; binOp op t x' y' : Sem Value).run P g.w = .ok v' g.w ∧ VRel g.ι g.μ v v' := by
  subst hC
  unfold abin at hl
  split at hl
  iterate 9
    next =>
      split at hl
      case isFalse => cases hl
      rename_i hk
      subst hk
      simp only [Option.some.injEq] at hl; subst hl
      cases hx; cases hy
      first
        | exact ⟨_, guarded (eqGuard_none (.inl (by simp)) (.inl (by simp)) _) (by simp only [binOp, ne_eq, not_true_eq_false, if_false, Op.intArith, Op.intCmp]; rfl), .int _ _⟩
        | exact ⟨_, guarded (eqGuard_none (.inl (by simp)) (.inl (by simp)) _) (by simp only [binOp, ne_eq, not_true_eq_false, if_false, Op.intArith, Op.intCmp]; rfl), .bool _⟩
  iterate 2
    next =>
      split at hl
      case isFalse => cases hl
      rename_i hk
      obtain ⟨rfl, hb⟩ := hk
      simp only [Option.some.injEq] at hl; subst hl
      cases hx; cases hy
      exact ⟨_, guarded (eqGuard_none (.inl (by simp)) (.inl (by simp)) _) (by simp only [binOp, ne_eq, not_true_eq_false, if_false, Op.intDiv, hb]; rfl), .int _ _⟩
  iterate 2
    next =>
      split at hl
      case isFalse => cases hl
      rename_i hk
      simp only [Option.some.injEq] at hl; subst hl
      cases hx; cases hy
      exact ⟨_, guarded (eqGuard_none (.inl (by simp)) (.inl (by simp)) _) (by simp only [binOp, Op.shift, Int.not_lt.2 hk, if_false]; rfl), .int _ _⟩
  · split at hl
    case isFalse => cases hl
    rename_i hk
    simp only [Option.some.injEq] at hl; subst hl
    cases hx; cases hy
    refine ⟨_, guarded (eqGuard_none (.inl (by simp)) (.inl (by simp)) _) ?_, .str _⟩
    simp only [binOp, Op.stringOp, bytes_size]
    rw [if_neg (by show ¬ (_ : Int) > (9223372036854775807 : Int); omega), bytes_append]
    rfl
  iterate 2
    next =>
      simp only [Option.some.injEq] at hl; subst hl
      cases hx; cases hy
      exact ⟨_, guarded (eqGuard_none (.inl (by simp)) (.inl (by simp)) _) (by simp only [binOp, Op.stringOp, bytes_toList]; rfl), .bool _⟩
  iterate 2
    next =>
      split at hl
      case h_2 => cases hl
      rename_i id1 a id2 b _ _ c1 cs1 c2 cs2 hg1 hg2
      split at hl
      case isFalse => cases hl
      rename_i hP
      simp only [Option.some.injEq] at hl; subst hl
      obtain ⟨b1, o1, ccs1, e1, vs1, hm1, h01, hh1, hv1, hc1, hn1⟩ := I.blk _ _ hg1
      obtain ⟨b2, o2, ccs2, e2, vs2, hm2, h02, hh2, hv2, hc2, hn2⟩ := I.blk _ _ hg2
      cases hx with | ptr hmx =>
      cases hy with | ptr hmy =>
      rw [hm1] at hmx; cases hmx
      rw [hm2] at hmy; cases hmy
      have heq : (Op.equal t (.pointer (some ⟨b1, o1 + a, none⟩)) (.pointer (some ⟨b2, o2 + b, none⟩))).run C.P g.w = .ok (decide (id1 = id2) && decide (a = b)) g.w := by
        unfold abin.P2 at hP
        split at hP
        case h_2 => cases hP
        rename_i e hu
        split at hP
        case h_2 => cases hP
        rename_i i hi
        have hz : i.size ≠ 0 := by simpa using hP
        rw [run_equal]
        rw [eqIn_ptr 9999 hu hi hz]
        by_cases hid : id1 = id2
        · subst hid
          rw [hm1] at hm2
          simp only [Option.some.injEq, Ent.arr.injEq] at hm2
          obtain ⟨rfl, rfl, _⟩ := hm2
          simp only [sameAddr, beq_self_eq_true, if_true, Sem.run_pure, decide_true, Bool.true_and]
          congr 1
          by_cases hab : a = b
          · subst hab; simp
          · have : (⟨b1, o1 + a, none⟩ : Addr) ≠ ⟨b1, o1 + b, none⟩ := by intro h; injection h; omega
            simp [hab, this]
        · have hbne : b1 ≠ b2 := fun hb => hid (I.inj id1 id2 _ _ b1 hg1 hg2 (by simp [blkOf, hm1, Ent.block]) (by simp [blkOf, hm2, Ent.block, hb]))
          simp only [run_sameAddr_ne hh1 hh2 hbne, hid, decide_false, Bool.false_and]
      refine ⟨_, guarded (eqGuard_none (.inl (by simp)) (.inl (by simp)) _) (by simp only [binOp, Sem.run_bind, heq, Result.andThen_ok, Sem.run_pure]), .bool _⟩
  iterate 4
    next =>
      split at hl
      case isFalse => cases hl
      rename_i hP
      obtain ⟨e, hu⟩ := isPtrT_some hP
      simp only [Option.some.injEq] at hl; subst hl
      cases hx; cases hy
      exact ⟨_, guarded (eqGuard_none (.inl (by simp)) (.inl (by simp)) _) (by simp only [binOp, Sem.run_bind, run_equal, eqIn_ptr_nil1 9999 hu, eqIn_ptr_nil2 9999 hu, Result.andThen_ok, Sem.run_pure] <;> rfl), .bool _⟩
  iterate 4
    next =>
      split at hl
      case isFalse => cases hl
      rename_i hP
      obtain ⟨e, hu⟩ := isPtrT_some hP
      simp only [Option.some.injEq] at hl; subst hl
      cases hx; cases hy
      exact ⟨_, guarded (eqGuard_none (.inl (by simp)) (.inl (by simp)) _) (by simp only [binOp, Sem.run_bind, run_equal, eqIn_ptr_nil1 9999 hu, eqIn_ptr_nil2 9999 hu, Result.andThen_ok, Sem.run_pure] <;> rfl), .bool _⟩
  iterate 2
    next =>
      split at hl
      case isFalse => cases hl
      rename_i hP
      obtain ⟨e, hu⟩ := isSlT_some hP
      simp only [Option.some.injEq] at hl; subst hl
      cases hx; cases hy
      exact ⟨_, guarded (eqGuard_none (.inl (by simp)) (.inl (by simp)) _) (by simp only [binOp, Sem.run_bind, run_equal, eqIn_slice_nil 9999 hu, Result.andThen_ok, Sem.run_pure] <;> rfl), .bool _⟩
  iterate 2
    next =>
      split at hl
      case isFalse => cases hl
      rename_i hP
      obtain ⟨e, hu⟩ := isSlT_some hP
      simp only [Option.some.injEq] at hl; subst hl
      cases hx; cases hy
      exact ⟨_, guarded (eqGuard_none (.inl (by simp)) (.inl (by simp)) _) (by simp only [binOp, Sem.run_bind, run_equal, eqIn_slice_nil 9999 hu, Result.andThen_ok, Sem.run_pure] <;> rfl), .bool _⟩
  iterate 2
    next =>
      split at hl
      case isFalse => cases hl
      rename_i hP
      obtain ⟨k, e, hu⟩ := isMapT_some hP
      simp only [Option.some.injEq] at hl; subst hl
      cases hx; cases hy
      exact ⟨_, guarded (eqGuard_none (.inl (by simp)) (.inl (by simp)) _) (by simp only [binOp, Sem.run_bind, run_equal, eqIn_map_nil 9999 hu, Result.andThen_ok, Sem.run_pure] <;> rfl), .bool _⟩
  iterate 2
    next =>
      split at hl
      case isFalse => cases hl
      rename_i hP
      obtain ⟨ps, rs, va, hu⟩ := isFnT_some hP
      simp only [Option.some.injEq] at hl; subst hl
      cases hx; cases hy
      exact ⟨_, guarded (eqGuard_none (.inl (by simp)) (.inl (by simp)) _) (by simp only [binOp, Sem.run_bind, run_equal, eqIn_fn_nil 9999 hu, Result.andThen_ok, Sem.run_pure] <;> rfl), .bool _⟩
  iterate 2
    next =>
      split at hl
      case isFalse => cases hl
      rename_i hP
      obtain ⟨ms, hu⟩ := isIfT_some hP
      simp only [Option.some.injEq] at hl; subst hl
      cases hx; cases hy
      exact ⟨_, guarded (eqGuard_none (.inl (by simp)) (.inl (by simp)) _) (by simp only [binOp, Sem.run_bind, run_equal, eqIn_iface_nil 9999 hu, Result.andThen_ok, Sem.run_pure] <;> rfl), .bool _⟩
  · simp only [Option.bind_eq_bind, Option.bind_eq_some_iff] at hl
    obtain ⟨a, ha, b, hb, r, hr, hl⟩ := hl
    have e1 := flatW_ok hx ha
    have e2 := flatW_ok hy hb
    subst e1; subst e2
    have hrun := run_runPure _ hr g.w
    refine ⟨r, hrun, ?_⟩
    split at hl
    · cases hl
    · cases hl
    · simp only [Option.some.injEq] at hl; subst hl; exact ofCell_rel r
theorem un_ok {C : Cfg} (hC : C.P = P) {op : UnOp} {x v : AVal} {x' : Value} (hx : VRel g.ι g.μ x x') (hl : aun C op x = some v) : ∃ v', (Op.unary op x').run P g.w = .ok v' g.w ∧ VRel g.ι g.μ v v' := by
  subst hC
  unfold aun at hl
  split at hl
  · simp only [Option.some.injEq] at hl; subst hl; cases hx; exact ⟨_, rfl, .bool _⟩
  · simp only [Option.some.injEq] at hl; subst hl; cases hx; exact ⟨_, rfl, .int _ _⟩
  · simp only [Option.bind_eq_bind, Option.bind_eq_some_iff] at hl
    obtain ⟨a, ha, r, hr, hl⟩ := hl
    have e1 := flatV_ok hx ha
    subst e1
    refine ⟨r, run_runPure _ hr g.w, ?_⟩
    split at hl
    · cases hl
    · cases hl
    · simp only [Option.some.injEq] at hl; subst hl; exact ofCell_rel r
end
end Go.Am



set_option linter.unusedSimpArgs false
namespace Go.Am
open Go
section
variable {P : Program} {g : G} {B : Nat} {h : AHeap}
theorem len_ok (I : Inv B h g) {t : TypeId} {x v : AVal} {x' : Value} {ty : TypeId} {ts : Array TypeId} {as : Array Value} (hts : ts[0]? = some t) (has : as[0]? = some x') (hx : VRel g.ι g.μ x x') (hl : alen P h t x = some v) :
    ∃ v', (Builtin.len_ ts ty as).run P g.w = .ok v' g.w ∧ VRel g.ι g.μ v v' := by
  simp only [alen, Option.bind_eq_bind, Option.bind_eq_some_iff] at hl
  obtain ⟨d, hd, hl⟩ := hl
  simp only [Builtin.len_, hts, has, Sem.run_bind, run_underlying hd, Result.andThen_ok]
  split at hl
  · rename_i s
    simp only [Option.some.injEq] at hl; subst hl; cases hx
    exact ⟨.int .i64 s.length, by simp [goInt, bytes_size], .int _ _⟩
  · simp only [Option.some.injEq] at hl; subst hl
    exact ⟨_, rfl, .int _ _⟩
  · simp only [Option.some.injEq] at hl; subst hl; cases hx; exact ⟨_, rfl, .int _ _⟩
  · simp only [Option.some.injEq] at hl; subst hl; cases hx; exact ⟨_, rfl, .int _ _⟩
  · simp only [Option.some.injEq] at hl; subst hl; cases hx; exact ⟨_, rfl, .int _ _⟩
  · simp only [Option.some.injEq] at hl; subst hl; cases hx; exact ⟨_, rfl, .int _ _⟩
  · split at hl
    · rename_i es c hget
      simp only [Option.some.injEq] at hl; subst hl
      obtain ⟨b, es', hm, h0, hh, hes⟩ := I.blk _ _ hget
      cases hx with | map hm' =>
      rw [hm] at hm'; cases hm'
      refine ⟨.int .i64 es'.size, ?_, ?_⟩
      · simp [getObj, Sem.run, hh, goInt]
      · have : es.length = es'.size := by
          have aux : ∀ {xs : List (AVal × AVal × Nat)} {ys : List MapEntry}, EsRel g.ι g.μ xs ys → xs.length = ys.length := by
            intro xs ys hr; induction hr with
            | nil => rfl
            | cons _ _ _ _ ih => simp [ih]
          simpa using aux hes
        rw [this]; exact .int _ _
    · cases hl
  · cases hl
theorem cap_ok {t : TypeId} {x v : AVal} {x' : Value} {ty : TypeId} {ts : Array TypeId} {as : Array Value} (hts : ts[0]? = some t) (has : as[0]? = some x') (hx : VRel g.ι g.μ x x') (hl : acap P t x = some v) :
    ∃ v', (Builtin.cap_ ts ty as).run P g.w = .ok v' g.w ∧ VRel g.ι g.μ v v' := by
  simp only [acap, Option.bind_eq_bind, Option.bind_eq_some_iff] at hl
  obtain ⟨d, hd, hl⟩ := hl
  simp only [Builtin.cap_, hts, has, Sem.run_bind, run_underlying hd, Result.andThen_ok]
  split at hl
  · simp only [Option.some.injEq] at hl; subst hl; cases hx; exact ⟨_, rfl, .int _ _⟩
  · simp only [Option.some.injEq] at hl; subst hl
    cases hx with | lst hc hi hs hn hcap =>
    simp only [CapRel] at hcap; subst hcap
    exact ⟨_, rfl, .int _ _⟩
  · simp only [Option.some.injEq] at hl; subst hl
    cases hx with | sl hm hn hcap hop ha =>
    have := hop rfl; subst this
    exact ⟨_, rfl, .int _ _⟩
  · cases hl
theorem CellsAt.heap {w w' : World} {b o : Nat} {vs : List Value} (h : CellsAt w b o vs) (hw : w'.heap = w.heap) : CellsAt w' b o vs := fun j v hv => (cell?_congr (by rw [hw])).trans (h j v hv)
theorem src_ok (I : Inv B h g) {es n : Nat} {x : AVal} {x' : Value} {new : List AVal} (hx : VRel g.ι g.μ x x') (hl : srcCells h es n x = some new) :
    (∃ vs, VsRel g.ι g.μ new vs ∧ vs.length = n * es ∧ ∀ w', w'.heap = g.w.heap → (Builtin.firstCells es n x').run P w' = .ok vs.toArray w') ∧ ∀ m, lenA h x = some m → (Builtin.lenOf x').run P g.w = .ok m g.w := by
  unfold srcCells at hl
  split at hl
  · split at hl
    case isFalse => cases hl
    rename_i hn
    simp only [Option.some.injEq] at hl; subst hl; subst hn
    cases hx
    refine ⟨⟨[], .nil, by simp, fun _ _ => rfl⟩, fun m hm => ?_⟩
    simp only [lenA, Option.some.injEq] at hm; subst hm; rfl
  · rename_i s
    split at hl
    case isFalse => cases hl
    rename_i hn
    simp only [Option.some.injEq] at hl; subst hl
    obtain ⟨rfl, hn⟩ := hn
    cases hx
    refine ⟨⟨(s.take n).map fun b => .int .u8 b.toNat, VsRel.map_of _ fun _ _ => .int _ _, by simp; omega, fun w' _ => ?_⟩, fun m hm => ?_⟩
    · simp only [Builtin.firstCells]
      rw [bytes_extract]
      simp
    · simp only [lenA, Option.some.injEq] at hm; subst hm
      simp [Builtin.lenOf, bytes_size]
  · rename_i cells len cap
    split at hl
    case isFalse => cases hl
    rename_i hn
    simp only [Option.some.injEq] at hl; subst hl
    obtain ⟨hn, hcl⟩ := hn
    cases hx with
    | @lst _ vs _ cap' _ a hc hi hs hn' hcap =>
    have hlen := hc.length
    have hle : n * es ≤ len * es := Nat.mul_le_mul_right _ hn
    have hvl : (vs.take (n * es)).length = n * es := by simp; omega
    refine ⟨⟨vs.take (n * es), hc.take _, hvl, fun w' hw' => ?_⟩, fun m hm => ?_⟩
    · simp only [Builtin.firstCells]
      rcases Nat.eq_zero_or_pos (n * es) with h0 | h0
      · rw [h0]; simp [loadCells, loadCellsFrom]
      · obtain ⟨b, o, sp⟩ := a
        have : sp = none := hs (by
          rcases Nat.eq_zero_or_pos len with h1 | h1
          · subst h1; simp at hle; simp [hle] at h0
          · exact h1)
        subst this
        have := run_loadCells (P := P) (vs.take (n * es)) (((hi.at_ I).take (n * es)).heap hw')
        rw [hvl] at this; exact this
    · simp only [lenA, Option.some.injEq] at hm; subst hm; rfl
  · rename_i id off es' len cap op
    split at hl
    case h_2 => cases hl
    rename_i cells hget
    split at hl
    case isFalse => cases hl
    rename_i hn
    simp only [Option.some.injEq] at hl; subst hl
    obtain ⟨rfl, hn, hfit⟩ := hn
    obtain ⟨b, o, cs, e, ws, hm, h0, hh, hws, hcs, hni⟩ := I.blk _ _ hget
    cases hx with
    | @sl _ _ _ _ _ cap' b' o' s _ _ a hm' hn' hcap hop ha =>
    rw [hm] at hm'
    simp only [Option.some.injEq, Ent.arr.injEq] at hm'
    obtain ⟨rfl, rfl, rfl, rfl⟩ := hm'
    have hlen := hws.length
    have hle : n * es' ≤ len * es' := Nat.mul_le_mul_right _ hn
    have hvl : ((ws.drop off).take (n * es')).length = n * es' := by simp; omega
    refine ⟨⟨(ws.drop off).take (n * es'), (hws.drop _).take _, hvl, fun w' hw' => ?_⟩, fun m hm => ?_⟩
    · simp only [Builtin.firstCells]
      rcases Nat.eq_zero_or_pos (n * es') with h1 | h1
      · rw [h1]; simp [loadCells, loadCellsFrom]
      · have hl0 : 0 < len := by
          rcases Nat.eq_zero_or_pos len with h2 | h2
          · subst h2; simp at hle; simp [hle] at h1
          · exact h2
        obtain ⟨ha1, ha2⟩ := ha (by omega)
        subst ha1
        have hca : CellsAt g.w b (o + off) (ws.drop off) := fun j v hj => by
          rw [cell?_of_heap hh, Nat.add_assoc]; exact hcs (off + j) v (by simpa using hj)
        have := run_loadCells (P := P) _ ((hca.take (n * es')).heap hw')
        rw [hvl] at this; exact this
    · simp only [lenA, Option.some.injEq] at hm; subst hm; rfl
  · cases hl
theorem append_fit {sT xT e ty : TypeId} {i : TypeInfo} {d : TypeDesc} {a : Addr} {sLen sCap m : Nat} {x' : Value} {new : List Value} {w w' : World} (hd : P.underlying sT = some (.slice e)) (hi : P.info? e = some i) (hx : P.underlying xT = some d) (hni : ∀ k, d ≠ .int k)
    (hn : (Builtin.lenOf x').run P w = .ok m w) (hf : (Builtin.firstCells i.size m x').run P w = .ok new.toArray w) (hle : sLen + m ≤ sCap) (hst : (storeCells (a.add (sLen * i.size)) new).run P w = .ok () w') :
    (Builtin.append_ #[sT, xT] ty #[.slice (some a) sLen sCap, x']).run P w = .ok (.slice (some a) (sLen + m) sCap) w' := by
  have hz : (match d with | .int _ => true | _ => false) = false := by cases d <;> first | rfl | exact absurd rfl (hni _)
  simp only [Builtin.append_, List.getElem?_toArray, List.getElem?_cons_zero, List.getElem?_cons_succ, Sem.run_bind, run_underlying hd, Result.andThen_ok, run_sizeOf' hi, run_underlying hx, Sem.run_pure, hz, Bool.false_eq_true, if_false, hn, Bool.not_false, if_true, hle, hf, hst]
theorem append_none {sT xT e ty : TypeId} {i : TypeInfo} {d : TypeDesc} {x' : Value} {new : Array Value} {w : World} (hd : P.underlying sT = some (.slice e)) (hi : P.info? e = some i) (hx : P.underlying xT = some d) (hni : ∀ k, d ≠ .int k)
    (hn : (Builtin.lenOf x').run P w = .ok 0 w) (hf : (Builtin.firstCells i.size 0 x').run P w = .ok new w) :
    (Builtin.append_ #[sT, xT] ty #[.slice none 0 0, x']).run P w = .ok (.slice none 0 0) w := by
  have hz : (match d with | .int _ => true | _ => false) = false := by cases d <;> first | rfl | exact absurd rfl (hni _)
  simp only [Builtin.append_, List.getElem?_toArray, List.getElem?_cons_zero, List.getElem?_cons_succ, Sem.run_bind, run_underlying hd, Result.andThen_ok, run_sizeOf' hi, run_underlying hx, Sem.run_pure, hz, Bool.false_eq_true, if_false, hn, Bool.not_false, if_true, Nat.add_zero, Nat.le_refl, hf]
theorem append_grow {sT xT e ty : TypeId} {i : TypeInfo} {z : Value} {d : TypeDesc} {base : Option Addr} {sLen sCap m : Nat} {x' : Value} {old new : List Value} {w : World} (hd : P.underlying sT = some (.slice e)) (hi : P.info? e = some i) (hz0 : i.zero = some z) (hx : P.underlying xT = some d) (hni : ∀ k, d ≠ .int k)
    (hn : (Builtin.lenOf x').run P w = .ok m w) (hf : ∀ w', w'.heap = w.heap → (Builtin.firstCells i.size m x').run P w' = .ok new.toArray w') (ho : ∀ w', w'.heap = w.heap → (Builtin.firstCells i.size sLen (.slice base sLen sCap)).run P w' = .ok old.toArray w') (hgt : sCap < sLen + m)
    (hb : (sLen + m) * i.bytes ≤ 2 ^ 47) (hmax : sLen + m ≤ 9223372036854775807) :
    ∃ cap w', sLen + m ≤ cap ∧ (Builtin.append_ #[sT, xT] ty #[.slice base sLen sCap, x']).run P w = .ok (.slice (some ⟨w.heap.size, 0, none⟩) (sLen + m) cap) w' ∧
      Psh w w' (.cells (old.toArray ++ new.toArray ++ Builtin.zeroCells z.cells (cap - (sLen + m))) e (0, 0)) := by
  have hz : (match d with | .int _ => true | _ => false) = false := by cases d <;> first | rfl | exact absurd rfl (hni _)
  have hpick : ¬ Builtin.nextslicecap (sLen + m) sCap * i.bytes > 2 ^ 48 := by
    have h1 := Nat.mul_le_mul_right i.bytes (Room.nextslicecap_le' hgt)
    rw [Nat.mul_assoc] at h1
    omega
  have hmax' : ¬ ((sLen + m : Nat) : Int) > IntKind.i64.max := by show ¬ ((sLen + m : Nat) : Int) > 9223372036854775807; omega
  refine ⟨(Question.appendCap (sLen + m) sCap e).cut (w.tape w.drawn (.appendCap (sLen + m) sCap e)), { w with heap := w.heap.push (.cells (old.toArray ++ new.toArray ++ Builtin.zeroCells z.cells ((Question.appendCap (sLen + m) sCap e).cut (w.tape w.drawn (.appendCap (sLen + m) sCap e)) - (sLen + m))) e), drawn := w.drawn + 1 }, by simp only [Question.cut]; omega, ?_, ⟨rfl, rfl, rfl, rfl⟩⟩
  simp only [Builtin.append_, List.getElem?_toArray, List.getElem?_cons_zero, List.getElem?_cons_succ, Sem.run_bind, run_underlying hd, Result.andThen_ok, run_sizeOf' hi, run_underlying hx, Sem.run_pure, hz, Bool.false_eq_true, if_false, hn, Bool.not_false, if_true,
    show ¬ sLen + m ≤ sCap from by omega, hmax', false_and, pure_bind, run_typeInfo' hi, hpick, run_choose, Question.forced, run_askRoom]
  rw [ho { w with drawn := w.drawn + 1 } rfl]
  simp only [Result.andThen_ok]
  rw [hf { w with drawn := w.drawn + 1 } rfl]
  simp only [Result.andThen_ok, run_zeroValue hi hz0, run_newRow]
theorem append_grow0 {sT xT e ty : TypeId} {i : TypeInfo} {z : Value} {kk kx : IntKind} {m : Nat} {w : World} (hd : P.underlying sT = some (.slice e)) (hi : P.info? e = some i) (hz0 : i.zero = some z) (hx : P.underlying xT = some (.int kk)) (h0 : 0 < m) (hb : m * i.bytes ≤ 2 ^ 47) (hmax : m ≤ 9223372036854775807) (hes : i.size ≠ 0) :
    ∃ cap w', m ≤ cap ∧ (Builtin.append_ #[sT, xT] ty #[.slice none 0 0, .int kx m]).run P w = .ok (.slice (some ⟨w.heap.size, 0, none⟩) m cap) w' ∧
      Psh w w' (.cells (#[] ++ Builtin.zeroCells z.cells m ++ Builtin.zeroCells z.cells (cap - m)) e (0, 0)) := by
  have hpick : ¬ Builtin.nextslicecap m 0 * i.bytes > 2 ^ 48 := by
    have h1 := Nat.mul_le_mul_right i.bytes (Room.nextslicecap_le' (show 0 < 0 + m by omega))
    rw [Nat.mul_assoc, Nat.zero_add] at h1
    omega
  have hw : IntKind.i64.wrap (m : Int) = m := by rw [IntKind.wrap_i64]; omega
  have hneg : ¬ ((m : Int) < 0) := by omega
  have hbig : ¬ ((m : Int) * (i.bytes : Int) > 2 ^ 48) := by
    have : ((m * i.bytes : Nat) : Int) = (m : Int) * (i.bytes : Int) := by rw [Int.natCast_mul]
    omega
  have hmax' : ¬ (m : Int) > IntKind.i64.max := by show ¬ (m : Int) > 9223372036854775807; omega
  have hne : ¬ m * i.size = 0 := by
    intro h
    rcases Nat.mul_eq_zero.1 h with h | h
    · omega
    · exact hes h
  refine ⟨(Question.appendCap m 0 e).cut (w.tape w.drawn (.appendCap m 0 e)), { w with heap := w.heap.push (.cells (#[] ++ Builtin.zeroCells z.cells m ++ Builtin.zeroCells z.cells ((Question.appendCap m 0 e).cut (w.tape w.drawn (.appendCap m 0 e)) - m)) e), drawn := w.drawn + 1 }, by simp only [Question.cut]; omega, ?_, ⟨rfl, rfl, rfl, rfl⟩⟩
  simp only [Builtin.append_, List.getElem?_toArray, List.getElem?_cons_zero, List.getElem?_cons_succ, Sem.run_bind, run_underlying hd, Result.andThen_ok, run_sizeOf' hi, run_underlying hx, Sem.run_pure, if_true, asInt, asIntOf, hw, hneg, if_false, run_typeInfo' hi, hbig, Int.toNat_natCast, Bool.not_true, Bool.false_eq_true, hne,
    show ¬ m ≤ 0 from by omega, hmax', false_and, pure_bind, hpick, run_choose, Question.forced, run_askRoom, run_zeroValue hi hz0, run_newRow, Builtin.firstCells, Nat.zero_add]
theorem isCells_new {new : List AVal} {vs : List Value} (hv : VsRel g.ι g.μ new vs) (hc : new.all AVal.isCell = true) : ∀ v ∈ vs, v.oneCell' = true := hv.oneCells hc
theorem zeroCells_size (z : Array Value) (n : Nat) : (Builtin.zeroCells z n).size = n * z.size := by simp [Builtin.zeroCells]
theorem grown_lst {I : Inv B h g} {w' : World} {old new : List AVal} {ov nv : List Value} {z : Array Value} {e : TypeId} {need cap es : Nat} (ho : VsRel g.ι g.μ old ov) (hn : VsRel g.ι g.μ new nv) (hlen : ov.length + nv.length = need * es) (hz : z.size = es) (hcap : need ≤ cap)
    (p : Psh g.w w' (.cells (ov.toArray ++ nv.toArray ++ Builtin.zeroCells z (cap - need)) e (0, 0))) :
    ∃ ι' μ', Inv B (h.new (.tok es)) ⟨w', ι', μ'⟩ ∧ Ext h g (h.new (.tok es)) ⟨w', ι', μ'⟩ ∧ VRel ι' μ' (.lst (old ++ new) need (.tok h.next)) (.slice (some ⟨g.w.heap.size, 0, none⟩) need cap) := by
  obtain ⟨ι', I', E, hι⟩ := I.freshTok p (need * es) es (fun j _ _ => by omega)
  refine ⟨ι', _, I', E, ?_⟩
  have hrel := (ho.append hn).mono E.le
  refine VRel.lst hrel (fun j v hj => ?_) (fun _ => rfl) hcap ⟨g.w.heap.size, need * es, (ov.toArray ++ nv.toArray ++ Builtin.zeroCells z (cap - need)).size, es, by simp only [addMu, if_true], fun hlt => ?_⟩
  · have hjl : j < (ov ++ nv).length := by
      rcases Nat.lt_or_ge j (ov ++ nv).length with h1 | h1
      · exact h1
      · simp [List.getElem?_eq_none h1] at hj
    show ι' g.w.heap.size (0 + j) = some v
    rw [Nat.zero_add, hι j (by simp at hjl; omega)]
    rw [← Array.getElem?_toList]
    simp only [Array.toList_append]
    rw [List.getElem?_append_left (by simpa using hjl)]
    exact hj
  · have hl := (ho.append hn).length
    simp only [List.length_append] at hl ⊢
    have h1 : (cap - need) * es + need * es = cap * es := by rw [← Nat.add_mul]; congr 1; omega
    refine ⟨by omega, ?_, ?_⟩
    · congr 1; omega
    · simp only [Array.size_append, List.size_toArray, zeroCells_size, hz]; omega
def SlTy (h : AHeap) (g g' : G) (e : TypeId) (s v : AVal) : Prop :=
  ∀ id off es len cap op, v = .sl id off es len cap op → h.next ≤ id → (∀ id0 off0 es0 len0 cap0 op0, s = .sl id0 off0 es0 len0 cap0 op0 → ∃ b o sz, g.μ id0 = some (.arr b o sz e)) → ∃ b o sz, g'.μ id = some (.arr b o sz e)
def OkVM (B : Nat) (h : AHeap) (g : G) (r : Result Value) (v : AVal) (h' : AHeap) (e : TypeId) (s : AVal) : Prop :=
  ∃ v' g', r = .ok v' g'.w ∧ Inv B h' g' ∧ Ext h g h' g' ∧ VRel g'.ι g'.μ v v' ∧ SlTy h g g' e s v
theorem appendZ_ok (I : Inv B h g) {sT xT e ty : TypeId} {i : TypeInfo} {z : Value} {kk : IntKind} {s x : AVal} {s' x' : Value} {r : AVal × AHeap} (hd : P.underlying sT = some (.slice e)) (hi : P.info? e = some i) (hz : i.zero = some z) (hx : P.underlying xT = some (.int kk))
    (hs : VRel g.ι g.μ s s') (hxr : VRel g.ι g.μ x x') (hl : appendZ h i.size i.bytes (ofV z).cells s x = some r) : OkV B h g ((Builtin.append_ #[sT, xT] ty #[s', x']).run P g.w) r.1 r.2 := by
  unfold appendZ at hl
  split at hl
  case h_2 => cases hl
  rename_i kx n
  split at hl
  case isFalse => cases hl
  rename_i hc
  obtain ⟨h0, hmax, hb, hza, hes⟩ := hc
  simp only [Option.some.injEq] at hl
  subst hl
  cases hs
  cases hxr
  obtain ⟨m, rfl⟩ : ∃ m : Nat, n = m := ⟨n.toNat, by omega⟩
  simp only [Int.toNat_natCast] at hb ⊢
  have hzr := ofV_cells (ι := g.ι) (μ := g.μ) z
  have hzc : z.cells.size = i.size := by have := hzr.length; simp at this; omega
  obtain ⟨cap, w', hcap, hr, hp⟩ := append_grow0 (ty := ty) (kx := kx) (w := g.w) hd hi hz hx (by omega) hb (by omega) hes
  have hrel := zeros_rel hzr m (m * i.size) (by rw [hzc])
  have hzcl : (((Array.range (m * i.size)).map (z.cells[· % z.cells.size]!)).toList) = (Builtin.zeroCells z.cells m).toList := by
    unfold Builtin.zeroCells; rw [hzc]
  rw [hzcl] at hrel
  have T := I.newArr hp hrel (fun j v hj => by
    have hjl : j < (Builtin.zeroCells z.cells m).toList.length := by
      rcases Nat.lt_or_ge j (Builtin.zeroCells z.cells m).toList.length with h1 | h1
      · exact h1
      · simp [List.getElem?_eq_none h1] at hj
    rw [← Array.getElem?_toList]
    simp only [Array.toList_append]
    rw [List.getElem?_append_left (by simpa using hjl)]
    simpa using hj) (by have := hrel.length; simp only [Array.size_append, Array.length_toList] at this ⊢; omega)
  refine ⟨_, ⟨w', _, _⟩, hr, T.1, T.2, VRel.sl (o := 0) (s := (#[] ++ Builtin.zeroCells z.cells m ++ Builtin.zeroCells z.cells (cap - m)).size) (addMu_self _ _ _) (Nat.le_refl _) hcap (fun h0 => by cases h0) (fun _ => ⟨rfl, ?_⟩)⟩
  simp only [Array.size_append, zeroCells_size, hzc, Array.size_empty]
  have h1 : (cap - m) * i.size + m * i.size = cap * i.size := by rw [← Nat.add_mul]; congr 1; omega
  omega
theorem appendA_ok {own : Bool} (I : Inv B h g) {sT xT e ty : TypeId} {i : TypeInfo} {z : Value} {d : TypeDesc} {s x : AVal} {s' x' : Value} {r : AVal × AHeap} (hd : P.underlying sT = some (.slice e)) (hi : P.info? e = some i) (hz : i.zero = some z) (hzs : (ofV z).cells.length = i.size)
    (hx : P.underlying xT = some d) (hni : ∀ k, d ≠ .int k) (hs : VRel g.ι g.μ s s') (hxr : VRel g.ι g.μ x x') (hl : appendA own h i.size i.bytes s x = some r) : OkVM B h g ((Builtin.append_ #[sT, xT] ty #[s', x']).run P g.w) r.1 r.2 e s := by
  have hzc : z.cells.size = i.size := by have := (ofV_cells (ι := g.ι) (μ := g.μ) z).length; simp at this; omega
  simp only [appendA, Option.bind_eq_bind, Option.bind_eq_some_iff] at hl
  obtain ⟨m, hm, new, hnew, hl⟩ := hl
  split at hl
  case isFalse => cases hl
  rename_i hcell
  obtain ⟨⟨nv, hnv, hnl, hnf⟩, hlen⟩ := src_ok (P := P) I hxr hnew
  have hlen := hlen m hm
  have hnf' := hnf
  replace hnf := hnf g.w rfl
  split at hl
  ·
    cases hs
    split at hl
    · rename_i hm0
      simp only [Option.some.injEq] at hl; subst hl; subst hm0
      exact ⟨_, g, append_none hd hi hx hni hlen hnf, I, Ext.refl h g, .nilSl, fun _ _ _ _ _ _ h _ _ => by cases h⟩
    · split at hl
      case isFalse => cases hl
      rename_i hm0 hb
      obtain ⟨cap, w', hcap, hr, hp⟩ := append_grow (ty := ty) (base := none) (sLen := 0) (sCap := 0) (old := []) hd hi hz hx hni hlen hnf' (fun w' _ => rfl) (by omega) (by simpa using hb.1) (by omega)
      split at hl
      · simp only [Option.some.injEq] at hl; subst hl
        have hl2 : nv.length = m * i.size := hnl
        have T := I.newArr hp hnv (fun j v hj => by
          have hjl : j < nv.length := by
            rcases Nat.lt_or_ge j nv.length with h1 | h1
            · exact h1
            · simp [List.getElem?_eq_none h1] at hj
          rw [← Array.getElem?_toList]
          simp only [Array.toList_append]
          rw [List.getElem?_append_left (by simp; omega)]
          simpa using hj) (by have := hnv.length; simp only [Array.size_append, List.size_toArray, List.length_nil]; omega)
        have hcap' : m ≤ cap := by omega
        refine ⟨_, ⟨w', _, _⟩, by simpa using hr, T.1, T.2, VRel.sl (o := 0) (s := (([] : List Value).toArray ++ nv.toArray ++ Builtin.zeroCells z.cells (cap - (0 + m))).size) (addMu_self _ _ _) (Nat.le_refl _) hcap' (fun h0 => by cases h0) (fun _ => ⟨rfl, ?_⟩), fun _ _ _ _ _ _ h _ _ => by cases h; exact ⟨_, _, _, addMu_self _ _ _⟩⟩
        simp only [Array.size_append, List.size_toArray, zeroCells_size, hzc, List.length_nil]
        have h1 : (cap - (0 + m)) * i.size + (0 + m) * i.size = cap * i.size := by rw [← Nat.add_mul]; congr 1; omega
        have h2 : cap - (0 + m) = cap - m := by rw [Nat.zero_add]
        rw [h2] at h1 ⊢
        rw [Nat.zero_add] at h1
        omega
      · simp only [Option.some.injEq] at hl; subst hl
        obtain ⟨ι', μ', I', E, hv⟩ := grown_lst (I := I) (old := []) (ov := []) .nil hnv (es := i.size) (by simpa using hnl) hzc hcap hp
        refine ⟨_, ⟨w', ι', μ'⟩, hr, I', E, ?_, fun _ _ _ _ _ _ h _ _ => by cases h⟩
        simpa using hv
  · rename_i cells len cap
    split at hl
    · rename_i hm0
      simp only [Option.some.injEq] at hl; subst hl; subst hm0
      have : nv = [] := List.eq_nil_of_length_eq_zero (by simpa using hnl)
      subst this
      cases hs with
      | @lst _ vs _ cap' _ a hc hi' hs' hn hcap =>
      exact ⟨_, g, append_fit hd hi hx hni hlen hnf (by omega) (by simp [storeCells]), I, Ext.refl h g, .lst hc hi' hs' hn hcap, fun _ _ _ _ _ _ h _ _ => by cases h⟩
    · rename_i hm0
      split at hl
      case isFalse => cases hl
      rename_i hb
      obtain ⟨hb1, hb2, hb3⟩ := hb
      have hs0 := hs
      have hsrc : srcCells h i.size len (.lst cells len cap) = some cells := by
        simp only [srcCells, Nat.le_refl, hb3, true_and, if_true]
        rw [← hb3, List.take_length]
      obtain ⟨⟨ov, hov, hol, hof⟩, _⟩ := src_ok (P := P) I hs0 hsrc
      have grow : ∀ cap', s' = .slice (match s' with | .slice b _ _ => b | _ => none) len cap' → cap' < len + m → ∀ h0 : AHeap, Inv B h0 g → Ext h g h0 g →
          OkVM B h g ((Builtin.append_ #[sT, xT] ty #[s', x']).run P g.w) (.lst (cells ++ new) (len + m) (.tok h0.next)) (h0.new (.tok i.size)) e (.lst cells len cap) := by
        intro cap' hs' hgt h0 I0 E0
        rw [hs'] at hof ⊢
        obtain ⟨cp, w', hcap, hr, hp⟩ := append_grow (ty := ty) (sLen := len) (sCap := cap') (old := ov) hd hi hz hx hni hlen hnf' hof hgt hb1 hb2
        obtain ⟨ι', μ', I', E, hv⟩ := grown_lst (I := I0) hov hnv (es := i.size) (by rw [hol, hnl, ← Nat.add_mul]) hzc hcap hp
        exact ⟨_, ⟨w', ι', μ'⟩, hr, I', E0.trans E, hv, fun _ _ _ _ _ _ h _ _ => by cases h⟩
      cases hs with
      | @lst _ vs _ cap' _ a hc hi' hs' hn hcap =>
      cases cap with
      | unk => cases hl
      | full =>
        simp only [Option.some.injEq] at hl; subst hl
        simp only [CapRel] at hcap
        exact grow cap' rfl (by omega) h I (Ext.refl h g)
      | tok r =>
        simp only at hl
        split at hl
        case h_2 => cases hl
        rename_i es' hget
        split at hl
        case isFalse => cases hl
        rename_i hes
        subst hes
        simp only [Option.some.injEq] at hl; subst hl
        rcases Nat.lt_or_ge cap' (len + m) with hgt | hle
        · have D := I.drop r
          exact grow cap' rfl hgt (h.set r none) D.1 D.2
        · obtain ⟨b, mf, sz, es2, hmu, ht⟩ := hcap
          obtain ⟨ht1, ht2, ht3⟩ := ht (by omega)
          obtain ⟨b', m', cs, e', lo, hi2, hm', hB, hh, hfr, hni'⟩ := I.blk r _ hget
          rw [hm'] at hmu
          simp only [Option.some.injEq, Ent.tok.injEq] at hmu
          obtain ⟨rfl, rfl, rfl, rfl⟩ := hmu
          subst ht2
          have hq : (cap' - len) * i.size = m * i.size + (cap' - (len + m)) * i.size := by rw [← Nat.add_mul]; congr 1; omega
          have hadd : (⟨b', m' - cells.length, none⟩ : Addr).add (len * i.size) = ⟨b', m', none⟩ := by rw [add_plain]; congr 1; omega
          have hvl : nv.length = m * i.size := hnl
          obtain ⟨w', hr, u⟩ := run_storeCells (P := P) nv 0 g.w cs hh (o := m') (by simp only [Nat.add_zero]; omega) (isCells_new hnv hcell) (fun j h1 h2 => hfr j (by omega) (by omega))
          simp only [Nat.add_zero] at u
          have hb' : blkOf g.μ r = some b' := by simp [blkOf, hm', Ent.block]
          have hcsz : (setRangeV cs.toList m' nv).toArray.size = cs.size := by simp [setRangeV_length]
          have T := I.turnTo (y := .tok i.size) hget hb' u (fun b2 o2 => if b2 = b' ∧ m' ≤ o2 ∧ o2 < m' + m * i.size then (setRangeV cs.toList m' nv)[o2]? else g.ι b2 o2)
            (fun b2 o2 v hv => by
              by_cases hc2 : b2 = b' ∧ m' ≤ o2 ∧ o2 < m' + m * i.size
              · obtain ⟨rfl, h1, h2⟩ := hc2
                rw [hni' o2 h1] at hv; cases hv
              · rw [if_neg hc2]; exact hv)
            (fun b2 o2 hb2 => by rw [if_neg (fun hc2 => hb2 hc2.1)])
            (fun j v hj => by
              rw [cell?_of_heap u.at_]
              by_cases hc2 : m' ≤ j ∧ j < m' + m * i.size
              · rw [if_pos ⟨rfl, hc2⟩] at hj; simpa using hj
              · rw [if_neg (fun h3 => hc2 h3.2)] at hj
                have := I.imm _ _ _ hj
                rw [cell?_of_heap hh] at this
                simp only [List.getElem?_toArray]
                rw [setRangeV_get _ _ _ _ (by omega)]
                simpa using this)
            (.tok b' (m' + m * i.size) (setRangeV cs.toList m' nv).toArray.size i.size) rfl
            ⟨b', m' + m * i.size, _, e', lo, hi2, by simp [addMu], hB, u.at_, fun j h1 h2 => hfr j (by omega) (by rw [hcsz] at h2; exact h2), fun j hj => by
              simp only
              rw [if_neg (by omega)]
              exact hni' j (by omega)⟩
          refine ⟨_, ⟨w', _, _⟩, append_fit hd hi hx hni hlen hnf hle (by rw [hadd]; exact hr), T.1, T.2, ?_, fun _ _ _ _ _ _ h _ _ => by cases h⟩
          have hrel := (hc.append hnv).mono T.2.le
          have hcl := hc.length
          refine VRel.lst hrel (fun j v hj => ?_) (fun _ => rfl) hle ⟨b', m' + m * i.size, (setRangeV cs.toList m' nv).toArray.size, i.size, by simp only [addMu]; simp, fun hlt => ⟨?_, ?_, ?_⟩⟩
          · simp only
            rcases Nat.lt_or_ge j vs.length with h1 | h1
            · rw [List.getElem?_append_left h1] at hj
              have := hi' j v hj
              simp only at this
              rw [if_neg (by omega)]; exact this
            · rw [List.getElem?_append_right h1] at hj
              have h2 : j - vs.length < nv.length := by
                rcases Nat.lt_or_ge (j - vs.length) nv.length with h3 | h3
                · exact h3
                · simp [List.getElem?_eq_none h3] at hj
              rw [if_pos ⟨trivial, by omega, by omega⟩]
              have := setRangeV_in cs.toList m' nv (j - vs.length) v hj (by simp; omega)
              rw [← this]; congr 1; omega
          · simp only [List.length_append]; have := hnv.length; omega
          · simp only [List.length_append]; have := hnv.length; congr 1; omega
          · rw [hcsz]; omega
  · rename_i id off es' len cap op
    split at hl
    case h_2 => cases hl
    rename_i cells hget
    split at hl
    case isFalse => cases hl
    rename_i hb
    obtain ⟨rfl, hb2, hb3⟩ := hb
    have hs0 := hs
    obtain ⟨b, o, cs, e', ws, hm', hB, hh, hws, hcs, hni'⟩ := I.blk _ _ hget
    have hsrc : srcCells h i.size len (.sl id off i.size len cap op) = some ((cells.drop off).take (len * i.size)) := by
      have h1 : len * i.size ≤ cap * i.size := Nat.mul_le_mul_right _ hb3
      simp only [srcCells, hget, Nat.le_refl, true_and, show off + len * i.size ≤ cells.length from by omega, if_true]
    obtain ⟨⟨ov, hov, hol, hof⟩, _⟩ := src_ok (P := P) I hs0 hsrc
    cases hs with
    | @sl _ _ _ _ _ cap' b2 o2 s2 _ _ a hm2 hn hcap hop ha =>
    rw [hm'] at hm2
    simp only [Option.some.injEq, Ent.arr.injEq] at hm2
    obtain ⟨rfl, rfl, rfl, rfl⟩ := hm2
    split at hl
    · rename_i hfit
      simp only [Option.some.injEq] at hl; subst hl
      rcases Nat.eq_zero_or_pos cap' with hc0 | hc0
      · have hm0 : m = 0 := by omega
        subst hm0
        have : nv = [] := List.eq_nil_of_length_eq_zero (by simpa using hnl)
        subst this
        cases hnv
        have he : h.set id (some (.arr (setRange cells (off + len * i.size) []))) = h := by
          cases h with | mk get next ty =>
          simp only [AHeap.set, setRange, AHeap.mk.injEq, and_true]
          funext j
          split
          · rename_i hj; subst hj; exact hget.symm
          · rfl
        rw [he]
        exact ⟨_, g, append_fit hd hi hx hni hlen hnf (by omega) (by simp [storeCells]), I, Ext.refl h g, .sl hm' (by omega) hcap hop ha, fun _ _ _ _ _ _ h hid _ => by cases h; exact absurd (I.lt_id hget) (by omega)⟩
      · obtain ⟨ha1, ha2⟩ := ha hc0
        subst ha1
        have h1 : (len + m) * i.size ≤ cap * i.size := Nat.mul_le_mul_right _ hfit
        have h2 : (len + m) * i.size = len * i.size + m * i.size := Nat.add_mul _ _ _
        have hnvl := hnv.length
        obtain ⟨g', hr, I', E⟩ := I.setArr (P := P) (off := off + len * i.size) hget hnv hcell (by omega) hm'
        refine ⟨_, g', append_fit hd hi hx hni hlen hnf (show len + m ≤ cap' by omega) (w' := g'.w) (by rw [add_plain, Nat.add_assoc]; exact hr), I', E, ?_, fun _ _ _ _ _ _ h hid _ => by cases h; exact absurd (I.lt_id hget) (by omega)⟩
        exact VRel.mono E.le (.sl hm' (by omega) hcap hop (fun _ => ⟨rfl, ha2⟩))
    · rename_i hnfit
      split at hl
      case isFalse => cases hl
      rename_i hbb
      have grow : cap' < len + m → ∀ h0 : AHeap, Inv B h0 g → Ext h g h0 g →
          OkVM B h g ((Builtin.append_ #[sT, xT] ty #[.slice (some a) len cap', x']).run P g.w) (.sl h0.next 0 i.size (len + m) (len + m) true) (h0.new (.arr ((cells.drop off).take (len * i.size) ++ new))) e (.sl id off i.size len cap op) := by
        intro hgt h0 I0 E0
        obtain ⟨cp, w', hcp, hr, hp⟩ := append_grow (ty := ty) (sLen := len) (sCap := cap') (old := ov) hd hi hz hx hni hlen hnf' hof hgt hbb.1 hbb.2
        have hl2 : ov.length + nv.length = (len + m) * i.size := by rw [hol, hnl, ← Nat.add_mul]
        have T := I0.newArr hp (hov.append hnv) (fun j v hj => by
          have hjl : j < (ov ++ nv).length := by
            rcases Nat.lt_or_ge j (ov ++ nv).length with h1 | h1
            · exact h1
            · simp [List.getElem?_eq_none h1] at hj
          rw [← Array.getElem?_toList]
          simp only [Array.toList_append]
          rw [List.getElem?_append_left (by simpa using hjl)]
          exact hj) (by have := (hov.append hnv).length; simp only [List.length_append] at this; simp only [Array.size_append, List.size_toArray, List.length_append]; omega)
        refine ⟨_, ⟨w', _, _⟩, hr, T.1, E0.trans T.2, VRel.sl (o := 0) (s := (ov.toArray ++ nv.toArray ++ Builtin.zeroCells z.cells (cp - (len + m))).size) (addMu_self _ _ _) (Nat.le_refl _) hcp (fun h0 => by cases h0) (fun _ => ⟨rfl, ?_⟩), fun _ _ _ _ _ _ h _ _ => by cases h; exact ⟨_, _, _, addMu_self _ _ _⟩⟩
        simp only [Array.size_append, List.size_toArray, zeroCells_size, hzc]
        have h1 : (cp - (len + m)) * i.size + (len + m) * i.size = cp * i.size := by rw [← Nat.add_mul]; congr 1; omega
        omega
      split at hl
      · rename_i hop1
        split at hl
        case isFalse => cases hl
        rename_i hend
        simp only [Option.some.injEq] at hl; subst hl
        rcases Nat.lt_or_ge cap' (len + m) with hgt | hle
        · have D := I.drop id
          exact grow hgt (h.set id none) D.1 D.2
        · obtain ⟨ha1, ha2⟩ := ha (by omega)
          subst ha1
          have h1 : (len + m) * i.size ≤ cap' * i.size := Nat.mul_le_mul_right _ hle
          have h2 : (len + m) * i.size = len * i.size + m * i.size := Nat.add_mul _ _ _
          have h3 : len * i.size ≤ cap * i.size := Nat.mul_le_mul_right _ hb3
          have hnvl := hnv.length
          have hwl := hws.length
          obtain ⟨w', hr, u⟩ := run_storeCells (P := P) nv 0 g.w cs hh (o := o + off + len * i.size) (by simp only [Nat.add_zero]; omega) (isCells_new hnv hcell) (fun j _ _ => by omega)
          simp only [Nat.add_zero] at u
          have hb' : blkOf g.μ id = some b := by simp [blkOf, hm', Ent.block]
          have hcsz : (setRangeV cs.toList (o + off + len * i.size) nv).toArray.size = cs.size := by simp [setRangeV_length]
          have hwb : ((ws.drop off).take (len * i.size)).length = len * i.size := by simp; omega
          have T := I.turnTo (y := .arr ((cells.drop off).take (len * i.size) ++ new)) hget hb' u g.ι (fun _ _ _ h => h) (fun _ _ _ => rfl) (fun j v hj => by rw [hni'.1 j] at hj; cases hj)
            (.arr b (o + off) (setRangeV cs.toList (o + off + len * i.size) nv).toArray.size e') rfl
            ⟨b, o + off, _, e', (ws.drop off).take (len * i.size) ++ nv, by simp only [addMu, if_true], hB, u.at_, (((hws.drop off).take _).append hnv).mono (I.le_add _), fun j v hj => by
              simp only [List.getElem?_toArray]
              rcases Nat.lt_or_ge j (len * i.size) with h4 | h4
              · rw [List.getElem?_append_left (by omega), List.getElem?_take, if_pos h4] at hj
                rw [setRangeV_get _ _ _ _ (by omega)]
                have := hcs (off + j) v (by simpa using hj)
                rw [← Nat.add_assoc] at this
                simpa using this
              · rw [List.getElem?_append_right (by omega)] at hj
                rw [hwb] at hj
                have h5 : j - len * i.size < nv.length := by
                  rcases Nat.lt_or_ge (j - len * i.size) nv.length with h6 | h6
                  · exact h6
                  · simp [List.getElem?_eq_none h6] at hj
                have := setRangeV_in cs.toList (o + off + len * i.size) nv (j - len * i.size) v hj (by simp; omega)
                rw [← this]; congr 1; omega, hni'.1, by
              rw [hcsz]; simp only [List.length_append, List.length_take, List.length_drop]; omega⟩
          refine ⟨_, ⟨w', _, _⟩, append_fit hd hi hx hni hlen hnf hle (by rw [add_plain]; exact hr), T.1, T.2, VRel.sl (o := o + off) (s := (setRangeV cs.toList (o + off + len * i.size) nv).toArray.size) (addMu_self _ _ _) (Nat.le_refl _) hle (fun h0 => by cases h0) (fun _ => ⟨rfl, ?_⟩), fun _ _ _ _ _ _ h _ hs => by
            cases h
            obtain ⟨b3, o3, s3, h3⟩ := hs _ _ _ _ _ _ rfl
            rw [hm'] at h3
            cases h3
            exact ⟨_, _, _, addMu_self _ _ _⟩⟩
          rw [hcsz]; omega
      · rename_i hop1
        simp only [Option.some.injEq] at hl; subst hl
        have : cap' = cap := hop (by simpa using hop1)
        exact grow (by omega) h I (Ext.refl h g)
  · cases hl
end
end Go.Am



set_option linter.unusedSimpArgs false
namespace Go.Am
open Go
section
variable {P : Program} {g : G} {B : Nat} {h : AHeap}
theorem bytes_beq2 (s t : List UInt8) : ((⟨s.toArray⟩ : ByteArray) == ⟨t.toArray⟩) = (s == t) := by
  rw [beq_toListBytes, bytes_toList, bytes_toList]
theorem copy_ok (I : Inv B h g) {ts : Array TypeId} {tl : List TypeId} {args : List AVal} {as : Array Value} {ty : TypeId} {r : AVal × AHeap} (hts : ts.toList = tl) (hargs : VsRel g.ι g.μ args as.toList) (hl : acopy P h tl args = some r) :
    OkV B h g ((Builtin.copy_ ts ty as).run P g.w) r.1 r.2 := by
  obtain ⟨al⟩ := as
  unfold acopy at hl
  split at hl
  case h_2 => cases hl
  rename_i dT rest d x
  simp only [Option.bind_eq_bind, Option.bind_eq_some_iff] at hl
  obtain ⟨td, hd, hl⟩ := hl
  cases td <;> try (cases hl; done)
  case slice e =>
  simp only [Option.bind_eq_some_iff] at hl
  obtain ⟨i, hi, m, hm, dl, hdl, new, hnew, hl⟩ := hl
  cases hargs with
  | @cons _ d' _ _ hd' hs =>
  cases hs with
  | @cons _ x' _ _ hx' hs =>
  cases hs
  have h0 : ts[0]? = some dT := by rw [← Array.getElem?_toList, hts]; rfl
  have h1 : (⟨[d', x']⟩ : Array Value)[0]? = some d' := rfl
  have h2 : (⟨[d', x']⟩ : Array Value)[1]? = some x' := rfl
  obtain ⟨⟨nv, hnv, hnl, hnf⟩, hlen⟩ := src_ok (P := P) I hx' hnew
  have hlen := hlen m hm
  have hnf := hnf g.w rfl
  have run1 : ∀ base dLen dCap, d' = .slice base dLen dCap → dLen = dl → (Builtin.copy_ ts ty ⟨[d', x']⟩).run P g.w = ((match base with | some a => storeCells a nv | none => pure () : Sem Unit).run P g.w).andThen fun _ w' => .ok (goInt (Nat.min m dl)) w' := by
    intro base dLen dCap hd1 hd2
    subst hd1; subst hd2
    simp only [Builtin.copy_, h0, h1, h2, Sem.run_bind, run_underlying hd, Result.andThen_ok, hlen, run_sizeOf' hi, hnf]
    cases base <;> simp
  split at hl
  · simp only [Option.some.injEq] at hl; subst hl
    cases hd'
    simp only [lenA, Option.some.injEq] at hdl; subst hdl
    exact ⟨_, g, by rw [run1 _ _ _ rfl rfl]; rfl, I, Ext.refl h g, .int _ _⟩
  · rename_i id off es n cap op
    split at hl
    case h_2 => cases hl
    rename_i cells hget
    split at hl
    case isFalse => cases hl
    rename_i hc
    obtain ⟨rfl, hcell, hfit⟩ := hc
    simp only [Option.some.injEq] at hl; subst hl
    cases hd' with
    | @sl _ _ _ _ _ cap' b o s _ _ a hm' hn hcap hop ha =>
    simp only [lenA, Option.some.injEq] at hdl; subst hdl
    have hnvl := hnv.length
    rcases Nat.eq_zero_or_pos (Nat.min m n * i.size) with hz | hz
    · have : nv = [] := List.eq_nil_of_length_eq_zero (by omega)
      subst this
      cases hnv
      have he : h.set id (some (.arr (setRange cells off []))) = h := by
        cases h with | mk get next =>
        simp only [AHeap.set, setRange, AHeap.mk.injEq, and_true]
        funext j
        split
        · rename_i hj; subst hj; exact hget.symm
        · rfl
      rw [he]
      exact ⟨_, g, by rw [run1 _ _ _ rfl rfl]; simp [storeCells, goInt], I, Ext.refl h g, .int _ _⟩
    · have hn0 : 0 < cap' := by
        have : 0 < Nat.min m n := Nat.pos_of_mul_pos_right hz |> fun _ => by
          rcases Nat.eq_zero_or_pos (Nat.min m n) with h3 | h3
          · rw [h3] at hz; simp at hz
          · exact h3
        have : Nat.min m n ≤ n := Nat.min_le_right _ _
        omega
      obtain ⟨ha1, ha2⟩ := ha hn0
      subst ha1
      obtain ⟨g', hr, I', E⟩ := I.setArr (P := P) (off := off) hget hnv hcell (by omega) hm'
      exact ⟨_, g', by rw [run1 _ _ _ rfl rfl]; simp only [hr, Result.andThen_ok, goInt], I', E, .int _ _⟩
  · rename_i cells len cap
    split at hl
    case isFalse => cases hl
    rename_i hn0
    simp only [Option.some.injEq] at hl; subst hl
    cases hd' with
    | @lst _ vs _ cap' _ a hc hi' hs hn hcap =>
    simp only [lenA, Option.some.injEq] at hdl; subst hdl
    have : nv = [] := List.eq_nil_of_length_eq_zero (by rw [hnl, hn0]; simp)
    subst this
    refine ⟨_, g, by rw [run1 _ _ _ rfl rfl]; simp [storeCells, goInt]; rfl, I, Ext.refl h g, ?_⟩
    rw [hn0]; exact .int _ _
  · cases hl
theorem EsRel.length {ι : Imm} {μ : Mu} {xs : List (AVal × AVal × Nat)} {ys : List MapEntry} (h : EsRel ι μ xs ys) : xs.length = ys.length := by
  induction h with
  | nil => rfl
  | cons _ _ _ _ ih => simp [ih]
theorem EsRel.set {ι : Imm} {μ : Mu} {xs : List (AVal × AVal × Nat)} {ys : List MapEntry} (h : EsRel ι μ xs ys) (j : Nat) {k v : AVal} {n : Nat} {e : MapEntry} (hk : VRel ι μ k e.key) (hv : VRel ι μ v e.val) (hn : e.born = n) : EsRel ι μ (xs.set j (k, v, n)) (ys.set j e) := by
  induction h generalizing j with
  | nil => exact .nil
  | cons h1 h2 h3 hs ih => cases j with
    | zero => exact .cons hk hv hn hs
    | succ j => exact .cons h1 h2 h3 (ih j)
theorem EsRel.append {ι : Imm} {μ : Mu} {xs xs' : List (AVal × AVal × Nat)} {ys ys' : List MapEntry} (h : EsRel ι μ xs ys) (h' : EsRel ι μ xs' ys') : EsRel ι μ (xs ++ xs') (ys ++ ys') := by
  induction h with
  | nil => exact h'
  | cons h1 h2 h3 _ ih => exact .cons h1 h2 h3 ih
theorem EsRel.eraseIdx {ι : Imm} {μ : Mu} {xs : List (AVal × AVal × Nat)} {ys : List MapEntry} (h : EsRel ι μ xs ys) (j : Nat) : EsRel ι μ (xs.eraseIdx j) (ys.eraseIdx j) := by
  induction h generalizing j with
  | nil => exact .nil
  | cons h1 h2 h3 hs ih => cases j with
    | zero => exact hs
    | succ j => exact .cons h1 h2 h3 (ih j)
theorem sameKey_ok {ι : Imm} {μ : Mu} {kd : TypeDesc} {a b : AVal} {a' b' : Value} {r : Bool} (ha : VRel ι μ a a') (hb : VRel ι μ b b') (h : sameKeyA kd a b = some r) : Instr.sameNow kd a' b' = some r ∧ (r = true → a' = b') := by
  unfold sameKeyA at h
  split at h
  · split at h
    · rename_i hk; subst hk
      simp only [Option.some.injEq] at h; subst h
      cases ha; cases hb
      refine ⟨by simp [Instr.sameNow], fun he => by simp at he; rw [he]⟩
    · cases h
  · simp only [Option.some.injEq] at h; subst h
    cases ha; cases hb
    rename_i s t
    exact ⟨by simp only [Instr.sameNow, bytes_beq2], fun he => by simp at he; rw [he]⟩
  · simp only [Option.some.injEq] at h; subst h
    cases ha; cases hb
    refine ⟨by simp [Instr.sameNow], fun he => by simp at he; rw [he]⟩
  · cases h
theorem find_ok {ι : Imm} {μ : Mu} {kd : TypeDesc} {k : AVal} {k' : Value} (hk : VRel ι μ k k') {es : List (AVal × AVal × Nat)} {es' : List MapEntry} (hr : EsRel ι μ es es') : ∀ (i : Nat) (r : Option (Nat × AVal × Nat)), findA kd k es i = some r →
    (r = none → Instr.findNow kd k' es' i = some none) ∧ ∀ j v n, r = some (j, v, n) → ∃ e, i ≤ j ∧ es'[j - i]? = some e ∧ Instr.findNow kd k' es' i = some (some (j, e.val)) ∧ VRel ι μ v e.val ∧ e.born = n ∧ k' = e.key ∧ j - i < es.length := by
  induction hr with
  | nil =>
    intro i r h
    simp only [findA, Option.some.injEq] at h; subst h
    exact ⟨fun _ => rfl, fun _ _ _ h => by cases h⟩
  | @cons k1 v1 n1 e es es' h1 h2 h3 hs ih =>
    intro i r h
    simp only [findA, Option.bind_eq_bind, Option.bind_eq_some_iff] at h
    obtain ⟨b, hb, h⟩ := h
    obtain ⟨hsame, heq⟩ := sameKey_ok hk h1 hb
    cases b with
    | true =>
      simp only [if_true, Option.some.injEq] at h; subst h
      refine ⟨fun h => (by cases h), fun j v n hj => ?_⟩
      simp only [Option.some.injEq, Prod.mk.injEq] at hj
      obtain ⟨rfl, rfl, rfl⟩ := hj
      exact ⟨e, Nat.le_refl _, by simp, by simp [Instr.findNow, hsame], h2, h3, heq rfl, by simp⟩
    | false =>
      simp only [Bool.false_eq_true, if_false] at h
      obtain ⟨t1, t2⟩ := ih (i + 1) r h
      refine ⟨fun hn => by simp [Instr.findNow, hsame, t1 hn], fun j v n hj => ?_⟩
      obtain ⟨e', q1, q2, q3, q4, q5, q6, q7⟩ := t2 j v n hj
      refine ⟨e', by omega, ?_, by simp [Instr.findNow, hsame, q3], q4, q5, q6, by simp; omega⟩
      rw [show j - i = (j - (i + 1)) + 1 from by omega]; simpa using q2
theorem run_checkKey {empty : Bool} {kt : TypeId} {kd : TypeDesc} {k : AVal} {k' : Value} (hd : P.underlying kt = some kd) (hk : VRel g.ι g.μ k k') (hp : plainKey kd k = true) (w : World) : (Instr.checkKey empty 10000 kt k').run P w = .ok () w := by
  show (Instr.checkKey empty (9999 + 1) kt k').run P w = .ok () w
  generalize 9999 = d
  unfold plainKey at hp
  split at hp
  · cases hk; simp [Instr.checkKey, run_underlying hd]
  · cases hk; simp [Instr.checkKey, run_underlying hd]
  · cases hk; simp [Instr.checkKey, run_underlying hd]
  · cases hp
theorem lookup_ok (I : Inv B h g) {t : TypeId} {x k v : AVal} {x' k' : Value} {ok : Bool} (hx : VRel g.ι g.μ x x') (hk : VRel g.ι g.μ k k') (hl : alookup P h t x k ok = some v) :
    ∃ v', (Instr.lookup t x' k' ok).run P g.w = .ok v' g.w ∧ VRel g.ι g.μ v v' := by
  simp only [alookup, Option.bind_eq_bind, Option.bind_eq_some_iff] at hl
  obtain ⟨td, hd, hl⟩ := hl
  cases td <;> try (cases hl; done)
  case map kt et =>
  simp only [Option.bind_eq_some_iff] at hl
  obtain ⟨kd, hkd, hl⟩ := hl
  split at hl
  case isFalse => cases hl
  rename_i hp
  simp only [Option.bind_eq_some_iff] at hl
  obtain ⟨es, hes, r, hf, hl⟩ := hl
  have src : ∃ es' : Array MapEntry, EsRel g.ι g.μ es es'.toList ∧ ((x' = .map none ∧ es' = #[]) ∨ ∃ b c, x' = .map (some b) ∧ (getObj b).run P g.w = .ok (.map es' c) g.w) := by
    unfold mapEntries at hes
    split at hes
    · simp only [Option.some.injEq] at hes; subst hes
      cases hx
      exact ⟨#[], .nil, .inl ⟨rfl, rfl⟩⟩
    · split at hes
      · rename_i es0 clock0 hget
        simp only [Option.some.injEq] at hes; subst hes
        obtain ⟨b, es', hm, h0, hh, hr⟩ := I.blk _ _ hget
        cases hx with | map hm' =>
        rw [hm] at hm'; cases hm'
        exact ⟨es', hr, .inr ⟨b, clock0, rfl, by simp [getObj, Sem.run, hh]⟩⟩
      · cases hes
    · cases hes
  obtain ⟨es', hrel, hcase⟩ := src
  obtain ⟨f1, f2⟩ := find_ok hk hrel 0 r hf
  have fin : ∀ (q : Option (Nat × Value)), (Instr.findKey kt k' es'.toList).run P g.w = .ok q g.w → ∃ v1 ok1, VRel g.ι g.μ v (if ok then .tuple #[v1, .bool ok1] else v1) ∧ (q = none → ok1 = false ∧ (zeroValue et).run P g.w = .ok v1 g.w) ∧ (∀ j u, q = some (j, u) → ok1 = true ∧ u = v1) := by
    intro q hq
    simp only [Instr.findKey, Sem.run_bind, run_underlying hkd, Result.andThen_ok] at hq
    cases r with
    | some q0 =>
      obtain ⟨j, v0, n⟩ := q0
      simp only [Option.some.injEq] at hl; subst hl
      obtain ⟨e, q1, q2, q3, q4, q5, q6, q7⟩ := f2 j v0 n rfl
      simp only [q3, Sem.run_pure, Result.ok.injEq, and_true] at hq
      subst hq
      refine ⟨e.val, true, ?_, (fun h => by cases h), fun j u h => by simp only [Option.some.injEq, Prod.mk.injEq] at h; exact ⟨rfl, h.2.symm⟩⟩
      cases ok with
      | true => exact .tup (.cons q4 (.cons (.bool true) .nil))
      | false => exact q4
    | none =>
      simp only [Option.bind_eq_some_iff, Option.some.injEq] at hl
      obtain ⟨z, hz, rfl⟩ := hl
      obtain ⟨i, z', hi, hz', rfl⟩ := zeroA_some hz
      simp only [f1 rfl, Sem.run_pure, Result.ok.injEq, and_true] at hq
      subst hq
      refine ⟨z', false, ?_, fun _ => ⟨rfl, run_zeroValue hi hz' _⟩, fun j u h => by cases h⟩
      cases ok with
      | true => exact .tup (.cons (ofV_rel _) (.cons (.bool false) .nil))
      | false => exact ofV_rel _
  have hfk : ∃ q, (Instr.findKey kt k' es'.toList).run P g.w = .ok q g.w := by
    simp only [Instr.findKey, Sem.run_bind, run_underlying hkd, Result.andThen_ok]
    cases r with
    | some q0 => obtain ⟨j, v0, n⟩ := q0; obtain ⟨e, q1, q2, q3, _⟩ := f2 j v0 n rfl; exact ⟨_, by rw [q3]; rfl⟩
    | none => exact ⟨none, by rw [f1 rfl]; rfl⟩
  obtain ⟨q, hq⟩ := hfk
  obtain ⟨v1, ok1, hv1, hn1, hs1⟩ := fin q hq
  refine ⟨_, ?_, hv1⟩
  rcases hcase with ⟨rfl, rfl⟩ | ⟨b, c, rfl, hgo⟩
  · simp only [Instr.lookup, Sem.run_bind, run_underlying hd, Result.andThen_ok, Sem.run_pure, run_checkKey hkd hk hp, hq]
    cases q with
    | none => obtain ⟨rfl, hz⟩ := hn1 rfl; simp only [hz, Sem.run_bind, Result.andThen_ok, Sem.run_pure]
    | some q => obtain ⟨rfl, rfl⟩ := hs1 q.1 q.2 rfl; simp only [Sem.run_bind, Sem.run_pure, Result.andThen_ok]
  · simp only [Instr.lookup, Sem.run_bind, run_underlying hd, Result.andThen_ok, hgo, Sem.run_pure, run_checkKey hkd hk hp, hq]
    cases q with
    | none => obtain ⟨rfl, hz⟩ := hn1 rfl; simp only [hz, Sem.run_bind, Result.andThen_ok, Sem.run_pure]
    | some q => obtain ⟨rfl, rfl⟩ := hs1 q.1 q.2 rfl; simp only [Sem.run_bind, Sem.run_pure, Result.andThen_ok]
theorem run_setObj_map {w : World} {b : Nat} {es : Array MapEntry} {c : Nat} (hh : w.heap[b]? = some (.map es c)) (o : Obj) : ∃ w', (setObj b o).run P w = .ok () w' ∧ Upd w w' b o := by
  refine ⟨{ w with heap := w.heap.setIfInBounds b o }, by simp [setObj, Sem.run, hh], rfl, rfl, rfl, by simp, ?_, fun b' hb' => ?_⟩
  · have := lt_of_heap hh
    simp [Array.getElem?_setIfInBounds, this]
  · simp [Array.getElem?_setIfInBounds, Ne.symm hb']
theorem Inv.setMap (I : Inv B h g) {id b : Nat} {es : List (AVal × AVal × Nat)} {c : Nat} {w' : World} (hx : h.get id = some (.map es c)) (hm : g.μ id = some (.map b)) {es1 : List (AVal × AVal × Nat)} {es1' : Array MapEntry} {c1 : Nat}
    (u : Upd g.w w' b (.map es1' c1)) (hr : EsRel g.ι g.μ es1 es1'.toList) : Inv B (h.set id (some (.map es1 c1))) { g with w := w' } ∧ Ext h g (h.set id (some (.map es1 c1))) { g with w := w' } := by
  obtain ⟨b', es', hm', h0, hh, hes⟩ := I.blk _ _ hx
  rw [hm] at hm'; cases hm'
  refine I.turn hx (by simp [blkOf, hm, Ent.block]) u g.ι (fun _ _ _ h => h) (fun _ _ _ => rfl) (fun j v hj => ?_) (fun z hz => ?_)
  · have := I.imm _ _ _ hj
    simp [World.cell?, hh] at this
  · simp only [Option.some.injEq] at hz; subst hz
    exact ⟨b, es1', hm, h0, u.at_, hr⟩
theorem sameBits_refl {kd : TypeDesc} {k : AVal} {k' : Value} (hk : VRel g.ι g.μ k k') (hp : plainKey kd k = true) : Instr.sameBits 10000 k' k' = true := by
  show Instr.sameBits (9999 + 1) k' k' = true
  generalize 9999 = d
  unfold plainKey at hp
  split at hp
  · cases hk; simp [Instr.sameBits]
  · cases hk; simp [Instr.sameBits, bytes_beq2]
  · cases hk; simp [Instr.sameBits]
  · cases hp
theorem mapUpdate_ok (I : Inv B h g) {t : TypeId} {x k v : AVal} {x' k' v' : Value} {h' : AHeap} (hx : VRel g.ι g.μ x x') (hk : VRel g.ι g.μ k k') (hv : VRel g.ι g.μ v v') (hl : amapUpdate P h t x k v = some h') :
    OkU B h g ((Instr.mapUpdate t x' k' v').run P g.w) h' := by
  simp only [amapUpdate, Option.bind_eq_bind, Option.bind_eq_some_iff] at hl
  obtain ⟨td, hd, hl⟩ := hl
  cases td <;> try (cases hl; done)
  case map kt et =>
  simp only [Option.bind_eq_some_iff] at hl
  obtain ⟨kd, hkd, hl⟩ := hl
  cases x <;> try (cases hl; done)
  case map id =>
  simp only at hl
  split at hl
  case h_2 => cases hl
  rename_i es clock hget
  split at hl
  case isFalse => cases hl
  rename_i hp
  simp only [Bool.and_eq_true] at hp
  simp only [Option.bind_eq_some_iff] at hl
  obtain ⟨r, hf, hl⟩ := hl
  obtain ⟨b, es', hm, h0, hh, hes⟩ := I.blk _ _ hget
  cases hx with | map hm' =>
  rw [hm] at hm'; cases hm'
  obtain ⟨f1, f2⟩ := find_ok hk hes 0 r hf
  have hgo : (getObj b).run P g.w = .ok (.map es' clock) g.w := by simp [getObj, Sem.run, hh]
  simp only [Instr.mapUpdate, Sem.run_bind, run_underlying hd, Result.andThen_ok, hgo, run_checkKey hkd hk hp.1, Instr.findKey, run_underlying hkd]
  cases r with
  | some q =>
    obtain ⟨j, v0, n⟩ := q
    simp only [Option.some.injEq] at hl; subst hl
    obtain ⟨e, q1, q2, q3, q4, q5, q6, q7⟩ := f2 j v0 n rfl
    simp only [q3, Sem.run_pure, Result.andThen_ok, Sem.run_bind]
    simp only [Nat.sub_zero] at q2 q7
    have hej : es'[j]? = some e := by simpa using q2
    have hkeep : (Instr.keyThatStays ((((es'[j]?).map (·.key)) : Option Value).getD k') k').run P g.w = .ok k' g.w := by
      rw [hej]
      simp only [Option.map_some, Option.getD_some, Instr.keyThatStays]
      rw [← q6, sameBits_refl hk hp.1]; rfl
    rw [hkeep]
    simp only [Result.andThen_ok]
    obtain ⟨w', hr, u⟩ := run_setObj_map (P := P) hh (.map (es'.modify j fun e => { e with key := k', val := v' }) clock)
    have T := I.setMap hget hm u (es1 := es.set j (k, v, n)) (by
      have : (es'.modify j fun e => { e with key := k', val := v' }).toList = es'.toList.set j { e with key := k', val := v' } := by
        apply List.ext_getElem?
        intro a
        rw [Array.getElem?_toList, Array.getElem?_modify, List.getElem?_set]
        by_cases ha : j = a
        · subst ha
          have : j < es'.size := by
            rcases Nat.lt_or_ge j es'.size with h3 | h3
            · exact h3
            · simp [Array.getElem?_eq_none h3] at hej
          simp [this, hej]
          have := Array.getElem?_eq_getElem this
          rw [hej] at this; simp at this; rw [this]
        · simp [ha]
      rw [this]
      exact hes.set j hk hv q5)
    exact ⟨_, hr, T.1, T.2⟩
  | none =>
    simp only [Option.some.injEq] at hl; subst hl
    simp only [f1 rfl, Sem.run_pure, Result.andThen_ok]
    obtain ⟨w', hr, u⟩ := run_setObj_map (P := P) hh (.map (es'.push { key := k', val := v', born := clock }) (clock + 1))
    have T := I.setMap hget hm u (es1 := es ++ [(k, v, clock)]) (by
      simp only [Array.toList_push]
      exact hes.append (.cons hk hv rfl .nil))
    exact ⟨_, hr, T.1, T.2⟩
theorem delete_ok (I : Inv B h g) {ts : Array TypeId} {t ty : TypeId} {as : Array Value} {x k : AVal} {x' k' : Value} {h' : AHeap} (hts : ts[0]? = some t) (h1 : as[0]? = some x') (h2 : as[1]? = some k') (hx : VRel g.ι g.μ x x') (hk : VRel g.ι g.μ k k') (hl : adelete P h t x k = some h') :
    OkV B h g ((Builtin.delete_ ts ty as).run P g.w) .top h' := by
  simp only [adelete, Option.bind_eq_bind, Option.bind_eq_some_iff] at hl
  obtain ⟨td, hd, hl⟩ := hl
  cases td <;> try (cases hl; done)
  case map kt et =>
  simp only [Option.bind_eq_some_iff] at hl
  obtain ⟨kd, hkd, hl⟩ := hl
  split at hl
  case isFalse => cases hl
  rename_i hp
  simp only [Builtin.delete_, hts, h1, h2, Sem.run_bind, run_underlying hd, Result.andThen_ok]
  split at hl
  · simp only [Option.some.injEq] at hl; subst hl
    cases hx
    exact ⟨_, g, by simp only [Sem.run_bind, run_checkKey hkd hk hp, Result.andThen_ok]; rfl, I, Ext.refl h g, .top _⟩
  · split at hl
    case h_2 => cases hl
    rename_i es clock hget
    simp only [Option.bind_eq_some_iff] at hl
    obtain ⟨r, hf, hl⟩ := hl
    obtain ⟨b, es', hm, h0, hh, hes⟩ := I.blk _ _ hget
    cases hx with | map hm' =>
    rw [hm] at hm'; cases hm'
    obtain ⟨f1, f2⟩ := find_ok hk hes 0 r hf
    have hgo : (getObj b).run P g.w = .ok (.map es' clock) g.w := by simp [getObj, Sem.run, hh]
    simp only [Sem.run_bind, hgo, Result.andThen_ok, run_checkKey hkd hk hp, Instr.findKey, run_underlying hkd]
    cases r with
    | some q =>
      obtain ⟨j, v0, n⟩ := q
      simp only [Option.some.injEq] at hl; subst hl
      obtain ⟨e, q1, q2, q3, q4, q5, q6, q7⟩ := f2 j v0 n rfl
      simp only [q3, Sem.run_pure, Result.andThen_ok]
      obtain ⟨w', hr, u⟩ := run_setObj_map (P := P) hh (.map (es'.eraseIdxIfInBounds j) clock)
      have T := I.setMap hget hm u (es1 := es.eraseIdx j) (by
        have hj : j < es'.size := by have := hes.length; simp at this q7; omega
        have : (es'.eraseIdxIfInBounds j).toList = es'.toList.eraseIdx j := by
          simp [Array.eraseIdxIfInBounds, hj]
        rw [this]; exact hes.eraseIdx j)
      exact ⟨_, _, by rw [Sem.run_bind, hr]; rfl, T.1, T.2, .top _⟩
    | none =>
      simp only [Option.some.injEq] at hl; subst hl
      simp only [f1 rfl, Sem.run_pure, Result.andThen_ok]
      obtain ⟨w', hr, u⟩ := run_setObj_map (P := P) hh (.map es' clock)
      have T := I.setMap hget hm u hes
      rename_i id _
      have he : h.set id (some (.map es clock)) = h := by
        cases h with | mk get next =>
        simp only [AHeap.set, AHeap.mk.injEq, and_true]
        funext j
        split
        · rename_i hj; subst hj; exact hget.symm
        · rfl
      rw [he] at T
      exact ⟨_, _, by rw [Sem.run_bind, hr]; rfl, T.1, T.2, .top _⟩
  · cases hl
end
end Go.Am



set_option linter.unusedSimpArgs false
namespace Go.Am
open Go
section
variable {P : Program} {g : G} {B : Nat} {h : AHeap}
theorem zeroCells_eq (z : Array Value) (n : Nat) : Builtin.zeroCells z n = (Array.range (n * z.size)).map fun i => z[i % z.size]! := rfl
theorem clear_ok (I : Inv B h g) {ts : Array TypeId} {t ty : TypeId} {as : Array Value} {x : AVal} {x' : Value} {h' : AHeap} (hts : ts[0]? = some t) (has : as[0]? = some x') (hx : VRel g.ι g.μ x x') (hl : aclear P h t x = some h') :
    OkV B h g ((Builtin.clear_ ts ty as).run P g.w) .top h' := by
  simp only [aclear, Option.bind_eq_bind, Option.bind_eq_some_iff] at hl
  obtain ⟨d, hd, hl⟩ := hl
  simp only [Builtin.clear_, hts, has, Sem.run_bind, run_underlying hd, Result.andThen_ok]
  split at hl
  · simp only [Option.some.injEq] at hl; subst hl; cases hx
    exact ⟨.tuple #[], g, rfl, I, Ext.refl h g, .top _⟩
  · rename_i e id off es n cap op
    simp only [Option.bind_eq_some_iff] at hl
    obtain ⟨z, hz, i, hi, hl⟩ := hl
    split at hl
    case h_2 => cases hl
    rename_i cells hget
    obtain ⟨iz, z', hiz, hz', rfl⟩ := zeroA_some hz
    rw [hi] at hiz; cases hiz
    cases hx with
    | @sl _ _ _ _ _ cap' b o s _ _ a hm' hn hcap hop ha =>
    split at hl
    · rename_i hn0
      simp only [Option.some.injEq] at hl; subst hl; subst hn0
      exact ⟨.tuple #[], g, rfl, I, Ext.refl h g, .top _⟩
    · rename_i hn0
      split at hl
      case isFalse => cases hl
      rename_i hc
      obtain ⟨rfl, hzl, hzc, hfit⟩ := hc
      simp only [Option.some.injEq] at hl; subst hl
      obtain ⟨ha1, ha2⟩ := ha (by omega)
      subst ha1
      obtain ⟨k, rfl⟩ : ∃ k, n = k + 1 := ⟨n - 1, by omega⟩
      have hzr := ofV_cells (ι := g.ι) (μ := g.μ) z'
      have hzs : z'.cells.size = i.size := by have := hzr.length; simp at this; omega
      have hrel := zeros_rel hzr (k + 1) ((k + 1) * z'.cells.size) rfl
      have hall : (zerosA (ofV z').cells (k + 1)).all AVal.isCell = true := by
        rw [List.all_eq_true]
        intro x hx
        have aux : ∀ m, x ∈ zerosA (ofV z').cells m → x ∈ (ofV z').cells := by
          intro m; induction m with
          | zero => intro h; simp [zerosA] at h
          | succ m ih => intro h; simp only [zerosA, List.mem_append] at h; exact h.elim (fun h => h) ih
        exact List.all_eq_true.1 hzc x (aux _ hx)
      obtain ⟨g', hr, I', E⟩ := I.setArr (P := P) (off := off) hget hrel hall (by rw [zerosA_length, hzl]; exact hfit) hm'
      refine ⟨.tuple #[], g', ?_, I', E, .top _⟩
      simp only [Sem.run_bind, run_zeroValue hi hz', Result.andThen_ok]
      rw [zeroCells_eq, hr]
      rfl
  · simp only [Option.some.injEq] at hl; subst hl; cases hx
    exact ⟨.tuple #[], g, rfl, I, Ext.refl h g, .top _⟩
  · rename_i id
    split at hl
    case h_2 => cases hl
    rename_i es clock hget
    simp only [Option.some.injEq] at hl; subst hl
    obtain ⟨b, es', hm, h0, hh, hes⟩ := I.blk _ _ hget
    cases hx with | map hm' =>
    rw [hm] at hm'; cases hm'
    have hgo : (getObj b).run P g.w = .ok (.map es' clock) g.w := by simp [getObj, Sem.run, hh]
    obtain ⟨w', hr, u⟩ := run_setObj_map (P := P) hh (.map #[] clock)
    have T := I.setMap hget hm u (es1 := []) .nil
    exact ⟨.tuple #[], _, by simp only [Sem.run_bind, hgo, Result.andThen_ok, hr]; rfl, T.1, T.2, .top _⟩
  · cases hl
theorem max2_ok {hi : Bool} {x y v : AVal} {x' y' : Value} (hx : VRel g.ι g.μ x x') (hy : VRel g.ι g.μ y y') (hl : max2A hi x y = some v) : ∃ v', ((if hi then Builtin.max2 x' y' else Builtin.min2 x' y')).run P g.w = .ok v' g.w ∧ VRel g.ι g.μ v v' := by
  unfold max2A at hl
  split at hl
  · simp only [Option.some.injEq] at hl; subst hl
    cases hx; cases hy
    cases hi
    · exact ⟨_, rfl, .int _ _⟩
    · exact ⟨_, rfl, .int _ _⟩
  · cases hl
theorem foldMax_ok {hi : Bool} {rest : List AVal} : ∀ {rest' : List Value} {x v : AVal} {x' : Value}, VRel g.ι g.μ x x' → VsRel g.ι g.μ rest rest' → foldMax hi x rest = some v →
    ∃ v', (rest'.foldlM (fun a b => if hi then Builtin.max2 a b else Builtin.min2 a b) x').run P g.w = .ok v' g.w ∧ VRel g.ι g.μ v v' := by
  induction rest with
  | nil => intro rest' x v x' hx hr hl; cases hr; simp only [foldMax, Option.some.injEq] at hl; subst hl; exact ⟨_, rfl, hx⟩
  | cons y rest ih =>
    intro rest' x v x' hx hr hl
    cases hr with
    | cons hy hs =>
      simp only [foldMax, Option.bind_eq_bind, Option.bind_eq_some_iff] at hl
      obtain ⟨z, hz, hl⟩ := hl
      obtain ⟨z', hrun, hz'⟩ := max2_ok (P := P) hx hy hz
      obtain ⟨v', hrun2, hv⟩ := ih hz' hs hl
      exact ⟨v', by simp only [List.foldlM_cons, Sem.run_bind, hrun, Result.andThen_ok, hrun2], hv⟩
theorem rowAt_mono {p : Program} {fits : TypeId → Bool} (d : Nat) (e : TypeId) (c c' off n : Nat) (hc : c ≤ c') (h : rowAt p fits d e c off n = true) : rowAt p fits d e c' off n = true := by
  cases d with
  | zero => simp [rowAt] at h
  | succ d =>
    simp only [rowAt] at h ⊢
    split at h
    · cases h
    · rename_i hs
      rw [if_neg hs]
      simp only [Bool.or_eq_true, Bool.and_eq_true, decide_eq_true_eq] at h ⊢
      rcases h with ⟨⟨h1, h2⟩, h3⟩ | ⟨h1, h2⟩
      · exact .inl ⟨⟨h1, by omega⟩, h3⟩
      · exact .inr ⟨by omega, h2⟩
theorem liesAt_mono {p : Program} : ∀ (d : Nat) (e : TypeId) (c c' off : Nat) (u : TypeId) (n : Nat), c ≤ c' → liesAt p d e c off u n = true → liesAt p d e c' off u n = true := by
  intro d
  induction d with
  | zero => intro e c c' off u n _ h; simp [liesAt] at h
  | succ d ih =>
    intro e c c' off u n hc h
    simp only [liesAt, Bool.or_eq_true] at h ⊢
    rcases h with h | h
    · exact .inl (rowAt_mono _ _ _ _ _ _ hc h)
    · refine .inr ?_
      split at h
      · exact ih _ _ _ _ _ _ hc h
      · cases h
theorem liesAt_bytes_off {e : TypeId} (hc : P.cellsOf e = 1) (count off n : Nat) (hn : off + n ≤ count) : liesAt P P.depth e count off e n = true := by
  have hd : P.depth = (2 * (P.types.size + Made.depth) + 1) + 1 := rfl
  rw [hd]
  simp only [liesAt, Bool.or_eq_true]
  left
  rw [hd]
  simp [rowAt, hc, hn, sameLayout, Nat.mod_one]
theorem run_loadBytesI (w : World) : ∀ (xs : List Int) (a : Addr) (acc : ByteArray), (∀ j x, xs[j]? = some x → w.cell? (a.add j) = some (.int .u8 x)) →
    (loadBytes a acc xs.length).run P w = .ok ⟨acc.data ++ (xs.map fun n => UInt8.ofNat n.toNat).toArray⟩ w
  | [], a, acc, _ => by simp [loadBytes]
  | x :: l, a, acc, h => by
    have h0 : w.cell? a = some (.int .u8 x) := by
      have := h 0 x rfl
      simpa [Addr.add] using this
    have ih := run_loadBytesI w l (a.add 1) (acc.push x.toNat.toUInt8) (fun j y hy => by
      have := h (j + 1) y (by simpa using hy)
      have e : (a.add 1).add j = a.add (j + 1) := by
        unfold Addr.add
        by_cases hj : j = 0
        · subst hj; simp
        · simp [hj]; omega
      rw [e]; exact this)
    simp only [List.length_cons, loadBytes, Sem.run_bind, run_load, h0, Result.andThen]
    rw [ih]
    congr 1
    apply ByteArray.ext
    simp [ByteArray.push]
theorem run_unsafeString_at (w : World) (pt it ty e : TypeId) (hp : P.underlying pt = some (.pointer e)) (hc : P.cellsOf e = 1) (b o cells : Nat) (hsh : w.shape? b = some (e, cells)) (l : List Int) (h0 : l ≠ []) (hn : o + l.length ≤ cells) (h63 : l.length ≤ 9223372036854775807)
    (hcell : ∀ j x, l[j]? = some x → w.cell? ((⟨b, o, none⟩ : Addr).add j) = some (.int .u8 x)) :
    (Builtin.unsafeString_ #[pt, it] ty #[.pointer (some ⟨b, o, none⟩), .int .i64 l.length]).run P w = .ok (.string ⟨(l.map fun n => UInt8.ofNat n.toNat).toArray⟩) (w.freeze ⟨b, o, none⟩ l.length) := by
  have hl : l.length ≠ 0 := by simpa using h0
  have hlb := run_loadBytesI (P := P) w l ⟨b, o, none⟩ .empty hcell
  have hlies := liesAt_bytes_off (P := P) hc (cells / P.cellsOf e) o l.length (by rw [hc]; simpa using hn)
  have h63' : ¬ (9223372036854775807 : Int) < (l.length : Int) := by omega
  have hdef : Builtin.unsafeString_ #[pt, it] ty #[.pointer (some ⟨b, o, none⟩), .int .i64 l.length] =
      (do
        let n ← asInt (.int .i64 l.length)
        if n < 0 then runtimePanic (.error "unsafe.String: len out of range")
        if n > IntKind.i64.max then unsupported (.unsafePointer "String: a length above the largest int")
        if n = 0 then pure (.string .empty)
        else if ← variablesAt ⟨b, o, none⟩ (← elemOf pt) n.toNat then do
          let s ← loadBytes ⟨b, o, none⟩ .empty n.toNat
          freeze ⟨b, o, none⟩ n.toNat
          pure (.string s)
        else unsupported (.unsafePointer "String: not so many bytes at ptr")) := rfl
  rw [hdef]
  have hmax : IntKind.i64.max = 9223372036854775807 := rfl
  have hneg : ¬ (l.length : Int) < 0 := by omega
  simp [asInt, asIntOf, hmax, h63', hneg, hl, variablesAt, hsh, elemOf, run_underlying hp, hlies, hlb]
theorem bytesOf_vals {cs : List AVal} : ∀ {vs : List Value} {bs : List UInt8}, VsRel g.ι g.μ cs vs → aconvert.bytesOf cs = some bs → ∃ xs : List Int, vs = xs.map (Value.int .u8) ∧ bs = xs.map fun n => UInt8.ofNat n.toNat := by
  induction cs with
  | nil => intro vs bs hv hb; cases hv; simp only [aconvert.bytesOf, Option.some.injEq] at hb; subst hb; exact ⟨[], rfl, rfl⟩
  | cons c cs ih =>
    intro vs bs hv hb
    cases hv with
    | cons h1 hs =>
      unfold aconvert.bytesOf at hb
      split at hb
      · rename_i heq; cases heq
      · rename_i m r heq
        cases heq
        simp only [Option.bind_eq_bind, Option.bind_eq_some_iff, Option.some.injEq] at hb
        obtain ⟨bs', hb', rfl⟩ := hb
        cases h1
        obtain ⟨xs, rfl, rfl⟩ := ih hs hb'
        exact ⟨m :: xs, rfl, rfl⟩
      · cases hb
theorem convert_ok (I : Inv B h g) {src dst : TypeId} {x : AVal} {x' : Value} {r : AVal × AHeap} (hx : VRel g.ι g.μ x x') (hl : aconvert P h src dst x = some r) : OkV B h g ((convert src dst x').run P g.w) r.1 r.2 := by
  simp only [aconvert, Option.bind_eq_bind, Option.bind_eq_some_iff] at hl
  obtain ⟨s, hs, d, hd, hl⟩ := hl
  split at hl
  · simp only [Option.some.injEq] at hl; subst hl; cases hx
    exact ⟨_, g, by simp [convert, run_underlying hs, run_underlying hd, Conv.intToInt], I, Ext.refl h g, .int _ _⟩
  · simp only [Option.some.injEq] at hl; subst hl; cases hx
    refine ⟨_, g, ?_, I, Ext.refl h g, .str _⟩
    cases s <;> simp [convert, run_underlying hs, run_underlying hd]
  · rename_i t id off
    simp only [Option.bind_eq_some_iff] at hl
    obtain ⟨i, hi, hl⟩ := hl
    split at hl
    case h_2 => cases hl
    rename_i cells hget
    split at hl
    case isFalse => cases hl
    rename_i hc
    simp only [Option.some.injEq] at hl; subst hl
    cases hx with
    | @ptr _ _ b o s e hm =>
    obtain ⟨b', o', cs, e', ws, hm', hB, hh, hws, hcs, hni⟩ := I.blk _ _ hget
    rw [hm'] at hm
    simp only [Option.some.injEq, Ent.arr.injEq] at hm
    obtain ⟨rfl, rfl, rfl, rfl⟩ := hm
    exact ⟨_, g, Lib.run_to_unsafe (e := e') (cells := cs.size) g.w ⟨b', o' + off, none⟩ hs hd hi hc.2 (by simp [World.shape?, hh]) (show o' + off < cs.size from by have := hni.2; omega), I, Ext.refl h g, .ptr hm'⟩
  · rename_i u id off
    simp only [Option.bind_eq_some_iff] at hl
    obtain ⟨i, hi, hl⟩ := hl
    split at hl
    case h_2 => cases hl
    rename_i cells t hget hty
    split at hl
    case isFalse => cases hl
    rename_i hc
    simp only [Option.some.injEq] at hl; subst hl
    cases hx with
    | @ptr _ _ b o s e hm =>
    obtain ⟨b', o', cs, e', ws, hm', hB, hh, hws, hcs, hni⟩ := I.blk _ _ hget
    obtain ⟨b2, o2, s2, hm2, hz⟩ := I.ty _ _ _ hty
    rw [hm'] at hm hm2
    simp only [Option.some.injEq, Ent.arr.injEq] at hm hm2
    obtain ⟨rfl, rfl, rfl, rfl⟩ := hm
    obtain ⟨rfl, rfl, rfl, rfl⟩ := hm2
    have ho : o' = 0 := hz rfl
    subst ho
    refine ⟨_, g, Lib.run_from_unsafe (e := e') (cells := cs.size) g.w ⟨b', 0 + off, none⟩ hs hd hi (by simp [World.shape?, hh]) ?_, I, Ext.refl h g, .ptr hm'⟩
    show liesAt P P.depth e' (cs.size / P.cellsOf e') (0 + off) u 1 = true
    rw [Nat.zero_add]
    exact liesAt_mono _ _ _ _ _ _ _ (Nat.div_le_div_right (by have := hni.2; omega)) hc
  · rename_i e b
    simp only [Option.bind_eq_some_iff] at hl
    obtain ⟨ed, he, hl⟩ := hl
    split at hl
    case h_2 => cases hl
    split at hl
    case isFalse => cases hl
    rename_i hb
    simp only [Option.some.injEq] at hl; subst hl
    cases hx
    have hcap : b.length ≤ (Question.appendCap b.length 0 e).cut (g.w.tape g.w.drawn (.appendCap b.length 0 e)) := by simp only [Question.cut]; omega
    generalize hC : (Question.appendCap b.length 0 e).cut (g.w.tape g.w.drawn (.appendCap b.length 0 e)) = cap at hcap
    let cs : Array Value := ((⟨b.toArray⟩ : ByteArray).data.map fun c => (.int .u8 c.toNat : Value)) ++ Array.replicate (cap - b.length) (.int .u8 0)
    have hcs : cs.size = cap := by simp [cs]; omega
    have hrun : (convert src dst (.string ⟨b.toArray⟩)).run P g.w = .ok (.slice (some ⟨g.w.heap.size, 0, none⟩) b.length cap) ({ g.w with heap := g.w.heap.push (.cells cs e), drawn := g.w.drawn + 1 }.freeze ⟨g.w.heap.size, cs.size, none⟩ 1) := by
      have h1 : (convert src dst (.string ⟨b.toArray⟩)).run P g.w = (Conv.stringToBytes e ⟨b.toArray⟩).run P g.w := by
        cases s <;> simp [convert, run_underlying hs, run_underlying hd, run_underlying he]
      rw [h1]
      simp only [Conv.stringToBytes, Sem.run_bind, run_choose, Question.forced, Bool.false_eq_true, if_false, Result.andThen_ok, run_newRow, bytes_size, hC, markStringish, run_shape]
      have h2 : (({ heap := g.w.heap.push (.cells cs e), tape := g.w.tape, drawn := g.w.drawn + 1, os := g.w.os, output := g.w.output } : World)).shape? g.w.heap.size = some (e, cs.size) := by simp [World.shape?]
      rw [h2]
      simp only [run_freeze, Result.andThen_ok, Sem.run_pure]
      rfl
    have hp : Psh g.w ({ g.w with heap := g.w.heap.push (.cells cs e), drawn := g.w.drawn + 1 }.freeze ⟨g.w.heap.size, cs.size, none⟩ 1) (.cells cs e (cs.size, cs.size + 1)) := by
      refine ⟨rfl, rfl, rfl, ?_⟩
      simp only [World.freeze, Nat.one_ne_zero, if_false]
      apply Array.ext_getElem?
      intro i
      rw [Array.getElem?_modify, Array.getElem?_push, Array.getElem?_push]
      by_cases hi : i = g.w.heap.size
      · subst hi; simp
      · simp [hi, Ne.symm hi]
    obtain ⟨ι', I', E, hι⟩ := I.freshTok hp b.length 1 (fun j _ h2 h3 => by omega)
    refine ⟨_, ⟨_, ι', _⟩, hrun, I', E, ?_⟩
    refine VRel.lst (vs := b.map fun c => .int .u8 c.toNat) (VsRel.map_of _ fun _ _ => .int _ _) (fun j v hj => ?_) (fun _ => rfl) hcap ⟨g.w.heap.size, b.length, cs.size, 1, by simp only [addMu, if_true], fun hlt => ⟨by simp, by simp, by rw [hcs]; omega⟩⟩
    show ι' g.w.heap.size (0 + j) = some v
    have hjl : j < b.length := by
      rcases Nat.lt_or_ge j b.length with h1 | h1
      · exact h1
      · simp [List.getElem?_eq_none h1] at hj
    rw [Nat.zero_add, hι j hjl]
    simp only [cs]
    rw [Array.getElem?_append_left (by simpa using hjl)]
    simpa using hj
  · rename_i e hns
    simp only [Option.bind_eq_some_iff] at hl
    obtain ⟨ed, he, hl⟩ := hl
    split at hl
    case h_2 => cases hl
    simp only [Option.bind_eq_some_iff] at hl
    obtain ⟨n, hn, cs, hcs, bs, hbs, hl⟩ := hl
    have hbytes : ∀ (cs : List AVal) (vs : List Value) (bs : List UInt8), VsRel g.ι g.μ cs vs → aconvert.bytesOf cs = some bs → ∃ xs : List Int, vs = xs.map (Value.int .u8) ∧ bs = xs.map fun n => UInt8.ofNat n.toNat := by
      intro cs
      induction cs with
      | nil => intro vs bs hv hb; cases hv; simp only [aconvert.bytesOf, Option.some.injEq] at hb; subst hb; exact ⟨[], rfl, rfl⟩
      | cons c cs ih =>
        intro vs bs hv hb
        cases hv with
        | cons h1 hs =>
          unfold aconvert.bytesOf at hb
          split at hb
          · rename_i heq; cases heq
          · rename_i m r heq
            cases heq
            simp only [Option.bind_eq_bind, Option.bind_eq_some_iff, Option.some.injEq] at hb
            obtain ⟨bs', hb', rfl⟩ := hb
            cases h1
            obtain ⟨xs, rfl, rfl⟩ := ih _ _ hs hb'
            exact ⟨m :: xs, rfl, rfl⟩
          · cases hb
    simp only [Option.some.injEq] at hl; subst hl
    have fin : ∀ (b o len cap : Nat) (vs : List Value), VsRel g.ι g.μ cs vs → vs.length = len → CellsAt g.w b o vs → OkV B h g ((convert src dst (.slice (some ⟨b, o, none⟩) len cap)).run P g.w) (.str bs) h := by
      intro b o len cap vs hvs hvl hca
      obtain ⟨xs, rfl, rfl⟩ := hbytes cs vs bs hvs hbs
      refine ⟨_, g, run_convert_bytes_arg g.w src e hs he b o len cap xs (by simpa using hvl) (fun i hi => ?_) dst hd, I, Ext.refl h g, .str _⟩
      have hix : i < xs.length := by simp at hvl; omega
      refine hca i _ ?_
      simp [hix, List.getD_eq_getElem?_getD]
    have fin0 : ∀ (a : Addr) (cap : Nat), cs = [] → OkV B h g ((convert src dst (.slice (some a) 0 cap)).run P g.w) (.str bs) h := by
      intro a cap hc0
      subst hc0
      simp only [aconvert.bytesOf, Option.some.injEq] at hbs; subst hbs
      refine ⟨.string ⟨#[]⟩, g, ?_, I, Ext.refl h g, .str []⟩
      simp [convert, run_underlying hs, run_underlying hd, run_underlying he, Conv.bytesToString, loadCells, loadCellsFrom]
      rfl
    cases hx <;> (try (simp only [srcCells] at hcs; cases hcs; done))
    case str s0 => exact absurd rfl (hns s0)
    case nilSl =>
      simp only [lenA, Option.some.injEq] at hn; subst hn
      simp only [srcCells, if_true, Option.some.injEq] at hcs; subst hcs
      simp only [aconvert.bytesOf, Option.some.injEq] at hbs; subst hbs
      exact ⟨_, g, run_convert_bytes_nil g.w src e hs he 0 0 dst hd, I, Ext.refl h g, .str []⟩
    case lst cells ws len cap' cap a hc hi hsp hn' hcap =>
      simp only [lenA, Option.some.injEq] at hn; subst hn
      simp only [srcCells, Nat.le_refl, true_and, Nat.mul_one] at hcs
      split at hcs
      case isFalse => cases hcs
      rename_i hlen
      simp only [Option.some.injEq] at hcs; subst hcs
      rcases Nat.eq_zero_or_pos len with h0 | h0
      · subst h0; exact fin0 a cap' (by simp)
      · obtain ⟨b, o, sp⟩ := a
        have : sp = none := hsp h0
        subst this
        have hcl := hc.length
        exact fin b o len cap' (ws.take len) (hc.take len) (by simp; omega) ((hi.at_ I).take len)
    case sl id off es len cap cap' b o s e op a hm hn' hcap hop ha =>
      simp only [srcCells] at hcs
      split at hcs
      case h_2 => cases hcs
      rename_i cells hget
      split at hcs
      case isFalse => cases hcs
      rename_i hcond
      simp only [Option.some.injEq] at hcs; subst hcs
      obtain ⟨rfl, hnl, hfit⟩ := hcond
      simp only [lenA, Option.some.injEq] at hn; subst hn
      obtain ⟨b', o', ccs, e', ws, hm', h0, hh, hws, hcs', hni⟩ := I.blk _ _ hget
      rw [hm'] at hm
      simp only [Option.some.injEq, Ent.arr.injEq] at hm
      obtain ⟨rfl, rfl, rfl, rfl⟩ := hm
      simp only [Nat.mul_one] at *
      rcases Nat.eq_zero_or_pos len with h0 | h0
      · subst h0; exact fin0 a cap' (by simp)
      · obtain ⟨ha1, ha2⟩ := ha (by omega)
        subst ha1
        have hca : CellsAt g.w b' (o' + off) (ws.drop off) := fun j v hj => by
          rw [cell?_of_heap hh, Nat.add_assoc]; exact hcs' (off + j) v (by simpa using hj)
        have hwl := hws.length
        exact fin b' (o' + off) len cap' ((ws.drop off).take len) ((hws.drop off).take len) (by simp; omega) (hca.take len)
  · cases hl
theorem makeSlice_run {t e : TypeId} {i : TypeInfo} {z : Value} {k k' : IntKind} {n m : Int} {w : World} (hd : P.underlying t = some (.slice e)) (hi : P.info? e = some i) (hz : i.zero = some z) (hzs : z.cells.size = i.size) (h0 : 0 ≤ n) (h1 : n ≤ m) (h2 : m ≤ 9223372036854775807) (hb : i.bytes * m.toNat ≤ 2 ^ 47) (hs : i.size ≠ 0) :
    ∃ cs, (Instr.makeSlice t (.int k n) (.int k' m)).run P w = .ok (.slice (some ⟨w.heap.size, 0, none⟩) n.toNat m.toNat) { w with heap := w.heap.push (.cells cs e) } ∧ cs = (Array.range (m.toNat * i.size)).map (fun j => z.cells[j % z.cells.size]!) := by
  refine ⟨(Array.range (m.toNat * i.size)).map (fun j => z.cells[j % z.cells.size]!), ?_, rfl⟩
  have w1 : IntKind.i64.wrap n = n := by rw [IntKind.wrap_i64]; omega
  have w2 : IntKind.i64.wrap m = m := by rw [IntKind.wrap_i64]; omega
  have hbm : ¬ ((i.bytes : Int) * m > 2 ^ 48) := by
    have : ((i.bytes * m.toNat : Nat) : Int) = (i.bytes : Int) * m := by
      rw [Int.natCast_mul, Int.toNat_of_nonneg (by omega)]
    omega
  simp only [Instr.makeSlice, Sem.run_bind, run_underlying hd, Result.andThen_ok, asInt, asIntOf, Sem.run_pure, run_typeInfo' hi, w1, w2]
  have c1 : (decide (m < 0) || decide ((i.bytes : Int) * m > 2 ^ 48)) = false := by simp; omega
  have c2 : (decide (n < 0)) = false := by simp; omega
  have c3 : (decide (n > m)) = false := by simp; omega
  simp only [c1, c2, c3, Bool.or_self, Bool.false_eq_true, if_false, Sem.run_bind, run_askRoom, Result.andThen_ok, run_sizeOf' hi]
  by_cases hm0 : m.toNat * i.size = 0
  · have hmz : m.toNat = 0 := (Nat.mul_eq_zero.1 hm0).resolve_right hs
    have hz1 : ∀ f : Nat → Value, (Array.range 0).map f = #[] := fun f => by simp
    simp only [hm0, if_true, Sem.run_bind, Sem.run_pure, Result.andThen_ok, hz1, run_newRow]
  · simp only [hm0, if_false, Sem.run_bind, run_zeroValue hi hz, Result.andThen_ok, Sem.run_pure, run_newRow]
theorem makeSlice_ok (I : Inv B h g) {t e : TypeId} {i : TypeInfo} {z : Value} {k k' : IntKind} {n m : Int} (hd : P.underlying t = some (.slice e)) (hi : P.info? e = some i) (hz : i.zero = some z) (hzs : (ofV z).cells.length = i.size) (h0 : 0 ≤ n) (h1 : n ≤ m) (h2 : m ≤ 9223372036854775807) (hb : i.bytes * m.toNat ≤ 2 ^ 47) (hs : i.size ≠ 0) :
    (n = 0 → OkV B h g ((Instr.makeSlice t (.int k n) (.int k' m)).run P g.w) (.lst [] 0 (.tok h.next)) (h.new (.tok i.size))) ∧
    OkV B h g ((Instr.makeSlice t (.int k n) (.int k' m)).run P g.w) (.sl h.next 0 i.size n.toNat m.toNat false) (h.new (.arr (zerosA (ofV z).cells m.toNat))) := by
  have hzr := ofV_cells (ι := g.ι) (μ := g.μ) z
  have hzc : z.cells.size = i.size := by have := hzr.length; simp at this; omega
  obtain ⟨cs, hr, hcs⟩ := makeSlice_run (k := k) (k' := k') (w := g.w) hd hi hz hzc h0 h1 h2 hb hs
  have hsz : cs.size = m.toNat * i.size := by rw [hcs]; simp
  constructor
  · intro hn
    subst hn
    obtain ⟨ι', I', E, hι⟩ := I.freshTok (w' := { g.w with heap := g.w.heap.push (.cells cs e) }) (cs := cs) (e := e) (lo := 0) (hi := 0) ⟨rfl, rfl, rfl, rfl⟩ 0 i.size (fun j _ _ => by omega)
    refine ⟨_, ⟨_, ι', _⟩, hr, I', E, ?_⟩
    exact VRel.lst .nil (fun j v hj => by simp at hj) (fun _ => rfl) (Nat.zero_le _) ⟨g.w.heap.size, 0, cs.size, i.size, by simp only [addMu, if_true], fun _ => ⟨Nat.le_refl _, rfl, by rw [hsz]; simp⟩⟩
  · have hrel := zeros_rel hzr m.toNat (m.toNat * i.size) (by rw [hzc])
    rw [← hcs] at hrel
    have T := I.newArr (w' := { g.w with heap := g.w.heap.push (.cells cs e) }) (cs := cs) (e := e) ⟨rfl, rfl, rfl, rfl⟩ hrel (fun j v hj => by simpa using hj) (by have := hrel.length; simp at this; omega)
    exact ⟨_, _, hr, T.1, T.2, VRel.sl (b := g.w.heap.size) (o := 0) (s := cs.size) (addMu_self _ _ _) (by omega) (Nat.le_refl _) (fun _ => rfl) (fun _ => ⟨rfl, by rw [hsz]; omega⟩)⟩
def OkOp (B : Nat) (h : AHeap) (g : G) (r : Result Next) (v : AVal) (h' : AHeap) : Prop :=
  ∃ v' g' nx, r = .ok nx g'.w ∧ (nx = .value v' ∨ (nx = .skip ∧ v' = undef)) ∧ Inv B h' g' ∧ Ext h g h' g' ∧ VRel g'.ι g'.μ v v'
theorem OkOp.ofV {s : Sem Value} {v : AVal} {h' : AHeap} (hs : OkV B h g (s.run P g.w) v h') : OkOp B h g ((do pure (.value (← s)) : Sem Next).run P g.w) v h' := by
  obtain ⟨v', g', hr, I, E, hv⟩ := hs
  exact ⟨v', g', .value v', by simp only [Sem.run_bind, hr, Result.andThen_ok, Sem.run_pure], .inl rfl, I, E, hv⟩
theorem OkOp.ofU {s : Sem Unit} {h' : AHeap} (hs : OkU B h g (s.run P g.w) h') : OkOp B h g ((do s; pure .skip : Sem Next).run P g.w) .top h' := by
  obtain ⟨g', hr, I, E⟩ := hs
  exact ⟨undef, g', .skip, by simp only [Sem.run_bind, hr, Result.andThen_ok, Sem.run_pure], .inr ⟨rfl, rfl⟩, I, E, .top _⟩
theorem OkV.ofP (I : Inv B h g) {r : Result Value} {v : AVal} (hs : ∃ v', r = .ok v' g.w ∧ VRel g.ι g.μ v v') : OkV B h g r v h := by
  obtain ⟨v', hr, hv⟩ := hs
  exact ⟨v', g, hr, I, Ext.refl h g, hv⟩
theorem parts_rel {ev : Operand → AVal} {ρ : Operand → Value} (hev : ∀ x, VRel g.ι g.μ (ev x) (ρ x)) (parts : Array (Nat × Operand)) : PsRel g.ι g.μ (parts.toList.map fun p => (p.1, ev p.2)) (parts.map fun (i, x) => (i, ρ x)).toList := by
  rw [Array.toList_map]
  induction parts.toList with
  | nil => exact .nil
  | cons p ps ih => exact .cons (hev _) ih
theorem args_rel {ev : Operand → AVal} {ρ : Operand → Value} (hev : ∀ x, VRel g.ι g.μ (ev x) (ρ x)) (args : Array Operand) : VsRel g.ι g.μ (args.toList.map ev) (args.map ρ).toList := by
  rw [Array.toList_map]
  exact VsRel.map_of _ fun x _ => hev x
theorem o_rel {ev : Operand → AVal} {ρ : Operand → Value} (hev : ∀ x, VRel g.ι g.μ (ev x) (ρ x)) (x : Option Operand) : ORel g.ι g.μ (x.map ev) (x.map ρ) := by
  cases x with
  | none => exact .none
  | some x => exact .some (hev x)
theorem markRow_ok (I : Inv B h g) {r : Result Value} {e : TypeId} {s : AVal} {q : AVal × AHeap} (hq : OkVM B h g r q.1 q.2 e s) : OkV B h g r (markRow h e s q).1 (markRow h e s q).2 := by
  obtain ⟨v', g', hr, I', E, hv, hty⟩ := hq
  have plain : OkV B h g r q.1 q.2 := ⟨v', g', hr, I', E, hv⟩
  have marked : ∀ id off es len cap op, q.1 = .sl id off es len cap op → h.next ≤ id → (∀ id0 off0 es0 len0 cap0 op0, s = .sl id0 off0 es0 len0 cap0 op0 → ∃ b o sz, g.μ id0 = some (.arr b o sz e)) → OkV B h g r (.sl id off es len cap op) (q.2.mark id (e, false)) := by
    intro id off es len cap op he hid hs
    obtain ⟨b, o, sz, hm⟩ := hty id off es len cap op he hid hs
    have T := I'.mark (t := e) (z := false) hm (fun h => by cases h)
    exact ⟨v', g', hr, T.1, E.trans T.2, by rw [← he]; exact hv⟩
  unfold markRow
  split
  · rename_i id off es len cap op heq
    split
    · rename_i hid
      split
      · exact marked _ _ _ _ _ _ heq hid (fun _ _ _ _ _ _ h => by cases h)
      · rename_i id0 _ _ _ _ _
        split
        · rename_i hit
          refine marked _ _ _ _ _ _ heq hid (fun _ _ _ _ _ _ h => ?_)
          cases h
          unfold AHeap.isTy at hit
          split at hit
          · rename_i t z ht
            obtain ⟨b, o, sz, hm, _⟩ := I.ty _ _ _ ht
            have : t = e := by simpa using hit
            subst this
            exact ⟨b, o, sz, hm⟩
          · cases hit
        · exact plain
      · exact plain
    · exact plain
  · exact plain
theorem builtin_ok {C : Cfg} {own : Bool} (hC : C.P = P) (I : Inv B h g) {b : Builtin} {ts : Array TypeId} {ty : TypeId} {cons : Array Bool} {args : List AVal} {as : Array Value} {r : AVal × AHeap} (ha : VsRel g.ι g.μ args as.toList) (hl : abuiltin C own b ts.toList h args = some r) :
    OkOp B h g ((builtin b ts ty cons as).run P g.w) r.1 r.2 := by
  subst hC
  have get0 : ∀ {x : AVal} {rest : List AVal}, args = x :: rest → ∃ x' , as[0]? = some x' ∧ VRel g.ι g.μ x x' := by
    intro x rest he
    obtain ⟨y, hy, hr⟩ := ha.get (j := 0) (x := x) (by rw [he]; rfl)
    exact ⟨y, by rw [← Array.getElem?_toList]; exact hy, hr⟩
  have get1 : ∀ {x k : AVal} {rest : List AVal}, args = x :: k :: rest → ∃ x' , as[1]? = some x' ∧ VRel g.ι g.μ k x' := by
    intro x k rest he
    obtain ⟨y, hy, hr⟩ := ha.get (j := 1) (x := k) (by rw [he]; rfl)
    exact ⟨y, by rw [← Array.getElem?_toList]; exact hy, hr⟩
  have ty0 : ∀ {t : TypeId} {rest : List TypeId}, ts.toList = t :: rest → ts[0]? = some t := by
    intro t rest he
    rw [← Array.getElem?_toList, he]; rfl
  cases b <;> simp only [abuiltin] at hl <;> try (cases hl; done)
  case append =>
    unfold aappend at hl
    split at hl
    case h_2 => cases hl
    rename_i sT xT s x hts
    simp only [Option.bind_eq_bind, Option.bind_eq_some_iff] at hl
    obtain ⟨d, hd, hl⟩ := hl
    cases d <;> try (cases hl; done)
    case slice e =>
    simp only [Option.bind_eq_some_iff] at hl
    obtain ⟨i, hi, z, hz, d2, hd2, hl⟩ := hl
    have hts' : ts = #[sT, xT] := by apply Array.ext'; simpa using hts
    subst hts'
    split at hl
    case h_1 =>
      obtain ⟨al⟩ := as
      cases ha with | cons h1 hs =>
      cases hs with | cons h2 hs =>
      cases hs
      exact OkOp.ofV (appendZ_ok (ty := ty) I hd hi hz hd2 h1 h2 hl)
    rename_i hni
    split at hl
    case isFalse => cases hl
    rename_i hzs
    obtain ⟨al⟩ := as
    cases ha with | cons h1 hs =>
    cases hs with | cons h2 hs =>
    cases hs
    cases own with
    | false =>
      obtain ⟨v', g', h3, h4, h5, h6, _⟩ := appendA_ok (ty := ty) I hd hi hz hzs hd2 (fun k hk => hni k hk) h1 h2 hl
      exact OkOp.ofV ⟨v', g', h3, h4, h5, h6⟩
    | true =>
      simp only [cond_true, Option.map_eq_some_iff] at hl
      obtain ⟨q, hq, rfl⟩ := hl
      exact OkOp.ofV (markRow_ok I (appendA_ok I hd hi hz hzs hd2 (fun k hk => hni k hk) h1 h2 hq))
  case copy => exact OkOp.ofV (copy_ok I rfl ha hl)
  case unsafeSliceData =>
    obtain ⟨al⟩ := as
    split at hl
    · simp only [Option.some.injEq] at hl; subst hl
      cases ha with | cons h1 hs =>
      cases hs
      cases h1
      exact OkOp.ofV ⟨_, g, Lib.run_unsafeSliceData_nil g.w ts ty 0 0, I, Ext.refl h g, .nilPtr⟩
    · rename_i id off es len cap op
      split at hl
      case isFalse => cases hl
      rename_i hc
      simp only [Option.some.injEq] at hl; subst hl
      cases ha with | cons h1 hs =>
      cases hs
      cases h1 with
      | @sl _ _ _ _ _ cap' b o s e _ a hm hn hcap hop hat =>
      obtain ⟨ha1, ha2⟩ := hat (by omega)
      subst ha1
      exact OkOp.ofV ⟨_, g, Lib.run_unsafeSliceData_row g.w ts ty _ len cap' (by omega), I, Ext.refl h g, .ptr hm⟩
    · cases hl
  case unsafeString =>
    split at hl
    case h_2 => cases hl
    rename_i t it p n hts
    have hts' : ts = #[t, it] := by apply Array.ext'; simpa using hts
    subst hts'
    obtain ⟨al⟩ := as
    cases ha with | cons h1 hs =>
    cases hs with | cons h2 hs =>
    cases hs
    cases h2
    unfold aunsafeString at hl
    split at hl
    · split at hl
      case isFalse => cases hl
      rename_i hn0
      simp only [Option.some.injEq] at hl; subst hl
      cases h1
      subst hn0
      exact OkOp.ofV ⟨_, g, Lib.run_unsafeString_none g.w t it ty none, I, Ext.refl h g, .str []⟩
    · rename_i id off
      cases h1 with
      | @ptr _ _ b o s e hm =>
      split at hl
      · rename_i hn0
        simp only [Option.some.injEq] at hl; subst hl
        subst hn0
        exact OkOp.ofV ⟨_, g, Lib.run_unsafeString_none g.w t it ty _, I, Ext.refl h g, .str []⟩
      · split at hl
        case isFalse => cases hl
        rename_i hn0 hn
        split at hl
        case h_2 => cases hl
        rename_i u cells e2 z hu hget hty
        split at hl
        case isFalse => cases hl
        rename_i hc
        obtain ⟨rfl, hc1, hfit⟩ := hc
        rw [Option.map_eq_some_iff] at hl
        obtain ⟨bs, hbs, rfl⟩ := hl
        obtain ⟨b', o', cs, e', ws, hm', hB, hh, hws, hcs, hni⟩ := I.blk _ _ hget
        obtain ⟨b2, o2, s2, hm2, hz⟩ := I.ty _ _ _ hty
        rw [hm'] at hm hm2
        simp only [Option.some.injEq, Ent.arr.injEq] at hm hm2
        obtain ⟨rfl, rfl, rfl, rfl⟩ := hm
        obtain ⟨rfl, rfl, rfl, rfl⟩ := hm2
        obtain ⟨xs, hxs, rfl⟩ := bytesOf_vals ((hws.drop off).take n.toNat) hbs
        have hwl := hws.length
        have hxl : xs.length = n.toNat := by
          have := congrArg List.length hxs
          simp only [List.length_take, List.length_drop, List.length_map] at this
          omega
        have hnn : (xs.length : Int) = n := by omega
        have hca : ∀ j x, xs[j]? = some x → g.w.cell? ((⟨b', o' + off, none⟩ : Addr).add j) = some (.int .u8 x) := by
          intro j x hj
          have hjl : j < xs.length := by
            rcases Nat.lt_or_ge j xs.length with h1 | h1
            · exact h1
            · simp [List.getElem?_eq_none h1] at hj
          have h1 : ((ws.drop off).take n.toNat)[j]? = some (.int .u8 x) := by rw [hxs, List.getElem?_map, hj]; rfl
          rw [List.getElem?_take, if_pos (by omega)] at h1
          rw [add_plain, cell?_of_heap hh, Nat.add_assoc]
          exact hcs (off + j) _ (by simpa using h1)
        have hrun := run_unsafeString_at (P := C.P) g.w t it ty e' hu hc1 b' (o' + off) cs.size (by simp [World.shape?, hh]) xs (fun h => by subst h; simp at hxl; omega) (by have := hni.2; omega) (by omega) hca
        rw [hnn] at hrun
        have hxn : xs.length ≠ 0 := by omega
        have u : Upd g.w (g.w.freeze ⟨b', o' + off, none⟩ xs.length) b' (.cells cs e' (o' + off, o' + off + xs.length)) := by
          unfold World.freeze
          rw [if_neg hxn]
          exact ⟨rfl, rfl, rfl, by simp, by simp [Array.getElem?_modify, hh], fun b'' hb => by simp [Array.getElem?_modify, Ne.symm hb]⟩
        have T := I.turn (y := none) hget (by simp [blkOf, hm', Ent.block]) u g.ι (fun _ _ _ h => h) (fun _ _ _ => rfl) (fun j v hj => by rw [hni.1 j] at hj; cases hj) (fun z hz => by cases hz)
        exact OkOp.ofV ⟨_, ⟨_, g.ι, g.μ⟩, hrun, T.1, T.2, .str _⟩
    · cases hl
  case len =>
    split at hl
    case h_2 => cases hl
    rename_i t tr x xr hts
    simp only [Option.map_eq_some_iff] at hl
    obtain ⟨v, hv, rfl⟩ := hl
    obtain ⟨x', hx', hr⟩ := get0 rfl
    exact OkOp.ofV (OkV.ofP I (len_ok I (ty0 hts) hx' hr hv))
  case cap =>
    split at hl
    case h_2 => cases hl
    rename_i t tr x xr hts
    simp only [Option.map_eq_some_iff] at hl
    obtain ⟨v, hv, rfl⟩ := hl
    obtain ⟨x', hx', hr⟩ := get0 rfl
    exact OkOp.ofV (OkV.ofP I (cap_ok (ty0 hts) hx' hr hv))
  case clear =>
    split at hl
    case h_2 => cases hl
    rename_i t tr x xr hts
    simp only [Option.map_eq_some_iff] at hl
    obtain ⟨v, hv, rfl⟩ := hl
    obtain ⟨x', hx', hr⟩ := get0 rfl
    exact OkOp.ofV (clear_ok I (ty0 hts) hx' hr hv)
  case delete =>
    split at hl
    case h_2 => cases hl
    rename_i t tr x k xr hts
    simp only [Option.map_eq_some_iff] at hl
    obtain ⟨v, hv, rfl⟩ := hl
    obtain ⟨x', hx', hr⟩ := get0 rfl
    obtain ⟨k', hk', hr2⟩ := get1 rfl
    exact OkOp.ofV (delete_ok I (ty0 hts) hx' hk' hr hr2 hv)
  case max =>
    split at hl
    case h_2 => cases hl
    rename_i x xr
    simp only [Option.map_eq_some_iff] at hl
    obtain ⟨v, hv, rfl⟩ := hl
    obtain ⟨al⟩ := as
    cases ha with | cons h1 hs =>
    obtain ⟨v', hr, hv'⟩ := foldMax_ok (P := C.P) h1 hs hv
    exact OkOp.ofV (OkV.ofP I ⟨v', by simpa [Builtin.max_] using hr, hv'⟩)
  case min =>
    split at hl
    case h_2 => cases hl
    rename_i x xr
    simp only [Option.map_eq_some_iff] at hl
    obtain ⟨v, hv, rfl⟩ := hl
    obtain ⟨al⟩ := as
    cases ha with | cons h1 hs =>
    obtain ⟨v', hr, hv'⟩ := foldMax_ok (P := C.P) h1 hs hv
    exact OkOp.ofV (OkV.ofP I ⟨v', by simpa [Builtin.min_] using hr, hv'⟩)
end
end Go.Am



set_option linter.unusedSimpArgs false
namespace Go.Am
open Go
section
variable {g : G} {B : Nat} {h : AHeap} {C : Cfg} {ev : Operand → AVal} {ρ : Operand → Value}
theorem OkOp.plain (I : Inv B h g) {v : AVal} {v' : Value} (hv : VRel g.ι g.μ v v') : OkOp B h g (.ok (.value v') g.w) v h := ⟨v', g, _, rfl, .inl rfl, I, Ext.refl h g, hv⟩
theorem resolve_value {f : Operand} {args : Array Operand} {ats : Array TypeId} {ty : TypeId} {fn : FuncId} {first cap : Array Value} (hf : ρ f = .func (.func fn) first cap) (w : World) :
    (do let d ← resolve ρ { callee := .value f, args, argTypes := ats } ty; invoke d.target d.args : Sem Next).run C.P w = (callFunc fn (first ++ args.map ρ ++ cap)).run C.P w := by
  simp [resolve, hf, Deferred.ofValue, invoke]
theorem oper_only {o : Oper} : (∀ f args, aoper C ev h o = some (.call f args) → ∃ c, o.op = .call c) ∧ (∀ v, aoper C ev h o = some (.pan v) → ∃ x, o.op = .panic x) := by
  constructor
  · intro f args hl
    unfold aoper at hl
    split at hl
    all_goals try (simp only [Option.bind_eq_bind, Option.bind_eq_some_iff, Option.some.injEq, reduceCtorEq, and_false, exists_false] at hl; done)
    all_goals try (split at hl <;> first | (simp only [Option.some.injEq, reduceCtorEq] at hl; done) | (cases hl; done))
    all_goals try (cases hl; done)
    all_goals try (rename_i ho; exact ⟨_, ho⟩)
    all_goals (exfalso; revert hl; repeat' split)
    all_goals first
      | (simp; done)
      | (intro hx; simp only [Option.bind_eq_bind, Option.bind_eq_some_iff, Option.some.injEq, reduceCtorEq, and_false, exists_false] at hx; done)
      | (intro hx; simp only [Option.bind_eq_bind, Option.bind_eq_some_iff] at hx; obtain ⟨_, _, _, _, hx⟩ := hx; split at hx <;> simp at hx; done)
      | (intro hx; simp only [acallOp] at hx; split at hx <;> first | (simp at hx; done) | (split at hx <;> simp at hx))
  · intro v hl
    unfold aoper at hl
    split at hl
    all_goals try (simp only [Option.bind_eq_bind, Option.bind_eq_some_iff, Option.some.injEq, reduceCtorEq, and_false, exists_false] at hl; done)
    all_goals try (split at hl <;> first | (simp only [Option.some.injEq, reduceCtorEq] at hl; done) | (cases hl; done))
    all_goals try (cases hl; done)
    all_goals try (rename_i ho; exact ⟨_, ho⟩)
    all_goals (exfalso; revert hl; repeat' split)
    all_goals first
      | (simp; done)
      | (intro hx; simp only [Option.bind_eq_bind, Option.bind_eq_some_iff, Option.some.injEq, reduceCtorEq, and_false, exists_false] at hx; done)
      | (intro hx; simp only [Option.bind_eq_bind, Option.bind_eq_some_iff] at hx; obtain ⟨_, _, _, _, hx⟩ := hx; split at hx <;> simp at hx; done)
      | (intro hx; simp only [acallOp] at hx; split at hx <;> first | (simp at hx; done) | (split at hx <;> simp at hx))
theorem oper_call (hev : ∀ x, VRel g.ι g.μ (ev x) (ρ x)) {o : Oper} {f : FuncId} {args : List AVal} (hl : aoper C ev h o = some (.call f args)) :
    ∃ args', (∀ w, (execOp ρ o).run C.P w = (callFunc f args').run C.P w) ∧ VsRel g.ι g.μ args args'.toList := by
  obtain ⟨c, ho⟩ := oper_only.1 _ _ hl
  unfold aoper at hl
  rw [ho] at hl
  simp only [acallOp] at hl
  obtain ⟨callee, cargs, cts⟩ := c
  cases callee with
  | builtin b => simp at hl
  | invoke _ _ => simp at hl
  | value fo =>
    simp only at hl
    have hf := hev fo
    revert hl
    generalize ev fo = fv at hf
    intro hl
    split at hl
    case h_2 => cases hl
    rename_i g' first cap
    simp only [Option.some.injEq, AOut.call.injEq] at hl
    obtain ⟨rfl, rfl⟩ := hl
    cases hfv : ρ fo with
    | func f2 first' cap' =>
      rw [hfv] at hf
      cases hf with | fn h1 h2 =>
      refine ⟨first' ++ cargs.map ρ ++ cap', fun w => ?_, ?_⟩
      · have := resolve_value (C := C) (args := cargs) (ats := cts) (ty := o.type) hfv w
        unfold execOp; rw [ho]; exact this
      · rw [Array.toList_append, Array.toList_append]
        exact (h1.append (args_rel hev cargs)).append h2
    | _ => rw [hfv] at hf; cases hf
theorem oper_pan (hev : ∀ x, VRel g.ι g.μ (ev x) (ρ x)) {o : Oper} {v : AVal} (hl : aoper C ev h o = some (.pan v)) :
    ∃ v', (∀ w, (execOp ρ o).run C.P w = .halt (.panic v') w) ∧ VRel g.ι g.μ v v' := by
  obtain ⟨x, ho⟩ := oper_only.2 _ hl
  unfold aoper at hl
  rw [ho] at hl
  simp only at hl
  have hx := hev x
  revert hl
  generalize ev x = xv at hx
  intro hl
  split at hl
  case h_2 => cases hl
  simp only [Option.some.injEq, AOut.pan.injEq] at hl; subst hl
  cases hxv : ρ x with
  | iface t u =>
    rw [hxv] at hx
    refine ⟨.iface t u, fun w => ?_, hx⟩
    unfold execOp; rw [ho]; simp only [hxv, Instr.panic, Sem.run_bind, run_goPanic, Result.andThen_halt]
  | _ => rw [hxv] at hx; cases hx
theorem oper_val (I : Inv B h g) (hev : ∀ x, VRel g.ι g.μ (ev x) (ρ x)) {o : Oper} {v : AVal} {h' : AHeap} (hl : aoper C ev h o = some (.val v h')) : OkOp B h g ((execOp ρ o).run C.P g.w) v h' := by
  unfold aoper at hl
  unfold execOp
  split at hl <;> rename_i ho <;> simp only [ho]
  case h_1 x => simp only [Option.some.injEq, AOut.val.injEq] at hl; obtain ⟨rfl, rfl⟩ := hl; exact OkOp.plain I (hev x)
  case h_2 x => simp only [Option.some.injEq, AOut.val.injEq] at hl; obtain ⟨rfl, rfl⟩ := hl; exact OkOp.plain I (hev x)
  case h_3 c a b =>
    have hc := hev c
    revert hl; generalize ev c = cv at hc; intro hl
    split at hl
    case h_2 => cases hl
    rename_i t
    simp only [Option.some.injEq, AOut.val.injEq] at hl; obtain ⟨rfl, rfl⟩ := hl
    have hc' : ρ c = .bool t := by generalize ρ c = cv' at hc; cases hc; rfl
    simp only [hc', asBool, Sem.run_bind, Sem.run_pure, Result.andThen_ok]
    cases t
    · exact OkOp.plain I (hev b)
    · exact OkOp.plain I (hev a)
  case h_4 e =>
    simp only [Option.bind_eq_bind, Option.bind_eq_some_iff, Option.some.injEq, AOut.val.injEq] at hl
    obtain ⟨z, hz, r, hr, rfl, rfl⟩ := hl
    exact OkOp.ofV (by split; exact alloc_okM I hz hr; exact alloc_ok I hz hr)
  case h_5 e x =>
    split at hl
    · split at hl
      · rename_i hb
        simp only [Option.some.injEq, AOut.val.injEq] at hl; obtain ⟨rfl, rfl⟩ := hl
        exact OkOp.ofV (box_imm I (hev x) hb)
      · cases hl
    · simp only [Option.bind_eq_bind, Option.bind_eq_some_iff, Option.some.injEq, AOut.val.injEq] at hl
      obtain ⟨r, hr, rfl, rfl⟩ := hl
      exact OkOp.ofV (by split; exact box_okT I (hev x) hr; exact box_ok I (hev x) hr)
  case h_6 t parts =>
    simp only [Option.bind_eq_bind, Option.bind_eq_some_iff, Option.some.injEq, AOut.val.injEq] at hl
    obtain ⟨r, hr, rfl, rfl⟩ := hl
    exact OkOp.ofV (OkV.ofP I (build_ok (parts_rel hev parts) hr))
  case h_7 t len parts =>
    simp only [Option.bind_eq_bind, Option.bind_eq_some_iff] at hl
    obtain ⟨r, hr, hl⟩ := hl
    split at hl
    · simp only [Option.some.injEq, AOut.val.injEq] at hl; obtain ⟨rfl, rfl⟩ := hl
      exact OkOp.ofV (buildSlice_own I (parts_rel hev parts) hr)
    · simp only [Option.some.injEq, AOut.val.injEq] at hl; obtain ⟨rfl, rfl⟩ := hl
      exact OkOp.ofV (buildSlice_lst I (parts_rel hev parts) hr)
  case h_8 t a =>
    simp only [Option.bind_eq_bind, Option.bind_eq_some_iff, Option.some.injEq, AOut.val.injEq] at hl
    obtain ⟨r, hr, rfl, rfl⟩ := hl
    exact OkOp.ofV (OkV.ofP I (load_ok I (hev a) hr))
  case h_9 t a x =>
    simp only [Option.bind_eq_bind, Option.bind_eq_some_iff, Option.some.injEq, AOut.val.injEq] at hl
    obtain ⟨r, hr, rfl, rfl⟩ := hl
    exact OkOp.ofU (store_ok I (hev a) (hev x) hr)
  case h_10 x =>
    have hx := hev x
    revert hl; generalize ev x = xv at hx; intro hl
    generalize ρ x = xv' at hx ⊢
    split at hl
    · cases hl
    · cases hl
    · cases hl
    · cases hl
    · simp only [Option.some.injEq, AOut.val.injEq] at hl; obtain ⟨rfl, rfl⟩ := hl
      cases hx with | fn h1 h2 => exact OkOp.plain I (.fn h1 h2)
    · cases hl
    · rename_i n1 n2 n3 n4 n6 n7
      simp only [Option.some.injEq, AOut.val.injEq] at hl; obtain ⟨rfl, rfl⟩ := hl
      cases hx <;> first
        | exact absurd rfl n1 | exact absurd rfl n2 | exact absurd rfl n3 | exact absurd rfl n4 | exact absurd rfl (n7 _ _ _)
        | exact OkOp.plain I (by first | assumption | (constructor <;> assumption) | constructor)
  case h_11 op t x y yt =>
    simp only [Option.bind_eq_bind, Option.bind_eq_some_iff, Option.some.injEq, AOut.val.injEq] at hl
    obtain ⟨r, hr, rfl, rfl⟩ := hl
    exact OkOp.ofV (OkV.ofP I (bin_ok rfl I (hev x) (hev y) hr))
  case h_12 op t x =>
    simp only [Option.bind_eq_bind, Option.bind_eq_some_iff, Option.some.injEq, AOut.val.injEq] at hl
    obtain ⟨r, hr, rfl, rfl⟩ := hl
    exact OkOp.ofV (OkV.ofP I (un_ok rfl (hev x) hr))
  case h_13 s d x =>
    simp only [Option.bind_eq_bind, Option.bind_eq_some_iff, Option.some.injEq, AOut.val.injEq] at hl
    obtain ⟨r, hr, rfl, rfl⟩ := hl
    exact OkOp.ofV (convert_ok I (hev x) hr)
  case h_14 t x =>
    split at hl
    · cases hl
    · cases hl
    · rename_i d hni hu
      simp only [Option.some.injEq, AOut.val.injEq] at hl; obtain ⟨rfl, rfl⟩ := hl
      refine OkOp.ofV (OkV.ofP I ⟨.iface t (ρ x), ?_, .iface (hev x)⟩)
      simp only [Instr.makeInterface, Sem.run_bind, run_underlying hu, Result.andThen_ok]
      cases d <;> first | rfl | exact absurd rfl (hni _)
  case h_15 fn first cap =>
    simp only [Option.some.injEq, AOut.val.injEq] at hl; obtain ⟨rfl, rfl⟩ := hl
    exact OkOp.ofV (OkV.ofP I ⟨.func fn (first.map ρ) (cap.map ρ), rfl, .fn (args_rel hev first) (args_rel hev cap)⟩)
  case h_16 t =>
    simp only [Option.some.injEq, AOut.val.injEq] at hl; obtain ⟨rfl, rfl⟩ := hl
    have T := I.fresh (w' := { g.w with heap := g.w.heap.push (.map #[] 0) }) (o := .map #[] 0) ⟨rfl, rfl, rfl, rfl⟩ (.map [] 0) (.map g.w.heap.size) rfl ⟨g.w.heap.size, #[], by simp [addMu], I.base, by simp, .nil⟩
    refine OkOp.ofV ⟨.map (some g.w.heap.size), _, ?_, T.1, T.2, .map (by simp [addMu])⟩
    simp [Instr.makeMap]
  case h_17 t r =>
    split at hl
    case h_2 => cases hl
    rename_i k n k1 e1 hu hr
    simp only [Option.some.injEq, AOut.val.injEq] at hl; obtain ⟨rfl, rfl⟩ := hl
    have hr' := hev r
    rw [hr] at hr'
    have T := I.fresh (w' := { g.w with heap := g.w.heap.push (.map #[] 0) }) (o := .map #[] 0) ⟨rfl, rfl, rfl, rfl⟩ (.map [] 0) (.map g.w.heap.size) rfl ⟨g.w.heap.size, #[], by simp [addMu], I.base, by simp, .nil⟩
    refine OkOp.ofV ⟨.map (some g.w.heap.size), _, ?_, T.1, T.2, .map (by simp [addMu])⟩
    have hrv : ρ r = .int k1 e1 := by generalize ρ r = rv at hr'; cases hr'; rfl
    simp [Instr.makeMap, run_underlying hu, asInt, asIntOf, hrv]
  case h_18 t l c =>
    rw [Option.map_eq_some_iff] at hl
    obtain ⟨r, hl, hr⟩ := hl
    cases hr
    unfold amakeSlice at hl
    split at hl
    case h_2 => cases hl
    rename_i e k1 n k2 m hu hn hm
    simp only [Option.bind_eq_bind, Option.bind_eq_some_iff] at hl
    obtain ⟨i, hi, z, hz, hl⟩ := hl
    split at hl
    case isFalse => cases hl
    rename_i hc
    obtain ⟨h0, h1, h2, h3, h4, h5⟩ := hc
    obtain ⟨iz, z', hiz, hz', rfl⟩ := zeroA_some hz
    rw [hi] at hiz; cases hiz
    have hln := hev l
    have hcm := hev c
    rw [hn] at hln
    rw [hm] at hcm
    generalize ρ l = lv at hln ⊢
    generalize ρ c = cv at hcm ⊢
    cases hln; cases hcm
    have M := makeSlice_ok (k := k1) (k' := k2) I hu hi hz' h4 h0 h1 h2 h3 h5
    split at hl
    · rename_i hn0
      simp only [Option.some.injEq, AOut.val.injEq] at hl; obtain ⟨rfl, rfl⟩ := hl
      exact OkOp.ofV (M.1 hn0.1)
    · simp only [Option.some.injEq, AOut.val.injEq] at hl; obtain ⟨rfl, rfl⟩ := hl
      exact OkOp.ofV M.2
  case h_19 t x lo hi mx =>
    simp only [Option.bind_eq_bind, Option.bind_eq_some_iff, Option.some.injEq, AOut.val.injEq] at hl
    obtain ⟨r, hr, rfl, rfl⟩ := hl
    exact OkOp.ofV (OkV.ofP I (slice_ok I (hev x) (o_rel hev lo) (o_rel hev hi) (o_rel hev mx) hr))
  case h_20 t x f =>
    simp only [Option.bind_eq_bind, Option.bind_eq_some_iff, Option.some.injEq, AOut.val.injEq] at hl
    obtain ⟨r, hr, rfl, rfl⟩ := hl
    exact OkOp.ofV (OkV.ofP I (fieldAddr_ok (hev x) hr))
  case h_21 t x f =>
    simp only [Option.bind_eq_bind, Option.bind_eq_some_iff, Option.some.injEq, AOut.val.injEq] at hl
    obtain ⟨r, hr, rfl, rfl⟩ := hl
    exact OkOp.ofV (OkV.ofP I (field_ok (hev x) hr))
  case h_22 t x i =>
    simp only [Option.bind_eq_bind, Option.bind_eq_some_iff, Option.some.injEq, AOut.val.injEq] at hl
    obtain ⟨r, hr, rfl, rfl⟩ := hl
    exact OkOp.ofV (OkV.ofP I (indexAddr_ok I (hev x) (hev i) hr))
  case h_23 t x i =>
    simp only [Option.bind_eq_bind, Option.bind_eq_some_iff, Option.some.injEq, AOut.val.injEq] at hl
    obtain ⟨r, hr, rfl, rfl⟩ := hl
    exact OkOp.ofV (OkV.ofP I (index_ok (hev x) (hev i) hr))
  case h_24 t x k ok =>
    simp only [Option.bind_eq_bind, Option.bind_eq_some_iff, Option.some.injEq, AOut.val.injEq] at hl
    obtain ⟨r, hr, rfl, rfl⟩ := hl
    exact OkOp.ofV (OkV.ofP I (lookup_ok I (hev x) (hev k) hr))
  case h_25 t m k x =>
    simp only [Option.bind_eq_bind, Option.bind_eq_some_iff, Option.some.injEq, AOut.val.injEq] at hl
    obtain ⟨r, hr, rfl, rfl⟩ := hl
    exact OkOp.ofU (mapUpdate_ok I (hev m) (hev k) (hev x) hr)
  case h_26 t m k x =>
    simp only [Option.bind_eq_bind, Option.bind_eq_some_iff, Option.some.injEq, AOut.val.injEq] at hl
    obtain ⟨r, hr, rfl, rfl⟩ := hl
    exact OkOp.ofU (mapUpdate_ok I (hev m) (hev k) (hev x) hr)
  case h_27 t i =>
    simp only [Option.bind_eq_bind, Option.bind_eq_some_iff, Option.some.injEq, AOut.val.injEq] at hl
    obtain ⟨r, hr, rfl, rfl⟩ := hl
    exact OkOp.ofV (OkV.ofP I (extract_ok (hev t) hr))
  case h_28 x xt asserted ok =>
    have hx := hev x
    revert hl; generalize ev x = xv at hx; intro hl
    generalize ρ x = xv' at hx ⊢
    split at hl
    · cases hl
    · cases hl
    · rename_i d t v hni hu
      cases hx with | @iface _ _ u hv =>
      refine OkOp.ofV ?_
      have hrun : ∀ w, (Instr.typeAssert (.iface t u) xt asserted ok).run C.P w = (if t = asserted then (pure (if ok then .tuple #[u, .bool true] else u) : Sem Value) else (if ok then (do pure (.tuple #[← zeroValue asserted, .bool false])) else runtimePanic (.typeAssertion (some xt) (some t) asserted ""))).run C.P w := fun w => by
        simp only [Instr.typeAssert, Sem.run_bind, run_underlying hu, Result.andThen_ok]
      rw [hrun]
      split at hl
      · rename_i ht
        simp only [Option.some.injEq, AOut.val.injEq] at hl; obtain ⟨rfl, rfl⟩ := hl
        rw [if_pos ht]
        cases ok
        · exact OkV.pure I hv
        · exact OkV.pure I (.tup (.cons hv (.cons (.bool true) .nil)))
      · rename_i ht
        rw [if_neg ht]
        split at hl
        · rename_i hok
          simp only [Option.bind_eq_bind, Option.bind_eq_some_iff, Option.some.injEq, AOut.val.injEq] at hl
          obtain ⟨z, hz, rfl, rfl⟩ := hl
          obtain ⟨i, z', hi, hz', rfl⟩ := zeroA_some hz
          rw [if_pos hok]
          exact OkV.ofP I ⟨.tuple #[z', .bool false], by simp only [Sem.run_bind, run_zeroValue hi hz', Result.andThen_ok, Sem.run_pure], .tup (.cons (ofV_rel _) (.cons (.bool false) .nil))⟩
        · cases hl
    · cases hl
  case h_29 c =>
    simp only [acallOp] at hl
    obtain ⟨callee, cargs, cts⟩ := c
    cases callee with
    | builtin b =>
      simp only [Option.map_eq_some_iff, AOut.val.injEq] at hl
      obtain ⟨r, hr, rfl, rfl⟩ := hl
      simp only [resolve, pure_bind, invoke]
      exact builtin_ok rfl I (args_rel hev cargs) hr
    | value fo =>
      simp only at hl
      split at hl <;> cases hl
    | invoke _ _ => cases hl
  case h_30 x =>
    split at hl <;> cases hl
  all_goals cases hl
end
end Go.Am

