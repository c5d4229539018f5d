/-
  THE ABSTRACT MACHINE: aggregates, literals, made slices.
-/
import Derived.Test.YtgjdlakemaabfaaAmMem
import Derived.Laws.Tables
set_option linter.unusedVariables false
namespace Go.Am
open Go

section
variable {ι : Imm} {μ : Mu}
theorem VsRel.of_get {xs : List AVal} {ys : List Value} (hl : xs.length = ys.length) (h : ∀ (j : Nat) (x : AVal) (y : Value), xs[j]? = some x → ys[j]? = some y → VRel ι μ x y) : VsRel ι μ xs ys := by
  induction xs generalizing ys with
  | nil => cases ys with
    | nil => exact .nil
    | cons _ _ => simp at hl
  | cons x xs ih => cases ys with
    | nil => simp at hl
    | cons y ys => exact .cons (h 0 x y rfl rfl) (ih (by simpa using hl) fun j a b ha hb => h (j + 1) a b (by simpa using ha) (by simpa using hb))

theorem setIf_fold (l : List Value) : ∀ (k off : Nat) (cs : Array Value), ((l.zipIdx k).foldl (fun (cs : Array Value) (x : Value × Nat) => cs.setIfInBounds (off + x.2) x.1) cs).toList = setRangeV cs.toList (off + k) l := by
  induction l with
  | nil => intro k off cs; simp [setRangeV]
  | cons v l ih =>
    intro k off cs
    simp only [List.zipIdx_cons, List.foldl_cons, setRangeV]
    rw [ih (k + 1) off]
    simp [Array.toList_setIfInBounds, Nat.add_assoc]

/-- Parts of an aggregate, in the machine and in the model. -/
inductive PsRel (ι : Imm) (μ : Mu) : List (Nat × AVal) → List (Nat × Value) → Prop
  | nil : PsRel ι μ [] []
  | cons {i : Nat} {v : AVal} {v' : Value} {ps : List (Nat × AVal)} {ps' : List (Nat × Value)} (h : VRel ι μ v v') (hs : PsRel ι μ ps ps') : PsRel ι μ ((i, v) :: ps) ((i, v') :: ps')

theorem fill_ok (place : Nat → Option (Nat × Nat)) : ∀ (ps : List (Nat × AVal)) (ps' : List (Nat × Value)) (cells : List AVal) (cs : Array Value) (r : List AVal), PsRel ι μ ps ps' → VsRel ι μ cells cs.toList → fillA place cells ps = some r →
    ∃ r', Instr.fill place cs ps' = some r' ∧ VsRel ι μ r r'.toList := by
  intro ps
  induction ps with
  | nil => intro ps' cells cs r hp hc hf; cases hp; simp only [fillA, Option.some.injEq] at hf; subst hf; exact ⟨cs, rfl, hc⟩
  | cons p ps ih =>
    intro ps' cells cs r hp hc hf
    cases hp with
    | @cons i v v' _ ps'' hv hps =>
      simp only [fillA] at hf
      cases hpl : place i with
      | none => simp [hpl] at hf
      | some q =>
        obtain ⟨off, size⟩ := q
        simp only [hpl] at hf
        split at hf
        · rename_i hcond
          obtain ⟨h1, h2, h3⟩ := hcond
          have hcv := hv.cells h2
          have hlv := hcv.length
          have hlc := hc.length
          simp only [Array.length_toList] at hlv hlc
          have hc' : VsRel ι μ (setRange cells off v.cells) (v'.cells.toList.zipIdx.foldl (fun (cs : Array Value) (x : Value × Nat) => cs.setIfInBounds (off + x.2) x.1) cs).toList := by
            rw [setIf_fold]; simpa using setRange_rel hc off hcv
          obtain ⟨r', hr, hrel⟩ := ih ps'' _ _ r hps hc' hf
          refine ⟨r', ?_, hrel⟩
          simp only [Instr.fill, hpl]
          rw [if_neg (by simp; omega)]
          rw [← hr]
          congr 1
          rw [← Array.foldl_toList, Array.toList_zipIdx]
        · cases hf

theorem zerosA_length (z : List AVal) (n : Nat) : (zerosA z n).length = n * z.length := by
  induction n with
  | zero => simp [zerosA]
  | succ n ih => simp only [zerosA, List.length_append, ih, Nat.succ_mul]; omega
theorem zerosA_get (z : List AVal) (n : Nat) : ∀ (j : Nat) (_ : j < n * z.length), (zerosA z n)[j]? = z[j % z.length]? := by
  induction n with
  | zero => intro j hj; simp at hj
  | succ n ih =>
    intro j hj
    simp only [zerosA]
    rw [Nat.succ_mul] at hj
    by_cases h : j < z.length
    · rw [List.getElem?_append_left h, Nat.mod_eq_of_lt h]
    · rw [List.getElem?_append_right (by omega), ih (j - z.length) (by omega)]
      rw [Nat.mod_eq_sub_mod (a := j) (by omega)]
theorem zeros_rel {za : List AVal} {z : Array Value} (h : VsRel ι μ za z.toList) (len n : Nat) (hn : n = len * z.size) : VsRel ι μ (zerosA za len) (((Array.range n).map (z[· % z.size]!)).toList) := by
  have hl := h.length
  simp only [Array.length_toList] at hl
  refine VsRel.of_get (by simp [zerosA_length, hl, hn]) fun j x y hx hy => ?_
  have hj : j < len * za.length := by
    rcases Nat.lt_or_ge j (len * za.length) with h1 | h1
    · exact h1
    · rw [List.getElem?_eq_none (by rw [zerosA_length]; exact h1)] at hx; cases hx
  rw [zerosA_get za len j hj] at hx
  obtain ⟨y', hy', hr⟩ := h.get hx
  have hz0 : 0 < z.size := by
    rcases Nat.eq_zero_or_pos z.size with h1 | h1
    · rw [hl, h1] at hj; simp at hj
    · exact h1
  have : y = z[j % z.size]! := by
    simp only [Array.toList_map, Array.toList_range, List.getElem?_map] at hy
    rw [List.getElem?_range (by rw [hn, ← hl]; exact hj)] at hy
    simp only [Option.map_some, Option.some.injEq] at hy
    exact hy.symm
  subst this
  have hlt := Nat.mod_lt j hz0
  have : z.toList[j % z.size]? = some z[j % z.size]! := by
    simp [hlt]
  rw [hl, this] at hy'
  cases hy'
  exact hr
end

theorem ofCell_cells (v : Value) : (ofCell v).cells = [ofCell v] := by
  unfold ofCell; split <;> first | rfl | (split <;> rfl)
theorem ofV_cells {ι : Imm} {μ : Mu} (z : Value) : VsRel ι μ (ofV z).cells z.cells.toList := by
  cases z with
  | agg cs =>
    have := ofV_rel (ι := ι) (μ := μ) (.agg cs)
    cases this with | agg h => exact h
  | _ => simp only [ofV, Value.cells, ofCell_cells]; exact .cons (ofCell_rel _) .nil

theorem build_ok {P : Program} {g : G} {t : TypeId} {parts : List (Nat × AVal)} {parts' : Array (Nat × Value)} (hp : PsRel g.ι g.μ parts parts'.toList) {v : AVal} (hl : abuild P t parts = some v) :
    ∃ v', (Instr.build t parts').run P g.w = .ok v' g.w ∧ VRel g.ι g.μ v v' := by
  simp only [abuild, Option.bind_eq_bind, Option.bind_eq_some_iff] at hl
  obtain ⟨z, hz, d, hd, hl⟩ := hl
  obtain ⟨it, z', hi, hz', rfl⟩ := zeroA_some hz
  have hzc := ofV_cells (ι := g.ι) (μ := g.μ) z'
  cases d <;> try (cases hl; done)
  case array n e =>
    simp only [Option.bind_eq_some_iff, Option.some.injEq] at hl
    obtain ⟨ie, hie, cells, hf, rfl⟩ := hl
    obtain ⟨r', hr, hrel⟩ := fill_ok _ _ _ _ _ _ hp hzc hf
    exact ⟨.agg r', run_build g.w t parts' r' (by simp [Program.built, hi, hd, hz', hie, hr]), .agg hrel⟩
  case struct fs =>
    simp only [Option.bind_eq_some_iff, Option.some.injEq] at hl
    obtain ⟨places, hpl, cells, hf, rfl⟩ := hl
    obtain ⟨r', hr, hrel⟩ := fill_ok _ _ _ _ _ _ hp hzc hf
    refine ⟨.agg r', run_build g.w t parts' r' ?_, .agg hrel⟩
    have hr2 : Instr.fill (fun x => places[x]?) z'.cells parts'.toList = some r' := by simpa using hr
    simp [Program.built, hi, hd, hz', hpl, hr2]

theorem ofV_boxable {z : Value} {P : Program} {e : TypeId} {i : TypeInfo} (_ : P.info? e = some i) : True := trivial

/-- A slice literal: its cells. -/
theorem buildSlice_run {P : Program} {g : G} {t : TypeId} {len : Nat} {parts : List (Nat × AVal)} {parts' : Array (Nat × Value)} (hp : PsRel g.ι g.μ parts parts'.toList) {r : List AVal × Nat} (hl : abuildSlice P t len parts = some r) :
    ∃ e cs, (Instr.buildSlice t len parts').run P g.w = .ok (.slice (some ⟨g.w.heap.size, 0, none⟩) len len) { g.w with heap := g.w.heap.push (.cells cs e) } ∧ VsRel g.ι g.μ r.1 cs.toList ∧ r.1.length = len * r.2 := by
  simp only [abuildSlice, Option.bind_eq_bind, Option.bind_eq_some_iff] at hl
  obtain ⟨d, hd, hl⟩ := hl
  cases d <;> try (cases hl; done)
  case slice e =>
  simp only [Option.bind_eq_some_iff] at hl
  obtain ⟨ie, hie, hl⟩ := hl
  split at hl
  case isFalse => cases hl
  rename_i hsmall
  simp only [Option.bind_eq_some_iff] at hl
  obtain ⟨z, hz, hl⟩ := hl
  split at hl
  case isFalse => cases hl
  rename_i hzl
  simp only [Option.bind_eq_some_iff, Option.some.injEq] at hl
  obtain ⟨cells, hf, rfl⟩ := hl
  obtain ⟨it, z', hi, hz', rfl⟩ := zeroA_some hz
  rw [hie] at hi; cases hi
  have hzc := ofV_cells (ι := g.ι) (μ := g.μ) z'
  have hsz : z'.cells.size = ie.size := by have := hzc.length; simp at this; omega
  have hlenf : ∀ (ps : List (Nat × AVal)) (cs r : List AVal), fillA (fun k => some (k * ie.size, ie.size)) cs ps = some r → r.length = cs.length := by
    intro ps
    induction ps with
    | nil => intro cs r h; simp only [fillA, Option.some.injEq] at h; rw [h]
    | cons p ps ih =>
      intro cs r h
      simp only [fillA] at h
      split at h
      · rw [ih _ _ h, setRange_length]
      · cases h
  by_cases h0 : len * ie.size = 0
  · have hz0 : zerosA (ofV z').cells len = [] := by
      apply List.eq_nil_of_length_eq_zero; rw [zerosA_length, hzl]; exact h0
    rw [hz0] at hf
    obtain ⟨r', hr, hrel⟩ := fill_ok _ _ _ _ #[] _ hp .nil hf
    refine ⟨e, r', ?_, hrel, ?_⟩
    · have hr2 : Instr.fill (fun i => some (i * ie.size, ie.size)) #[] parts'.toList = some r' := hr
      simp only [Instr.buildSlice, Sem.run_bind, run_underlying hd, Result.andThen_ok, run_sizeOf' hie]
      rw [if_neg (by omega), if_pos h0, h0]
      have hz1 : ∀ f : Nat → Value, (Array.range 0).map f = #[] := fun f => by simp
      simp only [Sem.run_bind, Sem.run_pure, Result.andThen_ok, hz1, hr2]
      simp [newRow]
    · rw [hlenf _ _ _ hf]; simp [h0]
  · have hz1 := zeros_rel hzc len (len * ie.size) (by rw [hsz])
    obtain ⟨r', hr, hrel⟩ := fill_ok _ _ _ _ _ _ hp hz1 hf
    refine ⟨e, r', ?_, hrel, ?_⟩
    · simp only [Instr.buildSlice, Sem.run_bind, run_underlying hd, Result.andThen_ok, run_sizeOf' hie]
      rw [if_neg (by omega), if_neg h0]
      simp only [Sem.run_bind, run_zeroValue hie hz', Result.andThen_ok, Sem.run_pure, hr]
      simp [newRow]
    · rw [hlenf _ _ _ hf, zerosA_length, hzl]

theorem buildSlice_lst {P : Program} {B : Nat} {h : AHeap} {g : G} (I : Inv B h g) {t : TypeId} {len : Nat} {parts : List (Nat × AVal)} {parts' : Array (Nat × Value)} (hp : PsRel g.ι g.μ parts parts'.toList) {r : List AVal × Nat} (hl : abuildSlice P t len parts = some r) :
    OkV B h g ((Instr.buildSlice t len parts').run P g.w) (.lst r.1 len .full) h := by
  obtain ⟨e, cs, hr, hv, hn⟩ := buildSlice_run hp hl
  obtain ⟨ι', I', E, hι⟩ := I.fresh_imm (w' := { g.w with heap := g.w.heap.push (.cells cs e) }) (cs := cs) (e := e) (f := (0, 0)) ⟨rfl, rfl, rfl, rfl⟩
  refine ⟨_, _, hr, I', E, VRel.lst (hv.mono E.le) (fun j v hj => ?_) (fun _ => rfl) (Nat.le_refl _) rfl⟩
  show ι' g.w.heap.size (0 + j) = some v
  rw [hι]; simpa using hj

theorem buildSlice_own {P : Program} {B : Nat} {h : AHeap} {g : G} (I : Inv B h g) {t : TypeId} {len : Nat} {parts : List (Nat × AVal)} {parts' : Array (Nat × Value)} (hp : PsRel g.ι g.μ parts parts'.toList) {r : List AVal × Nat} (hl : abuildSlice P t len parts = some r) :
    OkV B h g ((Instr.buildSlice t len parts').run P g.w) (.sl h.next 0 r.2 len len false) (h.new (.arr r.1)) := by
  obtain ⟨e, cs, hr, hv, hn⟩ := buildSlice_run hp hl
  have T := I.newArr (w' := { g.w with heap := g.w.heap.push (.cells cs e) }) (cs := cs) (e := e) ⟨rfl, rfl, rfl, rfl⟩ hv (fun j v hj => by simpa using hj) (by have := hv.length; simp at this; omega)
  exact ⟨_, _, hr, T.1, T.2, VRel.sl (b := g.w.heap.size) (o := 0) (s := cs.size) (by simp [addMu]) (Nat.le_refl _) (Nat.le_refl _) (fun _ => rfl) (fun _ => ⟨rfl, by have := hv.length; simp at this; omega⟩)⟩

end Go.Am
