/-
  THE ABSTRACT MACHINE: conversions, made slices, all operations together.
-/
import Derived.Test.YtgjdlakemaabfaaAmOps5
import Derived.Laws.BytesArg
set_option linter.unusedVariables false
set_option linter.unusedSimpArgs false
namespace Go.Am
open Go

section
variable {P : Program} {g : G} {B : Nat} {h : AHeap}

theorem zeroCells_eq (z : Array Value) (n : Nat) : Builtin.zeroCells z n = (Array.range (n * z.size)).map fun i => z[i % z.size]! := rfl

theorem clear_ok (I : Inv B h g) {ts : Array TypeId} {t ty : TypeId} {as : Array Value} {x : AVal} {x' : Value} {h' : AHeap} (hts : ts[0]? = some t) (has : as[0]? = some x') (hx : VRel g.ι g.μ x x') (hl : aclear P h t x = some h') :
    OkV B h g ((Builtin.clear_ ts ty as).run P g.w) .top h' := by
  simp only [aclear, Option.bind_eq_bind, Option.bind_eq_some_iff] at hl
  obtain ⟨d, hd, hl⟩ := hl
  simp only [Builtin.clear_, hts, has, Sem.run_bind, run_underlying hd, Result.andThen_ok]
  split at hl
  · simp only [Option.some.injEq] at hl; subst hl; cases hx
    exact ⟨.tuple #[], g, rfl, I, Ext.refl h g, .top _⟩
  · rename_i e id off es n cap op
    simp only [Option.bind_eq_some_iff] at hl
    obtain ⟨z, hz, i, hi, hl⟩ := hl
    split at hl
    case h_2 => cases hl
    rename_i cells hget
    obtain ⟨iz, z', hiz, hz', rfl⟩ := zeroA_some hz
    rw [hi] at hiz; cases hiz
    cases hx with
    | @sl _ _ _ _ _ cap' b o s _ a hm' hn hcap hop ha =>
    split at hl
    · rename_i hn0
      simp only [Option.some.injEq] at hl; subst hl; subst hn0
      exact ⟨.tuple #[], g, rfl, I, Ext.refl h g, .top _⟩
    · rename_i hn0
      split at hl
      case isFalse => cases hl
      rename_i hc
      obtain ⟨rfl, hzl, hzc, hfit⟩ := hc
      simp only [Option.some.injEq] at hl; subst hl
      obtain ⟨ha1, ha2⟩ := ha (by omega)
      subst ha1
      obtain ⟨k, rfl⟩ : ∃ k, n = k + 1 := ⟨n - 1, by omega⟩
      have hzr := ofV_cells (ι := g.ι) (μ := g.μ) z'
      have hzs : z'.cells.size = i.size := by have := hzr.length; simp at this; omega
      have hrel := zeros_rel hzr (k + 1) ((k + 1) * z'.cells.size) rfl
      have hall : (zerosA (ofV z').cells (k + 1)).all AVal.isCell = true := by
        rw [List.all_eq_true]
        intro x hx
        have aux : ∀ m, x ∈ zerosA (ofV z').cells m → x ∈ (ofV z').cells := by
          intro m; induction m with
          | zero => intro h; simp [zerosA] at h
          | succ m ih => intro h; simp only [zerosA, List.mem_append] at h; exact h.elim (fun h => h) ih
        exact List.all_eq_true.1 hzc x (aux _ hx)
      obtain ⟨g', hr, I', E⟩ := I.setArr (P := P) (off := off) hget hrel hall (by rw [zerosA_length, hzl]; exact hfit) hm'
      refine ⟨.tuple #[], g', ?_, I', E, .top _⟩
      simp only [Sem.run_bind, run_zeroValue hi hz', Result.andThen_ok]
      rw [zeroCells_eq, hr]
      rfl
  · simp only [Option.some.injEq] at hl; subst hl; cases hx
    exact ⟨.tuple #[], g, rfl, I, Ext.refl h g, .top _⟩
  · rename_i id
    split at hl
    case h_2 => cases hl
    rename_i es clock hget
    simp only [Option.some.injEq] at hl; subst hl
    obtain ⟨b, es', hm, h0, hh, hes⟩ := I.blk _ _ hget
    cases hx with | map hm' =>
    rw [hm] at hm'; cases hm'
    have hgo : (getObj b).run P g.w = .ok (.map es' clock) g.w := by simp [getObj, Sem.run, hh]
    obtain ⟨w', hr, u⟩ := run_setObj_map (P := P) hh (.map #[] clock)
    have T := I.setMap hget hm u (es1 := []) .nil
    exact ⟨.tuple #[], _, by simp only [Sem.run_bind, hgo, Result.andThen_ok, hr]; rfl, T.1, T.2, .top _⟩
  · cases hl

theorem max2_ok {hi : Bool} {x y v : AVal} {x' y' : Value} (hx : VRel g.ι g.μ x x') (hy : VRel g.ι g.μ y y') (hl : max2A hi x y = some v) : ∃ v', ((if hi then Builtin.max2 x' y' else Builtin.min2 x' y')).run P g.w = .ok v' g.w ∧ VRel g.ι g.μ v v' := by
  unfold max2A at hl
  split at hl
  · simp only [Option.some.injEq] at hl; subst hl
    cases hx; cases hy
    cases hi
    · exact ⟨_, rfl, .int _ _⟩
    · exact ⟨_, rfl, .int _ _⟩
  · cases hl
theorem foldMax_ok {hi : Bool} {rest : List AVal} : ∀ {rest' : List Value} {x v : AVal} {x' : Value}, VRel g.ι g.μ x x' → VsRel g.ι g.μ rest rest' → foldMax hi x rest = some v →
    ∃ v', (rest'.foldlM (fun a b => if hi then Builtin.max2 a b else Builtin.min2 a b) x').run P g.w = .ok v' g.w ∧ VRel g.ι g.μ v v' := by
  induction rest with
  | nil => intro rest' x v x' hx hr hl; cases hr; simp only [foldMax, Option.some.injEq] at hl; subst hl; exact ⟨_, rfl, hx⟩
  | cons y rest ih =>
    intro rest' x v x' hx hr hl
    cases hr with
    | cons hy hs =>
      simp only [foldMax, Option.bind_eq_bind, Option.bind_eq_some_iff] at hl
      obtain ⟨z, hz, hl⟩ := hl
      obtain ⟨z', hrun, hz'⟩ := max2_ok (P := P) hx hy hz
      obtain ⟨v', hrun2, hv⟩ := ih hz' hs hl
      exact ⟨v', by simp only [List.foldlM_cons, Sem.run_bind, hrun, Result.andThen_ok, hrun2], hv⟩

theorem convert_ok (I : Inv B h g) {src dst : TypeId} {x : AVal} {x' : Value} {r : AVal × AHeap} (hx : VRel g.ι g.μ x x') (hl : aconvert P h src dst x = some r) : OkV B h g ((convert src dst x').run P g.w) r.1 r.2 := by
  simp only [aconvert, Option.bind_eq_bind, Option.bind_eq_some_iff] at hl
  obtain ⟨s, hs, d, hd, hl⟩ := hl
  split at hl
  · simp only [Option.some.injEq] at hl; subst hl; cases hx
    exact ⟨_, g, by simp [convert, run_underlying hs, run_underlying hd, Conv.intToInt], I, Ext.refl h g, .int _ _⟩
  · simp only [Option.some.injEq] at hl; subst hl; cases hx
    refine ⟨_, g, ?_, I, Ext.refl h g, .str _⟩
    cases s <;> simp [convert, run_underlying hs, run_underlying hd]
  · rename_i e b
    simp only [Option.bind_eq_some_iff] at hl
    obtain ⟨ed, he, hl⟩ := hl
    split at hl
    case h_2 => cases hl
    split at hl
    case isFalse => cases hl
    rename_i hb
    simp only [Option.some.injEq] at hl; subst hl
    cases hx
    have hcap : b.length ≤ (Question.appendCap b.length 0 e).cut (g.w.tape g.w.drawn (.appendCap b.length 0 e)) := by simp only [Question.cut]; omega
    generalize hC : (Question.appendCap b.length 0 e).cut (g.w.tape g.w.drawn (.appendCap b.length 0 e)) = cap at hcap
    let cs : Array Value := ((⟨b.toArray⟩ : ByteArray).data.map fun c => (.int .u8 c.toNat : Value)) ++ Array.replicate (cap - b.length) (.int .u8 0)
    have hcs : cs.size = cap := by simp [cs]; omega
    have hrun : (convert src dst (.string ⟨b.toArray⟩)).run P g.w = .ok (.slice (some ⟨g.w.heap.size, 0, none⟩) b.length cap) ({ g.w with heap := g.w.heap.push (.cells cs e), drawn := g.w.drawn + 1 }.freeze ⟨g.w.heap.size, cs.size, none⟩ 1) := by
      have h1 : (convert src dst (.string ⟨b.toArray⟩)).run P g.w = (Conv.stringToBytes e ⟨b.toArray⟩).run P g.w := by
        cases s <;> simp [convert, run_underlying hs, run_underlying hd, run_underlying he]
      rw [h1]
      simp only [Conv.stringToBytes, Sem.run_bind, run_choose, Question.forced, Bool.false_eq_true, if_false, Result.andThen_ok, run_newRow, bytes_size, hC, markStringish, run_shape]
      have h2 : (({ heap := g.w.heap.push (.cells cs e), tape := g.w.tape, drawn := g.w.drawn + 1, os := g.w.os, output := g.w.output } : World)).shape? g.w.heap.size = some (e, cs.size) := by simp [World.shape?]
      rw [h2]
      simp only [run_freeze, Result.andThen_ok, Sem.run_pure]
      rfl
    have hp : Psh g.w ({ g.w with heap := g.w.heap.push (.cells cs e), drawn := g.w.drawn + 1 }.freeze ⟨g.w.heap.size, cs.size, none⟩ 1) (.cells cs e (cs.size, cs.size + 1)) := by
      refine ⟨rfl, rfl, rfl, ?_⟩
      simp only [World.freeze, Nat.one_ne_zero, if_false]
      apply Array.ext_getElem?
      intro i
      rw [Array.getElem?_modify, Array.getElem?_push, Array.getElem?_push]
      by_cases hi : i = g.w.heap.size
      · subst hi; simp
      · simp [hi, Ne.symm hi]
    obtain ⟨ι', I', E, hι⟩ := I.freshTok hp b.length 1 (fun j _ h2 h3 => by omega)
    refine ⟨_, ⟨_, ι', _⟩, hrun, I', E, ?_⟩
    refine VRel.lst (vs := b.map fun c => .int .u8 c.toNat) (VsRel.map_of _ fun _ _ => .int _ _) (fun j v hj => ?_) (fun _ => rfl) hcap ⟨g.w.heap.size, b.length, cs.size, 1, by simp only [addMu, if_true], fun hlt => ⟨by simp, by simp, by rw [hcs]; omega⟩⟩
    show ι' g.w.heap.size (0 + j) = some v
    have hjl : j < b.length := by
      rcases Nat.lt_or_ge j b.length with h1 | h1
      · exact h1
      · simp [List.getElem?_eq_none h1] at hj
    rw [Nat.zero_add, hι j hjl]
    simp only [cs]
    rw [Array.getElem?_append_left (by simpa using hjl)]
    simpa using hj
  · rename_i e hns
    simp only [Option.bind_eq_some_iff] at hl
    obtain ⟨ed, he, hl⟩ := hl
    split at hl
    case h_2 => cases hl
    simp only [Option.bind_eq_some_iff] at hl
    obtain ⟨n, hn, cs, hcs, bs, hbs, hl⟩ := hl
    have hbytes : ∀ (cs : List AVal) (vs : List Value) (bs : List UInt8), VsRel g.ι g.μ cs vs → aconvert.bytesOf cs = some bs → ∃ xs : List Int, vs = xs.map (Value.int .u8) ∧ bs = xs.map fun n => UInt8.ofNat n.toNat := by
      intro cs
      induction cs with
      | nil => intro vs bs hv hb; cases hv; simp only [aconvert.bytesOf, Option.some.injEq] at hb; subst hb; exact ⟨[], rfl, rfl⟩
      | cons c cs ih =>
        intro vs bs hv hb
        cases hv with
        | cons h1 hs =>
          unfold aconvert.bytesOf at hb
          split at hb
          · rename_i heq; cases heq
          · rename_i m r heq
            cases heq
            simp only [Option.bind_eq_bind, Option.bind_eq_some_iff, Option.some.injEq] at hb
            obtain ⟨bs', hb', rfl⟩ := hb
            cases h1
            obtain ⟨xs, rfl, rfl⟩ := ih _ _ hs hb'
            exact ⟨m :: xs, rfl, rfl⟩
          · cases hb
    simp only [Option.some.injEq] at hl; subst hl
    have fin : ∀ (b o len cap : Nat) (vs : List Value), VsRel g.ι g.μ cs vs → vs.length = len → CellsAt g.w b o vs → OkV B h g ((convert src dst (.slice (some ⟨b, o, none⟩) len cap)).run P g.w) (.str bs) h := by
      intro b o len cap vs hvs hvl hca
      obtain ⟨xs, rfl, rfl⟩ := hbytes cs vs bs hvs hbs
      refine ⟨_, g, run_convert_bytes_arg g.w src e hs he b o len cap xs (by simpa using hvl) (fun i hi => ?_) dst hd, I, Ext.refl h g, .str _⟩
      have hix : i < xs.length := by simp at hvl; omega
      refine hca i _ ?_
      simp [hix, List.getD_eq_getElem?_getD]
    have fin0 : ∀ (a : Addr) (cap : Nat), cs = [] → OkV B h g ((convert src dst (.slice (some a) 0 cap)).run P g.w) (.str bs) h := by
      intro a cap hc0
      subst hc0
      simp only [aconvert.bytesOf, Option.some.injEq] at hbs; subst hbs
      refine ⟨.string ⟨#[]⟩, g, ?_, I, Ext.refl h g, .str []⟩
      simp [convert, run_underlying hs, run_underlying hd, run_underlying he, Conv.bytesToString, loadCells, loadCellsFrom]
      rfl
    cases hx <;> (try (simp only [srcCells] at hcs; cases hcs; done))
    case str s0 => exact absurd rfl (hns s0)
    case nilSl =>
      simp only [lenA, Option.some.injEq] at hn; subst hn
      simp only [srcCells, if_true, Option.some.injEq] at hcs; subst hcs
      simp only [aconvert.bytesOf, Option.some.injEq] at hbs; subst hbs
      exact ⟨_, g, run_convert_bytes_nil g.w src e hs he 0 0 dst hd, I, Ext.refl h g, .str []⟩
    case lst cells ws len cap' cap a hc hi hsp hn' hcap =>
      simp only [lenA, Option.some.injEq] at hn; subst hn
      simp only [srcCells, Nat.le_refl, true_and, Nat.mul_one] at hcs
      split at hcs
      case isFalse => cases hcs
      rename_i hlen
      simp only [Option.some.injEq] at hcs; subst hcs
      rcases Nat.eq_zero_or_pos len with h0 | h0
      · subst h0; exact fin0 a cap' (by simp)
      · obtain ⟨b, o, sp⟩ := a
        have : sp = none := hsp h0
        subst this
        have hcl := hc.length
        exact fin b o len cap' (ws.take len) (hc.take len) (by simp; omega) ((hi.at_ I).take len)
    case sl id off es len cap cap' b o s op a hm hn' hcap hop ha =>
      simp only [srcCells] at hcs
      split at hcs
      case h_2 => cases hcs
      rename_i cells hget
      split at hcs
      case isFalse => cases hcs
      rename_i hcond
      simp only [Option.some.injEq] at hcs; subst hcs
      obtain ⟨rfl, hnl, hfit⟩ := hcond
      simp only [lenA, Option.some.injEq] at hn; subst hn
      obtain ⟨b', o', ccs, e', ws, hm', h0, hh, hws, hcs', hni⟩ := I.blk _ _ hget
      rw [hm'] at hm
      simp only [Option.some.injEq, Ent.arr.injEq] at hm
      obtain ⟨rfl, rfl, rfl⟩ := hm
      simp only [Nat.mul_one] at *
      rcases Nat.eq_zero_or_pos len with h0 | h0
      · subst h0; exact fin0 a cap' (by simp)
      · obtain ⟨ha1, ha2⟩ := ha (by omega)
        subst ha1
        have hca : CellsAt g.w b' (o' + off) (ws.drop off) := fun j v hj => by
          rw [cell?_of_heap hh, Nat.add_assoc]; exact hcs' (off + j) v (by simpa using hj)
        have hwl := hws.length
        exact fin b' (o' + off) len cap' ((ws.drop off).take len) ((hws.drop off).take len) (by simp; omega) (hca.take len)
  · cases hl

theorem makeSlice_run {t e : TypeId} {i : TypeInfo} {z : Value} {k k' : IntKind} {n m : Int} {w : World} (hd : P.underlying t = some (.slice e)) (hi : P.info? e = some i) (hz : i.zero = some z) (hzs : z.cells.size = i.size) (h0 : 0 ≤ n) (h1 : n ≤ m) (h2 : m ≤ 9223372036854775807) (hb : i.bytes * m.toNat ≤ 2 ^ 47) (hs : i.size ≠ 0) :
    ∃ cs, (Instr.makeSlice t (.int k n) (.int k' m)).run P w = .ok (.slice (some ⟨w.heap.size, 0, none⟩) n.toNat m.toNat) { w with heap := w.heap.push (.cells cs e) } ∧ cs = (Array.range (m.toNat * i.size)).map (fun j => z.cells[j % z.cells.size]!) := by
  refine ⟨(Array.range (m.toNat * i.size)).map (fun j => z.cells[j % z.cells.size]!), ?_, rfl⟩
  have w1 : IntKind.i64.wrap n = n := by rw [IntKind.wrap_i64]; omega
  have w2 : IntKind.i64.wrap m = m := by rw [IntKind.wrap_i64]; omega
  have hbm : ¬ ((i.bytes : Int) * m > 2 ^ 48) := by
    have : ((i.bytes * m.toNat : Nat) : Int) = (i.bytes : Int) * m := by
      rw [Int.natCast_mul, Int.toNat_of_nonneg (by omega)]
    omega
  simp only [Instr.makeSlice, Sem.run_bind, run_underlying hd, Result.andThen_ok, asInt, asIntOf, Sem.run_pure, run_typeInfo' hi, w1, w2]
  have c1 : (decide (m < 0) || decide ((i.bytes : Int) * m > 2 ^ 48)) = false := by simp; omega
  have c2 : (decide (n < 0)) = false := by simp; omega
  have c3 : (decide (n > m)) = false := by simp; omega
  simp only [c1, c2, c3, Bool.or_self, Bool.false_eq_true, if_false, Sem.run_bind, run_askRoom, Result.andThen_ok, run_sizeOf' hi]
  by_cases hm0 : m.toNat * i.size = 0
  · have hmz : m.toNat = 0 := (Nat.mul_eq_zero.1 hm0).resolve_right hs
    have hz1 : ∀ f : Nat → Value, (Array.range 0).map f = #[] := fun f => by simp
    simp only [hm0, if_true, Sem.run_bind, Sem.run_pure, Result.andThen_ok, hz1, run_newRow]
  · simp only [hm0, if_false, Sem.run_bind, run_zeroValue hi hz, Result.andThen_ok, Sem.run_pure, run_newRow]


theorem makeSlice_ok (I : Inv B h g) {t e : TypeId} {i : TypeInfo} {z : Value} {k k' : IntKind} {n m : Int} (hd : P.underlying t = some (.slice e)) (hi : P.info? e = some i) (hz : i.zero = some z) (hzs : (ofV z).cells.length = i.size) (h0 : 0 ≤ n) (h1 : n ≤ m) (h2 : m ≤ 9223372036854775807) (hb : i.bytes * m.toNat ≤ 2 ^ 47) (hs : i.size ≠ 0) :
    (n = 0 → OkV B h g ((Instr.makeSlice t (.int k n) (.int k' m)).run P g.w) (.lst [] 0 (.tok h.next)) (h.new (.tok i.size))) ∧
    OkV B h g ((Instr.makeSlice t (.int k n) (.int k' m)).run P g.w) (.sl h.next 0 i.size n.toNat m.toNat false) (h.new (.arr (zerosA (ofV z).cells m.toNat))) := by
  have hzr := ofV_cells (ι := g.ι) (μ := g.μ) z
  have hzc : z.cells.size = i.size := by have := hzr.length; simp at this; omega
  obtain ⟨cs, hr, hcs⟩ := makeSlice_run (k := k) (k' := k') (w := g.w) hd hi hz hzc h0 h1 h2 hb hs
  have hsz : cs.size = m.toNat * i.size := by rw [hcs]; simp
  constructor
  · intro hn
    subst hn
    obtain ⟨ι', I', E, hι⟩ := I.freshTok (w' := { g.w with heap := g.w.heap.push (.cells cs e) }) (cs := cs) (e := e) (lo := 0) (hi := 0) ⟨rfl, rfl, rfl, rfl⟩ 0 i.size (fun j _ _ => by omega)
    refine ⟨_, ⟨_, ι', _⟩, hr, I', E, ?_⟩
    exact VRel.lst .nil (fun j v hj => by simp at hj) (fun _ => rfl) (Nat.zero_le _) ⟨g.w.heap.size, 0, cs.size, i.size, by simp only [addMu, if_true], fun _ => ⟨Nat.le_refl _, rfl, by rw [hsz]; simp⟩⟩
  · have hrel := zeros_rel hzr m.toNat (m.toNat * i.size) (by rw [hzc])
    rw [← hcs] at hrel
    have T := I.newArr (w' := { g.w with heap := g.w.heap.push (.cells cs e) }) (cs := cs) (e := e) ⟨rfl, rfl, rfl, rfl⟩ hrel (fun j v hj => by simpa using hj) (by have := hrel.length; simp at this; omega)
    exact ⟨_, _, hr, T.1, T.2, VRel.sl (b := g.w.heap.size) (o := 0) (s := cs.size) (by simp only [addMu, if_true]) (by omega) (Nat.le_refl _) (fun _ => rfl) (fun _ => ⟨rfl, by rw [hsz]; omega⟩)⟩

/-! ### all operations -/
/-- An operation's answer: a value (or nothing), and a world. -/
def OkOp (B : Nat) (h : AHeap) (g : G) (r : Result Next) (v : AVal) (h' : AHeap) : Prop :=
  ∃ v' g' nx, r = .ok nx g'.w ∧ (nx = .value v' ∨ (nx = .skip ∧ v' = undef)) ∧ Inv B h' g' ∧ Ext h g h' g' ∧ VRel g'.ι g'.μ v v'

theorem OkOp.ofV {s : Sem Value} {v : AVal} {h' : AHeap} (hs : OkV B h g (s.run P g.w) v h') : OkOp B h g ((do pure (.value (← s)) : Sem Next).run P g.w) v h' := by
  obtain ⟨v', g', hr, I, E, hv⟩ := hs
  exact ⟨v', g', .value v', by simp only [Sem.run_bind, hr, Result.andThen_ok, Sem.run_pure], .inl rfl, I, E, hv⟩
theorem OkOp.ofU {s : Sem Unit} {h' : AHeap} (hs : OkU B h g (s.run P g.w) h') : OkOp B h g ((do s; pure .skip : Sem Next).run P g.w) .top h' := by
  obtain ⟨g', hr, I, E⟩ := hs
  exact ⟨undef, g', .skip, by simp only [Sem.run_bind, hr, Result.andThen_ok, Sem.run_pure], .inr ⟨rfl, rfl⟩, I, E, .top _⟩
theorem OkV.ofP (I : Inv B h g) {r : Result Value} {v : AVal} (hs : ∃ v', r = .ok v' g.w ∧ VRel g.ι g.μ v v') : OkV B h g r v h := by
  obtain ⟨v', hr, hv⟩ := hs
  exact ⟨v', g, hr, I, Ext.refl h g, hv⟩

theorem parts_rel {ev : Operand → AVal} {ρ : Operand → Value} (hev : ∀ x, VRel g.ι g.μ (ev x) (ρ x)) (parts : Array (Nat × Operand)) : PsRel g.ι g.μ (parts.toList.map fun p => (p.1, ev p.2)) (parts.map fun (i, x) => (i, ρ x)).toList := by
  rw [Array.toList_map]
  induction parts.toList with
  | nil => exact .nil
  | cons p ps ih => exact .cons (hev _) ih
theorem args_rel {ev : Operand → AVal} {ρ : Operand → Value} (hev : ∀ x, VRel g.ι g.μ (ev x) (ρ x)) (args : Array Operand) : VsRel g.ι g.μ (args.toList.map ev) (args.map ρ).toList := by
  rw [Array.toList_map]
  exact VsRel.map_of _ fun x _ => hev x
theorem o_rel {ev : Operand → AVal} {ρ : Operand → Value} (hev : ∀ x, VRel g.ι g.μ (ev x) (ρ x)) (x : Option Operand) : ORel g.ι g.μ (x.map ev) (x.map ρ) := by
  cases x with
  | none => exact .none
  | some x => exact .some (hev x)

theorem builtin_ok {C : Cfg} {own : Bool} (hC : C.P = P) (I : Inv B h g) {b : Builtin} {ts : Array TypeId} {ty : TypeId} {cons : Array Bool} {args : List AVal} {as : Array Value} {r : AVal × AHeap} (ha : VsRel g.ι g.μ args as.toList) (hl : abuiltin C own b ts.toList h args = some r) :
    OkOp B h g ((builtin b ts ty cons as).run P g.w) r.1 r.2 := by
  subst hC
  have get0 : ∀ {x : AVal} {rest : List AVal}, args = x :: rest → ∃ x' , as[0]? = some x' ∧ VRel g.ι g.μ x x' := by
    intro x rest he
    obtain ⟨y, hy, hr⟩ := ha.get (j := 0) (x := x) (by rw [he]; rfl)
    exact ⟨y, by rw [← Array.getElem?_toList]; exact hy, hr⟩
  have get1 : ∀ {x k : AVal} {rest : List AVal}, args = x :: k :: rest → ∃ x' , as[1]? = some x' ∧ VRel g.ι g.μ k x' := by
    intro x k rest he
    obtain ⟨y, hy, hr⟩ := ha.get (j := 1) (x := k) (by rw [he]; rfl)
    exact ⟨y, by rw [← Array.getElem?_toList]; exact hy, hr⟩
  have ty0 : ∀ {t : TypeId} {rest : List TypeId}, ts.toList = t :: rest → ts[0]? = some t := by
    intro t rest he
    rw [← Array.getElem?_toList, he]; rfl
  cases b <;> simp only [abuiltin] at hl <;> try (cases hl; done)
  case append =>
    unfold aappend at hl
    split at hl
    case h_2 => cases hl
    rename_i sT xT s x hts
    simp only [Option.bind_eq_bind, Option.bind_eq_some_iff] at hl
    obtain ⟨d, hd, hl⟩ := hl
    cases d <;> try (cases hl; done)
    case slice e =>
    simp only [Option.bind_eq_some_iff] at hl
    obtain ⟨i, hi, z, hz, d2, hd2, hl⟩ := hl
    split at hl
    case h_1 => cases hl
    rename_i hni
    split at hl
    case isFalse => cases hl
    rename_i hzs
    have hts' : ts = #[sT, xT] := by apply Array.ext'; simpa using hts
    subst hts'
    obtain ⟨al⟩ := as
    cases ha with | cons h1 hs =>
    cases hs with | cons h2 hs =>
    cases hs
    exact OkOp.ofV (appendA_ok I hd hi hz hzs hd2 (fun k hk => hni k hk) h1 h2 hl)
  case copy => exact OkOp.ofV (copy_ok I rfl ha hl)
  case len =>
    split at hl
    case h_2 => cases hl
    rename_i t tr x xr hts
    simp only [Option.map_eq_some_iff] at hl
    obtain ⟨v, hv, rfl⟩ := hl
    obtain ⟨x', hx', hr⟩ := get0 rfl
    exact OkOp.ofV (OkV.ofP I (len_ok I (ty0 hts) hx' hr hv))
  case cap =>
    split at hl
    case h_2 => cases hl
    rename_i t tr x xr hts
    simp only [Option.map_eq_some_iff] at hl
    obtain ⟨v, hv, rfl⟩ := hl
    obtain ⟨x', hx', hr⟩ := get0 rfl
    exact OkOp.ofV (OkV.ofP I (cap_ok (ty0 hts) hx' hr hv))
  case clear =>
    split at hl
    case h_2 => cases hl
    rename_i t tr x xr hts
    simp only [Option.map_eq_some_iff] at hl
    obtain ⟨v, hv, rfl⟩ := hl
    obtain ⟨x', hx', hr⟩ := get0 rfl
    exact OkOp.ofV (clear_ok I (ty0 hts) hx' hr hv)
  case delete =>
    split at hl
    case h_2 => cases hl
    rename_i t tr x k xr hts
    simp only [Option.map_eq_some_iff] at hl
    obtain ⟨v, hv, rfl⟩ := hl
    obtain ⟨x', hx', hr⟩ := get0 rfl
    obtain ⟨k', hk', hr2⟩ := get1 rfl
    exact OkOp.ofV (delete_ok I (ty0 hts) hx' hk' hr hr2 hv)
  case max =>
    split at hl
    case h_2 => cases hl
    rename_i x xr
    simp only [Option.map_eq_some_iff] at hl
    obtain ⟨v, hv, rfl⟩ := hl
    obtain ⟨al⟩ := as
    cases ha with | cons h1 hs =>
    obtain ⟨v', hr, hv'⟩ := foldMax_ok (P := C.P) h1 hs hv
    exact OkOp.ofV (OkV.ofP I ⟨v', by simpa [Builtin.max_] using hr, hv'⟩)
  case min =>
    split at hl
    case h_2 => cases hl
    rename_i x xr
    simp only [Option.map_eq_some_iff] at hl
    obtain ⟨v, hv, rfl⟩ := hl
    obtain ⟨al⟩ := as
    cases ha with | cons h1 hs =>
    obtain ⟨v', hr, hv'⟩ := foldMax_ok (P := C.P) h1 hs hv
    exact OkOp.ofV (OkV.ofP I ⟨v', by simpa [Builtin.min_] using hr, hv'⟩)
end
end Go.Am
