/-
  THE ABSTRACT MACHINE: lengths, append, copy.
-/
import Derived.Test.YtgjdlakemaabfaaAmOps3
import Derived.Room.Entries
set_option linter.unusedVariables false
set_option linter.unusedSimpArgs false
namespace Go.Am
open Go

section
variable {P : Program} {g : G} {B : Nat} {h : AHeap}

theorem len_ok (I : Inv B h g) {t : TypeId} {x v : AVal} {x' : Value} {ty : TypeId} {ts : Array TypeId} {as : Array Value} (hts : ts[0]? = some t) (has : as[0]? = some x') (hx : VRel g.ι g.μ x x') (hl : alen P h t x = some v) :
    ∃ v', (Builtin.len_ ts ty as).run P g.w = .ok v' g.w ∧ VRel g.ι g.μ v v' := by
  simp only [alen, Option.bind_eq_bind, Option.bind_eq_some_iff] at hl
  obtain ⟨d, hd, hl⟩ := hl
  simp only [Builtin.len_, hts, has, Sem.run_bind, run_underlying hd, Result.andThen_ok]
  split at hl
  · rename_i s
    simp only [Option.some.injEq] at hl; subst hl; cases hx
    exact ⟨.int .i64 s.length, by simp [goInt, bytes_size], .int _ _⟩
  · simp only [Option.some.injEq] at hl; subst hl
    exact ⟨_, rfl, .int _ _⟩
  · simp only [Option.some.injEq] at hl; subst hl; cases hx; exact ⟨_, rfl, .int _ _⟩
  · simp only [Option.some.injEq] at hl; subst hl; cases hx; exact ⟨_, rfl, .int _ _⟩
  · simp only [Option.some.injEq] at hl; subst hl; cases hx; exact ⟨_, rfl, .int _ _⟩
  · simp only [Option.some.injEq] at hl; subst hl; cases hx; exact ⟨_, rfl, .int _ _⟩
  · split at hl
    · rename_i es c hget
      simp only [Option.some.injEq] at hl; subst hl
      obtain ⟨b, es', hm, h0, hh, hes⟩ := I.blk _ _ hget
      cases hx with | map hm' =>
      rw [hm] at hm'; cases hm'
      refine ⟨.int .i64 es'.size, ?_, ?_⟩
      · simp [getObj, Sem.run, hh, goInt]
      · have : es.length = es'.size := by
          have aux : ∀ {xs : List (AVal × AVal × Nat)} {ys : List MapEntry}, EsRel g.ι g.μ xs ys → xs.length = ys.length := by
            intro xs ys hr; induction hr with
            | nil => rfl
            | cons _ _ _ _ ih => simp [ih]
          simpa using aux hes
        rw [this]; exact .int _ _
    · cases hl
  · cases hl

theorem cap_ok {t : TypeId} {x v : AVal} {x' : Value} {ty : TypeId} {ts : Array TypeId} {as : Array Value} (hts : ts[0]? = some t) (has : as[0]? = some x') (hx : VRel g.ι g.μ x x') (hl : acap P t x = some v) :
    ∃ v', (Builtin.cap_ ts ty as).run P g.w = .ok v' g.w ∧ VRel g.ι g.μ v v' := by
  simp only [acap, Option.bind_eq_bind, Option.bind_eq_some_iff] at hl
  obtain ⟨d, hd, hl⟩ := hl
  simp only [Builtin.cap_, hts, has, Sem.run_bind, run_underlying hd, Result.andThen_ok]
  split at hl
  · simp only [Option.some.injEq] at hl; subst hl; cases hx; exact ⟨_, rfl, .int _ _⟩
  · simp only [Option.some.injEq] at hl; subst hl
    cases hx with | lst hc hi hs hn hcap =>
    simp only [CapRel] at hcap; subst hcap
    exact ⟨_, rfl, .int _ _⟩
  · simp only [Option.some.injEq] at hl; subst hl
    cases hx with | sl hm hn hcap hop ha =>
    have := hop rfl; subst this
    exact ⟨_, rfl, .int _ _⟩
  · cases hl

theorem CellsAt.heap {w w' : World} {b o : Nat} {vs : List Value} (h : CellsAt w b o vs) (hw : w'.heap = w.heap) : CellsAt w' b o vs := fun j v hv => (cell?_congr (by rw [hw])).trans (h j v hv)
/-- What may be appended or copied. -/
theorem src_ok (I : Inv B h g) {es n : Nat} {x : AVal} {x' : Value} {new : List AVal} (hx : VRel g.ι g.μ x x') (hl : srcCells h es n x = some new) :
    (∃ vs, VsRel g.ι g.μ new vs ∧ vs.length = n * es ∧ ∀ w', w'.heap = g.w.heap → (Builtin.firstCells es n x').run P w' = .ok vs.toArray w') ∧ ∀ m, lenA h x = some m → (Builtin.lenOf x').run P g.w = .ok m g.w := by
  unfold srcCells at hl
  split at hl
  · split at hl
    case isFalse => cases hl
    rename_i hn
    simp only [Option.some.injEq] at hl; subst hl; subst hn
    cases hx
    refine ⟨⟨[], .nil, by simp, fun _ _ => rfl⟩, fun m hm => ?_⟩
    simp only [lenA, Option.some.injEq] at hm; subst hm; rfl
  · rename_i s
    split at hl
    case isFalse => cases hl
    rename_i hn
    simp only [Option.some.injEq] at hl; subst hl
    obtain ⟨rfl, hn⟩ := hn
    cases hx
    refine ⟨⟨(s.take n).map fun b => .int .u8 b.toNat, VsRel.map_of _ fun _ _ => .int _ _, by simp; omega, fun w' _ => ?_⟩, fun m hm => ?_⟩
    · simp only [Builtin.firstCells]
      rw [bytes_extract]
      simp
    · simp only [lenA, Option.some.injEq] at hm; subst hm
      simp [Builtin.lenOf, bytes_size]
  · rename_i cells len cap
    split at hl
    case isFalse => cases hl
    rename_i hn
    simp only [Option.some.injEq] at hl; subst hl
    obtain ⟨hn, hcl⟩ := hn
    cases hx with
    | @lst _ vs _ cap' _ a hc hi hs hn' hcap =>
    have hlen := hc.length
    have hle : n * es ≤ len * es := Nat.mul_le_mul_right _ hn
    have hvl : (vs.take (n * es)).length = n * es := by simp; omega
    refine ⟨⟨vs.take (n * es), hc.take _, hvl, fun w' hw' => ?_⟩, fun m hm => ?_⟩
    · simp only [Builtin.firstCells]
      rcases Nat.eq_zero_or_pos (n * es) with h0 | h0
      · rw [h0]; simp [loadCells, loadCellsFrom]
      · obtain ⟨b, o, sp⟩ := a
        have : sp = none := hs (by
          rcases Nat.eq_zero_or_pos len with h1 | h1
          · subst h1; simp at hle; simp [hle] at h0
          · exact h1)
        subst this
        have := run_loadCells (P := P) (vs.take (n * es)) (((hi.at_ I).take (n * es)).heap hw')
        rw [hvl] at this; exact this
    · simp only [lenA, Option.some.injEq] at hm; subst hm; rfl
  · rename_i id off es' len cap op
    split at hl
    case h_2 => cases hl
    rename_i cells hget
    split at hl
    case isFalse => cases hl
    rename_i hn
    simp only [Option.some.injEq] at hl; subst hl
    obtain ⟨rfl, hn, hfit⟩ := hn
    obtain ⟨b, o, cs, e, ws, hm, h0, hh, hws, hcs, hni⟩ := I.blk _ _ hget
    cases hx with
    | @sl _ _ _ _ _ cap' b' o' s _ a hm' hn' hcap hop ha =>
    rw [hm] at hm'
    simp only [Option.some.injEq, Ent.arr.injEq] at hm'
    obtain ⟨rfl, rfl, rfl⟩ := hm'
    have hlen := hws.length
    have hle : n * es' ≤ len * es' := Nat.mul_le_mul_right _ hn
    have hvl : ((ws.drop off).take (n * es')).length = n * es' := by simp; omega
    refine ⟨⟨(ws.drop off).take (n * es'), (hws.drop _).take _, hvl, fun w' hw' => ?_⟩, fun m hm => ?_⟩
    · simp only [Builtin.firstCells]
      rcases Nat.eq_zero_or_pos (n * es') with h1 | h1
      · rw [h1]; simp [loadCells, loadCellsFrom]
      · have hl0 : 0 < len := by
          rcases Nat.eq_zero_or_pos len with h2 | h2
          · subst h2; simp at hle; simp [hle] at h1
          · exact h2
        obtain ⟨ha1, ha2⟩ := ha (by omega)
        subst ha1
        have hca : CellsAt g.w b (o + off) (ws.drop off) := fun j v hj => by
          rw [cell?_of_heap hh, Nat.add_assoc]; exact hcs (off + j) v (by simpa using hj)
        have := run_loadCells (P := P) _ ((hca.take (n * es')).heap hw')
        rw [hvl] at this; exact this
    · simp only [lenA, Option.some.injEq] at hm; subst hm; rfl
  · cases hl

/-! ### append -/
theorem append_fit {sT xT e ty : TypeId} {i : TypeInfo} {d : TypeDesc} {a : Addr} {sLen sCap m : Nat} {x' : Value} {new : List Value} {w w' : World} (hd : P.underlying sT = some (.slice e)) (hi : P.info? e = some i) (hx : P.underlying xT = some d) (hni : ∀ k, d ≠ .int k)
    (hn : (Builtin.lenOf x').run P w = .ok m w) (hf : (Builtin.firstCells i.size m x').run P w = .ok new.toArray w) (hle : sLen + m ≤ sCap) (hst : (storeCells (a.add (sLen * i.size)) new).run P w = .ok () w') :
    (Builtin.append_ #[sT, xT] ty #[.slice (some a) sLen sCap, x']).run P w = .ok (.slice (some a) (sLen + m) sCap) w' := by
  have hz : (match d with | .int _ => true | _ => false) = false := by cases d <;> first | rfl | exact absurd rfl (hni _)
  simp only [Builtin.append_, List.getElem?_toArray, List.getElem?_cons_zero, List.getElem?_cons_succ, Sem.run_bind, run_underlying hd, Result.andThen_ok, run_sizeOf' hi, run_underlying hx, Sem.run_pure, hz, Bool.false_eq_true, if_false, hn, Bool.not_false, if_true, hle, hf, hst]

theorem append_none {sT xT e ty : TypeId} {i : TypeInfo} {d : TypeDesc} {x' : Value} {new : Array Value} {w : World} (hd : P.underlying sT = some (.slice e)) (hi : P.info? e = some i) (hx : P.underlying xT = some d) (hni : ∀ k, d ≠ .int k)
    (hn : (Builtin.lenOf x').run P w = .ok 0 w) (hf : (Builtin.firstCells i.size 0 x').run P w = .ok new w) :
    (Builtin.append_ #[sT, xT] ty #[.slice none 0 0, x']).run P w = .ok (.slice none 0 0) w := by
  have hz : (match d with | .int _ => true | _ => false) = false := by cases d <;> first | rfl | exact absurd rfl (hni _)
  simp only [Builtin.append_, List.getElem?_toArray, List.getElem?_cons_zero, List.getElem?_cons_succ, Sem.run_bind, run_underlying hd, Result.andThen_ok, run_sizeOf' hi, run_underlying hx, Sem.run_pure, hz, Bool.false_eq_true, if_false, hn, Bool.not_false, if_true, Nat.add_zero, Nat.le_refl, hf]

theorem append_grow {sT xT e ty : TypeId} {i : TypeInfo} {z : Value} {d : TypeDesc} {base : Option Addr} {sLen sCap m : Nat} {x' : Value} {old new : List Value} {w : World} (hd : P.underlying sT = some (.slice e)) (hi : P.info? e = some i) (hz0 : i.zero = some z) (hx : P.underlying xT = some d) (hni : ∀ k, d ≠ .int k)
    (hn : (Builtin.lenOf x').run P w = .ok m w) (hf : ∀ w', w'.heap = w.heap → (Builtin.firstCells i.size m x').run P w' = .ok new.toArray w') (ho : ∀ w', w'.heap = w.heap → (Builtin.firstCells i.size sLen (.slice base sLen sCap)).run P w' = .ok old.toArray w') (hgt : sCap < sLen + m)
    (hb : (sLen + m) * i.bytes ≤ 2 ^ 47) (hmax : sLen + m ≤ 9223372036854775807) :
    ∃ cap w', sLen + m ≤ cap ∧ (Builtin.append_ #[sT, xT] ty #[.slice base sLen sCap, x']).run P w = .ok (.slice (some ⟨w.heap.size, 0, none⟩) (sLen + m) cap) w' ∧
      Psh w w' (.cells (old.toArray ++ new.toArray ++ Builtin.zeroCells z.cells (cap - (sLen + m))) e (0, 0)) := by
  have hz : (match d with | .int _ => true | _ => false) = false := by cases d <;> first | rfl | exact absurd rfl (hni _)
  have hpick : ¬ Builtin.nextslicecap (sLen + m) sCap * i.bytes > 2 ^ 48 := by
    have h1 := Nat.mul_le_mul_right i.bytes (Room.nextslicecap_le' hgt)
    rw [Nat.mul_assoc] at h1
    omega
  have hmax' : ¬ ((sLen + m : Nat) : Int) > IntKind.i64.max := by show ¬ ((sLen + m : Nat) : Int) > 9223372036854775807; omega
  refine ⟨(Question.appendCap (sLen + m) sCap e).cut (w.tape w.drawn (.appendCap (sLen + m) sCap e)), { w with heap := w.heap.push (.cells (old.toArray ++ new.toArray ++ Builtin.zeroCells z.cells ((Question.appendCap (sLen + m) sCap e).cut (w.tape w.drawn (.appendCap (sLen + m) sCap e)) - (sLen + m))) e), drawn := w.drawn + 1 }, by simp only [Question.cut]; omega, ?_, ⟨rfl, rfl, rfl, rfl⟩⟩
  simp only [Builtin.append_, List.getElem?_toArray, List.getElem?_cons_zero, List.getElem?_cons_succ, Sem.run_bind, run_underlying hd, Result.andThen_ok, run_sizeOf' hi, run_underlying hx, Sem.run_pure, hz, Bool.false_eq_true, if_false, hn, Bool.not_false, if_true,
    show ¬ sLen + m ≤ sCap from by omega, hmax', false_and, pure_bind, run_typeInfo' hi, hpick, run_choose, Question.forced, run_askRoom]
  rw [ho { w with drawn := w.drawn + 1 } rfl]
  simp only [Result.andThen_ok]
  rw [hf { w with drawn := w.drawn + 1 } rfl]
  simp only [Result.andThen_ok, run_zeroValue hi hz0, run_newRow]

theorem isCells_new {new : List AVal} {vs : List Value} (hv : VsRel g.ι g.μ new vs) (hc : new.all AVal.isCell = true) : ∀ v ∈ vs, v.oneCell' = true := hv.oneCells hc

theorem zeroCells_size (z : Array Value) (n : Nat) : (Builtin.zeroCells z n).size = n * z.size := by simp [Builtin.zeroCells]

/-- A new array of one's own behind an append that grew: bears its content, and room behind it. -/
theorem grown_lst {I : Inv B h g} {w' : World} {old new : List AVal} {ov nv : List Value} {z : Array Value} {e : TypeId} {need cap es : Nat} (ho : VsRel g.ι g.μ old ov) (hn : VsRel g.ι g.μ new nv) (hlen : ov.length + nv.length = need * es) (hz : z.size = es) (hcap : need ≤ cap)
    (p : Psh g.w w' (.cells (ov.toArray ++ nv.toArray ++ Builtin.zeroCells z (cap - need)) e (0, 0))) :
    ∃ ι' μ', Inv B (h.new (.tok es)) ⟨w', ι', μ'⟩ ∧ Ext h g (h.new (.tok es)) ⟨w', ι', μ'⟩ ∧ VRel ι' μ' (.lst (old ++ new) need (.tok h.next)) (.slice (some ⟨g.w.heap.size, 0, none⟩) need cap) := by
  obtain ⟨ι', I', E, hι⟩ := I.freshTok p (need * es) es (fun j _ _ => by omega)
  refine ⟨ι', _, I', E, ?_⟩
  have hrel := (ho.append hn).mono E.le
  refine VRel.lst hrel (fun j v hj => ?_) (fun _ => rfl) hcap ⟨g.w.heap.size, need * es, (ov.toArray ++ nv.toArray ++ Builtin.zeroCells z (cap - need)).size, es, by simp only [addMu, if_true], fun hlt => ?_⟩
  · have hjl : j < (ov ++ nv).length := by
      rcases Nat.lt_or_ge j (ov ++ nv).length with h1 | h1
      · exact h1
      · simp [List.getElem?_eq_none h1] at hj
    show ι' g.w.heap.size (0 + j) = some v
    rw [Nat.zero_add, hι j (by simp at hjl; omega)]
    rw [← Array.getElem?_toList]
    simp only [Array.toList_append]
    rw [List.getElem?_append_left (by simpa using hjl)]
    exact hj
  · have hl := (ho.append hn).length
    simp only [List.length_append] at hl ⊢
    have h1 : (cap - need) * es + need * es = cap * es := by rw [← Nat.add_mul]; congr 1; omega
    refine ⟨by omega, ?_, ?_⟩
    · congr 1; omega
    · simp only [Array.size_append, List.size_toArray, zeroCells_size, hz]; omega

theorem appendA_ok {own : Bool} (I : Inv B h g) {sT xT e ty : TypeId} {i : TypeInfo} {z : Value} {d : TypeDesc} {s x : AVal} {s' x' : Value} {r : AVal × AHeap} (hd : P.underlying sT = some (.slice e)) (hi : P.info? e = some i) (hz : i.zero = some z) (hzs : (ofV z).cells.length = i.size)
    (hx : P.underlying xT = some d) (hni : ∀ k, d ≠ .int k) (hs : VRel g.ι g.μ s s') (hxr : VRel g.ι g.μ x x') (hl : appendA own h i.size i.bytes s x = some r) : OkV B h g ((Builtin.append_ #[sT, xT] ty #[s', x']).run P g.w) r.1 r.2 := by
  have hzc : z.cells.size = i.size := by have := (ofV_cells (ι := g.ι) (μ := g.μ) z).length; simp at this; omega
  simp only [appendA, Option.bind_eq_bind, Option.bind_eq_some_iff] at hl
  obtain ⟨m, hm, new, hnew, hl⟩ := hl
  split at hl
  case isFalse => cases hl
  rename_i hcell
  obtain ⟨⟨nv, hnv, hnl, hnf⟩, hlen⟩ := src_ok (P := P) I hxr hnew
  have hlen := hlen m hm
  have hnf' := hnf
  replace hnf := hnf g.w rfl
  split at hl
  · -- nil
    cases hs
    split at hl
    · rename_i hm0
      simp only [Option.some.injEq] at hl; subst hl; subst hm0
      exact ⟨_, g, append_none hd hi hx hni hlen hnf, I, Ext.refl h g, .nilSl⟩
    · split at hl
      case isFalse => cases hl
      rename_i hm0 hb
      obtain ⟨cap, w', hcap, hr, hp⟩ := append_grow (ty := ty) (base := none) (sLen := 0) (sCap := 0) (old := []) hd hi hz hx hni hlen hnf' (fun w' _ => rfl) (by omega) (by simpa using hb.1) (by omega)
      split at hl
      · simp only [Option.some.injEq] at hl; subst hl
        have hl2 : nv.length = m * i.size := hnl
        have T := I.newArr hp hnv (fun j v hj => by
          have hjl : j < nv.length := by
            rcases Nat.lt_or_ge j nv.length with h1 | h1
            · exact h1
            · simp [List.getElem?_eq_none h1] at hj
          rw [← Array.getElem?_toList]
          simp only [Array.toList_append]
          rw [List.getElem?_append_left (by simp; omega)]
          simpa using hj) (by have := hnv.length; simp only [Array.size_append, List.size_toArray, List.length_nil]; omega)
        have hcap' : m ≤ cap := by omega
        refine ⟨_, ⟨w', _, _⟩, by simpa using hr, T.1, T.2, VRel.sl (o := 0) (s := (([] : List Value).toArray ++ nv.toArray ++ Builtin.zeroCells z.cells (cap - (0 + m))).size) (by simp only [addMu, if_true]) (Nat.le_refl _) hcap' (fun h0 => by cases h0) (fun _ => ⟨rfl, ?_⟩)⟩
        simp only [Array.size_append, List.size_toArray, zeroCells_size, hzc, List.length_nil]
        have h1 : (cap - (0 + m)) * i.size + (0 + m) * i.size = cap * i.size := by rw [← Nat.add_mul]; congr 1; omega
        have h2 : cap - (0 + m) = cap - m := by rw [Nat.zero_add]
        rw [h2] at h1 ⊢
        rw [Nat.zero_add] at h1
        omega
      · simp only [Option.some.injEq] at hl; subst hl
        obtain ⟨ι', μ', I', E, hv⟩ := grown_lst (I := I) (old := []) (ov := []) .nil hnv (es := i.size) (by simpa using hnl) hzc hcap hp
        refine ⟨_, ⟨w', ι', μ'⟩, hr, I', E, ?_⟩
        simpa using hv
  · rename_i cells len cap
    split at hl
    · rename_i hm0
      simp only [Option.some.injEq] at hl; subst hl; subst hm0
      have : nv = [] := List.eq_nil_of_length_eq_zero (by simpa using hnl)
      subst this
      cases hs with
      | @lst _ vs _ cap' _ a hc hi' hs' hn hcap =>
      exact ⟨_, g, append_fit hd hi hx hni hlen hnf (by omega) (by simp [storeCells]), I, Ext.refl h g, .lst hc hi' hs' hn hcap⟩
    · rename_i hm0
      split at hl
      case isFalse => cases hl
      rename_i hb
      obtain ⟨hb1, hb2, hb3⟩ := hb
      have hs0 := hs
      have hsrc : srcCells h i.size len (.lst cells len cap) = some cells := by
        simp only [srcCells, Nat.le_refl, hb3, true_and, if_true]
        rw [← hb3, List.take_length]
      obtain ⟨⟨ov, hov, hol, hof⟩, _⟩ := src_ok (P := P) I hs0 hsrc
      have grow : ∀ cap', s' = .slice (match s' with | .slice b _ _ => b | _ => none) len cap' → cap' < len + m → ∀ h0 : AHeap, Inv B h0 g → Ext h g h0 g →
          OkV B h g ((Builtin.append_ #[sT, xT] ty #[s', x']).run P g.w) (.lst (cells ++ new) (len + m) (.tok h0.next)) (h0.new (.tok i.size)) := by
        intro cap' hs' hgt h0 I0 E0
        rw [hs'] at hof ⊢
        obtain ⟨cp, w', hcap, hr, hp⟩ := append_grow (ty := ty) (sLen := len) (sCap := cap') (old := ov) hd hi hz hx hni hlen hnf' hof hgt hb1 hb2
        obtain ⟨ι', μ', I', E, hv⟩ := grown_lst (I := I0) hov hnv (es := i.size) (by rw [hol, hnl, ← Nat.add_mul]) hzc hcap hp
        exact ⟨_, ⟨w', ι', μ'⟩, hr, I', E0.trans E, hv⟩
      cases hs with
      | @lst _ vs _ cap' _ a hc hi' hs' hn hcap =>
      cases cap with
      | unk => cases hl
      | full =>
        simp only [Option.some.injEq] at hl; subst hl
        simp only [CapRel] at hcap
        exact grow cap' rfl (by omega) h I (Ext.refl h g)
      | tok r =>
        simp only at hl
        split at hl
        case h_2 => cases hl
        rename_i es' hget
        split at hl
        case isFalse => cases hl
        rename_i hes
        subst hes
        simp only [Option.some.injEq] at hl; subst hl
        rcases Nat.lt_or_ge cap' (len + m) with hgt | hle
        · have D := I.drop r
          exact grow cap' rfl hgt (h.set r none) D.1 D.2
        · obtain ⟨b, mf, sz, es2, hmu, ht⟩ := hcap
          obtain ⟨ht1, ht2, ht3⟩ := ht (by omega)
          obtain ⟨b', m', cs, e', lo, hi2, hm', hB, hh, hfr, hni'⟩ := I.blk r _ hget
          rw [hm'] at hmu
          simp only [Option.some.injEq, Ent.tok.injEq] at hmu
          obtain ⟨rfl, rfl, rfl, rfl⟩ := hmu
          subst ht2
          have hq : (cap' - len) * i.size = m * i.size + (cap' - (len + m)) * i.size := by rw [← Nat.add_mul]; congr 1; omega
          have hadd : (⟨b', m' - cells.length, none⟩ : Addr).add (len * i.size) = ⟨b', m', none⟩ := by rw [add_plain]; congr 1; omega
          have hvl : nv.length = m * i.size := hnl
          obtain ⟨w', hr, u⟩ := run_storeCells (P := P) nv 0 g.w cs hh (o := m') (by simp only [Nat.add_zero]; omega) (isCells_new hnv hcell) (fun j h1 h2 => hfr j (by omega) (by omega))
          simp only [Nat.add_zero] at u
          have hb' : blkOf g.μ r = some b' := by simp [blkOf, hm', Ent.block]
          have hcsz : (setRangeV cs.toList m' nv).toArray.size = cs.size := by simp [setRangeV_length]
          have T := I.turnTo (y := .tok i.size) hget hb' u (fun b2 o2 => if b2 = b' ∧ m' ≤ o2 ∧ o2 < m' + m * i.size then (setRangeV cs.toList m' nv)[o2]? else g.ι b2 o2)
            (fun b2 o2 v hv => by
              by_cases hc2 : b2 = b' ∧ m' ≤ o2 ∧ o2 < m' + m * i.size
              · obtain ⟨rfl, h1, h2⟩ := hc2
                rw [hni' o2 h1] at hv; cases hv
              · rw [if_neg hc2]; exact hv)
            (fun b2 o2 hb2 => by rw [if_neg (fun hc2 => hb2 hc2.1)])
            (fun j v hj => by
              rw [cell?_of_heap u.at_]
              by_cases hc2 : m' ≤ j ∧ j < m' + m * i.size
              · rw [if_pos ⟨rfl, hc2⟩] at hj; simpa using hj
              · rw [if_neg (fun h3 => hc2 h3.2)] at hj
                have := I.imm _ _ _ hj
                rw [cell?_of_heap hh] at this
                simp only [List.getElem?_toArray]
                rw [setRangeV_get _ _ _ _ (by omega)]
                simpa using this)
            (.tok b' (m' + m * i.size) (setRangeV cs.toList m' nv).toArray.size i.size) rfl
            ⟨b', m' + m * i.size, _, e', lo, hi2, by simp [addMu], hB, u.at_, fun j h1 h2 => hfr j (by omega) (by rw [hcsz] at h2; exact h2), fun j hj => by
              simp only
              rw [if_neg (by omega)]
              exact hni' j (by omega)⟩
          refine ⟨_, ⟨w', _, _⟩, append_fit hd hi hx hni hlen hnf hle (by rw [hadd]; exact hr), T.1, T.2, ?_⟩
          have hrel := (hc.append hnv).mono T.2.le
          have hcl := hc.length
          refine VRel.lst hrel (fun j v hj => ?_) (fun _ => rfl) hle ⟨b', m' + m * i.size, (setRangeV cs.toList m' nv).toArray.size, i.size, by simp only [addMu]; simp, fun hlt => ⟨?_, ?_, ?_⟩⟩
          · simp only
            rcases Nat.lt_or_ge j vs.length with h1 | h1
            · rw [List.getElem?_append_left h1] at hj
              have := hi' j v hj
              simp only at this
              rw [if_neg (by omega)]; exact this
            · rw [List.getElem?_append_right h1] at hj
              have h2 : j - vs.length < nv.length := by
                rcases Nat.lt_or_ge (j - vs.length) nv.length with h3 | h3
                · exact h3
                · simp [List.getElem?_eq_none h3] at hj
              rw [if_pos ⟨trivial, by omega, by omega⟩]
              have := setRangeV_in cs.toList m' nv (j - vs.length) v hj (by simp; omega)
              rw [← this]; congr 1; omega
          · simp only [List.length_append]; have := hnv.length; omega
          · simp only [List.length_append]; have := hnv.length; congr 1; omega
          · rw [hcsz]; omega
  · rename_i id off es' len cap op
    split at hl
    case h_2 => cases hl
    rename_i cells hget
    split at hl
    case isFalse => cases hl
    rename_i hb
    obtain ⟨rfl, hb2, hb3⟩ := hb
    have hs0 := hs
    obtain ⟨b, o, cs, e', ws, hm', hB, hh, hws, hcs, hni'⟩ := I.blk _ _ hget
    have hsrc : srcCells h i.size len (.sl id off i.size len cap op) = some ((cells.drop off).take (len * i.size)) := by
      have h1 : len * i.size ≤ cap * i.size := Nat.mul_le_mul_right _ hb3
      simp only [srcCells, hget, Nat.le_refl, true_and, show off + len * i.size ≤ cells.length from by omega, if_true]
    obtain ⟨⟨ov, hov, hol, hof⟩, _⟩ := src_ok (P := P) I hs0 hsrc
    cases hs with
    | @sl _ _ _ _ _ cap' b2 o2 s2 _ a hm2 hn hcap hop ha =>
    rw [hm'] at hm2
    simp only [Option.some.injEq, Ent.arr.injEq] at hm2
    obtain ⟨rfl, rfl, rfl⟩ := hm2
    split at hl
    · rename_i hfit
      simp only [Option.some.injEq] at hl; subst hl
      rcases Nat.eq_zero_or_pos cap' with hc0 | hc0
      · have hm0 : m = 0 := by omega
        subst hm0
        have : nv = [] := List.eq_nil_of_length_eq_zero (by simpa using hnl)
        subst this
        cases hnv
        have he : h.set id (some (.arr (setRange cells (off + len * i.size) []))) = h := by
          cases h with | mk get next =>
          simp only [AHeap.set, setRange, AHeap.mk.injEq, and_true]
          funext j
          split
          · rename_i hj; subst hj; exact hget.symm
          · rfl
        rw [he]
        exact ⟨_, g, append_fit hd hi hx hni hlen hnf (by omega) (by simp [storeCells]), I, Ext.refl h g, .sl hm' (by omega) hcap hop ha⟩
      · obtain ⟨ha1, ha2⟩ := ha hc0
        subst ha1
        have h1 : (len + m) * i.size ≤ cap * i.size := Nat.mul_le_mul_right _ hfit
        have h2 : (len + m) * i.size = len * i.size + m * i.size := Nat.add_mul _ _ _
        have hnvl := hnv.length
        obtain ⟨g', hr, I', E⟩ := I.setArr (P := P) (off := off + len * i.size) hget hnv hcell (by omega) hm'
        refine ⟨_, g', append_fit hd hi hx hni hlen hnf (show len + m ≤ cap' by omega) (w' := g'.w) (by rw [add_plain, Nat.add_assoc]; exact hr), I', E, ?_⟩
        exact VRel.mono E.le (.sl hm' (by omega) hcap hop (fun _ => ⟨rfl, ha2⟩))
    · rename_i hnfit
      split at hl
      case isFalse => cases hl
      rename_i hbb
      have grow : cap' < len + m → ∀ h0 : AHeap, Inv B h0 g → Ext h g h0 g →
          OkV B h g ((Builtin.append_ #[sT, xT] ty #[.slice (some a) len cap', x']).run P g.w) (.sl h0.next 0 i.size (len + m) (len + m) true) (h0.new (.arr ((cells.drop off).take (len * i.size) ++ new))) := by
        intro hgt h0 I0 E0
        obtain ⟨cp, w', hcp, hr, hp⟩ := append_grow (ty := ty) (sLen := len) (sCap := cap') (old := ov) hd hi hz hx hni hlen hnf' hof hgt hbb.1 hbb.2
        have hl2 : ov.length + nv.length = (len + m) * i.size := by rw [hol, hnl, ← Nat.add_mul]
        have T := I0.newArr hp (hov.append hnv) (fun j v hj => by
          have hjl : j < (ov ++ nv).length := by
            rcases Nat.lt_or_ge j (ov ++ nv).length with h1 | h1
            · exact h1
            · simp [List.getElem?_eq_none h1] at hj
          rw [← Array.getElem?_toList]
          simp only [Array.toList_append]
          rw [List.getElem?_append_left (by simpa using hjl)]
          exact hj) (by have := (hov.append hnv).length; simp only [List.length_append] at this; simp only [Array.size_append, List.size_toArray, List.length_append]; omega)
        refine ⟨_, ⟨w', _, _⟩, hr, T.1, E0.trans T.2, VRel.sl (o := 0) (s := (ov.toArray ++ nv.toArray ++ Builtin.zeroCells z.cells (cp - (len + m))).size) (by simp only [addMu, if_true]) (Nat.le_refl _) hcp (fun h0 => by cases h0) (fun _ => ⟨rfl, ?_⟩)⟩
        simp only [Array.size_append, List.size_toArray, zeroCells_size, hzc]
        have h1 : (cp - (len + m)) * i.size + (len + m) * i.size = cp * i.size := by rw [← Nat.add_mul]; congr 1; omega
        omega
      split at hl
      · rename_i hop1
        split at hl
        case isFalse => cases hl
        rename_i hend
        simp only [Option.some.injEq] at hl; subst hl
        rcases Nat.lt_or_ge cap' (len + m) with hgt | hle
        · have D := I.drop id
          exact grow hgt (h.set id none) D.1 D.2
        · obtain ⟨ha1, ha2⟩ := ha (by omega)
          subst ha1
          have h1 : (len + m) * i.size ≤ cap' * i.size := Nat.mul_le_mul_right _ hle
          have h2 : (len + m) * i.size = len * i.size + m * i.size := Nat.add_mul _ _ _
          have h3 : len * i.size ≤ cap * i.size := Nat.mul_le_mul_right _ hb3
          have hnvl := hnv.length
          have hwl := hws.length
          obtain ⟨w', hr, u⟩ := run_storeCells (P := P) nv 0 g.w cs hh (o := o + off + len * i.size) (by simp only [Nat.add_zero]; omega) (isCells_new hnv hcell) (fun j _ _ => by omega)
          simp only [Nat.add_zero] at u
          have hb' : blkOf g.μ id = some b := by simp [blkOf, hm', Ent.block]
          have hcsz : (setRangeV cs.toList (o + off + len * i.size) nv).toArray.size = cs.size := by simp [setRangeV_length]
          have hwb : ((ws.drop off).take (len * i.size)).length = len * i.size := by simp; omega
          have T := I.turnTo (y := .arr ((cells.drop off).take (len * i.size) ++ new)) hget hb' u g.ι (fun _ _ _ h => h) (fun _ _ _ => rfl) (fun j v hj => by rw [hni'.1 j] at hj; cases hj)
            (.arr b (o + off) (setRangeV cs.toList (o + off + len * i.size) nv).toArray.size) rfl
            ⟨b, o + off, _, e', (ws.drop off).take (len * i.size) ++ nv, by simp only [addMu, if_true], hB, u.at_, (((hws.drop off).take _).append hnv).mono (I.le_add _), fun j v hj => by
              simp only [List.getElem?_toArray]
              rcases Nat.lt_or_ge j (len * i.size) with h4 | h4
              · rw [List.getElem?_append_left (by omega), List.getElem?_take, if_pos h4] at hj
                rw [setRangeV_get _ _ _ _ (by omega)]
                have := hcs (off + j) v (by simpa using hj)
                rw [← Nat.add_assoc] at this
                simpa using this
              · rw [List.getElem?_append_right (by omega)] at hj
                rw [hwb] at hj
                have h5 : j - len * i.size < nv.length := by
                  rcases Nat.lt_or_ge (j - len * i.size) nv.length with h6 | h6
                  · exact h6
                  · simp [List.getElem?_eq_none h6] at hj
                have := setRangeV_in cs.toList (o + off + len * i.size) nv (j - len * i.size) v hj (by simp; omega)
                rw [← this]; congr 1; omega, hni'.1, by
              rw [hcsz]; simp only [List.length_append, List.length_take, List.length_drop]; omega⟩
          refine ⟨_, ⟨w', _, _⟩, append_fit hd hi hx hni hlen hnf hle (by rw [add_plain]; exact hr), T.1, T.2, VRel.sl (o := o + off) (s := (setRangeV cs.toList (o + off + len * i.size) nv).toArray.size) (by simp only [addMu]; simp [AHeap.set]) (Nat.le_refl _) hle (fun h0 => by cases h0) (fun _ => ⟨rfl, ?_⟩)⟩
          rw [hcsz]; omega
      · rename_i hop1
        simp only [Option.some.injEq] at hl; subst hl
        have : cap' = cap := hop (by simpa using hop1)
        exact grow (by omega) h I (Ext.refl h g)
  · cases hl
end
end Go.Am
