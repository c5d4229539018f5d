/-
  THE ABSTRACT MACHINE: copy, clear, maps, conversions, made slices.
-/
import Derived.Test.YtgjdlakemaabfaaAmOps4
import Derived.Laws.StructEq
set_option linter.unusedVariables false
set_option linter.unusedSimpArgs false
namespace Go.Am
open Go

section
variable {P : Program} {g : G} {B : Nat} {h : AHeap}

theorem bytes_beq2 (s t : List UInt8) : ((⟨s.toArray⟩ : ByteArray) == ⟨t.toArray⟩) = (s == t) := by
  rw [beq_toListBytes, bytes_toList, bytes_toList]

theorem copy_ok (I : Inv B h g) {ts : Array TypeId} {tl : List TypeId} {args : List AVal} {as : Array Value} {ty : TypeId} {r : AVal × AHeap} (hts : ts.toList = tl) (hargs : VsRel g.ι g.μ args as.toList) (hl : acopy P h tl args = some r) :
    OkV B h g ((Builtin.copy_ ts ty as).run P g.w) r.1 r.2 := by
  obtain ⟨al⟩ := as
  unfold acopy at hl
  split at hl
  case h_2 => cases hl
  rename_i dT rest d x
  simp only [Option.bind_eq_bind, Option.bind_eq_some_iff] at hl
  obtain ⟨td, hd, hl⟩ := hl
  cases td <;> try (cases hl; done)
  case slice e =>
  simp only [Option.bind_eq_some_iff] at hl
  obtain ⟨i, hi, m, hm, dl, hdl, new, hnew, hl⟩ := hl
  cases hargs with
  | @cons _ d' _ _ hd' hs =>
  cases hs with
  | @cons _ x' _ _ hx' hs =>
  cases hs
  have h0 : ts[0]? = some dT := by rw [← Array.getElem?_toList, hts]; rfl
  have h1 : (⟨[d', x']⟩ : Array Value)[0]? = some d' := rfl
  have h2 : (⟨[d', x']⟩ : Array Value)[1]? = some x' := rfl
  obtain ⟨⟨nv, hnv, hnl, hnf⟩, hlen⟩ := src_ok (P := P) I hx' hnew
  have hlen := hlen m hm
  have hnf := hnf g.w rfl
  have run1 : ∀ base dLen dCap, d' = .slice base dLen dCap → dLen = dl → (Builtin.copy_ ts ty ⟨[d', x']⟩).run P g.w = ((match base with | some a => storeCells a nv | none => pure () : Sem Unit).run P g.w).andThen fun _ w' => .ok (goInt (Nat.min m dl)) w' := by
    intro base dLen dCap hd1 hd2
    subst hd1; subst hd2
    simp only [Builtin.copy_, h0, h1, h2, Sem.run_bind, run_underlying hd, Result.andThen_ok, hlen, run_sizeOf' hi, hnf]
    cases base <;> simp
  split at hl
  · simp only [Option.some.injEq] at hl; subst hl
    cases hd'
    simp only [lenA, Option.some.injEq] at hdl; subst hdl
    exact ⟨_, g, by rw [run1 _ _ _ rfl rfl]; rfl, I, Ext.refl h g, .int _ _⟩
  · rename_i id off es n cap op
    split at hl
    case h_2 => cases hl
    rename_i cells hget
    split at hl
    case isFalse => cases hl
    rename_i hc
    obtain ⟨rfl, hcell, hfit⟩ := hc
    simp only [Option.some.injEq] at hl; subst hl
    cases hd' with
    | @sl _ _ _ _ _ cap' b o s _ a hm' hn hcap hop ha =>
    simp only [lenA, Option.some.injEq] at hdl; subst hdl
    have hnvl := hnv.length
    rcases Nat.eq_zero_or_pos (Nat.min m n * i.size) with hz | hz
    · have : nv = [] := List.eq_nil_of_length_eq_zero (by omega)
      subst this
      cases hnv
      have he : h.set id (some (.arr (setRange cells off []))) = h := by
        cases h with | mk get next =>
        simp only [AHeap.set, setRange, AHeap.mk.injEq, and_true]
        funext j
        split
        · rename_i hj; subst hj; exact hget.symm
        · rfl
      rw [he]
      exact ⟨_, g, by rw [run1 _ _ _ rfl rfl]; simp [storeCells, goInt], I, Ext.refl h g, .int _ _⟩
    · have hn0 : 0 < cap' := by
        have : 0 < Nat.min m n := Nat.pos_of_mul_pos_right hz |> fun _ => by
          rcases Nat.eq_zero_or_pos (Nat.min m n) with h3 | h3
          · rw [h3] at hz; simp at hz
          · exact h3
        have : Nat.min m n ≤ n := Nat.min_le_right _ _
        omega
      obtain ⟨ha1, ha2⟩ := ha hn0
      subst ha1
      obtain ⟨g', hr, I', E⟩ := I.setArr (P := P) (off := off) hget hnv hcell (by omega) hm'
      exact ⟨_, g', by rw [run1 _ _ _ rfl rfl]; simp only [hr, Result.andThen_ok, goInt], I', E, .int _ _⟩
  · rename_i cells len cap
    split at hl
    case isFalse => cases hl
    rename_i hn0
    simp only [Option.some.injEq] at hl; subst hl
    cases hd' with
    | @lst _ vs _ cap' _ a hc hi' hs hn hcap =>
    simp only [lenA, Option.some.injEq] at hdl; subst hdl
    have : nv = [] := List.eq_nil_of_length_eq_zero (by rw [hnl, hn0]; simp)
    subst this
    refine ⟨_, g, by rw [run1 _ _ _ rfl rfl]; simp [storeCells, goInt]; rfl, I, Ext.refl h g, ?_⟩
    rw [hn0]; exact .int _ _
  · cases hl

/-! ### maps -/
theorem EsRel.length {ι : Imm} {μ : Mu} {xs : List (AVal × AVal × Nat)} {ys : List MapEntry} (h : EsRel ι μ xs ys) : xs.length = ys.length := by
  induction h with
  | nil => rfl
  | cons _ _ _ _ ih => simp [ih]
theorem EsRel.set {ι : Imm} {μ : Mu} {xs : List (AVal × AVal × Nat)} {ys : List MapEntry} (h : EsRel ι μ xs ys) (j : Nat) {k v : AVal} {n : Nat} {e : MapEntry} (hk : VRel ι μ k e.key) (hv : VRel ι μ v e.val) (hn : e.born = n) : EsRel ι μ (xs.set j (k, v, n)) (ys.set j e) := by
  induction h generalizing j with
  | nil => exact .nil
  | cons h1 h2 h3 hs ih => cases j with
    | zero => exact .cons hk hv hn hs
    | succ j => exact .cons h1 h2 h3 (ih j)
theorem EsRel.append {ι : Imm} {μ : Mu} {xs xs' : List (AVal × AVal × Nat)} {ys ys' : List MapEntry} (h : EsRel ι μ xs ys) (h' : EsRel ι μ xs' ys') : EsRel ι μ (xs ++ xs') (ys ++ ys') := by
  induction h with
  | nil => exact h'
  | cons h1 h2 h3 _ ih => exact .cons h1 h2 h3 ih
theorem EsRel.eraseIdx {ι : Imm} {μ : Mu} {xs : List (AVal × AVal × Nat)} {ys : List MapEntry} (h : EsRel ι μ xs ys) (j : Nat) : EsRel ι μ (xs.eraseIdx j) (ys.eraseIdx j) := by
  induction h generalizing j with
  | nil => exact .nil
  | cons h1 h2 h3 hs ih => cases j with
    | zero => exact hs
    | succ j => exact .cons h1 h2 h3 (ih j)

theorem sameKey_ok {ι : Imm} {μ : Mu} {kd : TypeDesc} {a b : AVal} {a' b' : Value} {r : Bool} (ha : VRel ι μ a a') (hb : VRel ι μ b b') (h : sameKeyA kd a b = some r) : Instr.sameNow kd a' b' = some r ∧ (r = true → a' = b') := by
  unfold sameKeyA at h
  split at h
  · split at h
    · rename_i hk; subst hk
      simp only [Option.some.injEq] at h; subst h
      cases ha; cases hb
      refine ⟨by simp [Instr.sameNow], fun he => by simp at he; rw [he]⟩
    · cases h
  · simp only [Option.some.injEq] at h; subst h
    cases ha; cases hb
    rename_i s t
    exact ⟨by simp only [Instr.sameNow, bytes_beq2], fun he => by simp at he; rw [he]⟩
  · simp only [Option.some.injEq] at h; subst h
    cases ha; cases hb
    refine ⟨by simp [Instr.sameNow], fun he => by simp at he; rw [he]⟩
  · cases h

theorem find_ok {ι : Imm} {μ : Mu} {kd : TypeDesc} {k : AVal} {k' : Value} (hk : VRel ι μ k k') {es : List (AVal × AVal × Nat)} {es' : List MapEntry} (hr : EsRel ι μ es es') : ∀ (i : Nat) (r : Option (Nat × AVal × Nat)), findA kd k es i = some r →
    (r = none → Instr.findNow kd k' es' i = some none) ∧ ∀ j v n, r = some (j, v, n) → ∃ e, i ≤ j ∧ es'[j - i]? = some e ∧ Instr.findNow kd k' es' i = some (some (j, e.val)) ∧ VRel ι μ v e.val ∧ e.born = n ∧ k' = e.key ∧ j - i < es.length := by
  induction hr with
  | nil =>
    intro i r h
    simp only [findA, Option.some.injEq] at h; subst h
    exact ⟨fun _ => rfl, fun _ _ _ h => by cases h⟩
  | @cons k1 v1 n1 e es es' h1 h2 h3 hs ih =>
    intro i r h
    simp only [findA, Option.bind_eq_bind, Option.bind_eq_some_iff] at h
    obtain ⟨b, hb, h⟩ := h
    obtain ⟨hsame, heq⟩ := sameKey_ok hk h1 hb
    cases b with
    | true =>
      simp only [if_true, Option.some.injEq] at h; subst h
      refine ⟨fun h => (by cases h), fun j v n hj => ?_⟩
      simp only [Option.some.injEq, Prod.mk.injEq] at hj
      obtain ⟨rfl, rfl, rfl⟩ := hj
      exact ⟨e, Nat.le_refl _, by simp, by simp [Instr.findNow, hsame], h2, h3, heq rfl, by simp⟩
    | false =>
      simp only [Bool.false_eq_true, if_false] at h
      obtain ⟨t1, t2⟩ := ih (i + 1) r h
      refine ⟨fun hn => by simp [Instr.findNow, hsame, t1 hn], fun j v n hj => ?_⟩
      obtain ⟨e', q1, q2, q3, q4, q5, q6, q7⟩ := t2 j v n hj
      refine ⟨e', by omega, ?_, by simp [Instr.findNow, hsame, q3], q4, q5, q6, by simp; omega⟩
      rw [show j - i = (j - (i + 1)) + 1 from by omega]; simpa using q2

theorem run_checkKey {empty : Bool} {kt : TypeId} {kd : TypeDesc} {k : AVal} {k' : Value} (hd : P.underlying kt = some kd) (hk : VRel g.ι g.μ k k') (hp : plainKey kd k = true) (w : World) : (Instr.checkKey empty 10000 kt k').run P w = .ok () w := by
  show (Instr.checkKey empty (9999 + 1) kt k').run P w = .ok () w
  generalize 9999 = d
  unfold plainKey at hp
  split at hp
  · cases hk; simp [Instr.checkKey, run_underlying hd]
  · cases hk; simp [Instr.checkKey, run_underlying hd]
  · cases hk; simp [Instr.checkKey, run_underlying hd]
  · cases hp

theorem lookup_ok (I : Inv B h g) {t : TypeId} {x k v : AVal} {x' k' : Value} {ok : Bool} (hx : VRel g.ι g.μ x x') (hk : VRel g.ι g.μ k k') (hl : alookup P h t x k ok = some v) :
    ∃ v', (Instr.lookup t x' k' ok).run P g.w = .ok v' g.w ∧ VRel g.ι g.μ v v' := by
  simp only [alookup, Option.bind_eq_bind, Option.bind_eq_some_iff] at hl
  obtain ⟨td, hd, hl⟩ := hl
  cases td <;> try (cases hl; done)
  case map kt et =>
  simp only [Option.bind_eq_some_iff] at hl
  obtain ⟨kd, hkd, hl⟩ := hl
  split at hl
  case isFalse => cases hl
  rename_i hp
  simp only [Option.bind_eq_some_iff] at hl
  obtain ⟨es, hes, r, hf, hl⟩ := hl
  have src : ∃ es' : Array MapEntry, EsRel g.ι g.μ es es'.toList ∧ ((x' = .map none ∧ es' = #[]) ∨ ∃ b c, x' = .map (some b) ∧ (getObj b).run P g.w = .ok (.map es' c) g.w) := by
    unfold mapEntries at hes
    split at hes
    · simp only [Option.some.injEq] at hes; subst hes
      cases hx
      exact ⟨#[], .nil, .inl ⟨rfl, rfl⟩⟩
    · split at hes
      · rename_i es0 clock0 hget
        simp only [Option.some.injEq] at hes; subst hes
        obtain ⟨b, es', hm, h0, hh, hr⟩ := I.blk _ _ hget
        cases hx with | map hm' =>
        rw [hm] at hm'; cases hm'
        exact ⟨es', hr, .inr ⟨b, clock0, rfl, by simp [getObj, Sem.run, hh]⟩⟩
      · cases hes
    · cases hes
  obtain ⟨es', hrel, hcase⟩ := src
  obtain ⟨f1, f2⟩ := find_ok hk hrel 0 r hf
  have fin : ∀ (q : Option (Nat × Value)), (Instr.findKey kt k' es'.toList).run P g.w = .ok q g.w → ∃ v1 ok1, VRel g.ι g.μ v (if ok then .tuple #[v1, .bool ok1] else v1) ∧ (q = none → ok1 = false ∧ (zeroValue et).run P g.w = .ok v1 g.w) ∧ (∀ j u, q = some (j, u) → ok1 = true ∧ u = v1) := by
    intro q hq
    simp only [Instr.findKey, Sem.run_bind, run_underlying hkd, Result.andThen_ok] at hq
    cases r with
    | some q0 =>
      obtain ⟨j, v0, n⟩ := q0
      simp only [Option.some.injEq] at hl; subst hl
      obtain ⟨e, q1, q2, q3, q4, q5, q6, q7⟩ := f2 j v0 n rfl
      simp only [q3, Sem.run_pure, Result.ok.injEq, and_true] at hq
      subst hq
      refine ⟨e.val, true, ?_, (fun h => by cases h), fun j u h => by simp only [Option.some.injEq, Prod.mk.injEq] at h; exact ⟨rfl, h.2.symm⟩⟩
      cases ok with
      | true => exact .tup (.cons q4 (.cons (.bool true) .nil))
      | false => exact q4
    | none =>
      simp only [Option.bind_eq_some_iff, Option.some.injEq] at hl
      obtain ⟨z, hz, rfl⟩ := hl
      obtain ⟨i, z', hi, hz', rfl⟩ := zeroA_some hz
      simp only [f1 rfl, Sem.run_pure, Result.ok.injEq, and_true] at hq
      subst hq
      refine ⟨z', false, ?_, fun _ => ⟨rfl, run_zeroValue hi hz' _⟩, fun j u h => by cases h⟩
      cases ok with
      | true => exact .tup (.cons (ofV_rel _) (.cons (.bool false) .nil))
      | false => exact ofV_rel _
  have hfk : ∃ q, (Instr.findKey kt k' es'.toList).run P g.w = .ok q g.w := by
    simp only [Instr.findKey, Sem.run_bind, run_underlying hkd, Result.andThen_ok]
    cases r with
    | some q0 => obtain ⟨j, v0, n⟩ := q0; obtain ⟨e, q1, q2, q3, _⟩ := f2 j v0 n rfl; exact ⟨_, by rw [q3]; rfl⟩
    | none => exact ⟨none, by rw [f1 rfl]; rfl⟩
  obtain ⟨q, hq⟩ := hfk
  obtain ⟨v1, ok1, hv1, hn1, hs1⟩ := fin q hq
  refine ⟨_, ?_, hv1⟩
  rcases hcase with ⟨rfl, rfl⟩ | ⟨b, c, rfl, hgo⟩
  · simp only [Instr.lookup, Sem.run_bind, run_underlying hd, Result.andThen_ok, Sem.run_pure, run_checkKey hkd hk hp, hq]
    cases q with
    | none => obtain ⟨rfl, hz⟩ := hn1 rfl; simp only [hz, Sem.run_bind, Result.andThen_ok, Sem.run_pure]
    | some q => obtain ⟨rfl, rfl⟩ := hs1 q.1 q.2 rfl; simp only [Sem.run_bind, Sem.run_pure, Result.andThen_ok]
  · simp only [Instr.lookup, Sem.run_bind, run_underlying hd, Result.andThen_ok, hgo, Sem.run_pure, run_checkKey hkd hk hp, hq]
    cases q with
    | none => obtain ⟨rfl, hz⟩ := hn1 rfl; simp only [hz, Sem.run_bind, Result.andThen_ok, Sem.run_pure]
    | some q => obtain ⟨rfl, rfl⟩ := hs1 q.1 q.2 rfl; simp only [Sem.run_bind, Sem.run_pure, Result.andThen_ok]

theorem run_setObj_map {w : World} {b : Nat} {es : Array MapEntry} {c : Nat} (hh : w.heap[b]? = some (.map es c)) (o : Obj) : ∃ w', (setObj b o).run P w = .ok () w' ∧ Upd w w' b o := by
  refine ⟨{ w with heap := w.heap.setIfInBounds b o }, by simp [setObj, Sem.run, hh], rfl, rfl, rfl, by simp, ?_, fun b' hb' => ?_⟩
  · have := lt_of_heap hh
    simp [Array.getElem?_setIfInBounds, this]
  · simp [Array.getElem?_setIfInBounds, Ne.symm hb']

/-- A map's entries turned. -/
theorem Inv.setMap (I : Inv B h g) {id b : Nat} {es : List (AVal × AVal × Nat)} {c : Nat} {w' : World} (hx : h.get id = some (.map es c)) (hm : g.μ id = some (.map b)) {es1 : List (AVal × AVal × Nat)} {es1' : Array MapEntry} {c1 : Nat}
    (u : Upd g.w w' b (.map es1' c1)) (hr : EsRel g.ι g.μ es1 es1'.toList) : Inv B (h.set id (some (.map es1 c1))) { g with w := w' } ∧ Ext h g (h.set id (some (.map es1 c1))) { g with w := w' } := by
  obtain ⟨b', es', hm', h0, hh, hes⟩ := I.blk _ _ hx
  rw [hm] at hm'; cases hm'
  refine I.turn hx (by simp [blkOf, hm, Ent.block]) u g.ι (fun _ _ _ h => h) (fun _ _ _ => rfl) (fun j v hj => ?_) (fun z hz => ?_)
  · have := I.imm _ _ _ hj
    simp [World.cell?, hh] at this
  · simp only [Option.some.injEq] at hz; subst hz
    exact ⟨b, es1', hm, h0, u.at_, hr⟩

theorem sameBits_refl {kd : TypeDesc} {k : AVal} {k' : Value} (hk : VRel g.ι g.μ k k') (hp : plainKey kd k = true) : Instr.sameBits 10000 k' k' = true := by
  show Instr.sameBits (9999 + 1) k' k' = true
  generalize 9999 = d
  unfold plainKey at hp
  split at hp
  · cases hk; simp [Instr.sameBits]
  · cases hk; simp [Instr.sameBits, bytes_beq2]
  · cases hk; simp [Instr.sameBits]
  · cases hp

theorem mapUpdate_ok (I : Inv B h g) {t : TypeId} {x k v : AVal} {x' k' v' : Value} {h' : AHeap} (hx : VRel g.ι g.μ x x') (hk : VRel g.ι g.μ k k') (hv : VRel g.ι g.μ v v') (hl : amapUpdate P h t x k v = some h') :
    OkU B h g ((Instr.mapUpdate t x' k' v').run P g.w) h' := by
  simp only [amapUpdate, Option.bind_eq_bind, Option.bind_eq_some_iff] at hl
  obtain ⟨td, hd, hl⟩ := hl
  cases td <;> try (cases hl; done)
  case map kt et =>
  simp only [Option.bind_eq_some_iff] at hl
  obtain ⟨kd, hkd, hl⟩ := hl
  cases x <;> try (cases hl; done)
  case map id =>
  simp only at hl
  split at hl
  case h_2 => cases hl
  rename_i es clock hget
  split at hl
  case isFalse => cases hl
  rename_i hp
  simp only [Bool.and_eq_true] at hp
  simp only [Option.bind_eq_some_iff] at hl
  obtain ⟨r, hf, hl⟩ := hl
  obtain ⟨b, es', hm, h0, hh, hes⟩ := I.blk _ _ hget
  cases hx with | map hm' =>
  rw [hm] at hm'; cases hm'
  obtain ⟨f1, f2⟩ := find_ok hk hes 0 r hf
  have hgo : (getObj b).run P g.w = .ok (.map es' clock) g.w := by simp [getObj, Sem.run, hh]
  simp only [Instr.mapUpdate, Sem.run_bind, run_underlying hd, Result.andThen_ok, hgo, run_checkKey hkd hk hp.1, Instr.findKey, run_underlying hkd]
  cases r with
  | some q =>
    obtain ⟨j, v0, n⟩ := q
    simp only [Option.some.injEq] at hl; subst hl
    obtain ⟨e, q1, q2, q3, q4, q5, q6, q7⟩ := f2 j v0 n rfl
    simp only [q3, Sem.run_pure, Result.andThen_ok, Sem.run_bind]
    simp only [Nat.sub_zero] at q2 q7
    have hej : es'[j]? = some e := by simpa using q2
    have hkeep : (Instr.keyThatStays ((((es'[j]?).map (·.key)) : Option Value).getD k') k').run P g.w = .ok k' g.w := by
      rw [hej]
      simp only [Option.map_some, Option.getD_some, Instr.keyThatStays]
      rw [← q6, sameBits_refl hk hp.1]; rfl
    rw [hkeep]
    simp only [Result.andThen_ok]
    obtain ⟨w', hr, u⟩ := run_setObj_map (P := P) hh (.map (es'.modify j fun e => { e with key := k', val := v' }) clock)
    have T := I.setMap hget hm u (es1 := es.set j (k, v, n)) (by
      have : (es'.modify j fun e => { e with key := k', val := v' }).toList = es'.toList.set j { e with key := k', val := v' } := by
        apply List.ext_getElem?
        intro a
        rw [Array.getElem?_toList, Array.getElem?_modify, List.getElem?_set]
        by_cases ha : j = a
        · subst ha
          have : j < es'.size := by
            rcases Nat.lt_or_ge j es'.size with h3 | h3
            · exact h3
            · simp [Array.getElem?_eq_none h3] at hej
          simp [this, hej]
          have := Array.getElem?_eq_getElem this
          rw [hej] at this; simp at this; rw [this]
        · simp [ha]
      rw [this]
      exact hes.set j hk hv q5)
    exact ⟨_, hr, T.1, T.2⟩
  | none =>
    simp only [Option.some.injEq] at hl; subst hl
    simp only [f1 rfl, Sem.run_pure, Result.andThen_ok]
    obtain ⟨w', hr, u⟩ := run_setObj_map (P := P) hh (.map (es'.push { key := k', val := v', born := clock }) (clock + 1))
    have T := I.setMap hget hm u (es1 := es ++ [(k, v, clock)]) (by
      simp only [Array.toList_push]
      exact hes.append (.cons hk hv rfl .nil))
    exact ⟨_, hr, T.1, T.2⟩

theorem delete_ok (I : Inv B h g) {ts : Array TypeId} {t ty : TypeId} {as : Array Value} {x k : AVal} {x' k' : Value} {h' : AHeap} (hts : ts[0]? = some t) (h1 : as[0]? = some x') (h2 : as[1]? = some k') (hx : VRel g.ι g.μ x x') (hk : VRel g.ι g.μ k k') (hl : adelete P h t x k = some h') :
    OkV B h g ((Builtin.delete_ ts ty as).run P g.w) .top h' := by
  simp only [adelete, Option.bind_eq_bind, Option.bind_eq_some_iff] at hl
  obtain ⟨td, hd, hl⟩ := hl
  cases td <;> try (cases hl; done)
  case map kt et =>
  simp only [Option.bind_eq_some_iff] at hl
  obtain ⟨kd, hkd, hl⟩ := hl
  split at hl
  case isFalse => cases hl
  rename_i hp
  simp only [Builtin.delete_, hts, h1, h2, Sem.run_bind, run_underlying hd, Result.andThen_ok]
  split at hl
  · simp only [Option.some.injEq] at hl; subst hl
    cases hx
    exact ⟨_, g, by simp only [Sem.run_bind, run_checkKey hkd hk hp, Result.andThen_ok]; rfl, I, Ext.refl h g, .top _⟩
  · split at hl
    case h_2 => cases hl
    rename_i es clock hget
    simp only [Option.bind_eq_some_iff] at hl
    obtain ⟨r, hf, hl⟩ := hl
    obtain ⟨b, es', hm, h0, hh, hes⟩ := I.blk _ _ hget
    cases hx with | map hm' =>
    rw [hm] at hm'; cases hm'
    obtain ⟨f1, f2⟩ := find_ok hk hes 0 r hf
    have hgo : (getObj b).run P g.w = .ok (.map es' clock) g.w := by simp [getObj, Sem.run, hh]
    simp only [Sem.run_bind, hgo, Result.andThen_ok, run_checkKey hkd hk hp, Instr.findKey, run_underlying hkd]
    cases r with
    | some q =>
      obtain ⟨j, v0, n⟩ := q
      simp only [Option.some.injEq] at hl; subst hl
      obtain ⟨e, q1, q2, q3, q4, q5, q6, q7⟩ := f2 j v0 n rfl
      simp only [q3, Sem.run_pure, Result.andThen_ok]
      obtain ⟨w', hr, u⟩ := run_setObj_map (P := P) hh (.map (es'.eraseIdxIfInBounds j) clock)
      have T := I.setMap hget hm u (es1 := es.eraseIdx j) (by
        have hj : j < es'.size := by have := hes.length; simp at this q7; omega
        have : (es'.eraseIdxIfInBounds j).toList = es'.toList.eraseIdx j := by
          simp [Array.eraseIdxIfInBounds, hj]
        rw [this]; exact hes.eraseIdx j)
      exact ⟨_, _, by rw [Sem.run_bind, hr]; rfl, T.1, T.2, .top _⟩
    | none =>
      simp only [Option.some.injEq] at hl; subst hl
      simp only [f1 rfl, Sem.run_pure, Result.andThen_ok]
      obtain ⟨w', hr, u⟩ := run_setObj_map (P := P) hh (.map es' clock)
      have T := I.setMap hget hm u hes
      rename_i id _
      have he : h.set id (some (.map es clock)) = h := by
        cases h with | mk get next =>
        simp only [AHeap.set, AHeap.mk.injEq, and_true]
        funext j
        split
        · rename_i hj; subst hj; exact hget.symm
        · rfl
      rw [he] at T
      exact ⟨_, _, by rw [Sem.run_bind, hr]; rfl, T.1, T.2, .top _⟩
  · cases hl
end
end Go.Am
