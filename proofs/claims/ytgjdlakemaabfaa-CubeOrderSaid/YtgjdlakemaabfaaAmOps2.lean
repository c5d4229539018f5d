/-
  THE ABSTRACT MACHINE: places, parts, slices, indexes.
-/
import Derived.Test.YtgjdlakemaabfaaAmOps1
import Derived.Lib.Strings
set_option linter.unusedVariables false
namespace Go.Am
open Go

section
variable {P : Program} {g : G}

theorem dropCells_ok {n : Nat} {p q : AVal} {p' : Value} (hp : VRel g.ι g.μ p p') (h : dropCells n p = some q) : ∃ b o, p' = .pointer (some ⟨b, o, none⟩) ∧ VRel g.ι g.μ q (.pointer (some ⟨b, o + n, none⟩)) := by
  unfold dropCells at h
  split at h
  · simp only [Option.some.injEq] at h; subst h
    cases hp with | ptr hm => exact ⟨_, _, rfl, by rw [Nat.add_assoc]; exact .ptr hm⟩
  · simp only [Option.some.injEq] at h; subst h
    cases hp with | iptr hc hi => exact ⟨_, _, rfl, .iptr (hc.drop n) (hi.drop n)⟩
  · cases h

theorem fieldAddr_ok {t : TypeId} {p q : AVal} {p' : Value} {f : Nat} (hp : VRel g.ι g.μ p p') (h : afieldAddr P t p f = some q) : ∃ v', (Instr.fieldAt t p' f).run P g.w = .ok v' g.w ∧ VRel g.ι g.μ q v' := by
  simp only [afieldAddr, Option.bind_eq_bind, Option.bind_eq_some_iff] at h
  obtain ⟨d, hd, h⟩ := h
  cases d <;> try (cases h; done)
  case struct fs =>
  simp only [Option.bind_eq_some_iff] at h
  obtain ⟨fld, hf, i, hi, h⟩ := h
  split at h
  · rename_i hz
    obtain ⟨b, o, rfl, hr⟩ := dropCells_ok hp h
    refine ⟨_, ?_, hr⟩
    simp only [Instr.fieldAt, Sem.run_bind, run_underlying hd, Result.andThen_ok, hf, Instr.sureAddr, Sem.run_pure, fieldPlace, run_sizeOf' hi, hz, if_false, add_plain]
  · cases h

theorem part_ok {t : TypeId} {cs : List AVal} {cs' : Array Value} {off : Nat} {v : AVal} (hc : VsRel g.ι g.μ cs cs'.toList) (h : partA P t cs off = some v) : ∃ v', (part t cs' off).run P g.w = .ok v' g.w ∧ VRel g.ι g.μ v v' := by
  simp only [partA, Option.bind_eq_bind, Option.bind_eq_some_iff] at h
  obtain ⟨ag, hag, i, hi, h⟩ := h
  split at h
  case isFalse => cases h
  simp only [part, Sem.run_bind, run_isAgg hag, Result.andThen_ok]
  cases ag with
  | true =>
    simp only [ofCells, if_true] at h
    split at h
    case isFalse => cases h
    simp only [Option.some.injEq] at h; subst h
    simp only [if_true, Sem.run_bind, run_sizeOf' hi, Result.andThen_ok, Sem.run_pure]
    refine ⟨_, rfl, .agg ?_⟩
    have := (hc.drop off).take i.size
    simpa [Array.toList_extract, List.extract_eq_take_drop] using this
  | false =>
    simp only [ofCells, Bool.false_eq_true, if_false] at h
    obtain ⟨u, hu, hr⟩ := (hc.drop off).get h
    have hu' : cs'[off]? = some u := by simpa using hu
    simp only [Bool.false_eq_true, if_false, hu']
    exact ⟨u, rfl, hr⟩

theorem field_ok {t : TypeId} {x v : AVal} {x' : Value} {f : Nat} (hx : VRel g.ι g.μ x x') (h : afield P t x f = some v) : ∃ v', (Instr.field t x' f).run P g.w = .ok v' g.w ∧ VRel g.ι g.μ v v' := by
  simp only [afield, Option.bind_eq_bind, Option.bind_eq_some_iff] at h
  obtain ⟨d, hd, h⟩ := h
  cases d <;> try (cases h; done)
  case struct fs =>
  simp only [Option.bind_eq_some_iff] at h
  obtain ⟨fld, hf, h⟩ := h
  cases x <;> try (cases h; done)
  case agg cs =>
  cases hx with | agg hc =>
  obtain ⟨v', hr, hv⟩ := part_ok hc h
  exact ⟨v', by simp [Instr.field, run_underlying hd, hf, asAgg, hr], hv⟩

theorem VRel.intVal {k : IntKind} {n : Int} {v' : Value} (h : VRel g.ι g.μ (.int k n) v') : v' = .int k n := by cases h; rfl

theorem indexAddr_ok {B : Nat} {h : AHeap} (_ : Inv B h g) {t : TypeId} {x i v : AVal} {x' i' : Value} (hx : VRel g.ι g.μ x x') (hi : VRel g.ι g.μ i i') (hl : aindexAddr P t x i = some v) : ∃ v', (Instr.indexAt t x' i').run P g.w = .ok v' g.w ∧ VRel g.ι g.μ v v' := by
  simp only [aindexAddr, Option.bind_eq_bind] at hl
  cases i <;> try (cases hl; done)
  case int k i =>
  cases hi.intVal
  simp only [Option.bind_eq_some_iff] at hl
  obtain ⟨d, hd, hl⟩ := hl
  cases d <;> try (cases hl; done)
  case slice e =>
    simp only [Option.bind_eq_some_iff] at hl
    obtain ⟨j, hj, hl⟩ := hl
    unfold indexAddrA at hl
    split at hl
    · rename_i cells len cap
      split at hl
      case isFalse => cases hl
      rename_i hc
      simp only [Option.some.injEq] at hl; subst hl
      cases hx with
      | @lst _ vs _ cap' _ a hcs hics hs hn hcap =>
        obtain ⟨b, o, sp⟩ := a
        have : sp = none := hs (by omega)
        subst this
        refine ⟨.pointer (some ⟨b, o + i.toNat * j.size, none⟩), ?_, .iptr (hcs.drop _) (hics.drop _)⟩
        simp only [Instr.indexAt, Sem.run_bind, asIntOf, Sem.run_pure, Result.andThen_ok, run_underlying hd, hc, if_true, and_self, run_sizeOf' hj, add_plain]
    · rename_i id off es len cap op
      split at hl
      case isFalse => cases hl
      rename_i hc
      obtain ⟨he, hc0, hc1⟩ := hc
      simp only [Option.some.injEq] at hl; subst hl
      cases hx with
      | @sl _ _ _ _ _ cap' b o s _ a hm hn hcap hop ha =>
        have hcp : cap' ≠ 0 := by omega
        have ha' := (ha (by omega)).1
        subst ha'
        refine ⟨.pointer (some ⟨b, o + (off + i.toNat * j.size), none⟩), ?_, .ptr hm⟩
        simp only [Instr.indexAt, Sem.run_bind, asIntOf, Sem.run_pure, Result.andThen_ok, run_underlying hd, hc0, hc1, if_true, and_self, run_sizeOf' hj, add_plain, Nat.add_assoc]
    · cases hl
  case array len e =>
    simp only [Option.bind_eq_some_iff] at hl
    obtain ⟨j, hj, hl⟩ := hl
    split at hl
    case isFalse => cases hl
    rename_i hc
    obtain ⟨b, o, rfl, hr⟩ := dropCells_ok hx hl
    refine ⟨_, ?_, hr⟩
    simp only [Instr.indexAt, Sem.run_bind, asIntOf, Sem.run_pure, Result.andThen_ok, run_underlying hd, Instr.sureAddr, hc, if_true, and_self, run_sizeOf' hj, add_plain]

theorem index_ok {t : TypeId} {x i v : AVal} {x' i' : Value} (hx : VRel g.ι g.μ x x') (hi : VRel g.ι g.μ i i') (hl : aindex P t x i = some v) : ∃ v', (Instr.index t x' i').run P g.w = .ok v' g.w ∧ VRel g.ι g.μ v v' := by
  simp only [aindex, Option.bind_eq_bind] at hl
  cases i <;> try (cases hl; done)
  case int k i =>
  cases hi.intVal
  simp only [Option.bind_eq_some_iff] at hl
  obtain ⟨d, hd, hl⟩ := hl
  split at hl
  · rename_i s
    split at hl
    case isFalse => cases hl
    rename_i h0
    simp only [Option.map_eq_some_iff] at hl
    obtain ⟨b, hb, rfl⟩ := hl
    cases hx
    refine ⟨.int .u8 b.toNat, ?_, .int _ _⟩
    have hlt : i.toNat < s.length := by
      rcases Nat.lt_or_ge i.toNat s.length with h1 | h1
      · exact h1
      · simp [List.getElem?_eq_none h1] at hb
    have hb' : (⟨s.toArray⟩ : ByteArray)[i.toNat]? = some b := by
      rw [getElem?_pos _ _ (by show i.toNat < s.toArray.size; simpa using hlt)]
      congr 1
      have : s[i.toNat] = b := by simpa [List.getElem?_eq_getElem hlt] using hb
      rw [← this]; rfl
    simp only [Instr.index, Sem.run_bind, asIntOf, Sem.run_pure, Result.andThen_ok, run_underlying hd, h0, if_true, hb']
  · rename_i len e cs
    simp only [Option.bind_eq_some_iff] at hl
    obtain ⟨j, hj, hl⟩ := hl
    split at hl
    case isFalse => cases hl
    rename_i hc
    cases hx with | agg hcs =>
    obtain ⟨v', hr, hv⟩ := part_ok hcs hl
    refine ⟨v', ?_, hv⟩
    simp only [Instr.index, Sem.run_bind, asIntOf, Sem.run_pure, Result.andThen_ok, run_underlying hd, hc, if_true, and_self, run_sizeOf' hj, hr]
  · cases hl

theorem extract_ok {x v : AVal} {x' : Value} {i : Nat} (hx : VRel g.ι g.μ x x') (h : extractA x i = some v) : ∃ v', (Instr.extract x' i).run P g.w = .ok v' g.w ∧ VRel g.ι g.μ v v' := by
  unfold extractA at h
  split at h
  · cases hx with | tup hc =>
    obtain ⟨y, hy, hr⟩ := hc.get h
    refine ⟨y, ?_, hr⟩
    simp only [Instr.extract]
    rw [show (_ : Array Value)[i]? = some y from by simpa using hy]
    rfl
  · cases h

/-! ### slice expressions -/
inductive ORel (ι : Imm) (μ : Mu) : Option AVal → Option Value → Prop
  | none : ORel ι μ none none
  | some {v : AVal} {v' : Value} (h : VRel ι μ v v') : ORel ι μ (some v) (some v')

theorem bnd_some {x : Option AVal} {x' : Option Value} {d n : Nat} (hx : ORel g.ι g.μ x x') (h : bnd x d = some n) : (x = none ∧ x' = none ∧ n = d) ∨ ∃ k i, x' = some (.int k i) ∧ 0 ≤ i ∧ i.toNat = n := by
  cases hx with
  | none => simp only [bnd, Option.some.injEq] at h; exact .inl ⟨rfl, rfl, h.symm⟩
  | some hv =>
    rename_i v v'
    cases v <;> try (simp [bnd] at h; done)
    case int k i =>
    cases hv
    simp only [bnd, asNat] at h
    split at h
    · rename_i h0
      simp only [Option.some.injEq] at h
      exact .inr ⟨k, i, rfl, h0, h⟩
    · cases h

theorem run_sliceBound {k : IntKind} {i : Int} {y : Nat} {code : BoundsCode} (h0 : 0 ≤ i) (h1 : i.toNat ≤ y) (w : World) : (Instr.sliceBound (.int k i) y code).run P w = .ok i.toNat w := by
  simp only [Instr.sliceBound, Sem.run_bind, asIntOf, Sem.run_pure, Result.andThen_ok]
  rw [if_pos ⟨h0, by omega⟩]; rfl

theorem run_bounds_none {isSl : Bool} {len cap : Nat} {lo hi : Option AVal} {lo' hi' : Option Value} {l h : Nat} (hlo : ORel g.ι g.μ lo lo') (hhi : ORel g.ι g.μ hi hi') (hl : bnd lo 0 = some l) (hh : bnd hi len = some h) (h1 : l ≤ h) (h2 : h ≤ cap) (w : World) :
    (Instr.sliceBounds isSl len cap lo' hi' none).run P w = .ok (l, h, cap) w := by
  rcases bnd_some hlo hl with ⟨rfl, rfl, rfl⟩ | ⟨k, i, rfl, hi0, rfl⟩ <;> rcases bnd_some hhi hh with ⟨rfl, rfl, rfl⟩ | ⟨k', j, rfl, hj0, rfl⟩ <;>
    simp only [Instr.sliceBounds, Sem.run_bind, Sem.run_pure, Result.andThen_ok, Option.isSome_none, Bool.false_eq_true, if_false]
  · rw [run_sliceBound hj0 h2]; simp only [Result.andThen_ok]
  · rw [run_sliceBound hi0 h1]; simp only [Result.andThen_ok]
  · rw [run_sliceBound hj0 h2]; simp only [Result.andThen_ok]; rw [run_sliceBound hi0 h1]; simp only [Result.andThen_ok]

theorem run_bounds_some {isSl : Bool} {len cap : Nat} {lo hi mx : Option AVal} {lo' hi' mx' : Option Value} {l h m : Nat} (hlo : ORel g.ι g.μ lo lo') (hhi : ORel g.ι g.μ hi hi') (hmx : ORel g.ι g.μ mx mx') (hl : bnd lo 0 = some l) (hh : bnd hi len = some h)
    (hm : bnd mx 0 = some m) (hms : mx.isSome = true) (hhs : hi.isSome = true) (h1 : l ≤ h) (h2 : h ≤ m) (h3 : m ≤ cap) (w : World) : (Instr.sliceBounds isSl len cap lo' hi' mx').run P w = .ok (l, h, m) w := by
  rcases bnd_some hmx hm with ⟨rfl, rfl, rfl⟩ | ⟨k'', u, rfl, hu0, rfl⟩
  · simp at hms
  rcases bnd_some hhi hh with ⟨rfl, rfl, rfl⟩ | ⟨k', j, rfl, hj0, rfl⟩
  · simp at hhs
  rcases bnd_some hlo hl with ⟨rfl, rfl, rfl⟩ | ⟨k, i, rfl, hi0, rfl⟩ <;> simp only [Instr.sliceBounds, Sem.run_bind]
  · rw [run_sliceBound hu0 h3]; simp only [Result.andThen_ok]; rw [run_sliceBound hj0 h2]; simp only [Result.andThen_ok, Sem.run_pure]
  · rw [run_sliceBound hu0 h3]; simp only [Result.andThen_ok]; rw [run_sliceBound hj0 h2]; simp only [Result.andThen_ok]; rw [run_sliceBound hi0 h1]; simp only [Result.andThen_ok, Sem.run_pure]

theorem bytes_extract (s : List UInt8) (l h : Nat) : (⟨s.toArray⟩ : ByteArray).extract l h = ⟨((s.take h).drop l).toArray⟩ := by
  ext1
  simp [List.drop_take]

/-- A slice cut: lists that bear their content. -/
theorem lst_cut {cells : List AVal} {vs : List Value} {len cap' es l h m : Nat} {cap : Cap} {a : Addr} (hc : VsRel g.ι g.μ cells vs) (hi : ICells g.ι a.block a.off vs) (hs : 0 < len → a.spot = none) (hh : h ≤ len) (hm : m ≤ cap') (hlh : l ≤ h) (hhm : h ≤ m)
    {cap2 : Cap} (hcap2 : ∀ a', a' = (if m = l then a else a.add (l * es)) → CapRel g.μ cap2 a' (h - l) ((cells.take (h * es)).drop (l * es)).length (m - l)) (hlen : len ≤ cap') :
    VRel g.ι g.μ (.lst ((cells.take (h * es)).drop (l * es)) (h - l) cap2) (.slice (if m = l then some a else some (a.add (l * es))) (h - l) (m - l)) := by
  obtain ⟨b, o, sp⟩ := a
  have hv := (hc.take (h * es)).drop (l * es)
  have hic := ((hi.take (h * es)).drop (l * es))
  by_cases hml : m = l
  · have : h = l := by omega
    subst this
    rw [if_pos hml]
    have he : (cells.take (h * es)).drop (h * es) = [] := by simp
    have he' : (vs.take (h * es)).drop (h * es) = [] := by simp
    have := hcap2 _ (if_pos hml).symm
    rw [he] at this ⊢
    exact VRel.lst .nil (fun j v hj => by simp at hj) (fun h0 => by omega) (by omega) this
  · rw [if_neg hml]
    have := hcap2 _ (if_neg hml).symm
    refine VRel.lst hv ?_ (fun h0 => ?_) (by omega) this
    · have hz : ((⟨b, o, sp⟩ : Addr).add (l * es)).block = b ∧ ((⟨b, o, sp⟩ : Addr).add (l * es)).off = o + l * es := by
        unfold Addr.add; split
        · rename_i h0; rw [h0]; exact ⟨rfl, rfl⟩
        · exact ⟨rfl, rfl⟩
      rw [hz.1, hz.2]; exact hic
    · have := hs (by omega)
      simp only at this; subst this
      rw [add_plain]

theorem sliceA_slice {es : Nat} {x v : AVal} {x' : Value} {lo hi mx : Option AVal} {lo' hi' mx' : Option Value} {t e : TypeId} {i : TypeInfo} (hd : P.underlying t = some (.slice e)) (hie : P.info? e = some i) (hes : i.size = es)
    (hx : VRel g.ι g.μ x x') (hlo : ORel g.ι g.μ lo lo') (hhi : ORel g.ι g.μ hi hi') (hmx : ORel g.ι g.μ mx mx') (hl : sliceA es x lo hi mx = some v) (hns : ∀ s, x ≠ .str s) :
    ∃ v', (Instr.slice t x' lo' hi' mx').run P g.w = .ok v' g.w ∧ VRel g.ι g.μ v v' := by
  subst hes
  unfold sliceA at hl
  split at hl
  · exact absurd rfl (hns _)
  · simp only [Option.bind_eq_bind, Option.bind_eq_some_iff] at hl
    obtain ⟨m, hm, h, hh, l, hl', hl⟩ := hl
    split at hl
    case isFalse => cases hl
    rename_i hz
    obtain ⟨rfl, rfl, rfl, hmh⟩ := hz
    simp only [Option.some.injEq] at hl; subst hl
    cases hx
    have hb : (Instr.sliceBounds true 0 0 lo' hi' mx').run P g.w = .ok (0, 0, 0) g.w := by
      cases hmx with
      | none => exact run_bounds_none hlo hhi hl' hh (Nat.le_refl _) (Nat.le_refl _) _
      | some hv => exact run_bounds_some hlo hhi (.some hv) hl' hh hm rfl (hmh rfl) (Nat.le_refl _) (Nat.le_refl _) (Nat.le_refl _) _
    refine ⟨.slice none 0 0, ?_, .nilSl⟩
    simp only [Instr.slice, Sem.run_bind, run_underlying hd, Result.andThen_ok, hb, run_sizeOf' hie, Sem.run_pure, if_true, Nat.sub_self]
  · rename_i cells len cap
    simp only [Option.bind_eq_bind, Option.bind_eq_some_iff] at hl
    obtain ⟨h, hh, l, hl', hl⟩ := hl
    cases hx with
    | @lst _ vs _ cap' _ a hc hi' hs hn hcap =>
    cases hmx with
    | none =>
      simp only at hl
      split at hl
      case isFalse => cases hl
      rename_i hcond
      simp only [Option.some.injEq] at hl; subst hl
      obtain ⟨hlh, hhl, hlen⟩ := hcond
      refine ⟨_, ?_, lst_cut (cap := cap) (es := i.size) (l := l) (m := cap') hc hi' hs hhl (Nat.le_refl _) hlh (by omega) (fun a' ha' => ?_) hn⟩
      · simp only [Instr.slice, Sem.run_bind, run_underlying hd, Result.andThen_ok, run_bounds_none hlo hhi hl' hh hlh (Nat.le_trans hhl hn), run_sizeOf' hie, Sem.run_pure, Option.map_some]
      · by_cases he : h = len
        · rw [if_pos he]
          subst he
          cases cap with
          | full => simp only [CapRel] at hcap ⊢; omega
          | unk => trivial
          | tok r =>
            obtain ⟨b, m, s, es, hmu, ht⟩ := hcap
            refine ⟨b, m, s, es, hmu, fun hlt => ?_⟩
            have hlt' : h < cap' := by omega
            obtain ⟨ht1, ht2, ht3⟩ := ht hlt'
            rw [if_neg (by omega)] at ha'
            rw [ha', ht2, add_plain]
            have hm1 : l * i.size ≤ h * i.size := Nat.mul_le_mul_right _ hlh
            have hl2 : ((cells.take (h * i.size)).drop (l * i.size)).length = h * i.size - l * i.size := by simp; omega
            rw [hl2]
            refine ⟨by omega, ?_, ?_⟩
            · congr 1; omega
            · rw [show cap' - l - (h - l) = cap' - h from by omega]; exact ht3
        · rw [if_neg he]; trivial
    | @some y y' hv =>
      simp only [Option.bind_eq_some_iff] at hl
      obtain ⟨m, hm, hl⟩ := hl
      split at hl
      case isFalse => cases hl
      rename_i hcond
      obtain ⟨hlh, hhm, hml, hhi'⟩ := hcond
      simp only [Option.some.injEq] at hl; subst hl
      refine ⟨_, ?_, lst_cut (cap := cap) (es := i.size) (l := l) (m := m) hc hi' hs (by omega) (by omega) hlh hhm (fun a' ha' => ?_) hn⟩
      · simp only [Instr.slice, Sem.run_bind, run_underlying hd, Result.andThen_ok, run_bounds_some (cap := cap') hlo hhi (.some hv) hl' hh hm rfl hhi' hlh hhm (show m ≤ cap' by omega), run_sizeOf' hie, Sem.run_pure, Option.map_some]
      · by_cases he : h = m
        · rw [if_pos he]; simp only [CapRel]; omega
        · rw [if_neg he]; trivial
  · rename_i id off es' len cap op
    simp only [Option.bind_eq_bind, Option.bind_eq_some_iff] at hl
    obtain ⟨h, hh, l, hl', hl⟩ := hl
    cases hx with
    | @sl _ _ _ _ _ cap' b o s _ a hm hn hcap hop ha =>
    cases hmx with
    | none =>
      simp only at hl
      split at hl
      case isFalse => cases hl
      rename_i hcond
      obtain ⟨he, hlh, hhc⟩ := hcond
      simp only [Option.some.injEq] at hl; subst hl
      refine ⟨.slice (if cap' = l then some a else some (a.add (l * i.size))) (h - l) (cap' - l), ?_, ?_⟩
      · simp only [Instr.slice, Sem.run_bind, run_underlying hd, Result.andThen_ok, run_bounds_none hlo hhi hl' hh hlh (Nat.le_trans hhc hcap), run_sizeOf' hie, Sem.run_pure, Option.map_some]
      · by_cases hcl : cap' = l
        · rw [if_pos hcl]
          exact .sl hm (by omega) (by omega) (fun h0 => by have := hop h0; omega) (fun h0 => by omega)
        · rw [if_neg hcl]
          refine .sl hm (by omega) (by omega) (fun h0 => by have := hop h0; omega) (fun h0 => ?_)
          obtain ⟨h1, h2⟩ := ha (by omega)
          rw [h1, add_plain, Nat.add_assoc]
          refine ⟨rfl, ?_⟩
          have : (cap' - l) * i.size + l * i.size = cap' * i.size := by rw [← Nat.add_mul]; congr 1; omega
          rw [he] at h2; omega
    | @some y y' hv =>
      simp only [Option.bind_eq_some_iff] at hl
      obtain ⟨m, hm', hl⟩ := hl
      split at hl
      case isFalse => cases hl
      rename_i hcond
      obtain ⟨he, hlh, hhm, hmc, hhi'⟩ := hcond
      simp only [Option.some.injEq] at hl; subst hl
      refine ⟨.slice (if m = l then some a else some (a.add (l * i.size))) (h - l) (m - l), ?_, ?_⟩
      · simp only [Instr.slice, Sem.run_bind, run_underlying hd, Result.andThen_ok, run_bounds_some (cap := cap') hlo hhi (.some hv) hl' hh hm' rfl hhi' hlh hhm (show m ≤ cap' by omega), run_sizeOf' hie, Sem.run_pure, Option.map_some]
      · by_cases hcl : m = l
        · rw [if_pos hcl]
          exact .sl hm (by omega) (by omega) (fun _ => rfl) (fun h0 => by omega)
        · rw [if_neg hcl]
          refine .sl hm (by omega) (by omega) (fun _ => rfl) (fun h0 => ?_)
          obtain ⟨h1, h2⟩ := ha (by omega)
          rw [h1, add_plain, Nat.add_assoc]
          refine ⟨rfl, ?_⟩
          have : (m - l) * i.size + l * i.size = m * i.size := by rw [← Nat.add_mul]; congr 1; omega
          have : m * i.size ≤ cap' * i.size := Nat.mul_le_mul_right _ (by omega)
          rw [he] at h2; omega
  · cases hl

theorem slice_ok {B : Nat} {hp : AHeap} (I : Inv B hp g) {x v : AVal} {x' : Value} {lo hi mx : Option AVal} {lo' hi' mx' : Option Value} {t : TypeId} (hx : VRel g.ι g.μ x x') (hlo : ORel g.ι g.μ lo lo') (hhi : ORel g.ι g.μ hi hi') (hmx : ORel g.ι g.μ mx mx')
    (hl : aslice P hp t x lo hi mx = some v) : ∃ v', (Instr.sliceAt t x' lo' hi' mx').run P g.w = .ok v' g.w ∧ VRel g.ι g.μ v v' := by
  simp only [aslice, Option.bind_eq_bind, Option.bind_eq_some_iff] at hl
  obtain ⟨d, hd, hl⟩ := hl
  cases d <;> try (cases hl; done)
  case slice e =>
    simp only [Option.bind_eq_some_iff] at hl
    obtain ⟨i, hie, hl⟩ := hl
    have hns : ∀ s, x ≠ .str s := fun s h => by subst h; cases hl
    have hl2 : sliceA i.size x lo hi mx = some v := by
      cases x <;> first | exact hl | (cases hl; done)
    obtain ⟨v', hr, hv⟩ := sliceA_slice hd hie rfl hx hlo hhi hmx hl2 hns
    exact ⟨v', by simp only [Instr.sliceAt, Sem.run_bind, run_underlying hd, Result.andThen_ok, hr], hv⟩
  case string =>
    cases x <;> try (cases hl; done)
    case str s =>
    cases hx
    simp only [sliceA, Option.bind_eq_bind] at hl
    split at hl
    · cases hl
    rename_i hmn
    simp only [Option.bind_eq_some_iff] at hl
    obtain ⟨h, hh, l, hl', hl⟩ := hl
    split at hl
    case isFalse => cases hl
    rename_i hcond
    simp only [Option.some.injEq] at hl; subst hl
    cases hmx with
    | some hv => simp at hmn
    | none =>
    have hsz : (⟨s.toArray⟩ : ByteArray).size = s.length := by show s.toArray.size = _; simp
    refine ⟨.string ⟨((s.take h).drop l).toArray⟩, ?_, .str _⟩
    simp only [Instr.sliceAt, Instr.slice, Sem.run_bind, run_underlying hd, Result.andThen_ok, Option.isSome_none, Bool.false_eq_true, if_false, hsz, Sem.run_pure,
      run_bounds_none hlo hhi hl' hh hcond.1 hcond.2, bytes_extract]
  case array n e =>
    simp only [Option.bind_eq_some_iff] at hl
    obtain ⟨i, hie, hl⟩ := hl
    split at hl
    · cases hl
    rename_i hmn
    simp only [Option.bind_eq_some_iff] at hl
    obtain ⟨h, hh, l, hl', hl⟩ := hl
    split at hl
    case isFalse => cases hl
    rename_i hcond
    cases hmx with
    | some hv => simp at hmn
    | none =>
    cases x <;> try (cases hl; done)
    case ptr id off =>
      simp only at hl
      split at hl
      case h_2 => cases hl
      rename_i cells hget
      split at hl
      case isFalse => cases hl
      rename_i hfit
      simp only [Option.some.injEq] at hl; subst hl
      obtain ⟨b', o', cs, ce, ws, hm', h0, hh', hws, hcs, hn⟩ := I.blk id _ hget
      cases hx with
      | @ptr _ _ b o s hm =>
      rw [hm'] at hm
      simp only [Option.some.injEq, Ent.arr.injEq] at hm
      obtain ⟨rfl, rfl, rfl⟩ := hm
      refine ⟨.slice (some (if n = l then ⟨b', o' + off, none⟩ else (⟨b', o' + off, none⟩ : Addr).add (l * i.size))) (h - l) (n - l), ?_, ?_⟩
      · simp only [Instr.sliceAt, Instr.sureAddr, Sem.run_bind, run_underlying hd, Result.andThen_ok, Sem.run_pure, run_bounds_none hlo hhi hl' hh hcond.1 hcond.2, run_sizeOf' hie]
      · refine .sl hm' (by omega) (Nat.le_refl _) (fun _ => rfl) (fun h0 => ?_)
        rw [if_neg (by omega), add_plain, Nat.add_assoc]
        refine ⟨rfl, ?_⟩
        have h1 : (n - l) * i.size + l * i.size = n * i.size := by rw [← Nat.add_mul]; congr 1; omega
        have := hn.2
        omega
    case iptr cells =>
      simp only at hl
      split at hl
      case isFalse => cases hl
      rename_i hcl
      simp only [Option.some.injEq] at hl; subst hl
      cases hx with
      | @iptr _ vs b o hc hi' =>
      refine ⟨.slice (some (if n = l then ⟨b, o, none⟩ else (⟨b, o, none⟩ : Addr).add (l * i.size))) (h - l) (n - l), ?_, ?_⟩
      · simp only [Instr.sliceAt, Instr.sureAddr, Sem.run_bind, run_underlying hd, Result.andThen_ok, Sem.run_pure, run_bounds_none hlo hhi hl' hh hcond.1 hcond.2, run_sizeOf' hie]
      · by_cases hnl : n = l
        · rw [if_pos hnl]
          have : h = l := by omega
          subst this
          have he : (cells.take (h * i.size)).drop (h * i.size) = [] := by simp
          rw [he]
          refine VRel.lst (a := ⟨b, o, none⟩) .nil (fun j v hj => by simp at hj) (fun _ => rfl) (by omega) ?_
          split
          · simp only [CapRel]; omega
          · trivial
        · rw [if_neg hnl, add_plain]
          refine VRel.lst (a := ⟨b, o + l * i.size, none⟩) ((hc.take _).drop _) ((hi'.take _).drop _) (fun _ => rfl) (by omega) ?_
          split
          · simp only [CapRel]; omega
          · trivial

end
end Go.Am
