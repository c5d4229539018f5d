/-
  THE ABSTRACT MACHINE: what an argument reads as is content: no address is left in it.
-/
import Derived.Test.YtijnepmlnfcpnaaGreatDoorAmTop
import GoSem.ClaimChange
set_option linter.unusedVariables false
set_option linter.unusedSimpArgs false
set_option linter.unusedSimpArgs false
namespace Go.Am
open Go

/-- Do a struct's fields lie one behind the other, and fill it? -/
def tightGo (P : Program) : List Field → Nat → Option Nat
  | [], off => some off
  | f :: fs, off => if f.offset = off then tightGo P fs (off + P.cellsOf f.type) else none
def tightB (P : Program) (fs : List Field) (n : Nat) : Bool := tightGo P fs 0 == some n

mutual
/-- how much a value reads, every value and every letter once -/
def bulkA : AVal → Nat
  | .str s => s.length + 1
  | .iptr cs => bulkL cs + 1
  | .lst cs _ _ => bulkL cs + 1
  | .top => 0
  | _ => 1
def bulkL : List AVal → Nat
  | [] => 0
  | v :: vs => bulkA v + bulkL vs
end

/-- Content of a type. -/
def Cont (P : Program) : Nat → TypeId → List AVal → Prop
  | 0, _, _ => False
  | n + 1, t, as =>
    match P.underlying t with
    | some .bool => ∃ b, as = [.bool b]
    | some (.int k) => ∃ i, as = [.int k i] ∧ (Lit.int k i).wf = true
    | some .string => ∃ s, as = [.str s] ∧ s.length ≤ maxLen
    | some (.pointer e) => as = [.nilPtr] ∨ (P.cellsOf e = 0 ∧ as = [.top]) ∨ ∃ cs, as = [.iptr cs] ∧ Cont P n e cs
    | some (.slice e) => as = [.nilSl] ∨ (P.cellsOf e = 0 ∧ as = [.top]) ∨ ∃ (css : List (List AVal)) (cap : Cap), as = [.lst css.flatten css.length cap] ∧ (cap = .full ∨ cap = .unk) ∧ css.length ≤ maxLen ∧ ∀ c ∈ css, Cont P n e c ∧ c.length = P.cellsOf e
    | some (.struct fs) => tightB P fs.toList (P.cellsOf t) = true → ∃ css : List (List AVal), as = css.flatten ∧ css.length = fs.size ∧
        ∀ (i : Nat) (f : Field) (c : List AVal), fs[i]? = some f → css[i]? = some c → Cont P n f.type c ∧ c.length = P.cellsOf f.type
    | some (.interface _) => as = [.nilI] ∨ as = [.top]
    | _ => True

mutual
/-- the bulk of a reading -/
def bulkD {H : Type} : DataW H → Nat
  | .lit (.string bytes) => bytes.length + 1
  | .lit _ => 1
  | .nil => 1
  | .ptr d => bulkD d + 1
  | .slice elems spare => bulkDs elems + bulkDs spare + 1
  | .agg parts => bulkDs parts + 1
  | .iface _ d => bulkD d + 1
  | .map _ => 1
  | .held _ => 1
def bulkDs {H : Type} : List (DataW H) → Nat
  | [] => 0
  | d :: r => bulkD d + bulkDs r
end

theorem bulkL_append (a b : List AVal) : bulkL (a ++ b) = bulkL a + bulkL b := by
  induction a with
  | nil => simp [bulkL]
  | cons x xs ih => simp only [List.cons_append, bulkL, ih]; omega

theorem mapM_some {α β : Type} {f : α → Option β} : ∀ {l : List α} {ys : List β}, l.mapM f = some ys → ys.length = l.length ∧ ∀ (i : Nat) (x : α), l[i]? = some x → ∃ y, ys[i]? = some y ∧ f x = some y := by
  intro l
  induction l with
  | nil => intro ys h; simp at h; subst h; exact ⟨rfl, fun i x h => by simp at h⟩
  | cons a l ih =>
    intro ys h
    simp only [List.mapM_cons, Option.bind_eq_bind, Option.bind_eq_some_iff, Option.pure_def, Option.some.injEq] at h
    obtain ⟨y, hy, zs, hz, rfl⟩ := h
    obtain ⟨h1, h2⟩ := ih hz
    refine ⟨by simp [h1], fun i x hx => ?_⟩
    cases i with
    | zero => simp at hx; subst hx; exact ⟨y, rfl, hy⟩
    | succ i => simpa using h2 i x (by simpa using hx)

section
variable {H : Type} {enc : TypeId × Value → H} {P : Program} {W : World} {spare : Nat → Bool}

/-- what is claimed of one reading -/
def Good (P : Program) (W : World) (n : Nat) (t : TypeId) (cs : List Value) (d : DataW H) (as : List AVal) : Prop :=
  VsRel (allCells W) (fun _ => none) as cs ∧ Cont P n t as ∧ bulkL as ≤ bulkD d

theorem cells_some {a : Addr} {n : Nat} {cs : List Value} (h : W.cells? 0 a n = some cs) : cs.length = n ∧ ∀ (j : Nat) (v : Value), cs[j]? = some v → W.cell? (a.add j) = some v := by
  unfold World.cells? at h
  rw [if_pos (Nat.zero_le _)] at h
  obtain ⟨h1, h2⟩ := mapM_some h
  simp at h1
  refine ⟨h1, fun j v hj => ?_⟩
  have hlt : j < n := by
    rcases Nat.lt_or_ge j n with h3 | h3
    · exact h3
    · rw [List.getElem?_eq_none (by omega)] at hj; cases hj
  obtain ⟨y, hy, hc⟩ := h2 j j (by simp [hlt])
  rw [hy] at hj; cases hj; exact hc

theorem cell_spot {W : World} {a : Addr} {v : Value} (h : W.cell? a = some v) : a.spot = none := by
  unfold World.cell? at h
  split at h
  · split at h
    · cases h
    · rename_i hs; simpa using hs
  · cases h

theorem chunks_ok {e : TypeId} {sz : Nat} (a : Addr) {n : Nat} : ∀ (len : Nat) (xs : List (DataW H × List MemPlace)) (ih : ∀ cs d ps, DataW.trod enc P W 0 spare true n e cs = some (d, ps) → ∃ as, Good P W n e cs d as)
    (_ : ∀ i, i < len → ∃ x cs, xs[i]? = some x ∧ W.cells? 0 (a.add (i * sz)) sz = some cs ∧ DataW.trod enc P W 0 spare true n e cs = some (x.1, x.2)) (_ : xs.length = len),
    ∃ (css : List (List AVal)) (vs : List Value), css.length = len ∧ VsRel (allCells W) (fun _ => none) css.flatten vs ∧ vs.length = len * sz ∧ (∀ (j : Nat) (v : Value), vs[j]? = some v → a.spot = none ∧ W.cell? ⟨a.block, a.off + j, none⟩ = some v) ∧
      (∀ c ∈ css, Cont P n e c ∧ c.length = sz) ∧ bulkL css.flatten ≤ bulkDs (xs.map (·.1)) := by
  intro len
  induction len with
  | zero =>
    intro xs ih h hl
    have : xs = [] := List.eq_nil_of_length_eq_zero hl
    subst this
    exact ⟨[], [], rfl, .nil, by simp, fun j v h => by simp at h, fun c hc => absurd hc (by simp), by simp [bulkL]⟩
  | succ len ihl =>
    intro xs ih h hl
    obtain ⟨ys, y, rfl⟩ : ∃ ys y, xs = ys ++ [y] := by
      have hne : xs ≠ [] := by intro e; subst e; simp at hl
      exact ⟨xs.dropLast, xs.getLast hne, (List.dropLast_concat_getLast hne).symm⟩
    have hyl : ys.length = len := by simp at hl; omega
    obtain ⟨css, vs, h1, h2, h3, h4, h5, h6⟩ := ihl ys ih (fun i hi => by
      obtain ⟨x, cs, h7, h8⟩ := h i (by omega)
      rw [List.getElem?_append_left (by omega)] at h7
      exact ⟨x, cs, h7, h8⟩) hyl
    obtain ⟨x, cs, h7, h8, h9⟩ := h len (by omega)
    rw [List.getElem?_append_right (by omega), hyl] at h7
    simp at h7; subst h7
    obtain ⟨as, hv, hc, hb⟩ := ih _ _ _ h9
    obtain ⟨hcl, hcc⟩ := cells_some h8
    refine ⟨css ++ [as], vs ++ cs, by simp [h1], by simpa using h2.append hv, by simp [h3, hcl, Nat.succ_mul], fun j v hj => ?_, fun c hcm => ?_, ?_⟩
    · rcases Nat.lt_or_ge j vs.length with h10 | h10
      · exact h4 j v (by rw [List.getElem?_append_left h10] at hj; exact hj)
      · rw [List.getElem?_append_right h10] at hj
        have hcell := hcc _ _ hj
        have hjlt : j - vs.length < sz := by
          rcases Nat.lt_or_ge (j - vs.length) sz with h11 | h11
          · exact h11
          · rw [List.getElem?_eq_none (by omega)] at hj; cases hj
        have hsp : a.spot = none := by
          rcases Nat.eq_zero_or_pos len with hz | hz
          · subst hz
            have h0 : ∃ v0, cs[0]? = some v0 := ⟨cs[0]'(by omega), by simp⟩
            obtain ⟨v0, h0⟩ := h0
            have := cell_spot (hcc _ _ h0)
            simpa [Addr.add] using this
          · have hpos : 0 < vs.length := by rw [h3]; exact Nat.mul_pos hz (by omega)
            have h0 : ∃ v0, vs[0]? = some v0 := ⟨vs[0]'hpos, by simp⟩
            obtain ⟨v0, h0⟩ := h0
            exact (h4 0 v0 h0).1
        refine ⟨hsp, ?_⟩
        have e1 : ((a.add (len * sz)).add (j - vs.length)) = ⟨a.block, a.off + j, none⟩ := by
          cases a with | mk b o s =>
          simp only at hsp; subst hsp
          rw [add_plain, add_plain]
          simp only [Addr.mk.injEq, and_true, true_and]
          omega
        rw [e1] at hcell; exact hcell
    · rcases List.mem_append.1 hcm with h10 | h10
      · exact h5 c h10
      · simp at h10; subst h10
        exact ⟨hc, by rw [hv.length, hcl]⟩
    · simp only [List.flatten_append, List.flatten_cons, List.flatten_nil, List.append_nil, bulkL_append, List.map_append, List.map_cons, List.map_nil]
      have : ∀ (l : List (DataW H)) (d : DataW H), bulkDs (l ++ [d]) = bulkDs l + bulkD d := by
        intro l d
        induction l with
        | nil => simp [bulkDs]
        | cons z l ihz => simp only [List.cons_append, bulkDs, ihz]; omega
      rw [this]; omega

theorem fields_ok {n : Nat} {cs : List Value} (ih : ∀ t cs d ps, DataW.trod enc P W 0 spare true n t cs = some (d, ps) → ∃ as, Good P W n t cs d as) : ∀ (fs : List Field) (off tot : Nat) (xs : List (DataW H × List MemPlace)), tightGo P fs off = some tot → cs.length = tot →
    fs.mapM (fun f => DataW.trod enc P W 0 spare true n f.type ((cs.drop f.offset).take (P.cellsOf f.type))) = some xs →
    off ≤ tot ∧ ∃ css : List (List AVal), VsRel (allCells W) (fun _ => none) css.flatten (cs.drop off) ∧ css.length = fs.length ∧ (∀ (i : Nat) (f : Field) (c : List AVal), fs[i]? = some f → css[i]? = some c → Cont P n f.type c ∧ c.length = P.cellsOf f.type) ∧ bulkL css.flatten ≤ bulkDs (xs.map (·.1)) := by
  intro fs
  induction fs with
  | nil =>
    intro off tot xs ht hl hm
    simp only [tightGo, Option.some.injEq] at ht; subst ht
    simp at hm; subst hm
    refine ⟨Nat.le_refl _, [], ?_, rfl, fun i f c h => by simp at h, by simp [bulkL]⟩
    rw [List.drop_eq_nil_of_le (by omega)]; exact .nil
  | cons f fs ihf =>
    intro off tot xs ht hl hm
    simp only [tightGo] at ht
    split at ht
    case isFalse => cases ht
    rename_i hoff
    simp only [List.mapM_cons, Option.bind_eq_bind, Option.bind_eq_some_iff, Option.pure_def, Option.some.injEq] at hm
    obtain ⟨x, hx, ys, hy, rfl⟩ := hm
    obtain ⟨hle, css, h1, h2, h3, h4⟩ := ihf _ tot ys ht hl hy
    obtain ⟨as, hv, hc, hb⟩ := ih _ _ x.1 x.2 hx
    rw [hoff] at hv
    refine ⟨by omega, as :: css, ?_, by simp [h2], fun i g c hg hcc => ?_, ?_⟩
    · simp only [List.flatten_cons]
      have : cs.drop off = (cs.drop off).take (P.cellsOf f.type) ++ cs.drop (off + P.cellsOf f.type) := by
        rw [← List.drop_drop, List.take_append_drop]
      rw [this]
      exact hv.append h1
    · cases i with
      | zero =>
        simp at hg hcc; subst hg; subst hcc
        refine ⟨hc, ?_⟩
        rw [hv.length]; simp; omega
      | succ i => exact h3 i g c (by simpa using hg) (by simpa using hcc)
    · simp only [List.flatten_cons, bulkL_append, List.map_cons, bulkDs]; omega

theorem bulk_tops (n : Nat) : bulkL (List.replicate n .top) = 0 := by
  induction n with
  | zero => rfl
  | succ n ih => simp only [List.replicate_succ, bulkL, bulkA, ih]

theorem good_tops {n : Nat} {t : TypeId} {cs : List Value} {d : DataW H} (h : Cont P n t (List.replicate cs.length .top)) : ∃ as, Good P W n t cs d as :=
  ⟨_, VsRel.replicate_top _ _ rfl, h, by rw [bulk_tops]; exact Nat.zero_le _⟩

theorem trod_cont : ∀ (n : Nat) (t : TypeId) (cs : List Value) (d : DataW H) (ps : List MemPlace), DataW.trod enc P W 0 spare true n t cs = some (d, ps) → ∃ as, Good P W n t cs d as := by
  intro n
  induction n with
  | zero => intro t cs d ps h; simp [DataW.trod] at h
  | succ n ih =>
    intro t cs d ps h
    unfold DataW.trod at h
    split at h
    case h_1 b hu =>
      simp only [Option.some.injEq, Prod.mk.injEq] at h
      obtain ⟨rfl, rfl⟩ := h
      exact ⟨[.bool b], .cons (.bool b) .nil, by simp only [Cont, hu]; exact ⟨b, rfl⟩, by simp [bulkL, bulkA, bulkD]⟩
    case h_2 k k' i hu =>
      split at h
      case isFalse => cases h
      rename_i hk
      simp only [Option.some.injEq, Prod.mk.injEq] at h
      obtain ⟨rfl, rfl⟩ := h
      obtain ⟨rfl, hw⟩ := hk
      exact ⟨[.int k' i], .cons (.int k' i) .nil, by simp only [Cont, hu]; exact ⟨i, rfl, hw⟩, by simp [bulkL, bulkA, bulkD]⟩
    case h_3 k k' b hu => exact good_tops (by simp only [Cont, hu])
    case h_4 s hu =>
      split at h
      case isFalse => cases h
      rename_i hk
      simp only [Option.some.injEq, Prod.mk.injEq] at h
      obtain ⟨rfl, rfl⟩ := h
      refine ⟨[.str s.data.toList], .cons ?_ .nil, by simp only [Cont, hu]; exact ⟨_, rfl, by simpa using hk⟩, by simp [bulkL, bulkA, bulkD]⟩
      have := VRel.str (ι := allCells W) (μ := fun _ => none) s.data.toList
      simpa using this
    case h_5 e hu =>
      simp only [Option.some.injEq, Prod.mk.injEq] at h
      obtain ⟨rfl, rfl⟩ := h
      exact ⟨[.nilPtr], .cons .nilPtr .nil, by simp only [Cont, hu]; simp, by simp [bulkL, bulkA, bulkD]⟩
    case h_6 e a hu =>
      simp only [Option.map_eq_some_iff, Option.bind_eq_some_iff, Prod.mk.injEq] at h
      obtain ⟨⟨d1, p1⟩, ⟨vs, hvs, htr⟩, rfl, rfl⟩ := h
      obtain ⟨as, hv, hc, hb⟩ := ih _ _ _ _ htr
      obtain ⟨hl, hcell⟩ := cells_some hvs
      by_cases hz : vs = []
      · refine good_tops ?_
        subst hz
        simp only [Cont, hu]
        exact .inr (.inl ⟨hl.symm, rfl⟩)
      · have h0 : ∃ v0, vs[0]? = some v0 := ⟨vs[0]'(List.length_pos_iff.2 hz), by simp⟩
        obtain ⟨v0, h0⟩ := h0
        have hsp := cell_spot (hcell _ _ h0)
        simp [Addr.add] at hsp
        have hi : ICells (allCells W) a.block a.off vs := fun j v hj => by
          have := hcell j v hj
          cases a with | mk b o s =>
          simp only at hsp; subst hsp
          rw [add_plain] at this; exact this
        refine ⟨[.iptr as], .cons ?_ .nil, by simp only [Cont, hu]; exact .inr (.inr ⟨as, rfl, hc⟩), by simp [bulkL, bulkA, bulkD]; omega⟩
        cases a with | mk b o s =>
        simp only at hsp; subst hsp
        exact .iptr hv hi
    case h_7 e hu =>
      simp only [Option.some.injEq, Prod.mk.injEq] at h
      obtain ⟨rfl, rfl⟩ := h
      exact ⟨[.nilSl], .cons .nilSl .nil, by simp only [Cont, hu]; simp, by simp [bulkL, bulkA, bulkD]⟩
    case h_8 e a len cap hu =>
      simp only at h
      split at h
      case isFalse => cases h
      rename_i hk
      obtain ⟨_, hlc, hcm⟩ := hk
      simp only [Option.bind_eq_some_iff, Option.map_eq_some_iff, Prod.mk.injEq] at h
      obtain ⟨xs, hxs, rest, hrest, rfl, rfl⟩ := h
      obtain ⟨hx1, hx2⟩ := mapM_some hxs
      simp only [List.length_range] at hx1
      obtain ⟨css, vs, h1, h2, h3, h4, h5, h6⟩ := chunks_ok (sz := P.cellsOf e) a len xs (ih e) (fun i hi => by
        obtain ⟨y, hy, hb⟩ := hx2 i i (by simp [hi])
        simp only [Option.bind_eq_some_iff] at hb
        obtain ⟨cs, hcs, htr⟩ := hb
        exact ⟨y, cs, hy, hcs, htr⟩) hx1
      have hcl : css.flatten.length = vs.length := h2.length
      by_cases hz : P.cellsOf e = 0
      · refine good_tops ?_
        simp only [Cont, hu]
        exact .inr (.inl ⟨hz, rfl⟩)
      refine ⟨[.lst css.flatten css.length (if cap = len then .full else .unk)], .cons ?_ .nil, ?_, ?_⟩
      · rw [h1]
        have hi : ICells (allCells W) a.block a.off vs := fun j v hj => (h4 j v hj).2
        refine .lst h2 hi (fun hl0 => ?_) hlc ?_
        · have hpos : 0 < vs.length := by rw [h3]; exact Nat.mul_pos hl0 (by omega)
          have h0 : ∃ v0, vs[0]? = some v0 := ⟨vs[0]'hpos, by simp⟩
          obtain ⟨v0, h0⟩ := h0
          exact (h4 _ _ h0).1
        · split
          · assumption
          · trivial
      · simp only [Cont, hu]
        refine .inr (.inr ⟨css, _, rfl, ?_, by omega, h5⟩)
        split
        · exact .inl rfl
        · exact .inr rfl
      · simp only [bulkL, bulkA, bulkD]; omega
    case h_9 fs hu =>
      split at h
      case isFalse => cases h
      rename_i hlen
      simp only [Option.map_eq_some_iff, Prod.mk.injEq] at h
      obtain ⟨xs, hxs, rfl, rfl⟩ := h
      by_cases ht : tightB P fs.toList (P.cellsOf t) = true
      · have ht' : tightGo P fs.toList 0 = some (P.cellsOf t) := by simpa [tightB] using ht
        obtain ⟨_, css, h1, h2, h3, h4⟩ := fields_ok ih fs.toList 0 _ xs ht' hlen hxs
        refine ⟨css.flatten, by simpa using h1, ?_, by simp only [bulkD]; omega⟩
        simp only [Cont, hu]
        exact fun _ => ⟨css, rfl, by simpa using h2, fun i f c hf hc => h3 i f c (by rw [Array.getElem?_toList]; exact hf) hc⟩
      · exact good_tops (by simp only [Cont, hu]; exact fun h => absurd h ht)
    case h_10 m e hu => exact good_tops (by simp only [Cont, hu])
    case h_11 ms hu =>
      simp only [Option.some.injEq, Prod.mk.injEq] at h
      obtain ⟨rfl, rfl⟩ := h
      exact ⟨[.nilI], .cons .nilI .nil, by simp only [Cont, hu]; simp, by simp [bulkL, bulkA, bulkD]⟩
    case h_12 ms u v hu => exact good_tops (by simp only [Cont, hu]; exact .inr rfl)
    all_goals first
      | (cases h; done)
      | (rename_i hu; exact good_tops (by simp only [Cont, hu]))
      | (rename_i hu _; exact good_tops (by simp only [Cont, hu]))
end
end Go.Am
