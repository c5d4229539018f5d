import Derived.Test.YthfbbjoaidajfaaGreatDoorAmEnds
import Derived.Test.YthfbbjoaidajfaaGreatDoorAmCont
set_option linter.unusedVariables false
set_option linter.unusedSimpArgs false
set_option linter.unusedVariables false
set_option linter.unusedSimpArgs false
namespace Go.Am
open Go
mutual
def strip : AVal → AVal
  | .iptr cs => .iptr (stripL cs)
  | .lst cs n c => .lst (stripL cs) n (match c with
    | .full => .full
    | .unk => .unk
    | .tok _ => .unk)
  | .fn f a b => .fn f (stripL a) (stripL b)
  | .iface t v => .iface t (strip v)
  | .agg cs => .agg (stripL cs)
  | .tup cs => .tup (stripL cs)
  | v => v
def stripL : List AVal → List AVal
  | [] => []
  | v :: vs => strip v :: stripL vs
end
theorem stripL_map (cs : List AVal) : stripL cs = cs.map strip := by
  induction cs with
  | nil => rfl
  | cons v vs ih => simp only [stripL, ih, List.map_cons]
theorem refsL_append (a b : List AVal) : refsL (a ++ b) = refsL a ++ refsL b := by
  induction a with
  | nil => rfl
  | cons v a ih => simp only [List.cons_append, refsL, ih, List.append_assoc]
mutual
theorem norm_kept (keep : Nat → Bool) (hop : Nat → Option (List AVal)) : ∀ v, (∀ i ∈ refs v, keep i = true) → normW keep hop v = some (strip v)
  | .ptr i _, h | .sl i _ _ _ _ _, h | .map i, h => by have := h i (by simp [refs]); simp only [normW, this, if_true, strip]
  | .iptr cs, h | .agg cs, h | .tup cs, h => by simp only [refs] at h; simp only [normW, normL_kept keep hop cs h, Option.map_some, strip]
  | .lst cs n c, h => by
    simp only [refs] at h
    simp only [normW, normL_kept keep hop cs h, Option.map_some, strip]
    cases c <;> rfl
  | .fn _ a b, h => by
    simp only [refs, List.mem_append] at h
    simp only [normW, normL_kept keep hop a fun i hi => h i (.inl hi), normL_kept keep hop b fun i hi => h i (.inr hi), strip]
  | .iface _ v, h => by simp only [refs] at h; simp only [normW, norm_kept keep hop v h, Option.map_some, strip]
  | .top, _ | .bool _, _ | .int _ _, _ | .str _, _ | .nilPtr, _ | .nilSl, _ | .nilMap, _ | .nilI, _ | .nilFn, _ => rfl
theorem normL_kept (keep : Nat → Bool) (hop : Nat → Option (List AVal)) : ∀ vs, (∀ i ∈ refsL vs, keep i = true) → normL keep hop vs = some (stripL vs)
  | [], _ => rfl
  | v :: vs, h => by
    simp only [refsL, List.mem_append] at h
    simp only [normL, norm_kept keep hop v fun i hi => h i (.inl hi), normL_kept keep hop vs fun i hi => h i (.inr hi), stripL]
end
mutual
theorem norm_strip (keep : Nat → Bool) (hop : Nat → Option (List AVal)) : ∀ v, refs v = [] → normW keep hop v = some (strip v)
  | .ptr _ _, h | .sl _ _ _ _ _ _, h | .map _, h => by simp [refs] at h
  | .iptr cs, h | .agg cs, h | .tup cs, h => by simp only [refs] at h; simp only [normW, normL_strip keep hop cs h, Option.map_some, strip]
  | .lst cs n c, h => by
    simp only [refs] at h
    simp only [normW, normL_strip keep hop cs h, Option.map_some, strip]
    cases c <;> rfl
  | .fn _ a b, h => by
    simp only [refs, List.append_eq_nil_iff] at h
    simp only [normW, normL_strip keep hop a h.1, normL_strip keep hop b h.2, strip]
  | .iface _ v, h => by simp only [refs] at h; simp only [normW, norm_strip keep hop v h, Option.map_some, strip]
  | .top, _ | .bool _, _ | .int _ _, _ | .str _, _ | .nilPtr, _ | .nilSl, _ | .nilMap, _ | .nilI, _ | .nilFn, _ => rfl
theorem normL_strip (keep : Nat → Bool) (hop : Nat → Option (List AVal)) : ∀ vs, refsL vs = [] → normL keep hop vs = some (stripL vs)
  | [], _ => rfl
  | v :: vs, h => by
    simp only [refsL, List.append_eq_nil_iff] at h
    simp only [normL, norm_strip keep hop v h.1, normL_strip keep hop vs h.2, stripL]
end
mutual
theorem strip_cont : ∀ v, refs v = [] → contB (strip v) = true
  | .ptr _ _, h | .sl _ _ _ _ _ _, h | .map _, h => by simp [refs] at h
  | .iptr cs, h | .agg cs, h | .tup cs, h => by simp only [refs] at h; simp only [strip, contB, stripL_cont cs h]
  | .lst cs n c, h => by
    simp only [refs] at h
    simp only [strip, contB, stripL_cont cs h, Bool.true_and]
    cases c <;> rfl
  | .fn _ a b, h => by
    simp only [refs, List.append_eq_nil_iff] at h
    simp only [strip, contB, stripL_cont a h.1, stripL_cont b h.2, Bool.and_self]
  | .iface _ v, h => by simp only [refs] at h; simp only [strip, contB, strip_cont v h]
  | .top, _ | .bool _, _ | .int _ _, _ | .str _, _ | .nilPtr, _ | .nilSl, _ | .nilMap, _ | .nilI, _ | .nilFn, _ => rfl
theorem stripL_cont : ∀ vs, refsL vs = [] → contBs (stripL vs) = true
  | [], _ => rfl
  | v :: vs, h => by
    simp only [refsL, List.append_eq_nil_iff] at h
    simp only [stripL, contBs, strip_cont v h.1, stripL_cont vs h.2, Bool.and_self]
end
structure Rp {α : Type} (r : α → List AVal → Prop) (n : Nat) : Prop where
  len : ∀ x c, r x c → c.length = n
  ref : ∀ x c, r x c → refsL c = []
  cell : ∀ x c, r x c → c.all AVal.isCell = true
  str : ∀ x c, r x c → r x (stripL c)
def rI (k : IntKind) (x : Int) (c : List AVal) : Prop := c = [.int k x]
def rS (x : List UInt8) (c : List AVal) : Prop := c = [.str x]
theorem rS_p : Rp rS 1 := ⟨fun x c h => by rw [h]; rfl, fun x c h => by rw [h]; rfl, fun x c h => by rw [h]; rfl, fun x c h => by rw [h]; rfl⟩
def Els {α : Type} (r : α → List AVal → Prop) (xs : List α) (css : List (List AVal)) : Prop := css.length = xs.length ∧ ∀ (i : Nat) (x : α) (c : List AVal), xs[i]? = some x → css[i]? = some c → r x c
def Sl {α : Type} (r : α → List AVal → Prop) (xs : List α) (v : AVal) : Prop :=
  (v = .nilSl ∧ xs = []) ∨ ∃ (css : List (List AVal)) (cap : Cap), v = .lst css.flatten css.length cap ∧ Els r xs css
def rSl {α : Type} (r : α → List AVal → Prop) (xs : List α) (c : List AVal) : Prop := ∃ v, c = [v] ∧ Sl r xs v
theorem Els.mem {α : Type} {r : α → List AVal → Prop} {xs : List α} {css : List (List AVal)} (h : Els r xs css) {c : List AVal} (hc : c ∈ css) : ∃ x, r x c := by
  obtain ⟨i, hi⟩ := List.mem_iff_getElem?.1 hc
  have hlt : i < xs.length := by rw [← h.1]; exact (List.getElem?_eq_some_iff.1 hi).1
  exact ⟨xs[i], h.2 i _ c (List.getElem?_eq_getElem hlt) hi⟩
theorem Els.nil {α : Type} {r : α → List AVal → Prop} : Els r ([] : List α) [] := ⟨rfl, fun i x c h => by simp at h⟩
theorem Els.cons {α : Type} {r : α → List AVal → Prop} {x : α} {xs : List α} {c : List AVal} {css : List (List AVal)} (h : r x c) (hs : Els r xs css) : Els r (x :: xs) (c :: css) := by
  refine ⟨by simp [hs.1], fun i y d hy hd => ?_⟩
  cases i with
  | zero => simp at hy hd; subst hy; subst hd; exact h
  | succ i => exact hs.2 i y d (by simpa using hy) (by simpa using hd)
theorem Els.append {α : Type} {r : α → List AVal → Prop} {xs ys : List α} {a b : List (List AVal)} (h : Els r xs a) (h2 : Els r ys b) : Els r (xs ++ ys) (a ++ b) := by
  refine ⟨by simp [h.1, h2.1], fun i y d hy hd => ?_⟩
  rcases Nat.lt_or_ge i xs.length with hl | hl
  · rw [List.getElem?_append_left hl] at hy
    rw [List.getElem?_append_left (by rw [h.1]; exact hl)] at hd
    exact h.2 i y d hy hd
  · rw [List.getElem?_append_right hl] at hy
    rw [List.getElem?_append_right (by rw [h.1]; exact hl), h.1] at hd
    exact h2.2 _ y d hy hd
section
variable {α : Type} {r : α → List AVal → Prop} {n : Nat}
theorem Els.flatLen (R : Rp r n) {xs : List α} {css : List (List AVal)} (h : Els r xs css) : css.flatten.length = css.length * n := by
  have hl : ∀ c ∈ css, c.length = n := fun c hc => by obtain ⟨x, hx⟩ := h.mem hc; exact R.len x c hx
  clear h
  induction css with
  | nil => simp
  | cons c css ih =>
    rw [List.flatten_cons, List.length_append, ih fun d hd => hl d (List.mem_cons_of_mem _ hd), hl c (List.mem_cons_self ..), List.length_cons, Nat.add_mul]
    omega
theorem Els.refs (R : Rp r n) {xs : List α} {css : List (List AVal)} (h : Els r xs css) : refsL css.flatten = [] := by
  have hl : ∀ c ∈ css, refsL c = [] := fun c hc => by obtain ⟨x, hx⟩ := h.mem hc; exact R.ref x c hx
  clear h
  induction css with
  | nil => rfl
  | cons c css ih => rw [List.flatten_cons, refsL_append, ih fun d hd => hl d (List.mem_cons_of_mem _ hd), hl c (List.mem_cons_self ..)]; rfl
theorem Els.cells (R : Rp r n) {xs : List α} {css : List (List AVal)} (h : Els r xs css) : css.flatten.all AVal.isCell = true := by
  rw [List.all_eq_true]
  intro v hv
  obtain ⟨c, hc, hvc⟩ := List.mem_flatten.1 hv
  obtain ⟨x, hx⟩ := h.mem hc
  exact List.all_eq_true.1 (R.cell x c hx) v hvc
theorem stripL_flatten (css : List (List AVal)) : stripL css.flatten = (css.map stripL).flatten := by
  rw [stripL_map, List.map_flatten]
  congr 1
  exact List.map_congr_left fun c _ => (stripL_map c).symm
theorem Els.strip (R : Rp r n) {xs : List α} {css : List (List AVal)} (h : Els r xs css) : Els r xs (css.map stripL) := by
  refine ⟨by simp [h.1], fun i x c hx hc => ?_⟩
  rw [List.getElem?_map, Option.map_eq_some_iff] at hc
  obtain ⟨d, hd, rfl⟩ := hc
  exact R.str x d (h.2 i x d hx hd)
theorem rSl_p (R : Rp r n) : Rp (rSl r) 1 := by
  refine ⟨?_, ?_, ?_, ?_⟩
  · rintro x c ⟨v, rfl, _⟩; rfl
  · rintro x c ⟨v, rfl, ⟨rfl, _⟩ | ⟨css, cap, rfl, h⟩⟩
    · rfl
    · simp only [refsL, Am.refs, h.refs R, List.append_nil]
  · rintro x c ⟨v, rfl, ⟨rfl, _⟩ | ⟨css, cap, rfl, h⟩⟩ <;> rfl
  · rintro x c ⟨v, rfl, ⟨rfl, rfl⟩ | ⟨css, cap, rfl, h⟩⟩
    · exact ⟨_, rfl, .inl ⟨rfl, rfl⟩⟩
    · refine ⟨_, rfl, .inr ⟨css.map stripL, (match cap with | .full => .full | .unk => .unk | .tok _ => .unk), ?_, h.strip R⟩⟩
      rw [← stripL_flatten, List.length_map]
      rfl
def at? (xs : List α) (i : Int) : Option α := if 0 ≤ i then xs[i.toNat]? else none
theorem at_nat (xs : List α) (i : Nat) : at? xs (i : Int) = xs[i]? := by unfold at?; rw [if_pos (by omega), Int.toNat_natCast]
theorem drop_flat (css : List (List AVal)) (hl : ∀ c ∈ css, c.length = n) : ∀ (i : Nat) (c : List AVal), css[i]? = some c → css.flatten.drop (i * n) = c ++ (css.drop (i + 1)).flatten := by
  induction css with
  | nil => intro i c h; simp at h
  | cons d css ih =>
    intro i c h
    cases i with
    | zero => simp at h; subst h; simp
    | succ i =>
      have hd := hl d (List.mem_cons_self ..)
      rw [List.flatten_cons, show (i + 1) * n = d.length + i * n by rw [hd, Nat.add_mul]; omega, List.drop_append]
      simp only [Nat.add_sub_cancel_left, List.drop_eq_nil_of_le (Nat.le_add_right _ _), List.nil_append, List.drop_succ_cons]
      exact ih (fun c hc => hl c (List.mem_cons_of_mem _ hc)) i c (by simpa using h)
theorem Sl.ix (R : Rp r n) {xs : List α} {v : AVal} (h : Sl r xs v) {i : Int} {x : α} (hx : at? xs i = some x) : ∃ c rest, r x c ∧ indexAddrA n v i = some (.iptr (c ++ rest)) ∧ refsL rest = [] := by
  unfold at? at hx
  split at hx
  case isFalse => cases hx
  rename_i h0
  rcases h with ⟨rfl, rfl⟩ | ⟨css, cap, rfl, E⟩
  · simp at hx
  · have hlt := (List.getElem?_eq_some_iff.1 hx).1
    rw [← E.1] at hlt
    obtain ⟨c, hc⟩ : ∃ c, css[i.toNat]? = some c := ⟨_, List.getElem?_eq_getElem hlt⟩
    have hl : ∀ c ∈ css, c.length = n := fun c hc => by obtain ⟨x, hx⟩ := E.mem hc; exact R.len x c hx
    have hd := drop_flat css hl _ c hc
    refine ⟨c, (css.drop (i.toNat + 1)).flatten, E.2 _ x c hx hc, ?_, ?_⟩
    · simp only [indexAddrA]
      rw [if_pos ⟨h0, by omega⟩, hd]
    · have hr := E.refs R
      have hsub : ∀ d ∈ css.drop (i.toNat + 1), refsL d = [] := fun d hd => by obtain ⟨x, hx⟩ := E.mem (List.mem_of_mem_drop hd); exact R.ref x d hx
      generalize css.drop (i.toNat + 1) = l at hsub
      induction l with
      | nil => rfl
      | cons d l ih => rw [List.flatten_cons, refsL_append, hsub d (List.mem_cons_self ..), ih fun e he => hsub e (List.mem_cons_of_mem _ he)]; rfl
theorem Sl.len {xs : List α} {v : AVal} (h : Sl r xs v) {P : Program} {t e : TypeId} (hu : P.underlying t = some (.slice e)) (hp : AHeap) : alen P hp t v = some (.int .i64 xs.length) := by
  rcases h with ⟨rfl, rfl⟩ | ⟨css, cap, rfl, E⟩ <;> simp [alen, hu]
  rw [E.1]
theorem Sl.lenA {xs : List α} {v : AVal} (h : Sl r xs v) (hp : AHeap) : Am.lenA hp v = some xs.length := by
  rcases h with ⟨rfl, rfl⟩ | ⟨css, cap, rfl, E⟩ <;> simp [Am.lenA]
  exact E.1
theorem Sl.refs (R : Rp r n) {xs : List α} {v : AVal} (h : Sl r xs v) : Am.refs v = [] := by
  rcases h with ⟨rfl, rfl⟩ | ⟨css, cap, rfl, E⟩
  · rfl
  · exact E.refs R
theorem Sl.isCell {xs : List α} {v : AVal} (h : Sl r xs v) : v.isCell = true := by
  rcases h with ⟨rfl, rfl⟩ | ⟨css, cap, rfl, E⟩ <;> rfl
theorem Sl.strip (R : Rp r n) {xs : List α} {v : AVal} (h : Sl r xs v) : Sl r xs (strip v) := by
  obtain ⟨w, hw, h2⟩ := (rSl_p R).str xs [v] ⟨v, rfl, h⟩
  cases hw; exact h2
theorem Sl.lst {xs : List α} {css : List (List AVal)} (cap : Cap) (h : Els r xs css) : Sl r xs (.lst css.flatten css.length cap) := .inr ⟨css, cap, rfl, h⟩
theorem Sl.nil : Sl r ([] : List α) .nilSl := .inl ⟨rfl, rfl⟩
def bndZ (x : Option Int) (d : Nat) : Option Nat := match x with
  | none => some d
  | some i => asNat i
def cutT (xs : List α) (lo hi mx : Option Int) : Option (List α) := do
  let h ← bndZ hi xs.length
  let l ← bndZ lo 0
  let m ← bndZ mx xs.length
  if l ≤ h ∧ h ≤ m ∧ m ≤ xs.length ∧ (mx.isSome = true → hi.isSome = true) ∧ (mx.isSome = true → h = m) then some ((xs.take h).drop l) else none
theorem Sl.ne_str {xs : List α} {v : AVal} (h : Sl r xs v) : ∀ s, v ≠ .str s := by
  rintro s rfl
  rcases h with ⟨h, _⟩ | ⟨css, cap, h, _⟩ <;> cases h
def Free (n : Nat) (v : AVal) (h : AHeap) : Prop := v = .nilSl ∨ ∃ cs len cap, v = .lst cs len cap ∧ (cap = .full ∨ ∃ t, cap = .tok t ∧ h.get t = some (.tok n) ∧ t < h.next)
def Gr {α : Type} (r : α → List AVal → Prop) (n : Nat) (xs : List α) (v : AVal) (h : AHeap) : Prop := Sl r xs v ∧ Free n v h
theorem Gr.nil (h : AHeap) : Gr r n ([] : List α) .nilSl h := ⟨.nil, .inl rfl⟩
theorem Gr.lt {xs : List α} {v : AVal} {h : AHeap} (g : Gr r n xs v h) : ∀ i ∈ accId v, i < h.next := by
  rcases g.2 with rfl | ⟨cs, len, cap, rfl, rfl | ⟨t, rfl, ht, hlt⟩⟩
  · intro i hi; simp [accId] at hi
  · intro i hi; simp [accId] at hi
  · intro i hi; simp only [accId, List.mem_singleton] at hi; subst hi; exact hlt
theorem Gr.keep {xs : List α} {v : AVal} {h h' : AHeap} (g : Gr r n xs v h) (hn : h.next ≤ h'.next) (he : ∀ i ∈ accId v, h'.get i = h.get i) : Gr r n xs v h' := by
  refine ⟨g.1, ?_⟩
  rcases g.2 with rfl | ⟨cs, len, cap, rfl, rfl | ⟨t, rfl, ht, hlt⟩⟩
  · exact .inl rfl
  · exact .inr ⟨_, _, _, rfl, .inl rfl⟩
  · exact .inr ⟨_, _, _, rfl, .inr ⟨t, rfl, by rw [he t (by simp [accId])]; exact ht, by omega⟩⟩
theorem Gr.not_acc {xs : List α} {v : AVal} {h : AHeap} (g : Gr r n xs v h) {id : Nat} {c : List AVal} (hg : h.get id = some (.arr c)) : id ∉ accId v := by
  rcases g.2 with rfl | ⟨cs, len, cap, rfl, rfl | ⟨t, rfl, ht, hlt⟩⟩
  · simp [accId]
  · simp [accId]
  · simp only [accId, List.mem_singleton]
    rintro rfl
    rw [hg] at ht; cases ht
theorem Gr.ne_arr {xs : List α} {v : AVal} {h : AHeap} (g : Gr r n xs v h) {id : Nat} {c : List AVal} (hg : h.get id = some (.arr c)) : ∀ i ∈ accId v, i ≠ id := fun i hi e => g.not_acc hg (e ▸ hi)
theorem Gr.full {xs : List α} {css : List (List AVal)} (E : Els r xs css) (h : AHeap) : Gr r n xs (.lst css.flatten css.length .full) h := ⟨.lst _ E, .inr ⟨_, _, _, rfl, .inl rfl⟩⟩
def appT (bytes : Nat) (xs ys : List α) : Option (List α) := if (xs.length + ys.length) * bytes ≤ 2 ^ 47 ∧ xs.length + ys.length ≤ 9223372036854775807 then some (xs ++ ys) else none
theorem srcSl (R : Rp r n) {ys : List α} {x : AVal} (hy : Sl r ys x) (h : AHeap) : ∃ css, Els r ys css ∧ srcCells h n ys.length x = some css.flatten := by
  rcases hy with ⟨rfl, rfl⟩ | ⟨css, cap, rfl, E⟩
  · exact ⟨[], .nil, rfl⟩
  · refine ⟨css, E, ?_⟩
    simp only [srcCells]
    rw [if_pos ⟨by rw [E.1]; exact Nat.le_refl _, E.flatLen R⟩, ← E.1, ← E.flatLen R, List.take_length]
theorem Gr.app (R : Rp r n) {bytes : Nat} {xs ys zs : List α} {s x : AVal} {h : AHeap} (g : Gr r n xs s h) (hy : Sl r ys x) (hz : appT bytes xs ys = some zs) :
    ∃ v' h', appendA false h n bytes s x = some (v', h') ∧ Gr r n zs v' h' ∧ h.next ≤ h'.next ∧ (∀ j, j < h.next → j ∉ accId s → h'.get j = h.get j) ∧ (∀ j ∈ accId v', j ∈ accId s ∨ h.next ≤ j) := by
  unfold appT at hz
  split at hz
  case isFalse => cases hz
  rename_i hb
  cases hz
  obtain ⟨css, E, hsrc⟩ := srcSl R hy h
  have hcell := E.cells R
  have hlen : css.length = ys.length := E.1
  have hpre : ∀ s, appendA false h n bytes s x = (match s with
    | .nilSl =>
      if ys.length = 0 then some (.nilSl, h)
      else if ys.length * bytes ≤ 2 ^ 47 ∧ ys.length ≤ 9223372036854775807 then some (.lst css.flatten ys.length (.tok h.next), h.new (.tok n)) else none
    | .lst cells len cap =>
      if ys.length = 0 then some (.lst cells len cap, h)
      else if (len + ys.length) * bytes ≤ 2 ^ 47 ∧ len + ys.length ≤ 9223372036854775807 ∧ cells.length = len * n then
        match cap with
        | .full => some (.lst (cells ++ css.flatten) (len + ys.length) (.tok h.next), h.new (.tok n))
        | .tok r => match h.get r with
          | some (.tok es') => if es' = n then some (.lst (cells ++ css.flatten) (len + ys.length) (.tok h.next), (h.set r none).new (.tok n)) else none
          | _ => none
        | .unk => none
      else none
    | s => appendA false h n bytes s x) := by
    intro s
    cases s <;> simp only [appendA, hy.lenA h, hsrc, Option.bind_eq_bind, Option.bind_some, hcell, if_true, Bool.false_eq_true, if_false]
    rename_i cells len cap
    cases cap <;> rfl
  rw [hpre]
  rcases g with ⟨gs, gf⟩
  rcases gs with ⟨rfl, rfl⟩ | ⟨xss, cap, rfl, E0⟩
  · simp only
    by_cases h0 : ys.length = 0
    · rw [if_pos h0]
      have : ys = [] := List.eq_nil_of_length_eq_zero h0
      subst this
      exact ⟨_, _, rfl, by simpa using Gr.nil h, Nat.le_refl _, fun _ _ _ => rfl, fun j hj => .inl hj⟩
    · rw [if_neg h0, if_pos (by simpa using hb)]
      refine ⟨_, _, rfl, ⟨by rw [← hlen]; simpa using Sl.lst _ E, .inr ⟨_, _, _, rfl, .inr ⟨_, rfl, Heap.get_new_eq, by rw [Heap.new_next]; omega⟩⟩⟩, by rw [Heap.new_next]; omega, fun j hj _ => Heap.get_new_lt hj, fun j hj => ?_⟩
      simp only [accId, List.mem_singleton] at hj; subst hj; exact .inr (Nat.le_refl _)
  · simp only
    by_cases h0 : ys.length = 0
    · rw [if_pos h0]
      have : ys = [] := List.eq_nil_of_length_eq_zero h0
      subst this
      exact ⟨_, _, rfl, ⟨by simpa using Sl.lst _ E0, gf⟩, Nat.le_refl _, fun _ _ _ => rfl, fun j hj => .inl hj⟩
    · have hx : xss.length = xs.length := E0.1
      rw [if_neg h0, if_pos ⟨by rw [hx]; exact hb.1, by rw [hx]; exact hb.2, E0.flatLen R⟩]
      have hS : ∀ cap, Sl r (xs ++ ys) (.lst (xss.flatten ++ css.flatten) (xss.length + ys.length) cap) := by
        intro cap
        have := Sl.lst cap (E0.append E)
        rwa [List.flatten_append, List.length_append, hlen] at this
      rcases gf with h1 | ⟨cs, len, cp, h1, rfl | ⟨t, rfl, ht, hlt⟩⟩
      · cases h1
      · cases h1
        simp only
        refine ⟨_, _, rfl, ⟨hS _, .inr ⟨_, _, _, rfl, .inr ⟨_, rfl, Heap.get_new_eq, by rw [Heap.new_next]; omega⟩⟩⟩, by rw [Heap.new_next]; omega, fun j hj _ => Heap.get_new_lt hj, fun j hj => ?_⟩
        simp only [accId, List.mem_singleton] at hj; subst hj; exact .inr (Nat.le_refl _)
      · cases h1
        simp only [ht, if_true]
        refine ⟨_, _, rfl, ⟨hS _, .inr ⟨_, _, _, rfl, .inr ⟨_, rfl, Heap.get_new_eq, by rw [Heap.new_next, Heap.set_next]; omega⟩⟩⟩, by rw [Heap.new_next, Heap.set_next]; omega, fun j hj hn => ?_, fun j hj => ?_⟩
        · simp only [accId, List.mem_singleton] at hn
          rw [Heap.get_new_lt (by rw [Heap.set_next]; exact hj), Heap.get_set_ne hn]
        · simp only [accId, List.mem_singleton] at hj; subst hj; exact .inr (Nat.le_refl _)
theorem Els.take {xs : List α} {css : List (List AVal)} (h : Els r xs css) (k : Nat) : Els r (xs.take k) (css.take k) := by
  refine ⟨by simp [h.1], fun i x c hx hc => ?_⟩
  rw [List.getElem?_take] at hx hc
  split at hx
  · rename_i hk
    rw [if_pos hk] at hc
    exact h.2 i x c hx hc
  · cases hx
theorem Els.drop {xs : List α} {css : List (List AVal)} (h : Els r xs css) (k : Nat) : Els r (xs.drop k) (css.drop k) := by
  refine ⟨by simp [h.1], fun i x c hx hc => ?_⟩
  rw [List.getElem?_drop] at hx hc
  exact h.2 _ x c hx hc
theorem flat_take {css : List (List AVal)} (hl : ∀ c ∈ css, c.length = n) : ∀ k, css.flatten.take (k * n) = (css.take k).flatten := by
  induction css with
  | nil => intro k; simp
  | cons c css ih =>
    intro k
    cases k with
    | zero => simp
    | succ k =>
      have hc := hl c (List.mem_cons_self ..)
      rw [List.flatten_cons, show (k + 1) * n = c.length + k * n by rw [hc, Nat.add_mul]; omega, List.take_append, List.take_of_length_le (by omega), Nat.add_sub_cancel_left, ih (fun d hd => hl d (List.mem_cons_of_mem _ hd)) k, List.take_succ_cons, List.flatten_cons]
theorem flat_drop {css : List (List AVal)} (hl : ∀ c ∈ css, c.length = n) : ∀ k, css.flatten.drop (k * n) = (css.drop k).flatten := by
  induction css with
  | nil => intro k; simp
  | cons c css ih =>
    intro k
    cases k with
    | zero => simp
    | succ k =>
      have hc := hl c (List.mem_cons_self ..)
      rw [List.flatten_cons, show (k + 1) * n = c.length + k * n by rw [hc, Nat.add_mul]; omega, List.drop_append, List.drop_of_length_le (by omega), Nat.add_sub_cancel_left, ih (fun d hd => hl d (List.mem_cons_of_mem _ hd)) k, List.drop_succ_cons, List.nil_append]
theorem Sl.cut (R : Rp r n) {xs ys : List α} {v : AVal} (h : Sl r xs v) {lo hi mx : Option Int} (hy : cutT xs lo hi mx = some ys) :
    ∃ w, sliceA n v (lo.map fun i => AVal.int .i64 i) (hi.map fun i => AVal.int .i64 i) (mx.map fun i => AVal.int .i64 i) = some w ∧ Sl r ys w ∧ (mx.isSome = true → ∀ h : AHeap, Gr r n ys w h) := by
  have bz : ∀ (x : Option Int) (d : Nat), bnd (x.map fun i => AVal.int .i64 i) d = bndZ x d := fun x d => by cases x <;> rfl
  unfold cutT at hy
  simp only [Option.bind_eq_bind, Option.bind_eq_some_iff] at hy
  obtain ⟨a, ha, b, hb, m, hm, hy⟩ := hy
  split at hy
  case isFalse => cases hy
  rename_i hc
  cases hy
  obtain ⟨c1, c2, c3, c4, c5⟩ := hc
  rcases h with ⟨rfl, rfl⟩ | ⟨css, cap, rfl, E⟩
  · refine ⟨.nilSl, ?_, by simpa using Sl.nil, fun _ h => by simpa using Gr.nil h⟩
    have c3' : m ≤ 0 := c3
    obtain rfl : m = 0 := by omega
    obtain rfl : a = 0 := by omega
    have e1 : bndZ hi 0 = some 0 := ha
    have e2 : bndZ mx 0 = some 0 := hm
    have e3 : b = 0 := by omega
    simp only [sliceA, bz, e1, e2, hb, e3, Option.bind_eq_bind, Option.bind_some]
    rw [if_pos ⟨trivial, trivial, trivial, by simpa using c4⟩]
  · have hl : ∀ c ∈ css, c.length = n := fun c hc => by obtain ⟨x, hx⟩ := E.mem hc; exact R.len x c hx
    have hl2 : ∀ c ∈ css.take a, c.length = n := fun c hc => hl c (List.mem_of_mem_take hc)
    have hlen := E.1
    have hab : ((css.take a).drop b).length = a - b := by simp; omega
    have hE := (E.take a).drop b
    have hcut : (css.flatten.take (a * n)).drop (b * n) = ((css.take a).drop b).flatten := by rw [flat_take hl, flat_drop hl2]
    have ha' : bndZ hi css.length = some a := by rw [hlen]; exact ha
    cases mx with
    | none =>
      refine ⟨.lst ((css.take a).drop b).flatten ((css.take a).drop b).length (if a = css.length then cap else .unk), ?_, .lst _ hE, fun h => by cases h⟩
      simp only [sliceA, Option.map_none, bz, ha', hb, Option.bind_eq_bind, Option.bind_some]
      rw [if_pos ⟨c1, by simp [bndZ] at hm; omega, E.flatLen R⟩, hcut, hab]
    | some k =>
      refine ⟨.lst ((css.take a).drop b).flatten ((css.take a).drop b).length .full, ?_, .lst _ hE, fun _ h => Gr.full hE h⟩
      have hm0 : bnd ((some k).map fun i => AVal.int .i64 i) 0 = some m := by rw [bz]; exact hm
      simp only [sliceA, Option.map_some] at hm0 ⊢
      simp only [bz, ha', hb, hm0, Option.bind_eq_bind, Option.bind_some]
      rw [if_pos ⟨c1, c2, by omega, by simpa using c4 rfl⟩, if_pos (c5 rfl), hcut, hab]
end
inductive PV where
  | i (n : Int)
  | fs (l : List Int)
def PV.val : PV → AVal
  | .i n => .int .i64 n
  | .fs l => .agg (l.map (AVal.int .i64))
theorem PV.refs_val (t : TypeId) (v : PV) : refs (.iface t v.val) = [] := by
  cases v with
  | i n => rfl
  | fs l =>
    simp only [PV.val, refs]
    induction l with
    | nil => rfl
    | cons x l ih => simp only [List.map_cons, refsL, refs, ih, List.append_nil]
theorem PV.strip_val (t : TypeId) (v : PV) : strip (.iface t v.val) = .iface t v.val := by
  cases v with
  | i n => rfl
  | fs l =>
    simp only [PV.val, strip]
    have : stripL (l.map (AVal.int .i64)) = l.map (AVal.int .i64) := by
      induction l with
      | nil => rfl
      | cons x l ih => simp only [List.map_cons, stripL, strip, ih]
    rw [this]
inductive X where
  | nrm | ext (j : Nat) | ret | pan (t : TypeId) (v : PV)
def X.out : X → AExit
  | .nrm => .normal
  | .ext j => .exit j
  | .ret => .ret
  | .pan t v => .pan (.iface t v.val)
def panIx : Nat := 1000000000
abbrev Mo (F : Type) := F → Option (X × F)
section
variable {F : Type}
def seqM (a b : Mo F) : Mo F := fun s => match a s with
  | some (.nrm, s') => b s'
  | r => r
def condM (c : F → Bool) (a b : Mo F) : Mo F := fun s => match c s with
  | true => a s
  | false => b s
def blockM (id : Nat) (a : Mo F) : Mo F := fun s => match a s with
  | some (.ext j, s') => if j = id then some (.nrm, s') else some (.ext j, s')
  | r => r
def iterM (f : Mo F) : Nat → Mo F
  | 0, _ => none
  | n + 1, s => match f s with
    | some (.nrm, s') => iterM f n s'
    | r => r
noncomputable def loopM (f : Mo F) : Mo F := fun s => lim fun n => iterM f n s
def skipM : Mo F := fun s => some (.nrm, s)
def exitM (j : Nat) : Mo F := fun s => some (.ext j, s)
def retM : Mo F := fun s => some (.ret, s)
theorem iterM_le (f : Mo F) : ∀ (n : Nat) (s : F) (v : X × F), iterM f n s = some v → iterM f (n + 1) s = some v := by
  intro n
  induction n with
  | zero => intro s v h; cases h
  | succ n ih =>
    intro s v h
    rw [iterM] at h ⊢
    cases hf : f s with
    | none => rw [hf] at h; cases h
    | some q =>
      rw [hf] at h
      obtain ⟨x, s1⟩ := q
      cases x with
      | nrm => exact ih _ _ h
      | _ => exact h
theorem iterM_mono (f : Mo F) (s : F) : Mono (fun n => iterM f n s) := by
  intro n m hnm v h
  induction m with
  | zero => have : n = 0 := by omega
            subst this; exact h
  | succ m ih =>
    rcases Nat.lt_or_ge m n with h1 | h1
    · have : n = m + 1 := by omega
      subst this; exact h
    · exact iterM_le f m s v (ih h1)
theorem loopM_eq (f : Mo F) (s : F) : loopM f s = match f s with
    | some (.nrm, s') => loopM f s'
    | r => r := by
  unfold loopM
  rw [lim_succ (iterM_mono f s)]
  cases hf : f s with
  | none => refine lim_none fun n => ?_; rw [iterM, hf]
  | some q =>
    obtain ⟨x, s1⟩ := q
    have e : ∀ n, iterM f (n + 1) s = match some (x, s1) with
      | some (.nrm, s') => iterM f n s'
      | r => r := fun n => by simp only [iterM, hf]
    simp only [e]
    cases x with
    | nrm => rfl
    | ext j => exact lim_const _
    | ret => exact lim_const _
    | pan t v => exact lim_const _
theorem loopM_nrm {f : Mo F} {s s' : F} (h : f s = some (.nrm, s')) : loopM f s = loopM f s' := by rw [loopM_eq, h]
theorem loopM_ext {f : Mo F} {s s' : F} {j : Nat} (h : f s = some (.ext j, s')) : loopM f s = some (.ext j, s') := by rw [loopM_eq, h]
theorem loopM_ret {f : Mo F} {s s' : F} (h : f s = some (.ret, s')) : loopM f s = some (.ret, s') := by rw [loopM_eq, h]
theorem loopM_some {f : Mo F} {s : F} {v : X × F} (h : loopM f s = some v) : ∃ n, iterM f n s = some v := of_lim h
end
section
variable {C : Cfg} {F : Type}
def Ref (C : Cfg) (P : F → ASt → Prop) (c : Code) (m : Mo F) (Q : X → F → ASt → Prop) : Prop :=
  ∀ s st, P s st → ∀ x s', m s = some (x, s') → ∃ st', ex C c st = some (x.out, st') ∧ Q x s' st'
def post (pn : F → ASt → Prop) (pe : Nat → F → ASt → Prop) (pr : F → ASt → Prop) : X → F → ASt → Prop
  | .nrm => pn
  | .ext j => pe j
  | .ret => pr
  | .pan _ _ => pe panIx
def upd (id : Nat) (p : F → ASt → Prop) (pe : Nat → F → ASt → Prop) : Nat → F → ASt → Prop := fun j => if j = id then p else pe j
variable {P M pn pr : F → ASt → Prop} {pe : Nat → F → ASt → Prop} {a b : Code} {ma mb : Mo F}
theorem ref_weak {P' : F → ASt → Prop} (h : ∀ s st, P s st → P' s st) (hr : Ref C P' a ma (post pn pe pr)) : Ref C P a ma (post pn pe pr) := fun s st hp x s' hm => hr s st (h s st hp) x s' hm
theorem ref_seq (ha : Ref C P a ma (post M pe pr)) (hb : Ref C M b mb (post pn pe pr)) : Ref C P (.seq a b) (seqM ma mb) (post pn pe pr) := by
  intro s st hp x s' hm
  unfold seqM at hm
  cases h1 : ma s with
  | none => rw [h1] at hm; cases hm
  | some q =>
    obtain ⟨y, s1⟩ := q
    obtain ⟨st1, he, hq⟩ := ha s st hp y s1 h1
    rw [h1] at hm
    cases y with
    | nrm =>
      obtain ⟨st2, he2, hq2⟩ := hb s1 st1 hq x s' hm
      exact ⟨st2, by rw [e_seq, he]; exact he2, hq2⟩
    | ext j => cases hm; exact ⟨st1, by rw [e_seq, he]; rfl, hq⟩
    | ret => cases hm; exact ⟨st1, by rw [e_seq, he]; rfl, hq⟩
    | pan t v => cases hm; exact ⟨st1, by rw [e_seq, he]; rfl, hq⟩
theorem ref_cond {o : Operand} {c : F → Bool} (hc : ∀ s st, P s st → evalO C st.tmps o = .bool (c s)) (ha : Ref C P a ma (post pn pe pr)) (hb : Ref C P b mb (post pn pe pr)) : Ref C P (.cond o a b) (condM c ma mb) (post pn pe pr) := by
  intro s st hp x s' hm
  have h1 := hc s st hp
  unfold condM at hm
  cases h2 : c s with
  | true =>
    rw [h2] at h1 hm
    obtain ⟨st1, he, hq⟩ := ha s st hp x s' hm
    exact ⟨st1, by rw [e_cond, h1]; exact he, hq⟩
  | false =>
    rw [h2] at h1 hm
    obtain ⟨st1, he, hq⟩ := hb s st hp x s' hm
    exact ⟨st1, by rw [e_cond, h1]; exact he, hq⟩
theorem upd_pan {id : Nat} (hid : (id == panIx) = false) (p : F → ASt → Prop) (pe : Nat → F → ASt → Prop) : upd id p pe panIx = pe panIx := by
  unfold upd
  rw [if_neg]
  intro h
  rw [h] at hid
  simp at hid
theorem ref_block {id : Nat} (h : Ref C P a ma (post pn (upd id pn pe) pr)) (hid : (id == panIx) = false := by decide) : Ref C P (.block id a) (blockM id ma) (post pn pe pr) := by
  intro s st hp x s' hm
  unfold blockM at hm
  cases h1 : ma s with
  | none => rw [h1] at hm; cases hm
  | some q =>
    obtain ⟨y, s1⟩ := q
    obtain ⟨st1, he, hq⟩ := h s st hp y s1 h1
    rw [h1] at hm
    cases y with
    | nrm => cases hm; exact ⟨st1, by rw [e_block, he]; rfl, hq⟩
    | ret => cases hm; exact ⟨st1, by rw [e_block, he]; rfl, hq⟩
    | pan t v =>
      have hq' : upd id pn pe panIx s1 st1 := hq
      rw [upd_pan hid] at hq'
      cases hm
      exact ⟨st1, by rw [e_block, he]; rfl, hq'⟩
    | ext j =>
      simp only at hm
      have hq' : upd id pn pe j s1 st1 := hq
      unfold upd at hq'
      split at hm
      · rename_i hj
        cases hm
        rw [if_pos hj] at hq'
        exact ⟨st1, by rw [e_block, he]; exact if_pos hj, hq'⟩
      · rename_i hj
        cases hm
        rw [if_neg hj] at hq'
        exact ⟨st1, by rw [e_block, he]; exact if_neg hj, hq'⟩
theorem ref_loop (h : Ref C P a ma (post P pe pr)) : Ref C P (.loop a) (loopM ma) (post pn pe pr) := by
  intro s st hp x s' hm
  obtain ⟨n, hn⟩ := loopM_some hm
  clear hm
  induction n generalizing s st with
  | zero => cases hn
  | succ n ih =>
    rw [iterM] at hn
    cases h1 : ma s with
    | none => rw [h1] at hn; cases hn
    | some q =>
      obtain ⟨y, s1⟩ := q
      obtain ⟨st1, he, hq⟩ := h s st hp y s1 h1
      rw [h1] at hn
      cases y with
      | nrm =>
        obtain ⟨st2, he2, hq2⟩ := ih s1 st1 hq hn
        exact ⟨st2, by rw [e_loop, he]; exact he2, hq2⟩
      | ext j => cases hn; exact ⟨st1, by rw [e_loop, he]; rfl, hq⟩
      | ret => cases hn; exact ⟨st1, by rw [e_loop, he]; rfl, hq⟩
      | pan t v => cases hn; exact ⟨st1, by rw [e_loop, he]; rfl, hq⟩
theorem ref_skip (h : ∀ s st, P s st → pn s st) : Ref C P .skip skipM (post pn pe pr) := by
  intro s st hp x s' hm
  cases hm
  exact ⟨st, ex_skip _, h s st hp⟩
theorem ref_exit {j : Nat} (h : ∀ s st, P s st → pe j s st) : Ref C P (.exit j) (exitM j) (post pn pe pr) := by
  intro s st hp x s' hm
  cases hm
  exact ⟨st, ex_exit _ _, h s st hp⟩
theorem ref_ret (h : ∀ s st, P s st → pr s st) : Ref C P .ret retM (post pn pe pr) := by
  intro s st hp x s' hm
  cases hm
  exact ⟨st, ex_ret _, h s st hp⟩
theorem run_stripped {f : FuncId} {fn : Func} {body : Code} (hf : C.P.funcs[f]? = some fn) (hb : fn.body = some body) (hs : C.summ f = none) (hfoc : C.foc f = true) (args : List AVal) (hr : refsL args = []) (h : AHeap) (hd : C.dfr f = false) :
    run C f args h = run C f (stripL args) h := by
  have hc := stripL_cont args hr
  rw [run_apart hf hb hs hfoc args h hd, run_apart hf hb hs hfoc (stripL args) h hd, hr, refsL_cont _ hc]
  simp only [List.eraseDups_nil]
  rw [show norms (fun i => ([] : List Nat).contains i) AHeap.empty depth args = some (stripL args) from normL_strip _ _ _ hr,
    show norms (fun i => ([] : List Nat).contains i) AHeap.empty depth (stripL args) = some (stripL args) from normL_cont _ _ _ hc]
def Nrm (ids : List Nat) (h : AHeap) (w v : AVal) : Prop := normW (fun i => ids.contains i) (hops (fun i => ids.contains i) h depth) w = some v
theorem Nrm.of {ids : List Nat} {h : AHeap} {w : AVal} (hr : refs w = []) : Nrm ids h w (strip w) := norm_strip _ _ w hr
theorem Nrm.box {ids : List Nat} {h : AHeap} {id : Nat} {cells : List AVal} (hg : h.get id = some (.arr cells)) (hi : ids.contains id = false) (hr : refsL cells = []) : Nrm ids h (.ptr id 0) (.iptr (stripL cells)) := by
  unfold Nrm
  have hh : hops (fun i => ids.contains i) h depth id = some (stripL cells) := by
    rw [show depth = 99 + 1 from rfl, hops, hg]
    simp only [hi, Bool.false_eq_true, if_false]
    exact normL_strip _ _ _ hr
  generalize hops (fun i => ids.contains i) h depth = hop at hh
  simp only [normW, hi, Bool.false_eq_true, if_false, hh, Option.map_some, List.drop_zero]
theorem run_of_ref {f : FuncId} {fn : Func} (hf : C.P.funcs[f]? = some fn) (hb : fn.body = some (bodyOf fn)) (hs : C.summ f = none) (hfoc : C.foc f = true) (hd : C.dfr f = false) {args : List AVal} (hargs : refsL args = [])
    {P0 pn pr : F → ASt → Prop} {pe : Nat → F → ASt → Prop} {m : Mo F} (hr : Ref C P0 (bodyOf fn) m (post pn pe pr)) {s0 s' : F} {x : X} (h0 : P0 s0 ⟨slots fn (stripL args), bare⟩) (hm : m s0 = some (x, s')) (hx : x = .nrm ∨ x = .ret)
    {R : AVal → Prop} (hres : ∀ st, post pn pe pr x s' st → ∃ vs v, aresults C fn.results.toList st = some vs ∧ Nrm [] st.h (packRes vs) v ∧ R v) : ∃ v, R v ∧ ∀ h, run C f args h = some (.ret v, h) := by
  obtain ⟨st, he, hq⟩ := hr s0 _ h0 x s' hm
  obtain ⟨vs, v, ha, hn, hR⟩ := hres st hq
  refine ⟨v, hR, fun h => ?_⟩
  rw [run_stripped hf hb hs hfoc args hargs h hd]
  obtain ⟨t, h'⟩ := st
  have hx' : x.out = .ret ∨ x.out = .normal := by
    rcases hx with rfl | rfl
    · exact .inr rfl
    · exact .inl rfl
  refine fn_runC (x := x.out) hf hb hs hfoc (stripL_cont args hargs) hx' he ha ?_ h hd
  simp only [normRes, norm]
  rw [show normW (fun _ => false) (hops (fun _ => false) h' depth) (packRes vs) = some v from hn]
  rfl
inductive NrmL (ids : List Nat) (h : AHeap) : List AVal → List AVal → Prop where
  | nil : NrmL ids h [] []
  | cons {w v : AVal} {ws vs : List AVal} (a : Nrm ids h w v) (b : NrmL ids h ws vs) : NrmL ids h (w :: ws) (v :: vs)
theorem NrmL.norm {ids : List Nat} {h : AHeap} {ws vs : List AVal} (n : NrmL ids h ws vs) : normL (fun i => ids.contains i) (hops (fun i => ids.contains i) h depth) ws = some vs := by
  induction n with
  | nil => rfl
  | cons a b ih =>
    unfold Nrm at a
    simp only [normL, a, ih]
theorem Nrm.tup {ids : List Nat} {h : AHeap} {ws vs : List AVal} (n : NrmL ids h ws vs) : Nrm ids h (.tup ws) (.tup vs) := by
  have := n.norm
  unfold Nrm
  simp only [normW, this, Option.map_some]
theorem dedup1 (d : Nat) : [d].eraseDups = [d] := by simp [List.eraseDups_cons]
def one (d : Nat) (cs : List AVal) : AHeap := (⟨fun _ => none, topId [d], fun _ => none⟩ : AHeap).set d (some (.arr cs))
theorem one_get (d : Nat) (cs : List AVal) : (one d cs).get d = some (.arr cs) := Heap.get_set_eq
theorem one_lt (d : Nat) (cs : List AVal) : d < (one d cs).next := by
  show d < topId [d]
  simp [topId]
theorem run_of_refS {f : FuncId} {fn : Func} (hf : C.P.funcs[f]? = some fn) (hb : fn.body = some (bodyOf fn)) (hs : C.summ f = none) (hfoc : C.foc f = true) (hd : C.dfr f = false) {args cells : List AVal} {h : AHeap} {d0 : Nat} (hg : h.get d0 = some (.arr cells)) (hcr : refsL cells = [])
    (hids : (refsL args).eraseDups = [d0]) {P0 pn pr : F → ASt → Prop} {pe : Nat → F → ASt → Prop} {m : Mo F} (hr : Ref C P0 (bodyOf fn) m (post pn pe pr)) {s0 s' : F} {x : X} (h00 : P0 s0 ⟨slots fn (stripL args), one d0 (stripL cells)⟩) (hm : m s0 = some (x, s')) (hx : x = .nrm ∨ x = .ret)
    {R : AVal → List AVal → Prop} (hres : ∀ st, post pn pe pr x s' st → ∃ vs v cs, aresults C fn.results.toList st = some vs ∧ Nrm [d0] st.h (packRes vs) v ∧ st.h.get d0 = some (.arr cs) ∧ refsL cs = [] ∧ R v (stripL cs)) : ∃ v cs, R v cs ∧ run C f args h = some (.ret v, h.set d0 (some (.arr cs))) := by
  obtain ⟨st, he, hq⟩ := hr s0 _ h00 x s' hm
  obtain ⟨vs, v, cs, ha, hn, hg', hcr', hR⟩ := hres st hq
  refine ⟨v, stripL cs, hR, ?_⟩
  have hk : ∀ i ∈ refsL args, (fun i => [d0].contains i) i = true := by
    intro i hi
    have : i ∈ (refsL args).eraseDups := by simpa using hi
    rw [hids] at this
    simpa using this
  rw [run_apart hf hb hs hfoc args h hd, hids]
  rw [show norms (fun i => [d0].contains i) AHeap.empty depth args = some (stripL args) from normL_kept _ _ _ hk]
  have hfo : focus [d0] depth h = some (one d0 (stripL cells)) := by
    simp only [focus, putAll, List.foldlM_cons, List.foldlM_nil, arrAt, hg, Option.bind_eq_bind]
    rw [show norms (fun i => [d0].contains i) AHeap.empty depth cells = some (stripL cells) from normL_strip _ _ _ hcr]
    rfl
  rw [hfo]
  simp only
  have hend : xbody C fn (bodyOf fn) (stripL args) (one d0 (stripL cells)) = some (.ret (packRes vs), st.h) := by
    unfold xbody
    rw [show stripL args ++ List.replicate (fn.ntmps - (stripL args).length) AVal.top = slots fn (stripL args) from rfl, he]
    rcases hx with rfl | rfl <;> simp only [X.out, endOf, ha, Option.map_some]
  rw [hend]
  have e2 : arrAt (fun i => [d0].contains i) st.h depth st.h d0 = some (stripL cs) := by
    simp only [arrAt, hg']
    exact normL_strip _ _ _ hcr'
  have e1 : normRes (fun i => [d0].contains i) st.h depth (.ret (packRes vs)) = some (.ret v) := by
    simp only [normRes, norm]
    rw [show normW (fun i => [d0].contains i) (hops (fun i => [d0].contains i) st.h depth) (packRes vs) = some v from hn]
    rfl
  simp only [home, e1, putAll, List.foldlM_cons, List.foldlM_nil, e2, Option.map_some, Option.bind_eq_bind, Option.bind_some, Option.pure_def]
def PanOk (d0 : Nat) (st : ASt) : Prop := ∃ cs, st.h.get d0 = some (.arr cs) ∧ refsL cs = []
def panE (d0 : Nat) : Nat → F → ASt → Prop := fun j _ st => j = panIx ∧ PanOk d0 st
theorem run_of_refP {f : FuncId} {fn : Func} (hf : C.P.funcs[f]? = some fn) (hb : fn.body = some (bodyOf fn)) (hs : C.summ f = none) (hfoc : C.foc f = true) (hd : C.dfr f = false) {args cells : List AVal} {h : AHeap} {d0 : Nat} (hg : h.get d0 = some (.arr cells)) (hcr : refsL cells = [])
    (hids : (refsL args).eraseDups = [d0]) {P0 pn pr : F → ASt → Prop} {m : Mo F} (hr : Ref C P0 (bodyOf fn) m (post pn (panE d0) pr)) {s0 s' : F} {t : TypeId} {v : PV} (h00 : P0 s0 ⟨slots fn (stripL args), one d0 (stripL cells)⟩) (hm : m s0 = some (.pan t v, s')) :
    ∃ cs, refsL cs = [] ∧ run C f args h = some (.pan (.iface t v.val), h.set d0 (some (.arr cs))) := by
  obtain ⟨st, he, hq⟩ := hr s0 _ h00 _ s' hm
  obtain ⟨_, cs, hg', hcr'⟩ : panIx = panIx ∧ PanOk d0 st := hq
  refine ⟨stripL cs, refsL_cont _ (stripL_cont cs hcr'), ?_⟩
  have hk : ∀ i ∈ refsL args, (fun i => [d0].contains i) i = true := by
    intro i hi
    have : i ∈ (refsL args).eraseDups := by simpa using hi
    rw [hids] at this
    simpa using this
  rw [run_apart hf hb hs hfoc args h hd, hids]
  rw [show norms (fun i => [d0].contains i) AHeap.empty depth args = some (stripL args) from normL_kept _ _ _ hk]
  have hfo : focus [d0] depth h = some (one d0 (stripL cells)) := by
    simp only [focus, putAll, List.foldlM_cons, List.foldlM_nil, arrAt, hg, Option.bind_eq_bind]
    rw [show norms (fun i => [d0].contains i) AHeap.empty depth cells = some (stripL cells) from normL_strip _ _ _ hcr]
    rfl
  rw [hfo]
  simp only
  have hend : xbody C fn (bodyOf fn) (stripL args) (one d0 (stripL cells)) = some (.pan (.iface t v.val), st.h) := by
    unfold xbody
    rw [show stripL args ++ List.replicate (fn.ntmps - (stripL args).length) AVal.top = slots fn (stripL args) from rfl, he]
    simp only [X.out, endOf]
  rw [hend]
  have e2 : arrAt (fun i => [d0].contains i) st.h depth st.h d0 = some (stripL cs) := by
    simp only [arrAt, hg']
    exact normL_strip _ _ _ hcr'
  have e1 : normRes (fun i => [d0].contains i) st.h depth (.pan (.iface t v.val)) = some (.pan (.iface t v.val)) := by
    simp only [normRes, norm]
    rw [show normW (fun i => [d0].contains i) (hops (fun i => [d0].contains i) st.h depth) (.iface t v.val) = some (strip (.iface t v.val)) from norm_strip _ _ _ (PV.refs_val t v), PV.strip_val]
    rfl
  simp only [home, e1, putAll, List.foldlM_cons, List.foldlM_nil, e2, Option.map_some, Option.bind_eq_bind, Option.bind_some, Option.pure_def]
theorem kc_pan {C : Cfg} (ops : Array Oper) (dst : Option Tmp) (s : ASt) (rest : List Oper) (v : AVal) (h' : AHeap) : callK C ops dst s rest (some (.pan v, h')) = some (.pan v, { s with h := h' }) := rfl
end
end Go.Am



set_option linter.unusedVariables false
set_option linter.unusedSimpArgs false
namespace Go.Am
open Go
theorem bq1 : ((true : Bool) == true) = true := rfl
theorem bq2 : ((true : Bool) == false) = false := rfl
theorem bq3 : ((false : Bool) == true) = false := rfl
theorem bq4 : ((false : Bool) == false) = true := rfl
theorem ex_tup (vs : List AVal) (i : Nat) : extractA (.tup vs) i = vs[i]? := rfl
theorem c_i (k : IntKind) (x : Int) : (AVal.int k x).isCell = true := rfl
theorem c_b (x : Bool) : (AVal.bool x).isCell = true := rfl
theorem c_s (x : List UInt8) : (AVal.str x).isCell = true := rfl
theorem c_nl : AVal.nilSl.isCell = true := rfl
theorem c_np : AVal.nilPtr.isCell = true := rfl
theorem c_ip (c : List AVal) : (AVal.iptr c).isCell = true := rfl
theorem c_ls (c : List AVal) (n : Nat) (k : Cap) : (AVal.lst c n k).isCell = true := rfl
theorem bx_i (k : IntKind) (x : Int) : (AVal.int k x).boxable = true := rfl
theorem bx_b (x : Bool) : (AVal.bool x).boxable = true := rfl
theorem bx_s (x : List UInt8) : (AVal.str x).boxable = true := rfl
theorem bx_a (cs : List AVal) : (AVal.agg cs).boxable = cs.all AVal.isCell := rfl
theorem bx_nl : AVal.nilSl.boxable = true := rfl
theorem bx_np : AVal.nilPtr.boxable = true := rfl
theorem bx_ip (c : List AVal) : (AVal.iptr c).boxable = true := rfl
theorem bx_ls (c : List AVal) (n : Nat) (k : Cap) : (AVal.lst c n k).boxable = true := rfl
theorem cl_i (k : IntKind) (x : Int) : (AVal.int k x).cells = [.int k x] := rfl
theorem cl_b (x : Bool) : (AVal.bool x).cells = [.bool x] := rfl
theorem cl_s (x : List UInt8) : (AVal.str x).cells = [.str x] := rfl
theorem cl_a (cs : List AVal) : (AVal.agg cs).cells = cs := rfl
theorem cl_nl : AVal.nilSl.cells = [.nilSl] := rfl
theorem cl_np : AVal.nilPtr.cells = [.nilPtr] := rfl
theorem cl_ip (c : List AVal) : (AVal.iptr c).cells = [.iptr c] := rfl
theorem cl_ls (c : List AVal) (n : Nat) (k : Cap) : (AVal.lst c n k).cells = [.lst c n k] := rfl
theorem bx_c {v : AVal} (h : v.isCell = true) : v.boxable = true := by cases v <;> first | rfl | simp [AVal.isCell] at h
theorem cl_c {v : AVal} (h : v.isCell = true) : v.cells = [v] := by cases v <;> first | rfl | simp [AVal.isCell] at h
theorem ld_ip (h : AHeap) (b : Bool) (n : Nat) (cs : List AVal) : loadA h b n (.iptr cs) = ofCells b n cs := rfl
theorem ofc1 (n : Nat) (a : AVal) (r : List AVal) : ofCells false n (a :: r) = some a := rfl
theorem ofc2 (a b : AVal) (r : List AVal) : ofCells true 2 (a :: b :: r) = some (.agg [a, b]) := by simp [ofCells]
theorem ofc3 (a b c : AVal) (r : List AVal) : ofCells true 3 (a :: b :: c :: r) = some (.agg [a, b, c]) := by simp [ofCells]
theorem ofc5 (a b c d e : AVal) (r : List AVal) : ofCells true 5 (a :: b :: c :: d :: e :: r) = some (.agg [a, b, c, d, e]) := by simp [ofCells]
theorem rem_c {C : Cfg} {t : TypeId} {xo yo : Operand} {h : AHeap} {k : IntKind} {a b : Int} (hb : b ≠ 0) : abin C .rem t xo yo h (.int k a) (.int k b) = some (.int k (a.tmod b)) := by simp [abin, hb]
theorem eql_s {C : Cfg} {t : TypeId} {xo yo : Operand} {h : AHeap} {a b : List UInt8} : abin C .eql t xo yo h (.str a) (.str b) = some (.bool (a == b)) := rfl
def catT (a b : List UInt8) : Option (List UInt8) := if a.length + b.length ≤ 9223372036854775807 then some (a ++ b) else none
theorem cat_v {C : Cfg} {a b z : List UInt8} (hz : catT a b = some z) (t : TypeId) (xo yo : Operand) (h : AHeap) : abin C .add t xo yo h (.str a) (.str b) = some (.str z) := by
  unfold catT at hz
  split at hz
  · rename_i hb; cases hz; simp [abin, hb]
  · cases hz
def bndT (x : Option Int) (d : Nat) : Option Nat := match x with
  | none => some d
  | some i => asNat i
def slT (s : List UInt8) (lo hi : Option Int) : Option (List UInt8) := do
  let h ← bndT hi s.length
  let l ← bndT lo 0
  if l ≤ h ∧ h ≤ s.length then some ((s.take h).drop l) else none
theorem bnd_T (x : Option Int) (d : Nat) (k : IntKind) : bnd (x.map fun i => AVal.int k i) d = bndT x d := by cases x <;> rfl
theorem str_slx {s y : List UInt8} {lo hi : Option Int} (hy : slT s lo hi = some y) : sliceA 1 (.str s) (lo.map fun i => AVal.int .i64 i) (hi.map fun i => AVal.int .i64 i) none = some (.str y) := by
  unfold slT at hy
  simp only [Option.bind_eq_bind, Option.bind_eq_some_iff] at hy
  obtain ⟨a, ha, b, hb, hy⟩ := hy
  simp only [sliceA, Option.isSome_none, Bool.false_eq_true, if_false, bnd_T, ha, hb, Option.bind_eq_bind, Option.bind_some]
  split at hy
  · rename_i hc; rw [if_pos hc]; cases hy; rfl
  · cases hy
def errA (t : TypeId) : Bool → AVal
  | true => .iface t .top
  | false => .nilI
theorem bx_p (i o : Nat) : (AVal.ptr i o).boxable = true := rfl
theorem cl_p (i o : Nat) : (AVal.ptr i o).cells = [.ptr i o] := rfl
theorem dedup2 (d : Nat) : [d, d].eraseDups = [d] := by simp [List.eraseDups_cons]
end Go.Am



namespace Go.Am
open Go
theorem hset_set (h : AHeap) (a : Nat) (x y : Option ABlk) : (h.set a x).set a y = h.set a y := by
  unfold AHeap.set
  congr 1
  funext j
  by_cases hj : j = a
  · simp only [hj, if_true]
  · simp only [hj, if_false]
theorem one_set (d : Nat) (a b : List AVal) : (one d a).set d (some (.arr b)) = one d b := hset_set _ _ _ _
variable {C : Cfg}
theorem st_ret {f : FuncId} {fn : Func} (hf : C.P.funcs[f]? = some fn) (hb : fn.body = some (bodyOf fn)) (hs : C.summ f = none) (hfoc : C.foc f = true) (hd : C.dfr f = false) {args cells : List AVal} {h : AHeap} {d0 : Nat} (hg : h.get d0 = some (.arr cells)) (hcr : refsL cells = [])
    (hids : (refsL args).eraseDups = [d0]) (hst : stripL args = args) (hsc : stripL cells = cells) {x : AExit} {t : List AVal} {h' : AHeap} (he : ex C (bodyOf fn) ⟨slots fn args, one d0 cells⟩ = some (x, ⟨t, h'⟩)) (hx : x = .ret ∨ x = .normal)
    {vs : List AVal} {v : AVal} {cs : List AVal} (ha : aresults C fn.results.toList ⟨t, h'⟩ = some vs) (hn : Nrm [d0] h' (packRes vs) v) (hg' : h'.get d0 = some (.arr cs)) (hcr' : refsL cs = []) (hsc' : stripL cs = cs) : run C f args h = some (.ret v, h.set d0 (some (.arr cs))) := by
  have hq : ∀ (y : X), y.out = x → y = .nrm ∨ y = .ret → run C f args h = some (.ret v, h.set d0 (some (.arr cs))) := by
    intro y hy hy'
    obtain ⟨v', cs', ⟨rfl, rfl⟩, hr⟩ := run_of_refS (F := Unit) (C := C) (f := f) (fn := fn) hf hb hs hfoc hd (args := args) hg hcr hids (P0 := fun _ st => st = ⟨slots fn args, one d0 cells⟩) (pn := fun _ st => st = ⟨t, h'⟩) (pr := fun _ st => st = ⟨t, h'⟩) (pe := fun _ _ _ => False) (m := fun _ => some (y, ()))
      (fun s st hp z s' hm => by
        cases hm
        subst hp
        rw [he, ← hy]
        rcases hy' with rfl | rfl
        · exact ⟨_, rfl, rfl⟩
        · exact ⟨_, rfl, rfl⟩)
      (s0 := ()) (by rw [hst, hsc]) rfl hy' (R := fun v' cs' => v' = v ∧ cs' = cs) (fun st hp => by
        have : st = ⟨t, h'⟩ := by rcases hy' with rfl | rfl <;> exact hp
        subst this
        exact ⟨vs, v, cs, ha, hn, hg', hcr', rfl, hsc'⟩)
    exact hr
  rcases hx with rfl | rfl
  · exact hq .ret rfl (.inr rfl)
  · exact hq .nrm rfl (.inl rfl)
theorem st_pan {f : FuncId} {fn : Func} (hf : C.P.funcs[f]? = some fn) (hb : fn.body = some (bodyOf fn)) (hs : C.summ f = none) (hfoc : C.foc f = true) (hd : C.dfr f = false) {args cells : List AVal} {h : AHeap} {d0 : Nat} (hg : h.get d0 = some (.arr cells)) (hcr : refsL cells = [])
    (hids : (refsL args).eraseDups = [d0]) (hst : stripL args = args) (hsc : stripL cells = cells) {u : TypeId} {p : PV} {t : List AVal} {h' : AHeap} (he : ex C (bodyOf fn) ⟨slots fn args, one d0 cells⟩ = some (.pan (.iface u p.val), ⟨t, h'⟩))
    {cs : List AVal} (hg' : h'.get d0 = some (.arr cs)) (hcr' : refsL cs = []) : ∃ cs, refsL cs = [] ∧ run C f args h = some (.pan (.iface u p.val), h.set d0 (some (.arr cs))) :=
  run_of_refP (F := Unit) (C := C) (f := f) (fn := fn) hf hb hs hfoc hd (args := args) hg hcr hids (P0 := fun _ st => st = ⟨slots fn args, one d0 cells⟩) (pn := fun _ st => False) (pr := fun _ st => False) (m := fun _ => some (.pan u p, ()))
    (fun s st hp z s' hm => by
      cases hm
      subst hp
      exact ⟨_, he, rfl, cs, hg', hcr'⟩)
    (s0 := ()) (by rw [hst, hsc]) rfl
end Go.Am

