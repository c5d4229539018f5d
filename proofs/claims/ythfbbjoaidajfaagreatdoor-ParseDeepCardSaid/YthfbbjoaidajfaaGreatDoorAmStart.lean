import Derived.Test.YthfbbjoaidajfaaGreatDoorAmFirst
import Derived.Below
set_option linter.unusedVariables false
set_option linter.unusedSimpArgs false
namespace Go.Am
open Go
inductive Ent where
  | arr (b o s : Nat) (e : TypeId)
  | tok (b m s es : Nat)
  | map (b : Nat)
def Ent.block : Ent → Nat
  | .arr b _ _ _ | .tok b _ _ _ | .map b => b
abbrev Imm := Nat → Nat → Option Value
abbrev Mu := Nat → Option Ent
def ICells (ι : Imm) (b o : Nat) (vs : List Value) : Prop := ∀ (j : Nat) (v : Value), vs[j]? = some v → ι b (o + j) = some v
def CapRel (μ : Mu) (cap : Cap) (a : Addr) (len n cap' : Nat) : Prop :=
  match cap with
  | .full => cap' = len
  | .unk => True
  | .tok r => ∃ b m s es, μ r = some (.tok b m s es) ∧ (len < cap' → n ≤ m ∧ a = ⟨b, m - n, none⟩ ∧ m + (cap' - len) * es ≤ s)
mutual
inductive VRel (ι : Imm) (μ : Mu) : AVal → Value → Prop
  | top (v : Value) : VRel ι μ .top v
  | bool (b : Bool) : VRel ι μ (.bool b) (.bool b)
  | int (k : IntKind) (n : Int) : VRel ι μ (.int k n) (.int k n)
  | str (s : List UInt8) : VRel ι μ (.str s) (.string ⟨s.toArray⟩)
  | nilPtr : VRel ι μ .nilPtr (.pointer none)
  | nilSl : VRel ι μ .nilSl (.slice none 0 0)
  | nilMap : VRel ι μ .nilMap (.map none)
  | nilI : VRel ι μ .nilI .nilIface
  | nilFn : VRel ι μ .nilFn .nilFunc
  | ptr {id off b o s : Nat} {e : TypeId} (h : μ id = some (.arr b o s e)) : VRel ι μ (.ptr id off) (.pointer (some ⟨b, o + off, none⟩))
  | iptr {cells : List AVal} {vs : List Value} {b o : Nat} (hc : VsRel ι μ cells vs) (hi : ICells ι b o vs) : VRel ι μ (.iptr cells) (.pointer (some ⟨b, o, none⟩))
  | sl {id off es len cap cap' b o s : Nat} {e : TypeId} {op : Bool} {a : Addr} (h : μ id = some (.arr b o s e)) (hn : len ≤ cap) (hcap : cap ≤ cap') (hop : op = false → cap' = cap)
      (ha : 0 < cap' → a = ⟨b, o + off, none⟩ ∧ o + off + cap' * es ≤ s) : VRel ι μ (.sl id off es len cap op) (.slice (some a) len cap')
  | lst {cells : List AVal} {vs : List Value} {len cap' : Nat} {cap : Cap} {a : Addr} (hc : VsRel ι μ cells vs) (hi : ICells ι a.block a.off vs) (hs : 0 < len → a.spot = none) (hn : len ≤ cap')
      (hcap : CapRel μ cap a len cells.length cap') : VRel ι μ (.lst cells len cap) (.slice (some a) len cap')
  | map {id b : Nat} (h : μ id = some (.map b)) : VRel ι μ (.map id) (.map (some b))
  | fn {f : Fn} {first cap : List AVal} {first' cap' : Array Value} (h1 : VsRel ι μ first first'.toList) (h2 : VsRel ι μ cap cap'.toList) : VRel ι μ (.fn f first cap) (.func f first' cap')
  | iface {t : TypeId} {v : AVal} {v' : Value} (h : VRel ι μ v v') : VRel ι μ (.iface t v) (.iface t v')
  | agg {cells : List AVal} {cs : Array Value} (h : VsRel ι μ cells cs.toList) : VRel ι μ (.agg cells) (.agg cs)
  | tup {cells : List AVal} {cs : Array Value} (h : VsRel ι μ cells cs.toList) : VRel ι μ (.tup cells) (.tuple cs)
inductive VsRel (ι : Imm) (μ : Mu) : List AVal → List Value → Prop
  | nil : VsRel ι μ [] []
  | cons {v : AVal} {v' : Value} {vs : List AVal} {vs' : List Value} (h : VRel ι μ v v') (hs : VsRel ι μ vs vs') : VsRel ι μ (v :: vs) (v' :: vs')
end
section
variable {ι : Imm} {μ : Mu}
theorem VsRel.length {xs : List AVal} {ys : List Value} (h : VsRel ι μ xs ys) : xs.length = ys.length := by
  induction xs generalizing ys with
  | nil => cases h; rfl
  | cons x xs ih => cases h with | cons _ hs => simp [ih hs]
theorem VsRel.get {xs : List AVal} {ys : List Value} (h : VsRel ι μ xs ys) {j : Nat} {x : AVal} (hx : xs[j]? = some x) : ∃ y, ys[j]? = some y ∧ VRel ι μ x y := by
  induction xs generalizing ys j with
  | nil => simp at hx
  | cons a xs ih =>
    cases h with
    | cons h1 hs =>
      cases j with
      | zero => simp at hx; subst hx; exact ⟨_, rfl, h1⟩
      | succ j => simpa using ih hs (by simpa using hx)
theorem VsRel.append {xs xs' : List AVal} {ys ys' : List Value} (h : VsRel ι μ xs ys) (h' : VsRel ι μ xs' ys') : VsRel ι μ (xs ++ xs') (ys ++ ys') := by
  induction xs generalizing ys with
  | nil => cases h; exact h'
  | cons a xs ih => cases h with | cons h1 hs => exact .cons h1 (ih hs)
theorem VsRel.drop {xs : List AVal} {ys : List Value} (h : VsRel ι μ xs ys) (n : Nat) : VsRel ι μ (xs.drop n) (ys.drop n) := by
  induction n generalizing xs ys with
  | zero => simpa using h
  | succ n ih => cases h with
    | nil => simp; exact .nil
    | cons _ hs => simpa using ih hs
theorem VsRel.take {xs : List AVal} {ys : List Value} (h : VsRel ι μ xs ys) (n : Nat) : VsRel ι μ (xs.take n) (ys.take n) := by
  induction n generalizing xs ys with
  | zero => simp; exact .nil
  | succ n ih => cases h with
    | nil => simp; exact .nil
    | cons h1 hs => simpa using VsRel.cons h1 (ih hs)
theorem VsRel.set {xs : List AVal} {ys : List Value} (h : VsRel ι μ xs ys) (n : Nat) {x : AVal} {y : Value} (hx : VRel ι μ x y) : VsRel ι μ (xs.set n x) (ys.set n y) := by
  induction n generalizing xs ys with
  | zero => cases h with
    | nil => exact .nil
    | cons _ hs => exact .cons hx hs
  | succ n ih => cases h with
    | nil => exact .nil
    | cons h1 hs => exact .cons h1 (ih hs)
theorem VsRel.replicate_top (n : Nat) (ys : List Value) (h : ys.length = n) : VsRel ι μ (List.replicate n .top) ys := by
  induction n generalizing ys with
  | zero => cases ys with
    | nil => exact .nil
    | cons _ _ => simp at h
  | succ n ih => cases ys with
    | nil => simp at h
    | cons y ys => exact .cons (.top _) (ih ys (by simpa using h))
theorem VsRel.map_of {α : Type} {f : α → AVal} {g : α → Value} (l : List α) (h : ∀ x ∈ l, VRel ι μ (f x) (g x)) : VsRel ι μ (l.map f) (l.map g) := by
  induction l with
  | nil => exact .nil
  | cons x l ih => exact .cons (h x (by simp)) (ih fun y hy => h y (by simp [hy]))
theorem ICells.drop {b o : Nat} {vs : List Value} (h : ICells ι b o vs) (n : Nat) : ICells ι b (o + n) (vs.drop n) := by
  intro j v hv
  have := h (n + j) v (by simpa using hv)
  rw [Nat.add_assoc]; exact this
theorem ICells.take {b o : Nat} {vs : List Value} (h : ICells ι b o vs) (n : Nat) : ICells ι b o (vs.take n) := by
  intro j v hv
  rw [List.getElem?_take] at hv
  split at hv
  · exact h j v hv
  · simp at hv
end
structure Le (ι ι' : Imm) (μ μ' : Mu) : Prop where
  imm : ∀ b o v, ι b o = some v → ι' b o = some v
  mu : ∀ id e, μ id = some e → μ' id = some e
theorem Le.refl (ι : Imm) (μ : Mu) : Le ι ι μ μ := ⟨fun _ _ _ h => h, fun _ _ h => h⟩
theorem Le.trans {ι ι' ι'' : Imm} {μ μ' μ'' : Mu} (h : Le ι ι' μ μ') (h' : Le ι' ι'' μ' μ'') : Le ι ι'' μ μ'' :=
  ⟨fun b o v hv => h'.imm b o v (h.imm b o v hv), fun id e he => h'.mu id e (h.mu id e he)⟩
theorem ICells.mono {ι ι' : Imm} {μ μ' : Mu} (l : Le ι ι' μ μ') {b o : Nat} {vs : List Value} (h : ICells ι b o vs) : ICells ι' b o vs := fun j v hv => l.imm _ _ _ (h j v hv)
theorem CapRel.mono {ι ι' : Imm} {μ μ' : Mu} (l : Le ι ι' μ μ') {cap : Cap} {a : Addr} {n m c : Nat} (h : CapRel μ cap a n m c) : CapRel μ' cap a n m c := by
  cases cap with
  | full => exact h
  | unk => trivial
  | tok r => obtain ⟨b, m', s, es, h1, h2⟩ := h; exact ⟨b, m', s, es, l.mu _ _ h1, h2⟩
mutual
theorem VRel.mono {ι ι' : Imm} {μ μ' : Mu} (l : Le ι ι' μ μ') {v : AVal} {v' : Value} (h : VRel ι μ v v') : VRel ι' μ' v v' := by
  cases h with
  | top => exact .top _
  | bool => exact .bool _
  | int => exact .int _ _
  | str => exact .str _
  | nilPtr => exact .nilPtr
  | nilSl => exact .nilSl
  | nilMap => exact .nilMap
  | nilI => exact .nilI
  | nilFn => exact .nilFn
  | ptr h => exact .ptr (l.mu _ _ h)
  | iptr hc hi => exact .iptr (VsRel.mono l hc) (hi.mono l)
  | sl h hn hcap hop ha => exact .sl (l.mu _ _ h) hn hcap hop ha
  | lst hc hi hs hn hcap => exact .lst (VsRel.mono l hc) (hi.mono l) hs hn (hcap.mono l)
  | map h => exact .map (l.mu _ _ h)
  | fn h1 h2 => exact .fn (VsRel.mono l h1) (VsRel.mono l h2)
  | iface h => exact .iface (VRel.mono l h)
  | agg h => exact .agg (VsRel.mono l h)
  | tup h => exact .tup (VsRel.mono l h)
theorem VsRel.mono {ι ι' : Imm} {μ μ' : Mu} (l : Le ι ι' μ μ') {v : List AVal} {v' : List Value} (h : VsRel ι μ v v') : VsRel ι' μ' v v' := by
  cases h with
  | nil => exact .nil
  | cons h hs => exact .cons (VRel.mono l h) (VsRel.mono l hs)
end
section
variable {ι : Imm} {μ : Mu}
theorem ofCell_rel (v : Value) : VRel ι μ (ofCell v) v := by
  unfold ofCell
  split <;> first | exact .top _ | constructor | skip
  · rename_i f first cap
    split
    · rename_i h
      have h1 : first = #[] := Array.eq_empty_of_size_eq_zero h.1
      have h2 : cap = #[] := Array.eq_empty_of_size_eq_zero h.2
      subst h1; subst h2
      exact .fn .nil .nil
    · exact .top _
theorem ofV_rel (v : Value) : VRel ι μ (ofV v) v := by
  unfold ofV
  split
  · rename_i cs
    have h := VsRel.map_of (ι := ι) (μ := μ) (f := ofCell) (g := id) cs.toList fun x _ => ofCell_rel x
    rw [List.map_id] at h
    exact .agg h
  · exact ofCell_rel v
theorem VRel.cells {v : AVal} {v' : Value} (h : VRel ι μ v v') (hb : v.boxable = true) : VsRel ι μ v.cells v'.cells.toList := by
  cases h with
  | agg h => exact h
  | top => simp [AVal.boxable, AVal.isCell] at hb
  | tup => simp [AVal.boxable, AVal.isCell] at hb
  | _ => exact .cons (by first | assumption | (constructor <;> assumption) | constructor) .nil
end
end Go.Am



namespace Go.Am
open Go
structure G where
  w : World
  ι : Imm
  μ : Mu
inductive EsRel (ι : Imm) (μ : Mu) : List (AVal × AVal × Nat) → List MapEntry → Prop
  | nil : EsRel ι μ [] []
  | cons {k v : AVal} {n : Nat} {e : MapEntry} {es : List (AVal × AVal × Nat)} {es' : List MapEntry} (hk : VRel ι μ k e.key) (hv : VRel ι μ v e.val) (hn : e.born = n) (hs : EsRel ι μ es es') :
      EsRel ι μ ((k, v, n) :: es) (e :: es')
theorem EsRel.mono {ι ι' : Imm} {μ μ' : Mu} (l : Le ι ι' μ μ') {es : List (AVal × AVal × Nat)} {es' : List MapEntry} (h : EsRel ι μ es es') : EsRel ι' μ' es es' := by
  induction h with
  | nil => exact .nil
  | cons hk hv hn _ ih => exact .cons (hk.mono l) (hv.mono l) hn ih
def blkOf (μ : Mu) (id : Nat) : Option Nat := (μ id).map Ent.block
def ArrOk (B : Nat) (g : G) (id : Nat) (cells : List AVal) : Prop :=
  ∃ b o cs e vs, g.μ id = some (.arr b o cs.size e) ∧ B ≤ b ∧ g.w.heap[b]? = some (.cells cs e (0, 0)) ∧ VsRel g.ι g.μ cells vs ∧ (∀ (j : Nat) (v : Value), vs[j]? = some v → cs[o + j]? = some v) ∧ (∀ j, g.ι b j = none) ∧ o + cells.length ≤ cs.size
def TokOk (B : Nat) (g : G) (id es : Nat) : Prop :=
  ∃ b m cs e lo hi, g.μ id = some (.tok b m cs.size es) ∧ B ≤ b ∧ g.w.heap[b]? = some (.cells cs e (lo, hi)) ∧ (∀ j, m ≤ j → j < cs.size → ¬ (lo ≤ j ∧ j < hi)) ∧ ∀ j, m ≤ j → g.ι b j = none
def MapOk (B : Nat) (g : G) (id : Nat) (es : List (AVal × AVal × Nat)) (clock : Nat) : Prop :=
  ∃ b es', g.μ id = some (.map b) ∧ B ≤ b ∧ g.w.heap[b]? = some (.map es' clock) ∧ EsRel g.ι g.μ es es'.toList
def BlkOk (B : Nat) (g : G) (id : Nat) : ABlk → Prop
  | .arr cells => ArrOk B g id cells
  | .tok es => TokOk B g id es
  | .map es clock => MapOk B g id es clock
  | .sIter _ _ => False
structure Inv (B : Nat) (h : AHeap) (g : G) : Prop where
  nx : ∀ id, h.next ≤ id → g.μ id = none ∧ h.get id = none
  base : B ≤ g.w.heap.size
  imm : ∀ b o v, g.ι b o = some v → g.w.cell? ⟨b, o, none⟩ = some v
  blk : ∀ id x, h.get id = some x → BlkOk B g id x
  inj : ∀ i j x y b, h.get i = some x → h.get j = some y → blkOf g.μ i = some b → blkOf g.μ j = some b → i = j
  ty : ∀ id t z, h.ty id = some (t, z) → ∃ b o s, g.μ id = some (.arr b o s t) ∧ (z = true → o = 0)
def Owns (h : AHeap) (g : G) (b : Nat) : Prop := ∃ id x, h.get id = some x ∧ blkOf g.μ id = some b
structure Ext (h : AHeap) (g : G) (h' : AHeap) (g' : G) : Prop where
  os : g'.w.os = g.w.os
  tape : g'.w.tape = g.w.tape
  output : g'.w.output = g.w.output
  size : g.w.heap.size ≤ g'.w.heap.size
  fr : ∀ b, b < g.w.heap.size → ¬ Owns h g b → g'.w.heap[b]? = g.w.heap[b]?
  le : Le g.ι g'.ι g.μ g'.μ
  ifr : ∀ b, b < g.w.heap.size → ¬ Owns h g b → ∀ o, g'.ι b o = g.ι b o
  own : ∀ b, b < g.w.heap.size → Owns h' g' b → Owns h g b
  next : h.next ≤ h'.next
  old : ∀ id, id < h.next → g'.μ id = g.μ id
theorem Ext.refl (h : AHeap) (g : G) : Ext h g h g := ⟨rfl, rfl, rfl, Nat.le_refl _, fun _ _ _ => rfl, Le.refl _ _, fun _ _ _ _ => rfl, fun _ _ x => x, Nat.le_refl _, fun _ _ => rfl⟩
theorem Ext.trans {h h1 h2 : AHeap} {g g1 g2 : G} (x : Ext h g h1 g1) (y : Ext h1 g1 h2 g2) : Ext h g h2 g2 where
  os := y.os.trans x.os
  tape := y.tape.trans x.tape
  output := y.output.trans x.output
  size := Nat.le_trans x.size y.size
  fr b hb hn := (y.fr b (Nat.lt_of_lt_of_le hb x.size) fun o => hn (x.own b hb o)).trans (x.fr b hb hn)
  le := x.le.trans y.le
  ifr b hb hn o := (y.ifr b (Nat.lt_of_lt_of_le hb x.size) (fun p => hn (x.own b hb p)) o).trans (x.ifr b hb hn o)
  own b hb o := x.own b hb (y.own b (Nat.lt_of_lt_of_le hb x.size) o)
  next := Nat.le_trans x.next y.next
  old id hid := (y.old id (Nat.lt_of_lt_of_le hid x.next)).trans (x.old id hid)
structure Same (w w' : World) : Prop where
  os : w'.os = w.os
  tape : w'.tape = w.tape
  output : w'.output = w.output
  heap : w'.heap = w.heap
structure Psh (w w' : World) (o : Obj) : Prop where
  os : w'.os = w.os
  tape : w'.tape = w.tape
  output : w'.output = w.output
  heap : w'.heap = w.heap.push o
structure Upd (w w' : World) (b : Nat) (o : Obj) : Prop where
  os : w'.os = w.os
  tape : w'.tape = w.tape
  output : w'.output = w.output
  size : w'.heap.size = w.heap.size
  at_ : w'.heap[b]? = some o
  other : ∀ b', b' ≠ b → w'.heap[b']? = w.heap[b']?
theorem cell?_of_heap {w : World} {b o : Nat} {cs : Array Value} {e : TypeId} {f : Nat × Nat} (h : w.heap[b]? = some (.cells cs e f)) : w.cell? ⟨b, o, none⟩ = cs[o]? := by
  simp [World.cell?, h]
theorem cell?_congr {w w' : World} {b o : Nat} (h : w'.heap[b]? = w.heap[b]?) : w'.cell? ⟨b, o, none⟩ = w.cell? ⟨b, o, none⟩ := by
  simp [World.cell?, h]
theorem lt_of_heap {w : World} {b : Nat} {o : Obj} (h : w.heap[b]? = some o) : b < w.heap.size := by
  rcases Nat.lt_or_ge b w.heap.size with h' | h'
  · exact h'
  · simp [Array.getElem?_eq_none h'] at h
theorem lt_of_cell {w : World} {b o : Nat} {v : Value} (h : w.cell? ⟨b, o, none⟩ = some v) : b < w.heap.size := by
  unfold World.cell? at h
  split at h
  · rename_i h'; exact lt_of_heap h'
  · simp at h
theorem Inv.lt_own {B : Nat} {h : AHeap} {g : G} (I : Inv B h g) {b : Nat} (o : Owns h g b) : b < g.w.heap.size := by
  obtain ⟨id, x, hx, hb⟩ := o
  have := I.blk id x hx
  cases x with
  | arr cells => obtain ⟨b', _, _, _, _, hm, _, hh, _⟩ := this; simp [blkOf, hm, Ent.block] at hb; subst hb; exact lt_of_heap hh
  | tok => obtain ⟨b', _, _, _, _, _, hm, _, hh, _⟩ := this; simp [blkOf, hm, Ent.block] at hb; subst hb; exact lt_of_heap hh
  | map es c => obtain ⟨b', _, hm, _, hh, _⟩ := this; simp [blkOf, hm, Ent.block] at hb; subst hb; exact lt_of_heap hh
  | sIter => exact this.elim
theorem Inv.base_own {B : Nat} {h : AHeap} {g : G} (I : Inv B h g) {b : Nat} (o : Owns h g b) : B ≤ b := by
  obtain ⟨id, x, hx, hb⟩ := o
  have := I.blk id x hx
  cases x with
  | arr cells => obtain ⟨b', _, _, _, _, hm, h0, hh, _⟩ := this; simp [blkOf, hm, Ent.block] at hb; subst hb; exact h0
  | tok => obtain ⟨b', _, _, _, _, _, hm, h0, hh, _⟩ := this; simp [blkOf, hm, Ent.block] at hb; subst hb; exact h0
  | map es c => obtain ⟨b', _, hm, h0, hh, _⟩ := this; simp [blkOf, hm, Ent.block] at hb; subst hb; exact h0
  | sIter => exact this.elim
theorem Inv.lt_id {B : Nat} {h : AHeap} {g : G} (I : Inv B h g) {id : Nat} {x : ABlk} (hx : h.get id = some x) : id < h.next := by
  rcases Nat.lt_or_ge id h.next with h' | h'
  · exact h'
  · rw [(I.nx id h').2] at hx; cases hx
theorem Inv.mu_lt {B : Nat} {h : AHeap} {g : G} (I : Inv B h g) {id : Nat} {e : Ent} (hx : g.μ id = some e) : id < h.next := by
  rcases Nat.lt_or_ge id h.next with h' | h'
  · exact h'
  · rw [(I.nx id h').1] at hx; cases hx
theorem BlkOk.keep {B : Nat} {g g' : G} {id : Nat} {x : ABlk} (h : BlkOk B g id x) (l : Le g.ι g'.ι g.μ g'.μ)
    (hw : ∀ b, blkOf g.μ id = some b → g'.w.heap[b]? = g.w.heap[b]?) (hi : ∀ b o, blkOf g.μ id = some b → g.ι b o = none → g'.ι b o = none) : BlkOk B g' id x := by
  cases x with
  | arr cells =>
    obtain ⟨b, o, cs, e, vs, hm, h0, hh, hv, hc, hn⟩ := h
    exact ⟨b, o, cs, e, vs, l.mu _ _ hm, h0, (hw b (by simp [blkOf, hm, Ent.block])).trans hh, hv.mono l, hc, fun j => hi b j (by simp [blkOf, hm, Ent.block]) (hn.1 j), hn.2⟩
  | tok =>
    obtain ⟨b, m, cs, e, lo, hi', hm, h0, hh, hf, hn⟩ := h
    exact ⟨b, m, cs, e, lo, hi', l.mu _ _ hm, h0, (hw b (by simp [blkOf, hm, Ent.block])).trans hh, hf, fun j hj => hi b j (by simp [blkOf, hm, Ent.block]) (hn j hj)⟩
  | map es c =>
    obtain ⟨b, es', hm, h0, hh, he⟩ := h
    exact ⟨b, es', l.mu _ _ hm, h0, (hw b (by simp [blkOf, hm, Ent.block])).trans hh, he.mono l⟩
  | sIter => exact h.elim
theorem BlkOk.has {B : Nat} {g : G} {id : Nat} {x : ABlk} (h : BlkOk B g id x) : ∃ b, blkOf g.μ id = some b := by
  cases x with
  | arr cells => obtain ⟨b, o, cs, e, vs, hm, _⟩ := h; exact ⟨b, by simp [blkOf, hm, Ent.block]⟩
  | tok => obtain ⟨b, m, cs, e, lo, hi', hm, _⟩ := h; exact ⟨b, by simp [blkOf, hm, Ent.block]⟩
  | map es c => obtain ⟨b, es', hm, _⟩ := h; exact ⟨b, by simp [blkOf, hm, Ent.block]⟩
  | sIter => exact h.elim
theorem Inv.same {B : Nat} {h : AHeap} {g : G} (I : Inv B h g) {w' : World} (s : Same g.w w') : Inv B h { g with w := w' } ∧ Ext h g h { g with w := w' } := by
  have hc : ∀ b : Nat, w'.heap[b]? = g.w.heap[b]? := fun b => by rw [s.heap]
  refine ⟨⟨I.nx, by simpa [s.heap] using I.base, fun b o v hv => (cell?_congr (hc b)).trans (I.imm b o v hv), fun id x hx => (I.blk id x hx).keep (Le.refl _ _) (fun b _ => hc b) (fun _ _ _ h => h), I.inj, I.ty⟩,
    ⟨s.os, s.tape, s.output, by simp [s.heap], fun b _ _ => hc b, Le.refl _ _, fun _ _ _ _ => rfl, fun _ _ x => x, Nat.le_refl _, fun _ _ => rfl⟩⟩
theorem psh_get {w w' : World} {o : Obj} (p : Psh w w' o) (b : Nat) (hb : b < w.heap.size) : w'.heap[b]? = w.heap[b]? := by
  rw [p.heap, Array.getElem?_push]; rw [if_neg (by omega)]
theorem psh_new {w w' : World} {o : Obj} (p : Psh w w' o) : w'.heap[w.heap.size]? = some o := by
  rw [p.heap, Array.getElem?_push]; simp
theorem Inv.fresh_imm {B : Nat} {h : AHeap} {g : G} (I : Inv B h g) {w' : World} {cs : Array Value} {e : TypeId} {f : Nat × Nat} (p : Psh g.w w' (.cells cs e f)) :
    ∃ ι', Inv B h ⟨w', ι', g.μ⟩ ∧ Ext h g h ⟨w', ι', g.μ⟩ ∧ (∀ o, ι' g.w.heap.size o = cs[o]?) := by
  refine ⟨fun b o => if b = g.w.heap.size then cs[o]? else g.ι b o, ?_, ?_, fun o => by simp⟩
  · have l : Le g.ι (fun b o => if b = g.w.heap.size then cs[o]? else g.ι b o) g.μ g.μ := ⟨fun b o v hv => by
      have := lt_of_cell (I.imm b o v hv); show (if b = g.w.heap.size then cs[o]? else g.ι b o) = some v; rw [if_neg (by omega)]; exact hv, fun _ _ h => h⟩
    refine ⟨I.nx, ?_, ?_, ?_, I.inj, I.ty⟩
    · have := I.base; simp [p.heap]; omega
    · intro b o v hv
      simp only at hv
      split at hv
      · rename_i hb; subst hb; rw [cell?_of_heap (psh_new p)]; exact hv
      · exact (cell?_congr (psh_get p b (lt_of_cell (I.imm b o v hv)))).trans (I.imm b o v hv)
    · intro id x hx
      refine (I.blk id x hx).keep l (fun b hb => psh_get p b (I.lt_own ⟨id, x, hx, hb⟩)) (fun b o hb hn => ?_)
      have := I.lt_own ⟨id, x, hx, hb⟩
      show (if b = g.w.heap.size then cs[o]? else g.ι b o) = none; rw [if_neg (by omega)]; exact hn
  · refine ⟨p.os, p.tape, p.output, by simp [p.heap], fun b hb _ => psh_get p b hb, ⟨fun b o v hv => ?_, fun _ _ h => h⟩, fun b hb _ o => ?_, fun _ _ x => x, Nat.le_refl _, fun _ _ => rfl⟩
    · have := lt_of_cell (I.imm b o v hv); show (if b = g.w.heap.size then cs[o]? else g.ι b o) = some v; rw [if_neg (by omega)]; exact hv
    · show (if b = g.w.heap.size then cs[o]? else g.ι b o) = g.ι b o; rw [if_neg (by omega)]
def addMu (μ : Mu) (id : Nat) (e : Ent) : Mu := fun i => if i = id then some e else μ i
theorem addMu_self (μ : Mu) (id : Nat) (e : Ent) : addMu μ id e id = some e := by simp [addMu]
theorem Inv.le_add {B : Nat} {h : AHeap} {g : G} (I : Inv B h g) (e : Ent) : Le g.ι g.ι g.μ (addMu g.μ h.next e) :=
  ⟨fun _ _ _ h => h, fun id x hx => by unfold addMu; rw [if_neg (Nat.ne_of_lt (I.mu_lt hx))]; exact hx⟩
theorem Inv.freshI {B : Nat} {h : AHeap} {g : G} (I : Inv B h g) {w' : World} {o : Obj} (p : Psh g.w w' o) (x : ABlk) (e : Ent) (he : e.block = g.w.heap.size) (ι' : Imm)
    (hio : ∀ b o, b ≠ g.w.heap.size → ι' b o = g.ι b o) (himm : ∀ j v, ι' g.w.heap.size j = some v → w'.cell? ⟨g.w.heap.size, j, none⟩ = some v)
    (hx : BlkOk B ⟨w', ι', addMu g.μ h.next e⟩ h.next x) : Inv B (h.new x) ⟨w', ι', addMu g.μ h.next e⟩ ∧ Ext h g (h.new x) ⟨w', ι', addMu g.μ h.next e⟩ := by
  have hle : ∀ b o v, g.ι b o = some v → ι' b o = some v := fun b o v hv => by
    have := lt_of_cell (I.imm b o v hv); rw [hio b o (by omega)]; exact hv
  have l : Le g.ι ι' g.μ (addMu g.μ h.next e) := ⟨hle, (I.le_add e).mu⟩
  have hmu : ∀ id, id ≠ h.next → addMu g.μ h.next e id = g.μ id := fun id hid => by unfold addMu; rw [if_neg hid]
  have hblk : ∀ id, id ≠ h.next → blkOf (addMu g.μ h.next e) id = blkOf g.μ id := fun id hid => by unfold blkOf; rw [hmu id hid]
  have hnew : blkOf (addMu g.μ h.next e) h.next = some g.w.heap.size := by simp [blkOf, addMu, he]
  have hget : ∀ id, id ≠ h.next → (h.new x).get id = h.get id := fun id hid => by simp [AHeap.new, hid]
  have hself : (h.new x).get h.next = some x := by simp [AHeap.new]
  refine ⟨⟨?_, ?_, ?_, ?_, ?_, fun id t z ht => by obtain ⟨b, o, s, hm, hz⟩ := I.ty id t z ht; exact ⟨b, o, s, (I.le_add e).mu _ _ hm, hz⟩⟩, ⟨p.os, p.tape, p.output, by simp [p.heap], fun b hb _ => psh_get p b hb, l, fun b hb _ o => hio b o (by omega), ?_, by simp [AHeap.new], fun id hid => hmu id (Nat.ne_of_lt hid)⟩⟩
  · intro id hid
    have hid' : h.next + 1 ≤ id := hid
    rw [hget id (by omega)]; exact ⟨(hmu id (by omega)).trans (I.nx id (by omega)).1, (I.nx id (by omega)).2⟩
  · have := I.base; simp [p.heap]; omega
  · intro b o v hv
    by_cases hb : b = g.w.heap.size
    · subst hb; exact himm _ _ hv
    · have hv' : g.ι b o = some v := (hio b o hb) ▸ hv
      exact (cell?_congr (psh_get p b (lt_of_cell (I.imm b o v hv')))).trans (I.imm b o v hv')
  · intro id y hy
    by_cases hid : id = h.next
    · subst hid; rw [hself] at hy; cases hy; exact hx
    · rw [hget id hid] at hy
      exact (I.blk id y hy).keep l (fun b hb => psh_get p b (I.lt_own ⟨id, y, hy, hb⟩)) (fun b o hb hn => (hio b o (by have := I.lt_own ⟨id, y, hy, hb⟩; omega)).trans hn)
  · intro i j x' y' b hi hj hbi hbj
    by_cases h1 : i = h.next
    · by_cases h2 : j = h.next
      · exact h1.trans h2.symm
      · subst h1
        rw [hget j h2] at hj; rw [hblk j h2] at hbj
        have := I.lt_own ⟨j, y', hj, hbj⟩
        rw [hnew] at hbi; cases hbi; omega
    · by_cases h2 : j = h.next
      · subst h2
        rw [hget i h1] at hi; rw [hblk i h1] at hbi
        have := I.lt_own ⟨i, x', hi, hbi⟩
        rw [hnew] at hbj; cases hbj; omega
      · rw [hget i h1] at hi; rw [hblk i h1] at hbi; rw [hget j h2] at hj; rw [hblk j h2] at hbj
        exact I.inj i j x' y' b hi hj hbi hbj
  · rintro b hb ⟨id, y, hy, hbid⟩
    by_cases hid : id = h.next
    · subst hid; rw [hnew] at hbid; cases hbid; exact absurd hb (Nat.lt_irrefl _)
    · rw [hget id hid] at hy; rw [hblk id hid] at hbid; exact ⟨id, y, hy, hbid⟩
theorem Inv.no_imm {B : Nat} {h : AHeap} {g : G} (I : Inv B h g) (j : Nat) : g.ι g.w.heap.size j = none := by
  cases hi : g.ι g.w.heap.size j with
  | none => rfl
  | some v => exact absurd (lt_of_cell (I.imm _ _ _ hi)) (Nat.lt_irrefl _)
theorem Inv.fresh {B : Nat} {h : AHeap} {g : G} (I : Inv B h g) {w' : World} {o : Obj} (p : Psh g.w w' o) (x : ABlk) (e : Ent) (he : e.block = g.w.heap.size)
    (hx : BlkOk B ⟨w', g.ι, addMu g.μ h.next e⟩ h.next x) : Inv B (h.new x) ⟨w', g.ι, addMu g.μ h.next e⟩ ∧ Ext h g (h.new x) ⟨w', g.ι, addMu g.μ h.next e⟩ :=
  I.freshI p x e he g.ι (fun _ _ _ => rfl) (fun j v hv => by rw [I.no_imm] at hv; cases hv) hx
theorem Inv.freshTok {B : Nat} {h : AHeap} {g : G} (I : Inv B h g) {w' : World} {cs : Array Value} {e : TypeId} {lo hi : Nat} (p : Psh g.w w' (.cells cs e (lo, hi))) (k es : Nat) (hk : ∀ j, k ≤ j → j < cs.size → ¬ (lo ≤ j ∧ j < hi)) :
    ∃ ι', Inv B (h.new (.tok es)) ⟨w', ι', addMu g.μ h.next (.tok g.w.heap.size k cs.size es)⟩ ∧ Ext h g (h.new (.tok es)) ⟨w', ι', addMu g.μ h.next (.tok g.w.heap.size k cs.size es)⟩ ∧ ∀ o, o < k → ι' g.w.heap.size o = cs[o]? := by
  refine ⟨fun b o => if b = g.w.heap.size then (if o < k then cs[o]? else none) else g.ι b o, ?_⟩
  have T := I.freshI p (.tok es) (.tok g.w.heap.size k cs.size es) rfl (fun b o => if b = g.w.heap.size then (if o < k then cs[o]? else none) else g.ι b o) (fun b o hb => by rw [if_neg hb]) (fun j v hv => by
      simp only [if_true] at hv
      split at hv
      · rw [cell?_of_heap (psh_new p)]; exact hv
      · cases hv)
    ⟨g.w.heap.size, k, cs, e, lo, hi, by simp [addMu], I.base, psh_new p, hk, fun j hj => by simp only [if_true]; rw [if_neg (by omega)]⟩
  exact ⟨T.1, T.2, fun o ho => by simp only [if_true]; rw [if_pos ho]⟩
theorem Inv.turn {B : Nat} {h : AHeap} {g : G} (I : Inv B h g) {w' : World} {id b : Nat} {x : ABlk} {y : Option ABlk} {o : Obj} (hx : h.get id = some x) (hb : blkOf g.μ id = some b) (u : Upd g.w w' b o) (ι' : Imm)
    (hle : ∀ b o v, g.ι b o = some v → ι' b o = some v) (hio : ∀ b' o, b' ≠ b → ι' b' o = g.ι b' o) (himm : ∀ j v, ι' b j = some v → w'.cell? ⟨b, j, none⟩ = some v)
    (hy : ∀ z, y = some z → BlkOk B ⟨w', ι', g.μ⟩ id z) : Inv B (h.set id y) ⟨w', ι', g.μ⟩ ∧ Ext h g (h.set id y) ⟨w', ι', g.μ⟩ := by
  have hb' := I.lt_own ⟨id, x, hx, hb⟩
  have l : Le g.ι ι' g.μ g.μ := ⟨hle, fun _ _ h => h⟩
  have hget : ∀ i, i ≠ id → (h.set id y).get i = h.get i := fun i hi => by simp [AHeap.set, hi]
  have hself : (h.set id y).get id = y := by simp [AHeap.set]
  have hne : ∀ i z b', i ≠ id → h.get i = some z → blkOf g.μ i = some b' → b' ≠ b := fun i z b' hi hz hb1 e => hi (I.inj i id z x b' hz hx hb1 (by rw [e]; exact hb))
  refine ⟨⟨?_, ?_, ?_, ?_, ?_, I.ty⟩, ⟨u.os, u.tape, u.output, by simp [u.size], fun b' _ hn => u.other b' fun e => hn ⟨id, x, hx, by rw [e]; exact hb⟩, l, fun b' _ hn o => hio b' o fun e => hn ⟨id, x, hx, by rw [e]; exact hb⟩, ?_, Nat.le_refl _, fun _ _ => rfl⟩⟩
  · intro i hi
    have : id < h.next := I.lt_id hx
    have hi' : h.next ≤ i := hi
    rw [hget i (by omega)]; exact I.nx i hi'
  · have := I.base; simpa [u.size] using this
  · intro b' o v hv
    by_cases e : b' = b
    · subst e; exact himm _ _ hv
    · have hv' : g.ι b' o = some v := (hio b' o e) ▸ hv
      exact (cell?_congr (u.other b' e)).trans (I.imm b' o v hv')
  · intro i z hz
    by_cases hi : i = id
    · subst hi; rw [hself] at hz; exact hy z hz
    · rw [hget i hi] at hz
      exact (I.blk i z hz).keep l (fun b' hb1 => u.other b' (hne i z b' hi hz hb1)) (fun b' o hb1 hn => (hio b' o (hne i z b' hi hz hb1)).trans hn)
  · intro i j x' y' b' hi hj h1 h2
    by_cases e1 : i = id
    · by_cases e2 : j = id
      · exact e1.trans e2.symm
      · subst e1; rw [hget j e2] at hj
        exact absurd h1 (by rw [hb]; intro e; cases e; exact hne j y' b e2 hj h2 rfl)
    · by_cases e2 : j = id
      · subst e2; rw [hget i e1] at hi
        exact absurd h2 (by rw [hb]; intro e; cases e; exact hne i x' b e1 hi h1 rfl)
      · rw [hget i e1] at hi; rw [hget j e2] at hj; exact I.inj i j x' y' b' hi hj h1 h2
  · rintro b' _ ⟨i, z, hz, hb1⟩
    by_cases hi : i = id
    · subst hi; exact ⟨i, x, hx, hb1⟩
    · rw [hget i hi] at hz; exact ⟨i, z, hz, hb1⟩
theorem Inv.turnTo {B : Nat} {h : AHeap} {g : G} (I : Inv B h g) {w' : World} {id b : Nat} {x y : ABlk} {o : Obj} (hx : h.get id = some x) (hb : blkOf g.μ id = some b) (u : Upd g.w w' b o) (ι' : Imm)
    (hle : ∀ b o v, g.ι b o = some v → ι' b o = some v) (hio : ∀ b' o, b' ≠ b → ι' b' o = g.ι b' o) (himm : ∀ j v, ι' b j = some v → w'.cell? ⟨b, j, none⟩ = some v) (e : Ent) (he : e.block = b)
    (hy : BlkOk B ⟨w', ι', addMu g.μ h.next e⟩ h.next y) : Inv B ((h.set id none).new y) ⟨w', ι', addMu g.μ h.next e⟩ ∧ Ext h g ((h.set id none).new y) ⟨w', ι', addMu g.μ h.next e⟩ := by
  have l : Le g.ι ι' g.μ (addMu g.μ h.next e) := ⟨hle, (I.le_add e).mu⟩
  have hlt := I.lt_id hx
  have hmu : ∀ i, i ≠ h.next → addMu g.μ h.next e i = g.μ i := fun i hi => by unfold addMu; rw [if_neg hi]
  have hblk : ∀ i, i ≠ h.next → blkOf (addMu g.μ h.next e) i = blkOf g.μ i := fun i hi => by unfold blkOf; rw [hmu i hi]
  have hnew : blkOf (addMu g.μ h.next e) h.next = some b := by simp [blkOf, addMu, he]
  have hget : ∀ i, i ≠ h.next → i ≠ id → ((h.set id none).new y).get i = h.get i := fun i h1 h2 => by simp [AHeap.new, AHeap.set, h1, h2]
  have hself : ((h.set id none).new y).get h.next = some y := by simp [AHeap.new, AHeap.set]
  have hid : ((h.set id none).new y).get id = none := by simp [AHeap.new, AHeap.set, Nat.ne_of_lt hlt]
  have hne : ∀ i z b', i ≠ id → h.get i = some z → blkOf g.μ i = some b' → b' ≠ b := fun i z b' hi hz hb1 e => hi (I.inj i id z x b' hz hx hb1 (by rw [e]; exact hb))
  refine ⟨⟨?_, ?_, ?_, ?_, ?_, fun i t z ht => by obtain ⟨b, o, s, hm, hz⟩ := I.ty i t z ht; exact ⟨b, o, s, l.mu _ _ hm, hz⟩⟩, ⟨u.os, u.tape, u.output, by simp [u.size], fun b' _ hn => u.other b' fun e => hn ⟨id, x, hx, by rw [e]; exact hb⟩, l, fun b' _ hn o => hio b' o fun e => hn ⟨id, x, hx, by rw [e]; exact hb⟩, ?_, by simp [AHeap.new, AHeap.set], fun i hi => hmu i (Nat.ne_of_lt hi)⟩⟩
  · intro i hi
    have hi' : h.next + 1 ≤ i := hi
    rw [hget i (by omega) (by omega)]; exact ⟨(hmu i (by omega)).trans (I.nx i (by omega)).1, (I.nx i (by omega)).2⟩
  · have := I.base; simpa [u.size] using this
  · intro b' o v hv
    by_cases e : b' = b
    · subst e; exact himm _ _ hv
    · have hv' : g.ι b' o = some v := (hio b' o e) ▸ hv
      exact (cell?_congr (u.other b' e)).trans (I.imm b' o v hv')
  · intro i z hz
    by_cases h1 : i = h.next
    · subst h1; rw [hself] at hz; cases hz; exact hy
    · by_cases h2 : i = id
      · subst h2; rw [hid] at hz; cases hz
      · rw [hget i h1 h2] at hz
        exact (I.blk i z hz).keep l (fun b' hb1 => u.other b' (hne i z b' h2 hz hb1)) (fun b' o hb1 hn => (hio b' o (hne i z b' h2 hz hb1)).trans hn)
  · intro i j x' y' b' hi hj h1 h2
    by_cases e1 : i = id
    · subst e1; rw [hid] at hi; cases hi
    by_cases e2 : j = id
    · subst e2; rw [hid] at hj; cases hj
    by_cases f1 : i = h.next
    · by_cases f2 : j = h.next
      · exact f1.trans f2.symm
      · subst f1; rw [hget j f2 e2] at hj; rw [hblk j f2] at h2; rw [hnew] at h1; cases h1
        exact absurd rfl (hne j y' b e2 hj h2)
    · by_cases f2 : j = h.next
      · subst f2; rw [hget i f1 e1] at hi; rw [hblk i f1] at h1; rw [hnew] at h2; cases h2
        exact absurd rfl (hne i x' b e1 hi h1)
      · rw [hget i f1 e1] at hi; rw [hget j f2 e2] at hj; rw [hblk i f1] at h1; rw [hblk j f2] at h2; exact I.inj i j x' y' b' hi hj h1 h2
  · rintro b' _ ⟨i, z, hz, hb1⟩
    by_cases h1 : i = h.next
    · subst h1; rw [hnew] at hb1; cases hb1; exact ⟨id, x, hx, hb⟩
    · by_cases h2 : i = id
      · subst h2; rw [hid] at hz; cases hz
      · rw [hget i h1 h2] at hz; rw [hblk i h1] at hb1; exact ⟨i, z, hz, hb1⟩
theorem Inv.drop {B : Nat} {h : AHeap} {g : G} (I : Inv B h g) (id : Nat) : Inv B (h.set id none) g ∧ Ext h g (h.set id none) g := by
  have hget : ∀ i x, (h.set id none).get i = some x → h.get i = some x := fun i x hx => by
    simp only [AHeap.set] at hx; split at hx
    · cases hx
    · exact hx
  refine ⟨⟨fun i hi => ?_, I.base, I.imm, fun i x hx => I.blk i x (hget i x hx), fun i j x y b h1 h2 => I.inj i j x y b (hget i x h1) (hget j y h2), I.ty⟩,
    ⟨rfl, rfl, rfl, Nat.le_refl _, fun _ _ _ => rfl, Le.refl _ _, fun _ _ _ _ => rfl, fun b _ => ?_, Nat.le_refl _, fun _ _ => rfl⟩⟩
  · have := I.nx i hi
    refine ⟨this.1, ?_⟩
    simp only [AHeap.set]; split
    · rfl
    · exact this.2
  · rintro ⟨i, x, hx, hb⟩; exact ⟨i, x, hget i x hx, hb⟩
theorem Inv.mark {B : Nat} {h : AHeap} {g : G} (I : Inv B h g) {id b o s : Nat} {t : TypeId} {z : Bool} (hm : g.μ id = some (.arr b o s t)) (hz : z = true → o = 0) : Inv B (h.mark id (t, z)) g ∧ Ext h g (h.mark id (t, z)) g := by
  refine ⟨⟨I.nx, I.base, I.imm, I.blk, I.inj, fun i t' z' ht => ?_⟩, ⟨rfl, rfl, rfl, Nat.le_refl _, fun _ _ _ => rfl, Le.refl _ _, fun _ _ _ _ => rfl, fun _ _ x => x, Nat.le_refl _, fun _ _ => rfl⟩⟩
  simp only [AHeap.mark] at ht
  split at ht
  · rename_i hi; subst hi; cases ht; exact ⟨b, o, s, hm, hz⟩
  · exact I.ty i t' z' ht
end Go.Am

