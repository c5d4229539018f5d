/-
  THE ABSTRACT MACHINE: what ties its values and heap to the model's.
-/
import Derived.Test.YtgjdlakemaabfaaAmExec
import Derived.Below
set_option linter.unusedVariables false
namespace Go.Am
open Go

inductive Ent where
  | arr (b o s : Nat)
  | tok (b m s es : Nat)
  | map (b : Nat)

def Ent.block : Ent → Nat
  | .arr b _ _ | .tok b _ _ _ | .map b => b

abbrev Imm := Nat → Nat → Option Value
abbrev Mu := Nat → Option Ent

def ICells (ι : Imm) (b o : Nat) (vs : List Value) : Prop := ∀ (j : Nat) (v : Value), vs[j]? = some v → ι b (o + j) = some v

def CapRel (μ : Mu) (cap : Cap) (a : Addr) (len n cap' : Nat) : Prop :=
  match cap with
  | .full => cap' = len
  | .unk => True
  | .tok r => ∃ b m s es, μ r = some (.tok b m s es) ∧ (len < cap' → n ≤ m ∧ a = ⟨b, m - n, none⟩ ∧ m + (cap' - len) * es ≤ s)

mutual
inductive VRel (ι : Imm) (μ : Mu) : AVal → Value → Prop
  | top (v : Value) : VRel ι μ .top v
  | bool (b : Bool) : VRel ι μ (.bool b) (.bool b)
  | int (k : IntKind) (n : Int) : VRel ι μ (.int k n) (.int k n)
  | str (s : List UInt8) : VRel ι μ (.str s) (.string ⟨s.toArray⟩)
  | nilPtr : VRel ι μ .nilPtr (.pointer none)
  | nilSl : VRel ι μ .nilSl (.slice none 0 0)
  | nilMap : VRel ι μ .nilMap (.map none)
  | nilI : VRel ι μ .nilI .nilIface
  | nilFn : VRel ι μ .nilFn .nilFunc
  | ptr {id off b o s : Nat} (h : μ id = some (.arr b o s)) : VRel ι μ (.ptr id off) (.pointer (some ⟨b, o + off, none⟩))
  | iptr {cells : List AVal} {vs : List Value} {b o : Nat} (hc : VsRel ι μ cells vs) (hi : ICells ι b o vs) : VRel ι μ (.iptr cells) (.pointer (some ⟨b, o, none⟩))
  | sl {id off es len cap cap' b o s : Nat} {op : Bool} {a : Addr} (h : μ id = some (.arr b o s)) (hn : len ≤ cap) (hcap : cap ≤ cap') (hop : op = false → cap' = cap)
      (ha : 0 < cap' → a = ⟨b, o + off, none⟩ ∧ o + off + cap' * es ≤ s) : VRel ι μ (.sl id off es len cap op) (.slice (some a) len cap')
  | lst {cells : List AVal} {vs : List Value} {len cap' : Nat} {cap : Cap} {a : Addr} (hc : VsRel ι μ cells vs) (hi : ICells ι a.block a.off vs) (hs : 0 < len → a.spot = none) (hn : len ≤ cap')
      (hcap : CapRel μ cap a len cells.length cap') : VRel ι μ (.lst cells len cap) (.slice (some a) len cap')
  | map {id b : Nat} (h : μ id = some (.map b)) : VRel ι μ (.map id) (.map (some b))
  | fn {f : Fn} {first cap : List AVal} {first' cap' : Array Value} (h1 : VsRel ι μ first first'.toList) (h2 : VsRel ι μ cap cap'.toList) : VRel ι μ (.fn f first cap) (.func f first' cap')
  | iface {t : TypeId} {v : AVal} {v' : Value} (h : VRel ι μ v v') : VRel ι μ (.iface t v) (.iface t v')
  | agg {cells : List AVal} {cs : Array Value} (h : VsRel ι μ cells cs.toList) : VRel ι μ (.agg cells) (.agg cs)
  | tup {cells : List AVal} {cs : Array Value} (h : VsRel ι μ cells cs.toList) : VRel ι μ (.tup cells) (.tuple cs)
inductive VsRel (ι : Imm) (μ : Mu) : List AVal → List Value → Prop
  | nil : VsRel ι μ [] []
  | cons {v : AVal} {v' : Value} {vs : List AVal} {vs' : List Value} (h : VRel ι μ v v') (hs : VsRel ι μ vs vs') : VsRel ι μ (v :: vs) (v' :: vs')
end

/-! ### lists -/
section
variable {ι : Imm} {μ : Mu}
theorem VsRel.length {xs : List AVal} {ys : List Value} (h : VsRel ι μ xs ys) : xs.length = ys.length := by
  induction xs generalizing ys with
  | nil => cases h; rfl
  | cons x xs ih => cases h with | cons _ hs => simp [ih hs]
theorem VsRel.get {xs : List AVal} {ys : List Value} (h : VsRel ι μ xs ys) {j : Nat} {x : AVal} (hx : xs[j]? = some x) : ∃ y, ys[j]? = some y ∧ VRel ι μ x y := by
  induction xs generalizing ys j with
  | nil => simp at hx
  | cons a xs ih =>
    cases h with
    | cons h1 hs =>
      cases j with
      | zero => simp at hx; subst hx; exact ⟨_, rfl, h1⟩
      | succ j => simpa using ih hs (by simpa using hx)
theorem VsRel.get' {xs : List AVal} {ys : List Value} (h : VsRel ι μ xs ys) {j : Nat} {y : Value} (hy : ys[j]? = some y) : ∃ x, xs[j]? = some x ∧ VRel ι μ x y := by
  induction xs generalizing ys j with
  | nil => cases h; simp at hy
  | cons a xs ih =>
    cases h with
    | cons h1 hs =>
      cases j with
      | zero => simp at hy; subst hy; exact ⟨_, rfl, h1⟩
      | succ j => simpa using ih hs (by simpa using hy)
theorem VsRel.append {xs xs' : List AVal} {ys ys' : List Value} (h : VsRel ι μ xs ys) (h' : VsRel ι μ xs' ys') : VsRel ι μ (xs ++ xs') (ys ++ ys') := by
  induction xs generalizing ys with
  | nil => cases h; exact h'
  | cons a xs ih => cases h with | cons h1 hs => exact .cons h1 (ih hs)
theorem VsRel.drop {xs : List AVal} {ys : List Value} (h : VsRel ι μ xs ys) (n : Nat) : VsRel ι μ (xs.drop n) (ys.drop n) := by
  induction n generalizing xs ys with
  | zero => simpa using h
  | succ n ih => cases h with
    | nil => simp; exact .nil
    | cons _ hs => simpa using ih hs
theorem VsRel.take {xs : List AVal} {ys : List Value} (h : VsRel ι μ xs ys) (n : Nat) : VsRel ι μ (xs.take n) (ys.take n) := by
  induction n generalizing xs ys with
  | zero => simp; exact .nil
  | succ n ih => cases h with
    | nil => simp; exact .nil
    | cons h1 hs => simpa using VsRel.cons h1 (ih hs)
theorem VsRel.set {xs : List AVal} {ys : List Value} (h : VsRel ι μ xs ys) (n : Nat) {x : AVal} {y : Value} (hx : VRel ι μ x y) : VsRel ι μ (xs.set n x) (ys.set n y) := by
  induction n generalizing xs ys with
  | zero => cases h with
    | nil => exact .nil
    | cons _ hs => exact .cons hx hs
  | succ n ih => cases h with
    | nil => exact .nil
    | cons h1 hs => exact .cons h1 (ih hs)
theorem VsRel.replicate_top (n : Nat) (ys : List Value) (h : ys.length = n) : VsRel ι μ (List.replicate n .top) ys := by
  induction n generalizing ys with
  | zero => cases ys with
    | nil => exact .nil
    | cons _ _ => simp at h
  | succ n ih => cases ys with
    | nil => simp at h
    | cons y ys => exact .cons (.top _) (ih ys (by simpa using h))
theorem VsRel.map_of {α : Type} {f : α → AVal} {g : α → Value} (l : List α) (h : ∀ x ∈ l, VRel ι μ (f x) (g x)) : VsRel ι μ (l.map f) (l.map g) := by
  induction l with
  | nil => exact .nil
  | cons x l ih => exact .cons (h x (by simp)) (ih fun y hy => h y (by simp [hy]))
theorem ICells.drop {b o : Nat} {vs : List Value} (h : ICells ι b o vs) (n : Nat) : ICells ι b (o + n) (vs.drop n) := by
  intro j v hv
  have := h (n + j) v (by simpa using hv)
  rw [Nat.add_assoc]; exact this
theorem ICells.take {b o : Nat} {vs : List Value} (h : ICells ι b o vs) (n : Nat) : ICells ι b o (vs.take n) := by
  intro j v hv
  rw [List.getElem?_take] at hv
  split at hv
  · exact h j v hv
  · simp at hv
end

/-! ### what is known stays known -/
structure Le (ι ι' : Imm) (μ μ' : Mu) : Prop where
  imm : ∀ b o v, ι b o = some v → ι' b o = some v
  mu : ∀ id e, μ id = some e → μ' id = some e
theorem Le.refl (ι : Imm) (μ : Mu) : Le ι ι μ μ := ⟨fun _ _ _ h => h, fun _ _ h => h⟩
theorem Le.trans {ι ι' ι'' : Imm} {μ μ' μ'' : Mu} (h : Le ι ι' μ μ') (h' : Le ι' ι'' μ' μ'') : Le ι ι'' μ μ'' :=
  ⟨fun b o v hv => h'.imm b o v (h.imm b o v hv), fun id e he => h'.mu id e (h.mu id e he)⟩
theorem ICells.mono {ι ι' : Imm} {μ μ' : Mu} (l : Le ι ι' μ μ') {b o : Nat} {vs : List Value} (h : ICells ι b o vs) : ICells ι' b o vs := fun j v hv => l.imm _ _ _ (h j v hv)
theorem CapRel.mono {ι ι' : Imm} {μ μ' : Mu} (l : Le ι ι' μ μ') {cap : Cap} {a : Addr} {n m c : Nat} (h : CapRel μ cap a n m c) : CapRel μ' cap a n m c := by
  cases cap with
  | full => exact h
  | unk => trivial
  | tok r => obtain ⟨b, m', s, es, h1, h2⟩ := h; exact ⟨b, m', s, es, l.mu _ _ h1, h2⟩
mutual
theorem VRel.mono {ι ι' : Imm} {μ μ' : Mu} (l : Le ι ι' μ μ') {v : AVal} {v' : Value} (h : VRel ι μ v v') : VRel ι' μ' v v' := by
  cases h with
  | top => exact .top _
  | bool => exact .bool _
  | int => exact .int _ _
  | str => exact .str _
  | nilPtr => exact .nilPtr
  | nilSl => exact .nilSl
  | nilMap => exact .nilMap
  | nilI => exact .nilI
  | nilFn => exact .nilFn
  | ptr h => exact .ptr (l.mu _ _ h)
  | iptr hc hi => exact .iptr (VsRel.mono l hc) (hi.mono l)
  | sl h hn hcap hop ha => exact .sl (l.mu _ _ h) hn hcap hop ha
  | lst hc hi hs hn hcap => exact .lst (VsRel.mono l hc) (hi.mono l) hs hn (hcap.mono l)
  | map h => exact .map (l.mu _ _ h)
  | fn h1 h2 => exact .fn (VsRel.mono l h1) (VsRel.mono l h2)
  | iface h => exact .iface (VRel.mono l h)
  | agg h => exact .agg (VsRel.mono l h)
  | tup h => exact .tup (VsRel.mono l h)
theorem VsRel.mono {ι ι' : Imm} {μ μ' : Mu} (l : Le ι ι' μ μ') {v : List AVal} {v' : List Value} (h : VsRel ι μ v v') : VsRel ι' μ' v v' := by
  cases h with
  | nil => exact .nil
  | cons h hs => exact .cons (VRel.mono l h) (VsRel.mono l hs)
end

/-! ### constants and cells -/
section
variable {ι : Imm} {μ : Mu}
theorem ofCell_rel (v : Value) : VRel ι μ (ofCell v) v := by
  unfold ofCell
  split <;> first | exact .top _ | constructor | skip
  · rename_i f first cap
    split
    · rename_i h
      have h1 : first = #[] := Array.eq_empty_of_size_eq_zero h.1
      have h2 : cap = #[] := Array.eq_empty_of_size_eq_zero h.2
      subst h1; subst h2
      exact .fn .nil .nil
    · exact .top _
theorem ofV_rel (v : Value) : VRel ι μ (ofV v) v := by
  unfold ofV
  split
  · rename_i cs
    have h := VsRel.map_of (ι := ι) (μ := μ) (f := ofCell) (g := id) cs.toList fun x _ => ofCell_rel x
    rw [List.map_id] at h
    exact .agg h
  · exact ofCell_rel v

theorem VRel.isCell {v : AVal} {v' : Value} (h : VRel ι μ v v') (hc : v.isCell = true) : (∀ cs, v' ≠ .agg cs) ∧ (∀ cs, v' ≠ .tuple cs) ∧ v.cells = [v] ∧ v'.cells = #[v'] := by
  cases h <;> first | (simp [AVal.isCell] at hc; done) | (refine ⟨?_, ?_, rfl, rfl⟩ <;> intro cs hcs <;> cases hcs)
/-- A value's cells. -/
theorem VRel.cells {v : AVal} {v' : Value} (h : VRel ι μ v v') (hb : v.boxable = true) : VsRel ι μ v.cells v'.cells.toList := by
  cases h with
  | agg h => exact h
  | top => simp [AVal.boxable, AVal.isCell] at hb
  | tup => simp [AVal.boxable, AVal.isCell] at hb
  | _ => exact .cons (by first | assumption | (constructor <;> assumption) | constructor) .nil
end

end Go.Am
