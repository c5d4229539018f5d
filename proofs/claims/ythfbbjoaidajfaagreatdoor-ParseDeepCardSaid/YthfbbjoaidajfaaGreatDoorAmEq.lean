import Derived.Test.YthfbbjoaidajfaaGreatDoorAmTyped
import Derived.Test.YthfbbjoaidajfaaGreatDoorAmEnds
set_option linter.unusedVariables false
set_option linter.unusedSimpArgs false
set_option maxRecDepth 100000
set_option linter.unusedVariables false
set_option linter.unusedSimpArgs false
namespace Go.Am
open Go
theorem runPure_bind {α β : Type} {P : Program} (s : Sem α) (f : α → Sem β) : ∀ {a : α}, runPure P s = some a → runPure P (s >>= f) = runPure P (f a) := by
  induction s with
  | pure a => intro b h; simp only [runPure, Option.some.injEq] at h; subst h; rfl
  | program k ih => intro b h; exact ih P (by simpa [runPure] using h)
  | _ => intro b h; simp [runPure] at h
inductive All2 {α β : Type} (R : α → β → Prop) : List α → List β → Prop
  | nil : All2 R [] []
  | cons {a b as bs} (h : R a b) (t : All2 R as bs) : All2 R (a :: as) (b :: bs)
theorem All2.imp {α β : Type} {R S : α → β → Prop} (H : ∀ a b, R a b → S a b) {xs : List α} {ys : List β} (h : All2 R xs ys) : All2 S xs ys := by
  induction h with
  | nil => exact .nil
  | cons h _ ih => exact .cons (H _ _ h) ih
theorem forIn_all {P : Program} {α : Type} (body : α → Option Bool × Unit → Sem (ForInStep (Option Bool × Unit))) : ∀ (es : List Bool) (fs : List α),
    All2 (fun f e => runPure P (body f (none, ())) = some (if e then .yield (none, ()) else .done (some false, ()))) fs es →
    runPure P (forIn fs (none, ()) body) = some (if es.all id then (none, ()) else (some false, ())) := by
  intro es fs h
  induction h with
  | nil => rfl
  | @cons f e fs es h1 _ ih =>
    rw [List.forIn_cons, runPure_bind _ _ h1]
    cases e
    · rfl
    · simpa using ih
def FldEq (P : Program) (d : Nat) (xs ys : Array Value) (f : Field) (e : Bool) : Prop :=
  f.name ≠ "_" ∧ ∃ a b, runPure P (part f.type xs f.offset) = some a ∧ runPure P (part f.type ys f.offset) = some b ∧ runPure P (Op.equalIn d f.type a b) = some e
theorem equalIn_struct {P : Program} {d : Nat} {t : TypeId} {fields : List Field} {xs ys : Array Value} {es : List Bool}
    (hu : runPure P (underlying t) = some (.struct fields.toArray)) (hs : P.stoodInHeld t = false)
    (hf : All2 (FldEq P d xs ys) fields es) :
    runPure P (Op.equalIn (d + 1) t (.agg xs) (.agg ys)) = some (es.all id) := by
  unfold Op.equalIn
  rw [runPure_bind _ _ hu]
  simp only []
  have hp : runPure P program = some P := rfl
  rw [runPure_bind _ _ hp, hs]
  simp only [Bool.false_eq_true, if_false]
  rw [← Array.forIn_toList]
  have h := forIn_all (P := P) (fun (f : Field) (__s : Option Bool × Unit) => if f.name ≠ "_" then do
              let a ← part f.type xs f.offset
              let b ← part f.type ys f.offset
              let e ← Op.equalIn d f.type a b
              if (!e) = true then pure (ForInStep.done (some false, ())) else pure (ForInStep.yield (none, ()))
            else pure (ForInStep.yield (none, ()))) es fields (hf.imp (by
    rintro f e ⟨hn, a, b, ha, hb, he⟩
    rw [if_pos hn, runPure_bind _ _ ha, runPure_bind _ _ hb, runPure_bind _ _ he]
    cases e <;> rfl))
  rw [runPure_bind _ _ h]
  cases es.all id <;> rfl
def fieldsOf (P : Program) (t : TypeId) : List Field := match P.underlying t with
  | some (.struct fs) => fs.toList
  | _ => []
def trip (f : Field) : String × TypeId × Nat := (f.name, f.type, f.offset)
def TripEq (P : Program) (d : Nat) (xs ys : Array Value) (f : String × TypeId × Nat) (e : Bool) : Prop :=
  f.1 ≠ "_" ∧ ∃ a b, runPure P (part f.2.1 xs f.2.2) = some a ∧ runPure P (part f.2.1 ys f.2.2) = some b ∧ runPure P (Op.equalIn d f.2.1 a b) = some e
theorem of_trip {P : Program} {d : Nat} {xs ys : Array Value} : ∀ {fs : List Field} {es : List Bool}, All2 (TripEq P d xs ys) (fs.map trip) es → All2 (FldEq P d xs ys) fs es := by
  intro fs
  induction fs with
  | nil => intro es h; cases h; exact .nil
  | cons f fs ih => intro es h; cases h with | cons h1 h2 => exact .cons h1 (ih h2)
theorem fld_nil {P : Program} {d : Nat} {xs ys : Array Value} : All2 (TripEq P d xs ys) [] [] := .nil
theorem fld_cons {P : Program} {d : Nat} {xs ys : Array Value} {n : String} {t : TypeId} {o : Nat} {fs : List (String × TypeId × Nat)} {e : Bool} {es : List Bool} (a b : Value)
    (hn : decide (n = "_") = false) (ha : runPure P (part t xs o) = some a) (hb : runPure P (part t ys o) = some b)
    (he : runPure P (Op.equalIn d t a b) = some e) (h : All2 (TripEq P d xs ys) fs es) : All2 (TripEq P d xs ys) ((n, t, o) :: fs) (e :: es) :=
  .cons ⟨by simpa using hn, a, b, ha, hb, he⟩ h
theorem abin_struct {C : Cfg} {t : TypeId} {xo yo : Operand} {h : AHeap} {fields : List (String × TypeId × Nat)} {us ws : List AVal} {xs ys : List Value} {es : List Bool}
    (hu : runPure C.P (underlying t) = some (.struct (fieldsOf C.P t).toArray)) (hm : (fieldsOf C.P t).map trip = fields) (hs : C.P.stoodInHeld t = false) (hg : C.P.eqGuardType C.P.depth t = false)
    (ha : flatVs us = some xs) (hb : flatVs ws = some ys) (hf : All2 (TripEq C.P 9999 xs.toArray ys.toArray) fields es) :
    abin C .eql t xo yo h (.agg us) (.agg ws) = some (.bool (es.all id)) ∧ abin C .neq t xo yo h (.agg us) (.agg ws) = some (.bool (!(es.all id))) := by
  have hq := equalIn_struct (xs := xs.toArray) (ys := ys.toArray) hu hs (of_trip (hm ▸ hf))
  have hp : runPure C.P program = some C.P := rfl
  constructor
  · simp only [abin, flatW, ha, hb, Option.bind_eq_bind, Option.bind_some]
    have e1 : runPure C.P (eqGuard .eql t xo yo (.agg xs.toArray) (.agg ys.toArray)) = some () := by
      unfold eqGuard
      simp only [Bool.not_true, Bool.false_eq_true, if_false]
      rw [runPure_bind _ _ hp, runPure_bind _ _ hp, hg]; rfl
    rw [runPure_bind _ _ e1]
    show (runPure C.P (do let e ← Op.equalIn (9999 + 1) t _ _; pure (Value.bool e))).bind _ = _
    rw [runPure_bind _ _ hq]; rfl
  · simp only [abin, flatW, ha, hb, Option.bind_eq_bind, Option.bind_some]
    have e1 : runPure C.P (eqGuard .neq t xo yo (.agg xs.toArray) (.agg ys.toArray)) = some () := by
      unfold eqGuard
      simp only [Bool.not_true, Bool.false_eq_true, if_false]
      rw [runPure_bind _ _ hp, runPure_bind _ _ hp, hg]; rfl
    rw [runPure_bind _ _ e1]
    show (runPure C.P (do let e ← Op.equalIn (9999 + 1) t _ _; pure (Value.bool (!e)))).bind _ = _
    rw [runPure_bind _ _ hq]; rfl
theorem aun_neg (C : Cfg) (k : IntKind) (a : Int) : aun C .neg (.int k a) = some (.int k (k.wrap (0 - a))) := rfl
def u8of (n : Int) : UInt8 := UInt8.ofNat n.toNat
theorem bytesOf_ints : ∀ xs : List Int, aconvert.bytesOf (xs.map fun n => AVal.int .u8 n) = some (xs.map u8of)
  | [] => rfl
  | x :: xs => by simp only [List.map_cons, aconvert.bytesOf, bytesOf_ints xs, Option.bind_eq_bind, Option.bind_some, u8of]
theorem Els.ints {xs : List Int} {css : List (List AVal)} (E : Els (rI .u8) xs css) : css.flatten = xs.map fun n => AVal.int .u8 n := by
  induction xs generalizing css with
  | nil => have := E.1; cases css with
    | nil => rfl
    | cons c css => simp at this
  | cons x xs ih =>
    cases css with
    | nil => have := E.1; simp at this
    | cons c css =>
      have h0 := E.2 0 x c rfl rfl
      have h0 : c = [.int .u8 x] := h0
      subst h0
      have h1 : Els (rI .u8) xs css := ⟨by simpa using E.1, fun i y d hy hd => E.2 (i + 1) y d (by simpa using hy) (by simpa using hd)⟩
      simp [ih h1]
theorem Sl.bytes {xs : List Int} {v : AVal} (h : Sl (rI .u8) xs v) {P : Program} {s d e : TypeId} (hs : P.underlying s = some (.slice e)) (he : P.underlying e = some (.int .u8)) (hd : P.underlying d = some .string) (hp : AHeap) :
    aconvert P hp s d v = some (.str (xs.map u8of), hp) := by
  rcases h with ⟨rfl, rfl⟩ | ⟨css, cap, rfl, E⟩
  · simp [aconvert, hs, hd, he, Am.lenA, srcCells, aconvert.bytesOf]
  · have e1 := E.ints
    have hl : css.flatten.length = css.length := by rw [e1, E.1]; simp
    simp only [aconvert, hs, hd, he, Am.lenA, srcCells, Option.bind_eq_bind, Option.bind_some, Nat.le_refl, Nat.mul_one, hl, and_self, if_true]
    rw [List.take_of_length_le (by omega), e1, bytesOf_ints]
    rfl
theorem aun_not (C : Cfg) (b : Bool) : aun C .not (.bool b) = some (.bool (!b)) := by cases b <;> rfl
mutual
theorem eqA_refl : ∀ a, eqA a a = true
  | .iptr x => by simp only [eqA, eqAs_refl x]
  | .lst x n c => by simp [eqA, eqAs_refl x]
  | .agg x => by simp only [eqA, eqAs_refl x]
  | .tup x => by simp only [eqA, eqAs_refl x]
  | .iface t x => by simp [eqA, eqA_refl x]
  | .fn f x y => by simp [eqA, eqAs_refl x, eqAs_refl y]
  | .top | .nilPtr | .nilSl | .nilMap | .nilI | .nilFn | .bool _ | .int _ _ | .str _ | .ptr _ _ | .map _ | .sl _ _ _ _ _ _ => by simp [eqA]
theorem eqAs_refl : ∀ a, eqAs a a = true
  | [] => rfl
  | x :: xs => by simp only [eqAs, eqA_refl x, eqAs_refl xs, Bool.and_self]
end
theorem same_arr {h h' : AHeap} {id : Nat} {cs : List AVal} (hg : h.get id = some (.arr cs)) (hs : h'.get id = some (.arr cs)) : sameBlk h h' id = true :=
  sameBlk_of hg (hs.trans hg.symm) (eqAs_refl cs)
end Go.Am

