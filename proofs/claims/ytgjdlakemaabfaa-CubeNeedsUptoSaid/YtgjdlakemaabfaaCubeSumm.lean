/-
  CUBE: Parents and Children as functions whose answers are known.
-/
import Derived.Test.YtgjdlakemaabfaaCubeChild
import Derived.Test.YtgjdlakemaabfaaCubeCmp
import Derived.Test.YtgjdlakemaabfaaAmLimit
set_option linter.unusedVariables false
set_option linter.unusedSimpArgs false
set_option maxRecDepth 100000
namespace Go.Proofs.Cube
open Go.RowKit Go.Am

def intsV (xs : List Int) : AVal := match xs with
  | [] => .nilSl
  | x :: xs => .lst ((x :: xs).map (AVal.int .i64)) (xs.length + 1) .unk
def sum11 : List AVal → Option AVal
  | [.int .i64 s, .int .i64 d] => some (intsV (parents s d))
  | _ => none
def sum13 : List AVal → Option AVal
  | [.int .i64 s] => some (intsV (children s))
  | _ => none
def summs (f : Nat) : Option (List AVal → Option AVal) := if f = 11 then some sum11 else if f = 13 then some sum13 else if f = 25 then some sum25 else none

theorem row_res {B : Nat} {h : AHeap} {g : G} (I : Am.Inv B h g) {W' : World} {v : Value} {xs : List Int} (hb : Below g.w.heap.size g.w W') (hr : RowAt W' g.w.heap.size v xs) : ResOk B h g h (.ret (intsV xs)) (.returned v) W' := by
  rcases hr with ⟨rfl, rfl⟩ | ⟨h0, b, cap, rfl, hg, hc, hat⟩
  · refine ⟨g.ι, g.μ, ⟨I.nx, Nat.le_trans I.base hb.size, fun b o v hv => (cell?_congr (hb.block b (lt_of_cell (I.imm b o v hv)))).trans (I.imm b o v hv), fun id x hx => (I.blk id x hx).keep (Le.refl _ _) (fun b hbk => hb.block b (I.lt_own ⟨id, x, hx, hbk⟩)) (fun _ _ _ h => h), I.inj⟩,
      ⟨hb.os, hb.tape, hb.output, hb.size, fun b hbl _ => hb.block b hbl, Le.refl _ _, fun _ _ _ _ => rfl, fun _ _ x => x, Nat.le_refl _, fun _ _ => rfl⟩, _, rfl, .nilSl⟩
  · have l : Le g.ι (fun c o => if c = b then (xs[o]?).map (Value.int .i64) else g.ι c o) g.μ g.μ := ⟨fun c o v hv => by
      have := lt_of_cell (I.imm c o v hv)
      show (if c = b then (xs[o]?).map (Value.int .i64) else g.ι c o) = some v
      rw [if_neg (by omega)]; exact hv, fun _ _ h => h⟩
    refine ⟨fun c o => if c = b then (xs[o]?).map (Value.int .i64) else g.ι c o, g.μ, ⟨I.nx, Nat.le_trans I.base hb.size, fun c o v hv => ?_, fun id x hx => (I.blk id x hx).keep l (fun b hbk => hb.block b (I.lt_own ⟨id, x, hx, hbk⟩)) (fun c o hbk hn => ?_), I.inj⟩,
      ⟨hb.os, hb.tape, hb.output, hb.size, fun b hbl _ => hb.block b hbl, l, fun c hc _ o => ?_, fun _ _ x => x, Nat.le_refl _, fun _ _ => rfl⟩, _, rfl, ?_⟩
    · simp only at hv
      split at hv
      · rename_i e
        subst e
        rw [Option.map_eq_some_iff] at hv
        obtain ⟨x, hx, rfl⟩ := hv
        exact hat o x hx
      · exact (cell?_congr (hb.block c (lt_of_cell (I.imm c o v hv)))).trans (I.imm c o v hv)
    · have := I.lt_own ⟨id, x, hx, hbk⟩
      show (if c = b then (xs[o]?).map (Value.int .i64) else g.ι c o) = none
      rw [if_neg (by omega)]; exact hn
    · show (if c = b then (xs[o]?).map (Value.int .i64) else g.ι c o) = g.ι c o
      rw [if_neg (by omega)]
    · cases xs with
      | nil => exact absurd rfl h0
      | cons x xs =>
        refine .lst (vs := (x :: xs).map (Value.int .i64)) (ints_rel _) (fun j v hj => ?_) (fun _ => rfl) hc trivial
        rw [List.getElem?_map] at hj
        show (if b = b then ((x :: xs)[0 + j]?).map (Value.int .i64) else g.ι b (0 + j)) = some v
        rw [if_pos rfl, Nat.zero_add]
        exact hj

theorem int_arg {ι : Imm} {μ : Mu} {k : IntKind} {x : Int} {v : Value} (h : VRel ι μ (.int k x) v) : v = .int k x := by cases h; rfl

theorem summ_ok {C : Cfg} (hP : C.P = Try.prog) (hs : C.summ = summs) : SummOk C := by
  intro f s hf args v hv B h g args' I hG ha
  rw [hs] at hf
  unfold summs at hf
  rw [hP]
  split at hf
  · rename_i e
    subst e
    cases hf
    unfold sum11 at hv
    split at hv
    case h_2 => cases hv
    cases hv
    obtain ⟨l⟩ := args'
    cases ha with | cons h1 ha =>
    cases ha with | cons h2 ha =>
    cases ha
    obtain rfl := int_arg h1
    obtain rfl := int_arg h2
    refine ⟨run_enter (C := C0) (fun f fn hf => (namesOk_get names hf).1) (show Try.prog.funcs[11]? = some Try.f11 from rfl) rfl _ g.w, ?_⟩
    refine (callsIn_wide.1 (Parents_in 3 (Nat.le_refl _) _ _ g.w)).mono ?_
    rintro e W' ⟨v, rfl, h1, h2, h3⟩
    exact row_res I h3 (RowAt.of_owns h1 h2)
  · split at hf
    · rename_i e
      subst e
      cases hf
      unfold sum13 at hv
      split at hv
      case h_2 => cases hv
      cases hv
      obtain ⟨l⟩ := args'
      cases ha with | cons h1 ha =>
      cases ha
      obtain rfl := int_arg h1
      refine ⟨run_enter (C := C0) (fun f fn hf => (namesOk_get names hf).1) (show Try.prog.funcs[13]? = some Try.f13 from rfl) rfl _ g.w, ?_⟩
      refine (callsIn_wide.1 (Children_in 3 (Nat.le_refl _) _ g.w)).mono ?_
      rintro e W' ⟨v, rfl, h1, h2⟩
      exact row_res I h2 h1
    · split at hf
      · rename_i e
        subst e
        cases hf
        unfold sum25 at hv
        split at hv
        case h_2 => cases hv
        split at hv
        case isFalse => cases hv
        rename_i a b hab
        cases hv
        obtain ⟨l⟩ := args'
        cases ha with | cons h1 ha =>
        cases ha with | cons h2 ha =>
        cases ha
        obtain rfl := int_arg h1
        obtain rfl := int_arg h2
        refine ⟨run_enter (C := C0) (fun f fn hf => (namesOk_get names hf).1) (show Try.prog.funcs[25]? = some Try.f25 from rfl) rfl _ g.w, ?_⟩
        have := calls25 (a := a.toNat) (b := b.toNat) (by omega) (by omega) I
        rw [Int.toNat_of_nonneg hab.1.1, Int.toNat_of_nonneg hab.2.1] at this
        exact this
      · cases hf

noncomputable def Cf : Cfg := { P := Try.prog, foc := fun f => [7, 8, 9, 10, 12, 14, 15, 16, 17, 29, 35, 54, 55, 70].contains f, summ := summs, glob := fun _ => none, own := fun p => ["cube.go:40", "cube.go:41"].contains p }
theorem summOk : SummOk Cf := summ_ok rfl rfl
end Go.Proofs.Cube
