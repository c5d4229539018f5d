/-
  CUBE: the library's sort of what Children has collected.
-/
import Derived.Test.YtgjdlakemaabfaaCubeSortRuns
set_option linter.unusedVariables false
set_option linter.unusedSimpArgs false
set_option maxRecDepth 100000
namespace Go.Proofs.Cube
open Go.RowKit Go.Am

theorem run0 : sortedIs (turnedL 0 0) = some (.ret (.tup []), some (.arr ((turnedL 0 0).reverse.map (AVal.int .i64)))) := by kernel_rfl
theorem sorted_all {s : Nat} (h : s < 64) : sortedIs (turnedL s s) = some (.ret (.tup []), some (.arr ((turnedL s s).reverse.map (AVal.int .i64)))) := by
  rcases Nat.eq_zero_or_pos s with rfl | h0
  · exact run0
  · exact sorted_at h0 h
theorem sorted_nil : (arun C0 40 32 [.nilSl] AHeap.empty).map (fun r => r.1) = some (.ret (.tup [])) := by kernel_rfl

theorem ints_rel {ι : Imm} {μ : Mu} (xs : List Int) : VsRel ι μ (xs.map (AVal.int .i64)) (xs.map (Value.int .i64)) := by
  induction xs with
  | nil => exact .nil
  | cons x xs ih => exact .cons (.int _ _) ih
theorem ints_of {ι : Imm} {μ : Mu} : ∀ {xs : List Int} {vs : List Value}, VsRel ι μ (xs.map (AVal.int .i64)) vs → vs = xs.map (Value.int .i64)
  | [], _, h => by cases h; rfl
  | x :: xs, _, h => by
    cases h with | cons h hs =>
    cases h
    rw [ints_of hs]; rfl

/-- A slice in blocks from n₀ on, whose elements are xs. -/
def RowAt (W : World) (n₀ : Nat) (v : Value) (xs : List Int) : Prop :=
  (v = .slice none 0 0 ∧ xs = []) ∨ xs ≠ [] ∧ ∃ g cap, v = .slice (some ⟨g, 0, none⟩) xs.length cap ∧ n₀ ≤ g ∧ xs.length ≤ cap ∧ ∀ (j : Nat) (x : Int), xs[j]? = some x → W.cell? ⟨g, j, none⟩ = some (.int .i64 x)
theorem RowAt.of_owns {W : World} {n₀ : Nat} {v : Value} {xs : List Int} (h : W.ownsRow n₀ 3 1 v xs.length (xs.map (Value.int .i64))) (hnil : xs = [] → v = .slice none 0 0) : RowAt W n₀ v xs := by
  rcases h.2 with ⟨rfl, h0⟩ | ⟨g, cap, cur, rfl, h1, h2, h3, h4, h5, h6⟩
  · exact .inl ⟨rfl, List.eq_nil_of_length_eq_zero h0⟩
  · refine .inr ⟨fun e => (by have := hnil e; cases this), g, cap, rfl, h1, h3, fun j x hj => ?_⟩
    have hl : j < xs.length := (List.getElem?_eq_some_iff.1 hj).1
    have : (cur.toList.take (xs.length * 1))[j]? = some (.int .i64 x) := by rw [h6]; simp [hj]
    rw [List.getElem?_take_of_lt (by omega)] at this
    simp only [World.cell?, h2]
    simpa using this

theorem call_calls {C : Cfg} (hn : namesOk C.P = true) (hmix : C.P.follows .mixedOrders = true) (hS : SummOk C) {f : FuncId} {fn : Func} {body : Code} (hf : C.P.funcs[f]? = some fn) (hb : fn.body = some body) (hs : C.summ f = none) (hfoc : C.foc f = false)
    {h h' : AHeap} {r : ARes} {B : Nat} {g : G} {args : Array Value} {xs : List AVal} (I : Inv B h g) (hG : GlobOk C g.ι) (ha : VsRel g.ι g.μ xs args.toList) {n : Nat} (hr : arun C (n + 1) f xs h = some (r, h')) :
    Calls C.P f args g.w (ResOk B h g h' r) := by
  simp only [arun, hs, hf, hb, hfoc, Bool.false_eq_true, if_false] at hr
  exact bodyX_sound (fun f fn hf => (namesOk_get hn hf).1) (all_sound hn hmix hS n) (draw_sound (all_sound hn hmix hS n) (run_pure n) hmix) hf hb hr I hG ha

/-- The library's sort of what was collected. -/
theorem sort_calls {s : Nat} (hs : s < 64) {W : World} {n₀ : Nat} {v : Value} (hn : n₀ ≤ W.heap.size) (h : W.ownsRow n₀ 3 1 v (turnedL s s).length ((turnedL s s).map (Value.int .i64))) (hnil : turnedL s s = [] → v = .slice none 0 0) :
    Calls Try.prog 32 #[v] W fun e W' => e = .returned (.tuple #[]) ∧ RowAt W' n₀ v (turnedL s s).reverse ∧ Below n₀ W W' ∧ ∀ b, b < W.heap.size → some b ≠ v.ownBlock → W'.heap[b]? = W.heap[b]? := by
  rcases h.2 with ⟨rfl, h0⟩ | ⟨g, cap, cur, rfl, h1, h2, h3, h4, h5, h6⟩
  · have hnil2 : turnedL s s = [] := List.eq_nil_of_length_eq_zero h0
    have hr := sorted_nil
    rw [Option.map_eq_some_iff] at hr
    obtain ⟨⟨r, h'⟩, hr, hr1⟩ := hr
    obtain rfl : r = .ret (.tup []) := hr1
    refine (call_calls (C := C0) names mixed summ0 (f := 32) (fn := Try.f32) rfl rfl rfl rfl (start_inv W) (fun gi cells hg => by cases hg) (args := #[.slice none 0 0]) (.cons .nilSl .nil) hr).mono fun e W' hres => ?_
    obtain ⟨ι', μ', I, E, v', rfl, hv⟩ := hres
    cases hv with | tup hc =>
    rename_i cs
    have : cs = #[] := by cases cs with | mk l => cases hc; rfl
    subst this
    exact ⟨rfl, .inl ⟨rfl, by rw [hnil2]; rfl⟩, E.below.mono hn, fun b hb _ => E.below.block b hb⟩
  · have hr := sorted_all hs
    unfold sortedIs at hr
    rw [Option.map_eq_some_iff] at hr
    obtain ⟨⟨r, h'⟩, hr, hr1⟩ := hr
    simp only [Prod.mk.injEq] at hr1
    obtain ⟨rfl, hget⟩ := hr1
    have hgl := lt_of_heap h2
    have I0 : Inv n₀ (heap1 (turnedL s s)) ⟨W, fun _ _ => none, fun id => if id = 0 then some (.arr g 0 cur.size) else none⟩ := by
      refine ⟨fun id hid => ?_, hn, fun b o v h => (by cases h), fun id x hx => ?_, fun i j x y b hi hj _ _ => ?_⟩
      · have : id ≠ 0 := by have : 1 ≤ id := hid; omega
        simp [heap1, this]
      · simp only [heap1] at hx
        split at hx
        case isFalse => cases hx
        rename_i hid
        cases hx
        subst hid
        refine ⟨g, 0, cur, 3, _, rfl, h1, h2, ints_rel _, fun j v hj => ?_, fun j => rfl, by simp; omega⟩
        have hl : j < (turnedL s s).length := by simpa using (List.getElem?_eq_some_iff.1 hj).1
        have : (cur.toList.take ((turnedL s s).length * 1))[j]? = some v := by rw [h6]; exact hj
        rw [List.getElem?_take_of_lt (by omega)] at this
        simpa using this
      · simp only [heap1] at hi hj
        split at hi <;> split at hj <;> first | omega | (cases hi; done) | (cases hj; done)
    refine (call_calls (C := C0) names mixed summ0 (f := 32) (fn := Try.f32) rfl rfl rfl rfl I0 (fun gi cells hg => by cases hg) (args := #[.slice (some ⟨g, 0, none⟩) (turnedL s s).length cap]) (.cons (.sl rfl (Nat.le_refl _) h3 (fun e => (by cases e)) (fun _ => ⟨rfl, by omega⟩)) .nil) hr).mono fun e W' hres => ?_
    obtain ⟨ι', μ', I, E, v', rfl, hv⟩ := hres
    cases hv with | tup hc =>
    rename_i cs
    have : cs = #[] := by cases cs with | mk l => cases hc; rfl
    subst this
    have hμ : μ' 0 = some (.arr g 0 cur.size) := E.old 0 (by simp [heap1])
    obtain ⟨b, o, cs, e, vs, hm, hb, hh, hvs, hat, _, _⟩ := I.blk 0 _ hget
    have hm2 : some (Ent.arr g 0 cur.size) = some (.arr b o cs.size) := hμ.symm.trans hm
    simp only [Option.some.injEq, Ent.arr.injEq] at hm2
    obtain ⟨rfl, rfl, -⟩ := hm2
    have hown : ∀ k, Owns (heap1 (turnedL s s)) ⟨W, fun _ _ => none, fun id => if id = 0 then some (.arr g 0 cur.size) else none⟩ k → k = g := by
      rintro k ⟨id, x, hx, hk⟩
      simp only [blkOf] at hk
      split at hk
      · simpa [Ent.block] using hk.symm
      · cases hk
    refine ⟨rfl, .inr ⟨fun e => (by have := hnil (List.reverse_eq_nil_iff.1 e); cases this), g, cap, by rw [List.length_reverse], h1, by rw [List.length_reverse]; exact h3, fun j x hj => ?_⟩, ⟨E.os, E.tape, E.output, E.size, fun k hk => E.fr k (by simp; omega) (fun ho => by have := hown k ho; omega)⟩, fun k hk hne => E.fr k hk (fun ho => hne (by rw [hown k ho]; rfl))⟩
    rw [ints_of hvs] at hat
    have := hat j (.int .i64 x) (by rw [List.getElem?_map, hj]; rfl)
    simp only [World.cell?]
    rw [show W'.heap[g]? = _ from hh]
    simpa using this
end Go.Proofs.Cube
