/-
  CUBE: A SET WITH MORE DIMENSIONS MAY HAVE AS MANY GROUPS AT LEAST: the row of CubeGrows.
-/
import Derived.Test.YtgjdlakemaabfaaCubeGrows
import Derived.Test.YtgjdlakemaabfaaRows
import Derived.ProofKit
import Derived.OpenShut
import Derived.ShutString
import Derived.JoinedCond
import Derived.WalkKit
import Derived.Below
import Derived.ChangeOld
set_option linter.unusedSimpArgs false
set_option linter.unusedVariables false
namespace Go.Proofs.Ytgjdlakemaabfaa.cubeGrows
open Go.ChangeShapes Go.WideShapes Go.ChangeAt Go.RowKit Go.Am

theorem own : ownKnob Try.prog.godebug = none := by kernel_rfl
theorem laidOut : laidOutB Try.prog = true := by kernel_rfl

theorem cont_int3 {n : Nat} {xs : List AVal} (h : Cont Try.prog n 3 xs) : ∃ i, xs = [.int .i64 i] := by
  cases n with
  | zero => exact h.elim
  | succ n => simp only [Cont, Try.underlying3] at h; obtain ⟨s, h, _⟩ := h; exact ⟨s, h⟩
theorem cells3 : Try.prog.cellsOf 3 = 1 := by kernel_rfl
theorem list_of {α β : Type} {f : α → β} : ∀ (css : List β), (∀ c ∈ css, ∃ a, c = f a) → ∃ xs : List α, css = xs.map f := by
  intro css
  induction css with
  | nil => intro _; exact ⟨[], rfl⟩
  | cons c css ih =>
    intro h
    obtain ⟨a, rfl⟩ := h c List.mem_cons_self
    obtain ⟨xs, rfl⟩ := ih fun x hx => h x (List.mem_cons_of_mem _ hx)
    exact ⟨a :: xs, rfl⟩
theorem flat1 {α : Type} (f : α → AVal) (l : List α) : (l.map fun s => [f s]).flatten = l.map f := by
  induction l with
  | nil => rfl
  | cons s ss ih => simp only [List.map_cons, List.flatten_cons, List.cons_append, List.nil_append, ih]
theorem cont_counts {n : Nat} {xs : List AVal} (h : Cont Try.prog n 24 xs) (hp : AHeap) : ∃ (len : Nat) (v : AVal), xs = [v] ∧ Cube.Counts hp v len := by
  cases n with
  | zero => exact h.elim
  | succ n =>
    simp only [Cont, Try.underlying24] at h
    rcases h with rfl | ⟨h0, _⟩ | ⟨css, cap, rfl, hcap, _, hc⟩
    · exact ⟨0, .nilSl, rfl, fun h2 => by kernel_rfl, fun i hi => absurd hi (by omega)⟩
    · rw [cells3] at h0; cases h0
    · obtain ⟨ss, rfl⟩ := list_of (f := fun s => [AVal.int .i64 s]) css fun c hcm => cont_int3 (hc c hcm).1
      refine ⟨ss.length, _, rfl, fun h2 => ?_, fun i hi => ?_⟩
      · rw [List.length_map]; exact Cube.Ty.le24 _ _ _ _
      · rw [flat1 (fun s => AVal.int .i64 s) ss, List.length_map]
        exact ⟨_, ss[i], Cube.ix_lst hi, fun h2 => by rw [Cube.ld_iptr]; simp⟩

theorem contract (H : Type) (enc : TypeId × Value → H) (W : World) (base : Nat) (args : Array Value) (ds gs : List (DataW H)) (before : List MemPlace)
    (hval : ∀ (j : Nat) t v, Try.f5.params[j]? = some t → args[j]? = some v → Value.okWide Try.prog W .any base t v)
    (hW : DataW.Whole enc Try.prog Try.f5.params.toList Rows.cubeGrowsSpec.vars false W args.toList ds gs before) :
    Calls Try.prog 5 args W fun e W' => ∃ v, e = .returned v ∧ Rows.cubeGrowsSpec.post enc Try.prog Try.f5 false true false false W args v W' := by
  have hW' := hW
  obtain ⟨p, q, hA0, hV, rfl, hfz, hnd⟩ := hW
  have hA : DataW.TrodAll enc Try.prog W 0 (fun _ => true) true Try.f5.params.toList args.toList ds p := hA0
  rw [Try.params5] at hA hval
  obtain ⟨v0, vs0, d0, ds0, p0, q0, hargs, rfl, rfl, h0, r0⟩ := trodAll_cons hA
  obtain ⟨v1, vs1, d1, ds1, p1, q1, rfl, rfl, rfl, h1, r1⟩ := trodAll_cons r0
  obtain ⟨v2, vs2, d2, ds2, p2, q2, rfl, rfl, rfl, h2, r2⟩ := trodAll_cons r1
  obtain ⟨rfl, rfl, rfl⟩ := trodAll_nil r2
  obtain rfl : args = #[v0, v1, v2] := by cases args; simp_all
  obtain ⟨rfl, rfl⟩ := trodVars_none hV
  have k0 := h0
  have k1 := h1
  have k2 := h2
  have lt0 : ∀ x ∈ p0, x.block < W.heap.size := by obtain ⟨m, hm⟩ := k0; exact DataW.trod_lt m _ _ _ hm
  have lt1 : ∀ x ∈ p1, x.block < W.heap.size := by obtain ⟨m, hm⟩ := k1; exact DataW.trod_lt m _ _ _ hm
  have lt2 : ∀ x ∈ p2, x.block < W.heap.size := by obtain ⟨m, hm⟩ := k2; exact DataW.trod_lt m _ _ _ hm
  obtain ⟨a, rfl, rfl, rfl, wa⟩ := open_int Try.underlying3 (hval 0 3 v0 rfl rfl) h0
  obtain ⟨b, rfl, rfl, rfl, wb⟩ := open_int Try.underlying3 (hval 1 3 v1 rfl rfl) h1
  obtain ⟨m2, cv, hr2, hc2, _⟩ := arg_one Try.underlying24 rfl (hval 2 24 v2 rfl rfl) h2
  obtain ⟨len, cv', hce, hcn⟩ := cont_counts hc2 AHeap.empty
  cases hce
  obtain ⟨h', hrun⟩ := Cube.grows_run AHeap.empty a b cv len hcn
  obtain ⟨n, hn⟩ := of_run hrun
  have hrel : VsRel (allCells W) (fun _ => none) [.int .i64 a, .int .i64 b, cv] (#[.int .i64 a, .int .i64 b, v2] : Array Value).toList :=
    .cons (.int _ _) (.cons (.int _ _) (.cons hr2 .nil))
  clear hA0
  simp only [List.append_nil] at hW'
  refine (law_calls (C := Cube.Cf) Cube.names Cube.mixed Cube.summOk Try.func5 (body := bodyOf Try.f5) rfl rfl rfl (fun gi cells hg => by cases hg) hrel hn).mono fun e W' ⟨he, bel⟩ => ?_
  subst he
  exact ⟨_, rfl, _, _, _, [], _, [], hW', trodAll_mk1 (shut_bool Try.underlying4 _), (trodAll_cons_mk (Below.trod laidOut (by kernel_rfl) (of_decide_eq_true (by kernel_rfl)) k0 bel lt0) (trodAll_cons_mk (Below.trod laidOut (by kernel_rfl) (of_decide_eq_true (by kernel_rfl)) k1 bel lt1) (trodAll_cons_mk (Below.trod laidOut (by kernel_rfl) (of_decide_eq_true (by kernel_rfl)) k2 bel lt2) trodAll_mk0))), rfl, bel.frame _, fun h => by cases h⟩

set_option maxRecDepth 100000 in
theorem lifted (os : Os) (started : os.Started) (H : Type) (enc : TypeId × Value → H) :
    ReturnsInHanded {} Try.checked os 5 .any (Rows.cubeGrowsSpec.pre6 enc Try.prog Try.f5 Rows.cubeGrowsRow.domain false) (Rows.cubeGrowsSpec.post enc Try.prog Try.f5 false true false false) := by
  refine returnsInHanded_of_change (C := Try.checked) own started (by kernel_rfl) Try.func5
    (ChangeSpec.witness6 (enc := enc) (C := Try.checked) false ⟨#[], #[.int .i64 0, .int .i64 0, .slice none 0 0], []⟩ 8 (by kernel_rfl) (by kernel_rfl) (by kernel_rfl) (by kernel_rfl)) ?_
  intro W base args ds gs before hval hW _ _
  exact contract H enc W base args ds gs before hval hW

/-- A SET WITH MORE DIMENSIONS MAY HAVE AS MANY GROUPS AT LEAST. -/
theorem proved : Rows.CubeGrowsSaid :=
  OpenClaim.holds_of_wide 5 Try.f5 rfl rfl rfl rfl rfl rfl rfl ⟨rfl, rfl, rfl, rfl, rfl⟩ rfl rfl rfl rfl rfl (by kernel_rfl) Try.func5 (by kernel_rfl)
    (of_decide_eq_true (by kernel_rfl)) (by unfold Func.isWrapper; first | (rw [if_pos (by decide +kernel)]; kernel_rfl) | (rw [if_neg (by decide +kernel)]; exact ⟨rfl, rfl⟩))
    (fun os started H enc _ => lifted os started H enc)
#print axioms proved
end Go.Proofs.Ytgjdlakemaabfaa.cubeGrows
