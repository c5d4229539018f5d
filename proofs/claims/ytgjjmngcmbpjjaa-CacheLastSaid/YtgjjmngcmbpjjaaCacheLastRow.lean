/-
  CACHE: THE ENTRIES THAT WERE USED LAST STAY: the row of CacheLast.
-/
import Derived.Test.YtgjjmngcmbpjjaaCacheLastE
import Derived.Test.YtgjjmngcmbpjjaaCacheRow
import Derived.Test.YtgjjmngcmbpjjaaAmArgs
import Derived.WalkKit
import Derived.Below
import Derived.ChangeOld
set_option linter.unusedSimpArgs false
set_option linter.unusedVariables false
namespace Go.Proofs.Ytgjjmngcmbpjjaa.cacheLast
open Go.ChangeShapes Go.WideShapes Go.ChangeAt Go.RowKit Go.Am

theorem own : ownKnob Try.prog.godebug = none := by kernel_rfl
theorem laidOut : laidOutB Try.prog = true := by kernel_rfl
theorem mixed : Try.prog.follows .mixedOrders = true := by kernel_rfl
theorem names : namesOk Try.prog = true := by kernel_rfl

theorem cont_u8 {n : Nat} {xs : List AVal} (h : Cont Try.prog n 5 xs) : ∃ b : UInt8, xs = [Am.Cache.bc b] := by
  cases n with
  | zero => exact h.elim
  | succ n =>
    simp only [Cont, Try.underlying5] at h
    obtain ⟨i, rfl, hw⟩ := h
    have h2 := wf_u8 hw
    refine ⟨UInt8.ofNat i.toNat, ?_⟩
    simp only [Am.Cache.bc, UInt8.toNat_ofNat']
    congr 2
    omega
theorem cont_bool {n : Nat} {xs : List AVal} (h : Cont Try.prog n 4 xs) : ∃ b : Bool, xs = [.bool b] := by
  cases n with
  | zero => exact h.elim
  | succ n => simp only [Cont, Try.underlying4] at h; exact h
theorem flat1 {α : Type} (f : α → AVal) (l : List α) : (l.map fun s => [f s]).flatten = l.map f := by
  induction l with
  | nil => rfl
  | cons s ss ih => simp only [List.map_cons, List.flatten_cons, List.cons_append, List.nil_append, ih]
theorem cells5 : Try.prog.cellsOf 5 = 1 := by kernel_rfl
theorem cells4 : Try.prog.cellsOf 4 = 1 := by kernel_rfl
theorem cont_bytes {n : Nat} {xs : List AVal} (h : Cont Try.prog n 22 xs) : ∃ (l : List UInt8) (v : AVal), xs = [v] ∧ Am.Cache.IsSl (l.map Am.Cache.bc) l.length v := by
  cases n with
  | zero => exact h.elim
  | succ n =>
    simp only [Cont, Try.underlying22] at h
    rcases h with rfl | ⟨h0, _⟩ | ⟨css, cap, rfl, hcap, _, hc⟩
    · exact ⟨[], .nilSl, rfl, .inl ⟨rfl, rfl, rfl⟩⟩
    · rw [cells5] at h0; cases h0
    · obtain ⟨ss, rfl, _⟩ := Am.Cache.list_of (f := fun s => [Am.Cache.bc s]) (p := fun _ => True) css fun c hcm => by
        obtain ⟨a, ha⟩ := cont_u8 (hc c hcm).1
        exact ⟨a, ha, trivial⟩
      exact ⟨ss, _, rfl, .inr ⟨cap, by rw [flat1 Am.Cache.bc ss, List.length_map]⟩⟩
theorem cont_bools {n : Nat} {xs : List AVal} (h : Cont Try.prog n 23 xs) : ∃ (l : List Bool) (v : AVal), xs = [v] ∧ Am.Cache.IsSl (l.map AVal.bool) l.length v := by
  cases n with
  | zero => exact h.elim
  | succ n =>
    simp only [Cont, Try.underlying23] at h
    rcases h with rfl | ⟨h0, _⟩ | ⟨css, cap, rfl, hcap, _, hc⟩
    · exact ⟨[], .nilSl, rfl, .inl ⟨rfl, rfl, rfl⟩⟩
    · rw [cells4] at h0; cases h0
    · obtain ⟨ss, rfl, _⟩ := Am.Cache.list_of (f := fun s => [AVal.bool s]) (p := fun _ => True) css fun c hcm => by
        obtain ⟨a, ha⟩ := cont_bool (hc c hcm).1
        exact ⟨a, ha, trivial⟩
      exact ⟨ss, _, rfl, .inr ⟨cap, by rw [flat1 AVal.bool ss, List.length_map]⟩⟩

theorem contract (H : Type) (enc : TypeId × Value → H) (W : World) (base : Nat) (args : Array Value) (ds gs : List (DataW H)) (before : List MemPlace)
    (hval : ∀ (j : Nat) t v, Try.f3.params[j]? = some t → args[j]? = some v → Value.okWide Try.prog W .any base t v)
    (hW : DataW.Whole enc Try.prog Try.f3.params.toList Rows.cacheLastSpec.vars false W args.toList ds gs before) :
    Calls Try.prog 3 args W fun e W' => ∃ v, e = .returned v ∧ Rows.cacheLastSpec.post enc Try.prog Try.f3 false true false false W args v W' := by
  have hW' := hW
  obtain ⟨p, q, hA0, hV, rfl, hfz, hnd⟩ := hW
  have hA : DataW.TrodAll enc Try.prog W 0 (fun _ => true) true Try.f3.params.toList args.toList ds p := hA0
  rw [Try.params3] at hA hval
  obtain ⟨v0, vs0, d0, ds0, p0, q0, hargs, rfl, rfl, h0, r0⟩ := trodAll_cons hA
  obtain ⟨v1, vs1, d1, ds1, p1, q1, rfl, rfl, rfl, h1, r1⟩ := trodAll_cons r0
  obtain ⟨v2, vs2, d2, ds2, p2, q2, rfl, rfl, rfl, h2, r2⟩ := trodAll_cons r1
  obtain ⟨rfl, rfl, rfl⟩ := trodAll_nil r2
  obtain rfl : args = #[v0, v1, v2] := by cases args; simp_all
  obtain ⟨rfl, rfl⟩ := trodVars_none hV
  have k0 := h0
  have k1 := h1
  have k2 := h2
  have lt0 : ∀ x ∈ p0, x.block < W.heap.size := by obtain ⟨m, hm⟩ := k0; exact DataW.trod_lt m _ _ _ hm
  have lt1 : ∀ x ∈ p1, x.block < W.heap.size := by obtain ⟨m, hm⟩ := k1; exact DataW.trod_lt m _ _ _ hm
  have lt2 : ∀ x ∈ p2, x.block < W.heap.size := by obtain ⟨m, hm⟩ := k2; exact DataW.trod_lt m _ _ _ hm
  obtain ⟨a, rfl, rfl, rfl, wa⟩ := open_int Try.underlying3 (hval 2 3 v2 rfl rfl) h2
  obtain ⟨m0, kv, hr0, hc0, _⟩ := arg_one Try.underlying22 rfl (hval 0 22 v0 rfl rfl) h0
  obtain ⟨m1, gv, hr1, hc1, _⟩ := arg_one Try.underlying23 rfl (hval 1 23 v1 rfl rfl) h1
  obtain ⟨keys, kv', hke, hk⟩ := cont_bytes hc0
  obtain ⟨gets, gv', hge, hg⟩ := cont_bools hc1
  cases hke; cases hge
  have hwa := wf_i64 wa
  obtain ⟨h', hrun⟩ := Am.Cache.last_run keys kv hk gets gv hg a hwa
  obtain ⟨n, hn⟩ := of_run hrun
  have hrel : VsRel (allCells W) (fun _ => none) [kv, gv, .int .i64 a] (#[v0, v1, .int .i64 a] : Array Value).toList :=
    .cons hr0 (.cons hr1 (.cons (.int _ _) .nil))
  clear hA0
  simp only [List.append_nil] at hW'
  refine (law_calls (C := Am.Cache.Cf) names mixed (fun f s hs => by cases hs) Try.func3 (body := bodyOf Try.f3) rfl rfl rfl (fun gi cells hg => by cases hg) hrel hn).mono fun e W' ⟨he, bel⟩ => ?_
  subst he
  exact ⟨_, rfl, _, _, _, [], _, [], hW', trodAll_mk1 (shut_bool Try.underlying4 _), (trodAll_cons_mk (Below.trod laidOut (by kernel_rfl) (of_decide_eq_true (by kernel_rfl)) k0 bel lt0) (trodAll_cons_mk (Below.trod laidOut (by kernel_rfl) (of_decide_eq_true (by kernel_rfl)) k1 bel lt1) (trodAll_cons_mk (Below.trod laidOut (by kernel_rfl) (of_decide_eq_true (by kernel_rfl)) k2 bel lt2) trodAll_mk0))), rfl, bel.frame _, fun h => by cases h⟩

set_option maxRecDepth 100000 in
theorem lifted (os : Os) (started : os.Started) (H : Type) (enc : TypeId × Value → H) :
    ReturnsInHanded {} Try.checked os 3 .any (Rows.cacheLastSpec.pre6 enc Try.prog Try.f3 Rows.cacheLastRow.domain false) (Rows.cacheLastSpec.post enc Try.prog Try.f3 false true false false) := by
  refine returnsInHanded_of_change (C := Try.checked) own started (by kernel_rfl) Try.func3
    (ChangeSpec.witness6 (enc := enc) (C := Try.checked) false ⟨#[], #[.slice none 0 0, .slice none 0 0, .int .i64 0], []⟩ 8 (by kernel_rfl) (by kernel_rfl) (by kernel_rfl) (by kernel_rfl)) ?_
  intro W base args ds gs before hval hW _ _
  exact contract H enc W base args ds gs before hval hW

/-- THE ENTRIES THAT WERE USED LAST STAY. -/
theorem proved : Rows.CacheLastSaid :=
  OpenClaim.holds_of_wide 3 Try.f3 rfl rfl rfl rfl rfl rfl rfl ⟨rfl, rfl, rfl, rfl, rfl⟩ rfl rfl rfl rfl rfl (by kernel_rfl) Try.func3 (by kernel_rfl)
    (of_decide_eq_true (by kernel_rfl)) (by unfold Func.isWrapper; first | (rw [if_pos (by decide +kernel)]; kernel_rfl) | (rw [if_neg (by decide +kernel)]; exact ⟨rfl, rfl⟩))
    (fun os started H enc _ => lifted os started H enc)
#print axioms proved
end Go.Proofs.Ytgjjmngcmbpjjaa.cacheLast
