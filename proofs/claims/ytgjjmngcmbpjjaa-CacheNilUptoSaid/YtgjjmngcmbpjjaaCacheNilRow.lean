/-
  CACHE: the row of CacheNil, in the form that bounds the bulk.
-/
import Derived.Test.YtgjjmngcmbpjjaaCacheRow
import Derived.WalkKit
import Derived.Below
import Derived.ChangeOld
set_option linter.unusedSimpArgs false
set_option linter.unusedVariables false
namespace Go.Proofs.Ytgjjmngcmbpjjaa.cacheNil
open Go.ChangeShapes Go.WideShapes Go.ChangeAt Go.RowKit Go.Am
open Go.ChangeMaps (open_string shut_string)

theorem own : ownKnob Try.prog.godebug = none := by kernel_rfl
theorem laidOut : laidOutB Try.prog = true := by kernel_rfl
theorem mixed : Try.prog.follows .mixedOrders = true := by kernel_rfl
theorem names : namesOk Try.prog = true := by kernel_rfl

mutual
theorem bulk_le {H : Type} : ∀ d : DataW H, bulkD d ≤ Rows.uptoBulk d
  | .lit l => by cases l <;> simp [bulkD, Rows.uptoBulk]
  | .nil => by simp [bulkD, Rows.uptoBulk]
  | .ptr d => by have := bulk_le d; simp only [bulkD, Rows.uptoBulk]; omega
  | .slice elems spare => by have h1 := bulks_le elems; have h2 := bulks_le spare; simp only [bulkD, Rows.uptoBulk]; omega
  | .agg parts => by have h1 := bulks_le parts; simp only [bulkD, Rows.uptoBulk]; omega
  | .iface t d => by have := bulk_le d; simp only [bulkD, Rows.uptoBulk]; omega
  | .map entries => by simp only [bulkD, Rows.uptoBulk]; omega
  | .held h => by simp [bulkD, Rows.uptoBulk]
theorem bulks_le {H : Type} : ∀ ds : List (DataW H), bulkDs ds ≤ Rows.uptoBulkAll ds
  | [] => by simp [bulkDs, Rows.uptoBulkAll]
  | d :: r => by have h1 := bulk_le d; have h2 := bulks_le r; simp only [bulkDs, Rows.uptoBulkAll]; omega
end

theorem contract (H : Type) (enc : TypeId × Value → H) (W : World) (base : Nat) (args : Array Value) (ds gs : List (DataW H)) (before : List MemPlace)
    (hval : ∀ (j : Nat) t v, Try.f5.params[j]? = some t → args[j]? = some v → Value.okWide Try.prog W .any base t v)
    (hW : DataW.Whole enc Try.prog Try.f5.params.toList Rows.cacheNilSpec.vars false W args.toList ds gs before) (hk : Rows.uptoSmall H (ds ++ gs) = true) :
    Calls Try.prog 5 args W fun e W' => ∃ v, e = .returned v ∧ Rows.cacheNilSpec.post enc Try.prog Try.f5 false true false false W args v W' := by
  have hb : Rows.uptoBulkAll (ds ++ gs) ≤ 1048576 := of_decide_eq_true hk
  have hW' := hW
  obtain ⟨p, q, hA0, hV, rfl, hfz, hnd⟩ := hW
  have hA : DataW.TrodAll enc Try.prog W 0 (fun _ => true) true Try.f5.params.toList args.toList ds p := hA0
  rw [Try.params5] at hA hval
  obtain ⟨v0, vs0, d0, ds0, p0, q0, hargs, rfl, rfl, h0, r0⟩ := trodAll_cons hA
  obtain ⟨v1, vs1, d1, ds1, p1, q1, rfl, rfl, rfl, h1, r1⟩ := trodAll_cons r0
  obtain ⟨v2, vs2, d2, ds2, p2, q2, rfl, rfl, rfl, h2, r2⟩ := trodAll_cons r1
  obtain ⟨rfl, rfl, rfl⟩ := trodAll_nil r2
  obtain rfl : args = #[v0, v1, v2] := by cases args; simp_all
  obtain ⟨rfl, rfl⟩ := trodVars_none hV
  have k0 := h0
  have k1 := h1
  have k2 := h2
  have lt0 : ∀ x ∈ p0, x.block < W.heap.size := by obtain ⟨m, hm⟩ := k0; exact DataW.trod_lt m _ _ _ hm
  have lt1 : ∀ x ∈ p1, x.block < W.heap.size := by obtain ⟨m, hm⟩ := k1; exact DataW.trod_lt m _ _ _ hm
  have lt2 : ∀ x ∈ p2, x.block < W.heap.size := by obtain ⟨m, hm⟩ := k2; exact DataW.trod_lt m _ _ _ hm
  obtain ⟨s, rfl, rfl, rfl, hs⟩ := open_string Try.underlying9 (hval 0 9 v0 rfl rfl) h0
  obtain ⟨a, rfl, rfl, rfl, wa⟩ := open_int Try.underlying3 (hval 1 3 v1 rfl rfl) h1
  have hv2 := hval 2 31 v2 rfl rfl
  unfold Value.okWide at hv2
  rw [Try.underlying31] at hv2
  obtain ⟨cs, rfl, _, _⟩ := hv2
  obtain ⟨fuel, hf⟩ := h2
  obtain ⟨xs, hv, hc, hbk⟩ := trod_cont fuel _ _ _ _ hf
  simp only [List.append_nil, List.cons_append, List.nil_append, Rows.uptoBulkAll, Rows.uptoBulk] at hb
  have hb2 := bulk_le d2
  obtain ⟨r, rfl, hc1, hc2, hsm⟩ := Am.Cache.cont_res hc (by omega) s.data.toList (by omega)
  obtain ⟨h', hrun⟩ := Am.Cache.law_run s.data.toList a r hsm ⟨hc1, hc2⟩
  obtain ⟨n, hn⟩ := of_run hrun
  have hrel : VsRel (allCells W) (fun _ => none) [.str s.data.toList, .int .i64 a, .agg [r.cv, r.rv]] (#[.string s, .int .i64 a, .agg cs] : Array Value).toList :=
    .cons (by have := VRel.str (ι := allCells W) (μ := fun _ => none) s.data.toList; simpa using this) (.cons (.int _ _) (.cons (.agg hv) .nil))
  clear hA0
  simp only [List.append_nil] at hW'
  refine (law_calls (C := Am.Cache.Cf) names mixed (fun f s hs => by cases hs) Try.func5 (body := bodyOf Try.f5) rfl rfl rfl (fun gi cells hg => by cases hg) hrel hn).mono fun e W' ⟨he, bel⟩ => ?_
  subst he
  exact ⟨_, rfl, _, _, _, [], _, [], hW', trodAll_mk1 (shut_bool Try.underlying4 _), (trodAll_cons_mk (Below.trod laidOut (by kernel_rfl) (of_decide_eq_true (by kernel_rfl)) k0 bel lt0) (trodAll_cons_mk (Below.trod laidOut (by kernel_rfl) (of_decide_eq_true (by kernel_rfl)) k1 bel lt1) (trodAll_cons_mk (Below.trod laidOut (by kernel_rfl) (of_decide_eq_true (by kernel_rfl)) k2 bel lt2) trodAll_mk0))), rfl, bel.frame _, fun h => by cases h⟩

set_option maxRecDepth 100000 in
theorem lifted (os : Os) (started : os.Started) (H : Type) (enc : TypeId × Value → H) (F : Stop.Interp) :
    ReturnsInHanded {} Try.checked os 5 .any ((Rows.OpenSpec.upto Rows.cacheNilSpec).pre6 enc Try.prog Try.f5 Rows.cacheNilUptoRow.domain false) (((Rows.OpenSpec.upto Rows.cacheNilSpec).at F).post enc Try.prog Try.f5 false true false false) := by
  refine returnsInHanded_of_cond (C := Try.checked) (s := Rows.OpenSpec.upto Rows.cacheNilSpec) (k := Rows.uptoSmall) rfl own started (by kernel_rfl) Try.func5
    (OpenSpec.witness (enc := enc) (C := Try.checked) (s := Rows.OpenSpec.upto Rows.cacheNilSpec) (k := Rows.uptoSmall) rfl false ⟨#[], #[.string ⟨#[]⟩, .int .i64 0, .agg #[.slice none 0 0, .slice none 0 0]], []⟩ 8 (by kernel_rfl) (by kernel_rfl) (by kernel_rfl)
      (x := ([.lit (.string []), .lit (.int .i64 0), .agg [.nil, .nil]], [], [])) (by kernel_rfl) rfl (by kernel_rfl)) ?_
  intro W base args ds gs before hval hW _ hk _
  exact contract H enc W base args ds gs before hval hW hk

theorem over : Rows.cacheNilUptoRow.holds Try.pinned (Rows.OpenSpec.upto Rows.cacheNilSpec) :=
  OpenClaim.holds_of_cond 5 Try.f5 rfl rfl rfl rfl rfl rfl rfl ⟨rfl, rfl, rfl, rfl, rfl⟩ rfl rfl rfl rfl rfl (by kernel_rfl) Try.func5 (by kernel_rfl)
    (of_decide_eq_true (by kernel_rfl)) (by unfold Func.isWrapper; first | (rw [if_pos (by decide +kernel)]; kernel_rfl) | (rw [if_neg (by decide +kernel)]; exact ⟨rfl, rfl⟩))
    (fun os started H enc _ F => lifted os started H enc F)
/-- OF NO CACHE NOTHING COMES. -/
theorem proved : Rows.CacheNilUptoSaid := over
#print axioms proved
end Go.Proofs.Ytgjjmngcmbpjjaa.cacheNil
