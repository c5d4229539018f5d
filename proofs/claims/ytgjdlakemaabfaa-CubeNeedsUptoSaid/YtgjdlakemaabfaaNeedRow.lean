/-
  CUBE: the row of CubeNeeds, in the form that bounds the bulk.
-/
import Derived.Test.YtgjdlakemaabfaaNeedArg
import Derived.Test.YtgjdlakemaabfaaRows
import Derived.ProofKit
import Derived.OpenShut
import Derived.ShutString
import Derived.JoinedCond
import Derived.WalkKit
import Derived.Below
import Derived.ChangeOld
set_option linter.unusedVariables false
set_option linter.unusedSimpArgs false
set_option linter.unusedSimpArgs false
set_option linter.unusedVariables false
namespace Go.Proofs.Ytgjdlakemaabfaa.cubeNeeds
open Go.ChangeShapes Go.WideShapes Go.ChangeAt Go.RowKit Go.Am
open Go.ChangeMaps (open_string shut_string)

theorem own : ownKnob Try.prog.godebug = none := by kernel_rfl
theorem laidOut : laidOutB Try.prog = true := by kernel_rfl
theorem mixed : Try.prog.follows .mixedOrders = true := by kernel_rfl
theorem names : namesOk Try.prog = true := by kernel_rfl

mutual
theorem bulk_le {H : Type} : ∀ d : DataW H, bulkD d ≤ Rows.uptoBulk d
  | .lit l => by cases l <;> simp [bulkD, Rows.uptoBulk]
  | .nil => by simp [bulkD, Rows.uptoBulk]
  | .ptr d => by have := bulk_le d; simp only [bulkD, Rows.uptoBulk]; omega
  | .slice elems spare => by have h1 := bulks_le elems; have h2 := bulks_le spare; simp only [bulkD, Rows.uptoBulk]; omega
  | .agg parts => by have h1 := bulks_le parts; simp only [bulkD, Rows.uptoBulk]; omega
  | .iface t d => by have := bulk_le d; simp only [bulkD, Rows.uptoBulk]; omega
  | .map entries => by simp only [bulkD, Rows.uptoBulk]; omega
  | .held h => by simp [bulkD, Rows.uptoBulk]
theorem bulks_le {H : Type} : ∀ ds : List (DataW H), bulkDs ds ≤ Rows.uptoBulkAll ds
  | [] => by simp [bulkDs, Rows.uptoBulkAll]
  | d :: r => by have h1 := bulk_le d; have h2 := bulks_le r; simp only [bulkDs, Rows.uptoBulkAll]; omega
end

theorem contract (H : Type) (enc : TypeId × Value → H) (W : World) (base : Nat) (args : Array Value) (ds gs : List (DataW H)) (before : List MemPlace)
    (hval : ∀ (j : Nat) t v, Try.f6.params[j]? = some t → args[j]? = some v → Value.okWide Try.prog W .any base t v)
    (hW : DataW.Whole enc Try.prog Try.f6.params.toList Rows.cubeNeedsSpec.vars false W args.toList ds gs before) (hk : Rows.uptoSmall H (ds ++ gs) = true) :
    Calls Try.prog 6 args W fun e W' => ∃ v, e = .returned v ∧ Rows.cubeNeedsSpec.post enc Try.prog Try.f6 false true false false W args v W' := by
  have hb : Rows.uptoBulkAll (ds ++ gs) ≤ 1048576 := of_decide_eq_true hk
  have hW' := hW
  obtain ⟨p, q, hA0, hV, rfl, hfz, hnd⟩ := hW
  have hA : DataW.TrodAll enc Try.prog W 0 (fun _ => true) true Try.f6.params.toList args.toList ds p := hA0
  rw [Try.params6] at hA hval
  obtain ⟨v0, vs0, d0, ds0, p0, q0, hargs, rfl, rfl, h0, r0⟩ := trodAll_cons hA
  obtain ⟨rfl, rfl, rfl⟩ := trodAll_nil r0
  obtain rfl : args = #[v0] := by cases args; simp_all
  obtain ⟨rfl, rfl⟩ := trodVars_none hV
  have k0 := h0
  have lt0 : ∀ x ∈ p0, x.block < W.heap.size := by obtain ⟨m, hm⟩ := k0; exact DataW.trod_lt m _ _ _ hm
  have hv0 := hval 0 36 v0 rfl rfl
  unfold Value.okWide at hv0
  rw [show Try.prog.underlying 36 = some (.struct _) from rfl] at hv0
  obtain ⟨cs, rfl, _, _⟩ := hv0
  obtain ⟨fuel, hf⟩ := h0
  obtain ⟨xs, hv, hc, hbk⟩ := trod_cont fuel _ _ _ _ hf
  simp only [List.append_nil, List.cons_append, List.nil_append, Rows.uptoBulkAll, Rows.uptoBulk] at hb
  have hb2 := bulk_le d0
  obtain ⟨b, hrb, hlen⟩ := Need.bound_of hc
  obtain ⟨w0, w1, w2, w3, rfl, s0, s1, s2, s3⟩ := hrb
  have hrun := Need.G6_spec b w0 s0 w1 s1 w2 s2 w3 s3 true (Need.needs_ok b (by omega)) AHeap.empty
  obtain ⟨n, hn⟩ := of_run hrun
  have hrel : VsRel (allCells W) (fun _ => none) [.agg [w0, w1, w2, w3]] (#[.agg cs] : Array Value).toList := .cons (.agg hv) .nil
  clear hA0
  simp only [List.append_nil] at hW'
  refine (law_callsF (C := Need.Cn) names mixed Need.summOk Try.func6 (body := bodyOf Try.f6) rfl rfl rfl (fun gi cells hg => by cases hg) hrel hn).mono fun e W' ⟨he, bel⟩ => ?_
  subst he
  exact ⟨_, rfl, _, _, _, [], _, [], hW', trodAll_mk1 (shut_bool Try.underlying4 _), (trodAll_cons_mk (Below.trod laidOut (by kernel_rfl) (of_decide_eq_true (by kernel_rfl)) k0 bel lt0) trodAll_mk0), rfl, bel.frame _, fun h => by cases h⟩

set_option maxRecDepth 100000 in
theorem lifted (os : Os) (started : os.Started) (H : Type) (enc : TypeId × Value → H) (F : Stop.Interp) :
    ReturnsInHanded {} Try.checked os 6 .any ((Rows.OpenSpec.upto Rows.cubeNeedsSpec).pre6 enc Try.prog Try.f6 Rows.cubeNeedsUptoRow.domain false) (((Rows.OpenSpec.upto Rows.cubeNeedsSpec).at F).post enc Try.prog Try.f6 false true false false) := by
  refine returnsInHanded_of_cond (C := Try.checked) (s := Rows.OpenSpec.upto Rows.cubeNeedsSpec) (k := Rows.uptoSmall) rfl own started (by kernel_rfl) Try.func6
    (OpenSpec.witness (enc := enc) (C := Try.checked) (s := Rows.OpenSpec.upto Rows.cubeNeedsSpec) (k := Rows.uptoSmall) rfl false ⟨#[], #[.agg #[.slice none 0 0, .slice none 0 0, .pointer none, .slice none 0 0]], []⟩ 8 (by kernel_rfl) (by kernel_rfl) (by kernel_rfl)
      (x := ([.agg [.nil, .nil, .nil, .nil]], [], [])) (by kernel_rfl) rfl (by kernel_rfl)) ?_
  intro W base args ds gs before hval hW _ hk _
  exact contract H enc W base args ds gs before hval hW hk

theorem over : Rows.cubeNeedsUptoRow.holds Try.pinned (Rows.OpenSpec.upto Rows.cubeNeedsSpec) :=
  OpenClaim.holds_of_cond 6 Try.f6 rfl rfl rfl rfl rfl rfl rfl ⟨rfl, rfl, rfl, rfl, rfl⟩ rfl rfl rfl rfl rfl (by kernel_rfl) Try.func6 (by kernel_rfl)
    (of_decide_eq_true (by kernel_rfl)) (by unfold Func.isWrapper; first | (rw [if_pos (by decide +kernel)]; kernel_rfl) | (rw [if_neg (by decide +kernel)]; exact ⟨rfl, rfl⟩))
    (fun os started H enc _ F => lifted os started H enc F)
/-- OF NO CUBE NOTHING COMES. -/
theorem proved : Rows.CubeNeedsUptoSaid := over
#print axioms proved
end Go.Proofs.Ytgjdlakemaabfaa.cubeNeeds
