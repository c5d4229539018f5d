/-
  PLAN: no view that may answer costs less than what is chosen, and one view more never makes it dearer: the row and its card.
-/
import Derived.Test.YtijnepmlnfcpnabGreatDoorPlnLeast
import Derived.Test.YtijnepmlnfcpnabGreatDoorPlnLaid
import Derived.Test.YtijnepmlnfcpnabGreatDoorPlnArg
import Derived.Test.YtijnepmlnfcpnabGreatDoorAmWt
import Derived.Test.YtijnepmlnfcpnabGreatDoorRows
import Derived.Test.YtijnepmlnfcpnabGreatDoorCards
import Derived.Test.YtijnepmlnfcpnabGreatDoorTie
import Derived.ProofKit
import Derived.OpenShut
import Derived.LaidMore
import Derived.Lay
import Derived.SevenTiedAt
import Derived.Stop.Joined
set_option linter.unusedVariables false
set_option linter.unusedSimpArgs false
set_option linter.unusedSimpArgs false
set_option linter.unusedVariables false
set_option maxRecDepth 100000
namespace Go.Proofs.YtijnepmlnfcpnabGreatDoor.planLeast
open Go.ChangeShapes Go.WideShapes Go.ChangeAt Go.RowKit Go.Am

theorem own : ownKnob Tryz.prog.godebug = none := by kernel_rfl
theorem laidOut : laidOutB Tryz.prog = true := by kernel_rfl

theorem lst_val {ι : Imm} {μ : Mu} {cs : List AVal} {n : Nat} {c : Cap} {v : Value} (h : VRel ι μ (.lst cs n c) v) : ∃ a cap', v = .slice (some a) n cap' := by
  cases h
  exact ⟨_, _, rfl⟩
theorem u30 : Tryz.prog.underlying 30 = some (.struct #[⟨"Rows", 3, 0, false, "", "", 0⟩, ⟨"Head", 3, 1, false, "", "", 8⟩, ⟨"Facts", 3, 2, false, "", "", 16⟩, ⟨"Views", 28, 3, false, "", "", 24⟩]) := by kernel_rfl
theorem u28 : Tryz.prog.underlying 28 = some (.slice 32) := by kernel_rfl
theorem views_len {H : Type} {enc : TypeId × Value → H} {W : World} {spare : Nat → Bool} {n : Nat} {cs1 : Array Value} {d0 d1 d2 : DataW H} {ps : List MemPlace} {x : Pln.Offer} {b0 : AVal}
    (hf : DataW.trod enc Tryz.prog W 0 spare true n 30 cs1.toList = some (d1, ps)) (hx : VsRel (allCells W) (fun _ => none) [.int .i64 x.Rows, .int .i64 x.Head, .int .i64 x.Facts, b0] cs1.toList) (hs : Sl Pln.rViewInfo x.Views b0)
    (hwt : (DataW.weightsEach Tryz.prog [27, 30, 32] [d0, d1, d2]).all (· ≤ reachBytes) = true) : x.Views.length * 48 + 48 ≤ 140737488355328 := by
  rcases hs with ⟨_, h0⟩ | ⟨css, cap, rfl, E⟩
  · rw [h0]; decide
  have hcl : css.length = x.Views.length := E.1
  obtain ⟨l⟩ := cs1
  simp only at hf hx
  cases hx with | cons r0 hx =>
  cases hx with | cons r1 hx =>
  cases hx with | cons r2 hx =>
  cases hx with | cons r3 hx =>
  cases hx
  obtain ⟨a, cap', rfl⟩ := lst_val r3
  cases n with
  | zero => simp [DataW.trod] at hf
  | succ m =>
  obtain ⟨xs, rfl, hxs⟩ := trod_struct u30 hf
  simp only [List.mapM_cons, List.mapM_nil, Option.bind_eq_bind, Option.bind_eq_some_iff, Option.pure_def, Option.some.injEq] at hxs
  obtain ⟨y0, _, zs0, ⟨y1, _, zs1, ⟨y2, _, zs2, ⟨y3, h3, zs3, rfl, rfl⟩, rfl⟩, rfl⟩, rfl⟩ := hxs
  cases m with
  | zero => simp [DataW.trod] at h3
  | succ m =>
  have h3' : DataW.trod enc Tryz.prog W 0 spare true (m + 1) 28 [.slice (some a) css.length cap'] = some (y3.1, y3.2) := h3
  obtain ⟨elems, sp, he, hl⟩ := trod_slice u28 h3'
  have hm : (elems.length + sp.length) * Tryz.prog.bytesOf 32 ∈ DataW.weightsEach Tryz.prog [27, 30, 32] [d0, .agg (([y0, y1, y2, y3] : List (DataW H × List MemPlace)).map (·.1)), d2] := by
    simp only [DataW.weightsEach, DataW.weights, u30, u28, List.map_cons, List.map_nil, he, List.mem_append, List.mem_cons, List.cons_append]
    simp
  have := List.all_eq_true.1 hwt _ hm
  have hb : Tryz.prog.bytesOf 32 = 48 := by kernel_rfl
  rw [hb, hl, hcl] at this
  have h2 : (x.Views.length + sp.length) * 48 ≤ reachBytes := by simpa using this
  have h3 : reachBytes = 140737488351232 := rfl
  omega

theorem contract (H : Type) (enc : TypeId × Value → H) (W : World) (base : Nat) (args : Array Value) (ds gs : List (DataW H)) (before : List MemPlace)
    (hval : ∀ (j : Nat) t v, Tryz.f3.params[j]? = some t → args[j]? = some v → Value.okWide Tryz.prog W .any base t v)
    (hW : DataW.Whole enc Tryz.prog Tryz.f3.params.toList Rows.planLeastSpec.vars false W args.toList ds gs before) (hL : laidMetH Tryz.prog Rows.planLeastRow.laid W)
    (hwt0 : (DataW.weightsEach Tryz.prog (Tryz.f3.params.toList ++ Rows.planLeastSpec.plain.varTypes Tryz.prog) (ds ++ gs)).all (· ≤ reachBytes) = true) :
    Calls Tryz.prog 3 args W fun e W' => ∃ v, e = .returned v ∧ Rows.planLeastSpec.post enc Tryz.prog Tryz.f3 false true false false W args v W' := by
  have hW' := hW
  obtain ⟨p, q, hA0, hV, rfl, hfz, hnd⟩ := hW
  have hA : DataW.TrodAll enc Tryz.prog W 0 (fun _ => true) true Tryz.f3.params.toList args.toList ds p := hA0
  rw [Tryz.params3] at hA hval
  obtain ⟨v0, v1, v2, d0, d1, d2, p0, p1, p2, rfl, rfl, rfl, h0, h1, h2⟩ := trodAll_three hA
  obtain ⟨rfl, rfl⟩ := trodVars_none hV
  have hwt : (DataW.weightsEach Tryz.prog [27, 30, 32] [d0, d1, d2]).all (· ≤ reachBytes) = true := by
    rw [Tryz.params3] at hwt0
    exact hwt0
  have k0 := h0
  have k1 := h1
  have k2 := h2
  have lt0 : ∀ x ∈ p0, x.block < W.heap.size := by obtain ⟨m, hm⟩ := k0; exact DataW.trod_lt m _ _ _ hm
  have lt1 : ∀ x ∈ p1, x.block < W.heap.size := by obtain ⟨m, hm⟩ := k1; exact DataW.trod_lt m _ _ _ hm
  have lt2 : ∀ x ∈ p2, x.block < W.heap.size := by obtain ⟨m, hm⟩ := k2; exact DataW.trod_lt m _ _ _ hm
  have hv0 := hval 0 27 v0 rfl rfl
  have hv1 := hval 1 30 v1 rfl rfl
  have hv2 := hval 2 32 v2 rfl rfl
  unfold Value.okWide at hv0 hv1 hv2
  rw [show Tryz.prog.underlying 27 = some (.struct _) from rfl] at hv0
  rw [show Tryz.prog.underlying 30 = some (.struct _) from rfl] at hv1
  rw [show Tryz.prog.underlying 32 = some (.struct _) from rfl] at hv2
  obtain ⟨cs0, rfl, _, _⟩ := hv0
  obtain ⟨cs1, rfl, _, _⟩ := hv1
  obtain ⟨cs2, rfl, _, _⟩ := hv2
  obtain ⟨fuel0, hf0⟩ := h0
  obtain ⟨fuel1, hf1⟩ := h1
  obtain ⟨fuel2, hf2⟩ := h2
  obtain ⟨xs0, hx0, hc0, _⟩ := trod_cont fuel0 _ _ _ _ hf0
  obtain ⟨xs1, hx1, hc1, _⟩ := trod_cont fuel1 _ _ _ _ hf1
  obtain ⟨xs2, hx2, hc2, _⟩ := trod_cont fuel2 _ _ _ _ hf2
  obtain ⟨a, ⟨a0, a1, a2, a3, rfl, sa0, sa1, sa2, sa3⟩, _, _, _, fa⟩ := Pln.bound_q hc0
  obtain ⟨b, ⟨b0, rfl, sb0⟩, fb⟩ := Pln.offer_q hc1
  obtain ⟨c, hcv, _⟩ := Pln.view_q hc2
  cases hcv
  have hlen : b.Views.length * 48 + 48 ≤ 140737488355328 := views_len hf1 hx1 sb0 hwt
  have hrun := Pln.G3_spec a b c a0 sa0 a1 sa1 a2 sa2 a3 sa3 b0 sb0 true (Pln.law_ok a b c fa hlen) AHeap.empty
  obtain ⟨n, hn⟩ := of_run hrun
  have hrel : VsRel (allCells W) (fun _ => none) [.agg [a0, a1, a2, a3], .agg [.int .i64 b.Rows, .int .i64 b.Head, .int .i64 b.Facts, b0], .agg [.int .i64 c.Set, .int .i64 c.State, .int .i64 c.Seq, .int .i64 c.Rows, .int .i64 c.Bytes, .int .i64 c.Readers]] (#[.agg cs0, .agg cs1, .agg cs2] : Array Value).toList := .cons (.agg hx0) (.cons (.agg hx1) (.cons (.agg hx2) .nil))
  have hG : GlobOk Pln.Cl W.heap.size (Am.start W) := by
    have hL' := hL
    rw [MakeChecks.laidMetH_plain _ _ _ (by kernel_rfl)] at hL'
    obtain ⟨ps, hl, _⟩ := hL'
    exact Pln.globOk hl (by simp [Rows.planLeastRow]) (by simp [Rows.planLeastRow]) (by simp [Rows.planLeastRow]) (by simp [Rows.planLeastRow])
  clear hA0
  simp only [List.append_nil] at hW'
  refine (law_callsF (C := Pln.Cl) Pln.names Pln.mixed Pln.summOk Tryz.func3 (body := bodyOf Tryz.f3) rfl rfl rfl hG hrel hn).mono fun e W' ⟨he, bel⟩ => ?_
  subst he
  exact ⟨_, rfl, _, _, _, [], _, [], hW', trodAll_mk1 (shut_bool Tryz.underlying4 _), (trodAll_cons_mk (Below.trod laidOut (by kernel_rfl) (of_decide_eq_true (by kernel_rfl)) k0 bel lt0) (trodAll_cons_mk (Below.trod laidOut (by kernel_rfl) (of_decide_eq_true (by kernel_rfl)) k1 bel lt1) (trodAll_cons_mk (Below.trod laidOut (by kernel_rfl) (of_decide_eq_true (by kernel_rfl)) k2 bel lt2) trodAll_mk0))), rfl, bel.frame _, fun h => by cases h⟩

theorem lifted (os : Os) (started : os.Started) (H : Type) (enc : TypeId × Value → H) :
    ReturnsInHanded {} Tryz.checked os 3 .any (fun w args => (Rows.planLeastSpec.pre enc Tryz.prog Tryz.f3 Rows.planLeastRow.domain false w args ∧ laidMetH Tryz.prog Rows.planLeastRow.laid w) ∧ sizedMet enc Tryz.prog Tryz.f3 (OpenSpec.ofChange Rows.planLeastSpec) false w args)
      (Rows.planLeastSpec.post enc Tryz.prog Tryz.f3 false true false false) := by
  refine returnsInHanded_of_change_and (C := Tryz.checked) (X := fun w _ => laidMetH Tryz.prog Rows.planLeastRow.laid w) (fun _ _ _ hh h => h.of_heap hh) own started (by kernel_rfl) Tryz.func3
    (ChangeSpec.witness_shaped (enc := enc) (C := Tryz.checked) (os := os) (X := fun w _ => laidMetH Tryz.prog Rows.planLeastRow.laid w) false (World.laidAll Tryz.prog os Rows.planLeastRow.laid) #[.agg #[.slice none 0 0, .slice none 0 0, .pointer none, .slice none 0 0], .agg #[.int .i64 0, .int .i64 0, .int .i64 0, .slice none 0 0], .agg #[.int .i64 0, .int .i64 0, .int .i64 0, .int .i64 0, .int .i64 0, .int .i64 0]] 8 (World.laidAll_os _ _ _)
      (World.shaped_of_ZipB (by kernel_rfl) (by kernel_rfl)) (by kernel_rfl) (by kernel_rfl) (by kernel_rfl)
      (by rw [MakeChecks.laidMetH_plain _ _ _ (by kernel_rfl)]; exact laidMet_laidAll _ (by kernel_rfl) (by kernel_rfl))) ?_
  intro W base args ds gs before hval0 hW hc hwt hL _
  exact contract H enc W base args ds gs before hval0 hW hL hwt

theorem holds : Rows.PlanLeastSaid :=
  OpenClaim.holds_of_wide 3 Tryz.f3 rfl rfl rfl rfl rfl rfl rfl ⟨rfl, rfl, rfl, rfl, rfl⟩ rfl rfl rfl rfl rfl (by kernel_rfl) Tryz.func3 (by kernel_rfl)
    (of_decide_eq_true (by kernel_rfl)) (by unfold Func.isWrapper; first | (rw [if_pos (by decide +kernel)]; kernel_rfl) | (rw [if_neg (by decide +kernel)]; exact ⟨rfl, rfl⟩))
    (fun os started H enc _ => lifted os started H enc)

/-- NOT, AND, OR. -/
theorem proved : Rows.PlanLeastCardSaid :=
  Claim7.holds_tied_plain_at .later [] [.data, .data, .data, .data, .sentinel, .sentinel, .data, .pinned] true (true, "6a3930e318de08d61ac188873b76c88e7c33f08510e378ee01f978dd417f9b12") true
    holds (fun _ h => by cases h) (by kernel_rfl) (fun _ h => by cases h) planLeast_row_tie rfl ⟨rfl, rfl⟩ (by kernel_rfl) rfl
    (fun f fn hf hfn => by
      obtain rfl : f = 3 := Option.some.inj ((show Tryz.prog.funcNamed "caisson/caissonlaw19.PlanLeast" = some 3 by kernel_rfl).symm.trans hf) |>.symm
      obtain rfl : fn = Tryz.f3 := (Option.some.inj (Tryz.func3.symm.trans hfn)).symm
      exact ⟨by kernel_rfl, fun j t ht => by
        rw [Tryz.params3] at ht
        have hm : t ∈ [27, 30, 32] := by
          have := Array.mem_of_getElem? ht
          simp at this
          rcases this with rfl | rfl | rfl <;> simp
        have hall : ([27, 30, 32].all fun u => !Tryz.prog.wantsStandIn u) = true := by kernel_rfl
        exact (show Tryz.prog.wantsStandIn t = false by simpa using List.all_eq_true.1 hall t hm)⟩)
    (by kernel_rfl)
#print axioms proved
end Go.Proofs.YtijnepmlnfcpnabGreatDoor.planLeast
