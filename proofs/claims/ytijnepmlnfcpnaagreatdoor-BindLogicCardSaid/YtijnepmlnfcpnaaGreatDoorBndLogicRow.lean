/-
  BIND: NOT turns what holds round, AND and OR are as they are called: the row and its card.
-/
import Derived.Test.YtijnepmlnfcpnaaGreatDoorBndLawOk
import Derived.Test.YtijnepmlnfcpnaaGreatDoorBndLaid
import Derived.Test.YtijnepmlnfcpnaaGreatDoorRows
import Derived.Test.YtijnepmlnfcpnaaGreatDoorCards
import Derived.Test.YtijnepmlnfcpnaaGreatDoorTie
import Derived.ProofKit
import Derived.OpenShut
import Derived.LaidMore
import Derived.Lay
import Derived.SevenTiedAt
import Derived.Stop.Joined
set_option linter.unusedVariables false
set_option linter.unusedSimpArgs false
set_option linter.unusedSimpArgs false
set_option linter.unusedVariables false
set_option maxRecDepth 100000
namespace Go.Proofs.YtijnepmlnfcpnaaGreatDoor.bindLogic
open Go.ChangeShapes Go.WideShapes Go.ChangeAt Go.RowKit Go.Am

theorem own : ownKnob Tryz.prog.godebug = none := by kernel_rfl
theorem laidOut : laidOutB Tryz.prog = true := by kernel_rfl

theorem contract (H : Type) (enc : TypeId × Value → H) (W : World) (base : Nat) (args : Array Value) (ds gs : List (DataW H)) (before : List MemPlace)
    (hval : ∀ (j : Nat) t v, Tryz.f6.params[j]? = some t → args[j]? = some v → Value.okWide Tryz.prog W .any base t v)
    (hW : DataW.Whole enc Tryz.prog Tryz.f6.params.toList Rows.bindLogicSpec.vars false W args.toList ds gs before) (hL : laidMetH Tryz.prog Rows.bindLogicRow.laid W) :
    Calls Tryz.prog 6 args W fun e W' => ∃ v, e = .returned v ∧ Rows.bindLogicSpec.post enc Tryz.prog Tryz.f6 false true false false W args v W' := by
  have hW' := hW
  obtain ⟨p, q, hA0, hV, rfl, hfz, hnd⟩ := hW
  have hA : DataW.TrodAll enc Tryz.prog W 0 (fun _ => true) true Tryz.f6.params.toList args.toList ds p := hA0
  rw [Tryz.params6] at hA hval
  obtain ⟨v0, v1, v2, d0, d1, d2, p0, p1, p2, rfl, rfl, rfl, h0, h1, h2⟩ := trodAll_three hA
  obtain ⟨rfl, rfl⟩ := trodVars_none hV
  have k0 := h0
  have k1 := h1
  have k2 := h2
  have lt0 : ∀ x ∈ p0, x.block < W.heap.size := by obtain ⟨m, hm⟩ := k0; exact DataW.trod_lt m _ _ _ hm
  have lt1 : ∀ x ∈ p1, x.block < W.heap.size := by obtain ⟨m, hm⟩ := k1; exact DataW.trod_lt m _ _ _ hm
  have lt2 : ∀ x ∈ p2, x.block < W.heap.size := by obtain ⟨m, hm⟩ := k2; exact DataW.trod_lt m _ _ _ hm
  have hv0 := hval 0 35 v0 rfl rfl
  have hv1 := hval 1 35 v1 rfl rfl
  have hv2 := hval 2 53 v2 rfl rfl
  unfold Value.okWide at hv0 hv1 hv2
  rw [show Tryz.prog.underlying 35 = some (.struct _) from rfl] at hv0 hv1
  rw [show Tryz.prog.underlying 53 = some (.struct _) from rfl] at hv2
  obtain ⟨cs0, rfl, _, _⟩ := hv0
  obtain ⟨cs1, rfl, _, _⟩ := hv1
  obtain ⟨cs2, rfl, _, _⟩ := hv2
  obtain ⟨fuel0, hf0⟩ := h0
  obtain ⟨fuel1, hf1⟩ := h1
  obtain ⟨fuel2, hf2⟩ := h2
  obtain ⟨xs0, hx0, hc0, _⟩ := trod_cont fuel0 _ _ _ _ hf0
  obtain ⟨xs1, hx1, hc1, _⟩ := trod_cont fuel1 _ _ _ _ hf1
  obtain ⟨xs2, hx2, hc2, _⟩ := trod_cont fuel2 _ _ _ _ hf2
  obtain ⟨a, ⟨a0, a1, a2, a3, rfl, sa0, sa1, sa2, sa3⟩, _, _, oka, _⟩ := Bnd.bound_q hc0
  obtain ⟨b, ⟨b0, b1, b2, b3, rfl, sb0, sb1, sb2, sb3⟩, _, _, okb, _⟩ := Bnd.bound_q hc1
  obtain ⟨c, ⟨c0, c1, rfl, sc0, sc1⟩, okc⟩ := Bnd.fact_q hc2
  have hrun := Bnd.G6_spec a b c a0 sa0 a1 sa1 a2 sa2 a3 sa3 b0 sb0 b1 sb1 b2 sb2 b3 sb3 c0 sc0 c1 sc1 true (Bnd.law_ok oka okb okc) AHeap.empty
  obtain ⟨n, hn⟩ := of_run hrun
  have hrel : VsRel (allCells W) (fun _ => none) [.agg [a0, a1, a2, a3], .agg [b0, b1, b2, b3], .agg [c0, c1]] (#[.agg cs0, .agg cs1, .agg cs2] : Array Value).toList := .cons (.agg hx0) (.cons (.agg hx1) (.cons (.agg hx2) .nil))
  have hG : GlobOk Bnd.Cb (allCells W) := by
    have hL' := hL
    rw [MakeChecks.laidMetH_plain _ _ _ (by kernel_rfl)] at hL'
    obtain ⟨ps, hl, _⟩ := hL'
    exact Bnd.globOk hl (by simp [Rows.bindLogicRow]) (by simp [Rows.bindLogicRow]) (by simp [Rows.bindLogicRow]) (by simp [Rows.bindLogicRow])
  clear hA0
  simp only [List.append_nil] at hW'
  refine (law_callsF (C := Bnd.Cb) Bnd.names Bnd.mixed Bnd.summOk Tryz.func6 (body := bodyOf Tryz.f6) rfl rfl rfl hG hrel hn).mono fun e W' ⟨he, bel⟩ => ?_
  subst he
  exact ⟨_, rfl, _, _, _, [], _, [], hW', trodAll_mk1 (shut_bool Tryz.underlying4 _), (trodAll_cons_mk (Below.trod laidOut (by kernel_rfl) (of_decide_eq_true (by kernel_rfl)) k0 bel lt0) (trodAll_cons_mk (Below.trod laidOut (by kernel_rfl) (of_decide_eq_true (by kernel_rfl)) k1 bel lt1) (trodAll_cons_mk (Below.trod laidOut (by kernel_rfl) (of_decide_eq_true (by kernel_rfl)) k2 bel lt2) trodAll_mk0))), rfl, bel.frame _, fun h => by cases h⟩

theorem lifted (os : Os) (started : os.Started) (H : Type) (enc : TypeId × Value → H) :
    ReturnsInHanded {} Tryz.checked os 6 .any (fun w args => (Rows.bindLogicSpec.pre enc Tryz.prog Tryz.f6 Rows.bindLogicRow.domain false w args ∧ laidMetH Tryz.prog Rows.bindLogicRow.laid w) ∧ sizedMet enc Tryz.prog Tryz.f6 (OpenSpec.ofChange Rows.bindLogicSpec) false w args)
      (Rows.bindLogicSpec.post enc Tryz.prog Tryz.f6 false true false false) := by
  refine returnsInHanded_of_change_and (C := Tryz.checked) (X := fun w _ => laidMetH Tryz.prog Rows.bindLogicRow.laid w) (fun _ _ _ hh h => h.of_heap hh) own started (by kernel_rfl) Tryz.func6
    (ChangeSpec.witness_shaped (enc := enc) (C := Tryz.checked) (os := os) (X := fun w _ => laidMetH Tryz.prog Rows.bindLogicRow.laid w) false (World.laidAll Tryz.prog os Rows.bindLogicRow.laid) #[.agg #[.slice none 0 0, .slice none 0 0, .pointer none, .slice none 0 0], .agg #[.slice none 0 0, .slice none 0 0, .pointer none, .slice none 0 0], .agg #[.slice none 0 0, .slice none 0 0]] 8 (World.laidAll_os _ _ _)
      (World.shaped_of_ZipB (by kernel_rfl) (by kernel_rfl)) (by kernel_rfl) (by kernel_rfl) (by kernel_rfl)
      (by rw [MakeChecks.laidMetH_plain _ _ _ (by kernel_rfl)]; exact laidMet_laidAll _ (by kernel_rfl) (by kernel_rfl))) ?_
  intro W base args ds gs before hval0 hW hc _ hL _
  exact contract H enc W base args ds gs before hval0 hW hL

theorem holds : Rows.BindLogicSaid :=
  OpenClaim.holds_of_wide 6 Tryz.f6 rfl rfl rfl rfl rfl rfl rfl ⟨rfl, rfl, rfl, rfl, rfl⟩ rfl rfl rfl rfl rfl (by kernel_rfl) Tryz.func6 (by kernel_rfl)
    (of_decide_eq_true (by kernel_rfl)) (by unfold Func.isWrapper; first | (rw [if_pos (by decide +kernel)]; kernel_rfl) | (rw [if_neg (by decide +kernel)]; exact ⟨rfl, rfl⟩))
    (fun os started H enc _ => lifted os started H enc)

/-- NOT, AND, OR. -/
theorem proved : Rows.BindLogicCardSaid :=
  Claim7.holds_tied_plain_at .later [] [.data, .data, .data, .data, .sentinel, .sentinel, .data, .pinned] true (true, "b60d83df126171c6ac8a7deff8ddcefaea208b029b2cbfbf588fbb3f2cef04e4") true
    holds (fun _ h => by cases h) (by kernel_rfl) (fun _ h => by cases h) bindLogic_row_tie rfl ⟨rfl, rfl⟩ (by kernel_rfl) rfl
    (fun f fn hf hfn => by
      obtain rfl : f = 6 := Option.some.inj ((show Tryz.prog.funcNamed "caisson/caissonlaw12.BindLogic" = some 6 by kernel_rfl).symm.trans hf) |>.symm
      obtain rfl : fn = Tryz.f6 := (Option.some.inj (Tryz.func6.symm.trans hfn)).symm
      exact ⟨by kernel_rfl, fun j t ht => by
        rw [Tryz.params6] at ht
        have hm : t ∈ [35, 53] := by
          have := Array.mem_of_getElem? ht
          simp at this
          rcases this with rfl | rfl <;> simp
        have hall : ([35, 53].all fun u => !Tryz.prog.wantsStandIn u) = true := by kernel_rfl
        exact (show Tryz.prog.wantsStandIn t = false by simpa using List.all_eq_true.1 hall t hm)⟩)
    (by kernel_rfl)
#print axioms proved
end Go.Proofs.YtijnepmlnfcpnaaGreatDoor.bindLogic
