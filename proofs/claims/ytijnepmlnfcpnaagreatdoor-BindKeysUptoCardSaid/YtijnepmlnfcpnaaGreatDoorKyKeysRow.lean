/-
  KEYS: two bound queries have one key just if they are the same: the row and its card, in the form that bounds the bulk.
-/
import Derived.Test.YtijnepmlnfcpnaaGreatDoorKyLaw
import Derived.Test.YtijnepmlnfcpnaaGreatDoorKyLaid
import Derived.Test.YtijnepmlnfcpnaaGreatDoorKyArg
import Derived.Test.YtijnepmlnfcpnaaGreatDoorRows
import Derived.Test.YtijnepmlnfcpnaaGreatDoorCards
import Derived.Test.YtijnepmlnfcpnaaGreatDoorTie
import Derived.ProofKit
import Derived.OpenShut
import Derived.LaidMore
import Derived.Lay
import Derived.SevenTiedAt
import Derived.Stop.Joined
import Derived.Deep.DeepHandedRow
set_option linter.unusedVariables false
set_option linter.unusedSimpArgs false
set_option linter.unusedSimpArgs false
set_option linter.unusedVariables false
set_option maxRecDepth 100000
namespace Go.Proofs.YtijnepmlnfcpnaaGreatDoor.bindKeys
open Go.ChangeShapes Go.WideShapes Go.ChangeAt Go.RowKit Go.Am

theorem own : ownKnob Tryz.prog.godebug = none := by kernel_rfl
theorem laidOut : laidOutB Tryz.prog = true := by kernel_rfl

mutual
theorem bulk_le {H : Type} : ∀ d : DataW H, bulkD d ≤ Rows.uptoBulk d
  | .lit l => by cases l <;> simp [bulkD, Rows.uptoBulk]
  | .nil => by simp [bulkD, Rows.uptoBulk]
  | .ptr d => by have := bulk_le d; simp only [bulkD, Rows.uptoBulk]; omega
  | .slice elems spare => by have h1 := bulks_le elems; have h2 := bulks_le spare; simp only [bulkD, Rows.uptoBulk]; omega
  | .agg parts => by have h1 := bulks_le parts; simp only [bulkD, Rows.uptoBulk]; omega
  | .iface t d => by have := bulk_le d; simp only [bulkD, Rows.uptoBulk]; omega
  | .map entries => by simp only [bulkD, Rows.uptoBulk]; omega
  | .held h => by simp [bulkD, Rows.uptoBulk]
theorem bulks_le {H : Type} : ∀ ds : List (DataW H), bulkDs ds ≤ Rows.uptoBulkAll ds
  | [] => by simp [bulkDs, Rows.uptoBulkAll]
  | d :: r => by have h1 := bulk_le d; have h2 := bulks_le r; simp only [bulkDs, Rows.uptoBulkAll]; omega
end

theorem contract (H : Type) (enc : TypeId × Value → H) (W : World) (base : Nat) (args : Array Value) (ds gs : List (DataW H)) (before : List MemPlace)
    (hval : ∀ (j : Nat) t v, Tryz.f5.params[j]? = some t → args[j]? = some v → Value.okWide Tryz.prog W .any base t v)
    (hW : DataW.Whole enc Tryz.prog Tryz.f5.params.toList Rows.bindKeysSpec.vars false W args.toList ds gs before) (hL : laidMetH Tryz.prog Rows.bindKeysUptoRow.laid W)
    (hk : Rows.uptoSmall H (ds ++ gs) = true) :
    Calls Tryz.prog 5 args W fun e W' => ∃ v, e = .returned v ∧ Rows.bindKeysSpec.post enc Tryz.prog Tryz.f5 false true false false W args v W' := by
  have hbk : Rows.uptoBulkAll (ds ++ gs) ≤ 1048576 := of_decide_eq_true hk
  have hW' := hW
  obtain ⟨p, q, hA0, hV, rfl, hfz, hnd⟩ := hW
  have hA : DataW.TrodAll enc Tryz.prog W 0 (fun _ => true) true Tryz.f5.params.toList args.toList ds p := hA0
  rw [Tryz.params5] at hA hval
  obtain ⟨v0, v1, d0, d1, p0, p1, rfl, rfl, rfl, h0, h1⟩ := trodAll_two hA
  obtain ⟨rfl, rfl⟩ := trodVars_none hV
  have k0 := h0
  have k1 := h1
  have lt0 : ∀ x ∈ p0, x.block < W.heap.size := by obtain ⟨m, hm⟩ := k0; exact DataW.trod_lt m _ _ _ hm
  have lt1 : ∀ x ∈ p1, x.block < W.heap.size := by obtain ⟨m, hm⟩ := k1; exact DataW.trod_lt m _ _ _ hm
  have hv0 := hval 0 35 v0 rfl rfl
  have hv1 := hval 1 35 v1 rfl rfl
  unfold Value.okWide at hv0 hv1
  rw [show Tryz.prog.underlying 35 = some (.struct _) from rfl] at hv0 hv1
  obtain ⟨cs0, rfl, _, _⟩ := hv0
  obtain ⟨cs1, rfl, _, _⟩ := hv1
  obtain ⟨fuel0, hf0⟩ := h0
  obtain ⟨fuel1, hf1⟩ := h1
  obtain ⟨xs0, hx0, hc0, hb0⟩ := trod_cont fuel0 _ _ _ _ hf0
  obtain ⟨xs1, hx1, hc1, hb1⟩ := trod_cont fuel1 _ _ _ _ hf1
  obtain ⟨a, ra, oa⟩ := Ky.bound_q hc0
  obtain ⟨b, rb, ob⟩ := Ky.bound_q hc1
  have wa := Ky.b_w ra
  have wb := Ky.b_w rb
  have hfine : Ky.Fine a ∧ Ky.Fine b := by
    have e1 := bulk_le d0
    have e2 := bulk_le d1
    simp only [List.append_nil, List.cons_append, List.nil_append, Rows.uptoBulkAll] at hbk
    exact ⟨⟨oa, by omega⟩, ⟨ob, by omega⟩⟩
  obtain ⟨a0, a1, a2, a3, rfl, sa0, sa1, sa2, sa3⟩ := ra
  obtain ⟨b0, b1, b2, b3, rfl, sb0, sb1, sb2, sb3⟩ := rb
  have hrun := Ky.G5_spec a b a0 sa0 a1 sa1 a2 sa2 a3 sa3 b0 sb0 b1 sb1 b2 sb2 b3 sb3 true (Ky.law_ok a b hfine.1 hfine.2) AHeap.empty
  obtain ⟨n, hn⟩ := of_run hrun
  have hrel : VsRel (allCells W) (fun _ => none) [.agg [a0, a1, a2, a3], .agg [b0, b1, b2, b3]] (#[.agg cs0, .agg cs1] : Array Value).toList := .cons (.agg hx0) (.cons (.agg hx1) .nil)
  have hG : GlobOk Ky.Cl W.heap.size (Am.start W) := by
    have hL' := hL
    rw [MakeChecks.laidMetH_plain _ _ _ (by kernel_rfl)] at hL'
    obtain ⟨ps, hl, _⟩ := hL'
    exact Ky.globOk hl (by simp [Rows.bindKeysUptoRow]) (by simp [Rows.bindKeysUptoRow]) (by simp [Rows.bindKeysUptoRow]) (by simp [Rows.bindKeysUptoRow])
  clear hA0
  simp only [List.append_nil] at hW'
  refine (law_callsF (C := Ky.Cl) Ky.names Ky.mixed Ky.summOk Tryz.func5 (body := bodyOf Tryz.f5) rfl rfl rfl hG hrel hn).mono fun e W' ⟨he, bel⟩ => ?_
  subst he
  exact ⟨_, rfl, _, _, _, [], _, [], hW', trodAll_mk1 (shut_bool Tryz.underlying4 _), (trodAll_cons_mk (Below.trod laidOut (by kernel_rfl) (of_decide_eq_true (by kernel_rfl)) k0 bel lt0) (trodAll_cons_mk (Below.trod laidOut (by kernel_rfl) (of_decide_eq_true (by kernel_rfl)) k1 bel lt1) trodAll_mk0)), rfl, bel.frame _, fun h => by cases h⟩

theorem reads (os : Os) {H : Type} (enc : TypeId × Value → H) : ∃ places, DataW.whole enc Tryz.prog ((World.laidAll Tryz.prog os Rows.bindKeysUptoRow.laid).forCall (fun _ _ => 0) ⟨#[], #[.agg #[.slice none 0 0, .slice none 0 0, .pointer none, .slice none 0 0], .agg #[.slice none 0 0, .slice none 0 0, .pointer none, .slice none 0 0]], []⟩).memory Tryz.f5.params.toList Rows.bindKeysSpec.vars false (#[.agg #[.slice none 0 0, .slice none 0 0, .pointer none, .slice none 0 0], .agg #[.slice none 0 0, .slice none 0 0, .pointer none, .slice none 0 0]] : Array Value).toList 8 = some ([.agg [.nil, .nil, .nil, .nil], .agg [.nil, .nil, .nil, .nil]], [], places) :=
  ⟨[], by kernel_rfl⟩
theorem lifted (os : Os) (started : os.Started) (H : Type) (enc : TypeId × Value → H) (F : Stop.Interp) :
    ReturnsInHanded {} Tryz.checked os 5 .any ((Rows.OpenSpec.upto Rows.bindKeysSpec).preRow enc Tryz.prog Tryz.f5 Rows.bindKeysUptoRow.domain false Rows.bindKeysUptoRow.laid) (((Rows.OpenSpec.upto Rows.bindKeysSpec).at F).post enc Tryz.prog Tryz.f5 false true false false) := by
  obtain ⟨places, hx⟩ := reads os enc
  have hok : Input.okWideB Tryz.checked.prog ((World.laidAll Tryz.prog os Rows.bindKeysUptoRow.laid).forCall (fun _ _ => 0) ⟨#[], #[.agg #[.slice none 0 0, .slice none 0 0, .pointer none, .slice none 0 0], .agg #[.slice none 0 0, .slice none 0 0, .pointer none, .slice none 0 0]], []⟩) 5 ⟨#[], #[.agg #[.slice none 0 0, .slice none 0 0, .pointer none, .slice none 0 0], .agg #[.slice none 0 0, .slice none 0 0, .pointer none, .slice none 0 0]], []⟩ = true := by kernel_rfl
  refine returnsInHanded_of_row (C := Tryz.checked) (s := Rows.OpenSpec.upto Rows.bindKeysSpec) own started (by kernel_rfl) Tryz.func5
    ⟨World.laidAll Tryz.prog os Rows.bindKeysUptoRow.laid, fun _ _ => 0, ⟨#[], #[.agg #[.slice none 0 0, .slice none 0 0, .pointer none, .slice none 0 0], .agg #[.slice none 0 0, .slice none 0 0, .pointer none, .slice none 0 0]], []⟩, World.laidAll_os _ _ _, World.shaped_of_ZipB (by kernel_rfl) (by kernel_rfl), (Input.okWide_of_okWideB (base := 0) hok).1, (Input.okWide_of_okWideB hok).2,
      OpenSpec.preRow_of_cond 5 hx (by kernel_rfl) (fun k hk => by cases hk; kernel_rfl) (by kernel_rfl) (by rw [MakeChecks.laidMetH_plain _ _ _ (by kernel_rfl)]; exact laidMet_laidAll _ (by kernel_rfl) (by kernel_rfl)), by
        simp only [Assume.holds]
        exact ⟨by simp, by simp, fun _ => Modest.zero, by simp, by simp⟩⟩ ?_
  intro W base args ds gs before hval hW _ hcond _ hL _ _
  exact contract H enc W base args ds gs before hval hW hL (hcond _ rfl)

theorem holds : Rows.BindKeysUptoSaid :=
  OpenClaim.holds_of_cond 5 Tryz.f5 rfl rfl rfl rfl rfl rfl rfl ⟨rfl, rfl, rfl, rfl, rfl⟩ rfl rfl rfl rfl rfl (by kernel_rfl) Tryz.func5 (by kernel_rfl)
    (of_decide_eq_true (by kernel_rfl)) (by unfold Func.isWrapper; first | (rw [if_pos (by decide +kernel)]; kernel_rfl) | (rw [if_neg (by decide +kernel)]; exact ⟨rfl, rfl⟩))
    (fun os started H enc _ F => by rw [OpenClaim.pre_eq_preRow]; exact lifted os started H enc F)

/-- ONE KEY JUST IF THEY ARE THE SAME. -/
theorem proved : Rows.BindKeysUptoCardSaid :=
  Claim7.holds_tied_plain_at .later [] [.data, .data, .data, .data, .sentinel, .sentinel, .data, .pinned] true (true, "b60d83df126171c6ac8a7deff8ddcefaea208b029b2cbfbf588fbb3f2cef04e4") true
    holds (fun _ h => by cases h) (by kernel_rfl) (fun _ h => by cases h) bindKeysUpto_row_tie rfl ⟨rfl, rfl⟩ (by kernel_rfl) rfl
    (fun f fn hf hfn => by
      obtain rfl : f = 5 := Option.some.inj ((show Tryz.prog.funcNamed "caisson/caissonlaw12.BindKeys" = some 5 by kernel_rfl).symm.trans hf) |>.symm
      obtain rfl : fn = Tryz.f5 := (Option.some.inj (Tryz.func5.symm.trans hfn)).symm
      exact ⟨by kernel_rfl, fun j t ht => by
        rw [Tryz.params5] at ht
        have hm : t ∈ [35] := by
          have := Array.mem_of_getElem? ht
          simp at this
          simp [this]
        have hall : ([35].all fun u => !Tryz.prog.wantsStandIn u) = true := by kernel_rfl
        exact (show Tryz.prog.wantsStandIn t = false by simpa using List.all_eq_true.1 hall t hm)⟩)
    (by kernel_rfl)
#print axioms proved
end Go.Proofs.YtijnepmlnfcpnaaGreatDoor.bindKeys
