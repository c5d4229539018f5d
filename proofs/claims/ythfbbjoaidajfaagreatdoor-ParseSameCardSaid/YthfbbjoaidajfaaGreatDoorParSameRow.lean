-- GN ParSd
/-
  PARSE: two queries are the same just if they are, item by item and node by node: whatever two queries: the row and its card.
-/
import Derived.Test.YthfbbjoaidajfaaGreatDoorParSame
import Derived.Test.YthfbbjoaidajfaaGreatDoorParSdFns
import Derived.Test.YthfbbjoaidajfaaGreatDoorParLaid
import Derived.Test.YthfbbjoaidajfaaGreatDoorRows
import Derived.Test.YthfbbjoaidajfaaGreatDoorCards
import Derived.Test.YthfbbjoaidajfaaGreatDoorTie
import Derived.ProofKit
import Derived.OpenShut
import Derived.LaidMore
import Derived.Lay
import Derived.SevenTiedAt
import Derived.Stop.Joined
set_option linter.unusedVariables false
set_option linter.unusedSimpArgs false
set_option linter.unusedSimpArgs false
set_option linter.unusedVariables false
set_option maxRecDepth 100000
namespace Go.Proofs.YthfbbjoaidajfaaGreatDoor.parseSame
open Go.ChangeShapes Go.WideShapes Go.ChangeAt Go.RowKit Go.Am

theorem own : ownKnob Tryz.prog.godebug = none := by kernel_rfl
theorem laidOut : laidOutB Tryz.prog = true := by kernel_rfl

theorem law_ok {a b : Par.Query} (ha : Par.OkQ a) (hb : Par.OkQ b) : Par.G5 a b = some true := by
  open Par in
  obtain ⟨p, h1, h2⟩ := same_ok (b := b) ha
  obtain ⟨q, h3, h4⟩ := same_ok (b := a) hb
  simp only [G5, M5, m5_0, m5_1, m5_2, seqM, condM, blockM, skipM, exitM, retM, S11, h1, h2, h3, h4, Option.bind_some, cond_true, beq_self_eq_true, Bool.and_self]

theorem contract (H : Type) (enc : TypeId × Value → H) (W : World) (base : Nat) (args : Array Value) (ds gs : List (DataW H)) (before : List MemPlace)
    (hval : ∀ (j : Nat) t v, Tryz.f5.params[j]? = some t → args[j]? = some v → Value.okWide Tryz.prog W .any base t v)
    (hW : DataW.Whole enc Tryz.prog Tryz.f5.params.toList Rows.parseSameSpec.vars false W args.toList ds gs before) (hL : laidMetH Tryz.prog Rows.parseSameRow.laid W) :
    Calls Tryz.prog 5 args W fun e W' => ∃ v, e = .returned v ∧ Rows.parseSameSpec.post enc Tryz.prog Tryz.f5 false true false false W args v W' := by
  have hW' := hW
  obtain ⟨p, q, hA0, hV, rfl, hfz, hnd⟩ := hW
  have hA : DataW.TrodAll enc Tryz.prog W 0 (fun _ => true) true Tryz.f5.params.toList args.toList ds p := hA0
  rw [Tryz.params5] at hA hval
  obtain ⟨v0, v1, d0, d1, p0, p1, rfl, rfl, rfl, h0, h1⟩ := trodAll_two hA
  obtain ⟨rfl, rfl⟩ := trodVars_none hV
  have k0 := h0
  have k1 := h1
  have lt0 : ∀ x ∈ p0, x.block < W.heap.size := by obtain ⟨m, hm⟩ := k0; exact DataW.trod_lt m _ _ _ hm
  have lt1 : ∀ x ∈ p1, x.block < W.heap.size := by obtain ⟨m, hm⟩ := k1; exact DataW.trod_lt m _ _ _ hm
  have hv0 := hval 0 27 v0 rfl rfl
  have hv1 := hval 1 27 v1 rfl rfl
  unfold Value.okWide at hv0 hv1
  rw [show Tryz.prog.underlying 27 = some (.struct _) from rfl] at hv0 hv1
  obtain ⟨cs0, rfl, _, _⟩ := hv0
  obtain ⟨cs1, rfl, _, _⟩ := hv1
  obtain ⟨fuel0, hf0⟩ := h0
  obtain ⟨fuel1, hf1⟩ := h1
  obtain ⟨xs0, hx0, hc0, _⟩ := trod_cont fuel0 _ _ _ _ hf0
  obtain ⟨xs1, hx1, hc1, _⟩ := trod_cont fuel1 _ _ _ _ hf1
  obtain ⟨a, ⟨a0, a1, a2, rfl, sa0, sa1, sa2⟩, oka⟩ := Par.query_q hc0
  obtain ⟨b, ⟨b0, b1, b2, rfl, sb0, sb1, sb2⟩, okb⟩ := Par.query_q hc1
  have hrun := Par.G5_spec a b a0 sa0 a1 sa1 a2 sa2 b0 sb0 b1 sb1 b2 sb2 true (law_ok oka okb) AHeap.empty
  obtain ⟨n, hn⟩ := of_run hrun
  have hrel : VsRel (allCells W) (fun _ => none) [.agg [a0, .str a.Table, a1, .bool a.Grouped, a2], .agg [b0, .str b.Table, b1, .bool b.Grouped, b2]] (#[.agg cs0, .agg cs1] : Array Value).toList := .cons (.agg hx0) (.cons (.agg hx1) .nil)
  have hG : GlobOk Par.Cp (allCells W) := by
    have hL' := hL
    rw [MakeChecks.laidMetH_plain _ _ _ (by kernel_rfl)] at hL'
    obtain ⟨ps, hl, _⟩ := hL'
    exact Par.globOk hl (by simp [Rows.parseSameRow]) (by simp [Rows.parseSameRow]) (by simp [Rows.parseSameRow])
  clear hA0
  simp only [List.append_nil] at hW'
  refine (law_callsF (C := Par.Cp) Par.names Par.mixed Par.summOk Tryz.func5 (body := bodyOf Tryz.f5) rfl rfl rfl hG hrel hn).mono fun e W' ⟨he, bel⟩ => ?_
  subst he
  exact ⟨_, rfl, _, _, _, [], _, [], hW', trodAll_mk1 (shut_bool Tryz.underlying4 _), (trodAll_cons_mk (Below.trod laidOut (by kernel_rfl) (of_decide_eq_true (by kernel_rfl)) k0 bel lt0) (trodAll_cons_mk (Below.trod laidOut (by kernel_rfl) (of_decide_eq_true (by kernel_rfl)) k1 bel lt1) trodAll_mk0)), rfl, bel.frame _, fun h => by cases h⟩

theorem lifted (os : Os) (started : os.Started) (H : Type) (enc : TypeId × Value → H) :
    ReturnsInHanded {} Tryz.checked os 5 .any (fun w args => (Rows.parseSameSpec.pre enc Tryz.prog Tryz.f5 Rows.parseSameRow.domain false w args ∧ laidMetH Tryz.prog Rows.parseSameRow.laid w) ∧ sizedMet enc Tryz.prog Tryz.f5 (OpenSpec.ofChange Rows.parseSameSpec) false w args)
      (Rows.parseSameSpec.post enc Tryz.prog Tryz.f5 false true false false) := by
  refine returnsInHanded_of_change_and (C := Tryz.checked) (X := fun w _ => laidMetH Tryz.prog Rows.parseSameRow.laid w) (fun _ _ _ hh h => h.of_heap hh) own started (by kernel_rfl) Tryz.func5
    (ChangeSpec.witness_shaped (enc := enc) (C := Tryz.checked) (os := os) (X := fun w _ => laidMetH Tryz.prog Rows.parseSameRow.laid w) false (World.laidAll Tryz.prog os Rows.parseSameRow.laid) #[.agg #[.slice none 0 0, .string .empty, .pointer none, .bool false, .slice none 0 0], .agg #[.slice none 0 0, .string .empty, .pointer none, .bool false, .slice none 0 0]] 8 (World.laidAll_os _ _ _)
      (World.shaped_of_ZipB (by kernel_rfl) (by kernel_rfl)) (by kernel_rfl) (by kernel_rfl) (by kernel_rfl)
      (by rw [MakeChecks.laidMetH_plain _ _ _ (by kernel_rfl)]; exact laidMet_laidAll _ (by kernel_rfl) (by kernel_rfl))) ?_
  intro W base args ds gs before hval0 hW hc _ hL _
  exact contract H enc W base args ds gs before hval0 hW hL

theorem holds : Rows.ParseSameSaid :=
  OpenClaim.holds_of_wide 5 Tryz.f5 rfl rfl rfl rfl rfl rfl rfl ⟨rfl, rfl, rfl, rfl, rfl⟩ rfl rfl rfl rfl rfl (by kernel_rfl) Tryz.func5 (by kernel_rfl)
    (of_decide_eq_true (by kernel_rfl)) (by unfold Func.isWrapper; first | (rw [if_pos (by decide +kernel)]; kernel_rfl) | (rw [if_neg (by decide +kernel)]; exact ⟨rfl, rfl⟩))
    (fun os started H enc _ => lifted os started H enc)

/-- TWO QUERIES ARE THE SAME JUST IF THEY ARE. -/
theorem proved : Rows.ParseSameCardSaid :=
  Claim7.holds_tied_plain_at .later [] [.data, .data, .data, .data, .sentinel, .sentinel, .data, .pinned] true (true, "5389543297a987395f2ece690d2e85abec18d6bd05d8f508c7983b4c5fe827c3") true
    holds (fun _ h => by cases h) (by kernel_rfl) (fun _ h => by cases h) parseSame_row_tie rfl ⟨rfl, rfl⟩ (by kernel_rfl) rfl
    (fun f fn hf hfn => by
      obtain rfl : f = 5 := Option.some.inj ((show Tryz.prog.funcNamed "caisson/caissonlaw10.ParseSame" = some 5 by kernel_rfl).symm.trans hf) |>.symm
      obtain rfl : fn = Tryz.f5 := (Option.some.inj (Tryz.func5.symm.trans hfn)).symm
      exact ⟨by kernel_rfl, fun j t ht => by
        rw [Tryz.params5] at ht
        have hm : t ∈ [27] := by
          have := Array.mem_of_getElem? ht
          simp at this
          simp [this]
        have hall : ([27].all fun u => !Tryz.prog.wantsStandIn u) = true := by kernel_rfl
        exact (show Tryz.prog.wantsStandIn t = false by simpa using List.all_eq_true.1 hall t hm)⟩)
    (by kernel_rfl)
#print axioms proved
end Go.Proofs.YthfbbjoaidajfaaGreatDoor.parseSame
