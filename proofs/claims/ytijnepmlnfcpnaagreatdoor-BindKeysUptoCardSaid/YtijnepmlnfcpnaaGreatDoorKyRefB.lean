/-
  KEYS: what the document tells of a bound query is toldB.
-/
-- GN Ky KyB
import Derived.Test.YtijnepmlnfcpnaaGreatDoorKyRef
set_option linter.unusedVariables false
set_option linter.unusedSimpArgs false
set_option linter.unusedSimpArgs false
set_option linter.unusedVariables false
set_option maxRecDepth 100000
namespace Go.Proofs.Ky
open Go Go.Am Go.Proofs

def OkP (p : Pick) : Prop := V64 p.Kind ∧ V64 p.Index
theorem picks_loop (b : Bound) (hts : b.Picks.length ≤ 9223372036854775807) (hV : ∀ p ∈ b.Picks, OkP p) :
    ∀ (q p : List Pick) (acc : List UInt8) (hv : b.Picks = p ++ q) (hlen : acc.length + (q.flatMap toldPick).length ≤ 9223372036854775807) (s : Fr19) (h0 : s.t1 = b) (h3 : s.t3 = acc) (h4 : s.t4 = (p.length : Int)),
      ∃ s', loopM L19_14 s = some (.ext 0, s') ∧ s'.t1 = b ∧ s'.t3 = acc ++ q.flatMap toldPick := by
  intro q
  induction q with
  | nil =>
    intro p acc hv hlen s h0 h3 h4
    rw [List.append_nil] at hv
    have h : decide ((p.length : Int) < (b.Picks.length : Int)) = false := by rw [hv]; simp
    exact ⟨{ s with t11 := false }, loopM_ext (by simp only [L19_14, m19_13, seqM, condM, blockM, skipM, exitM, retM, h0, h4, h, if_true]), h0, by simp [h3]⟩
  | cons y q ih =>
    intro p acc hv hlen s h0 h3 h4
    have hl2 : b.Picks.length = p.length + (q.length + 1) := by rw [hv]; simp
    have h : decide ((p.length : Int) < (b.Picks.length : Int)) = true := by rw [hl2]; simp; omega
    have w1 : IntKind.wrap .i64 ((p.length : Int) + 1) = (((p ++ [y]).length : Nat) : Int) := by
      rw [wrap64 (by omega) (by omega)]; simp
    have hat : at? b.Picks (p.length : Int) = some y := by rw [hv, at_nat]; simp
    have hy := hV y (by rw [hv]; simp)
    have hll : (toldPick y).length = 1 + ((Lib.itoa y.Kind).length + (1 + (Lib.itoa y.Index).length)) := by simp [toldPick]; omega
    simp only [List.flatMap_cons, List.length_append] at hlen
    have e1 : catT acc [112] = some (acc ++ [112]) := cat_ok (by simp only [List.length_cons, List.length_nil]; omega)
    have e3 : catT (acc ++ [112]) (Lib.itoa y.Kind) = some ((acc ++ [112]) ++ Lib.itoa y.Kind) := cat_ok (by simp only [List.length_append, List.length_cons, List.length_nil]; omega)
    have e4 : catT ((acc ++ [112]) ++ Lib.itoa y.Kind) [46] = some (((acc ++ [112]) ++ Lib.itoa y.Kind) ++ [46]) := cat_ok (by simp only [List.length_append, List.length_cons, List.length_nil]; omega)
    have e5 : catT (((acc ++ [112]) ++ Lib.itoa y.Kind) ++ [46]) (Lib.itoa y.Index) = some ((((acc ++ [112]) ++ Lib.itoa y.Kind) ++ [46]) ++ Lib.itoa y.Index) := cat_ok (by simp only [List.length_append, List.length_cons, List.length_nil]; omega)
    have e6 : (((acc ++ [112]) ++ Lib.itoa y.Kind) ++ [46]) ++ Lib.itoa y.Index = acc ++ toldPick y := by simp [toldPick]
    have hs : ∃ s2, L19_14 s = some (.nrm, s2) ∧ s2.t1 = b ∧ s2.t3 = acc ++ toldPick y ∧ s2.t4 = (((p ++ [y]).length : Nat) : Int) := by
      simp only [L19_14, m19_13, m19_12, m19_11, seqM, condM, blockM, skipM, exitM, retM, h0, h3, h4, Option.bind_some, h, hat, s75 hy.1, s75 hy.2, e1, e3, e4, e5, e6, w1]
      exact ⟨_, rfl, rfl, rfl, rfl⟩
    obtain ⟨s2, e7, k0, k3, k4⟩ := hs
    rw [loopM_nrm e7]
    obtain ⟨s', e8, q0, q3⟩ := ih (p ++ [y]) (acc ++ toldPick y) (by rw [hv]; simp) (by simp only [List.length_append]; omega) s2 k0 k3 k4
    exact ⟨s', e8, q0, by rw [q3]; simp [List.flatMap_cons]⟩
theorem names_loop (b : Bound) (hts : b.Names.length ≤ 9223372036854775807) :
    ∀ (q p : List (List UInt8)) (acc : List UInt8) (hv : b.Names = p ++ q) (hlen : acc.length + (q.flatMap (toldText 110)).length ≤ 9223372036854775807) (s : Fr19) (h0 : s.t1 = b) (h3 : s.t3 = acc) (h4 : s.t5 = (p.length : Int)),
      ∃ s', loopM L19_9 s = some (.ext 2, s') ∧ s'.t1 = b ∧ s'.t3 = acc ++ q.flatMap (toldText 110) := by
  intro q
  induction q with
  | nil =>
    intro p acc hv hlen s h0 h3 h4
    rw [List.append_nil] at hv
    have h : decide ((p.length : Int) < (b.Names.length : Int)) = false := by rw [hv]; simp
    exact ⟨{ s with t37 := false }, loopM_ext (by simp only [L19_9, m19_8, seqM, condM, blockM, skipM, exitM, retM, h0, h4, h, if_true]), h0, by simp [h3]⟩
  | cons y q ih =>
    intro p acc hv hlen s h0 h3 h4
    have hl2 : b.Names.length = p.length + (q.length + 1) := by rw [hv]; simp
    have h : decide ((p.length : Int) < (b.Names.length : Int)) = true := by rw [hl2]; simp; omega
    have w1 : IntKind.wrap .i64 ((p.length : Int) + 1) = (((p ++ [y]).length : Nat) : Int) := by
      rw [wrap64 (by omega) (by omega)]; simp
    have hat : at? b.Names (p.length : Int) = some y := by rw [hv, at_nat]; simp
    have hll : (toldText 110 y).length = 1 + ((Lib.itoa (y.length : Int)).length + (1 + y.length)) := by simp [toldText]; omega
    simp only [List.flatMap_cons, List.length_append] at hlen
    have e1 : catT acc [110] = some (acc ++ [110]) := cat_ok (by simp only [List.length_cons, List.length_nil]; omega)
    have e2 : S75 (y.length : Int) = some (Lib.itoa (y.length : Int)) := s75 (by unfold V64; omega)
    have e3 : catT (acc ++ [110]) (Lib.itoa (y.length : Int)) = some ((acc ++ [110]) ++ Lib.itoa (y.length : Int)) := cat_ok (by simp only [List.length_append, List.length_cons, List.length_nil]; omega)
    have e4 : catT ((acc ++ [110]) ++ Lib.itoa (y.length : Int)) [58] = some (((acc ++ [110]) ++ Lib.itoa (y.length : Int)) ++ [58]) := cat_ok (by simp only [List.length_append, List.length_cons, List.length_nil]; omega)
    have e5 : catT (((acc ++ [110]) ++ Lib.itoa (y.length : Int)) ++ [58]) y = some ((((acc ++ [110]) ++ Lib.itoa (y.length : Int)) ++ [58]) ++ y) := cat_ok (by simp only [List.length_append, List.length_cons, List.length_nil]; omega)
    have e6 : (((acc ++ [110]) ++ Lib.itoa (y.length : Int)) ++ [58]) ++ y = acc ++ toldText 110 y := by simp [toldText]
    have hs : ∃ s2, L19_9 s = some (.nrm, s2) ∧ s2.t1 = b ∧ s2.t3 = acc ++ toldText 110 y ∧ s2.t5 = (((p ++ [y]).length : Nat) : Int) := by
      simp only [L19_9, m19_8, m19_7, m19_6, seqM, condM, blockM, skipM, exitM, retM, h0, h3, h4, Option.bind_some, h, hat, e1, e2, e3, e4, e5, e6, w1]
      exact ⟨_, rfl, rfl, rfl, rfl⟩
    obtain ⟨s2, e7, k0, k3, k4⟩ := hs
    rw [loopM_nrm e7]
    obtain ⟨s', e8, q0, q3⟩ := ih (p ++ [y]) (acc ++ toldText 110 y) (by rw [hv]; simp) (by simp only [List.length_append]; omega) s2 k0 k3 k4
    exact ⟨s', e8, q0, by rw [q3]; simp [List.flatMap_cons]⟩
theorem sets_loop (b : Bound) (hts : b.Sets.length ≤ 9223372036854775807) (hV : ∀ n ∈ b.Sets, V64 n) :
    ∀ (q p : List Int) (acc : List UInt8) (hv : b.Sets = p ++ q) (hlen : acc.length + (q.flatMap (toldInt 115)).length ≤ 9223372036854775807) (s : Fr19) (h0 : s.t1 = b) (h3 : s.t3 = acc) (h4 : s.t6 = (p.length : Int)),
      ∃ s', loopM L19_4 s = some (.ext 4, s') ∧ s'.t1 = b ∧ s'.t3 = acc ++ q.flatMap (toldInt 115) := by
  intro q
  induction q with
  | nil =>
    intro p acc hv hlen s h0 h3 h4
    rw [List.append_nil] at hv
    have h : decide ((p.length : Int) < (b.Sets.length : Int)) = false := by rw [hv]; simp
    exact ⟨{ s with t61 := false }, loopM_ext (by simp only [L19_4, m19_3, seqM, condM, blockM, skipM, exitM, retM, h0, h4, h, if_true]), h0, by simp [h3]⟩
  | cons y q ih =>
    intro p acc hv hlen s h0 h3 h4
    have hl2 : b.Sets.length = p.length + (q.length + 1) := by rw [hv]; simp
    have h : decide ((p.length : Int) < (b.Sets.length : Int)) = true := by rw [hl2]; simp; omega
    have w1 : IntKind.wrap .i64 ((p.length : Int) + 1) = (((p ++ [y]).length : Nat) : Int) := by
      rw [wrap64 (by omega) (by omega)]; simp
    have hat : at? b.Sets (p.length : Int) = some y := by rw [hv, at_nat]; simp
    have hll : (toldInt 115 y).length = 1 + (Lib.itoa y).length := by simp [toldInt]; omega
    simp only [List.flatMap_cons, List.length_append] at hlen
    have e1 : catT acc [115] = some (acc ++ [115]) := cat_ok (by simp only [List.length_cons, List.length_nil]; omega)
    have e2 : S75 y = some (Lib.itoa y) := s75 (hV y (by rw [hv]; simp))
    have e3 : catT (acc ++ [115]) (Lib.itoa y) = some ((acc ++ [115]) ++ Lib.itoa y) := cat_ok (by simp only [List.length_append, List.length_cons, List.length_nil]; omega)
    have e6 : (acc ++ [115]) ++ Lib.itoa y = acc ++ toldInt 115 y := by simp [toldInt]
    have hs : ∃ s2, L19_4 s = some (.nrm, s2) ∧ s2.t1 = b ∧ s2.t3 = acc ++ toldInt 115 y ∧ s2.t6 = (((p ++ [y]).length : Nat) : Int) := by
      simp only [L19_4, m19_3, m19_2, m19_1, seqM, condM, blockM, skipM, exitM, retM, h0, h3, h4, Option.bind_some, h, hat, e1, e2, e3, e6, w1]
      exact ⟨_, rfl, rfl, rfl, rfl⟩
    obtain ⟨s2, e7, k0, k3, k4⟩ := hs
    rw [loopM_nrm e7]
    obtain ⟨s', e8, q0, q3⟩ := ih (p ++ [y]) (acc ++ toldInt 115 y) (by rw [hv]; simp) (by simp only [List.length_append]; omega) s2 k0 k3 k4
    exact ⟨s', e8, q0, by rw [q3]; simp [List.flatMap_cons]⟩
def OkB (b : Bound) : Prop := (b.Picks.length ≤ 9223372036854775807 ∧ ∀ p ∈ b.Picks, OkP p) ∧ b.Names.length ≤ 9223372036854775807 ∧ (b.Sets.length ≤ 9223372036854775807 ∧ ∀ n ∈ b.Sets, V64 n) ∧ OkT b.Where
set_option maxHeartbeats 4000000 in
theorem g19 (b : Bound) (hok : OkB b) (hd : dep b.Where < 5000) (hlen : (toldB b).length ≤ 9223372036854775807) : G19 b = some (toldB b) := by
  obtain ⟨⟨lp, vp⟩, ln, ⟨ls, vs⟩, ow⟩ := hok
  simp only [toldB, List.length_append] at hlen
  have hW := told_ok b.Where 5000 hd ow (by omega)
  have hpre : ∃ s1 : Fr19, seqM m19_17 (seqM m19_16 m19_15) { (default : Fr19) with t0 := b } = some (.nrm, s1) ∧ s1.t1 = b ∧ s1.t3 = [] ∧ s1.t4 = 0 := by
    simp only [m19_17, m19_16, m19_15, seqM, condM, blockM, skipM, exitM, retM]
    exact ⟨_, rfl, rfl, rfl, rfl⟩
  obtain ⟨s1, e1, k1, k3, k4⟩ := hpre
  obtain ⟨s2, hs2, a1, a3⟩ := picks_loop b lp vp b.Picks [] [] rfl (by simp only [List.length_nil]; omega) s1 k1 k3 k4
  obtain ⟨s3, hs3, b1, b3⟩ := names_loop b ln b.Names [] _ rfl (by simp only [List.nil_append]; omega) { s2 with t5 := 0 } a1 a3 rfl
  obtain ⟨s4, hs4, c1, c3⟩ := sets_loop b ls vs b.Sets [] _ rfl (by simp only [List.nil_append, List.length_append]; omega) { s3 with t6 := 0 } b1 b3 rfl
  obtain ⟨acc, hacc⟩ : ∃ acc, acc = (([] ++ b.Picks.flatMap toldPick) ++ b.Names.flatMap (toldText 110)) ++ b.Sets.flatMap (toldInt 115) := ⟨_, rfl⟩
  rw [← hacc] at c3
  have la : acc.length = (b.Picks.flatMap toldPick).length + (b.Names.flatMap (toldText 110)).length + (b.Sets.flatMap (toldInt 115)).length := by rw [hacc]; simp only [List.nil_append, List.length_append]
  have d1 : catT acc (toldT b.Where) = some (acc ++ toldT b.Where) := cat_ok (by omega)
  have hfin : acc ++ toldT b.Where = toldB b := by rw [hacc]; simp [toldB]
  have e2 : ∃ s5, M19 { (default : Fr19) with t0 := b } = some (.ret, s5) ∧ s5.t2 = toldB b := by
    simp only [seqM, m19_17, m19_16, m19_15] at e1
    cases e1
    simp only [M19, m19_17, m19_16, m19_15, m19_10, m19_5, m19_0, seqM, condM, blockM, skipM, exitM, retM, hs2, if_true, hs3, hs4, c1, c3, hW, Option.bind_some, d1, hfin]
    exact ⟨_, rfl, rfl⟩
  obtain ⟨s5, e2, h5⟩ := e2
  unfold G19
  rw [e2]
  exact congrArg some h5
end Go.Proofs.Ky
