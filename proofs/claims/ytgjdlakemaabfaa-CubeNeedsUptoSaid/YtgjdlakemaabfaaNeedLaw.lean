/-
  CUBE: the plain law of CubeNeeds.
-/
-- GN NeedB
import Derived.Test.YtgjdlakemaabfaaNeedBFns
set_option linter.unusedVariables false
set_option linter.unusedSimpArgs false
set_option linter.unusedSimpArgs false
set_option linter.unusedVariables false
set_option maxRecDepth 100000
namespace Go.Proofs.Need
open Go Go.Am Go.Proofs

def rdB (x : TestT) : Nat × Bool := if sz x > 4096 then (63, true) else rd x
theorem rdB_lt (x : TestT) : (rdB x).1 < 64 := by
  unfold rdB
  split
  · decide
  · exact rd_lt x
theorem reads36 (x : TestT) : G36 x = some (((rdB x).1 : Int), (rdB x).2) := by
  have hw := walk_sz x 0 (by omega)
  unfold rdB
  by_cases h : sz x > 4096
  · have hd : decide (((walkN x 0 : Nat) : Int) > 4096) = true := by rw [hw]; simp; omega
    simp only [G36, M36, m36_0, m36_1, m36_2, m36_3, seqM, condM, blockM, skipM, exitM, retM, S48, Option.bind_some, hd, if_pos h]
    rfl
  · have hd : decide (((walkN x 0 : Nat) : Int) > 4096) = false := by rw [hw]; simp; omega
    simp only [G36, M36, m36_0, m36_1, m36_2, m36_3, seqM, condM, blockM, skipM, exitM, retM, S48, SR, Option.bind_some, hd, if_neg h]
theorem reads38 (x : TestT) : G38 x = some (((rdB x).1 : Int), (rdB x).2) := by
  have hs : S50 x 4097 = some ((min (sz x) 4097 : Nat) : Int) := by
    unfold S50; rw [if_pos ⟨by omega, by omega⟩]; rfl
  unfold rdB
  by_cases h : sz x > 4096
  · have hd : decide (((min (sz x) 4097 : Nat) : Int) > 4096) = true := by simp; omega
    simp only [G38, M38, m38_0, m38_1, m38_2, m38_3, seqM, condM, blockM, skipM, exitM, retM, hs, Option.bind_some, hd, if_pos h]
    rfl
  · have hd : decide (((min (sz x) 4097 : Nat) : Int) > 4096) = false := by simp; omega
    simp only [G38, M38, m38_0, m38_1, m38_2, m38_3, seqM, condM, blockM, skipM, exitM, retM, hs, SR, Option.bind_some, hd, if_neg h]
def mask (y : Int) : Nat := ofS (dimsL y) 0
theorem mask_lt (y : Int) : mask y < 64 := ofS_lt _ _ (by decide)
def needF (o : Nat) (l : List Int) : Nat := l.foldl (fun o y => o ||| mask y) o
theorem dimsL_len (y : Int) : (dimsL y).length ≤ 6 := by
  unfold dimsL
  split
  · exact dimsN_len _ _
  · simp
theorem or_lt64 {a b : Nat} (ha : a < 64) (hb : b < 64) : a ||| b < 64 := Nat.or_lt_two_pow (n := 6) ha hb
theorem need_loop : ∀ (r p : List Int) (o : Nat) (ho : o < 64) (hlen : (p ++ r).length ≤ 2 ^ 30) (s : Fr20) (h15 : s.t15 = p ++ r) (h16 : s.t16 = ((p ++ r).length : Int)) (h4 : s.t4 = (o : Int)) (h17 : s.t17 = (p.length : Int)), ∃ s', loopM L20_5 s = some (.ext 0, s') ∧ s'.t4 = ((needF o r : Nat) : Int) ∧ s'.t5 = s.t5 := by
  intro r
  induction r with
  | nil =>
    intro p o ho hlen s h15 h16 h4 h17
    have h : decide ((p.length : Int) < (p.length : Int)) = false := by simp
    rw [List.append_nil] at h15 h16
    exact ⟨{ s with t18 := false }, loopM_ext (by simp only [L20_5, m20_4, seqM, condM, blockM, skipM, exitM, retM, h16, h17, h]), h4, rfl⟩
  | cons y r ih =>
    intro p o ho hlen s h15 h16 h4 h17
    have hl2 : (p ++ y :: r).length = p.length + (r.length + 1) := by simp
    have h : decide ((p.length : Int) < ((p ++ y :: r).length : Int)) = true := by rw [hl2]; simp; omega
    have w1 : IntKind.wrap .i64 ((p.length : Int) + 1) = (((p ++ [y]).length : Nat) : Int) := by
      rw [hl2] at hlen
      rw [wrap64 (by omega) (by omega)]; simp
    have hat : at? (p ++ y :: r) (p.length : Int) = some y := by rw [at_nat]; simp
    have happ : p ++ y :: r = (p ++ [y]) ++ r := by simp
    have hof : G37 (dimsL y) = some ((mask y : Nat) : Int) := of_ok (by have := dimsL_len y; omega)
    rw [loopM_nrm (by simp only [L20_5, m20_4, m20_3, m20_2, m20_1, seqM, condM, blockM, skipM, exitM, retM, h15, h16, h17, h4, h, hat, Option.bind_some, list_ok, hof, or_b ho (mask_lt y), w1]; exact rfl)]
    refine ih (p ++ [y]) (o ||| mask y) (or_lt64 ho (mask_lt y)) (by rw [← happ]; exact hlen) _ ?_ ?_ ?_ ?_
    · exact happ
    · exact congrArg (fun l : List Int => (l.length : Int)) happ
    · rfl
    · rfl
theorem need_ok (b : Bound) (hb : b.Sets.length ≤ 2 ^ 30) : G20 b = some (((needF (rdB b.Where).1 b.Sets : Nat) : Int), (rdB b.Where).2) := by
  have hpre : ∃ s1 : Fr20, seqM m20_8 (seqM m20_7 m20_6) { (default : Fr20) with t0 := b } = some (.nrm, s1) ∧ s1.t15 = b.Sets ∧ s1.t16 = (b.Sets.length : Int) ∧ s1.t4 = ((rdB b.Where).1 : Int) ∧ s1.t17 = 0 ∧ s1.t5 = (rdB b.Where).2 := by
    simp only [m20_8, m20_7, m20_6, seqM, condM, blockM, skipM, exitM, retM, reads36, Option.bind_some]
    exact ⟨_, rfl, rfl, rfl, rfl, rfl, rfl⟩
  obtain ⟨s1, e1, h15, h16, h4, h17, h5⟩ := hpre
  obtain ⟨s', hs, h4', h5'⟩ := need_loop b.Sets [] (rdB b.Where).1 (rdB_lt _) hb s1 h15 h16 h4 h17
  have e2 : M20 { (default : Fr20) with t0 := b } = some (.ret, { s' with t2 := s'.t4, t3 := s'.t5 }) := by
    simp only [seqM, m20_8, m20_7, m20_6, reads36, Option.bind_some] at e1
    cases e1
    simp only [M20, m20_8, m20_7, m20_6, m20_0, seqM, condM, blockM, skipM, exitM, retM, reads36, Option.bind_some, hs, if_true]
  simp only [G20, e2, h4', h5', h5]
theorem refNeed_loop : ∀ (r p : List Int) (acc : List Int) (hacc : acc.length ≤ 6 * (p.length + 1)) (hlen : (p ++ r).length ≤ 2 ^ 30) (s : Fr21) (h1 : s.t1.Sets = p ++ r) (h6 : s.t6 = acc) (h7 : s.t7 = (p.length : Int)), ∃ s', loopM L21_4 s = some (.ext 0, s') ∧ s'.t6.length ≤ 2 ^ 40 ∧ ofS s'.t6 0 = needF (ofS acc 0) r ∧ s'.t5 = s.t5 := by
  intro r
  induction r with
  | nil =>
    intro p acc hacc hlen s h1 h6 h7
    rw [List.append_nil] at h1 hlen
    have h : decide ((p.length : Int) < (p.length : Int)) = false := by simp
    exact ⟨{ s with t22 := false }, loopM_ext (by simp only [L21_4, m21_3, seqM, condM, blockM, skipM, exitM, retM, h1, h7, h]), by show s.t6.length ≤ _; rw [h6]; omega, by show ofS s.t6 0 = _; rw [h6]; rfl, rfl⟩
  | cons y r ih =>
    intro p acc hacc hlen s h1 h6 h7
    have hl2 : (p ++ y :: r).length = p.length + (r.length + 1) := by simp
    have h : decide ((p.length : Int) < ((p ++ y :: r).length : Int)) = true := by rw [hl2]; simp; omega
    have w1 : IntKind.wrap .i64 ((p.length : Int) + 1) = (((p ++ [y]).length : Nat) : Int) := by
      rw [hl2] at hlen
      rw [wrap64 (by omega) (by omega)]; simp
    have hat : at? (p ++ y :: r) (p.length : Int) = some y := by rw [at_nat]; simp
    have happ : p ++ y :: r = (p ++ [y]) ++ r := by simp
    have hd := dimsL_len y
    rw [loopM_nrm (by simp only [L21_4, m21_3, m21_2, m21_1, seqM, condM, blockM, skipM, exitM, retM, h1, h6, h7, h, hat, Option.bind_some, refList_ok, app_dims (xs := acc) (by rw [hl2] at hlen; omega) hd, w1]; exact rfl)]
    have e : needF (ofS acc 0) (y :: r) = needF (ofS (acc ++ dimsL y) 0) r := by
      rw [ofS_append, ofS_or (dimsL y) (ofS acc 0)]; rfl
    rw [e]
    refine ih (p ++ [y]) (acc ++ dimsL y) (by simp; omega) (by rw [← happ]; exact hlen) _ ?_ ?_ ?_
    · exact h1.trans happ
    · rfl
    · rfl
theorem refNeed_ok (b : Bound) (hb : b.Sets.length ≤ 2 ^ 30) : G21 b = some (((needF (rdB b.Where).1 b.Sets : Nat) : Int), (rdB b.Where).2) := by
  have hdl := dimsL_len ((rdB b.Where).1 : Int)
  have ha : appT 8 [] (dimsL ((rdB b.Where).1 : Int)) = some (dimsL ((rdB b.Where).1 : Int)) := app_dims (xs := []) (by simp) hdl
  have hpre : ∃ s1 : Fr21, seqM m21_9 (seqM m21_8 (seqM m21_7 (seqM m21_6 m21_5))) { (default : Fr21) with t0 := b } = some (.nrm, s1) ∧ s1.t1.Sets = b.Sets ∧ s1.t6 = dimsL ((rdB b.Where).1 : Int) ∧ s1.t7 = 0 ∧ s1.t5 = (rdB b.Where).2 := by
    simp only [m21_9, m21_8, m21_7, m21_6, m21_5, seqM, condM, blockM, skipM, exitM, retM, reads38, refList_ok, ha, Option.bind_some]
    exact ⟨_, rfl, rfl, rfl, rfl, rfl⟩
  obtain ⟨s1, e1, h1, h6, h7, h5⟩ := hpre
  obtain ⟨s', hs, hl', ho', h5'⟩ := refNeed_loop b.Sets [] (dimsL ((rdB b.Where).1 : Int)) (by simp; omega) hb s1 h1 h6 h7
  rw [dimsL_nat (rdB_lt _), ofS_dims (rdB_lt _)] at ho'
  have hof : G39 s'.t6 = some ((ofS s'.t6 0 : Nat) : Int) := refOf_ok (by omega)
  have e2 : M21 { (default : Fr21) with t0 := b } = some (.ret, { s' with t2 := ((ofS s'.t6 0 : Nat) : Int), t3 := s'.t5 }) := by
    simp only [seqM, m21_9, m21_8, m21_7, m21_6, m21_5, reads38, refList_ok, ha, Option.bind_some] at e1
    cases e1
    simp only [M21, m21_9, m21_8, m21_7, m21_6, m21_5, m21_0, seqM, condM, blockM, skipM, exitM, retM, reads38, refList_ok, ha, Option.bind_some, hs, if_true, hof]
  simp only [G21, e2, ho', h5', h5]
/-- WHAT GROUPS MUST HAVE IS AS THE DOCUMENT SAYS. -/
theorem needs_ok (b : Bound) (hb : b.Sets.length ≤ 2 ^ 30) : G6 b = some true := by
  simp only [G6, M6, m6_0, m6_1, m6_2, m6_3, m6_4, seqM, condM, blockM, skipM, exitM, retM, S7, need_ok b hb, refNeed_ok b hb, Option.bind_some, beq_self_eq_true, Bool.and_self]
end Go.Proofs.Need
