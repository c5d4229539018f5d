/-
  PLAN: the choice in plain terms.
-/
-- GN Pln PlnB
import Derived.Test.YtijnepmlnfcpnabGreatDoorPlnPlain
set_option linter.unusedVariables false
set_option linter.unusedSimpArgs false
set_option linter.unusedSimpArgs false
set_option linter.unusedVariables false
set_option maxRecDepth 100000
namespace Go.Proofs.Pln
open Go Go.Am Go.Proofs

theorem dep_sz : ∀ x : TestT, dep x ≤ sz x
  | .nil => Nat.le_refl _
  | .mk _ l r _ _ _ _ _ => by
    have h1 := dep_sz l
    have h2 := dep_sz r
    simp only [dep, sz]
    omega
def rdB (x : TestT) : Nat × Bool := if sz x > 4096 then (63, true) else rd x
theorem rdB_lt (x : TestT) : (rdB x).1 < 64 := by
  unfold rdB
  split
  · decide
  · exact rd_lt x
theorem reads12 (x : TestT) : G12 x = some (((rdB x).1 : Int), (rdB x).2) := by
  have hw := walk_sz x 0 (by omega)
  unfold rdB
  by_cases h : sz x > 4096
  · have hd : decide (((walkN x 0 : Nat) : Int) > 4096) = true := by rw [hw]; simp; omega
    simp only [G12, M12, m12_0, m12_1, m12_2, m12_3, seqM, condM, blockM, skipM, exitM, retM, S41, Option.bind_some, hd, if_pos h]
    rfl
  · have hd : decide (((walkN x 0 : Nat) : Int) > 4096) = false := by rw [hw]; simp; omega
    simp only [G12, M12, m12_0, m12_1, m12_2, m12_3, seqM, condM, blockM, skipM, exitM, retM, S41, Option.bind_some, hd, if_neg h, reads_ok x 5000 (by have := dep_sz x; omega)]
def mask (y : Int) : Nat := ofS (dimsL y) 0
theorem mask_lt (y : Int) : mask y < 64 := ofS_lt _ _ (by decide)
def needF (o : Nat) (l : List Int) : Nat := l.foldl (fun o y => o ||| mask y) o
theorem dimsL_len (y : Int) : (dimsL y).length ≤ 6 := by
  unfold dimsL
  split
  · exact dimsN_len _ _
  · simp
theorem or_lt64 {a b : Nat} (ha : a < 64) (hb : b < 64) : a ||| b < 64 := Nat.or_lt_two_pow (n := 6) ha hb
theorem need_loop : ∀ (r p : List Int) (o : Nat) (ho : o < 64) (hlen : (p ++ r).length ≤ 9223372036854775807) (s : Fr7) (h15 : s.t15 = p ++ r) (h16 : s.t16 = ((p ++ r).length : Int)) (h4 : s.t4 = (o : Int)) (h17 : s.t17 = (p.length : Int)), ∃ s', loopM L7_5 s = some (.ext 0, s') ∧ s'.t4 = ((needF o r : Nat) : Int) ∧ s'.t5 = s.t5 := by
  intro r
  induction r with
  | nil =>
    intro p o ho hlen s h15 h16 h4 h17
    have h : decide ((p.length : Int) < (p.length : Int)) = false := by simp
    rw [List.append_nil] at h15 h16
    exact ⟨{ s with t18 := false }, loopM_ext (by simp only [L7_5, m7_4, seqM, condM, blockM, skipM, exitM, retM, h16, h17, h]), h4, rfl⟩
  | cons y r ih =>
    intro p o ho hlen s h15 h16 h4 h17
    have hl2 : (p ++ y :: r).length = p.length + (r.length + 1) := by simp
    have h : decide ((p.length : Int) < ((p ++ y :: r).length : Int)) = true := by rw [hl2]; simp; omega
    have w1 : IntKind.wrap .i64 ((p.length : Int) + 1) = (((p ++ [y]).length : Nat) : Int) := by
      rw [hl2] at hlen
      rw [wrap64 (by omega) (by omega)]; simp
    have hat : at? (p ++ y :: r) (p.length : Int) = some y := by rw [at_nat]; simp
    have happ : p ++ y :: r = (p ++ [y]) ++ r := by simp
    have hof : G18 (dimsL y) = some ((mask y : Nat) : Int) := of_ok (by have := dimsL_len y; omega)
    rw [loopM_nrm (by simp only [L7_5, m7_4, m7_3, m7_2, m7_1, seqM, condM, blockM, skipM, exitM, retM, h15, h16, h17, h4, h, hat, Option.bind_some, list_ok, hof, or_b ho (mask_lt y), w1]; exact rfl)]
    refine ih (p ++ [y]) (o ||| mask y) (or_lt64 ho (mask_lt y)) (by rw [← happ]; exact hlen) _ ?_ ?_ ?_ ?_
    · exact happ
    · exact congrArg (fun l : List Int => (l.length : Int)) happ
    · rfl
    · rfl
theorem need_ok (b : Bound) (hb : b.Sets.length ≤ 9223372036854775807) : G7 b = some (((needF (rdB b.Where).1 b.Sets : Nat) : Int), (rdB b.Where).2) := by
  have hpre : ∃ s1 : Fr7, seqM m7_8 (seqM m7_7 m7_6) { (default : Fr7) with t0 := b } = some (.nrm, s1) ∧ s1.t15 = b.Sets ∧ s1.t16 = (b.Sets.length : Int) ∧ s1.t4 = ((rdB b.Where).1 : Int) ∧ s1.t17 = 0 ∧ s1.t5 = (rdB b.Where).2 := by
    simp only [m7_8, m7_7, m7_6, seqM, condM, blockM, skipM, exitM, retM, reads12, Option.bind_some]
    exact ⟨_, rfl, rfl, rfl, rfl, rfl, rfl⟩
  obtain ⟨s1, e1, h15, h16, h4, h17, h5⟩ := hpre
  obtain ⟨s', hs, h4', h5'⟩ := need_loop b.Sets [] (rdB b.Where).1 (rdB_lt _) hb s1 h15 h16 h4 h17
  have e2 : M7 { (default : Fr7) with t0 := b } = some (.ret, { s' with t2 := s'.t4, t3 := s'.t5 }) := by
    simp only [seqM, m7_8, m7_7, m7_6, reads12, Option.bind_some] at e1
    cases e1
    simp only [M7, m7_8, m7_7, m7_6, m7_0, seqM, condM, blockM, skipM, exitM, retM, reads12, Option.bind_some, hs, if_true]
  simp only [G7, e2, h4', h5', h5]

theorem g20 (n : Int) : G20 n = some (decide (n ≥ 0) && decide (n ≤ 63)) := by simp only [G20, M20, m20_0, m20_1, seqM, condM, blockM, skipM, exitM, retM]
def cov (a b : Int) : Bool := ((decide (a ≥ 0) && decide (a ≤ 63)) && (decide (b ≥ 0) && decide (b ≤ 63))) && (bits .andNot .i64 b a == 0)
theorem g8 (a b : Int) : G8 a b = some (cov a b) := by
  unfold cov
  simp only [G8, M8, m8_0, m8_1, seqM, condM, blockM, skipM, exitM, retM, g20, Option.bind_some]
  cases (decide (a ≥ 0) && decide (a ≤ 63)) <;> simp
theorem g98 (n : Int) : G98 n = some false := by
  have h : (n != n) = false := by simp
  simp only [G98, M98, m98_0, m98_1, seqM, condM, blockM, skipM, exitM, retM, h]
def cmpI (a b : Int) : Int := if a < b then -1 else if a > b then 1 else 0
theorem g48 (a b : Int) : G48 a b = some (cmpI a b) := by
  unfold cmpI
  by_cases h1 : a < b
  · have d1 : decide (a < b) = true := by simpa using h1
    simp only [G48, M48, m48_0, m48_1, m48_2, m48_3, m48_4, m48_5, m48_6, m48_7, m48_8, m48_9, m48_10, m48_11, m48_12, m48_13, seqM, condM, blockM, skipM, exitM, retM, g98, Option.bind_some, d1, if_pos h1]
  · have d1 : decide (a < b) = false := by simpa using h1
    by_cases h2 : a > b
    · have d2 : decide (a > b) = true := by simpa using h2
      simp only [G48, M48, m48_0, m48_1, m48_2, m48_3, m48_4, m48_5, m48_6, m48_7, m48_8, m48_9, m48_10, m48_11, m48_12, m48_13, seqM, condM, blockM, skipM, exitM, retM, g98, Option.bind_some, d1, d2, if_neg h1, if_pos h2]
    · have d2 : decide (a > b) = false := by simpa using h2
      simp only [G48, M48, m48_0, m48_1, m48_2, m48_3, m48_4, m48_5, m48_6, m48_7, m48_8, m48_9, m48_10, m48_11, m48_12, m48_13, seqM, condM, blockM, skipM, exitM, retM, g98, Option.bind_some, d1, d2, if_neg h1, if_neg h2]
theorem or_loop (a b : Int) (s : Fr47) (h6 : s.t6 = [a, b]) (h7 : s.t7 = 2) (h8 : s.t8 = 0) (h3 : s.t3 = 0) :
    (∃ s', loopM L47_6 s = some (.ret, s') ∧ s'.t2 = (if a ≠ 0 then a else b)) ∨ (∃ s', loopM L47_6 s = some (.ext 0, s') ∧ s'.t3 = 0 ∧ a = 0 ∧ b = 0) := by
  have w1 : IntKind.wrap .i64 (0 + 1) = 1 := by rw [wrap64 (by omega) (by omega)]; rfl
  have w2 : IntKind.wrap .i64 (1 + 1) = 2 := by rw [wrap64 (by omega) (by omega)]; rfl
  have a0 : at? [a, b] 0 = some a := rfl
  have a1 : at? [a, b] 1 = some b := rfl
  have d0 : decide ((0 : Int) < 2) = true := rfl
  have d1 : decide ((1 : Int) < 2) = true := rfl
  have d2 : decide ((2 : Int) < 2) = false := rfl
  by_cases ha : a = 0
  · have hn : (a != 0) = false := by simp [ha]
    by_cases hb : b = 0
    · have hm : (b != 0) = false := by simp [hb]
      refine .inr ?_
      rw [loopM_nrm (by simp only [L47_6, m47_5, m47_4, m47_3, m47_1, seqM, condM, blockM, skipM, exitM, retM, h6, h7, h8, h3, d0, a0, Option.bind_some, hn, w1]; exact rfl)]
      rw [loopM_nrm (by simp only [L47_6, m47_5, m47_4, m47_3, m47_1, seqM, condM, blockM, skipM, exitM, retM, h6, h7, h8, h3, d1, a1, Option.bind_some, hm, w2]; exact rfl)]
      refine ⟨_, loopM_ext (by simp only [L47_6, m47_5, seqM, condM, blockM, skipM, exitM, retM, h7, d2, if_true]; exact rfl), ?_, ha, hb⟩
      rfl
    · have hm : (b != 0) = true := by simp [hb]
      refine .inl ?_
      rw [loopM_nrm (by simp only [L47_6, m47_5, m47_4, m47_3, m47_1, seqM, condM, blockM, skipM, exitM, retM, h6, h7, h8, h3, d0, a0, Option.bind_some, hn, w1]; exact rfl)]
      exact ⟨_, loopM_ret (by simp only [L47_6, m47_5, m47_4, m47_3, m47_2, seqM, condM, blockM, skipM, exitM, retM, h6, h7, h8, h3, d1, a1, Option.bind_some, hm]; exact rfl), by simp [ha]⟩
  · have hn : (a != 0) = true := by simp [ha]
    exact .inl ⟨_, loopM_ret (by simp only [L47_6, m47_5, m47_4, m47_3, m47_2, seqM, condM, blockM, skipM, exitM, retM, h6, h7, h8, h3, d0, a0, Option.bind_some, hn]; exact rfl), by simp [ha]⟩
theorem g47 (a b : Int) : G47 [a, b] = some (if a ≠ 0 then a else b) := by
  unfold G47 M47
  simp only [m47_9, m47_8, m47_7, m47_0, seqM, condM, blockM, skipM, exitM, retM]
  rcases or_loop a b ({ ({ (default : Fr47) with t0 := [a, b] } : Fr47) with t3 := 0, t6 := [a, b], t7 := 2, t8 := 0 }) rfl rfl rfl rfl with ⟨s', hs, h2⟩ | ⟨s', hs, h3, ha, hb⟩
  · have e : (([a, b].length : Nat) : Int) = 2 := rfl
    simp only [e, hs, h2]
  · have e : (([a, b].length : Nat) : Int) = 2 := rfl
    simp only [e, hs, if_true, h3]
    simp [ha, hb]
/-- rows, not below none -/
def mr (x : ViewInfo) : Int := if 0 > x.Rows then 0 else x.Rows
def cmpV (a b : ViewInfo) : Int := if cmpI (mr a) (mr b) ≠ 0 then cmpI (mr a) (mr b) else cmpI a.Set b.Set
theorem g46 (a b : ViewInfo) : G46 a b = some (cmpV a b) := by
  unfold cmpV mr
  simp only [G46, M46, m46_0, m46_1, seqM, condM, blockM, skipM, exitM, retM, g48, g47, Option.bind_some]
def may (need head : Int) (x : ViewInfo) : Bool := ((x.State == 2) && (x.Seq == head)) && cov x.Set need
theorem g45 (x : ViewInfo) (head need : Int) : G45 x head need = some (may need head x) := by
  unfold may
  simp only [G45, M45, m45_0, m45_1, seqM, condM, blockM, skipM, exitM, retM, g8, Option.bind_some]
  cases (x.State == 2) && (x.Seq == head) <;> simp
end Go.Proofs.Pln
