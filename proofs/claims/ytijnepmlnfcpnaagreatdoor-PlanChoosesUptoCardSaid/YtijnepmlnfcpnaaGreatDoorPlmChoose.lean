/-
  PLAN: the choice in plain terms.
-/
-- GN Plm PlmB
import Derived.Test.YtijnepmlnfcpnaaGreatDoorPlmPlain
import Derived.Test.YtijnepmlnfcpnaaGreatDoorPlmBFns
set_option linter.unusedVariables false
set_option linter.unusedSimpArgs false
set_option linter.unusedSimpArgs false
set_option linter.unusedVariables false
set_option maxRecDepth 100000
namespace Go.Proofs.Plm
open Go Go.Am Go.Proofs

theorem dep_sz : ∀ x : TestT, dep x ≤ sz x
  | .nil => Nat.le_refl _
  | .mk _ l r _ _ _ _ _ => by
    have h1 := dep_sz l
    have h2 := dep_sz r
    simp only [dep, sz]
    omega
def rdB (x : TestT) : Nat × Bool := if sz x > 4096 then (63, true) else rd x
theorem rdB_lt (x : TestT) : (rdB x).1 < 64 := by
  unfold rdB
  split
  · decide
  · exact rd_lt x
theorem reads12 (x : TestT) : G22 x = some (((rdB x).1 : Int), (rdB x).2) := by
  have hw := walk_sz x 0 (by omega)
  unfold rdB
  by_cases h : sz x > 4096
  · have hd : decide (((walkN x 0 : Nat) : Int) > 4096) = true := by rw [hw]; simp; omega
    simp only [G22, M22, m22_0, m22_1, m22_2, m22_3, seqM, condM, blockM, skipM, exitM, retM, S66, Option.bind_some, hd, if_pos h]
    rfl
  · have hd : decide (((walkN x 0 : Nat) : Int) > 4096) = false := by rw [hw]; simp; omega
    simp only [G22, M22, m22_0, m22_1, m22_2, m22_3, seqM, condM, blockM, skipM, exitM, retM, S66, Option.bind_some, hd, if_neg h, reads_ok x 5000 (by have := dep_sz x; omega)]
def mask (y : Int) : Nat := ofS (dimsL y) 0
theorem mask_lt (y : Int) : mask y < 64 := ofS_lt _ _ (by decide)
def needF (o : Nat) (l : List Int) : Nat := l.foldl (fun o y => o ||| mask y) o
theorem dimsL_len (y : Int) : (dimsL y).length ≤ 6 := by
  unfold dimsL
  split
  · exact dimsN_len _ _
  · simp
theorem or_lt64 {a b : Nat} (ha : a < 64) (hb : b < 64) : a ||| b < 64 := Nat.or_lt_two_pow (n := 6) ha hb
theorem need_loop : ∀ (r p : List Int) (o : Nat) (ho : o < 64) (hlen : (p ++ r).length ≤ 9223372036854775807) (s : Fr27) (h15 : s.t15 = p ++ r) (h16 : s.t16 = ((p ++ r).length : Int)) (h4 : s.t4 = (o : Int)) (h17 : s.t17 = (p.length : Int)), ∃ s', loopM L27_5 s = some (.ext 0, s') ∧ s'.t4 = ((needF o r : Nat) : Int) ∧ s'.t5 = s.t5 := by
  intro r
  induction r with
  | nil =>
    intro p o ho hlen s h15 h16 h4 h17
    have h : decide ((p.length : Int) < (p.length : Int)) = false := by simp
    rw [List.append_nil] at h15 h16
    exact ⟨{ s with t18 := false }, loopM_ext (by simp only [L27_5, m27_4, seqM, condM, blockM, skipM, exitM, retM, h16, h17, h]), h4, rfl⟩
  | cons y r ih =>
    intro p o ho hlen s h15 h16 h4 h17
    have hl2 : (p ++ y :: r).length = p.length + (r.length + 1) := by simp
    have h : decide ((p.length : Int) < ((p ++ y :: r).length : Int)) = true := by rw [hl2]; simp; omega
    have w1 : IntKind.wrap .i64 ((p.length : Int) + 1) = (((p ++ [y]).length : Nat) : Int) := by
      rw [hl2] at hlen
      rw [wrap64 (by omega) (by omega)]; simp
    have hat : at? (p ++ y :: r) (p.length : Int) = some y := by rw [at_nat]; simp
    have happ : p ++ y :: r = (p ++ [y]) ++ r := by simp
    have hof : G41 (dimsL y) = some ((mask y : Nat) : Int) := of_ok (by have := dimsL_len y; omega)
    rw [loopM_nrm (by simp only [L27_5, m27_4, m27_3, m27_2, m27_1, seqM, condM, blockM, skipM, exitM, retM, h15, h16, h17, h4, h, hat, Option.bind_some, list_ok, hof, or_b ho (mask_lt y), w1]; exact rfl)]
    refine ih (p ++ [y]) (o ||| mask y) (or_lt64 ho (mask_lt y)) (by rw [← happ]; exact hlen) _ ?_ ?_ ?_ ?_
    · exact happ
    · exact congrArg (fun l : List Int => (l.length : Int)) happ
    · rfl
    · rfl
theorem need_ok (b : Bound) (hb : b.Sets.length ≤ 9223372036854775807) : G27 b = some (((needF (rdB b.Where).1 b.Sets : Nat) : Int), (rdB b.Where).2) := by
  have hpre : ∃ s1 : Fr27, seqM m27_8 (seqM m27_7 m27_6) { (default : Fr27) with t0 := b } = some (.nrm, s1) ∧ s1.t15 = b.Sets ∧ s1.t16 = (b.Sets.length : Int) ∧ s1.t4 = ((rdB b.Where).1 : Int) ∧ s1.t17 = 0 ∧ s1.t5 = (rdB b.Where).2 := by
    simp only [m27_8, m27_7, m27_6, seqM, condM, blockM, skipM, exitM, retM, reads12, Option.bind_some]
    exact ⟨_, rfl, rfl, rfl, rfl, rfl, rfl⟩
  obtain ⟨s1, e1, h15, h16, h4, h17, h5⟩ := hpre
  obtain ⟨s', hs, h4', h5'⟩ := need_loop b.Sets [] (rdB b.Where).1 (rdB_lt _) hb s1 h15 h16 h4 h17
  have e2 : M27 { (default : Fr27) with t0 := b } = some (.ret, { s' with t2 := s'.t4, t3 := s'.t5 }) := by
    simp only [seqM, m27_8, m27_7, m27_6, reads12, Option.bind_some] at e1
    cases e1
    simp only [M27, m27_8, m27_7, m27_6, m27_0, seqM, condM, blockM, skipM, exitM, retM, reads12, Option.bind_some, hs, if_true]
  simp only [G27, e2, h4', h5', h5]

theorem g20 (n : Int) : G160 n = some (decide (n ≥ 0) && decide (n ≤ 63)) := by simp only [G160, M160, m160_0, m160_1, seqM, condM, blockM, skipM, exitM, retM]
def cov (a b : Int) : Bool := ((decide (a ≥ 0) && decide (a ≤ 63)) && (decide (b ≥ 0) && decide (b ≤ 63))) && (bits .andNot .i64 b a == 0)
theorem g8 (a b : Int) : G85 a b = some (cov a b) := by
  unfold cov
  simp only [G85, M85, m85_0, m85_1, seqM, condM, blockM, skipM, exitM, retM, g20, Option.bind_some]
  cases (decide (a ≥ 0) && decide (a ≤ 63)) <;> simp
theorem g98 (n : Int) : G200 n = some false := by
  have h : (n != n) = false := by simp
  simp only [G200, M200, m200_0, m200_1, seqM, condM, blockM, skipM, exitM, retM, h]
def cmpI (a b : Int) : Int := if a < b then -1 else if a > b then 1 else 0
theorem g48 (a b : Int) : G155 a b = some (cmpI a b) := by
  unfold cmpI
  by_cases h1 : a < b
  · have d1 : decide (a < b) = true := by simpa using h1
    simp only [G155, M155, m155_0, m155_1, m155_2, m155_3, m155_4, m155_5, m155_6, m155_7, m155_8, m155_9, m155_10, m155_11, m155_12, m155_13, seqM, condM, blockM, skipM, exitM, retM, g98, Option.bind_some, d1, if_pos h1]
  · have d1 : decide (a < b) = false := by simpa using h1
    by_cases h2 : a > b
    · have d2 : decide (a > b) = true := by simpa using h2
      simp only [G155, M155, m155_0, m155_1, m155_2, m155_3, m155_4, m155_5, m155_6, m155_7, m155_8, m155_9, m155_10, m155_11, m155_12, m155_13, seqM, condM, blockM, skipM, exitM, retM, g98, Option.bind_some, d1, d2, if_neg h1, if_pos h2]
    · have d2 : decide (a > b) = false := by simpa using h2
      simp only [G155, M155, m155_0, m155_1, m155_2, m155_3, m155_4, m155_5, m155_6, m155_7, m155_8, m155_9, m155_10, m155_11, m155_12, m155_13, seqM, condM, blockM, skipM, exitM, retM, g98, Option.bind_some, d1, d2, if_neg h1, if_neg h2]
theorem or_loop (a b : Int) (s : Fr154) (h6 : s.t6 = [a, b]) (h7 : s.t7 = 2) (h8 : s.t8 = 0) (h3 : s.t3 = 0) :
    (∃ s', loopM L154_6 s = some (.ret, s') ∧ s'.t2 = (if a ≠ 0 then a else b)) ∨ (∃ s', loopM L154_6 s = some (.ext 0, s') ∧ s'.t3 = 0 ∧ a = 0 ∧ b = 0) := by
  have w1 : IntKind.wrap .i64 (0 + 1) = 1 := by rw [wrap64 (by omega) (by omega)]; rfl
  have w2 : IntKind.wrap .i64 (1 + 1) = 2 := by rw [wrap64 (by omega) (by omega)]; rfl
  have a0 : at? [a, b] 0 = some a := rfl
  have a1 : at? [a, b] 1 = some b := rfl
  have d0 : decide ((0 : Int) < 2) = true := rfl
  have d1 : decide ((1 : Int) < 2) = true := rfl
  have d2 : decide ((2 : Int) < 2) = false := rfl
  by_cases ha : a = 0
  · have hn : (a != 0) = false := by simp [ha]
    by_cases hb : b = 0
    · have hm : (b != 0) = false := by simp [hb]
      refine .inr ?_
      rw [loopM_nrm (by simp only [L154_6, m154_5, m154_4, m154_3, m154_1, seqM, condM, blockM, skipM, exitM, retM, h6, h7, h8, h3, d0, a0, Option.bind_some, hn, w1]; exact rfl)]
      rw [loopM_nrm (by simp only [L154_6, m154_5, m154_4, m154_3, m154_1, seqM, condM, blockM, skipM, exitM, retM, h6, h7, h8, h3, d1, a1, Option.bind_some, hm, w2]; exact rfl)]
      refine ⟨_, loopM_ext (by simp only [L154_6, m154_5, seqM, condM, blockM, skipM, exitM, retM, h7, d2, if_true]; exact rfl), ?_, ha, hb⟩
      rfl
    · have hm : (b != 0) = true := by simp [hb]
      refine .inl ?_
      rw [loopM_nrm (by simp only [L154_6, m154_5, m154_4, m154_3, m154_1, seqM, condM, blockM, skipM, exitM, retM, h6, h7, h8, h3, d0, a0, Option.bind_some, hn, w1]; exact rfl)]
      exact ⟨_, loopM_ret (by simp only [L154_6, m154_5, m154_4, m154_3, m154_2, seqM, condM, blockM, skipM, exitM, retM, h6, h7, h8, h3, d1, a1, Option.bind_some, hm]; exact rfl), by simp [ha]⟩
  · have hn : (a != 0) = true := by simp [ha]
    exact .inl ⟨_, loopM_ret (by simp only [L154_6, m154_5, m154_4, m154_3, m154_2, seqM, condM, blockM, skipM, exitM, retM, h6, h7, h8, h3, d0, a0, Option.bind_some, hn]; exact rfl), by simp [ha]⟩
theorem g47 (a b : Int) : G154 [a, b] = some (if a ≠ 0 then a else b) := by
  unfold G154 M154
  simp only [m154_9, m154_8, m154_7, m154_0, seqM, condM, blockM, skipM, exitM, retM]
  rcases or_loop a b ({ ({ (default : Fr154) with t0 := [a, b] } : Fr154) with t3 := 0, t6 := [a, b], t7 := 2, t8 := 0 }) rfl rfl rfl rfl with ⟨s', hs, h2⟩ | ⟨s', hs, h3, ha, hb⟩
  · have e : (([a, b].length : Nat) : Int) = 2 := rfl
    simp only [e, hs, h2]
  · have e : (([a, b].length : Nat) : Int) = 2 := rfl
    simp only [e, hs, if_true, h3]
    simp [ha, hb]
/-- rows, not below none -/
def mr (x : ViewInfo) : Int := if 0 > x.Rows then 0 else x.Rows
def cmpV (a b : ViewInfo) : Int := if cmpI (mr a) (mr b) ≠ 0 then cmpI (mr a) (mr b) else cmpI a.Set b.Set
theorem g46 (a b : ViewInfo) : G153 a b = some (cmpV a b) := by
  unfold cmpV mr
  simp only [G153, M153, m153_0, m153_1, seqM, condM, blockM, skipM, exitM, retM, g48, g47, Option.bind_some]
def may (need head : Int) (x : ViewInfo) : Bool := ((x.State == 2) && (x.Seq == head)) && cov x.Set need
theorem g45 (x : ViewInfo) (head need : Int) : G152 x head need = some (may need head x) := by
  unfold may
  simp only [G152, M152, m152_0, m152_1, seqM, condM, blockM, skipM, exitM, retM, g8, Option.bind_some]
  cases (x.State == 2) && (x.Seq == head) <;> simp
end Go.Proofs.Plm
