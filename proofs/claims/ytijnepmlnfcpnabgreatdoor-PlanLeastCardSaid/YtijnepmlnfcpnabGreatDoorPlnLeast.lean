/-
  PLAN: the law PlanLeast holds of its typed function.
-/
-- GN Pln PlnB PlnC
import Derived.Test.YtijnepmlnfcpnabGreatDoorPlnLaw
import Derived.Test.YtijnepmlnfcpnabGreatDoorPlnCFns
set_option linter.unusedVariables false
set_option linter.unusedSimpArgs false
set_option linter.unusedSimpArgs false
set_option linter.unusedVariables false
set_option maxRecDepth 100000
namespace Go.Proofs.Pln
open Go Go.Am Go.Proofs

theorem law_loop (b : Bound) (x : Offer) (pl : Plan) (hP : ∀ v ∈ x.Views, ((!meas b) && may (needN b) x.Head v) = true → ¬ (v.Rows < pl.Cost ∧ pl.Cost > 0)) (hl : x.Views.length ≤ 9223372036854775807) :
    ∀ (r p : List ViewInfo) (s : Fr3) (hv : x.Views = p ++ r) (h4 : s.t4 = x) (h9 : s.t9 = needN b) (h10 : s.t10 = meas b) (h8 : s.t8 = pl) (h11 : s.t11 = (p.length : Int)),
      ∃ s', loopM L3_10 s = some (.ext 0, s') ∧ s'.t3 = s.t3 ∧ s'.t4 = x ∧ s'.t5 = s.t5 ∧ s'.t7 = s.t7 ∧ s'.t8 = pl ∧ s'.t9 = needN b ∧ s'.t10 = meas b := by
  intro r
  induction r with
  | nil =>
    intro p s hv h4 h9 h10 h8 h11
    rw [List.append_nil] at hv
    have h : decide ((p.length : Int) < (x.Views.length : Int)) = false := by rw [hv]; simp
    exact ⟨{ s with t33 := false }, loopM_ext (by simp only [L3_10, m3_9, seqM, condM, blockM, skipM, exitM, retM, h4, h11, h, if_true]), rfl, h4, rfl, rfl, h8, h9, h10⟩
  | cons v r ih =>
    intro p s hv h4 h9 h10 h8 h11
    have hl2 : x.Views.length = p.length + (r.length + 1) := by rw [hv]; simp
    have h : decide ((p.length : Int) < (x.Views.length : Int)) = true := by rw [hl2]; simp; omega
    have w1 : IntKind.wrap .i64 ((p.length : Int) + 1) = (((p ++ [v]).length : Nat) : Int) := by
      rw [wrap64 (by omega) (by omega)]; simp
    have hat : at? x.Views (p.length : Int) = some v := by rw [hv, at_nat]; simp
    have hmem : v ∈ x.Views := by rw [hv]; simp
    have hc : (cond (((!meas b) && (v.State == 2)) && (v.Seq == x.Head)) (some (cov v.Set (needN b))) (some false)) = some ((((!meas b) && (v.State == 2)) && (v.Seq == x.Head)) && cov v.Set (needN b)) := by
      cases (((!meas b) && (v.State == 2)) && (v.Seq == x.Head)) <;> rfl
    have hz : (((((!meas b) && (v.State == 2)) && (v.Seq == x.Head)) && ((((!meas b) && (v.State == 2)) && (v.Seq == x.Head)) && cov v.Set (needN b))) && ((decide (v.Rows < pl.Cost)) && (decide (pl.Cost > 0)))) = false := by
      have hp := hP v hmem
      unfold may at hp
      cases hq : ((decide (v.Rows < pl.Cost)) && (decide (pl.Cost > 0))) with
      | false => simp
      | true =>
        have hq2 : v.Rows < pl.Cost ∧ pl.Cost > 0 := by simpa using hq
        cases hm : ((!meas b) && (((v.State == 2) && (v.Seq == x.Head)) && cov v.Set (needN b))) with
        | true => exact absurd hq2 (hp hm)
        | false =>
          cases h1 : meas b <;> cases h2 : (v.State == 2) <;> cases h3 : (v.Seq == x.Head) <;> cases h5 : cov v.Set (needN b) <;> simp_all
    have hs : ∃ s2, L3_10 s = some (.nrm, s2) ∧ s2.t4 = x ∧ s2.t9 = needN b ∧ s2.t10 = meas b ∧ s2.t8 = pl ∧ s2.t11 = (((p ++ [v]).length : Nat) : Int) ∧ s2.t3 = s.t3 ∧ s2.t5 = s.t5 ∧ s2.t7 = s.t7 := by
      simp only [L3_10, m3_9, m3_8, m3_7, m3_5, seqM, condM, blockM, skipM, exitM, retM, h4, h11, h, hat, g8, h9, h10, h8, hc, hz, Option.bind_some, w1]
      exact ⟨_, rfl, rfl, rfl, rfl, rfl, rfl, rfl, rfl, rfl⟩
    obtain ⟨s2, e2, k4, k9, k10, k8, k11, k3, k5, k7⟩ := hs
    rw [loopM_nrm e2]
    obtain ⟨s', e', q3, q4, q5, q7, q8, q9, q10⟩ := ih (p ++ [v]) s2 (by rw [hv]; simp) k4 k9 k10 k8 k11
    exact ⟨s', e', q3.trans k3, q4, q5.trans k5, q7.trans k7, q8, q9, q10⟩

theorem least_cost (b : Bound) (x : Offer) : ∀ v ∈ x.Views, ((!meas b) && may (needN b) x.Head v) = true → ¬ (v.Rows < (ch (needN b) x.Head x.Facts (if meas b = true then [] else x.Views)).Cost ∧ (ch (needN b) x.Head x.Facts (if meas b = true then [] else x.Views)).Cost > 0) := by
  intro v hv hq
  have hm : meas b = false := by cases h : meas b with | false => rfl | true => rw [h] at hq; simp at hq
  have hq2 : may (needN b) x.Head v = true := by rw [hm] at hq; simpa using hq
  rw [hm]
  simp only [Bool.false_eq_true, if_false]
  have h1 := mr_nonneg v
  have h2 : mr v = v.Rows ∨ mr v = 0 := by unfold mr; split <;> omega
  rcases ch_cases (needN b) x.Head x.Facts x.Views with ⟨e, hle⟩ | ⟨z, hz, hqz, e, hzf, hle⟩
  · have := hle v hv hq2
    have := fx_nonneg x.Facts
    rw [e]
    simp only
    omega
  · have := hle v hv hq2
    rw [e]
    simp only
    omega
theorem less_cost (b : Bound) (x : Offer) (more : ViewInfo) : (ch (needN b) x.Head x.Facts (if meas b = true then [] else more :: x.Views)).Cost ≤ (ch (needN b) x.Head x.Facts (if meas b = true then [] else x.Views)).Cost := by
  cases hm : meas b with
  | true => exact Int.le_refl _
  | false =>
    simp only [Bool.false_eq_true, if_false]
    rcases ch_cases (needN b) x.Head x.Facts x.Views with ⟨e, hle⟩ | ⟨z, hz, hqz, e, hzf, hle⟩ <;> rcases ch_cases (needN b) x.Head x.Facts (more :: x.Views) with ⟨e', hle'⟩ | ⟨z', hz', hqz', e', hzf', hle'⟩
    · rw [e, e']; exact Int.le_refl _
    · rw [e, e']; exact hzf'
    · have := hle' z (List.mem_cons_of_mem _ hz) hqz
      rw [e, e']; simp only; omega
    · have := hle' z (List.mem_cons_of_mem _ hz) hqz
      rw [e, e']; exact this
theorem covered (b : Bound) (x : Offer) : ((!meas b) || (ch (needN b) x.Head x.Facts (if meas b = true then [] else x.Views)).Base) = true ∧ ((ch (needN b) x.Head x.Facts (if meas b = true then [] else x.Views)).Base = true ∨ cov (ch (needN b) x.Head x.Facts (if meas b = true then [] else x.Views)).Set (needN b) = true) := by
  rcases ch_cases (needN b) x.Head x.Facts (if meas b = true then [] else x.Views) with ⟨e, hle⟩ | ⟨z, hz, hqz, e, hzf, hle⟩
  · rw [e]; exact ⟨by simp, .inl rfl⟩
  · cases hm : meas b with
    | true => rw [hm] at hz; simp at hz
    | false => rw [hm] at e; rw [e]; exact ⟨rfl, .inr (may_cov hqz)⟩
set_option maxHeartbeats 4000000 in
theorem law_ok (b : Bound) (x : Offer) (more : ViewInfo) (hb : b.Sets.length ≤ 9223372036854775807) (hv : x.Views.length * 48 + 48 ≤ 140737488355328) : G3 b x more = some true := by
  have hl : x.Views.length ≤ 9223372036854775807 := by omega
  have hl1 : (more :: x.Views).length ≤ 9223372036854775807 := by simp only [List.length_cons]; omega
  obtain ⟨pl, hpl⟩ : ∃ pl, pl = ch (needN b) x.Head x.Facts (if meas b = true then [] else x.Views) := ⟨_, rfl⟩
  obtain ⟨ql, hql⟩ : ∃ ql, ql = ch (needN b) x.Head x.Facts (if meas b = true then [] else more :: x.Views) := ⟨_, rfl⟩
  have hP := least_cost b x
  have hQ := less_cost b x more
  obtain ⟨hB, hC⟩ := covered b x
  rw [← hpl] at hP hQ hB hC
  rw [← hql] at hQ
  have e6 := g6 b hb x.Views hl x.Head x.Facts
  have e6' := g6 b hb (more :: x.Views) hl1 x.Head x.Facts
  rw [← hpl] at e6
  rw [← hql] at e6'
  have a1 : appT 48 [] [more] = some [more] := by
    unfold appT; rw [if_pos ⟨by simp, by simp⟩]; rfl
  have a2 : appT 48 [more] x.Views = some (more :: x.Views) := by
    unfold appT; rw [if_pos ⟨by simp only [List.length_cons, List.length_nil]; omega, by simp only [List.length_cons, List.length_nil]; omega⟩]; rfl
  have hpre : ∃ s1 : Fr3, seqM m3_15 (seqM m3_14 (seqM m3_13 (seqM m3_12 m3_11))) { (default : Fr3) with t0 := b, t1 := x, t2 := more } = some (.nrm, s1) ∧ s1.t3 = b ∧ s1.t4 = x ∧ s1.t5 = more ∧ s1.t7 = true ∧ s1.t8 = pl ∧ s1.t9 = needN b ∧ s1.t10 = meas b ∧ s1.t11 = 0 := by
    simp only [m3_15, m3_14, m3_13, m3_12, m3_11, seqM, condM, blockM, skipM, exitM, retM, S5, e6, g7 b hb, Option.bind_some]
    exact ⟨_, rfl, rfl, rfl, rfl, rfl, rfl, rfl, rfl, rfl⟩
  obtain ⟨s1, e1, k3, k4, k5, k7, k8, k9, k10, k11⟩ := hpre
  obtain ⟨s', hs, q3, q4, q5, q7, q8, q9, q10⟩ := law_loop b x pl hP hl x.Views [] s1 rfl k4 k9 k10 k8 k11
  rw [k3] at q3
  rw [k5] at q5
  rw [k7] at q7
  have hcost : decide (ql.Cost ≤ pl.Cost) = true := by simpa using hQ
  have hlast : (cond (true && true && true) ((cond (!pl.Base) (some (cov pl.Set (needN b))) (some false)).bind fun x8 => some (pl.Base || x8)) (some false)) = some true := by
    rcases hC with h | h
    · rw [h]; rfl
    · rw [h]; cases pl.Base <;> rfl
  have e2 : ∃ s2, M3 { (default : Fr3) with t0 := b, t1 := x, t2 := more } = some (.ret, s2) ∧ s2.t6 = true := by
    simp only [seqM, m3_15, m3_14, m3_13, m3_12, m3_11, S5, e6, g7 b hb, Option.bind_some] at e1
    cases e1
    simp only [M3, m3_15, m3_14, m3_13, m3_12, m3_11, m3_4, m3_3, m3_2, m3_1, m3_0, seqM, condM, blockM, skipM, exitM, retM, S5, e6, g7 b hb, Option.bind_some, hs, if_true, q3, q4, q5, q7, q8, q9, q10, a1, a2, e6', g8, hcost, hB]
    rw [hlast]
    exact ⟨_, rfl, rfl⟩
  obtain ⟨s2, e2, h6⟩ := e2
  unfold G3
  rw [e2]
  exact congrArg some h6
end Go.Proofs.Pln
