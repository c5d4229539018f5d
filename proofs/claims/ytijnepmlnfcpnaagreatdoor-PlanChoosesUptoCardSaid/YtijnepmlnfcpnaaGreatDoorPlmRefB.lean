/-
  PLAN (aa): the document's choice of the least, and what a view more would spare.
-/
-- GN Plm PlmB
import Derived.Test.YtijnepmlnfcpnaaGreatDoorPlmRef
set_option linter.unusedVariables false
set_option linter.unusedSimpArgs false
set_option linter.unusedSimpArgs false
set_option linter.unusedVariables false
set_option maxRecDepth 100000
namespace Go.Proofs.Plm
open Go Go.Am Go.Proofs

theorem keep_mr (x : ViewInfo) : (if x.Rows < 0 then 0 else x.Rows) = mr x := rfl
theorem cmp_lt {a b : ViewInfo} : cmpV a b < 0 ↔ (mr a < mr b ∨ (mr a = mr b ∧ a.Set < b.Set)) := by
  unfold cmpV cmpI
  by_cases h1 : mr a < mr b
  · simp [h1]
  · by_cases h2 : mr a > mr b
    · simp only [if_neg h1, if_pos h2]
      simp
      omega
    · simp only [if_neg h1, if_neg h2]
      have he : mr a = mr b := by omega
      by_cases h3 : a.Set < b.Set
      · simp [h3, he]
      · by_cases h4 : a.Set > b.Set
        · simp [h3, h4]; omega
        · simp [h3, h4]; omega
def Rel (l : List ViewInfo) (o : ViewInfo × Bool) (at_ : Int) : Prop := (o.2 = false ∧ at_ = -1) ∨ (o.2 = true ∧ 0 ≤ at_ ∧ at? l at_ = some o.1)
theorem ref_least_loop (need head : Int) (l : List ViewInfo) (hlen : l.length ≤ 9223372036854775807) :
    ∀ (r p : List ViewInfo) (o : ViewInfo × Bool) (hv : l = p ++ r) (s : Fr159) (h0 : s.t0 = need) (h1 : s.t1 = l) (h2 : s.t2 = head) (h8 : s.t8 = (p.length : Int)) (hR : Rel l o s.t7),
      ∃ s', loopM L159_8 s = some (.ext 0, s') ∧ Rel l (r.foldl (stp (may need head) cmpV) o) s'.t7 := by
  intro r
  induction r with
  | nil =>
    intro p o hv s h0 h1 h2 h8 hR
    rw [List.append_nil] at hv
    have h : decide ((p.length : Int) < (l.length : Int)) = false := by rw [hv]; simp
    exact ⟨{ s with t14 := false }, loopM_ext (by simp only [L159_8, m159_7, seqM, condM, blockM, skipM, exitM, retM, h1, h8, h, if_true]), hR⟩
  | cons y r ih =>
    intro p o hv s h0 h1 h2 h8 hR
    have hl2 : l.length = p.length + (r.length + 1) := by rw [hv]; simp
    have h : decide ((p.length : Int) < (l.length : Int)) = true := by rw [hl2]; simp; omega
    have w1 : IntKind.wrap .i64 ((p.length : Int) + 1) = (((p ++ [y]).length : Nat) : Int) := by
      rw [wrap64 (by omega) (by omega)]; simp
    have hat : at? l (p.length : Int) = some y := by rw [hv, at_nat]; simp
    have hv2 : l = (p ++ [y]) ++ r := by rw [hv]; simp
    have h37 : (((!(cov y.Set need)) || (y.State != 2)) || (y.Seq != head)) = !(may need head y) := by
      unfold may
      cases h1 : cov y.Set need <;> cases h2 : (y.State == 2) <;> cases h3 : (y.Seq == head) <;> simp_all [bne]
    cases hq : may need head y with
    | false =>
      rw [hq] at h37
      have hs : ∃ s2, L159_8 s = some (.nrm, s2) ∧ s2.t0 = need ∧ s2.t1 = l ∧ s2.t2 = head ∧ s2.t8 = (((p ++ [y]).length : Nat) : Int) ∧ s2.t7 = s.t7 := by
        simp only [L159_8, m159_7, m159_6, m159_5, m159_4, m159_1, seqM, condM, blockM, skipM, exitM, retM, h0, h1, h2, h8, h, hat, g86, Option.bind_some, h37, Bool.not_false, if_true, w1]
        exact ⟨_, rfl, rfl, rfl, rfl, rfl, rfl⟩
      obtain ⟨s2, e2, k0, k1, k2, k8, k7⟩ := hs
      rw [loopM_nrm e2]
      have hst : stp (may need head) cmpV o y = o := by unfold stp; rw [hq]; rfl
      rw [List.foldl_cons, hst]
      exact ih (p ++ [y]) o hv2 s2 k0 k1 k2 k8 (by rw [k7]; exact hR)
    | true =>
      rw [hq] at h37
      rcases hR with ⟨ho, ha⟩ | ⟨ho, ha, hao⟩
      · have hneg : decide (s.t7 < 0) = true := by rw [ha]; rfl
        have hs : ∃ s2, L159_8 s = some (.nrm, s2) ∧ s2.t0 = need ∧ s2.t1 = l ∧ s2.t2 = head ∧ s2.t8 = (((p ++ [y]).length : Nat) : Int) ∧ s2.t7 = (p.length : Int) := by
          simp only [L159_8, m159_7, m159_6, m159_5, m159_4, m159_3, m159_2, m159_1, seqM, condM, blockM, skipM, exitM, retM, h0, h1, h2, h8, h, hat, g86, Option.bind_some, h37, hneg, Bool.not_true, cond_false, Bool.true_or, w1]
          exact ⟨_, rfl, rfl, rfl, rfl, rfl, rfl⟩
        obtain ⟨s2, e2, k0, k1, k2, k8, k7⟩ := hs
        rw [loopM_nrm e2]
        have hst : stp (may need head) cmpV o y = (y, true) := by unfold stp; rw [hq, ho]; rfl
        rw [List.foldl_cons, hst]
        exact ih (p ++ [y]) (y, true) hv2 s2 k0 k1 k2 k8 (by rw [k7]; exact .inr ⟨rfl, by omega, hat⟩)
      · have hneg : decide (s.t7 < 0) = false := by simp; omega
        have hx17 : ∀ c : Bool, c = decide (mr y < mr o.1) → ((c || (cond (!c) ((mr y == mr o.1) && decide (y.Set < o.1.Set)) false)) = decide (cmpV y o.1 < 0)) := by
          intro c hc
          subst hc
          rw [Bool.eq_iff_iff, decide_eq_true_iff, cmp_lt]
          by_cases h3 : mr y < mr o.1
          · simp [h3]
          · simp [h3]
        have hcond : (cond (!(decide (mr y < mr o.1))) (some ((mr y == mr o.1) && decide (y.Set < o.1.Set))) (some false)) = some (cond (!(decide (mr y < mr o.1))) ((mr y == mr o.1) && decide (y.Set < o.1.Set)) false) := by
          cases decide (mr y < mr o.1) <;> rfl
        cases hc : decide (cmpV y o.1 < 0) with
        | true =>
          have h73 := hx17 _ rfl
          rw [hc] at h73
          have hs : ∃ s2, L159_8 s = some (.nrm, s2) ∧ s2.t0 = need ∧ s2.t1 = l ∧ s2.t2 = head ∧ s2.t8 = (((p ++ [y]).length : Nat) : Int) ∧ s2.t7 = (p.length : Int) := by
            simp only [L159_8, m159_7, m159_6, m159_5, m159_4, m159_3, m159_2, m159_1, seqM, condM, blockM, skipM, exitM, retM, h0, h1, h2, h8, h, hat, hao, g86, g87, keep_mr, Option.bind_some, h37, hneg, Bool.not_true, Bool.not_false, cond_false, cond_true, Bool.false_or, hcond, h73, w1]
            exact ⟨_, rfl, rfl, rfl, rfl, rfl, rfl⟩
          obtain ⟨s2, e2, k0, k1, k2, k8, k7⟩ := hs
          rw [loopM_nrm e2]
          have hst : stp (may need head) cmpV o y = (y, true) := by unfold stp; rw [hq, ho, hc]; rfl
          rw [List.foldl_cons, hst]
          exact ih (p ++ [y]) (y, true) hv2 s2 k0 k1 k2 k8 (by rw [k7]; exact .inr ⟨rfl, by omega, hat⟩)
        | false =>
          have h73 := hx17 _ rfl
          rw [hc] at h73
          have hs : ∃ s2, L159_8 s = some (.nrm, s2) ∧ s2.t0 = need ∧ s2.t1 = l ∧ s2.t2 = head ∧ s2.t8 = (((p ++ [y]).length : Nat) : Int) ∧ s2.t7 = s.t7 := by
            simp only [L159_8, m159_7, m159_6, m159_5, m159_4, m159_3, m159_2, m159_1, seqM, condM, blockM, skipM, exitM, retM, h0, h1, h2, h8, h, hat, hao, g86, g87, keep_mr, Option.bind_some, h37, hneg, Bool.not_true, Bool.not_false, cond_false, cond_true, Bool.false_or, hcond, h73, w1]
            exact ⟨_, rfl, rfl, rfl, rfl, rfl, rfl⟩
          obtain ⟨s2, e2, k0, k1, k2, k8, k7⟩ := hs
          rw [loopM_nrm e2]
          have hst : stp (may need head) cmpV o y = o := by unfold stp; rw [hq, ho, hc]; rfl
          rw [List.foldl_cons, hst]
          exact ih (p ++ [y]) o hv2 s2 k0 k1 k2 k8 (by rw [k7]; exact .inr ⟨ho, ha, hao⟩)
theorem g159 (need head : Int) (l : List ViewInfo) (hlen : l.length ≤ 9223372036854775807) : ∃ a, G159 need l head = some a ∧ Rel l (lst (may need head) cmpV l) a := by
  unfold G159 M159
  simp only [m159_11, m159_10, m159_9, m159_0, seqM, condM, blockM, skipM, exitM, retM]
  obtain ⟨s', hs, hR⟩ := ref_least_loop need head l hlen l [] (zV, false) rfl ({ ({ (default : Fr159) with t0 := need, t1 := l, t2 := head } : Fr159) with t7 := -1, t8 := 0 }) rfl rfl rfl rfl (.inl ⟨rfl, rfl⟩)
  simp only [hs, if_true]
  exact ⟨_, rfl, hR⟩
theorem g84 (need head facts : Int) (l : List ViewInfo) (hlen : l.length ≤ 9223372036854775807) : G84 need l head facts = some (ch need head facts l) := by
  obtain ⟨a, ha, hR⟩ := g159 need head l hlen
  have hF : ∀ f : Int, (if 0 > f then (0 : Int) else f) = if f < 0 then 0 else f := fun _ => rfl
  unfold ch
  simp only [hF]
  obtain ⟨o, ho⟩ : ∃ o, o = lst (may need head) cmpV l := ⟨_, rfl⟩
  rw [← ho] at hR ⊢
  by_cases hf : facts < 0
  · have df : decide (facts < 0) = true := by simpa using hf
    simp only [if_pos hf]
    rcases hR with ⟨h2, h1⟩ | ⟨h2, h1, h3⟩
    · have d : decide (a < 0) = true := by rw [h1]; rfl
      simp only [G84, M84, m84_0, m84_1, m84_2, m84_3, m84_4, m84_5, m84_6, seqM, condM, blockM, skipM, exitM, retM, df, ha, Option.bind_some, d, Bool.not_true, cond_false, Bool.true_or, h2, Bool.not_false, if_true]
    · have d : decide (a < 0) = false := by simp; omega
      cases hr : decide (o.1.Rows > 0) with
      | true => simp only [G84, M84, m84_0, m84_1, m84_2, m84_3, m84_4, m84_5, m84_6, seqM, condM, blockM, skipM, exitM, retM, df, ha, Option.bind_some, d, h3, Bool.not_true, Bool.not_false, cond_true, cond_false, Bool.false_or, hr, h2, if_true]
      | false =>
        simp only [G84, M84, m84_0, m84_1, m84_2, m84_3, m84_4, m84_5, m84_6, seqM, condM, blockM, skipM, exitM, retM, df, ha, Option.bind_some, d, h3, g87, keep_mr, Bool.not_true, Bool.not_false, cond_true, cond_false, Bool.false_or, Bool.or_self, hr, h2, Bool.false_eq_true, if_false]
  · have df : decide (facts < 0) = false := by simpa using hf
    simp only [if_neg hf]
    rcases hR with ⟨h2, h1⟩ | ⟨h2, h1, h3⟩
    · have d : decide (a < 0) = true := by rw [h1]; rfl
      simp only [G84, M84, m84_0, m84_1, m84_2, m84_3, m84_4, m84_5, m84_6, seqM, condM, blockM, skipM, exitM, retM, df, ha, Option.bind_some, d, Bool.not_true, cond_false, Bool.true_or, h2, Bool.not_false, if_true]
    · have d : decide (a < 0) = false := by simp; omega
      cases hr : decide (o.1.Rows > facts) with
      | true => simp only [G84, M84, m84_0, m84_1, m84_2, m84_3, m84_4, m84_5, m84_6, seqM, condM, blockM, skipM, exitM, retM, df, ha, Option.bind_some, d, h3, Bool.not_true, Bool.not_false, cond_true, cond_false, Bool.false_or, hr, h2, if_true]
      | false =>
        simp only [G84, M84, m84_0, m84_1, m84_2, m84_3, m84_4, m84_5, m84_6, seqM, condM, blockM, skipM, exitM, retM, df, ha, Option.bind_some, d, h3, g87, keep_mr, Bool.not_true, Bool.not_false, cond_true, cond_false, Bool.false_or, Bool.or_self, hr, h2, Bool.false_eq_true, if_false]
theorem g28 (b : Bound) (hb : b.Sets.length ≤ 2 ^ 30) (l : List ViewInfo) (hl : l.length ≤ 9223372036854775807) (head facts : Int) : G28 b l head facts = some (ch (needN b) head facts (if meas b = true then [] else l)) := by
  have h83 : G83 b = some (needN b, meas b) := refNeed_ok b hb
  have h0 := g84 (needN b) head facts [] (Nat.zero_le _)
  have h1 := g84 (needN b) head facts l hl
  have e : ∃ s2, M28 { (default : Fr28) with t0 := b, t1 := l, t2 := head, t3 := facts } = some (.ret, s2) ∧ s2.t8 = ch (needN b) head facts (if meas b = true then [] else l) := by
    unfold M28
    cases hm : meas b with
    | true =>
      simp only [m28_4, m28_3, m28_2, m28_1, m28_0, seqM, condM, blockM, skipM, exitM, retM, h83, hm, Option.bind_some, h0, if_true]
      exact ⟨_, rfl, rfl⟩
    | false =>
      simp only [m28_4, m28_3, m28_2, m28_1, m28_0, seqM, condM, blockM, skipM, exitM, retM, h83, hm, Option.bind_some, h1, Bool.false_eq_true, if_false]
      exact ⟨_, rfl, rfl⟩
  obtain ⟨s2, e2, e8⟩ := e
  unfold G28
  rw [e2]
  exact congrArg some e8
end Go.Proofs.Plm
