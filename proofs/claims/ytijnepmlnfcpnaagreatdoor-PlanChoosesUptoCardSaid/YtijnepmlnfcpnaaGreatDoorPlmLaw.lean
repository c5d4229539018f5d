/-
  PLAN: no view that may answer costs less than what is chosen, and one view more never makes it dearer: the plain law.
-/
-- GN Plm PlmB
import Derived.Test.YtijnepmlnfcpnaaGreatDoorPlmChoose
set_option linter.unusedVariables false
set_option linter.unusedSimpArgs false
set_option linter.unusedSimpArgs false
set_option linter.unusedVariables false
set_option maxRecDepth 100000
namespace Go.Proofs.Plm
open Go Go.Am Go.Proofs

def stp (q : ViewInfo → Bool) (c : ViewInfo → ViewInfo → Int) (o : ViewInfo × Bool) (x : ViewInfo) : ViewInfo × Bool := if (q x && (!o.2 || decide (c x o.1 < 0))) = true then (x, true) else o
theorem least_loop (q : ViewInfo → Bool) (c : ViewInfo → ViewInfo → Int) (f : ViewInfo → Option Bool) (g : ViewInfo → ViewInfo → Option Int) (hf : ∀ x, f x = some (q x)) (hg : ∀ x y, g x y = some (c x y)) :
    ∀ (r p : List ViewInfo) (o : ViewInfo × Bool) (hlen : (p ++ r).length ≤ 9223372036854775807) (s : Fr151) (h1 : s.t1 = f) (h2 : s.t2 = g) (h12 : s.t12 = p ++ r) (h13 : s.t13 = ((p ++ r).length : Int)) (h14 : s.t14 = (p.length : Int)) (h8 : s.t8 = o.1) (h9 : s.t9 = o.2),
      ∃ s', loopM L151_6 s = some (.ext 0, s') ∧ s'.t8 = (r.foldl (stp q c) o).1 ∧ s'.t9 = (r.foldl (stp q c) o).2 := by
  intro r
  induction r with
  | nil =>
    intro p o hlen s h1 h2 h12 h13 h14 h8 h9
    have h : decide ((p.length : Int) < (p.length : Int)) = false := by simp
    rw [List.append_nil] at h12 h13
    exact ⟨{ s with t15 := false }, loopM_ext (by simp only [L151_6, m151_5, seqM, condM, blockM, skipM, exitM, retM, h13, h14, h]), h8, h9⟩
  | cons y r ih =>
    intro p o hlen s h1 h2 h12 h13 h14 h8 h9
    have hl2 : (p ++ y :: r).length = p.length + (r.length + 1) := by simp
    have h : decide ((p.length : Int) < ((p ++ y :: r).length : Int)) = true := by rw [hl2]; simp; omega
    have w1 : IntKind.wrap .i64 ((p.length : Int) + 1) = (((p ++ [y]).length : Nat) : Int) := by
      rw [hl2] at hlen
      rw [wrap64 (by omega) (by omega)]; simp
    have hat : at? (p ++ y :: r) (p.length : Int) = some y := by rw [at_nat]; simp
    have happ : p ++ y :: r = (p ++ [y]) ++ r := by simp
    by_cases hb : (q y && (!o.2 || decide (c y o.1 < 0))) = true
    · have hq : q y = true := by simp at hb; exact hb.1
      have hs : ∃ s2, L151_6 s = some (.nrm, s2) ∧ s2.t1 = f ∧ s2.t2 = g ∧ s2.t12 = p ++ y :: r ∧ s2.t13 = ((p ++ y :: r).length : Int) ∧ s2.t14 = (((p ++ [y]).length : Nat) : Int) ∧ s2.t8 = y ∧ s2.t9 = true := by
        cases ho : o.2 with
        | false =>
          simp only [L151_6, m151_5, m151_4, m151_3, m151_2, m151_1, seqM, condM, blockM, skipM, exitM, retM, h1, h2, h12, h13, h14, h8, h9, h, hat, hf, hg, hq, ho, Option.bind_some, cond_true, cond_false, Bool.not_false, Bool.not_true, Bool.true_or, Bool.and_self, w1]
          exact ⟨_, rfl, rfl, rfl, rfl, rfl, rfl, rfl, rfl⟩
        | true =>
          have hc : decide (c y o.1 < 0) = true := by rw [hq, ho] at hb; simpa using hb
          simp only [L151_6, m151_5, m151_4, m151_3, m151_2, m151_1, seqM, condM, blockM, skipM, exitM, retM, h1, h2, h12, h13, h14, h8, h9, h, hat, hf, hg, hq, ho, hc, Option.bind_some, cond_true, cond_false, Bool.not_false, Bool.not_true, Bool.or_true, Bool.and_self, w1]
          exact ⟨_, rfl, rfl, rfl, rfl, rfl, rfl, rfl, rfl⟩
      obtain ⟨s2, e2, k1, k2, k12, k13, k14, k8, k9⟩ := hs
      rw [loopM_nrm e2]
      have hst : stp q c o y = (y, true) := by unfold stp; rw [if_pos hb]
      rw [List.foldl_cons, hst]
      exact ih (p ++ [y]) (y, true) (by rw [← happ]; exact hlen) s2 k1 k2 (k12.trans happ) (k13.trans (congrArg (fun l : List ViewInfo => (l.length : Int)) happ)) k14 k8 k9
    · have hb' : (q y && (!o.2 || decide (c y o.1 < 0))) = false := by simpa using hb
      have hs : ∃ s2, L151_6 s = some (.nrm, s2) ∧ s2.t1 = f ∧ s2.t2 = g ∧ s2.t12 = p ++ y :: r ∧ s2.t13 = ((p ++ y :: r).length : Int) ∧ s2.t14 = (((p ++ [y]).length : Nat) : Int) ∧ s2.t8 = o.1 ∧ s2.t9 = o.2 := by
        cases hq : q y with
        | false =>
          simp only [L151_6, m151_5, m151_4, m151_3, m151_2, m151_1, seqM, condM, blockM, skipM, exitM, retM, h1, h2, h12, h13, h14, h8, h9, h, hat, hf, hg, hq, Option.bind_some, cond_true, cond_false, Bool.false_and, w1]
          exact ⟨_, rfl, rfl, rfl, rfl, rfl, rfl, rfl, rfl⟩
        | true =>
          rw [hq] at hb'
          have ho : o.2 = true := by cases h : o.2 with | true => rfl | false => rw [h] at hb'; simp at hb'
          have hc : decide (c y o.1 < 0) = false := by rw [ho] at hb'; simpa using hb'
          simp only [L151_6, m151_5, m151_4, m151_3, m151_2, m151_1, seqM, condM, blockM, skipM, exitM, retM, h1, h2, h12, h13, h14, h8, h9, h, hat, hf, hg, hq, ho, hc, Option.bind_some, cond_true, cond_false, Bool.not_false, Bool.not_true, Bool.or_false, Bool.and_false, w1]
          exact ⟨_, rfl, rfl, rfl, rfl, rfl, rfl, rfl, rfl⟩
      obtain ⟨s2, e2, k1, k2, k12, k13, k14, k8, k9⟩ := hs
      rw [loopM_nrm e2]
      have hst : stp q c o y = o := by unfold stp; rw [if_neg hb]
      rw [List.foldl_cons, hst]
      exact ih (p ++ [y]) o (by rw [← happ]; exact hlen) s2 k1 k2 (k12.trans happ) (k13.trans (congrArg (fun l : List ViewInfo => (l.length : Int)) happ)) k14 k8 k9
def zV : ViewInfo := { Set := 0, State := 0, Seq := 0, Rows := 0, Bytes := 0, Readers := 0 }
def lst (q : ViewInfo → Bool) (c : ViewInfo → ViewInfo → Int) (l : List ViewInfo) : ViewInfo × Bool := l.foldl (stp q c) (zV, false)
theorem g44 {q : ViewInfo → Bool} {c : ViewInfo → ViewInfo → Int} {f : ViewInfo → Option Bool} {g : ViewInfo → ViewInfo → Option Int} (hf : ∀ x, f x = some (q x)) (hg : ∀ x y, g x y = some (c x y)) (l : List ViewInfo) (hl : l.length ≤ 9223372036854775807) :
    G151 l f g = some (lst q c l) := by
  unfold G151 M151
  simp only [m151_10, m151_9, m151_8, m151_7, m151_0, seqM, condM, blockM, skipM, exitM, retM]
  obtain ⟨s', hs, e8, e9⟩ := least_loop q c f g hf hg l [] (zV, false) hl ({ ({ (default : Fr151) with t0 := l, t1 := f, t2 := g } : Fr151) with t6 := zV, t8 := zV, t9 := false, t12 := l, t13 := (l.length : Int), t14 := 0 }) rfl rfl rfl rfl rfl rfl rfl
  simp only [zV] at hs
  simp only [hs, if_true, e8, e9]
  rfl
def ch (need head facts : Int) (l : List ViewInfo) : Plan :=
  let F := if 0 > facts then 0 else facts
  let z := lst (may need head) cmpV l
  if (!z.2 || decide (z.1.Rows > F)) = true then { Base := true, Set := 0, Cost := F } else { Base := false, Set := z.1.Set, Cost := mr z.1 }
theorem g17 (need head facts : Int) (l : List ViewInfo) (hl : l.length ≤ 9223372036854775807) : G81 need l head facts = some (ch need head facts l) := by
  have h44 := g44 (f := fun x0_ => G152 x0_ head need) (g := G153) (fun x => g45 x head need) g46 l hl
  unfold ch
  simp only
  by_cases hb : (!(lst (may need head) cmpV l).2 || decide ((lst (may need head) cmpV l).1.Rows > (if 0 > facts then 0 else facts))) = true
  · rw [if_pos hb]
    simp only [G81, M81, m81_0, m81_1, m81_2, m81_3, m81_4, m81_5, seqM, condM, blockM, skipM, exitM, retM, h44, Option.bind_some, hb]
  · rw [if_neg hb]
    have hb' : (!(lst (may need head) cmpV l).2 || decide ((lst (may need head) cmpV l).1.Rows > (if 0 > facts then 0 else facts))) = false := by simpa using hb
    simp only [G81, M81, m81_0, m81_1, m81_2, m81_3, m81_4, m81_5, seqM, condM, blockM, skipM, exitM, retM, h44, Option.bind_some, hb']
    rfl
def needN (b : Bound) : Int := ((needF (rdB b.Where).1 b.Sets : Nat) : Int)
def meas (b : Bound) : Bool := (rdB b.Where).2
theorem g7 (b : Bound) (hb : b.Sets.length ≤ 9223372036854775807) : G27 b = some (needN b, meas b) := need_ok b hb
theorem g6 (b : Bound) (hb : b.Sets.length ≤ 9223372036854775807) (l : List ViewInfo) (hl : l.length ≤ 9223372036854775807) (head facts : Int) : G26 b l head facts = some (ch (needN b) head facts (if meas b = true then [] else l)) := by
  cases hm : meas b with
  | true =>
    simp only [G26, M26, m26_0, m26_1, m26_2, m26_3, m26_4, seqM, condM, blockM, skipM, exitM, retM, g7 b hb, hm, Option.bind_some, g17 _ _ _ [] (Nat.zero_le _), if_true]
  | false =>
    simp only [G26, M26, m26_0, m26_1, m26_2, m26_3, m26_4, seqM, condM, blockM, skipM, exitM, retM, g7 b hb, hm, Option.bind_some, g17 _ _ _ l hl, Bool.false_eq_true, if_false]

/-- what the choice of the least comes to -/
theorem cmp_neg {a b : ViewInfo} (h : cmpV a b < 0) : mr a ≤ mr b := by
  unfold cmpV cmpI at h
  by_cases h1 : mr a < mr b
  · omega
  · by_cases h2 : mr a > mr b
    · simp only [if_neg h1, if_pos h2] at h
      simp at h
    · omega
theorem cmp_nonneg {a b : ViewInfo} (h : ¬ cmpV a b < 0) : mr b ≤ mr a := by
  unfold cmpV cmpI at h
  by_cases h1 : mr a < mr b
  · simp only [if_pos h1] at h
    simp at h
  · omega
def Best (q : ViewInfo → Bool) (l : List ViewInfo) (o : ViewInfo × Bool) : Prop :=
  (o.2 = false ∧ ∀ x ∈ l, q x = false) ∨ (o.2 = true ∧ o.1 ∈ l ∧ q o.1 = true ∧ ∀ x ∈ l, q x = true → mr o.1 ≤ mr x)
theorem best_fold (q : ViewInfo → Bool) : ∀ (r p : List ViewInfo) (o : ViewInfo × Bool), Best q p o → Best q (p ++ r) (r.foldl (stp q cmpV) o)
  | [], p, o, h => by rw [List.append_nil]; exact h
  | y :: r, p, o, h => by
    have happ : p ++ y :: r = (p ++ [y]) ++ r := by simp
    rw [happ, List.foldl_cons]
    refine best_fold q r (p ++ [y]) _ ?_
    unfold stp
    by_cases hb : (q y && (!o.2 || decide (cmpV y o.1 < 0))) = true
    · rw [if_pos hb]
      have hq : q y = true := by simp at hb; exact hb.1
      refine .inr ⟨rfl, by simp, hq, fun x hx hqx => ?_⟩
      rcases h with ⟨ho, hn⟩ | ⟨ho, hm, hqo, hle⟩
      · rcases List.mem_append.1 hx with h1 | h1
        · rw [hn x h1] at hqx; cases hqx
        · simp at h1; subst h1; exact Int.le_refl _
      · have hc : cmpV y o.1 < 0 := by rw [hq, ho] at hb; simpa using hb
        have := cmp_neg hc
        rcases List.mem_append.1 hx with h1 | h1
        · have := hle x h1 hqx; show mr y ≤ mr x; omega
        · simp at h1; subst h1; exact Int.le_refl _
    · rw [if_neg hb]
      have hb' : (q y && (!o.2 || decide (cmpV y o.1 < 0))) = false := by simpa using hb
      rcases h with ⟨ho, hn⟩ | ⟨ho, hm, hqo, hle⟩
      · refine .inl ⟨ho, fun x hx => ?_⟩
        rcases List.mem_append.1 hx with h1 | h1
        · exact hn x h1
        · simp at h1; subst h1
          rw [ho] at hb'; simpa using hb'
      · refine .inr ⟨ho, List.mem_append_left _ hm, hqo, fun x hx hqx => ?_⟩
        rcases List.mem_append.1 hx with h1 | h1
        · exact hle x h1 hqx
        · simp at h1; subst h1
          rw [ho, hqx] at hb'
          have hc : ¬ cmpV x o.1 < 0 := by simpa using hb'
          exact cmp_nonneg hc
theorem lst_best (q : ViewInfo → Bool) (l : List ViewInfo) : Best q l (lst q cmpV l) := by
  have := best_fold q l [] (zV, false) (.inl ⟨rfl, fun x hx => by cases hx⟩)
  unfold lst
  simpa using this
def fx (facts : Int) : Int := if 0 > facts then 0 else facts
theorem fx_nonneg (facts : Int) : 0 ≤ fx facts := by unfold fx; split <;> omega
theorem mr_nonneg (x : ViewInfo) : 0 ≤ mr x := by unfold mr; split <;> omega
theorem rows_mr (x : ViewInfo) : x.Rows ≤ mr x := by unfold mr; split <;> omega
/-- what is chosen: all facts, where no view that may answer has as few rows; or the view of the least -/
theorem ch_cases (need head facts : Int) (l : List ViewInfo) :
    (ch need head facts l = { Base := true, Set := 0, Cost := fx facts } ∧ ∀ x ∈ l, may need head x = true → fx facts < mr x) ∨
    (∃ z ∈ l, may need head z = true ∧ ch need head facts l = { Base := false, Set := z.Set, Cost := mr z } ∧ mr z ≤ fx facts ∧ ∀ x ∈ l, may need head x = true → mr z ≤ mr x) := by
  have hB := lst_best (may need head) l
  unfold ch
  simp only
  rw [show (if 0 > facts then (0 : Int) else facts) = fx facts from rfl]
  have h0 := fx_nonneg facts
  rcases hB with ⟨h2, hn⟩ | ⟨h2, hm, hq, hle⟩
  · refine .inl ⟨?_, fun x hx hqx => by rw [hn x hx] at hqx; cases hqx⟩
    rw [if_pos (by rw [h2]; rfl)]
  · by_cases hr : (lst (may need head) cmpV l).1.Rows > fx facts
    · refine .inl ⟨?_, fun x hx hqx => ?_⟩
      · rw [if_pos (by simp [hr])]
      · have := hle x hx hqx
        have := rows_mr (lst (may need head) cmpV l).1
        omega
    · refine .inr ⟨_, hm, hq, ?_, ?_, hle⟩
      · rw [if_neg (by rw [h2]; simp; omega)]
      · unfold mr; split <;> omega
theorem may_cov {need head : Int} {x : ViewInfo} (h : may need head x = true) : cov x.Set need = true := by
  unfold may at h; simp at h; exact h.2
end Go.Proofs.Plm
