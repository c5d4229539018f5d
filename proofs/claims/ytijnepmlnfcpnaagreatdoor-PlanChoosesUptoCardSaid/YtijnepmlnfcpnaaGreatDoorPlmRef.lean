/-
  PLAN (aa): the document's choice is the program's.
-/
-- GN Plm PlmB
import Derived.Test.YtijnepmlnfcpnaaGreatDoorPlmLaw
set_option linter.unusedVariables false
set_option linter.unusedSimpArgs false
set_option linter.unusedSimpArgs false
set_option linter.unusedVariables false
set_option maxRecDepth 100000
namespace Go.Proofs.Plm
open Go Go.Am Go.Proofs

theorem reads38 (x : TestT) : G157 x = some (((rdB x).1 : Int), (rdB x).2) := by
  have hs : F20 5000 x 4097 = some ((min (sz x) 4097 : Nat) : Int) := by
    rw [show (4097 : Int) = ((4097 : Nat) : Int) from rfl, nodes_ok 5000 x 4097 (by omega) (by omega), Nat.min_comm]
  unfold rdB
  by_cases h : sz x > 4096
  · have hd : decide (((min (sz x) 4097 : Nat) : Int) > 4096) = true := by simp; omega
    simp only [G157, M157, m157_0, m157_1, m157_2, m157_3, seqM, condM, blockM, skipM, exitM, retM, hs, Option.bind_some, hd, if_pos h]
    rfl
  · have hd : decide (((min (sz x) 4097 : Nat) : Int) > 4096) = false := by simp; omega
    simp only [G157, M157, m157_0, m157_1, m157_2, m157_3, seqM, condM, blockM, skipM, exitM, retM, hs, Option.bind_some, hd, if_neg h, refReads_ok x 5000 (by have := dep_sz x; omega)]
theorem refNeed_loop : ∀ (r p : List Int) (acc : List Int) (hacc : acc.length ≤ 6 * (p.length + 1)) (hlen : (p ++ r).length ≤ 2 ^ 30) (s : Fr83) (h1 : s.t1.Sets = p ++ r) (h6 : s.t6 = acc) (h7 : s.t7 = (p.length : Int)), ∃ s', loopM L83_4 s = some (.ext 0, s') ∧ s'.t6.length ≤ 2 ^ 40 ∧ ofS s'.t6 0 = needF (ofS acc 0) r ∧ s'.t5 = s.t5 := by
  intro r
  induction r with
  | nil =>
    intro p acc hacc hlen s h1 h6 h7
    rw [List.append_nil] at h1 hlen
    have h : decide ((p.length : Int) < (p.length : Int)) = false := by simp
    exact ⟨{ s with t22 := false }, loopM_ext (by simp only [L83_4, m83_3, seqM, condM, blockM, skipM, exitM, retM, h1, h7, h]), by show s.t6.length ≤ _; rw [h6]; omega, by show ofS s.t6 0 = _; rw [h6]; rfl, rfl⟩
  | cons y r ih =>
    intro p acc hacc hlen s h1 h6 h7
    have hl2 : (p ++ y :: r).length = p.length + (r.length + 1) := by simp
    have h : decide ((p.length : Int) < ((p ++ y :: r).length : Int)) = true := by rw [hl2]; simp; omega
    have w1 : IntKind.wrap .i64 ((p.length : Int) + 1) = (((p ++ [y]).length : Nat) : Int) := by
      rw [hl2] at hlen
      rw [wrap64 (by omega) (by omega)]; simp
    have hat : at? (p ++ y :: r) (p.length : Int) = some y := by rw [at_nat]; simp
    have happ : p ++ y :: r = (p ++ [y]) ++ r := by simp
    have hd := dimsL_len y
    rw [loopM_nrm (by simp only [L83_4, m83_3, m83_2, m83_1, seqM, condM, blockM, skipM, exitM, retM, h1, h6, h7, h, hat, Option.bind_some, refList_ok, app_dims (xs := acc) (by rw [hl2] at hlen; omega) hd, w1]; exact rfl)]
    have e : needF (ofS acc 0) (y :: r) = needF (ofS (acc ++ dimsL y) 0) r := by
      rw [ofS_append, ofS_or (dimsL y) (ofS acc 0)]; rfl
    rw [e]
    refine ih (p ++ [y]) (acc ++ dimsL y) (by simp; omega) (by rw [← happ]; exact hlen) _ ?_ ?_ ?_
    · exact h1.trans happ
    · rfl
    · rfl
theorem refNeed_ok (b : Bound) (hb : b.Sets.length ≤ 2 ^ 30) : G83 b = some (((needF (rdB b.Where).1 b.Sets : Nat) : Int), (rdB b.Where).2) := by
  have hdl := dimsL_len ((rdB b.Where).1 : Int)
  have ha : appT 8 [] (dimsL ((rdB b.Where).1 : Int)) = some (dimsL ((rdB b.Where).1 : Int)) := app_dims (xs := []) (by simp) hdl
  have hpre : ∃ s1 : Fr83, seqM m83_9 (seqM m83_8 (seqM m83_7 (seqM m83_6 m83_5))) { (default : Fr83) with t0 := b } = some (.nrm, s1) ∧ s1.t1.Sets = b.Sets ∧ s1.t6 = dimsL ((rdB b.Where).1 : Int) ∧ s1.t7 = 0 ∧ s1.t5 = (rdB b.Where).2 := by
    simp only [m83_9, m83_8, m83_7, m83_6, m83_5, seqM, condM, blockM, skipM, exitM, retM, reads38, refList_ok, ha, Option.bind_some]
    exact ⟨_, rfl, rfl, rfl, rfl, rfl⟩
  obtain ⟨s1, e1, h1, h6, h7, h5⟩ := hpre
  obtain ⟨s', hs, hl', ho', h5'⟩ := refNeed_loop b.Sets [] (dimsL ((rdB b.Where).1 : Int)) (by simp; omega) hb s1 h1 h6 h7
  rw [dimsL_nat (rdB_lt _), ofS_dims (rdB_lt _)] at ho'
  have hof : G158 s'.t6 = some ((ofS s'.t6 0 : Nat) : Int) := refOf_ok (by omega)
  have e2 : M83 { (default : Fr83) with t0 := b } = some (.ret, { s' with t2 := ((ofS s'.t6 0 : Nat) : Int), t3 := s'.t5 }) := by
    simp only [seqM, m83_9, m83_8, m83_7, m83_6, m83_5, reads38, refList_ok, ha, Option.bind_some] at e1
    cases e1
    simp only [M83, m83_9, m83_8, m83_7, m83_6, m83_5, m83_0, seqM, condM, blockM, skipM, exitM, retM, reads38, refList_ok, ha, Option.bind_some, hs, if_true, hof]
  simp only [G83, e2, ho', h5', h5]

theorem g161 (n : Int) : G161 n = some (decide (n ≥ 0) && decide (n < 64)) := by simp only [G161, M161, m161_0, m161_1, seqM, condM, blockM, skipM, exitM, retM]
theorem g87 (n : Int) : G87 n = some (if n < 0 then 0 else n) := by
  by_cases h : n < 0
  · have d : decide (n < 0) = true := by simpa using h
    simp only [G87, M87, m87_0, m87_1, m87_2, m87_3, seqM, condM, blockM, skipM, exitM, retM, d, if_pos h]
  · have d : decide (n < 0) = false := by simpa using h
    simp only [G87, M87, m87_0, m87_1, m87_2, m87_3, seqM, condM, blockM, skipM, exitM, retM, d, if_neg h]
theorem has_loop (y : Int) : ∀ (r p : List Int) (hlen : (p ++ r).length ≤ 100) (s : Fr162) (h1 : s.t1 = y) (h5 : s.t5 = p ++ r) (h6 : s.t6 = (p.length : Int)),
    (∃ s', loopM L162_5 s = some (.ret, s') ∧ s'.t4 = true ∧ y ∈ r) ∨ (∃ s', loopM L162_5 s = some (.ext 0, s') ∧ y ∉ r) := by
  intro r
  induction r with
  | nil =>
    intro p hlen s h1 h5 h6
    rw [List.append_nil] at h5
    have h : decide ((p.length : Int) < (p.length : Int)) = false := by simp
    exact .inr ⟨{ s with t12 := false }, loopM_ext (by simp only [L162_5, m162_4, seqM, condM, blockM, skipM, exitM, retM, h5, h6, h, if_true]), by simp⟩
  | cons x r ih =>
    intro p hlen s h1 h5 h6
    have hl2 : (p ++ x :: r).length = p.length + (r.length + 1) := by simp
    have h : decide ((p.length : Int) < ((p ++ x :: r).length : Int)) = true := by rw [hl2]; simp; omega
    have w1 : IntKind.wrap .i64 ((p.length : Int) + 1) = (((p ++ [x]).length : Nat) : Int) := by
      rw [hl2] at hlen
      rw [wrap64 (by omega) (by omega)]; simp
    have hat : at? (p ++ x :: r) (p.length : Int) = some x := by rw [at_nat]; simp
    have happ : p ++ x :: r = (p ++ [x]) ++ r := by simp
    by_cases he : x = y
    · have hb : (x == y) = true := by simpa using he
      exact .inl ⟨_, loopM_ret (by simp only [L162_5, m162_4, m162_3, m162_2, seqM, condM, blockM, skipM, exitM, retM, h1, h5, h6, h, hat, Option.bind_some, hb]; exact rfl), rfl, by simp [he]⟩
    · have hb : (x == y) = false := by simpa using he
      have hs : ∃ s2, L162_5 s = some (.nrm, s2) ∧ s2.t1 = y ∧ s2.t5 = p ++ x :: r ∧ s2.t6 = (((p ++ [x]).length : Nat) : Int) := by
        simp only [L162_5, m162_4, m162_3, m162_1, seqM, condM, blockM, skipM, exitM, retM, h1, h5, h6, h, hat, Option.bind_some, hb, w1]
        exact ⟨_, rfl, rfl, rfl, rfl⟩
      obtain ⟨s2, e2, k1, k5, k6⟩ := hs
      rw [loopM_nrm e2]
      rcases ih (p ++ [x]) (by rw [← happ]; exact hlen) s2 k1 (k5.trans happ) k6 with ⟨s', e', q4, hm⟩ | ⟨s', e', hm⟩
      · exact .inl ⟨s', e', q4, List.mem_cons_of_mem _ hm⟩
      · exact .inr ⟨s', e', by intro hc; rcases List.mem_cons.1 hc with rfl | hc; exact he rfl; exact hm hc⟩
theorem g162 (x y : Int) : G162 x y = some (decide (y ∈ dimsL x)) := by
  have hl := dimsL_len x
  unfold G162 M162
  simp only [m162_8, m162_7, m162_6, m162_0, seqM, condM, blockM, skipM, exitM, retM, refList_ok, Option.bind_some]
  rcases has_loop y (dimsL x) [] (by simpa using Nat.le_trans hl (by decide)) ({ ({ (default : Fr162) with t0 := x, t1 := y } : Fr162) with t5 := dimsL x, t6 := 0 }) rfl rfl rfl with ⟨s', hs, h4, hm⟩ | ⟨s', hs, hm⟩
  · simp only [hs, h4, hm, decide_true]
  · simp only [hs, if_true, hm, decide_false]
theorem mem_dims {x i : Nat} (hx : x < 64) (hi : i < 6) : ((i : Int) ∈ dimsL (x : Int)) ↔ x.testBit i = true := by
  rw [dimsL_nat hx]
  unfold dimsN
  simp only [List.mem_map, List.mem_filter, List.mem_range]
  constructor
  · rintro ⟨k, ⟨_, hk⟩, he⟩
    have : k = i := by omega
    rw [this] at hk; exact hk
  · intro h; exact ⟨i, ⟨hi, h⟩, rfl⟩
theorem cov_loop (a b : Nat) (ha : a < 64) (hb : b < 64) : ∀ (m k : Nat) (hk : k + m = 6) (s : Fr86) (h0 : s.t0 = (a : Int)) (h1 : s.t1 = (b : Int)) (h7 : s.t7 = (k : Int)),
    (∃ s', loopM L86_7 s = some (.ret, s') ∧ s'.t4 = false ∧ ¬ ∀ i, k ≤ i → i < 6 → b.testBit i = true → a.testBit i = true) ∨ (∃ s', loopM L86_7 s = some (.ext 0, s') ∧ ∀ i, k ≤ i → i < 6 → b.testBit i = true → a.testBit i = true) := by
  intro m
  induction m with
  | zero =>
    intro k hk s h0 h1 h7
    have h : decide ((k : Int) < 6) = false := by simp; omega
    exact .inr ⟨{ s with t21 := false }, loopM_ext (by simp only [L86_7, m86_6, seqM, condM, blockM, skipM, exitM, retM, h7, h, if_true]), fun i h1 h2 => by omega⟩
  | succ m ih =>
    intro k hk s h0 h1 h7
    have h : decide ((k : Int) < 6) = true := by simp; omega
    have w1 : IntKind.wrap .i64 ((k : Int) + 1) = ((k + 1 : Nat) : Int) := by rw [wrap64 (by omega) (by omega)]; simp
    have e1 : G162 (b : Int) (k : Int) = some (b.testBit k) := by
      rw [g162]; congr 1
      rw [Bool.eq_iff_iff, decide_eq_true_iff]; exact mem_dims hb (by omega)
    have e2 : G162 (a : Int) (k : Int) = some (a.testBit k) := by
      rw [g162]; congr 1
      rw [Bool.eq_iff_iff, decide_eq_true_iff]; exact mem_dims ha (by omega)
    cases hc : (b.testBit k && !a.testBit k) with
    | true =>
      refine .inl ⟨_, loopM_ret (by simp only [L86_7, m86_6, m86_5, m86_4, m86_3, m86_2, seqM, condM, blockM, skipM, exitM, retM, h0, h1, h7, h, e1, e2, Option.bind_some, hc]; exact rfl), rfl, fun hall => ?_⟩
      simp at hc
      have := hall k (Nat.le_refl _) (by omega) hc.1
      rw [hc.2] at this; cases this
    | false =>
      have hs : ∃ s2, L86_7 s = some (.nrm, s2) ∧ s2.t0 = (a : Int) ∧ s2.t1 = (b : Int) ∧ s2.t7 = ((k + 1 : Nat) : Int) := by
        simp only [L86_7, m86_6, m86_5, m86_4, m86_3, m86_1, seqM, condM, blockM, skipM, exitM, retM, h0, h1, h7, h, e1, e2, Option.bind_some, hc, w1]
        exact ⟨_, rfl, rfl, rfl, rfl⟩
      obtain ⟨s2, e3, k0, k1, k7⟩ := hs
      rw [loopM_nrm e3]
      have hk1 : b.testBit k = true → a.testBit k = true := by
        intro hbk; rw [hbk] at hc; simpa using hc
      rcases ih (k + 1) (by omega) s2 k0 k1 k7 with ⟨s', e', q4, hn⟩ | ⟨s', e', hn⟩
      · exact .inl ⟨s', e', q4, fun hall => hn fun i h1 h2 => hall i (by omega) h2⟩
      · refine .inr ⟨s', e', fun i h1 h2 => ?_⟩
        by_cases hi : i = k
        · subst hi; exact hk1
        · exact hn i (by omega) h2
theorem cov_all : ((List.range 64).all fun a => (List.range 64).all fun b => (bits .andNot .i64 (b : Nat) ((a : Nat) : Int) == 0) == ((List.range 6).all fun i => !b.testBit i || a.testBit i)) = true := by kernel_rfl
theorem cov_bits {a b : Nat} (ha : a < 64) (hb : b < 64) : (bits .andNot .i64 (b : Nat) ((a : Nat) : Int) == 0) = true ↔ ∀ i, 0 ≤ i → i < 6 → b.testBit i = true → a.testBit i = true := by
  have h := List.all_eq_true.1 (List.all_eq_true.1 cov_all a (List.mem_range.2 ha)) b (List.mem_range.2 hb)
  rw [eq_of_beq h, List.all_eq_true]
  constructor
  · intro h i _ hi hbi
    have := h i (List.mem_range.2 hi)
    rw [hbi] at this; simpa using this
  · intro h i hi
    have hi := List.mem_range.1 hi
    cases hbi : b.testBit i with
    | false => rfl
    | true => rw [h i (Nat.zero_le _) hi hbi]; rfl
theorem g86 (x y : Int) : G86 x y = some (cov x y) := by
  have dlt : ∀ n : Int, decide (n < 64) = decide (n ≤ 63) := fun n => by
    by_cases h : n ≤ 63
    · rw [decide_eq_true h, decide_eq_true (by omega)]
    · rw [decide_eq_false h, decide_eq_false (by omega)]
  cases hx : (decide (x ≥ 0) && decide (x ≤ 63)) with
  | false =>
    unfold cov
    simp only [G86, M86, m86_0, m86_1, m86_2, m86_3, m86_4, m86_5, m86_6, L86_7, m86_8, m86_9, m86_10, m86_11, m86_12, m86_13, seqM, condM, blockM, skipM, exitM, retM, g161, dlt, hx, Option.bind_some, Bool.not_false, Bool.true_or, Bool.false_and]
  | true =>
    cases hy : (decide (y ≥ 0) && decide (y ≤ 63)) with
    | false =>
      unfold cov
      simp only [G86, M86, m86_0, m86_1, m86_2, m86_3, m86_4, m86_5, m86_6, L86_7, m86_8, m86_9, m86_10, m86_11, m86_12, m86_13, seqM, condM, blockM, skipM, exitM, retM, g161, dlt, hx, hy, Option.bind_some, Bool.not_false, Bool.not_true, Bool.or_true, Bool.and_false, Bool.false_and]
    | true =>
      have hx2 : 0 ≤ x ∧ x ≤ 63 := by simpa using hx
      have hy2 : 0 ≤ y ∧ y ≤ 63 := by simpa using hy
      obtain ⟨a, rfl⟩ : ∃ a : Nat, x = (a : Int) := ⟨x.toNat, by omega⟩
      obtain ⟨b, rfl⟩ : ∃ b : Nat, y = (b : Int) := ⟨y.toNat, by omega⟩
      have ha : a < 64 := by omega
      have hb : b < 64 := by omega
      have hcb := cov_bits ha hb
      unfold cov
      rw [hx, hy]
      unfold G86 M86
      simp only [m86_13, m86_12, m86_11, m86_10, m86_8, m86_0, seqM, condM, blockM, skipM, exitM, retM, g161, dlt, hx, hy, Option.bind_some, Bool.not_true, Bool.or_self]
      rcases cov_loop a b ha hb 6 0 rfl ({ ({ (default : Fr86) with t0 := (a : Int), t1 := (b : Int) } : Fr86) with t5 := true, t6 := true, t19 := false, t7 := 0 }) rfl rfl rfl with ⟨s', hs, h4, hn⟩ | ⟨s', hs, hn⟩
      · have : (bits .andNot .i64 (b : Nat) ((a : Nat) : Int) == 0) = false := by
          cases h : (bits .andNot .i64 (b : Nat) ((a : Nat) : Int) == 0) with
          | false => rfl
          | true => exact absurd (hcb.1 h) hn
        simp only [hs, h4, this, Bool.and_self, Bool.and_false]
      · have : (bits .andNot .i64 (b : Nat) ((a : Nat) : Int) == 0) = true := hcb.2 hn
        simp only [hs, if_true, this, Bool.and_self]
end Go.Proofs.Plm
