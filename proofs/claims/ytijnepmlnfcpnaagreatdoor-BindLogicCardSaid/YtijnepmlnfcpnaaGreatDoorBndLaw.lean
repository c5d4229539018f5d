/-
  BIND: what a test holds for and what it reads, in plain terms.
-/
-- GN Bnd
import Derived.Test.YtijnepmlnfcpnaaGreatDoorBndLogic
set_option linter.unusedVariables false
set_option linter.unusedSimpArgs false
set_option linter.unusedSimpArgs false
set_option linter.unusedVariables false
set_option maxRecDepth 100000
namespace Go.Proofs.Bnd
open Go Go.Am Go.Proofs

theorem leaf149 (k : Int) (l r : TestT) (m : Bool) (i o : Int) (ts : List (List UInt8)) (is xs ys : List Int) (hx : Fits xs) (hy : Fits ys) : ∃ b, G149 (.mk k l r m i o ts is) xs ys = some b := by
  cases hc : ((decide (i < 0) || decide (i ≥ (xs.length : Int))) || ((ys.length : Int) == 0)) with
  | true => simp only [G149, M149, m149_0, m149_1, m149_2, m149_3, m149_4, m149_5, seqM, condM, blockM, skipM, exitM, retM, TestT.get, Option.bind_some, hc]; exact ⟨_, rfl⟩
  | false =>
    have hc' := hc
    simp only [Bool.or_eq_false_iff, decide_eq_false_iff_not, beq_eq_false_iff_ne] at hc
    obtain ⟨⟨h1, h2⟩, h3⟩ := hc
    obtain ⟨j, rfl⟩ : ∃ j : Nat, i = j := ⟨i.toNat, by omega⟩
    obtain ⟨a, ha⟩ := at_lt (l := xs) (j := j) (by omega)
    obtain ⟨b, hb⟩ := at_lt (l := ys) (j := 0) (by omega)
    have hb' : at? ys 0 = some b := hb
    cases h5 : (k == 5) with
    | true =>
      obtain ⟨z, hz⟩ := in196 ys a hy
      simp only [G149, M149, m149_0, m149_1, m149_2, m149_3, m149_4, m149_5, seqM, condM, blockM, skipM, exitM, retM, TestT.get, Option.bind_some, hc', h5, ha, hz]; exact ⟨_, rfl⟩
    | false =>
      obtain ⟨z, hz⟩ := cmp198 a b
      obtain ⟨w, hw⟩ := says197 o z
      simp only [G149, M149, m149_0, m149_1, m149_2, m149_3, m149_4, m149_5, seqM, condM, blockM, skipM, exitM, retM, TestT.get, Option.bind_some, hc', h5, ha, hb', hz, hw]; exact ⟨_, rfl⟩
theorem leaf150 (k : Int) (l r : TestT) (m : Bool) (i o : Int) (ts : List (List UInt8)) (is : List Int) (xs ys : List (List UInt8)) (hx : Fits xs) (hy : Fits ys) : ∃ b, G150 (.mk k l r m i o ts is) xs ys = some b := by
  cases hc : ((decide (i < 0) || decide (i ≥ (xs.length : Int))) || ((ys.length : Int) == 0)) with
  | true => simp only [G150, M150, m150_0, m150_1, m150_2, m150_3, m150_4, m150_5, seqM, condM, blockM, skipM, exitM, retM, TestT.get, Option.bind_some, hc]; exact ⟨_, rfl⟩
  | false =>
    have hc' := hc
    simp only [Bool.or_eq_false_iff, decide_eq_false_iff_not, beq_eq_false_iff_ne] at hc
    obtain ⟨⟨h1, h2⟩, h3⟩ := hc
    obtain ⟨j, rfl⟩ : ∃ j : Nat, i = j := ⟨i.toNat, by omega⟩
    obtain ⟨a, ha⟩ := at_lt (l := xs) (j := j) (by omega)
    obtain ⟨b, hb⟩ := at_lt (l := ys) (j := 0) (by omega)
    have hb' : at? ys 0 = some b := hb
    cases h5 : (k == 5) with
    | true =>
      obtain ⟨z, hz⟩ := in105 ys a hy
      simp only [G150, M150, m150_0, m150_1, m150_2, m150_3, m150_4, m150_5, seqM, condM, blockM, skipM, exitM, retM, TestT.get, Option.bind_some, hc', h5, ha, hz]; exact ⟨_, rfl⟩
    | false =>
      obtain ⟨z, hz⟩ := cmp199 a b
      obtain ⟨w, hw⟩ := says197 o z
      simp only [G150, M150, m150_0, m150_1, m150_2, m150_3, m150_4, m150_5, seqM, condM, blockM, skipM, exitM, retM, TestT.get, Option.bind_some, hc', h5, ha, hb', hz, hw]; exact ⟨_, rfl⟩

section
variable {rec : TestT → Fact → Option Bool} {l r : TestT} {m : Bool} {i o : Int} {ts : List (List UInt8)} {is : List Int} {f : Fact} {a b : Bool}
theorem holds_and (h1 : rec l f = some a) (h2 : rec r f = some b) : G77 rec (.mk 1 l r m i o ts is) f = some (a && b) := by
  cases a <;> simp [G77, M77, m77_0, m77_1, m77_2, m77_3, m77_4, m77_5, m77_6, m77_7, m77_8, m77_9, m77_10, m77_11, m77_12, m77_13, m77_14, m77_15, seqM, condM, blockM, skipM, exitM, retM, TestT.get, TestT.isNil, h1, h2]
theorem holds_or (h1 : rec l f = some a) (h2 : rec r f = some b) : G77 rec (.mk 2 l r m i o ts is) f = some (a || b) := by
  cases a <;> simp [G77, M77, m77_0, m77_1, m77_2, m77_3, m77_4, m77_5, m77_6, m77_7, m77_8, m77_9, m77_10, m77_11, m77_12, m77_13, m77_14, m77_15, seqM, condM, blockM, skipM, exitM, retM, TestT.get, TestT.isNil, h1, h2]
theorem holds_not (h1 : rec l f = some a) (hn : l.isNil = false) : G77 rec (.mk 3 l r m i o ts is) f = some (!a) := by
  cases l with
  | nil => cases hn
  | mk => simp [G77, M77, m77_0, m77_1, m77_2, m77_3, m77_4, m77_5, m77_6, m77_7, m77_8, m77_9, m77_10, m77_11, m77_12, m77_13, m77_14, m77_15, seqM, condM, blockM, skipM, exitM, retM, TestT.get, TestT.isNil, h1]
theorem holds_not0 (hn : l.isNil = true) : G77 rec (.mk 3 l r m i o ts is) f = some false := by
  cases l with
  | nil => simp [G77, M77, m77_0, m77_1, m77_2, m77_3, m77_4, m77_5, m77_6, m77_7, m77_8, m77_9, m77_10, m77_11, m77_12, m77_13, m77_14, m77_15, seqM, condM, blockM, skipM, exitM, retM, TestT.get, TestT.isNil]
  | mk => cases hn
end
theorem holds_ok {f : Fact} (hf : OkF f) : ∀ (t : TestT), OkT t → ∃ b, ∀ n, sz t < n → F77 n t f = some b
  | .nil, _ => ⟨false, fun n hn => by
    obtain ⟨n, rfl⟩ : ∃ k, n = k + 1 := ⟨n - 1, by omega⟩
    show G77 (F77 n) .nil f = _
    simp [G77, M77, m77_0, m77_1, m77_2, m77_3, m77_4, m77_5, m77_6, m77_7, m77_8, m77_9, m77_10, m77_11, m77_12, m77_13, m77_14, m77_15, seqM, condM, blockM, skipM, exitM, retM, TestT.isNil]⟩
  | .mk k l r m i o ts is, ht => by
    obtain ⟨o1, o2, o3, o4⟩ := ht
    obtain ⟨a, ha⟩ := holds_ok hf l o1
    obtain ⟨b, hb⟩ := holds_ok hf r o2
    have step : ∀ {c : Bool}, (∀ rec : TestT → Fact → Option Bool, rec l f = some a → rec r f = some b → G77 rec (.mk k l r m i o ts is) f = some c) → ∃ b, ∀ n, sz (.mk k l r m i o ts is) < n → F77 n (.mk k l r m i o ts is) f = some b := by
      intro c h
      refine ⟨c, fun n hn => ?_⟩
      unfold sz at hn
      obtain ⟨n, rfl⟩ : ∃ k, n = k + 1 := ⟨n - 1, by omega⟩
      exact h (F77 n) (ha n (by omega)) (hb n (by omega))
    by_cases h1 : k = 1
    · subst h1; exact step fun rec e1 e2 => holds_and e1 e2
    by_cases h2 : k = 2
    · subst h2; exact step fun rec e1 e2 => holds_or e1 e2
    by_cases h3 : k = 3
    · subst h3
      cases hn : l.isNil with
      | true => exact step fun rec e1 e2 => holds_not0 hn
      | false => exact step fun rec e1 e2 => holds_not e1 hn
    have e1 : (k == 1) = false := by simpa using h1
    have e2 : (k == 2) = false := by simpa using h2
    have e3 : (k == 3) = false := by simpa using h3
    obtain ⟨c, hc⟩ := leaf149 k l r m i o ts is f.Meas is hf.2 o4
    obtain ⟨d, hd⟩ := leaf150 k l r m i o ts is f.Dims ts hf.1 o3
    by_cases h4 : k = 4 ∨ k = 5
    · cases m with
      | true =>
        refine step (c := c) fun rec _ _ => ?_
        rcases h4 with rfl | rfl <;> simp [G77, M77, m77_0, m77_1, m77_2, m77_3, m77_4, m77_5, m77_6, m77_7, m77_8, m77_9, m77_10, m77_11, m77_12, m77_13, m77_14, m77_15, seqM, condM, blockM, skipM, exitM, retM, TestT.get, TestT.isNil, hc]
      | false =>
        refine step (c := d) fun rec _ _ => ?_
        rcases h4 with rfl | rfl <;> simp [G77, M77, m77_0, m77_1, m77_2, m77_3, m77_4, m77_5, m77_6, m77_7, m77_8, m77_9, m77_10, m77_11, m77_12, m77_13, m77_14, m77_15, seqM, condM, blockM, skipM, exitM, retM, TestT.get, TestT.isNil, hd]
    · have e4 : (k == 4) = false := by simp; omega
      have e5 : (k == 5) = false := by simp; omega
      refine step (c := false) fun rec _ _ => ?_
      simp [G77, M77, m77_0, m77_1, m77_2, m77_3, m77_4, m77_5, m77_6, m77_7, m77_8, m77_9, m77_10, m77_11, m77_12, m77_13, m77_14, m77_15, seqM, condM, blockM, skipM, exitM, retM, TestT.get, TestT.isNil, e1, e2, e3, e4, e5]
/-! ### what a test reads -/
theorem of_one (i : Int) : ∃ z, G41 [i] = some z := by
  have w1 : IntKind.wrap .i64 ((0 : Int) + 1) = 1 := by decide
  have d1 : decide ((0 : Int) < 1) = true := by decide
  have d2 : decide ((1 : Int) < 1) = false := by decide
  have a0 : at? [i] 0 = some i := rfl
  have fin : ∀ s : Fr41, s.t7 = 1 → s.t8 = 1 → ∃ s', loopM L41_6 s = some (.ext 0, s') := fun s h7 h8 => ⟨_, loopM_ext (by simp only [L41_6, m41_5, seqM, condM, blockM, skipM, exitM, retM, h7, h8, d2]; exact rfl)⟩
  have rd : ∀ s : Fr41, s.t6 = [i] → s.t7 = 1 → s.t8 = 0 → ∃ s', loopM L41_6 s = some (.ext 0, s') := by
    intro s h6 h7 h8
    cases hc : ((decide (i ≥ 0)) && (decide (i < 6))) with
    | true =>
      have hs : ∃ z, shlT .i64 1 i = some z := by
        simp only [Bool.and_eq_true, decide_eq_true_eq] at hc
        unfold shlT
        first | (rw [if_pos (by omega)]; exact ⟨_, rfl⟩) | (rw [if_neg (by omega)]; exact ⟨_, rfl⟩)
      obtain ⟨z, hz⟩ := hs
      rw [loopM_nrm (by simp only [L41_6, m41_5, m41_4, m41_3, m41_2, m41_1, seqM, condM, blockM, skipM, exitM, retM, h6, h7, h8, d1, a0, Option.bind_some, hc, hz, w1]; exact rfl)]
      exact fin _ rfl rfl
    | false =>
      rw [loopM_nrm (by simp only [L41_6, m41_5, m41_4, m41_3, m41_2, m41_1, seqM, condM, blockM, skipM, exitM, retM, h6, h7, h8, d1, a0, Option.bind_some, hc, w1]; exact rfl)]
      exact fin _ rfl rfl
  obtain ⟨s', hs'⟩ := rd { (default : Fr41) with t0 := [i], t3 := 0, t6 := [i], t7 := (([i] : List Int).length : Int), t8 := 0 } rfl rfl rfl
  simp only [G41, M41, m41_9, m41_8, m41_7, m41_0, seqM, condM, blockM, skipM, exitM, retM, hs', if_true]
  exact ⟨_, rfl⟩
theorem reads_and {rec : TestT → Option (Int × Bool)} {l r : TestT} {m : Bool} {k i o : Int} {ts : List (List UInt8)} {is : List Int} {a b : Int × Bool} (h4 : (k == 4) = false) (h5 : (k == 5) = false) (h1 : rec l = some a) (h2 : rec r = some b) : G78 rec (.mk k l r m i o ts is) = some (bits .or .i64 a.1 b.1, a.2 || b.2) := by
  have e : ((k != 4) && (k != 5)) = true := by simp only [bne, h4, h5, Bool.not_false, Bool.and_self]
  simp only [G78, M78, m78_0, m78_1, m78_2, m78_3, m78_4, m78_5, m78_6, m78_7, m78_8, m78_9, seqM, condM, blockM, skipM, exitM, retM, TestT.get, TestT.isNil, Option.bind_some, h1, h2, e]
theorem reads_ok : ∀ (t : TestT), ∃ p, ∀ n, sz t < n → F78 n t = some p
  | .nil => ⟨(0, false), fun n hn => by
    obtain ⟨n, rfl⟩ : ∃ k, n = k + 1 := ⟨n - 1, by omega⟩
    show G78 (F78 n) .nil = _
    simp [G78, M78, m78_0, m78_1, m78_2, m78_3, m78_4, m78_5, m78_6, m78_7, m78_8, m78_9, seqM, condM, blockM, skipM, exitM, retM, TestT.isNil]⟩
  | .mk k l r m i o ts is => by
    obtain ⟨a, ha⟩ := reads_ok l
    obtain ⟨b, hb⟩ := reads_ok r
    have step : ∀ {c : Int × Bool}, (∀ rec : TestT → Option (Int × Bool), rec l = some a → rec r = some b → G78 rec (.mk k l r m i o ts is) = some c) → ∃ p, ∀ n, sz (.mk k l r m i o ts is) < n → F78 n (.mk k l r m i o ts is) = some p := by
      intro c h
      refine ⟨c, fun n hn => ?_⟩
      unfold sz at hn
      obtain ⟨n, rfl⟩ : ∃ k, n = k + 1 := ⟨n - 1, by omega⟩
      exact h (F78 n) (ha n (by omega)) (hb n (by omega))
    cases h4 : (k == 4) with
    | true =>
      have e : ((k != 4) && (k != 5)) = false := by simp only [bne, h4, Bool.not_true, Bool.false_and]
      cases m with
      | true => exact step (c := (0, true)) fun rec _ _ => by simp only [G78, M78, m78_0, m78_1, m78_2, m78_3, m78_4, m78_5, m78_6, m78_7, m78_8, m78_9, seqM, condM, blockM, skipM, exitM, retM, TestT.get, TestT.isNil, Option.bind_some, e]
      | false =>
        obtain ⟨z, hz⟩ := of_one i
        exact step (c := (z, false)) fun rec _ _ => by simp only [G78, M78, m78_0, m78_1, m78_2, m78_3, m78_4, m78_5, m78_6, m78_7, m78_8, m78_9, seqM, condM, blockM, skipM, exitM, retM, TestT.get, TestT.isNil, Option.bind_some, e, hz, if_true]
    | false =>
      cases h5 : (k == 5) with
      | true =>
        have e : ((k != 4) && (k != 5)) = false := by simp only [bne, h5, Bool.not_true, Bool.and_false]
        cases m with
        | true => exact step (c := (0, true)) fun rec _ _ => by simp only [G78, M78, m78_0, m78_1, m78_2, m78_3, m78_4, m78_5, m78_6, m78_7, m78_8, m78_9, seqM, condM, blockM, skipM, exitM, retM, TestT.get, TestT.isNil, Option.bind_some, e]
        | false =>
          obtain ⟨z, hz⟩ := of_one i
          exact step (c := (z, false)) fun rec _ _ => by simp only [G78, M78, m78_0, m78_1, m78_2, m78_3, m78_4, m78_5, m78_6, m78_7, m78_8, m78_9, seqM, condM, blockM, skipM, exitM, retM, TestT.get, TestT.isNil, Option.bind_some, e, hz, if_true]
      | false => exact step fun rec e1 e2 => reads_and h4 h5 e1 e2
end Go.Proofs.Bnd
