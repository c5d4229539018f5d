/-
  CUBE: what a test reads, by the program and by the document.
-/
-- GN Need
import Derived.Test.YtgjdlakemaabfaaNeedPlain
set_option linter.unusedVariables false
set_option linter.unusedSimpArgs false
set_option linter.unusedSimpArgs false
set_option linter.unusedVariables false
set_option maxRecDepth 100000
namespace Go.Proofs.Need
open Go Go.Am Go.Proofs

def sz : TestT → Nat
  | .nil => 0
  | .mk _ l r _ _ _ _ _ => 1 + sz l + sz r
def dep : TestT → Nat
  | .nil => 0
  | .mk _ l r _ _ _ _ _ => 1 + max (dep l) (dep r)
theorem walk_sz : ∀ (x : TestT) (n : Nat), n ≤ 4097 → walkN x n = min (n + sz x) 4097
  | .nil, n, h => by simp only [walkN, sz]; omega
  | .mk _ l r _ _ _ _ _, n, h => by
    unfold walkN
    split
    · simp only [sz]; omega
    · rw [walk_sz l _ (by omega), walk_sz r _ (by omega)]
      simp only [sz]; omega
theorem nodes_ok : ∀ (x : TestT) (n : Nat) (k : Nat), dep x < n → k ≤ 4097 → F50 n x (k : Int) = some ((min (sz x) k : Nat) : Int) := by
  intro x
  induction x with
  | nil =>
    intro n k hn hk
    obtain ⟨m, rfl⟩ : ∃ m, n = m + 1 := ⟨n - 1, by omega⟩
    simp only [F50, G50, M50, m50_0, m50_1, m50_2, m50_3, m50_4, seqM, condM, blockM, skipM, exitM, retM, TestT.isNil, Bool.true_or, sz, Nat.zero_min]
    rfl
  | mk kk l r mm i o ts is ihl ihr =>
    intro n k hn hk
    obtain ⟨m, rfl⟩ : ∃ m, n = m + 1 := ⟨n - 1, by simp only [dep] at hn; omega⟩
    simp only [dep] at hn
    by_cases h0 : k = 0
    · subst h0
      simp only [F50, G50, M50, m50_0, m50_1, m50_2, m50_3, m50_4, seqM, condM, blockM, skipM, exitM, retM, TestT.isNil, Bool.false_or, show decide (((0 : Nat) : Int) ≤ 0) = true from rfl, Nat.min_zero]
      rfl
    · have hd : decide ((k : Int) ≤ 0) = false := by simp; omega
      have w1 : IntKind.wrap .i64 ((k : Int) - 1) = ((k - 1 : Nat) : Int) := by rw [wrap64 (by omega) (by omega)]; omega
      have hl := ihl m (k - 1) (by omega) (by omega)
      obtain ⟨a, ha⟩ : ∃ a, a = min (sz l) (k - 1) := ⟨_, rfl⟩
      have hak : a ≤ k - 1 := by omega
      have w2 : IntKind.wrap .i64 (1 + (a : Int)) = ((1 + a : Nat) : Int) := by rw [wrap64 (by omega) (by omega)]; push_cast; rfl
      have w3 : IntKind.wrap .i64 ((k : Int) - ((1 + a : Nat) : Int)) = ((k - (1 + a) : Nat) : Int) := by rw [wrap64 (by omega) (by omega)]; omega
      have hr := ihr m (k - (1 + a)) (by omega) (by omega)
      obtain ⟨b, hb⟩ : ∃ b, b = min (sz r) (k - (1 + a)) := ⟨_, rfl⟩
      have hbk : b ≤ k := by omega
      have w4 : IntKind.wrap .i64 (((1 + a : Nat) : Int) + (b : Int)) = ((1 + a + b : Nat) : Int) := by rw [wrap64 (by omega) (by omega)]; push_cast; rfl
      rw [← ha] at hl
      rw [← hb] at hr
      have hres : 1 + a + b = min (sz (.mk kk l r mm i o ts is)) k := by simp only [sz]; omega
      rw [← hres]
      simp only [F50, G50, M50, m50_0, m50_1, m50_2, m50_3, m50_4, seqM, condM, blockM, skipM, exitM, retM, TestT.isNil, TestT.get, Bool.false_or, hd, Option.bind_some, w1, hl, w2, w3, hr, w4]
def S50 (x : TestT) (k : Int) : Option Int := if 0 ≤ k ∧ k ≤ 4097 then some ((min (sz x) k.toNat : Nat) : Int) else none
theorem S50_spec : Spec50 S50 := Spec50_fuel (by
  intro x k r hr
  unfold S50 at hr
  split at hr
  · rename_i hc
    obtain ⟨j, rfl⟩ : ∃ j : Nat, k = j := ⟨k.toNat, by omega⟩
    rw [Int.toNat_natCast] at hr
    cases hr
    exact ⟨dep x + 1, nodes_ok x _ j (by omega) (by omega)⟩
  · cases hr)

/-- what a test reads -/
def rd : TestT → Nat × Bool
  | .nil => (0, false)
  | .mk k l r m i _ _ _ => if k ≠ 4 ∧ k ≠ 5 then ((rd l).1 ||| (rd r).1, (rd l).2 || (rd r).2) else if m then (0, true) else (ofS [i] 0, false)
theorem rd_mk (k : Int) (l r : TestT) (m : Bool) (i o : Int) (ts : List (List UInt8)) (is : List Int) : rd (.mk k l r m i o ts is) = if k ≠ 4 ∧ k ≠ 5 then ((rd l).1 ||| (rd r).1, (rd l).2 || (rd r).2) else if m then (0, true) else (ofS [i] 0, false) := by rw [rd]
theorem rd_lt : ∀ x, (rd x).1 < 64
  | .nil => by simp [rd]
  | .mk k l r m i _ _ _ => by
    unfold rd
    split
    · exact Nat.or_lt_two_pow (n := 6) (rd_lt l) (rd_lt r)
    · split
      · simp
      · exact ofS_lt _ _ (by decide)
theorem ne_b (k : Int) : ((k != 4) && (k != 5)) = decide (k ≠ 4 ∧ k ≠ 5) := by
  rw [Bool.eq_iff_iff]; simp
theorem eq_b (k : Int) : ((k == 4) || (k == 5)) = !decide (k ≠ 4 ∧ k ≠ 5) := by
  by_cases h4 : k = 4 <;> by_cases h5 : k = 5 <;> simp [h4, h5]
theorem reads_ok : ∀ (x : TestT) (n : Nat), dep x < n → F49 n x = some (((rd x).1 : Int), (rd x).2) := by
  intro x
  induction x with
  | nil =>
    intro n hn
    obtain ⟨m, rfl⟩ : ∃ m, n = m + 1 := ⟨n - 1, by omega⟩
    simp only [F49, G49, M49, m49_0, m49_1, m49_2, m49_3, m49_4, m49_5, m49_6, m49_7, m49_8, m49_9, seqM, condM, blockM, skipM, exitM, retM, TestT.isNil, rd]
    rfl
  | mk k l r mm i o ts is ihl ihr =>
    intro n hn
    obtain ⟨m, rfl⟩ : ∃ m, n = m + 1 := ⟨n - 1, by simp only [dep] at hn; omega⟩
    simp only [dep] at hn
    have hl := ihl m (by omega)
    have hr := ihr m (by omega)
    cases hc : decide (k ≠ 4 ∧ k ≠ 5) with
    | true =>
      have hc' : k ≠ 4 ∧ k ≠ 5 := of_decide_eq_true hc
      simp only [F49, G49, M49, m49_0, m49_1, m49_2, m49_3, m49_4, m49_5, m49_6, m49_7, m49_8, m49_9, seqM, condM, blockM, skipM, exitM, retM, TestT.isNil, TestT.get, Option.bind_some, ne_b, hc, hl, hr, or_b (rd_lt l) (rd_lt r)]
      rw [rd_mk, if_pos hc']
    | false =>
      have hc' : ¬ (k ≠ 4 ∧ k ≠ 5) := of_decide_eq_false hc
      cases mm with
      | true =>
        simp only [F49, G49, M49, m49_0, m49_1, m49_2, m49_3, m49_4, m49_5, m49_6, m49_7, m49_8, m49_9, seqM, condM, blockM, skipM, exitM, retM, TestT.isNil, TestT.get, Option.bind_some, ne_b, hc]
        rw [rd_mk, if_neg hc']; rfl
      | false =>
        simp only [F49, G49, M49, m49_0, m49_1, m49_2, m49_3, m49_4, m49_5, m49_6, m49_7, m49_8, m49_9, seqM, condM, blockM, skipM, exitM, retM, TestT.isNil, TestT.get, Option.bind_some, ne_b, hc, of_ok (l := [i]) (by simp)]
        rw [rd_mk, if_neg hc']; rfl
theorem dims_all : ((List.range 64).all fun x => ofS (dimsN x 6) 0 == x) = true := by kernel_rfl
theorem ofS_dims {x : Nat} (h : x < 64) : ofS (dimsN x 6) 0 = x := by
  have h1 := List.all_eq_true.1 dims_all x (by simp; omega)
  simpa using h1
theorem dimsL_nat {x : Nat} (h : x < 64) : dimsL (x : Int) = dimsN x 6 := by
  unfold dimsL; rw [if_pos ⟨by omega, by omega⟩, Int.toNat_natCast]
theorem app_dims {xs ys : List Int} (h : xs.length ≤ 2 ^ 40) (hy : ys.length ≤ 6) : appT 8 xs ys = some (xs ++ ys) := by
  unfold appT
  rw [if_pos ⟨by omega, by omega⟩]
theorem refReads_ok : ∀ (x : TestT) (n : Nat), dep x < n → F51 n x = some (((rd x).1 : Int), (rd x).2) := by
  intro x
  induction x with
  | nil =>
    intro n hn
    obtain ⟨m, rfl⟩ : ∃ m, n = m + 1 := ⟨n - 1, by omega⟩
    simp only [F51, G51, M51, m51_0, m51_1, m51_2, m51_3, m51_4, m51_5, m51_6, m51_7, m51_8, m51_9, m51_10, m51_11, m51_12, seqM, condM, blockM, skipM, exitM, retM, TestT.isNil, rd]
    rfl
  | mk k l r mm i o ts is ihl ihr =>
    intro n hn
    obtain ⟨m, rfl⟩ : ∃ m, n = m + 1 := ⟨n - 1, by simp only [dep] at hn; omega⟩
    simp only [dep] at hn
    have hl := ihl m (by omega)
    have hr := ihr m (by omega)
    cases hc : decide (k ≠ 4 ∧ k ≠ 5) with
    | true =>
      have hc' : k ≠ 4 ∧ k ≠ 5 := of_decide_eq_true hc
      have d1 := dimsN_len (rd l).1 6
      have d2 := dimsN_len (rd r).1 6
      have hof : G39 ([] ++ dimsN (rd l).1 6 ++ dimsN (rd r).1 6) = some (((rd l).1 ||| (rd r).1 : Nat) : Int) := by
        rw [List.nil_append, refOf_ok (by simp; omega), ofS_append, ofS_dims (rd_lt l), ofS_or, ofS_dims (rd_lt r)]
      simp only [F51, G51, M51, m51_0, m51_1, m51_2, m51_3, m51_4, m51_5, m51_6, m51_7, m51_8, m51_9, m51_10, m51_11, m51_12, seqM, condM, blockM, skipM, exitM, retM, TestT.isNil, TestT.get, Option.bind_some, eq_b, hc, Bool.not_true, hl, hr, refList_ok, dimsL_nat (rd_lt l), dimsL_nat (rd_lt r), app_dims (xs := []) (by simp) d1, app_dims (xs := [] ++ dimsN (rd l).1 6) (by simp; omega) d2, hof]
      rw [rd_mk, if_pos hc']
    | false =>
      have hc' : ¬ (k ≠ 4 ∧ k ≠ 5) := of_decide_eq_false hc
      cases mm with
      | true =>
        simp only [F51, G51, M51, m51_0, m51_1, m51_2, m51_3, m51_4, m51_5, m51_6, m51_7, m51_8, m51_9, m51_10, m51_11, m51_12, seqM, condM, blockM, skipM, exitM, retM, TestT.isNil, TestT.get, Option.bind_some, eq_b, hc, Bool.not_false]
        rw [rd_mk, if_neg hc']; rfl
      | false =>
        simp only [F51, G51, M51, m51_0, m51_1, m51_2, m51_3, m51_4, m51_5, m51_6, m51_7, m51_8, m51_9, m51_10, m51_11, m51_12, seqM, condM, blockM, skipM, exitM, retM, TestT.isNil, TestT.get, Option.bind_some, eq_b, hc, Bool.not_false, refOf_ok (l := [i]) (by simp)]
        rw [rd_mk, if_neg hc']; rfl
def SR (x : TestT) : Option (Int × Bool) := some (((rd x).1 : Int), (rd x).2)
theorem S49_spec : Spec49 SR := Spec49_fuel (by intro x r hr; exact ⟨dep x + 1, by rw [reads_ok x _ (by omega)]; exact hr⟩)
theorem S51_spec : Spec51 SR := Spec51_fuel (by intro x r hr; exact ⟨dep x + 1, by rw [refReads_ok x _ (by omega)]; exact hr⟩)
def S7 : Option Bool := some true
end Go.Proofs.Need
