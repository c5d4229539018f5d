/-
  PLAN: what the functions under Need come to, in plain terms.
-/
-- GN Pln PlnB
import Derived.Test.YtijnepmlnfcpnabGreatDoorPlnBFns
set_option linter.unusedVariables false
set_option linter.unusedSimpArgs false
set_option linter.unusedSimpArgs false
set_option linter.unusedVariables false
set_option maxRecDepth 100000
namespace Go.Proofs.Pln
open Go Go.Am Go.Proofs
def ofS (l : List Int) (o : Nat) : Nat := l.foldl (fun o i => if 0 ≤ i ∧ i < 6 then o ||| 2 ^ i.toNat else o) o
theorem pow6 {i : Nat} (h : i < 6) : 2 ^ i < 64 := by
  have : 2 ^ i < 2 ^ 6 := Nat.pow_lt_pow_right (by decide) h
  exact this
theorem ofS_lt : ∀ (l : List Int) (o : Nat), o < 64 → ofS l o < 64 := by
  intro l
  induction l with
  | nil => intro o h; exact h
  | cons i l ih =>
    intro o h
    refine ih _ ?_
    change (if 0 ≤ i ∧ i < 6 then o ||| 2 ^ i.toNat else o) < 64
    split
    · rename_i hc
      exact Nat.or_lt_two_pow (n := 6) h (pow6 (by omega))
    · exact h
theorem ofS_append (a b : List Int) (o : Nat) : ofS (a ++ b) o = ofS b (ofS a o) := by simp [ofS, List.foldl_append]
theorem ofS_or : ∀ (l : List Int) (o : Nat), ofS l o = o ||| ofS l 0 := by
  intro l
  induction l with
  | nil => intro o; simp [ofS]
  | cons i l ih =>
    intro o
    change ofS l (if 0 ≤ i ∧ i < 6 then o ||| 2 ^ i.toNat else o) = o ||| ofS l (if 0 ≤ i ∧ i < 6 then 0 ||| 2 ^ i.toNat else 0)
    by_cases hc : 0 ≤ i ∧ i < 6
    · rw [if_pos hc, if_pos hc, ih (o ||| 2 ^ i.toNat), ih (0 ||| 2 ^ i.toNat), Nat.zero_or, Nat.or_assoc]
    · rw [if_neg hc, if_neg hc]; exact ih o
theorem ofS_in {l : List Int} {o k : Nat} (hk : k < 6) : ofS ((k : Int) :: l) o = ofS l (o ||| 2 ^ k) := by
  change ofS l (if 0 ≤ (k : Int) ∧ (k : Int) < 6 then o ||| 2 ^ (k : Int).toNat else o) = _
  rw [if_pos ⟨by omega, by omega⟩, Int.toNat_natCast]
theorem ofS_out {l : List Int} {o : Nat} {i : Int} (hc : ¬ (0 ≤ i ∧ i < 6)) : ofS (i :: l) o = ofS l o := by
  change ofS l (if 0 ≤ i ∧ i < 6 then o ||| 2 ^ i.toNat else o) = _
  rw [if_neg hc]
theorem shl_one {k : Nat} (h : k < 6) : shlT .i64 1 (k : Int) = some ((2 ^ k : Nat) : Int) := by
  obtain rfl | rfl | rfl | rfl | rfl | rfl : k = 0 ∨ k = 1 ∨ k = 2 ∨ k = 3 ∨ k = 4 ∨ k = 5 := by omega
  all_goals kernel_rfl
theorem or_b {x w : Nat} (hx : x < 64) (hw : w < 64) : bits .or .i64 x w = ((x ||| w : Nat) : Int) := by
  have hlt : x ||| w < 2 ^ 6 := Nat.or_lt_two_pow hx hw
  have hn : ∀ {y : Nat}, y < 64 → BitVec.ofInt 64 (y : Int) = BitVec.ofNat 64 y := fun _ => rfl
  show IntKind.i64.wrap ((BitVec.ofInt 64 (x : Int) ||| BitVec.ofInt 64 (w : Int)).toNat : Int) = _
  rw [BitVec.toNat_or, hn hx, hn hw, BitVec.toNat_ofNat, BitVec.toNat_ofNat, Nat.mod_eq_of_lt (by omega), Nat.mod_eq_of_lt (by omega), wrap64 (by omega) (by omega)]
theorem of_loop : ∀ (r p : List Int) (o : Nat) (ho : o < 64) (hlen : (p ++ r).length ≤ 2 ^ 62) (s : Fr18) (h0 : s.t6 = p ++ r) (h7 : s.t7 = ((p ++ r).length : Int)) (h3 : s.t3 = (o : Int)) (h4 : s.t8 = (p.length : Int)), ∃ s', loopM L18_6 s = some (.ext 0, s') ∧ s'.t3 = ((ofS r o : Nat) : Int) := by
  intro r
  induction r with
  | nil =>
    intro p o ho hlen s h0 h7 h3 h4
    have h : decide ((p.length : Int) < (p.length : Int)) = false := by simp
    rw [List.append_nil] at h0 h7
    refine ⟨_, loopM_ext (by simp only [L18_6, m18_5, seqM, condM, blockM, skipM, exitM, retM, h0, h7, h4, h]; exact rfl), ?_⟩; exact h3
  | cons i r ih =>
    intro p o ho hlen s h0 h7 h3 h4
    have hl2 : (p ++ i :: r).length = p.length + (r.length + 1) := by simp
    have h : decide ((p.length : Int) < ((p ++ i :: r).length : Int)) = true := by rw [hl2]; simp; omega
    have w1 : IntKind.wrap .i64 ((p.length : Int) + 1) = (((p ++ [i]).length : Nat) : Int) := by
      rw [hl2] at hlen
      rw [wrap64 (by omega) (by omega)]; simp
    have hat : at? (p ++ i :: r) (p.length : Int) = some i := by rw [at_nat]; simp
    have happ : p ++ i :: r = (p ++ [i]) ++ r := by simp
    by_cases hc : 0 ≤ i ∧ i < 6
    · obtain ⟨k, rfl⟩ : ∃ k : Nat, i = k := ⟨i.toNat, by omega⟩
      have hc1 : decide ((k : Int) ≥ 0) = true := by simp
      have hc2 : decide ((k : Int) < 6) = true := by simp; omega
      have hpk := pow6 (show k < 6 by omega)
      rw [loopM_nrm (by simp only [L18_6, m18_5, m18_4, m18_3, m18_2, m18_1, seqM, condM, blockM, skipM, exitM, retM, h0, h7, h3, h4, h, hat, Option.bind_some, hc1, hc2, Bool.and_self, shl_one (show k < 6 by omega), or_b ho hpk, w1]; exact rfl)]
      rw [ofS_in (show k < 6 by omega)]
      refine ih (p ++ [(k : Int)]) (o ||| 2 ^ k) (Nat.or_lt_two_pow (n := 6) ho hpk) (by rw [← happ]; exact hlen) _ ?_ ?_ ?_ ?_
      · exact happ
      · exact congrArg (fun l : List Int => (l.length : Int)) happ
      · rfl
      · rfl
    · have hc3 : (decide (i ≥ 0) && decide (i < 6)) = false := by
        rw [Bool.and_eq_false_iff]
        simp only [decide_eq_false_iff_not]
        omega
      rw [loopM_nrm (by simp only [L18_6, m18_5, m18_4, m18_3, m18_2, m18_1, seqM, condM, blockM, skipM, exitM, retM, h0, h7, h3, h4, h, hat, Option.bind_some, hc3, w1]; exact rfl)]
      rw [ofS_out hc]
      refine ih (p ++ [i]) o ho (by rw [← happ]; exact hlen) _ ?_ ?_ ?_ ?_
      · exact happ
      · exact congrArg (fun l : List Int => (l.length : Int)) happ
      · first | rfl | exact h3
      · rfl
theorem of_ok {l : List Int} (hl : l.length ≤ 2 ^ 62) : G18 l = some ((ofS l 0 : Nat) : Int) := by
  obtain ⟨s', hs, h3⟩ := of_loop l [] 0 (by decide) hl ({ ({ ({ (default : Fr18) with t0 := l } : Fr18) with t3 := 0 } : Fr18) with t6 := l, t7 := (l.length : Int), t8 := 0 }) rfl rfl rfl rfl
  simp only [G18, M18, m18_9, m18_8, m18_7, m18_0, seqM, condM, blockM, skipM, exitM, retM, hs, if_true, h3]

def dimsN (x k : Nat) : List Int := ((List.range k).filter fun i => x.testBit i).map fun i : Nat => (i : Int)
def dimsL (x : Int) : List Int := if 0 ≤ x ∧ x < 64 then dimsN x.toNat 6 else []
theorem dimsN_len (x k : Nat) : (dimsN x k).length ≤ k := by
  have := List.length_filter_le (fun i => x.testBit i) (List.range k)
  simpa [dimsN] using this
theorem dimsN_succ (x k : Nat) : dimsN x (k + 1) = dimsN x k ++ (if x.testBit k then [(k : Int)] else []) := by
  simp only [dimsN, List.range_succ, List.filter_append, List.map_append]
  cases h : x.testBit k <;> simp [h]
theorem app_small {xs : List Int} {k : Nat} (hk : k < 6) (hx : xs.length ≤ k) (y : Int) : appT 8 xs [y] = some (xs ++ [y]) := by
  unfold appT
  rw [if_pos ⟨by simp; omega, by simp; omega⟩]
theorem and_all : ((List.range 64).all fun x => (List.range 6).all fun i => (bits .and .i64 (x : Nat) ((2 ^ i : Nat) : Int) != 0) == x.testBit i) = true := by kernel_rfl
theorem and_bit {x i : Nat} (hx : x < 64) (hi : i < 6) : (bits .and .i64 (x : Nat) ((2 ^ i : Nat) : Int) != 0) = x.testBit i := by
  have h1 := List.all_eq_true.1 and_all x (by simp; omega)
  have h2 := List.all_eq_true.1 h1 i (by simp; omega)
  simpa using h2
theorem ones_all : ((List.range 64).all fun x => match G49 (IntKind.wrap .u64 (x : Nat)) with
    | some n => decide (0 ≤ n) && decide (n ≤ 64)
    | none => false) = true := by kernel_rfl
theorem ones_ok {x : Nat} (hx : x < 64) : ∃ n : Int, G49 (IntKind.wrap .u64 (x : Nat)) = some n ∧ 0 ≤ n ∧ n ≤ 64 := by
  have h1 := List.all_eq_true.1 ones_all x (by simp; omega)
  cases hg : G49 (IntKind.wrap .u64 (x : Nat)) with
  | none => rw [hg] at h1; simp at h1
  | some n =>
    rw [hg] at h1
    simp only [Bool.and_eq_true, decide_eq_true_eq] at h1
    exact ⟨n, rfl, h1.1, h1.2⟩
theorem list_loop (x : Nat) (hx : x < 64) : ∀ (m k : Nat) (hk : k + m = 6) (s : Fr19) (h0 : s.t0 = (x : Int)) (h3 : s.t3 = dimsN x k) (h4 : s.t15 = (k : Int)), ∃ s', loopM L19_6 s = some (.ext 0, s') ∧ s'.t3 = dimsN x 6 := by
  intro m
  induction m with
  | zero =>
    intro k hk s h0 h3 h4
    obtain rfl : k = 6 := by omega
    refine ⟨_, loopM_ext (by simp only [L19_6, m19_5, seqM, condM, blockM, skipM, exitM, retM, h0, h4, show decide (((6 : Nat) : Int) < 6) = false from rfl]; exact rfl), ?_⟩; exact h3
  | succ m ih =>
    intro k hk s h0 h3 h4
    have h : decide ((k : Int) < 6) = true := by simp; omega
    have w1 : IntKind.wrap .i64 ((k : Int) + 1) = ((k + 1 : Nat) : Int) := by rw [wrap64 (by omega) (by omega)]; rfl
    have hl := dimsN_len x k
    have hb := and_bit hx (show k < 6 by omega)
    cases hc : x.testBit k with
    | false =>
      rw [hc] at hb
      rw [loopM_nrm (by simp only [L19_6, m19_5, m19_4, m19_3, m19_2, m19_1, seqM, condM, blockM, skipM, exitM, retM, h0, h3, h4, h, shl_one (show k < 6 by omega), Option.bind_some, hb, w1]; exact rfl)]
      refine ih (k + 1) (by omega) _ ?_ ?_ ?_
      · first | rfl | exact h0
      · rw [dimsN_succ, hc]; simp [h3]
      · rfl
    | true =>
      rw [hc] at hb
      rw [loopM_nrm (by simp only [L19_6, m19_5, m19_4, m19_3, m19_2, m19_1, seqM, condM, blockM, skipM, exitM, retM, h0, h3, h4, h, shl_one (show k < 6 by omega), Option.bind_some, hb, w1, app_small (show k < 6 by omega) hl]; exact rfl)]
      refine ih (k + 1) (by omega) _ ?_ ?_ ?_
      · first | rfl | exact h0
      · rw [dimsN_succ, hc]; simp [h3]
      · rfl
theorem list_ok (x : Int) : G19 x = some (dimsL x) := by
  unfold dimsL
  by_cases hc : 0 ≤ x ∧ x < 64
  · obtain ⟨n, rfl⟩ : ∃ n : Nat, x = n := ⟨x.toNat, by omega⟩
    rw [if_pos hc, Int.toNat_natCast]
    obtain ⟨c, hc1, hc2, hc3⟩ := ones_ok (x := n) (by omega)
    have hr : roomT 8 c = some () := by
      unfold roomT
      rw [if_pos ⟨hc2, by omega, by omega⟩]
    have hd : (decide ((n : Int) < 0) || decide ((n : Int) > 63)) = false := by simp; omega
    obtain ⟨s', hs, h3⟩ := list_loop n (by omega) 6 0 rfl ({ ({ ({ ({ (default : Fr19) with t0 := (n : Int) } : Fr19) with t10 := false } : Fr19) with t3 := [] } : Fr19) with t15 := 0 }) rfl rfl rfl
    simp only [G19, M19, m19_11, m19_10, m19_8, m19_7, m19_0, seqM, condM, blockM, skipM, exitM, retM, hd, hc1, hr, Option.bind_some, hs, if_true, h3]
  · rw [if_neg hc]
    have hd : (decide (x < 0) || decide (x > 63)) = true := by simp; omega
    simp only [G19, M19, m19_11, m19_10, m19_9, seqM, condM, blockM, skipM, exitM, retM, hd]
def sz : TestT → Nat
  | .nil => 0
  | .mk _ l r _ _ _ _ _ => 1 + sz l + sz r
def dep : TestT → Nat
  | .nil => 0
  | .mk _ l r _ _ _ _ _ => 1 + max (dep l) (dep r)
theorem walk_sz : ∀ (x : TestT) (n : Nat), n ≤ 4097 → walkN x n = min (n + sz x) 4097
  | .nil, n, h => by simp only [walkN, sz]; omega
  | .mk _ l r _ _ _ _ _, n, h => by
    unfold walkN
    split
    · simp only [sz]; omega
    · rw [walk_sz l _ (by omega), walk_sz r _ (by omega)]
      simp only [sz]; omega
def rd : TestT → Nat × Bool
  | .nil => (0, false)
  | .mk k l r m i _ _ _ => if k ≠ 4 ∧ k ≠ 5 then ((rd l).1 ||| (rd r).1, (rd l).2 || (rd r).2) else if m then (0, true) else (ofS [i] 0, false)
theorem rd_mk (k : Int) (l r : TestT) (m : Bool) (i o : Int) (ts : List (List UInt8)) (is : List Int) : rd (.mk k l r m i o ts is) = if k ≠ 4 ∧ k ≠ 5 then ((rd l).1 ||| (rd r).1, (rd l).2 || (rd r).2) else if m then (0, true) else (ofS [i] 0, false) := by rw [rd]
theorem rd_lt : ∀ x, (rd x).1 < 64
  | .nil => by simp [rd]
  | .mk k l r m i _ _ _ => by
    unfold rd
    split
    · exact Nat.or_lt_two_pow (n := 6) (rd_lt l) (rd_lt r)
    · split
      · simp
      · exact ofS_lt _ _ (by decide)
theorem ne_b (k : Int) : ((k != 4) && (k != 5)) = decide (k ≠ 4 ∧ k ≠ 5) := by
  rw [Bool.eq_iff_iff]; simp
theorem eq_b (k : Int) : ((k == 4) || (k == 5)) = !decide (k ≠ 4 ∧ k ≠ 5) := by
  by_cases h4 : k = 4 <;> by_cases h5 : k = 5 <;> simp [h4, h5]
theorem reads_ok : ∀ (x : TestT) (n : Nat), dep x < n → F42 n x = some (((rd x).1 : Int), (rd x).2) := by
  intro x
  induction x with
  | nil =>
    intro n hn
    obtain ⟨m, rfl⟩ : ∃ m, n = m + 1 := ⟨n - 1, by omega⟩
    simp only [F42, G42, M42, m42_0, m42_1, m42_2, m42_3, m42_4, m42_5, m42_6, m42_7, m42_8, m42_9, seqM, condM, blockM, skipM, exitM, retM, TestT.isNil, rd]
    rfl
  | mk k l r mm i o ts is ihl ihr =>
    intro n hn
    obtain ⟨m, rfl⟩ : ∃ m, n = m + 1 := ⟨n - 1, by simp only [dep] at hn; omega⟩
    simp only [dep] at hn
    have hl := ihl m (by omega)
    have hr := ihr m (by omega)
    cases hc : decide (k ≠ 4 ∧ k ≠ 5) with
    | true =>
      have hc' : k ≠ 4 ∧ k ≠ 5 := of_decide_eq_true hc
      simp only [F42, G42, M42, m42_0, m42_1, m42_2, m42_3, m42_4, m42_5, m42_6, m42_7, m42_8, m42_9, seqM, condM, blockM, skipM, exitM, retM, TestT.isNil, TestT.get, Option.bind_some, ne_b, hc, hl, hr, or_b (rd_lt l) (rd_lt r)]
      rw [rd_mk, if_pos hc']
    | false =>
      have hc' : ¬ (k ≠ 4 ∧ k ≠ 5) := of_decide_eq_false hc
      cases mm with
      | true =>
        simp only [F42, G42, M42, m42_0, m42_1, m42_2, m42_3, m42_4, m42_5, m42_6, m42_7, m42_8, m42_9, seqM, condM, blockM, skipM, exitM, retM, TestT.isNil, TestT.get, Option.bind_some, ne_b, hc]
        rw [rd_mk, if_neg hc']; rfl
      | false =>
        simp only [F42, G42, M42, m42_0, m42_1, m42_2, m42_3, m42_4, m42_5, m42_6, m42_7, m42_8, m42_9, seqM, condM, blockM, skipM, exitM, retM, TestT.isNil, TestT.get, Option.bind_some, ne_b, hc, of_ok (l := [i]) (by simp)]
        rw [rd_mk, if_neg hc']; rfl
theorem dims_all : ((List.range 64).all fun x => ofS (dimsN x 6) 0 == x) = true := by kernel_rfl
theorem ofS_dims {x : Nat} (h : x < 64) : ofS (dimsN x 6) 0 = x := by
  have h1 := List.all_eq_true.1 dims_all x (by simp; omega)
  simpa using h1
theorem dimsL_nat {x : Nat} (h : x < 64) : dimsL (x : Int) = dimsN x 6 := by
  unfold dimsL; rw [if_pos ⟨by omega, by omega⟩, Int.toNat_natCast]
theorem app_dims {xs ys : List Int} (h : xs.length ≤ 2 ^ 40) (hy : ys.length ≤ 6) : appT 8 xs ys = some (xs ++ ys) := by
  unfold appT
  rw [if_pos ⟨by omega, by omega⟩]
end Go.Proofs.Pln
