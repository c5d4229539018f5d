/-
  PLAN (aa): what the functions under Need come to, the program's and the document's, in plain terms.
-/
-- GN Plm
import Derived.Test.YtijnepmlnfcpnaaGreatDoorPlmNodes
set_option linter.unusedVariables false
set_option linter.unusedSimpArgs false
set_option linter.unusedSimpArgs false
set_option linter.unusedVariables false
set_option maxRecDepth 100000
namespace Go.Proofs.Plm
open Go Go.Am Go.Proofs

theorem bit_loop (n : Nat) (hn : n ≤ 60) : ∀ (m k : Nat) (hk : k + m = n) (a : Int) (b : Bool), loopM L175_4 ⟨n, a, ((2 ^ k : Nat) : Int), k, b⟩ = some (.ext 0, ⟨n, a, ((2 ^ n : Nat) : Int), n, false⟩) := by
  intro m
  induction m with
  | zero =>
    intro k hk a b
    obtain rfl : k = n := by omega
    rw [loopM_eq]
    have h : decide ((k : Int) < (k : Int)) = false := by simp
    simp only [L175_4, m175_3, m175_2, m175_1, seqM, condM, blockM, skipM, exitM, retM, h]
  | succ m ih =>
    intro k hk a b
    rw [loopM_eq]
    have h : decide ((k : Int) < (n : Int)) = true := by simp; omega
    have hp : 2 ^ k ≤ 2 ^ 60 := Nat.pow_le_pow_right (by decide) (by omega)
    have h1 : IntKind.wrap .i64 (((2 ^ k : Nat) : Int) * 2) = ((2 ^ (k + 1) : Nat) : Int) := by
      rw [Nat.pow_succ]
      generalize 2 ^ k = p at hp
      have hp' : p ≤ 1152921504606846976 := hp
      rw [wrap64 (by omega) (by omega)]; push_cast; rfl
    have h2 : IntKind.wrap .i64 ((k : Int) + 1) = ((k + 1 : Nat) : Int) := by rw [wrap64 (by omega) (by omega)]; rfl
    simp only [L175_4, m175_3, m175_2, m175_1, seqM, condM, blockM, skipM, exitM, retM, h, blockM, h1, h2]
    exact ih (k + 1) (by omega) a true
theorem bit_ok {i : Nat} (hi : i ≤ 60) : G175 i = some ((2 ^ i : Nat) : Int) := by
  have := bit_loop i hi i 0 (by omega) 0 false
  simp only [Nat.pow_zero, Int.natCast_zero, Int.natCast_one] at this
  simp only [G175, M175, m175_7, m175_6, m175_5, m175_0, seqM, condM, blockM, skipM, exitM, retM, default, instInhabitedFr175, this, if_true]
theorem has_ok {a i : Nat} (ha : a < 64) (hi : i < 6) : G118 a i = some (a.testBit i) := by
  have hb := bit_ok (i := i) (by omega)
  have hp : (1 : Int) ≤ ((2 ^ i : Nat) : Int) := by have := Nat.one_le_two_pow (n := i); omega
  have hq : quoT .i64 (a : Int) ((2 ^ i : Nat) : Int) = some ((a / 2 ^ i : Nat) : Int) := by
    unfold quoT
    rw [if_pos (by omega), Int.tdiv_eq_ediv_of_nonneg (by omega)]
    have : a / 2 ^ i ≤ a := Nat.div_le_self _ _
    rw [← Int.natCast_ediv]
    generalize a / 2 ^ i = q at this
    rw [wrap64 (by omega) (by omega)]
  have ht : ((((a / 2 ^ i : Nat) : Int).tmod 2) == 1) = a.testBit i := by
    rw [Nat.testBit_eq_decide_div_mod_eq]
    generalize a / 2 ^ i = q
    rw [Int.tmod_eq_emod_of_nonneg (by omega)]
    rw [Bool.eq_iff_iff]; simp only [beq_iff_eq, decide_eq_true_eq]
    omega
  simp only [G118, M118, m118_1, m118_0, seqM, condM, blockM, skipM, exitM, retM, hb, hq, ht, Option.bind_some]
theorem mod_succ (x k : Nat) : x % 2 ^ (k + 1) = x % 2 ^ k + (if x.testBit k then 2 ^ k else 0) := by
  rw [Nat.mod_pow_succ, Nat.testBit_eq_decide_div_mod_eq]
  have : x / 2 ^ k % 2 = 0 ∨ x / 2 ^ k % 2 = 1 := by omega
  rcases this with h | h <;> rw [h] <;> simp
/-- one round of the union -/
theorem union_loop (a b : Nat) (ha : a < 64) (hb : b < 64) : ∀ (m k : Nat) (hk : k + m = 6) (s : Fr117) (h0 : s.t0 = a) (h1 : s.t1 = b) (h5 : s.t5 = (((a ||| b) % 2 ^ k : Nat) : Int)) (h6 : s.t6 = k), ∃ s', loopM L117_7 s = some (.ext 0, s') ∧ s'.t5 = ((a ||| b : Nat) : Int) := by
  intro m
  induction m with
  | zero =>
    intro k hk s h0 h1 h5 h6
    obtain rfl : k = 6 := by omega
    have hlt : a ||| b < 2 ^ 6 := Nat.or_lt_two_pow ha hb
    have h : decide (s.t6 < 6) = false := by rw [h6]; rfl
    refine ⟨_, loopM_ext (by simp only [L117_7, m117_6, seqM, condM, blockM, skipM, exitM, retM, h]; exact rfl), ?_⟩
    rw [h5, Nat.mod_eq_of_lt hlt]
  | succ m ih =>
    intro k hk s h0 h1 h5 h6
    have h : decide ((k : Int) < 6) = true := by simp; omega
    have w1 : IntKind.wrap .i64 ((k : Int) + 1) = ((k + 1 : Nat) : Int) := by rw [wrap64 (by omega) (by omega)]; rfl
    have hs := mod_succ (a ||| b) k
    have hor : (a ||| b).testBit k = (a.testBit k || b.testBit k) := Nat.testBit_or a b k
    cases hc : (a.testBit k || b.testBit k) with
    | false =>
      rw [loopM_nrm (by simp only [L117_7, m117_6, m117_5, m117_4, m117_3, m117_2, m117_1, seqM, condM, blockM, skipM, exitM, retM, h0, h1, h5, h6, h, has_ok ha (show k < 6 by omega), has_ok hb (show k < 6 by omega), Option.bind_some, hc, w1]; exact rfl)]
      apply ih (k + 1) (by omega)
      · rfl
      · rfl
      · simp only [hs, hor, hc, h5, Bool.false_eq_true, if_false, Nat.add_zero]
      · rfl
    | true =>
      have hlt : a ||| b < 64 := Nat.or_lt_two_pow (n := 6) ha hb
      have hm : (a ||| b) % 2 ^ k ≤ a ||| b := Nat.mod_le _ _
      have hp : 2 ^ k ≤ 2 ^ 6 := Nat.pow_le_pow_right (by decide) (by omega)
      have w2 : IntKind.wrap .i64 ((((a ||| b) % 2 ^ k : Nat) : Int) + ((2 ^ k : Nat) : Int)) = (((a ||| b) % 2 ^ k + 2 ^ k : Nat) : Int) := by
        generalize (a ||| b) % 2 ^ k = x at hm
        generalize 2 ^ k = y at hp
        have : y ≤ 64 := hp
        rw [wrap64 (by omega) (by omega)]; push_cast; rfl
      rw [loopM_nrm (by simp only [L117_7, m117_6, m117_5, m117_4, m117_3, m117_2, m117_1, seqM, condM, blockM, skipM, exitM, retM, h0, h1, h5, h6, h, has_ok ha (show k < 6 by omega), has_ok hb (show k < 6 by omega), bit_ok (show k ≤ 60 by omega), Option.bind_some, hc, w1, w2]; exact rfl)]
      apply ih (k + 1) (by omega)
      · rfl
      · rfl
      · simp only [hs, hor, hc, if_true]
      · rfl
theorem union_ok {a b : Nat} (ha : a < 64) (hb : b < 64) : G117 a b = some ((a ||| b : Nat) : Int) := by
  obtain ⟨s', hs, h5⟩ := union_loop a b ha hb 6 0 rfl ({ ({ ({ (default : Fr117) with t0 := (a : Int), t1 := (b : Int) } : Fr117) with t5 := 0 } : Fr117) with t6 := 0 }) rfl rfl (by simp [Nat.mod_one]) rfl
  simp only [G117, M117, m117_10, m117_9, m117_8, m117_0, seqM, condM, blockM, skipM, exitM, retM, hs, if_true, h5]

/-! ### sets of dimensions -/
def ofS (l : List Int) (o : Nat) : Nat := l.foldl (fun o i => if 0 ≤ i ∧ i < 6 then o ||| 2 ^ i.toNat else o) o
theorem pow6 {i : Nat} (h : i < 6) : 2 ^ i < 64 := by
  have : 2 ^ i < 2 ^ 6 := Nat.pow_lt_pow_right (by decide) h
  exact this
theorem ofS_lt : ∀ (l : List Int) (o : Nat), o < 64 → ofS l o < 64 := by
  intro l
  induction l with
  | nil => intro o h; exact h
  | cons i l ih =>
    intro o h
    refine ih _ ?_
    change (if 0 ≤ i ∧ i < 6 then o ||| 2 ^ i.toNat else o) < 64
    split
    · rename_i hc
      exact Nat.or_lt_two_pow (n := 6) h (pow6 (by omega))
    · exact h
theorem ofS_append (a b : List Int) (o : Nat) : ofS (a ++ b) o = ofS b (ofS a o) := by simp [ofS, List.foldl_append]
theorem ofS_or : ∀ (l : List Int) (o : Nat), ofS l o = o ||| ofS l 0 := by
  intro l
  induction l with
  | nil => intro o; simp [ofS]
  | cons i l ih =>
    intro o
    change ofS l (if 0 ≤ i ∧ i < 6 then o ||| 2 ^ i.toNat else o) = o ||| ofS l (if 0 ≤ i ∧ i < 6 then 0 ||| 2 ^ i.toNat else 0)
    by_cases hc : 0 ≤ i ∧ i < 6
    · rw [if_pos hc, if_pos hc, ih (o ||| 2 ^ i.toNat), ih (0 ||| 2 ^ i.toNat), Nat.zero_or, Nat.or_assoc]
    · rw [if_neg hc, if_neg hc]; exact ih o
theorem ofS_in {l : List Int} {o k : Nat} (hk : k < 6) : ofS ((k : Int) :: l) o = ofS l (o ||| 2 ^ k) := by
  change ofS l (if 0 ≤ (k : Int) ∧ (k : Int) < 6 then o ||| 2 ^ (k : Int).toNat else o) = _
  rw [if_pos ⟨by omega, by omega⟩, Int.toNat_natCast]
theorem ofS_out {l : List Int} {o : Nat} {i : Int} (hc : ¬ (0 ≤ i ∧ i < 6)) : ofS (i :: l) o = ofS l o := by
  change ofS l (if 0 ≤ i ∧ i < 6 then o ||| 2 ^ i.toNat else o) = _
  rw [if_neg hc]
theorem refOf_loop : ∀ (r p : List Int) (o : Nat) (ho : o < 64) (hlen : (p ++ r).length ≤ 2 ^ 62) (s : Fr158) (h0 : s.t0 = p ++ r) (h3 : s.t3 = (o : Int)) (h4 : s.t4 = (p.length : Int)), ∃ s', loopM L158_5 s = some (.ext 0, s') ∧ s'.t3 = ((ofS r o : Nat) : Int) := by
  intro r
  induction r with
  | nil =>
    intro p o ho hlen s h0 h3 h4
    have h : decide ((p.length : Int) < (p.length : Int)) = false := by simp
    rw [List.append_nil] at h0
    refine ⟨_, loopM_ext (by simp only [L158_5, m158_4, seqM, condM, blockM, skipM, exitM, retM, h0, h4, h]; exact rfl), ?_⟩; exact h3
  | cons i r ih =>
    intro p o ho hlen s h0 h3 h4
    have hl2 : (p ++ i :: r).length = p.length + (r.length + 1) := by simp
    have h : decide ((p.length : Int) < ((p ++ i :: r).length : Int)) = true := by rw [hl2]; simp; omega
    have w1 : IntKind.wrap .i64 ((p.length : Int) + 1) = (((p ++ [i]).length : Nat) : Int) := by
      rw [hl2] at hlen
      rw [wrap64 (by omega) (by omega)]; simp
    have hat : at? (p ++ i :: r) (p.length : Int) = some i := by rw [at_nat]; simp
    have happ : p ++ i :: r = (p ++ [i]) ++ r := by simp
    by_cases hc : 0 ≤ i ∧ i < 6
    · obtain ⟨k, rfl⟩ : ∃ k : Nat, i = k := ⟨i.toNat, by omega⟩
      have hc1 : decide ((k : Int) ≥ 0) = true := by simp
      have hc2 : decide ((k : Int) < 6) = true := by simp; omega
      have hpk := pow6 (show k < 6 by omega)
      rw [loopM_nrm (by simp only [L158_5, m158_4, m158_3, m158_2, m158_1, seqM, condM, blockM, skipM, exitM, retM, h0, h3, h4, h, hat, Option.bind_some, hc1, hc2, Bool.and_self, bit_ok (show k ≤ 60 by omega), union_ok ho hpk, w1]; exact rfl)]
      rw [ofS_in (show k < 6 by omega)]
      refine ih (p ++ [(k : Int)]) (o ||| 2 ^ k) (Nat.or_lt_two_pow (n := 6) ho hpk) (by rw [← happ]; exact hlen) _ ?_ ?_ ?_
      · exact happ
      · rfl
      · rfl
    · have hc3 : (decide (i ≥ 0) && decide (i < 6)) = false := by
        rw [Bool.and_eq_false_iff]
        simp only [decide_eq_false_iff_not]
        omega
      rw [loopM_nrm (by simp only [L158_5, m158_4, m158_3, m158_2, m158_1, seqM, condM, blockM, skipM, exitM, retM, h0, h3, h4, h, hat, Option.bind_some, hc3, w1]; exact rfl)]
      rw [ofS_out hc]
      refine ih (p ++ [i]) o ho (by rw [← happ]; exact hlen) _ ?_ ?_ ?_
      · exact happ
      · first | rfl | exact h3
      · rfl
theorem refOf_ok {l : List Int} (hl : l.length ≤ 2 ^ 62) : G158 l = some ((ofS l 0 : Nat) : Int) := by
  obtain ⟨s', hs, h3⟩ := refOf_loop l [] 0 (by decide) hl ({ ({ ({ (default : Fr158) with t0 := l } : Fr158) with t3 := 0 } : Fr158) with t4 := 0 }) rfl rfl rfl
  simp only [G158, M158, m158_8, m158_7, m158_6, m158_0, seqM, condM, blockM, skipM, exitM, retM, hs, if_true, h3]
theorem shl_one {k : Nat} (h : k < 6) : shlT .i64 1 (k : Int) = some ((2 ^ k : Nat) : Int) := by
  obtain rfl | rfl | rfl | rfl | rfl | rfl : k = 0 ∨ k = 1 ∨ k = 2 ∨ k = 3 ∨ k = 4 ∨ k = 5 := by omega
  all_goals kernel_rfl
theorem or_b {x w : Nat} (hx : x < 64) (hw : w < 64) : bits .or .i64 x w = ((x ||| w : Nat) : Int) := by
  have hlt : x ||| w < 2 ^ 6 := Nat.or_lt_two_pow hx hw
  have hn : ∀ {y : Nat}, y < 64 → BitVec.ofInt 64 (y : Int) = BitVec.ofNat 64 y := fun _ => rfl
  show IntKind.i64.wrap ((BitVec.ofInt 64 (x : Int) ||| BitVec.ofInt 64 (w : Int)).toNat : Int) = _
  rw [BitVec.toNat_or, hn hx, hn hw, BitVec.toNat_ofNat, BitVec.toNat_ofNat, Nat.mod_eq_of_lt (by omega), Nat.mod_eq_of_lt (by omega), wrap64 (by omega) (by omega)]
theorem of_loop : ∀ (r p : List Int) (o : Nat) (ho : o < 64) (hlen : (p ++ r).length ≤ 2 ^ 62) (s : Fr41) (h0 : s.t6 = p ++ r) (h7 : s.t7 = ((p ++ r).length : Int)) (h3 : s.t3 = (o : Int)) (h4 : s.t8 = (p.length : Int)), ∃ s', loopM L41_6 s = some (.ext 0, s') ∧ s'.t3 = ((ofS r o : Nat) : Int) := by
  intro r
  induction r with
  | nil =>
    intro p o ho hlen s h0 h7 h3 h4
    have h : decide ((p.length : Int) < (p.length : Int)) = false := by simp
    rw [List.append_nil] at h0 h7
    refine ⟨_, loopM_ext (by simp only [L41_6, m41_5, seqM, condM, blockM, skipM, exitM, retM, h0, h7, h4, h]; exact rfl), ?_⟩; exact h3
  | cons i r ih =>
    intro p o ho hlen s h0 h7 h3 h4
    have hl2 : (p ++ i :: r).length = p.length + (r.length + 1) := by simp
    have h : decide ((p.length : Int) < ((p ++ i :: r).length : Int)) = true := by rw [hl2]; simp; omega
    have w1 : IntKind.wrap .i64 ((p.length : Int) + 1) = (((p ++ [i]).length : Nat) : Int) := by
      rw [hl2] at hlen
      rw [wrap64 (by omega) (by omega)]; simp
    have hat : at? (p ++ i :: r) (p.length : Int) = some i := by rw [at_nat]; simp
    have happ : p ++ i :: r = (p ++ [i]) ++ r := by simp
    by_cases hc : 0 ≤ i ∧ i < 6
    · obtain ⟨k, rfl⟩ : ∃ k : Nat, i = k := ⟨i.toNat, by omega⟩
      have hc1 : decide ((k : Int) ≥ 0) = true := by simp
      have hc2 : decide ((k : Int) < 6) = true := by simp; omega
      have hpk := pow6 (show k < 6 by omega)
      rw [loopM_nrm (by simp only [L41_6, m41_5, m41_4, m41_3, m41_2, m41_1, seqM, condM, blockM, skipM, exitM, retM, h0, h7, h3, h4, h, hat, Option.bind_some, hc1, hc2, Bool.and_self, shl_one (show k < 6 by omega), or_b ho hpk, w1]; exact rfl)]
      rw [ofS_in (show k < 6 by omega)]
      refine ih (p ++ [(k : Int)]) (o ||| 2 ^ k) (Nat.or_lt_two_pow (n := 6) ho hpk) (by rw [← happ]; exact hlen) _ ?_ ?_ ?_ ?_
      · exact happ
      · exact congrArg (fun l : List Int => (l.length : Int)) happ
      · rfl
      · rfl
    · have hc3 : (decide (i ≥ 0) && decide (i < 6)) = false := by
        rw [Bool.and_eq_false_iff]
        simp only [decide_eq_false_iff_not]
        omega
      rw [loopM_nrm (by simp only [L41_6, m41_5, m41_4, m41_3, m41_2, m41_1, seqM, condM, blockM, skipM, exitM, retM, h0, h7, h3, h4, h, hat, Option.bind_some, hc3, w1]; exact rfl)]
      rw [ofS_out hc]
      refine ih (p ++ [i]) o ho (by rw [← happ]; exact hlen) _ ?_ ?_ ?_ ?_
      · exact happ
      · exact congrArg (fun l : List Int => (l.length : Int)) happ
      · first | rfl | exact h3
      · rfl
theorem of_ok {l : List Int} (hl : l.length ≤ 2 ^ 62) : G41 l = some ((ofS l 0 : Nat) : Int) := by
  obtain ⟨s', hs, h3⟩ := of_loop l [] 0 (by decide) hl ({ ({ ({ (default : Fr41) with t0 := l } : Fr41) with t3 := 0 } : Fr41) with t6 := l, t7 := (l.length : Int), t8 := 0 }) rfl rfl rfl rfl
  simp only [G41, M41, m41_9, m41_8, m41_7, m41_0, seqM, condM, blockM, skipM, exitM, retM, hs, if_true, h3]

def dimsN (x k : Nat) : List Int := ((List.range k).filter fun i => x.testBit i).map fun i : Nat => (i : Int)
def dimsL (x : Int) : List Int := if 0 ≤ x ∧ x < 64 then dimsN x.toNat 6 else []
theorem dimsN_len (x k : Nat) : (dimsN x k).length ≤ k := by
  have := List.length_filter_le (fun i => x.testBit i) (List.range k)
  simpa [dimsN] using this
theorem dimsN_succ (x k : Nat) : dimsN x (k + 1) = dimsN x k ++ (if x.testBit k then [(k : Int)] else []) := by
  simp only [dimsN, List.range_succ, List.filter_append, List.map_append]
  cases h : x.testBit k <;> simp [h]
theorem app_small {xs : List Int} {k : Nat} (hk : k < 6) (hx : xs.length ≤ k) (y : Int) : appT 8 xs [y] = some (xs ++ [y]) := by
  unfold appT
  rw [if_pos ⟨by simp; omega, by simp; omega⟩]
theorem refList_loop (x : Nat) (hx : x < 64) : ∀ (m k : Nat) (hk : k + m = 6) (s : Fr49) (h0 : s.t0 = (x : Int)) (h3 : s.t3 = dimsN x k) (h4 : s.t4 = (k : Int)), ∃ s', loopM L49_6 s = some (.ext 0, s') ∧ s'.t3 = dimsN x 6 := by
  have c1 : decide ((x : Int) ≥ 0) = true := by simp
  have c2 : decide ((x : Int) < 64) = true := by simp; omega
  intro m
  induction m with
  | zero =>
    intro k hk s h0 h3 h4
    obtain rfl : k = 6 := by omega
    refine ⟨_, loopM_ext (by simp only [L49_6, m49_5, seqM, condM, blockM, skipM, exitM, retM, h0, h4, show decide (((6 : Nat) : Int) < 6) = false from rfl, Bool.false_and]; exact rfl), ?_⟩; exact h3
  | succ m ih =>
    intro k hk s h0 h3 h4
    have h : decide ((k : Int) < 6) = true := by simp; omega
    have w1 : IntKind.wrap .i64 ((k : Int) + 1) = ((k + 1 : Nat) : Int) := by rw [wrap64 (by omega) (by omega)]; rfl
    have hl := dimsN_len x k
    cases hc : x.testBit k with
    | false =>
      rw [loopM_nrm (by simp only [L49_6, m49_5, m49_4, m49_3, m49_2, m49_1, seqM, condM, blockM, skipM, exitM, retM, h0, h3, h4, h, c1, c2, Bool.and_self, has_ok hx (show k < 6 by omega), Option.bind_some, hc, w1]; exact rfl)]
      refine ih (k + 1) (by omega) _ ?_ ?_ ?_
      · first | rfl | exact h0
      · rw [dimsN_succ, hc]; simp [h3]
      · rfl
    | true =>
      rw [loopM_nrm (by simp only [L49_6, m49_5, m49_4, m49_3, m49_2, m49_1, seqM, condM, blockM, skipM, exitM, retM, h0, h3, h4, h, c1, c2, Bool.and_self, has_ok hx (show k < 6 by omega), Option.bind_some, hc, w1, app_small (show k < 6 by omega) hl]; exact rfl)]
      refine ih (k + 1) (by omega) _ ?_ ?_ ?_
      · first | rfl | exact h0
      · rw [dimsN_succ, hc]; simp [h3]
      · rfl
theorem refList_ok (x : Int) : G49 x = some (dimsL x) := by
  unfold dimsL
  by_cases hc : 0 ≤ x ∧ x < 64
  · obtain ⟨n, rfl⟩ : ∃ n : Nat, x = n := ⟨x.toNat, by omega⟩
    rw [if_pos hc, Int.toNat_natCast]
    obtain ⟨s', hs, h3⟩ := refList_loop n (by omega) 6 0 rfl ({ ({ ({ (default : Fr49) with t0 := (n : Int) } : Fr49) with t3 := [] } : Fr49) with t4 := 0 }) rfl rfl rfl
    simp only [G49, M49, m49_9, m49_8, m49_7, m49_0, seqM, condM, blockM, skipM, exitM, retM, hs, if_true, h3]
  · rw [if_neg hc]
    have h : (decide (x ≥ 0) && decide (x < 64)) = false := by
      rw [Bool.and_eq_false_iff]; simp only [decide_eq_false_iff_not]; omega
    have hl : ∀ s : Fr49, s.t0 = x → s.t3 = [] → s.t4 = 0 → ∃ s', loopM L49_6 s = some (.ext 0, s') ∧ s'.t3 = [] := by
      intro s h0 h3 h4
      refine ⟨_, loopM_ext (by simp only [L49_6, m49_5, seqM, condM, blockM, skipM, exitM, retM, h0, h4, show decide ((0 : Int) < 6) = true from rfl, Bool.true_and, h]; exact rfl), ?_⟩; exact h3
    obtain ⟨s', hs, h3⟩ := hl ({ ({ ({ (default : Fr49) with t0 := x } : Fr49) with t3 := [] } : Fr49) with t4 := 0 }) rfl rfl rfl
    simp only [G49, M49, m49_9, m49_8, m49_7, m49_0, seqM, condM, blockM, skipM, exitM, retM, hs, if_true, h3]
theorem and_all : ((List.range 64).all fun x => (List.range 6).all fun i => (bits .and .i64 (x : Nat) ((2 ^ i : Nat) : Int) != 0) == x.testBit i) = true := by kernel_rfl
theorem and_bit {x i : Nat} (hx : x < 64) (hi : i < 6) : (bits .and .i64 (x : Nat) ((2 ^ i : Nat) : Int) != 0) = x.testBit i := by
  have h1 := List.all_eq_true.1 and_all x (by simp; omega)
  have h2 := List.all_eq_true.1 h1 i (by simp; omega)
  simpa using h2
theorem ones_all : ((List.range 64).all fun x => match G156 (IntKind.wrap .u64 (x : Nat)) with
    | some n => decide (0 ≤ n) && decide (n ≤ 64)
    | none => false) = true := by kernel_rfl
theorem ones_ok {x : Nat} (hx : x < 64) : ∃ n : Int, G156 (IntKind.wrap .u64 (x : Nat)) = some n ∧ 0 ≤ n ∧ n ≤ 64 := by
  have h1 := List.all_eq_true.1 ones_all x (by simp; omega)
  cases hg : G156 (IntKind.wrap .u64 (x : Nat)) with
  | none => rw [hg] at h1; simp at h1
  | some n =>
    rw [hg] at h1
    simp only [Bool.and_eq_true, decide_eq_true_eq] at h1
    exact ⟨n, rfl, h1.1, h1.2⟩
theorem list_loop (x : Nat) (hx : x < 64) : ∀ (m k : Nat) (hk : k + m = 6) (s : Fr82) (h0 : s.t0 = (x : Int)) (h3 : s.t3 = dimsN x k) (h4 : s.t15 = (k : Int)), ∃ s', loopM L82_6 s = some (.ext 0, s') ∧ s'.t3 = dimsN x 6 := by
  intro m
  induction m with
  | zero =>
    intro k hk s h0 h3 h4
    obtain rfl : k = 6 := by omega
    refine ⟨_, loopM_ext (by simp only [L82_6, m82_5, seqM, condM, blockM, skipM, exitM, retM, h0, h4, show decide (((6 : Nat) : Int) < 6) = false from rfl]; exact rfl), ?_⟩; exact h3
  | succ m ih =>
    intro k hk s h0 h3 h4
    have h : decide ((k : Int) < 6) = true := by simp; omega
    have w1 : IntKind.wrap .i64 ((k : Int) + 1) = ((k + 1 : Nat) : Int) := by rw [wrap64 (by omega) (by omega)]; rfl
    have hl := dimsN_len x k
    have hb := and_bit hx (show k < 6 by omega)
    cases hc : x.testBit k with
    | false =>
      rw [hc] at hb
      rw [loopM_nrm (by simp only [L82_6, m82_5, m82_4, m82_3, m82_2, m82_1, seqM, condM, blockM, skipM, exitM, retM, h0, h3, h4, h, shl_one (show k < 6 by omega), Option.bind_some, hb, w1]; exact rfl)]
      refine ih (k + 1) (by omega) _ ?_ ?_ ?_
      · first | rfl | exact h0
      · rw [dimsN_succ, hc]; simp [h3]
      · rfl
    | true =>
      rw [hc] at hb
      rw [loopM_nrm (by simp only [L82_6, m82_5, m82_4, m82_3, m82_2, m82_1, seqM, condM, blockM, skipM, exitM, retM, h0, h3, h4, h, shl_one (show k < 6 by omega), Option.bind_some, hb, w1, app_small (show k < 6 by omega) hl]; exact rfl)]
      refine ih (k + 1) (by omega) _ ?_ ?_ ?_
      · first | rfl | exact h0
      · rw [dimsN_succ, hc]; simp [h3]
      · rfl
theorem list_ok (x : Int) : G82 x = some (dimsL x) := by
  unfold dimsL
  by_cases hc : 0 ≤ x ∧ x < 64
  · obtain ⟨n, rfl⟩ : ∃ n : Nat, x = n := ⟨x.toNat, by omega⟩
    rw [if_pos hc, Int.toNat_natCast]
    obtain ⟨c, hc1, hc2, hc3⟩ := ones_ok (x := n) (by omega)
    have hr : roomT 8 c = some () := by
      unfold roomT
      rw [if_pos ⟨hc2, by omega, by omega⟩]
    have hd : (decide ((n : Int) < 0) || decide ((n : Int) > 63)) = false := by simp; omega
    obtain ⟨s', hs, h3⟩ := list_loop n (by omega) 6 0 rfl ({ ({ ({ ({ (default : Fr82) with t0 := (n : Int) } : Fr82) with t10 := false } : Fr82) with t3 := [] } : Fr82) with t15 := 0 }) rfl rfl rfl
    simp only [G82, M82, m82_11, m82_10, m82_8, m82_7, m82_0, seqM, condM, blockM, skipM, exitM, retM, hd, hc1, hr, Option.bind_some, hs, if_true, h3]
  · rw [if_neg hc]
    have hd : (decide (x < 0) || decide (x > 63)) = true := by simp; omega
    simp only [G82, M82, m82_11, m82_10, m82_9, seqM, condM, blockM, skipM, exitM, retM, hd]

def sz : TestT → Nat
  | .nil => 0
  | .mk _ l r _ _ _ _ _ => 1 + sz l + sz r
def dep : TestT → Nat
  | .nil => 0
  | .mk _ l r _ _ _ _ _ => 1 + max (dep l) (dep r)
theorem walk_sz : ∀ (x : TestT) (n : Nat), n ≤ 4097 → walkN x n = min (n + sz x) 4097
  | .nil, n, h => by simp only [walkN, sz]; omega
  | .mk _ l r _ _ _ _ _, n, h => by
    unfold walkN
    split
    · simp only [sz]; omega
    · rw [walk_sz l _ (by omega), walk_sz r _ (by omega)]
      simp only [sz]; omega
def rd : TestT → Nat × Bool
  | .nil => (0, false)
  | .mk k l r m i _ _ _ => if k ≠ 4 ∧ k ≠ 5 then ((rd l).1 ||| (rd r).1, (rd l).2 || (rd r).2) else if m then (0, true) else (ofS [i] 0, false)
theorem rd_mk (k : Int) (l r : TestT) (m : Bool) (i o : Int) (ts : List (List UInt8)) (is : List Int) : rd (.mk k l r m i o ts is) = if k ≠ 4 ∧ k ≠ 5 then ((rd l).1 ||| (rd r).1, (rd l).2 || (rd r).2) else if m then (0, true) else (ofS [i] 0, false) := by rw [rd]
theorem rd_lt : ∀ x, (rd x).1 < 64
  | .nil => by simp [rd]
  | .mk k l r m i _ _ _ => by
    unfold rd
    split
    · exact Nat.or_lt_two_pow (n := 6) (rd_lt l) (rd_lt r)
    · split
      · simp
      · exact ofS_lt _ _ (by decide)
theorem ne_b (k : Int) : ((k != 4) && (k != 5)) = decide (k ≠ 4 ∧ k ≠ 5) := by
  rw [Bool.eq_iff_iff]; simp
theorem eq_b (k : Int) : ((k == 4) || (k == 5)) = !decide (k ≠ 4 ∧ k ≠ 5) := by
  by_cases h4 : k = 4 <;> by_cases h5 : k = 5 <;> simp [h4, h5]
theorem reads_ok : ∀ (x : TestT) (n : Nat), dep x < n → F78 n x = some (((rd x).1 : Int), (rd x).2) := by
  intro x
  induction x with
  | nil =>
    intro n hn
    obtain ⟨m, rfl⟩ : ∃ m, n = m + 1 := ⟨n - 1, by omega⟩
    simp only [F78, G78, M78, m78_0, m78_1, m78_2, m78_3, m78_4, m78_5, m78_6, m78_7, m78_8, m78_9, seqM, condM, blockM, skipM, exitM, retM, TestT.isNil, rd]
    rfl
  | mk k l r mm i o ts is ihl ihr =>
    intro n hn
    obtain ⟨m, rfl⟩ : ∃ m, n = m + 1 := ⟨n - 1, by simp only [dep] at hn; omega⟩
    simp only [dep] at hn
    have hl := ihl m (by omega)
    have hr := ihr m (by omega)
    cases hc : decide (k ≠ 4 ∧ k ≠ 5) with
    | true =>
      have hc' : k ≠ 4 ∧ k ≠ 5 := of_decide_eq_true hc
      simp only [F78, G78, M78, m78_0, m78_1, m78_2, m78_3, m78_4, m78_5, m78_6, m78_7, m78_8, m78_9, seqM, condM, blockM, skipM, exitM, retM, TestT.isNil, TestT.get, Option.bind_some, ne_b, hc, hl, hr, or_b (rd_lt l) (rd_lt r)]
      rw [rd_mk, if_pos hc']
    | false =>
      have hc' : ¬ (k ≠ 4 ∧ k ≠ 5) := of_decide_eq_false hc
      cases mm with
      | true =>
        simp only [F78, G78, M78, m78_0, m78_1, m78_2, m78_3, m78_4, m78_5, m78_6, m78_7, m78_8, m78_9, seqM, condM, blockM, skipM, exitM, retM, TestT.isNil, TestT.get, Option.bind_some, ne_b, hc]
        rw [rd_mk, if_neg hc']; rfl
      | false =>
        simp only [F78, G78, M78, m78_0, m78_1, m78_2, m78_3, m78_4, m78_5, m78_6, m78_7, m78_8, m78_9, seqM, condM, blockM, skipM, exitM, retM, TestT.isNil, TestT.get, Option.bind_some, ne_b, hc, of_ok (l := [i]) (by simp)]
        rw [rd_mk, if_neg hc']; rfl
theorem dims_all : ((List.range 64).all fun x => ofS (dimsN x 6) 0 == x) = true := by kernel_rfl
theorem ofS_dims {x : Nat} (h : x < 64) : ofS (dimsN x 6) 0 = x := by
  have h1 := List.all_eq_true.1 dims_all x (by simp; omega)
  simpa using h1
theorem dimsL_nat {x : Nat} (h : x < 64) : dimsL (x : Int) = dimsN x 6 := by
  unfold dimsL; rw [if_pos ⟨by omega, by omega⟩, Int.toNat_natCast]
theorem app_dims {xs ys : List Int} (h : xs.length ≤ 2 ^ 40) (hy : ys.length ≤ 6) : appT 8 xs ys = some (xs ++ ys) := by
  unfold appT
  rw [if_pos ⟨by omega, by omega⟩]
theorem refReads_ok : ∀ (x : TestT) (n : Nat), dep x < n → F203 n x = some (((rd x).1 : Int), (rd x).2) := by
  intro x
  induction x with
  | nil =>
    intro n hn
    obtain ⟨m, rfl⟩ : ∃ m, n = m + 1 := ⟨n - 1, by omega⟩
    simp only [F203, G203, M203, m203_0, m203_1, m203_2, m203_3, m203_4, m203_5, m203_6, m203_7, m203_8, m203_9, m203_10, m203_11, m203_12, seqM, condM, blockM, skipM, exitM, retM, TestT.isNil, rd]
    rfl
  | mk k l r mm i o ts is ihl ihr =>
    intro n hn
    obtain ⟨m, rfl⟩ : ∃ m, n = m + 1 := ⟨n - 1, by simp only [dep] at hn; omega⟩
    simp only [dep] at hn
    have hl := ihl m (by omega)
    have hr := ihr m (by omega)
    cases hc : decide (k ≠ 4 ∧ k ≠ 5) with
    | true =>
      have hc' : k ≠ 4 ∧ k ≠ 5 := of_decide_eq_true hc
      have d1 := dimsN_len (rd l).1 6
      have d2 := dimsN_len (rd r).1 6
      have hof : G158 ([] ++ dimsN (rd l).1 6 ++ dimsN (rd r).1 6) = some (((rd l).1 ||| (rd r).1 : Nat) : Int) := by
        rw [List.nil_append, refOf_ok (by simp; omega), ofS_append, ofS_dims (rd_lt l), ofS_or, ofS_dims (rd_lt r)]
      simp only [F203, G203, M203, m203_0, m203_1, m203_2, m203_3, m203_4, m203_5, m203_6, m203_7, m203_8, m203_9, m203_10, m203_11, m203_12, seqM, condM, blockM, skipM, exitM, retM, TestT.isNil, TestT.get, Option.bind_some, eq_b, hc, Bool.not_true, hl, hr, refList_ok, dimsL_nat (rd_lt l), dimsL_nat (rd_lt r), app_dims (xs := []) (by simp) d1, app_dims (xs := [] ++ dimsN (rd l).1 6) (by simp; omega) d2, hof]
      rw [rd_mk, if_pos hc']
    | false =>
      have hc' : ¬ (k ≠ 4 ∧ k ≠ 5) := of_decide_eq_false hc
      cases mm with
      | true =>
        simp only [F203, G203, M203, m203_0, m203_1, m203_2, m203_3, m203_4, m203_5, m203_6, m203_7, m203_8, m203_9, m203_10, m203_11, m203_12, seqM, condM, blockM, skipM, exitM, retM, TestT.isNil, TestT.get, Option.bind_some, eq_b, hc, Bool.not_false]
        rw [rd_mk, if_neg hc']; rfl
      | false =>
        simp only [F203, G203, M203, m203_0, m203_1, m203_2, m203_3, m203_4, m203_5, m203_6, m203_7, m203_8, m203_9, m203_10, m203_11, m203_12, seqM, condM, blockM, skipM, exitM, retM, TestT.isNil, TestT.get, Option.bind_some, eq_b, hc, Bool.not_false, refOf_ok (l := [i]) (by simp)]
        rw [rd_mk, if_neg hc']; rfl
theorem nodes_ok : ∀ (n : Nat) (x : TestT) (room : Nat), room < n → room ≤ 5000 → F20 n x room = some ((min room (sz x) : Nat) : Int) := by
  intro n
  induction n with
  | zero => intro x room h; omega
  | succ n ih =>
    intro x room h hr
    show G20 (F20 n) x room = _
    cases x with
    | nil => simp [G20, M20, m20_0, m20_1, m20_2, m20_3, m20_4, seqM, condM, blockM, skipM, exitM, retM, sz, TestT.isNil]
    | mk k l r m i o ts is =>
      by_cases h0 : room = 0
      · subst h0
        simp [G20, M20, m20_0, m20_1, m20_2, m20_3, m20_4, seqM, condM, blockM, skipM, exitM, retM, sz, TestT.isNil]
      · have hd : decide ((room : Int) ≤ 0) = false := by simp; omega
        have e1 : F20 n l (IntKind.wrap .i64 ((room : Int) - 1)) = some ((min (room - 1) (sz l) : Nat) : Int) := by
          have : IntKind.wrap .i64 ((room : Int) - 1) = ((room - 1 : Nat) : Int) := by rw [wrap64 (by omega) (by omega)]; omega
          rw [this]; exact ih l (room - 1) (by omega) (by omega)
        obtain ⟨a, ha⟩ : ∃ a, a = min (room - 1) (sz l) := ⟨_, rfl⟩
        rw [← ha] at e1
        have hw1 : IntKind.wrap .i64 (1 + (a : Int)) = ((1 + a : Nat) : Int) := by rw [wrap64 (by omega) (by omega)]; omega
        have e2 : F20 n r (IntKind.wrap .i64 ((room : Int) - ((1 + a : Nat) : Int))) = some ((min (room - (1 + a)) (sz r) : Nat) : Int) := by
          have : IntKind.wrap .i64 ((room : Int) - ((1 + a : Nat) : Int)) = ((room - (1 + a) : Nat) : Int) := by rw [wrap64 (by omega) (by omega)]; omega
          rw [this]; exact ih r (room - (1 + a)) (by omega) (by omega)
        obtain ⟨b, hb⟩ : ∃ b, b = min (room - (1 + a)) (sz r) := ⟨_, rfl⟩
        rw [← hb] at e2
        have hw2 : IntKind.wrap .i64 (((1 + a : Nat) : Int) + (b : Int)) = ((1 + a + b : Nat) : Int) := by rw [wrap64 (by omega) (by omega)]; omega
        have hres : min room (sz (.mk k l r m i o ts is)) = 1 + a + b := by unfold sz; omega
        rw [hres]
        simp only [G20, M20, m20_0, m20_1, m20_2, m20_3, m20_4, seqM, condM, blockM, skipM, exitM, retM, TestT.isNil, hd, Bool.or_self, TestT.get, Option.bind_some, e1, hw1, e2, hw2]

/-! ### leaves -/
end Go.Proofs.Plm
