import Derived.Test.YthfbbjoaidajfaaGreatDoorPrsLink
import Derived.Test.YthfbbjoaidajfaaGreatDoorPrsUFns
import Derived.Test.YthfbbjoaidajfaaGreatDoorQryAll
set_option linter.unusedVariables false
set_option linter.unusedSimpArgs false
set_option linter.unusedSimpArgs false
set_option linter.unusedVariables false
set_option maxRecDepth 100000
namespace Go.Proofs.Q.Par
open Go Go.Am Go.Proofs
theorem depth21 : ∀ (n : Nat) (c : CondT), depth c < n → depth c < 10000 → F21 n c = some (depth c : Int) := by
  intro n
  induction n with
  | zero => intro c h; omega
  | succ n ih =>
    intro c h hd
    show G21 (F21 n) c = _
    cases c with
    | nil => simp only [G21, M21, m21_0, m21_1, m21_2, m21_3, m21_4, m21_5, m21_6, m21_7, seqM, condM, blockM, skipM, exitM, retM, CondT.isNil, depth]; rfl
    | mk k l r c o vs =>
      simp only [depth] at h hd
      have e1 := ih l (by omega) (by omega)
      have e2 := ih r (by omega) (by omega)
      by_cases hm : (depth r : Int) > (depth l : Int)
      · have d : decide ((depth r : Int) > (depth l : Int)) = true := decide_eq_true hm
        have hw : IntKind.wrap .i64 ((depth r : Int) + 1) = ((max (depth l) (depth r) + 1 : Nat) : Int) := by rw [wrap64 (by omega) (by omega)]; omega
        simp only [G21, M21, m21_0, m21_1, m21_2, m21_3, m21_4, m21_5, m21_6, m21_7, seqM, condM, blockM, skipM, exitM, retM, CondT.isNil, CondT.get, Option.bind_some, e1, e2, d, hw, depth]
      · have d : decide ((depth r : Int) > (depth l : Int)) = false := decide_eq_false hm
        have hw : IntKind.wrap .i64 ((depth l : Int) + 1) = ((max (depth l) (depth r) + 1 : Nat) : Int) := by rw [wrap64 (by omega) (by omega)]; omega
        simp only [G21, M21, m21_0, m21_1, m21_2, m21_3, m21_4, m21_5, m21_6, m21_7, seqM, condM, blockM, skipM, exitM, retM, CondT.isNil, CondT.get, Option.bind_some, e1, e2, d, hw, depth]
theorem cat_ok {a b : Bs} (h : a.length + b.length ≤ 100000) : catT a b = some (a ++ b) := by
  unfold catT; rw [if_pos (by omega)]
def deepWs : List Bs := [([78, 79, 84, 32] : List UInt8), ([97, 32, 61, 32, 49, 32, 65, 78, 68, 32] : List UInt8), ([97, 32, 61, 32, 49, 32, 79, 82, 32] : List UInt8)]
theorem deepWs_at (w : Nat) (h : w ≤ 2) : at? deepWs (w : Int) = some (deepW w) := by
  have : w = 0 ∨ w = 1 ∨ w = 2 := by omega
  rcases this with rfl | rfl | rfl <;> rfl
theorem lp10 (w k : Nat) (hw : w ≤ 2) (hk : k ≤ 60) : ∀ (m j : Nat) (s : Fr10), m + j = k → s.t6 = (k : Int) → s.t7 = deepS w j → s.t8 = deepWs → s.t9 = (w : Int) → s.t10 = (j : Int) →
    ∃ s', loopM L10_7 s = some (.ext 0, s') ∧ s'.t7 = deepS w k ∧ s'.t6 = (k : Int) ∧ s'.t5 = s.t5 := by
  intro m
  induction m with
  | zero =>
    intro j s hj h6 h7 h8 h9 h10
    have hjk : j = k := by omega
    subst hjk
    have d : decide ((j : Int) < (j : Int)) = false := by simp
    exact ⟨_, loopM_ext (by simp only [G10, M10, m10_0, m10_1, m10_2, m10_3, m10_4, m10_5, m10_6, L10_7, m10_8, m10_9, m10_10, m10_11, m10_12, m10_13, m10_14, m10_15, m10_16, m10_17, m10_18, seqM, condM, blockM, skipM, exitM, retM, h6, h10, d]; exact rfl), by first | exact h7 | rfl, by first | exact h6 | rfl, by rfl⟩
  | succ m ih =>
    intro j s hj h6 h7 h8 h9 h10
    have d : decide ((j : Int) < (k : Int)) = true := by simp; omega
    have ha := deepWs_at w hw
    have hl := deepS_len w j (by omega)
    have hl2 := deepW_len w
    have hc : catT (deepS w j) (deepW w) = some (deepS w (j + 1)) := by
      rw [cat_ok (by omega)]
      unfold deepS
      rw [rep, List.append_assoc]
    have hw1 : IntKind.wrap .i64 ((j : Int) + 1) = ((j + 1 : Nat) : Int) := by rw [wrap64 (by omega) (by omega)]; rfl
    have step : ∃ s', L10_7 s = some (.nrm, s') ∧ s'.t6 = (k : Int) ∧ s'.t7 = deepS w (j + 1) ∧ s'.t8 = deepWs ∧ s'.t9 = (w : Int) ∧ s'.t10 = ((j + 1 : Nat) : Int) ∧ s'.t5 = s.t5 :=
      ⟨_, by simp only [G10, M10, m10_0, m10_1, m10_2, m10_3, m10_4, m10_5, m10_6, L10_7, m10_8, m10_9, m10_10, m10_11, m10_12, m10_13, m10_14, m10_15, m10_16, m10_17, m10_18, seqM, condM, blockM, skipM, exitM, retM, h6, h7, h8, h9, h10, d, ha, hc, hw1, Option.bind_some]; exact rfl, by first | exact h6 | rfl, by rfl, by first | exact h8 | rfl, by first | exact h9 | rfl, by rfl, by rfl⟩
    obtain ⟨s', e, a6, a7, a8, a9, a10, a5⟩ := step
    obtain ⟨s2, e2, b7, b6, b5⟩ := ih (j + 1) s' (by omega) a6 a7 a8 a9 a10
    exact ⟨s2, by rw [loopM_nrm e]; exact e2, b7, b6, b5.trans a5⟩
theorem abs_mod (n : Int) (m : Nat) (hm : 1 ≤ m) (h2 : m ≤ 1000) : ∃ k : Nat, k < m ∧ ((decide (n.tmod m < 0) = false ∧ n.tmod m = (k : Int)) ∨ (decide (n.tmod m < 0) = true ∧ IntKind.wrap .i64 (0 - n.tmod m) = (k : Int))) := by
  have h1 := Int.tmod_lt_of_pos n (show (0 : Int) < m by omega)
  have h3 : -(m : Int) < n.tmod m := by
    have := Int.tmod_lt_of_pos (-n) (show (0 : Int) < m by omega)
    rw [Int.neg_tmod] at this
    omega
  by_cases h : n.tmod m < 0
  · refine ⟨(- n.tmod m).toNat, by omega, .inr ⟨decide_eq_true h, ?_⟩⟩
    rw [wrap64 (by omega) (by omega)]; omega
  · exact ⟨(n.tmod m).toNat, by omega, .inl ⟨decide_eq_false h, by omega⟩⟩
theorem law10 (n kind : Int) : G10 n kind = some true := by
  obtain ⟨k, hk, hk2⟩ := abs_mod n 61 (by omega) (by omega)
  obtain ⟨w, hw, hw2⟩ := abs_mod kind 3 (by omega) (by omega)
  have hk2 : (decide (n.tmod 61 < 0) = false ∧ n.tmod 61 = (k : Int)) ∨ (decide (n.tmod 61 < 0) = true ∧ IntKind.wrap .i64 (0 - n.tmod 61) = (k : Int)) := hk2
  have hw2 : (decide (kind.tmod 3 < 0) = false ∧ kind.tmod 3 = (w : Int)) ∨ (decide (kind.tmod 3 < 0) = true ∧ IntKind.wrap .i64 (0 - kind.tmod 3) = (w : Int)) := hw2
  have L := fun s => lp10 w k (by omega) (by omega) k 0 s (by omega)
  have e12 := l12 (deepS w k ++ ([98, 32, 61, 32, 50] : List UInt8))
  rw [deep_parse w k (by omega)] at e12
  have hcat : catT (deepS w k) ([98, 32, 61, 32, 50] : List UInt8) = some (deepS w k ++ ([98, 32, 61, 32, 50] : List UInt8)) := cat_ok (by have := deepS_len w k (by omega); simp; omega)
  have hwr : IntKind.wrap .i64 ((k : Int) + 1) = ((k + 1 : Nat) : Int) := by rw [wrap64 (by omega) (by omega)]; rfl
  have hS : deepS w 0 = ([83, 69, 76, 69, 67, 84, 32, 67, 79, 85, 78, 84, 40, 42, 41, 32, 70, 82, 79, 77, 32, 102, 97, 99, 116, 115, 32, 87, 72, 69, 82, 69, 32] : List UInt8) := by unfold deepS rep; simp
  have F := fine_deep w k
  have ed := depth21 5000 (deepC w k) (by rw [F.dp]; omega) (by rw [F.dp]; omega)
  rw [F.dp] at ed
  have fin : ∀ s : Fr10, s.t5 = true → s.t6 = (k : Int) → s.t7 = deepS w 0 → s.t8 = deepWs → s.t9 = (w : Int) → (match seqM (seqM (m10_8) (blockM 0 (loopM (L10_7)))) (seqM (m10_3) (seqM (seqM (m10_2) (condM (fun s => s.t46) (seqM (m10_1) (retM)) (skipM))) (seqM (m10_0) (retM)))) s with
      | some (.nrm, s) => some s.t4
      | some (.ret, s) => some s.t4
      | _ => none) = some true := by
    intro s h5 h6 h7 h8 h9
    obtain ⟨s', e, b7, b6, b5⟩ := L { s with t10 := 0 } h6 h7 h8 h9 rfl
    by_cases hd : k + 1 > 32
    · rw [if_pos hd] at e12
      have d : decide (((k + 1 : Nat) : Int) > 32) = true := by simp; omega
      have b5' : s'.t5 = true := b5.trans h5
      simp only [m10_8, m10_3, m10_2, m10_1, m10_0, seqM, condM, blockM, skipM, exitM, retM, e, b7, b6, b5', hcat, e12, hwr, d, Option.bind_some, if_true]
      rfl
    · rw [if_neg hd] at e12
      have d : decide (((k + 1 : Nat) : Int) > 32) = false := by simp; omega
      have b5' : s'.t5 = true := b5.trans h5
      have ed' : F21 5000 (deepQ w k).Where = some ((k + 1 : Nat) : Int) := ed
      have ef : eqFault ⟨0, 0⟩ ⟨0, 0⟩ = true := rfl
      simp only [m10_8, m10_3, m10_2, m10_1, m10_0, seqM, condM, blockM, skipM, exitM, retM, e, b7, b6, b5', hcat, e12, hwr, d, Option.bind_some, if_true, ef, ed', Bool.and_self, cond_true, beq_self_eq_true]
  have dk : decide ((k : Int) < 0) = false := by simp
  have dw : decide ((w : Int) < 0) = false := by simp
  rcases hk2 with ⟨hk3, hk4⟩ | ⟨hk3, hk4⟩ <;> rcases hw2 with ⟨hw3, hw4⟩ | ⟨hw3, hw4⟩
  all_goals
    simp only [G10, M10, m10_18, m10_17, m10_16, m10_15, m10_14, m10_13, m10_12, m10_11, m10_10, m10_9, seqM, condM, blockM, skipM, exitM, retM, S11, Option.bind_some, hk3, hk4, hw3, hw4, dk, dw]
    refine fin _ ?_ ?_ ?_ ?_ ?_
    all_goals first | rfl | exact hk4 | exact hw4 | exact hS.symm
end Go.Proofs.Q.Par

