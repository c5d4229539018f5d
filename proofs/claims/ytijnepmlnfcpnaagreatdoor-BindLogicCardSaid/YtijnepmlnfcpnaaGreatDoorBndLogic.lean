/-
  BIND: what a test holds for, in plain terms: sizes, leaves, and the laws of NOT, AND, OR.
-/
-- GN Bnd
import Derived.Test.YtijnepmlnfcpnaaGreatDoorBndNodes
import Derived.Test.YtijnepmlnfcpnaaGreatDoorBndArg
set_option linter.unusedVariables false
set_option linter.unusedSimpArgs false
set_option linter.unusedSimpArgs false
set_option linter.unusedVariables false
set_option maxRecDepth 100000
namespace Go.Proofs.Bnd
open Go Go.Am Go.Proofs

/-! ### how many nodes -/
def sz : TestT → Nat
  | .nil => 0
  | .mk _ l r _ _ _ _ _ => 1 + sz l + sz r
theorem walk_sz : ∀ (x : TestT) (n : Nat), n + sz x ≤ 4097 → walkN x n = n + sz x
  | .nil, n, _ => rfl
  | .mk k l r m i o ts is, n, h => by
    unfold sz at h
    unfold walkN sz
    rw [if_neg (by omega), walk_sz l (n + 1) (by omega), walk_sz r _ (by omega)]
    omega
theorem nodes_ok : ∀ (n : Nat) (x : TestT) (room : Nat), room < n → room ≤ 5000 → F20 n x room = some ((min room (sz x) : Nat) : Int) := by
  intro n
  induction n with
  | zero => intro x room h; omega
  | succ n ih =>
    intro x room h hr
    show G20 (F20 n) x room = _
    cases x with
    | nil => simp [G20, M20, m20_0, m20_1, m20_2, m20_3, m20_4, seqM, condM, blockM, skipM, exitM, retM, sz, TestT.isNil]
    | mk k l r m i o ts is =>
      by_cases h0 : room = 0
      · subst h0
        simp [G20, M20, m20_0, m20_1, m20_2, m20_3, m20_4, seqM, condM, blockM, skipM, exitM, retM, sz, TestT.isNil]
      · have hd : decide ((room : Int) ≤ 0) = false := by simp; omega
        have e1 : F20 n l (IntKind.wrap .i64 ((room : Int) - 1)) = some ((min (room - 1) (sz l) : Nat) : Int) := by
          have : IntKind.wrap .i64 ((room : Int) - 1) = ((room - 1 : Nat) : Int) := by rw [wrap64 (by omega) (by omega)]; omega
          rw [this]; exact ih l (room - 1) (by omega) (by omega)
        obtain ⟨a, ha⟩ : ∃ a, a = min (room - 1) (sz l) := ⟨_, rfl⟩
        rw [← ha] at e1
        have hw1 : IntKind.wrap .i64 (1 + (a : Int)) = ((1 + a : Nat) : Int) := by rw [wrap64 (by omega) (by omega)]; omega
        have e2 : F20 n r (IntKind.wrap .i64 ((room : Int) - ((1 + a : Nat) : Int))) = some ((min (room - (1 + a)) (sz r) : Nat) : Int) := by
          have : IntKind.wrap .i64 ((room : Int) - ((1 + a : Nat) : Int)) = ((room - (1 + a) : Nat) : Int) := by rw [wrap64 (by omega) (by omega)]; omega
          rw [this]; exact ih r (room - (1 + a)) (by omega) (by omega)
        obtain ⟨b, hb⟩ : ∃ b, b = min (room - (1 + a)) (sz r) := ⟨_, rfl⟩
        rw [← hb] at e2
        have hw2 : IntKind.wrap .i64 (((1 + a : Nat) : Int) + (b : Int)) = ((1 + a + b : Nat) : Int) := by rw [wrap64 (by omega) (by omega)]; omega
        have hres : min room (sz (.mk k l r m i o ts is)) = 1 + a + b := by unfold sz; omega
        rw [hres]
        simp only [G20, M20, m20_0, m20_1, m20_2, m20_3, m20_4, seqM, condM, blockM, skipM, exitM, retM, TestT.isNil, hd, Bool.or_self, TestT.get, Option.bind_some, e1, hw1, e2, hw2]

/-! ### leaves -/
theorem at_lt {α : Type} {l : List α} {j : Nat} (h : j < l.length) : ∃ y, at? l (j : Int) = some y := ⟨l[j], by rw [at_nat]; exact List.getElem?_eq_getElem h⟩
theorem ix230_loop (l : List Int) (hl : Fits l) : ∀ (k j : Nat) (s : Fr230), k + j = l.length → s.t0 = l → s.t7 = (l.length : Int) → s.t8 = (j : Int) → ∃ x s', loopM L230_6 s = some (x, s') ∧ (x = .ret ∨ x = .ext 0) := by
  unfold Fits at hl
  intro k
  induction k with
  | zero =>
    intro j s hj h0 h7 h8
    have h : decide (s.t8 < s.t7) = false := by rw [h7, h8]; simp; omega
    exact ⟨_, _, loopM_ext (by simp only [L230_6, m230_5, seqM, condM, blockM, skipM, exitM, retM, h]; exact rfl), .inr rfl⟩
  | succ k ih =>
    intro j s hj h0 h7 h8
    have h : decide ((j : Int) < (l.length : Int)) = true := by simp; omega
    obtain ⟨y, hy⟩ := at_lt (l := l) (j := j) (by omega)
    have hw : IntKind.wrap .i64 ((j : Int) + 1) = ((j + 1 : Nat) : Int) := by rw [wrap64 (by omega) (by omega)]; rfl
    cases hc : (s.t1 == y) with
    | true => exact ⟨_, _, loopM_ret (by simp only [L230_6, m230_5, m230_4, m230_3, m230_2, seqM, condM, blockM, skipM, exitM, retM, h0, h7, h8, h, hy, Option.bind_some, hc]; exact rfl), .inl rfl⟩
    | false =>
      rw [loopM_nrm (by simp only [L230_6, m230_5, m230_4, m230_3, m230_2, m230_1, seqM, condM, blockM, skipM, exitM, retM, h0, h7, h8, h, hy, Option.bind_some, hc, hw]; exact rfl)]
      exact ih (j + 1) _ (by omega) rfl rfl rfl
theorem ix230 (l : List Int) (v : Int) (hl : Fits l) : ∃ z, G230 l v = some z := by
  obtain ⟨x, s', hq, hx⟩ := ix230_loop l hl l.length 0 { (default : Fr230) with t0 := l, t1 := v, t7 := (l.length : Int), t8 := 0 } (by omega) rfl rfl rfl
  rcases hx with rfl | rfl <;> simp only [G230, M230, m230_8, m230_7, m230_0, seqM, condM, blockM, skipM, exitM, retM, hq, if_true] <;> exact ⟨_, rfl⟩
theorem ix168_loop (l : List (List UInt8)) (hl : Fits l) : ∀ (k j : Nat) (s : Fr168), k + j = l.length → s.t0 = l → s.t7 = (l.length : Int) → s.t8 = (j : Int) → ∃ x s', loopM L168_6 s = some (x, s') ∧ (x = .ret ∨ x = .ext 0) := by
  unfold Fits at hl
  intro k
  induction k with
  | zero =>
    intro j s hj h0 h7 h8
    have h : decide (s.t8 < s.t7) = false := by rw [h7, h8]; simp; omega
    exact ⟨_, _, loopM_ext (by simp only [L168_6, m168_5, seqM, condM, blockM, skipM, exitM, retM, h]; exact rfl), .inr rfl⟩
  | succ k ih =>
    intro j s hj h0 h7 h8
    have h : decide ((j : Int) < (l.length : Int)) = true := by simp; omega
    obtain ⟨y, hy⟩ := at_lt (l := l) (j := j) (by omega)
    have hw : IntKind.wrap .i64 ((j : Int) + 1) = ((j + 1 : Nat) : Int) := by rw [wrap64 (by omega) (by omega)]; rfl
    cases hc : (s.t1 == y) with
    | true => exact ⟨_, _, loopM_ret (by simp only [L168_6, m168_5, m168_4, m168_3, m168_2, seqM, condM, blockM, skipM, exitM, retM, h0, h7, h8, h, hy, Option.bind_some, hc]; exact rfl), .inl rfl⟩
    | false =>
      rw [loopM_nrm (by simp only [L168_6, m168_5, m168_4, m168_3, m168_2, m168_1, seqM, condM, blockM, skipM, exitM, retM, h0, h7, h8, h, hy, Option.bind_some, hc, hw]; exact rfl)]
      exact ih (j + 1) _ (by omega) rfl rfl rfl
theorem ix168 (l : List (List UInt8)) (v : List UInt8) (hl : Fits l) : ∃ z, G168 l v = some z := by
  obtain ⟨x, s', hq, hx⟩ := ix168_loop l hl l.length 0 { (default : Fr168) with t0 := l, t1 := v, t7 := (l.length : Int), t8 := 0 } (by omega) rfl rfl rfl
  rcases hx with rfl | rfl <;> simp only [G168, M168, m168_8, m168_7, m168_0, seqM, condM, blockM, skipM, exitM, retM, hq, if_true] <;> exact ⟨_, rfl⟩
theorem in196 (l : List Int) (v : Int) (hl : Fits l) : ∃ z, G196 l v = some z := by
  obtain ⟨z, hz⟩ := ix230 l v hl
  simp only [G196, M196, m196_0, m196_1, seqM, condM, blockM, skipM, exitM, retM, hz, Option.bind_some]; exact ⟨_, rfl⟩
theorem in105 (l : List (List UInt8)) (v : List UInt8) (hl : Fits l) : ∃ z, G105 l v = some z := by
  obtain ⟨z, hz⟩ := ix168 l v hl
  simp only [G105, M105, m105_0, m105_1, seqM, condM, blockM, skipM, exitM, retM, hz, Option.bind_some]; exact ⟨_, rfl⟩
theorem cmp198 (a b : Int) : ∃ z, G198 a b = some z := by
  have h1 : ∀ x : Int, G231 x = some false := fun x => by simp [G231, M231, m231_0, m231_1, seqM, condM, blockM, skipM, exitM, retM]
  simp only [G198, M198, m198_0, m198_1, m198_2, m198_3, m198_4, m198_5, m198_6, m198_7, m198_8, m198_9, m198_10, m198_11, m198_12, m198_13, seqM, condM, blockM, skipM, exitM, retM, h1, Option.bind_some]
  by_cases h2 : a < b <;> by_cases h3 : a > b <;> simp [h2, h3]
theorem cmp199 (a b : List UInt8) : ∃ z, G199 a b = some z := by
  have h1 : ∀ x : List UInt8, G232 x = some false := fun x => by simp [G232, M232, m232_0, m232_1, seqM, condM, blockM, skipM, exitM, retM]
  simp only [G199, M199, m199_0, m199_1, m199_2, m199_3, m199_4, m199_5, m199_6, m199_7, m199_8, m199_9, m199_10, m199_11, m199_12, m199_13, seqM, condM, blockM, skipM, exitM, retM, h1, Option.bind_some]
  cases h2 : ltS a b <;> cases h3 : eqS a b <;> simp [h2, h3]
theorem says197 (o c : Int) : ∃ z, G197 o c = some z := by
  simp only [G197, M197, m197_0, m197_1, m197_2, m197_3, m197_4, m197_5, m197_6, m197_7, m197_8, m197_9, m197_10, m197_11, m197_12, m197_13, m197_14, seqM, condM, blockM, skipM, exitM, retM]
  by_cases h1 : o = 1
  · simp [h1]
  by_cases h2 : o = 2
  · simp [h1, h2]
  by_cases h3 : o = 3
  · simp [h1, h2, h3]
  by_cases h4 : o = 4
  · simp [h1, h2, h3, h4]
  by_cases h5 : o = 5
  · simp [h1, h2, h3, h4, h5]
  by_cases h6 : o = 6
  · simp [h1, h2, h3, h4, h5, h6]
  have e1 : (o == 1) = false := by simpa using h1
  have e2 : (o == 2) = false := by simpa using h2
  have e3 : (o == 3) = false := by simpa using h3
  have e4 : (o == 4) = false := by simpa using h4
  have e5 : (o == 5) = false := by simpa using h5
  have e6 : (o == 6) = false := by simpa using h6
  simp only [e1, e2, e3, e4, e5, e6]
  exact ⟨_, rfl⟩
end Go.Proofs.Bnd
