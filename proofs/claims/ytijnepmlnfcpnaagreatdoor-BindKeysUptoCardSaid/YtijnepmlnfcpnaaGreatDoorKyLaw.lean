/-
  KEYS: the law, in plain terms: two bound queries have one key just if they are the same.
-/
-- GN Ky KyB KyC
import Derived.Test.YtijnepmlnfcpnaaGreatDoorKyPlain
import Derived.Test.YtijnepmlnfcpnaaGreatDoorKyCFns
set_option linter.unusedVariables false
set_option linter.unusedSimpArgs false
set_option linter.unusedSimpArgs false
set_option linter.unusedVariables false
set_option maxRecDepth 100000
namespace Go.Proofs.Ky
open Go Go.Am Go.Proofs

theorem keyB_ne (b : Bound) : keyB b ≠ [] := by
  unfold keyB keyEach
  simp [keyN_ne]
theorem s17_few {b : Bound} (h : KOk b) (hs : sz b.Where ≤ 4096) : S17 b = some (keyB b) := by
  unfold S17
  rw [walk_sz _ _ (by omega), if_neg (by omega), if_pos h]
theorem s17_many {b : Bound} (hs : ¬ sz b.Where ≤ 4096) : S17 b = some [] := by
  unfold S17
  rw [walk_sz _ _ (by omega), if_pos (by omega)]
/-- a bound query of no great bulk -/
def Fine (b : Bound) : Prop := OkB b ∧ wB b ≤ 1048576
theorem fine_k {b : Bound} (h : Fine b) : KOk b := ⟨h.1, by have := keyB_le b h.1 (by have := h.2; omega); have := h.2; omega⟩
theorem fine_g {b : Bound} (h : Fine b) (hs : sz b.Where ≤ 4096) : G19 b = some (toldB b) :=
  g19 b h.1 (by have := dep_sz b.Where; omega) (by have := toldB_le b h.1 (by have := h.2; omega); have := h.2; omega)
theorem ne_nil {b : Bound} : (!(keyB b == [])) = true := by
  have := keyB_ne b
  simpa using this
theorem eq_nil {b : Bound} : (keyB b == []) = false := by
  have := keyB_ne b
  simpa using this
set_option maxHeartbeats 4000000 in
theorem law_ok (a b : Bound) (ha : Fine a) (hb : Fine b) : G5 a b = some true := by
  have s9 : S9 = some true := rfl
  by_cases h1 : sz a.Where ≤ 4096
  · by_cases h2 : sz b.Where ≤ 4096
    · have f1 : G18 a.Where = some true := by rw [few_ok]; simp [h1]
      have f2 : G18 b.Where = some true := by rw [few_ok]; simp [h2]
      have k1 := s17_few (fine_k ha) h1
      have k2 := s17_few (fine_k hb) h2
      have t1 := fine_g ha h1
      have t2 := fine_g hb h2
      by_cases e : a = b
      · subst e
        simp only [G5, M5, m5_0, m5_1, m5_2, m5_3, m5_4, m5_5, m5_6, m5_7, m5_8, m5_9, seqM, condM, blockM, skipM, exitM, retM, s9, f1, k1, t1, Option.bind_some, eq_nil, beq_self_eq_true, Bool.not_true, Bool.not_false, Bool.or_self, cond_false, cond_true, Bool.and_self, if_true, if_false]
      · have e1 : (keyB a == keyB b) = false := by
          apply beq_false_of_ne
          exact fun h => e (keyB_inj h)
        have e2 : (toldB a == toldB b) = false := by
          apply beq_false_of_ne
          exact fun h => e (toldB_inj h)
        simp only [G5, M5, m5_0, m5_1, m5_2, m5_3, m5_4, m5_5, m5_6, m5_7, m5_8, m5_9, seqM, condM, blockM, skipM, exitM, retM, s9, f1, f2, k1, k2, t1, t2, e1, e2, Bool.false_and, Bool.true_and, Bool.and_true, Option.bind_some, eq_nil, beq_self_eq_true, Bool.not_true, Bool.not_false, Bool.or_self, cond_false, cond_true, Bool.and_self, if_true, if_false]
    · have f1 : G18 a.Where = some true := by rw [few_ok]; simp [h1]
      have f2 : G18 b.Where = some false := by rw [few_ok]; simp [h2]
      have k1 := s17_few (fine_k ha) h1
      have k2 := s17_many h2
      simp only [G5, M5, m5_0, m5_1, m5_2, m5_3, m5_4, m5_5, m5_6, m5_7, m5_8, m5_9, seqM, condM, blockM, skipM, exitM, retM, s9, f1, f2, k1, k2, Option.bind_some, eq_nil, beq_self_eq_true, Bool.not_true, Bool.not_false, Bool.or_self, Bool.or_true, Bool.true_or, cond_false, cond_true, Bool.and_self, if_true, if_false]
  · by_cases h2 : sz b.Where ≤ 4096
    · have f1 : G18 a.Where = some false := by rw [few_ok]; simp [h1]
      have f2 : G18 b.Where = some true := by rw [few_ok]; simp [h2]
      have k1 := s17_many h1
      have k2 := s17_few (fine_k hb) h2
      simp only [G5, M5, m5_0, m5_1, m5_2, m5_3, m5_4, m5_5, m5_6, m5_7, m5_8, m5_9, seqM, condM, blockM, skipM, exitM, retM, s9, f1, f2, k1, k2, Option.bind_some, eq_nil, beq_self_eq_true, Bool.not_true, Bool.not_false, Bool.or_self, Bool.or_true, Bool.true_or, cond_false, cond_true, Bool.and_self, if_true, if_false]
    · have f1 : G18 a.Where = some false := by rw [few_ok]; simp [h1]
      have f2 : G18 b.Where = some false := by rw [few_ok]; simp [h2]
      have k1 := s17_many h1
      have k2 := s17_many h2
      simp only [G5, M5, m5_0, m5_1, m5_2, m5_3, m5_4, m5_5, m5_6, m5_7, m5_8, m5_9, seqM, condM, blockM, skipM, exitM, retM, s9, f1, f2, k1, k2, Option.bind_some, eq_nil, beq_self_eq_true, Bool.not_true, Bool.not_false, Bool.or_self, Bool.or_true, Bool.true_or, cond_false, cond_true, Bool.and_self, if_true, if_false]
end Go.Proofs.Ky
