/-
  CUBE: the plain law of CubeLattice: Parents, Children and Between are the document's.
-/
import Derived.Test.YtgjdlakemaabfaaCubeRefPar
set_option linter.unusedVariables false
set_option linter.unusedSimpArgs false
set_option linter.unusedSimpArgs false
set_option linter.unusedVariables false
set_option maxRecDepth 100000
namespace Go.Proofs.Cube
open Go Go.Am Go.Proofs Go.RowKit

theorem coll_nil {p : Nat → Bool} {k : Nat} (h : ∀ s, s < k → p s = false) : coll p k = [] := by
  unfold coll
  rw [List.filter_eq_nil_iff.2 fun s hs => by rw [h s (by simpa using hs)]; simp]
  rfl
theorem children_all : ((List.range 64).all fun a => children (a : Nat) == coll (pC (a : Nat)) 64) = true := by kernel_rfl
theorem children_ref (a : Int) : children a = coll (pC a) 64 := by
  by_cases h : 0 ≤ a ∧ a ≤ 63
  · obtain ⟨x, rfl⟩ : ∃ x : Nat, a = x := ⟨a.toNat, by omega⟩
    simpa using List.all_eq_true.1 children_all x (by simp; omega)
  · rw [show children a = [] by unfold children; rw [if_neg h]]
    refine (coll_nil fun s hs => ?_).symm
    unfold pC
    cases hc : coversI a s with
    | false => rfl
    | true => exact absurd (covers_left hc) h
theorem between_ref (low high : Int) : betweenL low high = coll (pB low high) 64 := by
  unfold betweenL
  cases hc : coversI high low with
  | true => rfl
  | false =>
    refine (coll_nil fun s hs => ?_).symm
    unfold pB
    cases h1 : coversI s low with
    | false => rfl
    | true =>
      cases h2 : coversI high s with
      | false => rfl
      | true =>
        exfalso
        have b1 := covers_right h1
        have b2 := covers_left h2
        obtain ⟨x, rfl⟩ : ∃ x : Nat, low = x := ⟨low.toNat, by omega⟩
        obtain ⟨y, rfl⟩ : ∃ y : Nat, high = y := ⟨high.toNat, by omega⟩
        have := cov_trans (x := y) (y := s) (z := x) (by omega) hs (by omega) h2 h1
        rw [hc] at this; cases this
theorem parents_all : ((List.range 7).all fun k => (List.range (2 ^ k)).all fun a => turnedL (a : Nat) (bits .andNot .i64 (2 ^ k - 1) (a : Nat)) == coll (pP (a : Nat)) (2 ^ k)) = true := by kernel_rfl
theorem parents_ref (a d : Int) : parents a d = refPar a d := by
  have hk : min d.toNat 6 = (keepI d).toNat := by unfold keepI; split <;> (try split) <;> omega
  have hk6 : (keepI d).toNat ≤ 6 := by omega
  obtain ⟨k, hkk⟩ : ∃ k, k = (keepI d).toNat := ⟨_, rfl⟩
  have hb : below d = ((2 ^ k : Nat) : Int) - 1 := by unfold below; rw [hk, ← hkk]; push_cast; rfl
  have hc : cntN d = 2 ^ k := by unfold cntN; rw [hkk]
  have hb2 : below d = (2 : Int) ^ k - 1 := by unfold below; rw [hk, ← hkk]
  rw [← hkk] at hk6
  unfold parents refPar
  rw [hc]
  by_cases h : a < 0 ∨ below d < a
  · rw [if_pos h]
    rcases h with h | h
    · split
      · refine (coll_nil fun s hs => ?_).symm
        unfold pP
        cases hcv : coversI s a with
        | false => rfl
        | true => have := (covers_right hcv).1; omega
      · rfl
    · rw [if_neg (by rw [hb] at h; omega)]
  · rw [if_neg h]
    have h1 : 0 ≤ a := by omega
    have h2 : a < ((2 ^ k : Nat) : Int) := by rw [hb] at h; omega
    rw [if_pos h2, hb2]
    obtain ⟨x, rfl⟩ : ∃ x : Nat, a = x := ⟨a.toNat, by omega⟩
    have q := List.all_eq_true.1 parents_all k (by simp; omega)
    simpa using List.all_eq_true.1 q x (by simp only [List.mem_range]; omega)
end Go.Proofs.Cube
