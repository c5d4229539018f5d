/-
  QUERY: decimal numbers, written and read.
-/
import Derived.Test.YtijnepmlnfcpnaaGreatDoorQryLex
set_option linter.unusedVariables false
set_option linter.unusedSimpArgs false
set_option linter.unusedVariables false
set_option linter.unusedSimpArgs false
namespace Go.Proofs.Q
open Go.Lib

theorem dec_step {u : Nat} (h : ¬ u < 10) : decDigits u = decDigits (u / 10) ++ [UInt8.ofNat (48 + u % 10)] := by rw [decDigits, dif_neg h]
theorem dig_toNat (d : Nat) (h : d < 10) : (UInt8.ofNat (48 + d)).toNat = 48 + d := by
  simp [UInt8.toNat_ofNat']; omega
theorem dig_isD (d : Nat) (h : d < 10) : isD (UInt8.ofNat (48 + d)) = true := by
  unfold isD kindB kindN
  rw [dig_toNat d h]
  rw [if_neg (by omega), if_neg (by omega), if_pos (by omega)]
  rfl
theorem dec_isD (u : Nat) : ∀ x ∈ decDigits u, isD x = true := by
  induction u using Nat.strongRecOn with
  | _ u ih =>
    by_cases h : u < 10
    · rw [decDigits, dif_pos h]; intro x hx
      simp only [List.mem_singleton] at hx
      subst hx; exact dig_isD u h
    · rw [dec_step h]; intro x hx
      rcases List.mem_append.1 hx with hx | hx
      · exact ih (u / 10) (by omega) x hx
      · simp only [List.mem_singleton] at hx
        subst hx; exact dig_isD _ (by omega)
theorem dec_head (u : Nat) : ∃ c b, decDigits u = c :: b ∧ (u ≠ 0 → c ≠ 48) ∧ (u < 10 → b = []) := by
  induction u using Nat.strongRecOn with
  | _ u ih =>
    by_cases h : u < 10
    · refine ⟨_, [], by rw [decDigits, dif_pos h], fun h0 e => ?_, fun _ => rfl⟩
      have := congrArg UInt8.toNat e
      rw [dig_toNat u h] at this
      have h2 : (48 : UInt8).toNat = 48 := rfl
      omega
    · obtain ⟨c, b, e, hc, _⟩ := ih (u / 10) (by omega)
      exact ⟨c, b ++ [UInt8.ofNat (48 + u % 10)], by rw [dec_step h, e]; rfl, fun _ => hc (by omega), fun hh => absurd hh h⟩
theorem dec_len (u : Nat) (h : u < 10 ^ 19) : (decDigits u).length ≤ 19 := by
  have : ∀ (k u : Nat), u < 10 ^ (k + 1) → (decDigits u).length ≤ k + 1 := by
    intro k
    induction k with
    | zero => intro u hu; rw [decDigits, dif_pos (by simpa using hu)]; simp
    | succ k ih =>
      intro u hu
      by_cases h : u < 10
      · rw [decDigits, dif_pos h]; simp
      · rw [dec_step h, List.length_append]
        have := ih (u / 10) (by rw [Nat.pow_succ] at hu; omega)
        simp; omega
  exact this 18 u h
theorem lxt_dec (u : Nat) (h : u < 10 ^ 19) : LxT Bd (decDigits u) [(3, decDigits u)] := by
  obtain ⟨c, b, e, hc, hs⟩ := dec_head u
  refine lxt_digits e (dec_isD u) (fun hl => ?_) (dec_len u h)
  by_cases h10 : u < 10
  · rw [e, hs h10] at hl; simp at hl
  · exact hc (by omega)
theorem uintM_app (M : Nat) : ∀ (a b : Bs) (n : Nat), parseUintM M n (a ++ b) = match parseUintM M n a with
    | .ok v => parseUintM M v b
    | x => x := by
  intro a
  induction a with
  | nil => intro b n; rfl
  | cons c a ih =>
    intro b n
    simp only [List.cons_append, parseUintM]
    split
    · split
      · rfl
      · split
        · rfl
        · exact ih b _
    · rfl
theorem uintM_dec (M : Nat) (hM : M < 18446744073709551616) (u : Nat) : u ≤ M → parseUintM M 0 (decDigits u) = .ok u := by
  induction u using Nat.strongRecOn with
  | _ u ih =>
    intro hu
    by_cases h : u < 10
    · rw [decDigits, dif_pos h]
      simp only [parseUintM, dig_toNat u h]
      rw [if_pos (by omega), if_neg (by omega), if_neg (by omega)]
      simp
    · rw [dec_step h, uintM_app, ih (u / 10) (by omega) (by omega)]
      simp only [parseUintM, dig_toNat (u % 10) (by omega)]
      rw [if_pos (by omega), if_neg (by omega), if_neg (by omega)]
      congr 1; omega
theorem dec_ne (u : Nat) : decDigits u ≠ [] := by
  obtain ⟨c, b, e, _⟩ := dec_head u
  rw [e]; simp
theorem uintB_dec (u : Nat) (h : u < 18446744073709551616) : parseUintB 64 (decDigits u) = .ok u := by
  unfold parseUintB
  rw [if_neg (dec_ne u), uintM_dec _ (by decide) u (by omega)]
/-- what FormatInt writes is read again -/
theorem parse_pos (u : Nat) (h : u < 9223372036854775808) : parseIntB 64 (decDigits u) = .ok (u : Int) := by
  obtain ⟨c, b, e, _⟩ := dec_head u
  have hd := dec_isD u c (by rw [e]; exact List.mem_cons_self ..)
  have hc : c.toNat ≠ 43 ∧ c.toNat ≠ 45 := by
    constructor <;> (intro hh; unfold isD kindB at hd; rw [hh] at hd; revert hd; decide)
  have hb := uintB_dec u (by omega)
  rw [e] at hb ⊢
  simp only [parseIntB]
  rw [if_neg (by omega), hb]
  simp only
  rw [if_neg (by omega), if_neg (by omega), if_neg (by omega)]
theorem parse_neg (u : Nat) (h : u ≤ 9223372036854775808) : parseIntB 64 (45 :: decDigits u) = .ok (-(u : Int)) := by
  have hb := uintB_dec u (by omega)
  simp only [parseIntB]
  rw [if_pos (by decide), hb]
  simp only
  rw [if_neg (by simp), if_neg (by omega), if_pos (by decide)]
end Go.Proofs.Q
