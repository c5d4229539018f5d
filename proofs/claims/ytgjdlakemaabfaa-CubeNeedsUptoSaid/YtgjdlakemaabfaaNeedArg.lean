/-
  CUBE: a bound query, read.
-/
import Derived.Test.YtgjdlakemaabfaaNeedLaw
import Derived.Test.YtgjdlakemaabfaaAmTyped
set_option linter.unusedVariables false
set_option linter.unusedSimpArgs false
set_option linter.unusedSimpArgs false
set_option linter.unusedVariables false
set_option maxRecDepth 100000
namespace Go.Proofs.Need
open Go Go.Am Go.Proofs

theorem four {α : Type} {l : List α} (h : l.length = 4) : ∃ a b c d, l = [a, b, c, d] := by
  match l, h with
  | [a, b, c, d], _ => exact ⟨a, b, c, d, rfl⟩
theorem eight {α : Type} {l : List α} (h : l.length = 8) : ∃ a b c d e f g i, l = [a, b, c, d, e, f, g, i] := by
  match l, h with
  | [a, b, c, d, e, f, g, i], _ => exact ⟨a, b, c, d, e, f, g, i, rfl⟩
theorem two {α : Type} {l : List α} (h : l.length = 2) : ∃ a b, l = [a, b] := by
  match l, h with
  | [a, b], _ => exact ⟨a, b, rfl⟩
theorem bulk_int {k : IntKind} {x : Int} {c : List AVal} (h : rI k x c) : 1 ≤ bulkL c := by rw [h]; simp [bulkL, bulkA]
theorem ints_of {n : Nat} {t e : TypeId} {k : IntKind} {cl : List AVal} (hu : Try.prog.underlying t = some (.slice e)) (hz : Try.prog.cellsOf e ≠ 0) (he : Try.prog.underlying e = some (.int k)) (h : Cont Try.prog n t cl) : ∃ xs, rSl (rI k) xs cl ∧ xs.length < bulkL cl :=
  sl_of hu hz h fun m c _ hc _ _ => by
    obtain ⟨x, hx, _⟩ := int_of he hc
    exact ⟨x, hx, bulk_int hx⟩
theorem strs_of {n : Nat} {t e : TypeId} {cl : List AVal} (hu : Try.prog.underlying t = some (.slice e)) (hz : Try.prog.cellsOf e ≠ 0) (he : Try.prog.underlying e = some .string) (h : Cont Try.prog n t cl) : ∃ xs, rSl rS xs cl ∧ xs.length < bulkL cl :=
  sl_of hu hz h fun m c _ hc _ _ => by
    obtain ⟨x, hx, hb⟩ := str_of he hc
    exact ⟨x, hx, by omega⟩
theorem pick_of {n : Nat} {cl : List AVal} (h : Cont Try.prog n 99 cl) : ∃ x, rPick x cl := by
  obtain ⟨m, css, rfl, rfl, hl, hf⟩ := st_of (t := 99) rfl (by kernel_rfl) h
  obtain ⟨a, b, rfl⟩ := two hl
  obtain ⟨x, hx, _⟩ := int_of (k := .i64) (t := 3) rfl (hf 0 _ a rfl rfl).1
  obtain ⟨y, hy, _⟩ := int_of (k := .i64) (t := 3) rfl (hf 1 _ b rfl rfl).1
  cases hx; cases hy
  exact ⟨⟨x, y⟩, rfl⟩
theorem test_of : ∀ (n : Nat) (cl : List AVal), Cont Try.prog n 34 cl → ∃ x, rTestT x cl := by
  intro n
  induction n using Nat.strongRecOn with
  | _ n ih =>
    intro cl h
    rcases pt_of (e := 73) rfl (of_decide_eq_true (by kernel_rfl)) h with rfl | ⟨m, cs, rfl, rfl, hc⟩
    · exact ⟨.nil, rfl⟩
    · obtain ⟨m, css, rfl, rfl, hl, hf⟩ := st_of (t := 73) rfl (by kernel_rfl) hc
      obtain ⟨a, b, c, d, e, f, g, i, rfl⟩ := eight hl
      obtain ⟨x0, h0, _⟩ := int_of (k := .i64) (t := 3) rfl (hf 0 _ a rfl rfl).1
      obtain ⟨x1, h1⟩ := ih m (by omega) b (hf 1 _ b rfl rfl).1
      obtain ⟨x2, h2⟩ := ih m (by omega) c (hf 2 _ c rfl rfl).1
      obtain ⟨x3, h3⟩ := bool_of (t := 4) rfl (hf 3 _ d rfl rfl).1
      obtain ⟨x4, h4, _⟩ := int_of (k := .i64) (t := 3) rfl (hf 4 _ e rfl rfl).1
      obtain ⟨x5, h5, _⟩ := int_of (k := .i64) (t := 3) rfl (hf 5 _ f rfl rfl).1
      obtain ⟨x6, ⟨v6, h6, s6⟩, _⟩ := strs_of (t := 33) (e := 9) rfl (of_decide_eq_true (by kernel_rfl)) rfl (hf 6 _ g rfl rfl).1
      obtain ⟨x7, ⟨v7, h7, s7⟩, _⟩ := ints_of (t := 71) (e := 2) (k := .i64) rfl (of_decide_eq_true (by kernel_rfl)) rfl (hf 7 _ i rfl rfl).1
      obtain ⟨w1, rfl⟩ := one_cell (rTestT_p.len _ _ h1)
      obtain ⟨w2, rfl⟩ := one_cell (rTestT_p.len _ _ h2)
      cases h0; cases h3; cases h4; cases h5; cases h6; cases h7
      exact ⟨.mk x0 x1 x2 x3 x4 x5 x6 x7, w1, w2, v6, v7, rfl, h1, h2, s6, s7⟩
theorem bound_of {n : Nat} {cl : List AVal} (h : Cont Try.prog n 36 cl) : ∃ x, rBound x cl ∧ x.Sets.length ≤ bulkL cl := by
  obtain ⟨m, css, rfl, rfl, hl, hf⟩ := st_of (t := 36) rfl (by kernel_rfl) h
  obtain ⟨a, b, c, d, rfl⟩ := four hl
  obtain ⟨x0, ⟨v0, h0, s0⟩, _⟩ := sl_of (r := rPick) (t := 32) (e := 99) rfl (of_decide_eq_true (by kernel_rfl)) (hf 0 _ a rfl rfl).1 (fun m c _ hc _ _ => by
    obtain ⟨x, hx⟩ := pick_of hc
    exact ⟨x, hx, by rw [hx]; simp [bulkL, bulkA]⟩)
  obtain ⟨x1, ⟨v1, h1, s1⟩, _⟩ := strs_of (t := 33) (e := 9) rfl (of_decide_eq_true (by kernel_rfl)) rfl (hf 1 _ b rfl rfl).1
  obtain ⟨x2, h2⟩ := test_of m c (hf 2 _ c rfl rfl).1
  obtain ⟨x3, ⟨v3, h3, s3⟩, b3⟩ := ints_of (t := 24) (e := 3) (k := .i64) rfl (of_decide_eq_true (by kernel_rfl)) rfl (hf 3 _ d rfl rfl).1
  obtain ⟨w2, rfl⟩ := one_cell (rTestT_p.len _ _ h2)
  cases h0; cases h1; cases h3
  refine ⟨⟨x0, x1, x2, x3⟩, ⟨v0, v1, w2, v3, rfl, s0, s1, h2, s3⟩, ?_⟩
  have : bulkL [v3] ≤ bulkL [[v0], [v1], [w2], [v3]].flatten := bulkL_mem _ _ (by simp)
  show x3.length ≤ _
  omega
end Go.Proofs.Need
