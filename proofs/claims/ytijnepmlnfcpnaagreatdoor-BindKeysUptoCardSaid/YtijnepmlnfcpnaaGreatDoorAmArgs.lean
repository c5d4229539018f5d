/-
  THE ABSTRACT MACHINE: a law's arguments as content.
-/
import Derived.Test.YtijnepmlnfcpnaaGreatDoorAmCont
set_option linter.unusedVariables false
set_option linter.unusedSimpArgs false
set_option linter.unusedVariables false
set_option linter.unusedSimpArgs false
namespace Go.Am
open Go

theorem wf_i64 {a : Int} (h : (Lit.int .i64 a).wf = true) : -9223372036854775808 ≤ a ∧ a < 9223372036854775808 := by
  simp only [Lit.wf, Bool.and_eq_true, decide_eq_true_eq] at h
  have h1 : IntKind.i64.min = -9223372036854775808 := by decide +kernel
  have h2 : IntKind.i64.max = 9223372036854775807 := by decide +kernel
  rw [h1, h2] at h
  omega
theorem wf_u8 {a : Int} (h : (Lit.int .u8 a).wf = true) : 0 ≤ a ∧ a < 256 := by
  simp only [Lit.wf, Bool.and_eq_true, decide_eq_true_eq] at h
  have h1 : IntKind.u8.min = 0 := by decide +kernel
  have h2 : IntKind.u8.max = 255 := by decide +kernel
  rw [h1, h2] at h
  omega
theorem ok_single {P : Program} {W : World} {r : Reach} {base : Nat} {t : TypeId} {v : Value} {d : TypeDesc} (hu : P.underlying t = some d) (hd : (match d with
    | .slice _ | .string | .int _ | .bool | .pointer _ => true
    | _ => false) = true) (h : Value.okWide P W r base t v) : v.cells.toList = [v] := by
  cases v with
  | agg cs =>
    exfalso
    revert h hd
    cases d <;> simp [Value.okWide, Cell.okWide, Cell.ok, hu]
  | _ => rfl
/-- A lone argument, as content. -/
theorem arg_one {H : Type} {enc : TypeId × Value → H} {P : Program} {W : World} {spare : Nat → Bool} {r : Reach} {base : Nat} {t : TypeId} {v : Value} {x : DataW H} {ps : List MemPlace} {d : TypeDesc} (hu : P.underlying t = some d) (hd : (match d with
    | .slice _ | .string | .int _ | .bool | .pointer _ => true
    | _ => false) = true) (h : Value.okWide P W r base t v) (ht : DataW.Trod enc P W 0 spare true t v x ps) :
    ∃ n y, VRel (allCells W) (fun _ => none) y v ∧ Cont P n t [y] ∧ bulkA y ≤ bulkD x := by
  obtain ⟨m, hm⟩ := ht
  obtain ⟨xs, h1, h2, h3⟩ := trod_cont m _ _ _ _ hm
  rw [ok_single hu hd h] at h1
  cases h1 with
  | @cons y _ ys _ hy hn =>
    cases hn
    exact ⟨m, y, hy, h2, by simpa [bulkL] using h3⟩
end Go.Am
