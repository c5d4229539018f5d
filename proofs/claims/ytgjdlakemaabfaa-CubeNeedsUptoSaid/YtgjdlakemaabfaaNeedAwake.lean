/-
  CUBE: awake, for CubeNeeds.
-/
import Derived.Test.YtgjdlakemaabfaaNeedReads
import Derived.Test.YtgjdlakemaabfaaAmArgs
set_option linter.unusedVariables false
set_option linter.unusedSimpArgs false
set_option linter.unusedSimpArgs false
set_option maxRecDepth 100000
namespace Go.Proofs.Need
open Go Go.Am Go.Proofs
def isTrue : Option (ARes × AHeap) → Bool
  | some (.ret (.bool true), _) => true
  | _ => false
theorem awake_closed : isTrue (arun Cn 100 7 [] AHeap.empty) = true := by kernel_rfl
theorem awake_run (h : AHeap) : run Cn 7 [] h = some (.ret (.bool true), h) := by
  have h1 := awake_closed
  cases hr : arun Cn 100 7 [] AHeap.empty with
  | none => rw [hr] at h1; cases h1
  | some q =>
    rw [hr] at h1
    obtain ⟨r, h'⟩ := q
    cases r with
    | pan v => cases h1
    | ret v =>
      have hv : v = .bool true := by
        revert h1
        cases v <;> simp [isTrue]
        rename_i b; cases b <;> simp [isTrue]
      subst hv
      exact run_of ((run_pure 100 7 [] AHeap.empty _ _ rfl hr).2 h)
end Go.Proofs.Need
