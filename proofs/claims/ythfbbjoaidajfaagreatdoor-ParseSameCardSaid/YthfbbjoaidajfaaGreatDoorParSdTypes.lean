/-
  PARSE (Sd): types (printed by wip/tools/tg.py).
-/
import Derived.Test.YthfbbjoaidajfaaGreatDoorParScFns
import Derived.Test.YthfbbjoaidajfaaGreatDoorParAwake
import Derived.Test.YthfbbjoaidajfaaGreatDoorAmPure
set_option linter.unusedVariables false
set_option linter.unusedSimpArgs false
set_option linter.unusedSimpArgs false
set_option linter.unusedVariables false
set_option maxRecDepth 100000
namespace Go.Proofs.Par
open Go Go.Am Go.Proofs
namespace TyG
theorem ld27 (h : AHeap) (p : AVal) : aload Tryz.prog h 27 p = loadA h true 5 p := by kernel_rfl
theorem eqlb4 (xo yo : Operand) (h : AHeap) (a b : Bool) : abin Cp .eql 4 xo yo h (.bool a) (.bool b) = some (.bool (a == b)) := by cases a <;> cases b <;> kernel_rfl
theorem nc_law_go_37 : Cp.cbox "law.go:37" = false := by kernel_rfl
end TyG
end Go.Proofs.Par
