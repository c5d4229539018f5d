/-
  CUBE: types (printed by wip/tools/tg.py).
-/
import Derived.Test.YtgjdlakemaabfaaNeedAwake
set_option linter.unusedVariables false
set_option linter.unusedSimpArgs false
set_option linter.unusedSimpArgs false
set_option linter.unusedVariables false
set_option maxRecDepth 100000
namespace Go.Proofs.Need
open Go Go.Am Go.Proofs
namespace Tz
theorem or3 (xo yo : Operand) (h : AHeap) (a b : Int) : abin Cn .or 3 xo yo h (.int .i64 a) (.int .i64 b) = some (.int .i64 (bits .or .i64 a b)) := by kernel_rfl
theorem ix24 (x : AVal) (k : IntKind) (i : Int) : aindexAddr Try.prog 24 x (.int k i) = indexAddrA 1 x i := by kernel_rfl
theorem ld3 (h : AHeap) (p : AVal) : aload Try.prog h 3 p = loadA h false 1 p := by kernel_rfl
theorem fa36_3 (p : AVal) : afieldAddr Try.prog 36 p 3 = dropCells 3 p := by kernel_rfl
theorem ld24 (h : AHeap) (p : AVal) : aload Try.prog h 24 p = loadA h false 1 p := by kernel_rfl
theorem un24 : Try.prog.underlying 24 = some (.slice 3) := by kernel_rfl
theorem fa36_2 (p : AVal) : afieldAddr Try.prog 36 p 2 = dropCells 2 p := by kernel_rfl
theorem ld34 (h : AHeap) (p : AVal) : aload Try.prog h 34 p = loadA h false 1 p := by kernel_rfl
theorem cb_cube_go_25 : Cn.cbox "cube.go:25" = true := by kernel_rfl
theorem cb_ref_go_26 : Cn.cbox "ref.go:26" = true := by kernel_rfl
theorem cb_law_go_43 : Cn.cbox "law.go:43" = true := by kernel_rfl
theorem ap24 (own : Bool) (h : AHeap) (s x : AVal) : aappend Try.prog own h [24, 24] [s, x] = appendA own h 1 8 s x := by kernel_rfl
theorem own_ref_go_31 : Cn.own "ref.go:31" = false := by kernel_rfl
theorem own_ref_go_29 : Cn.own "ref.go:29" = false := by kernel_rfl
theorem eqlb4 (xo yo : Operand) (h : AHeap) (a b : Bool) : abin Cn .eql 4 xo yo h (.bool a) (.bool b) = some (.bool (a == b)) := by cases a <;> cases b <;> kernel_rfl
theorem ld36 (h : AHeap) (p : AVal) : aload Try.prog h 36 p = loadA h true 4 p := by kernel_rfl
end Tz
end Go.Proofs.Need
