/-
  KEYS (C): types (printed by wip/tools/tg.py).
-/
import Derived.Test.YtijnepmlnfcpnaaGreatDoorKyBFns
import Derived.Test.YtijnepmlnfcpnaaGreatDoorKyAwake
import Derived.Test.YtijnepmlnfcpnaaGreatDoorKyKey
set_option linter.unusedVariables false
set_option linter.unusedSimpArgs false
set_option linter.unusedSimpArgs false
set_option linter.unusedVariables false
set_option maxRecDepth 100000
namespace Go.Proofs.Ky
open Go Go.Am Go.Proofs

namespace TyC
theorem eqlb4 (xo yo : Operand) (h : AHeap) (a b : Bool) : abin Cl .eql 4 xo yo h (.bool a) (.bool b) = some (.bool (a == b)) := by cases a <;> cases b <;> kernel_rfl
theorem ld35 (h : AHeap) (p : AVal) : aload Tryz.prog h 35 p = loadA h true 4 p := by kernel_rfl
theorem fa35_0 (p : AVal) : afieldAddr Tryz.prog 35 p 0 = dropCells 0 p := by kernel_rfl
theorem ld31 (h : AHeap) (p : AVal) : aload Tryz.prog h 31 p = loadA h false 1 p := by kernel_rfl
theorem un31 : Tryz.prog.underlying 31 = some (.slice 63) := by kernel_rfl
theorem fa35_1 (p : AVal) : afieldAddr Tryz.prog 35 p 1 = dropCells 1 p := by kernel_rfl
theorem ld22 (h : AHeap) (p : AVal) : aload Tryz.prog h 22 p = loadA h false 1 p := by kernel_rfl
theorem un22 : Tryz.prog.underlying 22 = some (.slice 9) := by kernel_rfl
theorem fa35_2 (p : AVal) : afieldAddr Tryz.prog 35 p 2 = dropCells 2 p := by kernel_rfl
theorem ld32 (h : AHeap) (p : AVal) : aload Tryz.prog h 32 p = loadA h false 1 p := by kernel_rfl
theorem cb_parse_go_148 : Cl.cbox "parse.go:148" = true := by kernel_rfl
theorem cb_parse_go_143 : Cl.cbox "parse.go:143" = true := by kernel_rfl
theorem cb_parse_go_130 : Cl.cbox "parse.go:130" = true := by kernel_rfl
theorem cb_law_go_96 : Cl.cbox "law.go:96" = true := by kernel_rfl
theorem cb_bind_go_316 : Cl.cbox "bind.go:316" = true := by kernel_rfl
theorem cb_bind_go_321 : Cl.cbox "bind.go:321" = true := by kernel_rfl
theorem cb_ref_go_330 : Cl.cbox "ref.go:330" = true := by kernel_rfl
end TyC
end Go.Proofs.Ky
