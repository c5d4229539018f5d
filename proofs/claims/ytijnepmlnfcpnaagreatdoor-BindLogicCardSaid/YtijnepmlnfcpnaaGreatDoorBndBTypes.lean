/-
  BIND (B): types (printed by wip/tools/tg.py).
-/
import Derived.Test.YtijnepmlnfcpnaaGreatDoorBndNodes
import Derived.Test.YtijnepmlnfcpnaaGreatDoorBndAwake
set_option linter.unusedVariables false
set_option linter.unusedSimpArgs false
set_option linter.unusedSimpArgs false
set_option linter.unusedVariables false
set_option maxRecDepth 100000
namespace Go.Proofs.Bnd
open Go Go.Am Go.Proofs
namespace TyB
theorem ld53 (h : AHeap) (p : AVal) : aload Tryz.prog h 53 p = loadA h true 2 p := by kernel_rfl
theorem nc_bind_go_257 : Cb.cbox "bind.go:257" = false := by kernel_rfl
theorem own_bind_go_257 : Cb.own "bind.go:257" = false := by kernel_rfl
theorem or3 (xo yo : Operand) (h : AHeap) (a b : Int) : abin Cb .or 3 xo yo h (.int .i64 a) (.int .i64 b) = some (.int .i64 (bits .or .i64 a b)) := by kernel_rfl
theorem eqlb4 (xo yo : Operand) (h : AHeap) (a b : Bool) : abin Cb .eql 4 xo yo h (.bool a) (.bool b) = some (.bool (a == b)) := by cases a <;> cases b <;> kernel_rfl
theorem bu57 (parts : List (Nat × AVal)) : abuild Tryz.prog 57 parts = ((fillA ([(0, 1), (1, 1), (2, 1), (3, 1), (4, 1), (5, 1), (6, 1), (7, 1)].toArray[·]?) [.int .i64 0, .nilPtr, .nilPtr, .bool false, .int .i64 0, .int .i64 0, .nilSl, .nilSl] parts).bind fun c => some (.agg c)) := by kernel_rfl
theorem cb_parse_go_148 : Cb.cbox "parse.go:148" = true := by kernel_rfl
theorem cb_parse_go_143 : Cb.cbox "parse.go:143" = true := by kernel_rfl
theorem cb_parse_go_130 : Cb.cbox "parse.go:130" = true := by kernel_rfl
theorem cb_ref_go_74 : Cb.cbox "ref.go:74" = true := by kernel_rfl
theorem cb_ref_go_93 : Cb.cbox "ref.go:93" = true := by kernel_rfl
theorem cb_law_go_119 : Cb.cbox "law.go:119" = true := by kernel_rfl
theorem cb_law_go_120 : Cb.cbox "law.go:120" = true := by kernel_rfl
theorem cb_law_go_121 : Cb.cbox "law.go:121" = true := by kernel_rfl
theorem cb_law_go_122 : Cb.cbox "law.go:122" = true := by kernel_rfl
theorem cb_law_go_123 : Cb.cbox "law.go:123" = true := by kernel_rfl
theorem cb_law_go_124 : Cb.cbox "law.go:124" = true := by kernel_rfl
theorem eqn32 (xo : Operand) (h : AHeap) : abin Cb .eql 32 xo (.const (.pointer none)) h .nilPtr .nilPtr = some (.bool true) := by kernel_rfl
theorem eqp32 (xo yo : Operand) (h : AHeap) (c : List AVal) : abin Cb .eql 32 xo yo h (.iptr c) .nilPtr = some (.bool false) := by kernel_rfl
theorem fa35_2 (p : AVal) : afieldAddr Tryz.prog 35 p 2 = dropCells 2 p := by kernel_rfl
theorem ld32 (h : AHeap) (p : AVal) : aload Tryz.prog h 32 p = loadA h false 1 p := by kernel_rfl
theorem nc_law_go_110 : Cb.cbox "law.go:110" = false := by kernel_rfl
theorem own_law_go_110 : Cb.own "law.go:110" = false := by kernel_rfl
end TyB
end Go.Proofs.Bnd
