/-
  KEYS (B): types (printed by wip/tools/tg.py).
-/
import Derived.Test.YtijnepmlnfcpnaaGreatDoorKyNodes
set_option linter.unusedVariables false
set_option linter.unusedSimpArgs false
set_option linter.unusedSimpArgs false
set_option linter.unusedVariables false
set_option maxRecDepth 100000
namespace Go.Proofs.Ky
open Go Go.Am Go.Proofs

namespace TyB
theorem fa57_1 (p : AVal) : afieldAddr Tryz.prog 57 p 1 = dropCells 1 p := by kernel_rfl
theorem ld32 (h : AHeap) (p : AVal) : aload Tryz.prog h 32 p = loadA h false 1 p := by kernel_rfl
theorem fa57_2 (p : AVal) : afieldAddr Tryz.prog 57 p 2 = dropCells 2 p := by kernel_rfl
theorem fa57_7 (p : AVal) : afieldAddr Tryz.prog 57 p 7 = dropCells 7 p := by kernel_rfl
theorem ld51 (h : AHeap) (p : AVal) : aload Tryz.prog h 51 p = loadA h false 1 p := by kernel_rfl
theorem ix51 (x : AVal) (k : IntKind) (i : Int) : aindexAddr Tryz.prog 51 x (.int k i) = indexAddrA 1 x i := by kernel_rfl
theorem ld2 (h : AHeap) (p : AVal) : aload Tryz.prog h 2 p = loadA h false 1 p := by kernel_rfl
theorem un51 : Tryz.prog.underlying 51 = some (.slice 2) := by kernel_rfl
theorem fa57_6 (p : AVal) : afieldAddr Tryz.prog 57 p 6 = dropCells 6 p := by kernel_rfl
theorem ld22 (h : AHeap) (p : AVal) : aload Tryz.prog h 22 p = loadA h false 1 p := by kernel_rfl
theorem ix22 (x : AVal) (k : IntKind) (i : Int) : aindexAddr Tryz.prog 22 x (.int k i) = indexAddrA 1 x i := by kernel_rfl
theorem ld9 (h : AHeap) (p : AVal) : aload Tryz.prog h 9 p = loadA h false 1 p := by kernel_rfl
theorem le9 (h : AHeap) (s : List UInt8) : alen Tryz.prog h 9 (.str s) = some (.int .i64 s.length) := by kernel_rfl
theorem un22 : Tryz.prog.underlying 22 = some (.slice 9) := by kernel_rfl
theorem fa57_0 (p : AVal) : afieldAddr Tryz.prog 57 p 0 = dropCells 0 p := by kernel_rfl
theorem ld3 (h : AHeap) (p : AVal) : aload Tryz.prog h 3 p = loadA h false 1 p := by kernel_rfl
theorem fa57_3 (p : AVal) : afieldAddr Tryz.prog 57 p 3 = dropCells 3 p := by kernel_rfl
theorem ld4 (h : AHeap) (p : AVal) : aload Tryz.prog h 4 p = loadA h false 1 p := by kernel_rfl
theorem fa57_4 (p : AVal) : afieldAddr Tryz.prog 57 p 4 = dropCells 4 p := by kernel_rfl
theorem fa57_5 (p : AVal) : afieldAddr Tryz.prog 57 p 5 = dropCells 5 p := by kernel_rfl
theorem eqn32 (xo : Operand) (h : AHeap) : abin Cl .eql 32 xo (.const (.pointer none)) h .nilPtr .nilPtr = some (.bool true) := by kernel_rfl
theorem eqp32 (xo yo : Operand) (h : AHeap) (c : List AVal) : abin Cl .eql 32 xo yo h (.iptr c) .nilPtr = some (.bool false) := by kernel_rfl
theorem fa35_2 (p : AVal) : afieldAddr Tryz.prog 35 p 2 = dropCells 2 p := by kernel_rfl
theorem fa35_3 (p : AVal) : afieldAddr Tryz.prog 35 p 3 = dropCells 3 p := by kernel_rfl
theorem ld33 (h : AHeap) (p : AVal) : aload Tryz.prog h 33 p = loadA h false 1 p := by kernel_rfl
theorem ix33 (x : AVal) (k : IntKind) (i : Int) : aindexAddr Tryz.prog 33 x (.int k i) = indexAddrA 1 x i := by kernel_rfl
theorem un33 : Tryz.prog.underlying 33 = some (.slice 3) := by kernel_rfl
theorem fa35_1 (p : AVal) : afieldAddr Tryz.prog 35 p 1 = dropCells 1 p := by kernel_rfl
theorem fa35_0 (p : AVal) : afieldAddr Tryz.prog 35 p 0 = dropCells 0 p := by kernel_rfl
theorem ld31 (h : AHeap) (p : AVal) : aload Tryz.prog h 31 p = loadA h false 1 p := by kernel_rfl
theorem ix31 (x : AVal) (k : IntKind) (i : Int) : aindexAddr Tryz.prog 31 x (.int k i) = indexAddrA 2 x i := by kernel_rfl
theorem fa63_0 (p : AVal) : afieldAddr Tryz.prog 63 p 0 = dropCells 0 p := by kernel_rfl
theorem fa63_1 (p : AVal) : afieldAddr Tryz.prog 63 p 1 = dropCells 1 p := by kernel_rfl
theorem un31 : Tryz.prog.underlying 31 = some (.slice 63) := by kernel_rfl
theorem cb_parse_go_148 : Cl.cbox "parse.go:148" = true := by kernel_rfl
theorem cb_parse_go_143 : Cl.cbox "parse.go:143" = true := by kernel_rfl
theorem cb_parse_go_130 : Cl.cbox "parse.go:130" = true := by kernel_rfl
theorem cb_law_go_96 : Cl.cbox "law.go:96" = true := by kernel_rfl
theorem cb_bind_go_316 : Cl.cbox "bind.go:316" = true := by kernel_rfl
theorem cb_ref_go_330 : Cl.cbox "ref.go:330" = true := by kernel_rfl
end TyB
end Go.Proofs.Ky
