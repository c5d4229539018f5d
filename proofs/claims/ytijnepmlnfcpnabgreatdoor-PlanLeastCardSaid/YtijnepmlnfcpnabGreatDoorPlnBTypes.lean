/-
  PLAN (B): types (printed by wip/tools/tg.py).
-/
import Derived.Test.YtijnepmlnfcpnabGreatDoorPlnNodes
set_option linter.unusedVariables false
set_option linter.unusedSimpArgs false
set_option linter.unusedSimpArgs false
set_option linter.unusedVariables false
set_option maxRecDepth 100000
namespace Go.Proofs.Pln
open Go Go.Am Go.Proofs

namespace TyB
theorem or3 (xo yo : Operand) (h : AHeap) (a b : Int) : abin Cl .or 3 xo yo h (.int .i64 a) (.int .i64 b) = some (.int .i64 (bits .or .i64 a b)) := by kernel_rfl
theorem ix25 (x : AVal) (k : IntKind) (i : Int) : aindexAddr Tryz.prog 25 x (.int k i) = indexAddrA 1 x i := by kernel_rfl
theorem ld3 (h : AHeap) (p : AVal) : aload Tryz.prog h 3 p = loadA h false 1 p := by kernel_rfl
theorem fa27_3 (p : AVal) : afieldAddr Tryz.prog 27 p 3 = dropCells 3 p := by kernel_rfl
theorem ld25 (h : AHeap) (p : AVal) : aload Tryz.prog h 25 p = loadA h false 1 p := by kernel_rfl
theorem un25 : Tryz.prog.underlying 25 = some (.slice 3) := by kernel_rfl
theorem fa27_2 (p : AVal) : afieldAddr Tryz.prog 27 p 2 = dropCells 2 p := by kernel_rfl
theorem ld24 (h : AHeap) (p : AVal) : aload Tryz.prog h 24 p = loadA h false 1 p := by kernel_rfl
theorem cb_parse_go_148 : Cl.cbox "parse.go:148" = true := by kernel_rfl
theorem cb_parse_go_143 : Cl.cbox "parse.go:143" = true := by kernel_rfl
theorem cb_parse_go_130 : Cl.cbox "parse.go:130" = true := by kernel_rfl
theorem cb_plan_go_27 : Cl.cbox "plan.go:27" = true := by kernel_rfl
theorem cb_plan_go_29 : Cl.cbox "plan.go:29" = true := by kernel_rfl
theorem cb_plan_go_31 : Cl.cbox "plan.go:31" = true := by kernel_rfl
theorem cb_plan_go_41 : Cl.cbox "plan.go:41" = true := by kernel_rfl
theorem cb_cube_go_25 : Cl.cbox "cube.go:25" = true := by kernel_rfl
theorem cb_law_go_47 : Cl.cbox "law.go:47" = true := by kernel_rfl
theorem fa32_0 (p : AVal) : afieldAddr Tryz.prog 32 p 0 = dropCells 0 p := by kernel_rfl
theorem fa32_3 (p : AVal) : afieldAddr Tryz.prog 32 p 3 = dropCells 3 p := by kernel_rfl
theorem bu35 (parts : List (Nat × AVal)) : abuild Tryz.prog 35 parts = ((fillA ([(0, 1), (1, 1), (2, 1)].toArray[·]?) [.bool false, .int .i64 0, .int .i64 0] parts).bind fun c => some (.agg c)) := by kernel_rfl
theorem st35 (h : AHeap) (p v : AVal) : astore Tryz.prog h 35 p v = storeA h 3 p v := by kernel_rfl
theorem ze32 : zeroA Tryz.prog 32 = some (.agg [.int .i64 0, .int .i64 0, .int .i64 0, .int .i64 0, .int .i64 0, .int .i64 0]) := by kernel_rfl
theorem st32 (h : AHeap) (p v : AVal) : astore Tryz.prog h 32 p v = storeA h 6 p v := by kernel_rfl
theorem own_plan_go_29 : Cl.own "plan.go:29" = false := by kernel_rfl
theorem ze35 : zeroA Tryz.prog 35 = some (.agg [.bool false, .int .i64 0, .int .i64 0]) := by kernel_rfl
theorem own_plan_go_27 : Cl.own "plan.go:27" = false := by kernel_rfl
theorem ld35 (h : AHeap) (p : AVal) : aload Tryz.prog h 35 p = loadA h true 3 p := by kernel_rfl
theorem ld27 (h : AHeap) (p : AVal) : aload Tryz.prog h 27 p = loadA h true 4 p := by kernel_rfl
theorem own_plan_go_41 : Cl.own "plan.go:41" = false := by kernel_rfl
end TyB
end Go.Proofs.Pln
