/-
  PLAN (aa, B): types (printed by wip/tools/tg.py).
-/
import Derived.Test.YtijnepmlnfcpnaaGreatDoorPlmNodes
set_option linter.unusedVariables false
set_option linter.unusedSimpArgs false
set_option linter.unusedSimpArgs false
set_option linter.unusedVariables false
set_option maxRecDepth 100000
namespace Go.Proofs.Plm
open Go Go.Am Go.Proofs

namespace TyB
theorem or3 (xo yo : Operand) (h : AHeap) (a b : Int) : abin Cl .or 3 xo yo h (.int .i64 a) (.int .i64 b) = some (.int .i64 (bits .or .i64 a b)) := by kernel_rfl
theorem ix33 (x : AVal) (k : IntKind) (i : Int) : aindexAddr Tryz.prog 33 x (.int k i) = indexAddrA 1 x i := by kernel_rfl
theorem ld3 (h : AHeap) (p : AVal) : aload Tryz.prog h 3 p = loadA h false 1 p := by kernel_rfl
theorem fa35_3 (p : AVal) : afieldAddr Tryz.prog 35 p 3 = dropCells 3 p := by kernel_rfl
theorem ld33 (h : AHeap) (p : AVal) : aload Tryz.prog h 33 p = loadA h false 1 p := by kernel_rfl
theorem un33 : Tryz.prog.underlying 33 = some (.slice 3) := by kernel_rfl
theorem fa35_2 (p : AVal) : afieldAddr Tryz.prog 35 p 2 = dropCells 2 p := by kernel_rfl
theorem ld32 (h : AHeap) (p : AVal) : aload Tryz.prog h 32 p = loadA h false 1 p := by kernel_rfl
theorem cb_parse_go_148 : Cl.cbox "parse.go:148" = true := by kernel_rfl
theorem cb_parse_go_143 : Cl.cbox "parse.go:143" = true := by kernel_rfl
theorem cb_parse_go_130 : Cl.cbox "parse.go:130" = true := by kernel_rfl
theorem cb_plan_go_27 : Cl.cbox "plan.go:27" = true := by kernel_rfl
theorem cb_plan_go_29 : Cl.cbox "plan.go:29" = true := by kernel_rfl
theorem cb_plan_go_31 : Cl.cbox "plan.go:31" = true := by kernel_rfl
theorem cb_plan_go_41 : Cl.cbox "plan.go:41" = true := by kernel_rfl
theorem cb_plan_go_61 : Cl.cbox "plan.go:61" = true := by kernel_rfl
theorem cb_cube_go_25 : Cl.cbox "cube.go:25" = true := by kernel_rfl
theorem cb_law_go_39 : Cl.cbox "law.go:39" = true := by kernel_rfl
theorem cb_ref_go_26 : Cl.cbox "ref.go:26" = true := by kernel_rfl
theorem cb_ref_go_48 : Cl.cbox "ref.go:48" = true := by kernel_rfl
theorem cb_ref_go_57 : Cl.cbox "ref.go:57" = true := by kernel_rfl
theorem cb_ref_go_65 : Cl.cbox "ref.go:65" = true := by kernel_rfl
theorem fa207_0 (p : AVal) : afieldAddr Tryz.prog 207 p 0 = dropCells 0 p := by kernel_rfl
theorem fa207_3 (p : AVal) : afieldAddr Tryz.prog 207 p 3 = dropCells 3 p := by kernel_rfl
theorem bu72 (parts : List (Nat × AVal)) : abuild Tryz.prog 72 parts = ((fillA ([(0, 1), (1, 1), (2, 1)].toArray[·]?) [.bool false, .int .i64 0, .int .i64 0] parts).bind fun c => some (.agg c)) := by kernel_rfl
theorem st72 (h : AHeap) (p v : AVal) : astore Tryz.prog h 72 p v = storeA h 3 p v := by kernel_rfl
theorem ze207 : zeroA Tryz.prog 207 = some (.agg [.int .i64 0, .int .i64 0, .int .i64 0, .int .i64 0, .int .i64 0, .int .i64 0]) := by kernel_rfl
theorem st207 (h : AHeap) (p v : AVal) : astore Tryz.prog h 207 p v = storeA h 6 p v := by kernel_rfl
theorem own_plan_go_29 : Cl.own "plan.go:29" = false := by kernel_rfl
theorem ze72 : zeroA Tryz.prog 72 = some (.agg [.bool false, .int .i64 0, .int .i64 0]) := by kernel_rfl
theorem own_plan_go_27 : Cl.own "plan.go:27" = false := by kernel_rfl
theorem ld72 (h : AHeap) (p : AVal) : aload Tryz.prog h 72 p = loadA h true 3 p := by kernel_rfl
theorem ld35 (h : AHeap) (p : AVal) : aload Tryz.prog h 35 p = loadA h true 4 p := by kernel_rfl
theorem own_plan_go_41 : Cl.own "plan.go:41" = false := by kernel_rfl
theorem fi72_2 (cs : List AVal) : afield Tryz.prog 72 (.agg cs) 2 = if 2 ≤ cs.length then ofCells false 1 (cs.drop 2) else none := by kernel_rfl
theorem fa72_1 (p : AVal) : afieldAddr Tryz.prog 72 p 1 = dropCells 1 p := by kernel_rfl
theorem fa72_0 (p : AVal) : afieldAddr Tryz.prog 72 p 0 = dropCells 0 p := by kernel_rfl
theorem ld4 (h : AHeap) (p : AVal) : aload Tryz.prog h 4 p = loadA h false 1 p := by kernel_rfl
theorem fa72_2 (p : AVal) : afieldAddr Tryz.prog 72 p 2 = dropCells 2 p := by kernel_rfl
end TyB
end Go.Proofs.Plm
