/-
  PLAN (C): types (printed by wip/tools/tg.py).
-/
import Derived.Test.YtijnepmlnfcpnabGreatDoorPlnAwake
set_option linter.unusedVariables false
set_option linter.unusedSimpArgs false
set_option linter.unusedSimpArgs false
set_option linter.unusedVariables false
set_option maxRecDepth 100000
namespace Go.Proofs.Pln
open Go Go.Am Go.Proofs

namespace TyC
theorem fa35_2 (p : AVal) : afieldAddr Tryz.prog 35 p 2 = dropCells 2 p := by kernel_rfl
theorem ld3 (h : AHeap) (p : AVal) : aload Tryz.prog h 3 p = loadA h false 1 p := by kernel_rfl
theorem fa35_0 (p : AVal) : afieldAddr Tryz.prog 35 p 0 = dropCells 0 p := by kernel_rfl
theorem ld4 (h : AHeap) (p : AVal) : aload Tryz.prog h 4 p = loadA h false 1 p := by kernel_rfl
theorem fa35_1 (p : AVal) : afieldAddr Tryz.prog 35 p 1 = dropCells 1 p := by kernel_rfl
theorem ld27 (h : AHeap) (p : AVal) : aload Tryz.prog h 27 p = loadA h true 4 p := by kernel_rfl
theorem fa30_1 (p : AVal) : afieldAddr Tryz.prog 30 p 1 = dropCells 1 p := by kernel_rfl
theorem fa30_2 (p : AVal) : afieldAddr Tryz.prog 30 p 2 = dropCells 2 p := by kernel_rfl
theorem ze35 : zeroA Tryz.prog 35 = some (.agg [.bool false, .int .i64 0, .int .i64 0]) := by kernel_rfl
theorem st35 (h : AHeap) (p v : AVal) : astore Tryz.prog h 35 p v = storeA h 3 p v := by kernel_rfl
theorem own_law_go_60 : Cl.own "law.go:60" = false := by kernel_rfl
theorem fa30_3 (p : AVal) : afieldAddr Tryz.prog 30 p 3 = dropCells 3 p := by kernel_rfl
theorem ld28 (h : AHeap) (p : AVal) : aload Tryz.prog h 28 p = loadA h false 1 p := by kernel_rfl
theorem ap28 (h : AHeap) (s x : AVal) : aappend Tryz.prog false h [28, 28] [s, x] = appendA false h 6 48 s x := by kernel_rfl
theorem own_law_go_59 : Cl.own "law.go:59" = false := by kernel_rfl
theorem ld32 (h : AHeap) (p : AVal) : aload Tryz.prog h 32 p = loadA h true 6 p := by kernel_rfl
theorem ze32 : zeroA Tryz.prog 32 = some (.agg [.int .i64 0, .int .i64 0, .int .i64 0, .int .i64 0, .int .i64 0, .int .i64 0]) := by kernel_rfl
theorem in32 : ∃ i, Tryz.prog.info? 32 = some i ∧ i.size = 6 ∧ i.bytes = 48 := ⟨_, rfl, rfl, rfl⟩
theorem un28 : Tryz.prog.underlying 28 = some (.slice 32) := by kernel_rfl
theorem own_law_go_58 : Cl.own "law.go:58" = false := by kernel_rfl
theorem fa32_1 (p : AVal) : afieldAddr Tryz.prog 32 p 1 = dropCells 1 p := by kernel_rfl
theorem fa32_2 (p : AVal) : afieldAddr Tryz.prog 32 p 2 = dropCells 2 p := by kernel_rfl
theorem fa32_0 (p : AVal) : afieldAddr Tryz.prog 32 p 0 = dropCells 0 p := by kernel_rfl
theorem fa32_3 (p : AVal) : afieldAddr Tryz.prog 32 p 3 = dropCells 3 p := by kernel_rfl
theorem ix28 (x : AVal) (k : IntKind) (i : Int) : aindexAddr Tryz.prog 28 x (.int k i) = indexAddrA 6 x i := by kernel_rfl
theorem st32 (h : AHeap) (p v : AVal) : astore Tryz.prog h 32 p v = storeA h 6 p v := by kernel_rfl
theorem own_law_go_52 : Cl.own "law.go:52" = false := by kernel_rfl
theorem own_law_go_49 : Cl.own "law.go:49" = false := by kernel_rfl
theorem cb_parse_go_148 : Cl.cbox "parse.go:148" = true := by kernel_rfl
theorem cb_parse_go_143 : Cl.cbox "parse.go:143" = true := by kernel_rfl
theorem cb_parse_go_130 : Cl.cbox "parse.go:130" = true := by kernel_rfl
theorem cb_plan_go_27 : Cl.cbox "plan.go:27" = true := by kernel_rfl
theorem cb_plan_go_29 : Cl.cbox "plan.go:29" = true := by kernel_rfl
theorem cb_plan_go_31 : Cl.cbox "plan.go:31" = true := by kernel_rfl
theorem cb_plan_go_41 : Cl.cbox "plan.go:41" = true := by kernel_rfl
theorem cb_cube_go_25 : Cl.cbox "cube.go:25" = true := by kernel_rfl
theorem cb_law_go_47 : Cl.cbox "law.go:47" = true := by kernel_rfl
end TyC
end Go.Proofs.Pln
