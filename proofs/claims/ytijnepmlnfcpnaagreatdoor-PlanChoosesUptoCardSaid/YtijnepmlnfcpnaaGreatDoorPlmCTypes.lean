/-
  PLAN (aa, C): types (printed by wip/tools/tg.py).
-/
import Derived.Test.YtijnepmlnfcpnaaGreatDoorPlmBFns
import Derived.Test.YtijnepmlnfcpnaaGreatDoorPlmAwake
set_option linter.unusedVariables false
set_option linter.unusedSimpArgs false
set_option linter.unusedSimpArgs false
set_option linter.unusedVariables false
set_option maxRecDepth 100000
namespace Go.Proofs.Plm
open Go Go.Am Go.Proofs

def eqPlan (a b : Plan) : Bool := (a.Base == b.Base) && (a.Set == b.Set) && (a.Cost == b.Cost)
namespace TyC
theorem ld72 (h : AHeap) (p : AVal) : aload Tryz.prog h 72 p = loadA h true 3 p := by kernel_rfl
theorem ld35 (h : AHeap) (p : AVal) : aload Tryz.prog h 35 p = loadA h true 4 p := by kernel_rfl
theorem fa70_3 (p : AVal) : afieldAddr Tryz.prog 70 p 3 = dropCells 3 p := by kernel_rfl
theorem ld68 (h : AHeap) (p : AVal) : aload Tryz.prog h 68 p = loadA h false 1 p := by kernel_rfl
theorem fa70_1 (p : AVal) : afieldAddr Tryz.prog 70 p 1 = dropCells 1 p := by kernel_rfl
theorem ld3 (h : AHeap) (p : AVal) : aload Tryz.prog h 3 p = loadA h false 1 p := by kernel_rfl
theorem fa70_2 (p : AVal) : afieldAddr Tryz.prog 70 p 2 = dropCells 2 p := by kernel_rfl
theorem eqls72 (xo yo : Operand) (h : AHeap) (a b : Plan) : abin Cl .eql 72 xo yo h (.agg [.bool a.Base, .int .i64 a.Set, .int .i64 a.Cost]) (.agg [.bool b.Base, .int .i64 b.Set, .int .i64 b.Cost]) = some (.bool (eqPlan a b)) := by
  obtain ⟨a0, a1, a2⟩ := a; obtain ⟨b0, b1, b2⟩ := b
  have hf : All2 (TripEq Cl.P 9999 [(.bool a0), (.int .i64 a1), (.int .i64 a2)].toArray [(.bool b0), (.int .i64 b1), (.int .i64 b2)].toArray) [("Base", 4, 0), ("Set", 3, 1), ("Cost", 3, 2)] [a0 == b0, a1 == b1, a2 == b2] := (fld_cons (.bool a0) (.bool b0) (by kernel_rfl) (by kernel_rfl) (by kernel_rfl) (by kernel_rfl)
    (fld_cons (.int .i64 a1) (.int .i64 b1) (by kernel_rfl) (by kernel_rfl) (by kernel_rfl) (by kernel_rfl)
    (fld_cons (.int .i64 a2) (.int .i64 b2) (by kernel_rfl) (by kernel_rfl) (by kernel_rfl) (by kernel_rfl)
    fld_nil)))
  have h := abin_struct (C := Cl) (t := 72) (xo := xo) (yo := yo) (h := h) (fields := [("Base", 4, 0), ("Set", 3, 1), ("Cost", 3, 2)]) (us := [.bool a0, .int .i64 a1, .int .i64 a2]) (ws := [.bool b0, .int .i64 b1, .int .i64 b2]) (by kernel_rfl) (by kernel_rfl) (by kernel_rfl) (by kernel_rfl) rfl rfl hf
  exact h.1.trans (by simp [eqPlan, and_assoc, Bool.and_assoc])
theorem fa70_0 (p : AVal) : afieldAddr Tryz.prog 70 p 0 = dropCells 0 p := by kernel_rfl
theorem ld70 (h : AHeap) (p : AVal) : aload Tryz.prog h 70 p = loadA h true 4 p := by kernel_rfl
theorem ze72 : zeroA Tryz.prog 72 = some (.agg [.bool false, .int .i64 0, .int .i64 0]) := by kernel_rfl
theorem st72 (h : AHeap) (p v : AVal) : astore Tryz.prog h 72 p v = storeA h 3 p v := by kernel_rfl
theorem own_law_go_41 : Cl.own "law.go:41" = false := by kernel_rfl
theorem cb_parse_go_148 : Cl.cbox "parse.go:148" = true := by kernel_rfl
theorem cb_parse_go_143 : Cl.cbox "parse.go:143" = true := by kernel_rfl
theorem cb_parse_go_130 : Cl.cbox "parse.go:130" = true := by kernel_rfl
theorem cb_plan_go_27 : Cl.cbox "plan.go:27" = true := by kernel_rfl
theorem cb_plan_go_29 : Cl.cbox "plan.go:29" = true := by kernel_rfl
theorem cb_plan_go_31 : Cl.cbox "plan.go:31" = true := by kernel_rfl
theorem cb_plan_go_41 : Cl.cbox "plan.go:41" = true := by kernel_rfl
theorem cb_plan_go_61 : Cl.cbox "plan.go:61" = true := by kernel_rfl
theorem cb_cube_go_25 : Cl.cbox "cube.go:25" = true := by kernel_rfl
theorem cb_law_go_39 : Cl.cbox "law.go:39" = true := by kernel_rfl
theorem cb_ref_go_26 : Cl.cbox "ref.go:26" = true := by kernel_rfl
theorem cb_ref_go_48 : Cl.cbox "ref.go:48" = true := by kernel_rfl
theorem cb_ref_go_57 : Cl.cbox "ref.go:57" = true := by kernel_rfl
theorem cb_ref_go_65 : Cl.cbox "ref.go:65" = true := by kernel_rfl
end TyC
end Go.Proofs.Plm
