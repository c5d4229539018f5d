/-
  PARSE (Sb): types (printed by wip/tools/tg.py).
-/
import Derived.Test.YthfbbjoaidajfaaGreatDoorParSaFns
set_option linter.unusedVariables false
set_option linter.unusedSimpArgs false
set_option linter.unusedSimpArgs false
set_option linter.unusedVariables false
set_option maxRecDepth 100000
namespace Go.Proofs.Par
open Go Go.Am Go.Proofs
namespace TyE
theorem ix52 (x : AVal) (k : IntKind) (i : Int) : aindexAddr Tryz.prog 52 x (.int k i) = indexAddrA 1 x i := by kernel_rfl
theorem ld9 (h : AHeap) (p : AVal) : aload Tryz.prog h 9 p = loadA h false 1 p := by kernel_rfl
theorem un52 : Tryz.prog.underlying 52 = some (.slice 9) := by kernel_rfl
theorem ix63 (x : AVal) (k : IntKind) (i : Int) : aindexAddr Tryz.prog 63 x (.int k i) = indexAddrA 1 x i := by kernel_rfl
theorem ld52 (h : AHeap) (p : AVal) : aload Tryz.prog h 52 p = loadA h false 1 p := by kernel_rfl
theorem un63 : Tryz.prog.underlying 63 = some (.slice 52) := by kernel_rfl
theorem fa65_0 (p : AVal) : afieldAddr Tryz.prog 65 p 0 = dropCells 0 p := by kernel_rfl
theorem ld3 (h : AHeap) (p : AVal) : aload Tryz.prog h 3 p = loadA h false 1 p := by kernel_rfl
theorem fa65_1 (p : AVal) : afieldAddr Tryz.prog 65 p 1 = dropCells 1 p := by kernel_rfl
theorem fa65_2 (p : AVal) : afieldAddr Tryz.prog 65 p 2 = dropCells 2 p := by kernel_rfl
theorem ld63 (h : AHeap) (p : AVal) : aload Tryz.prog h 63 p = loadA h false 1 p := by kernel_rfl
theorem nc_show_go_171 : Cp.cbox "show.go:171" = false := by kernel_rfl
theorem ld65 (h : AHeap) (p : AVal) : aload Tryz.prog h 65 p = loadA h true 3 p := by kernel_rfl
theorem ix25 (x : AVal) (k : IntKind) (i : Int) : aindexAddr Tryz.prog 25 x (.int k i) = indexAddrA 3 x i := by kernel_rfl
theorem ze65 : zeroA Tryz.prog 65 = some (.agg [.int .i64 0, .nilSl, .nilSl]) := by kernel_rfl
theorem st65 (h : AHeap) (p v : AVal) : astore Tryz.prog h 65 p v = storeA h 3 p v := by kernel_rfl
theorem own_slices_go_42 : Cp.own "slices.go:42" = false := by kernel_rfl
theorem own_slices_go_41 : Cp.own "slices.go:41" = false := by kernel_rfl
theorem un25 : Tryz.prog.underlying 25 = some (.slice 65) := by kernel_rfl
theorem ix23 (x : AVal) (k : IntKind) (i : Int) : aindexAddr Tryz.prog 23 x (.int k i) = indexAddrA 2 x i := by kernel_rfl
theorem ld45 (h : AHeap) (p : AVal) : aload Tryz.prog h 45 p = loadA h true 2 p := by kernel_rfl
theorem neqs45 (xo yo : Operand) (h : AHeap) (a b : Item) : abin Cp .neq 45 xo yo h (.agg [.int .i64 a.Kind, .str a.Column]) (.agg [.int .i64 b.Kind, .str b.Column]) = some (.bool (!eqItem a b)) := by
  obtain ⟨a0, a1⟩ := a; obtain ⟨b0, b1⟩ := b
  have hf : All2 (TripEq Cp.P 9999 [(.int .i64 a0), (.string ⟨a1.toArray⟩)].toArray [(.int .i64 b0), (.string ⟨b1.toArray⟩)].toArray) [("Kind", 3, 0), ("Column", 9, 1)] [a0 == b0, a1 == b1] := (fld_cons (.int .i64 a0) (.int .i64 b0) (by kernel_rfl) (by kernel_rfl) (by kernel_rfl) (by kernel_rfl)
    (fld_cons (.string ⟨a1.toArray⟩) (.string ⟨b1.toArray⟩) (by kernel_rfl) (by kernel_rfl) (by kernel_rfl) (Eq.trans (b := some ((⟨a1.toArray⟩ : ByteArray) == ⟨b1.toArray⟩)) (by kernel_rfl) (congrArg some (str_eq _ _)))
    fld_nil))
  have h := abin_struct (C := Cp) (t := 45) (xo := xo) (yo := yo) (h := h) (fields := [("Kind", 3, 0), ("Column", 9, 1)]) (us := [.int .i64 a0, .str a1]) (ws := [.int .i64 b0, .str b1]) (by kernel_rfl) (by kernel_rfl) (by kernel_rfl) (by kernel_rfl) rfl rfl hf
  exact h.2.trans (by simp [eqItem, and_assoc, Bool.and_assoc])
theorem un23 : Tryz.prog.underlying 23 = some (.slice 45) := by kernel_rfl
end TyE
end Go.Proofs.Par
