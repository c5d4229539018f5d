/-
  PARSE (Sc): types (printed by wip/tools/tg.py).
-/
import Derived.Test.YthfbbjoaidajfaaGreatDoorParSbFns
set_option linter.unusedVariables false
set_option linter.unusedSimpArgs false
set_option linter.unusedSimpArgs false
set_option linter.unusedVariables false
set_option maxRecDepth 100000
namespace Go.Proofs.Par
open Go Go.Am Go.Proofs
namespace TyF
theorem ix48 (x : AVal) (k : IntKind) (i : Int) : aindexAddr Tryz.prog 48 x (.int k i) = indexAddrA 3 x i := by kernel_rfl
theorem ld47 (h : AHeap) (p : AVal) : aload Tryz.prog h 47 p = loadA h true 3 p := by kernel_rfl
theorem neqs47 (xo yo : Operand) (h : AHeap) (a b : Value) : abin Cp .neq 47 xo yo h (.agg [.bool a.IsText, .str a.Text, .int .i64 a.Int]) (.agg [.bool b.IsText, .str b.Text, .int .i64 b.Int]) = some (.bool (!eqValue a b)) := by
  obtain ⟨a0, a1, a2⟩ := a; obtain ⟨b0, b1, b2⟩ := b
  have hf : All2 (TripEq Cp.P 9999 [(.bool a0), (.string ⟨a1.toArray⟩), (.int .i64 a2)].toArray [(.bool b0), (.string ⟨b1.toArray⟩), (.int .i64 b2)].toArray) [("IsText", 4, 0), ("Text", 9, 1), ("Int", 2, 2)] [a0 == b0, a1 == b1, a2 == b2] := (fld_cons (.bool a0) (.bool b0) (by kernel_rfl) (by kernel_rfl) (by kernel_rfl) (by kernel_rfl)
    (fld_cons (.string ⟨a1.toArray⟩) (.string ⟨b1.toArray⟩) (by kernel_rfl) (by kernel_rfl) (by kernel_rfl) (Eq.trans (b := some ((⟨a1.toArray⟩ : ByteArray) == ⟨b1.toArray⟩)) (by kernel_rfl) (congrArg some (str_eq _ _)))
    (fld_cons (.int .i64 a2) (.int .i64 b2) (by kernel_rfl) (by kernel_rfl) (by kernel_rfl) (by kernel_rfl)
    fld_nil)))
  have h := abin_struct (C := Cp) (t := 47) (xo := xo) (yo := yo) (h := h) (fields := [("IsText", 4, 0), ("Text", 9, 1), ("Int", 2, 2)]) (us := [.bool a0, .str a1, .int .i64 a2]) (ws := [.bool b0, .str b1, .int .i64 b2]) (by kernel_rfl) (by kernel_rfl) (by kernel_rfl) (by kernel_rfl) rfl rfl hf
  exact h.2.trans (by simp [eqValue, and_assoc, Bool.and_assoc])
theorem un48 : Tryz.prog.underlying 48 = some (.slice 47) := by kernel_rfl
theorem ld3 (h : AHeap) (p : AVal) : aload Tryz.prog h 3 p = loadA h false 1 p := by kernel_rfl
theorem fa50_0 (p : AVal) : afieldAddr Tryz.prog 50 p 0 = dropCells 0 p := by kernel_rfl
theorem fa50_3 (p : AVal) : afieldAddr Tryz.prog 50 p 3 = dropCells 3 p := by kernel_rfl
theorem ld9 (h : AHeap) (p : AVal) : aload Tryz.prog h 9 p = loadA h false 1 p := by kernel_rfl
theorem fa50_4 (p : AVal) : afieldAddr Tryz.prog 50 p 4 = dropCells 4 p := by kernel_rfl
theorem fa50_5 (p : AVal) : afieldAddr Tryz.prog 50 p 5 = dropCells 5 p := by kernel_rfl
theorem ld48 (h : AHeap) (p : AVal) : aload Tryz.prog h 48 p = loadA h false 1 p := by kernel_rfl
theorem fa50_1 (p : AVal) : afieldAddr Tryz.prog 50 p 1 = dropCells 1 p := by kernel_rfl
theorem ld24 (h : AHeap) (p : AVal) : aload Tryz.prog h 24 p = loadA h false 1 p := by kernel_rfl
theorem fa50_2 (p : AVal) : afieldAddr Tryz.prog 50 p 2 = dropCells 2 p := by kernel_rfl
theorem st3 (h : AHeap) (p v : AVal) : astore Tryz.prog h 3 p v = storeA h 1 p v := by kernel_rfl
theorem eqn2_24 (xo yo : Operand) (h : AHeap) : abin Cp .eql 24 xo yo h .nilPtr .nilPtr = some (.bool true) := by kernel_rfl
theorem eqp24 (xo yo : Operand) (h : AHeap) (c : List AVal) : abin Cp .eql 24 xo yo h (.iptr c) .nilPtr = some (.bool false) := by kernel_rfl
theorem eqq24 (xo yo : Operand) (h : AHeap) (c : List AVal) : abin Cp .eql 24 xo yo h .nilPtr (.iptr c) = some (.bool false) := by kernel_rfl
theorem eqn24 (xo : Operand) (h : AHeap) : abin Cp .eql 24 xo (.const (.pointer none)) h .nilPtr .nilPtr = some (.bool true) := by kernel_rfl
theorem fa27_1 (p : AVal) : afieldAddr Tryz.prog 27 p 1 = dropCells 1 p := by kernel_rfl
theorem fa27_3 (p : AVal) : afieldAddr Tryz.prog 27 p 3 = dropCells 3 p := by kernel_rfl
theorem ld4 (h : AHeap) (p : AVal) : aload Tryz.prog h 4 p = loadA h false 1 p := by kernel_rfl
theorem eqlb4 (xo yo : Operand) (h : AHeap) (a b : Bool) : abin Cp .eql 4 xo yo h (.bool a) (.bool b) = some (.bool (a == b)) := by cases a <;> cases b <;> kernel_rfl
theorem fa27_0 (p : AVal) : afieldAddr Tryz.prog 27 p 0 = dropCells 0 p := by kernel_rfl
theorem ld23 (h : AHeap) (p : AVal) : aload Tryz.prog h 23 p = loadA h false 1 p := by kernel_rfl
theorem fa27_4 (p : AVal) : afieldAddr Tryz.prog 27 p 4 = dropCells 4 p := by kernel_rfl
theorem ld25 (h : AHeap) (p : AVal) : aload Tryz.prog h 25 p = loadA h false 1 p := by kernel_rfl
theorem fa27_2 (p : AVal) : afieldAddr Tryz.prog 27 p 2 = dropCells 2 p := by kernel_rfl
theorem ze3 : zeroA Tryz.prog 3 = some (.int .i64 0) := by kernel_rfl
theorem own_show_go_170 : Cp.own "show.go:170" = false := by kernel_rfl
theorem nc_show_go_169 : Cp.cbox "show.go:169" = false := by kernel_rfl
end TyF
end Go.Proofs.Par
