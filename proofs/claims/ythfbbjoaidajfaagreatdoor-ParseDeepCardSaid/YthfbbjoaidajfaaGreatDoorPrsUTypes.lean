import Derived.Test.YthfbbjoaidajfaaGreatDoorPrsXFns
import Derived.Test.YthfbbjoaidajfaaGreatDoorParAwake
set_option linter.unusedVariables false
set_option linter.unusedSimpArgs false
set_option linter.unusedSimpArgs false
set_option linter.unusedVariables false
set_option maxRecDepth 100000
namespace Go.Proofs.Q.Par
open Go Go.Am Go.Proofs
def eqFault (a b : Fault) : Bool := (a.Code == b.Code) && (a.At == b.At)
namespace TyU
theorem fa50_2 (p : AVal) : afieldAddr Tryz.prog 50 p 2 = dropCells 2 p := by kernel_rfl
theorem ld24 (h : AHeap) (p : AVal) : aload Tryz.prog h 24 p = loadA h false 1 p := by kernel_rfl
theorem fa50_1 (p : AVal) : afieldAddr Tryz.prog 50 p 1 = dropCells 1 p := by kernel_rfl
theorem eqn24 (xo : Operand) (h : AHeap) : abin Cp .eql 24 xo (.const (.pointer none)) h .nilPtr .nilPtr = some (.bool true) := by kernel_rfl
theorem eqp24 (xo yo : Operand) (h : AHeap) (c : List AVal) : abin Cp .eql 24 xo yo h (.iptr c) .nilPtr = some (.bool false) := by kernel_rfl
theorem ld30 (h : AHeap) (p : AVal) : aload Tryz.prog h 30 p = loadA h true 2 p := by kernel_rfl
theorem bu30 (parts : List (Nat × AVal)) : abuild Tryz.prog 30 parts = ((fillA ([(0, 1), (1, 1)].toArray[·]?) [.int .i64 0, .int .i64 0] parts).bind fun c => some (.agg c)) := by kernel_rfl
theorem eqls30 (xo yo : Operand) (h : AHeap) (a b : Fault) : abin Cp .eql 30 xo yo h (.agg [.int .i64 a.Code, .int .i64 a.At]) (.agg [.int .i64 b.Code, .int .i64 b.At]) = some (.bool (eqFault a b)) := by
  obtain ⟨a0, a1⟩ := a; obtain ⟨b0, b1⟩ := b
  have hf : All2 (TripEq Cp.P 9999 [(.int .i64 a0), (.int .i64 a1)].toArray [(.int .i64 b0), (.int .i64 b1)].toArray) [("Code", 28, 0), ("At", 3, 1)] [a0 == b0, a1 == b1] := (fld_cons (.int .i64 a0) (.int .i64 b0) (by kernel_rfl) (by kernel_rfl) (by kernel_rfl) (by kernel_rfl)
    (fld_cons (.int .i64 a1) (.int .i64 b1) (by kernel_rfl) (by kernel_rfl) (by kernel_rfl) (by kernel_rfl)
    fld_nil))
  have h := abin_struct (C := Cp) (t := 30) (xo := xo) (yo := yo) (h := h) (fields := [("Code", 28, 0), ("At", 3, 1)]) (us := [.int .i64 a0, .int .i64 a1]) (ws := [.int .i64 b0, .int .i64 b1]) (by kernel_rfl) (by kernel_rfl) (by kernel_rfl) (by kernel_rfl) rfl rfl hf
  exact h.1.trans (by simp [eqFault, and_assoc, Bool.and_assoc])
theorem fa27_2 (p : AVal) : afieldAddr Tryz.prog 27 p 2 = dropCells 2 p := by kernel_rfl
theorem ze27 : zeroA Tryz.prog 27 = some (.agg [.nilSl, .str [], .nilPtr, .bool false, .nilSl]) := by kernel_rfl
theorem ze30 : zeroA Tryz.prog 30 = some (.agg [.int .i64 0, .int .i64 0]) := by kernel_rfl
theorem st27 (h : AHeap) (p v : AVal) : astore Tryz.prog h 27 p v = storeA h 5 p v := by kernel_rfl
theorem st30 (h : AHeap) (p v : AVal) : astore Tryz.prog h 30 p v = storeA h 2 p v := by kernel_rfl
theorem own_law_go_158 : Cp.own "law.go:158" = false := by kernel_rfl
theorem ix52 (x : AVal) (k : IntKind) (i : Int) : aindexAddr Tryz.prog 52 x (.int k i) = indexAddrA 1 x i := by kernel_rfl
theorem ld9 (h : AHeap) (p : AVal) : aload Tryz.prog h 9 p = loadA h false 1 p := by kernel_rfl
theorem own_law_go_150 : Cp.own "law.go:150" = false := by kernel_rfl
end TyU
end Go.Proofs.Q.Par

