import Derived.Test.YthfbbjoaidajfaaGreatDoorPrsLexer
set_option linter.unusedVariables false
set_option linter.unusedSimpArgs false
set_option linter.unusedSimpArgs false
set_option linter.unusedVariables false
set_option maxRecDepth 100000
namespace Go.Proofs.Q.Par
open Go Go.Am Go.Proofs
namespace TyX
theorem fa50_5 (p : AVal) : afieldAddr Tryz.prog 50 p 5 = dropCells 5 p := by kernel_rfl
theorem ld48 (h : AHeap) (p : AVal) : aload Tryz.prog h 48 p = loadA h false 1 p := by kernel_rfl
theorem un48 : Tryz.prog.underlying 48 = some (.slice 47) := by kernel_rfl
theorem fa50_1 (p : AVal) : afieldAddr Tryz.prog 50 p 1 = dropCells 1 p := by kernel_rfl
theorem ld24 (h : AHeap) (p : AVal) : aload Tryz.prog h 24 p = loadA h false 1 p := by kernel_rfl
theorem fa50_2 (p : AVal) : afieldAddr Tryz.prog 50 p 2 = dropCells 2 p := by kernel_rfl
theorem eqn24 (xo : Operand) (h : AHeap) : abin Cp .eql 24 xo (.const (.pointer none)) h .nilPtr .nilPtr = some (.bool true) := by kernel_rfl
theorem eqp24 (xo yo : Operand) (h : AHeap) (c : List AVal) : abin Cp .eql 24 xo yo h (.iptr c) .nilPtr = some (.bool false) := by kernel_rfl
theorem un52 : Tryz.prog.underlying 52 = some (.slice 9) := by kernel_rfl
theorem ix63 (x : AVal) (k : IntKind) (i : Int) : aindexAddr Tryz.prog 63 x (.int k i) = indexAddrA 1 x i := by kernel_rfl
theorem ld52 (h : AHeap) (p : AVal) : aload Tryz.prog h 52 p = loadA h false 1 p := by kernel_rfl
theorem un63 : Tryz.prog.underlying 63 = some (.slice 52) := by kernel_rfl
theorem fa27_0 (p : AVal) : afieldAddr Tryz.prog 27 p 0 = dropCells 0 p := by kernel_rfl
theorem ld23 (h : AHeap) (p : AVal) : aload Tryz.prog h 23 p = loadA h false 1 p := by kernel_rfl
theorem un23 : Tryz.prog.underlying 23 = some (.slice 45) := by kernel_rfl
theorem fa27_4 (p : AVal) : afieldAddr Tryz.prog 27 p 4 = dropCells 4 p := by kernel_rfl
theorem ld25 (h : AHeap) (p : AVal) : aload Tryz.prog h 25 p = loadA h false 1 p := by kernel_rfl
theorem un25 : Tryz.prog.underlying 25 = some (.slice 65) := by kernel_rfl
theorem fa27_2 (p : AVal) : afieldAddr Tryz.prog 27 p 2 = dropCells 2 p := by kernel_rfl
theorem fa65_1 (p : AVal) : afieldAddr Tryz.prog 65 p 1 = dropCells 1 p := by kernel_rfl
theorem fa65_2 (p : AVal) : afieldAddr Tryz.prog 65 p 2 = dropCells 2 p := by kernel_rfl
theorem ld63 (h : AHeap) (p : AVal) : aload Tryz.prog h 63 p = loadA h false 1 p := by kernel_rfl
theorem ix25 (x : AVal) (k : IntKind) (i : Int) : aindexAddr Tryz.prog 25 x (.int k i) = indexAddrA 3 x i := by kernel_rfl
theorem ld65 (h : AHeap) (p : AVal) : aload Tryz.prog h 65 p = loadA h true 3 p := by kernel_rfl
theorem ze65 : zeroA Tryz.prog 65 = some (.agg [.int .i64 0, .nilSl, .nilSl]) := by kernel_rfl
theorem st65 (h : AHeap) (p v : AVal) : astore Tryz.prog h 65 p v = storeA h 3 p v := by kernel_rfl
theorem own_parse_go_222 : Cp.own "parse.go:222" = false := by kernel_rfl
theorem nc_parse_go_221 : Cp.cbox "parse.go:221" = false := by kernel_rfl
theorem own_parse_go_221 : Cp.own "parse.go:221" = false := by kernel_rfl
theorem ld27 (h : AHeap) (p : AVal) : aload Tryz.prog h 27 p = loadA h true 5 p := by kernel_rfl
theorem bu30 (parts : List (Nat × AVal)) : abuild Tryz.prog 30 parts = ((fillA ([(0, 1), (1, 1)].toArray[·]?) [.int .i64 0, .int .i64 0] parts).bind fun c => some (.agg c)) := by kernel_rfl
theorem st27 (h : AHeap) (p v : AVal) : astore Tryz.prog h 27 p v = storeA h 5 p v := by kernel_rfl
theorem st30 (h : AHeap) (p v : AVal) : astore Tryz.prog h 30 p v = storeA h 2 p v := by kernel_rfl
theorem bu27 (parts : List (Nat × AVal)) : abuild Tryz.prog 27 parts = ((fillA ([(0, 1), (1, 1), (2, 1), (3, 1), (4, 1)].toArray[·]?) [.nilSl, .str [], .nilPtr, .bool false, .nilSl] parts).bind fun c => some (.agg c)) := by kernel_rfl
theorem ld30 (h : AHeap) (p : AVal) : aload Tryz.prog h 30 p = loadA h true 2 p := by kernel_rfl
theorem fa30_0 (p : AVal) : afieldAddr Tryz.prog 30 p 0 = dropCells 0 p := by kernel_rfl
theorem ld28 (h : AHeap) (p : AVal) : aload Tryz.prog h 28 p = loadA h false 1 p := by kernel_rfl
theorem ze27 : zeroA Tryz.prog 27 = some (.agg [.nilSl, .str [], .nilPtr, .bool false, .nilSl]) := by kernel_rfl
theorem own_parse_go_236 : Cp.own "parse.go:236" = false := by kernel_rfl
theorem ze30 : zeroA Tryz.prog 30 = some (.agg [.int .i64 0, .int .i64 0]) := by kernel_rfl
theorem own_parse_go_232 : Cp.own "parse.go:232" = false := by kernel_rfl
theorem own_parse_go_231 : Cp.own "parse.go:231" = false := by kernel_rfl
end TyX
end Go.Proofs.Q.Par

