import Derived.Test.YthfbbjoaidajfaaGreatDoorParSaTypes
import Derived.Test.YthfbbjoaidajfaaGreatDoorAmPure
set_option linter.unusedVariables false
set_option linter.unusedSimpArgs false
set_option linter.unusedSimpArgs false
set_option linter.unusedVariables false
set_option maxRecDepth 100000
namespace Go.Proofs.Q.Par
open Go Go.Am Go.Proofs
namespace TyP
theorem fa97_0 (p : AVal) : afieldAddr Tryz.prog 97 p 0 = dropCells 0 p := by kernel_rfl
theorem ld38 (h : AHeap) (p : AVal) : aload Tryz.prog h 38 p = loadA h false 1 p := by kernel_rfl
theorem fa97_1 (p : AVal) : afieldAddr Tryz.prog 97 p 1 = dropCells 1 p := by kernel_rfl
theorem ld3 (h : AHeap) (p : AVal) : aload Tryz.prog h 3 p = loadA h false 1 p := by kernel_rfl
theorem ix38 (x : AVal) (k : IntKind) (i : Int) : aindexAddr Tryz.prog 38 x (.int k i) = indexAddrA 3 x i := by kernel_rfl
theorem ld42 (h : AHeap) (p : AVal) : aload Tryz.prog h 42 p = loadA h true 3 p := by kernel_rfl
theorem st42 (h : AHeap) (p v : AVal) : astore Tryz.prog h 42 p v = storeA h 3 p v := by kernel_rfl
theorem ze42 : zeroA Tryz.prog 42 = some (.agg [.int .i64 0, .str [], .int .i64 0]) := by kernel_rfl
theorem own_parse_go_18 : Cp.own "parse.go:18" = false := by kernel_rfl
theorem bu30 (parts : List (Nat × AVal)) : abuild Tryz.prog 30 parts = ((fillA ([(0, 1), (1, 1)].toArray[·]?) [.int .i64 0, .int .i64 0] parts).bind fun c => some (.agg c)) := by kernel_rfl
theorem fa42_0 (p : AVal) : afieldAddr Tryz.prog 42 p 0 = dropCells 0 p := by kernel_rfl
theorem fa42_1 (p : AVal) : afieldAddr Tryz.prog 42 p 1 = dropCells 1 p := by kernel_rfl
theorem ld9 (h : AHeap) (p : AVal) : aload Tryz.prog h 9 p = loadA h false 1 p := by kernel_rfl
theorem own_parse_go_25 : Cp.own "parse.go:25" = false := by kernel_rfl
theorem ix52 (x : AVal) (k : IntKind) (i : Int) : aindexAddr Tryz.prog 52 x (.int k i) = indexAddrA 1 x i := by kernel_rfl
theorem un52 : Tryz.prog.underlying 52 = some (.slice 9) := by kernel_rfl
theorem st3 (h : AHeap) (p v : AVal) : astore Tryz.prog h 3 p v = storeA h 1 p v := by kernel_rfl
theorem own_parse_go_41 : Cp.own "parse.go:41" = false := by kernel_rfl
theorem own_parse_go_49 : Cp.own "parse.go:49" = false := by kernel_rfl
theorem un23 : Tryz.prog.underlying 23 = some (.slice 45) := by kernel_rfl
theorem sa23 (h : AHeap) (x : AVal) (lo hi mx : Option AVal) (hx : ∀ s, x ≠ .str s) : aslice Tryz.prog h 23 x lo hi mx = sliceA 2 x lo hi mx := by
  cases x with
  | str s => exact absurd rfl (hx s)
  | _ => kernel_rfl
theorem un25 : Tryz.prog.underlying 25 = some (.slice 65) := by kernel_rfl
theorem sa25 (h : AHeap) (x : AVal) (lo hi mx : Option AVal) (hx : ∀ s, x ≠ .str s) : aslice Tryz.prog h 25 x lo hi mx = sliceA 3 x lo hi mx := by
  cases x with
  | str s => exact absurd rfl (hx s)
  | _ => kernel_rfl
theorem un63 : Tryz.prog.underlying 63 = some (.slice 52) := by kernel_rfl
theorem sa63 (h : AHeap) (x : AVal) (lo hi mx : Option AVal) (hx : ∀ s, x ≠ .str s) : aslice Tryz.prog h 63 x lo hi mx = sliceA 1 x lo hi mx := by
  cases x with
  | str s => exact absurd rfl (hx s)
  | _ => kernel_rfl
theorem sa52 (h : AHeap) (x : AVal) (lo hi mx : Option AVal) (hx : ∀ s, x ≠ .str s) : aslice Tryz.prog h 52 x lo hi mx = sliceA 1 x lo hi mx := by
  cases x with
  | str s => exact absurd rfl (hx s)
  | _ => kernel_rfl
theorem un48 : Tryz.prog.underlying 48 = some (.slice 47) := by kernel_rfl
theorem sa48 (h : AHeap) (x : AVal) (lo hi mx : Option AVal) (hx : ∀ s, x ≠ .str s) : aslice Tryz.prog h 48 x lo hi mx = sliceA 3 x lo hi mx := by
  cases x with
  | str s => exact absurd rfl (hx s)
  | _ => kernel_rfl
theorem ap52 (h : AHeap) (s x : AVal) : aappend Tryz.prog false h [52, 52] [s, x] = appendA false h 1 16 s x := by kernel_rfl
theorem own_parse_go_61 : Cp.own "parse.go:61" = false := by kernel_rfl
theorem own_parse_go_60 : Cp.own "parse.go:60" = false := by kernel_rfl
theorem own_parse_go_59 : Cp.own "parse.go:59" = false := by kernel_rfl
theorem own_parse_go_72 : Cp.own "parse.go:72" = false := by kernel_rfl
theorem own_parse_go_70 : Cp.own "parse.go:70" = false := by kernel_rfl
theorem own_parse_go_157 : Cp.own "parse.go:157" = false := by kernel_rfl
theorem own_parse_go_154 : Cp.own "parse.go:154" = false := by kernel_rfl
theorem ze52 : zeroA Tryz.prog 52 = some (.nilSl) := by kernel_rfl
theorem ap63 (h : AHeap) (s x : AVal) : aappend Tryz.prog false h [63, 63] [s, x] = appendA false h 1 24 s x := by kernel_rfl
theorem bu65 (parts : List (Nat × AVal)) : abuild Tryz.prog 65 parts = ((fillA ([(0, 1), (1, 1), (2, 1)].toArray[·]?) [.int .i64 0, .nilSl, .nilSl] parts).bind fun c => some (.agg c)) := by kernel_rfl
theorem st65 (h : AHeap) (p v : AVal) : astore Tryz.prog h 65 p v = storeA h 3 p v := by kernel_rfl
theorem ld65 (h : AHeap) (p : AVal) : aload Tryz.prog h 65 p = loadA h true 3 p := by kernel_rfl
theorem own_parse_go_175 : Cp.own "parse.go:175" = false := by kernel_rfl
theorem ze65 : zeroA Tryz.prog 65 = some (.agg [.int .i64 0, .nilSl, .nilSl]) := by kernel_rfl
theorem own_parse_go_174 : Cp.own "parse.go:174" = false := by kernel_rfl
theorem own_parse_go_173 : Cp.own "parse.go:173" = false := by kernel_rfl
theorem own_parse_go_167 : Cp.own "parse.go:167" = false := by kernel_rfl
theorem own_parse_go_165 : Cp.own "parse.go:165" = false := by kernel_rfl
theorem own_parse_go_163 : Cp.own "parse.go:163" = false := by kernel_rfl
theorem ap25 (h : AHeap) (s x : AVal) : aappend Tryz.prog false h [25, 25] [s, x] = appendA false h 3 56 s x := by kernel_rfl
theorem st45 (h : AHeap) (p v : AVal) : astore Tryz.prog h 45 p v = storeA h 2 p v := by kernel_rfl
theorem own_parse_go_90 : Cp.own "parse.go:90" = false := by kernel_rfl
theorem own_parse_go_88 : Cp.own "parse.go:88" = false := by kernel_rfl
theorem own_parse_go_85 : Cp.own "parse.go:85" = false := by kernel_rfl
theorem own_parse_go_80 : Cp.own "parse.go:80" = false := by kernel_rfl
theorem ze45 : zeroA Tryz.prog 45 = some (.agg [.int .i64 0, .str []]) := by kernel_rfl
theorem own_parse_go_76 : Cp.own "parse.go:76" = false := by kernel_rfl
theorem ap23 (h : AHeap) (s x : AVal) : aappend Tryz.prog false h [23, 23] [s, x] = appendA false h 2 24 s x := by kernel_rfl
theorem st47 (h : AHeap) (p v : AVal) : astore Tryz.prog h 47 p v = storeA h 3 p v := by kernel_rfl
theorem neqe131 (i : Nat) (h : AHeap) (a : Bool) : abin Cp .neq 131 (.tmp i) (.const .nilIface) h (errA 202 a) .nilI = some (.bool a) := by cases a <;> kernel_rfl
theorem own_parse_go_102 : Cp.own "parse.go:102" = false := by kernel_rfl
theorem own_parse_go_99 : Cp.own "parse.go:99" = false := by kernel_rfl
theorem ze47 : zeroA Tryz.prog 47 = some (.agg [.bool false, .str [], .int .i64 0]) := by kernel_rfl
theorem own_parse_go_94 : Cp.own "parse.go:94" = false := by kernel_rfl
theorem ap48 (h : AHeap) (s x : AVal) : aappend Tryz.prog false h [48, 48] [s, x] = appendA false h 3 32 s x := by kernel_rfl
theorem own_parse_go_123 : Cp.own "parse.go:123" = false := by kernel_rfl
theorem fa50_5 (p : AVal) : afieldAddr Tryz.prog 50 p 5 = dropCells 5 p := by kernel_rfl
theorem st48 (h : AHeap) (p v : AVal) : astore Tryz.prog h 48 p v = storeA h 1 p v := by kernel_rfl
theorem own_parse_go_121 : Cp.own "parse.go:121" = false := by kernel_rfl
theorem own_parse_go_118 : Cp.own "parse.go:118" = false := by kernel_rfl
theorem own_parse_go_116 : Cp.own "parse.go:116" = false := by kernel_rfl
theorem bu50 (parts : List (Nat × AVal)) : abuild Tryz.prog 50 parts = ((fillA ([(0, 1), (1, 1), (2, 1), (3, 1), (4, 1), (5, 1)].toArray[·]?) [.int .i64 0, .nilPtr, .nilPtr, .str [], .int .i64 0, .nilSl] parts).bind fun c => some (.agg c)) := by kernel_rfl
theorem nc_parse_go_115 : Cp.cbox "parse.go:115" = false := by kernel_rfl
theorem own_parse_go_115 : Cp.own "parse.go:115" = false := by kernel_rfl
theorem cb_parse_go_148 : Cp.cbox "parse.go:148" = true := by kernel_rfl
theorem cb_parse_go_143 : Cp.cbox "parse.go:143" = true := by kernel_rfl
theorem cb_parse_go_130 : Cp.cbox "parse.go:130" = true := by kernel_rfl
theorem own_parse_go_142 : Cp.own "parse.go:142" = false := by kernel_rfl
theorem ld95 (h : AHeap) (p : AVal) : aload Tryz.prog h 95 p = loadA h false 1 p := by kernel_rfl
theorem own_parse_go_133 : Cp.own "parse.go:133" = false := by kernel_rfl
theorem own_parse_go_128 : Cp.own "parse.go:128" = false := by kernel_rfl
end TyP
end Go.Proofs.Q.Par

