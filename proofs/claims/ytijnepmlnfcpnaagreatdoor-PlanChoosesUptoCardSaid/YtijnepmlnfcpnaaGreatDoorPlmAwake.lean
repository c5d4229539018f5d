/-
  PLAN (aa): awake of chapter 19, as closed runs in pieces (printed by tools/aw20a.lean, pr20.lean).
-/
import Derived.Test.YtijnepmlnfcpnaaGreatDoorPlmCfg
import Derived.Test.YtijnepmlnfcpnaaGreatDoorAmLimit
import Derived.Test.YtijnepmlnfcpnaaGreatDoorAmTable
set_option linter.unusedVariables false
set_option linter.unusedSimpArgs false
set_option linter.unusedSimpArgs false
set_option maxRecDepth 100000
namespace Go.Proofs.Plm
open Go Go.Am Go.Proofs
def t0 : List Ans := []
theorem t0_good : AllGood Cl t0 := .nil
def k0 : Ans := ⟨121, [.str [83, 69, 76, 69, 67, 84]], .bool true⟩
theorem k0_good : k0.Good Cl := Ans.good_of t0_good 40 (by kernel_rfl) (by kernel_rfl)
def k1 : Ans := ⟨121, [.str [97]], .bool false⟩
theorem k1_good : k1.Good Cl := Ans.good_of t0_good 40 (by kernel_rfl) (by kernel_rfl)
def k2 : Ans := ⟨121, [.str [67, 79, 85, 78, 84]], .bool true⟩
theorem k2_good : k2.Good Cl := Ans.good_of t0_good 40 (by kernel_rfl) (by kernel_rfl)
def k3 : Ans := ⟨121, [.str [70, 82, 79, 77]], .bool true⟩
theorem k3_good : k3.Good Cl := Ans.good_of t0_good 40 (by kernel_rfl) (by kernel_rfl)
def k4 : Ans := ⟨121, [.str [102, 97, 99, 116, 115]], .bool false⟩
theorem k4_good : k4.Good Cl := Ans.good_of t0_good 40 (by kernel_rfl) (by kernel_rfl)
def k5 : Ans := ⟨121, [.str [71, 82, 79, 85, 80]], .bool true⟩
theorem k5_good : k5.Good Cl := Ans.good_of t0_good 40 (by kernel_rfl) (by kernel_rfl)
def k6 : Ans := ⟨121, [.str [66, 89]], .bool true⟩
theorem k6_good : k6.Good Cl := Ans.good_of t0_good 40 (by kernel_rfl) (by kernel_rfl)
def t1 : List Ans := [k0, k1, k2, k3, k4, k5, k6] ++ t0
theorem t1_good : AllGood Cl t1 := .cons k0_good (.cons k1_good (.cons k2_good (.cons k3_good (.cons k4_good (.cons k5_good (.cons k6_good (t0_good)))))))
def p0 : Ans := ⟨15, [.str [83, 69, 76, 69, 67, 84, 32, 97, 44, 32, 67, 79, 85, 78, 84, 40, 42, 41, 32, 70, 82, 79, 77, 32, 102, 97, 99, 116, 115, 32, 71, 82, 79, 85, 80, 32, 66, 89, 32, 97]], .tup [.agg [.lst [.int .i64 1, .str [97], .int .i64 2, .str []] 2 .full, .str [102, 97, 99, 116, 115], .nilPtr, .bool true, .lst [.int .i64 1, .lst [.str [97]] 1 .full, .nilSl] 1 .full], .agg [.int .i64 0, .int .i64 0]]⟩
theorem p0_good : p0.Good Cl := Ans.good_of t1_good 60 (by kernel_rfl) (by kernel_rfl)
def b0 : Ans := ⟨10, [.agg [.lst [.str [97], .str [98], .str [99]] 3 .full, .lst [.str [109], .str [110]] 2 .full], .agg [.lst [.int .i64 1, .str [97], .int .i64 2, .str []] 2 .full, .str [102, 97, 99, 116, 115], .nilPtr, .bool true, .lst [.int .i64 1, .lst [.str [97]] 1 .full, .nilSl] 1 .full]], .tup [.agg [.lst [.int .i64 1, .int .i64 0, .int .i64 2, .int .i64 0] 2 .unk, .lst [.str [97], .str [67, 79, 85, 78, 84, 40, 42, 41]] 2 .unk, .nilPtr, .lst [.int .i64 1] 1 .full], .int .i64 0]⟩
theorem b0_good : b0.Good Cl := Ans.good_of t1_good 60 (by kernel_rfl) (by kernel_rfl)
def v0 : Ans := ⟨80, [], .lst [.int .i64 7, .int .i64 2, .int .i64 9, .int .i64 50, .int .i64 0, .int .i64 0, .int .i64 3, .int .i64 2, .int .i64 9, .int .i64 20, .int .i64 0, .int .i64 0, .int .i64 1, .int .i64 1, .int .i64 9, .int .i64 5, .int .i64 0, .int .i64 0] 3 .full⟩
theorem v0_good : v0.Good Cl := Ans.good_of t1_good 60 (by kernel_rfl) (by kernel_rfl)
def c0 : Ans := ⟨26, [.agg [.lst [.int .i64 1, .int .i64 0, .int .i64 2, .int .i64 0] 2 .unk, .lst [.str [97], .str [67, 79, 85, 78, 84, 40, 42, 41]] 2 .unk, .nilPtr, .lst [.int .i64 1] 1 .full], .lst [.int .i64 7, .int .i64 2, .int .i64 9, .int .i64 50, .int .i64 0, .int .i64 0, .int .i64 3, .int .i64 2, .int .i64 9, .int .i64 20, .int .i64 0, .int .i64 0, .int .i64 1, .int .i64 1, .int .i64 9, .int .i64 5, .int .i64 0, .int .i64 0] 3 .full, .int .i64 9, .int .i64 100], .agg [.bool false, .int .i64 3, .int .i64 20]⟩
theorem c0_good : c0.Good Cl := Ans.good_of t1_good 60 (by kernel_rfl) (by kernel_rfl)
def c1 : Ans := ⟨26, [.agg [.lst [.int .i64 1, .int .i64 0, .int .i64 2, .int .i64 0] 2 .unk, .lst [.str [97], .str [67, 79, 85, 78, 84, 40, 42, 41]] 2 .unk, .nilPtr, .lst [.int .i64 1] 1 .full], .lst [.int .i64 7, .int .i64 2, .int .i64 9, .int .i64 50, .int .i64 0, .int .i64 0, .int .i64 3, .int .i64 2, .int .i64 9, .int .i64 20, .int .i64 0, .int .i64 0, .int .i64 1, .int .i64 1, .int .i64 9, .int .i64 5, .int .i64 0, .int .i64 0] 3 .full, .int .i64 10, .int .i64 100], .agg [.bool true, .int .i64 0, .int .i64 100]⟩
theorem c1_good : c1.Good Cl := Ans.good_of t1_good 60 (by kernel_rfl) (by kernel_rfl)
def x0 : Ans := ⟨29, [.agg [.bool false, .int .i64 3, .int .i64 20]], .str [118, 105, 101, 119, 32, 51, 44, 32, 50, 48]⟩
theorem x0_good : x0.Good Cl := Ans.good_of t1_good 60 (by kernel_rfl) (by kernel_rfl)
def x1 : Ans := ⟨29, [.agg [.bool true, .int .i64 0, .int .i64 100]], .str [97, 108, 108, 32, 102, 97, 99, 116, 115, 44, 32, 49, 48, 48]⟩
theorem x1_good : x1.Good Cl := Ans.good_of t1_good 60 (by kernel_rfl) (by kernel_rfl)
def g0 : Ans := ⟨31, [.int .i64 1, .int .i64 1, .int .i64 6, .lst [.int .i64 7, .int .i64 2, .int .i64 9, .int .i64 50, .int .i64 0, .int .i64 0, .int .i64 3, .int .i64 2, .int .i64 9, .int .i64 20, .int .i64 0, .int .i64 0, .int .i64 1, .int .i64 1, .int .i64 9, .int .i64 5, .int .i64 0, .int .i64 0] 3 .full, .int .i64 9, .int .i64 100], .int .i64 14⟩
theorem g0_good : g0.Good Cl := Ans.good_of t1_good 60 (by kernel_rfl) (by kernel_rfl)
def t2 : List Ans := [p0, b0, v0, c0, c1, x0, x1, g0] ++ t1
theorem t2_good : AllGood Cl t2 := .cons p0_good (.cons b0_good (.cons v0_good (.cons c0_good (.cons c1_good (.cons x0_good (.cons x1_good (.cons g0_good (t1_good))))))))
theorem awake_good : (⟨25, [], .bool true⟩ : Ans).Good Cl := Ans.good_of t2_good 60 (by kernel_rfl) (by kernel_rfl)
theorem awake_run (h : AHeap) : run Cl 25 [] h = some (.ret (.bool true), h) := by
  obtain ⟨n, hn⟩ := awake_good
  exact run_of (hn h)
end Go.Proofs.Plm
