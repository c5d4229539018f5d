import Derived.Test.YthfbbjoaidajfaaGreatDoorParCfg
import Derived.Test.YthfbbjoaidajfaaGreatDoorAmLimit
import Derived.Test.YthfbbjoaidajfaaGreatDoorAmTable
set_option linter.unusedVariables false
set_option linter.unusedSimpArgs false
set_option linter.unusedSimpArgs false
set_option maxRecDepth 100000
namespace Go.Proofs.Q.Par
open Go Go.Am Go.Proofs
def t0 : List Ans := []
theorem t0_good : AllGood Cp t0 := .nil
def k0 : Ans := ⟨61, [.str [115, 101, 108, 101, 99, 116]], .bool true⟩
theorem k0_good : k0.Good Cp := Ans.good_of t0_good 40 (by kernel_rfl) (by kernel_rfl)
def k1 : Ans := ⟨61, [.str [97]], .bool false⟩
theorem k1_good : k1.Good Cp := Ans.good_of t0_good 40 (by kernel_rfl) (by kernel_rfl)
def k2 : Ans := ⟨61, [.str [99, 111, 117, 110, 116]], .bool true⟩
theorem k2_good : k2.Good Cp := Ans.good_of t0_good 40 (by kernel_rfl) (by kernel_rfl)
def k3 : Ans := ⟨61, [.str [102, 114, 111, 109]], .bool true⟩
theorem k3_good : k3.Good Cp := Ans.good_of t0_good 40 (by kernel_rfl) (by kernel_rfl)
def k4 : Ans := ⟨61, [.str [102, 97, 99, 116, 115]], .bool false⟩
theorem k4_good : k4.Good Cp := Ans.good_of t0_good 40 (by kernel_rfl) (by kernel_rfl)
def k5 : Ans := ⟨61, [.str [119, 104, 101, 114, 101]], .bool true⟩
theorem k5_good : k5.Good Cp := Ans.good_of t0_good 40 (by kernel_rfl) (by kernel_rfl)
def k6 : Ans := ⟨61, [.str [103, 114, 111, 117, 112]], .bool true⟩
theorem k6_good : k6.Good Cp := Ans.good_of t0_good 40 (by kernel_rfl) (by kernel_rfl)
def k7 : Ans := ⟨61, [.str [98, 121]], .bool true⟩
theorem k7_good : k7.Good Cp := Ans.good_of t0_good 40 (by kernel_rfl) (by kernel_rfl)
def k8 : Ans := ⟨61, [.str [83, 69, 76, 69, 67, 84]], .bool true⟩
theorem k8_good : k8.Good Cp := Ans.good_of t0_good 40 (by kernel_rfl) (by kernel_rfl)
def k9 : Ans := ⟨61, [.str [70, 82, 79, 77]], .bool true⟩
theorem k9_good : k9.Good Cp := Ans.good_of t0_good 40 (by kernel_rfl) (by kernel_rfl)
def t1 : List Ans := [k0, k1, k2, k3, k4, k5, k6, k7, k8, k9] ++ t0
theorem t1_good : AllGood Cp t1 := .cons k0_good (.cons k1_good (.cons k2_good (.cons k3_good (.cons k4_good (.cons k5_good (.cons k6_good (.cons k7_good (.cons k8_good (.cons k9_good (t0_good))))))))))
def p0 : Ans := ⟨12, [.str [115, 101, 108, 101, 99, 116, 32, 97, 44, 32, 99, 111, 117, 110, 116, 40, 42, 41, 32, 102, 114, 111, 109, 32, 102, 97, 99, 116, 115, 32, 119, 104, 101, 114, 101, 32, 97, 32, 61, 32, 39, 120, 39, 32, 103, 114, 111, 117, 112, 32, 98, 121, 32, 97]], .tup [.agg [.lst [.int .i64 1, .str [97], .int .i64 2, .str []] 2 .full, .str [102, 97, 99, 116, 115], .iptr [.int .i64 4, .nilPtr, .nilPtr, .str [97], .int .i64 1, .lst [.bool true, .str [120], .int .i64 0] 1 .full], .bool true, .lst [.int .i64 1, .lst [.str [97]] 1 .full, .nilSl] 1 .full], .agg [.int .i64 0, .int .i64 0]]⟩
theorem p0_good : p0.Good Cp := Ans.good_of t1_good 60 (by kernel_rfl) (by kernel_rfl)
def p1 : Ans := ⟨12, [.str [83, 69, 76, 69, 67, 84, 32, 70, 82, 79, 77, 32, 102, 97, 99, 116, 115]], .tup [.agg [.nilSl, .str [], .nilPtr, .bool false, .nilSl], .agg [.int .i64 41, .int .i64 7]]⟩
theorem p1_good : p1.Good Cp := Ans.good_of t1_good 60 (by kernel_rfl) (by kernel_rfl)
def s0 : Ans := ⟨15, [.agg [.lst [.int .i64 1, .str [97], .int .i64 2, .str []] 2 .full, .str [102, 97, 99, 116, 115], .iptr [.int .i64 4, .nilPtr, .nilPtr, .str [97], .int .i64 1, .lst [.bool true, .str [120], .int .i64 0] 1 .full], .bool true, .lst [.int .i64 1, .lst [.str [97]] 1 .full, .nilSl] 1 .full]], .tup [.str [83, 69, 76, 69, 67, 84, 32, 97, 44, 32, 67, 79, 85, 78, 84, 40, 42, 41, 32, 70, 82, 79, 77, 32, 102, 97, 99, 116, 115, 32, 87, 72, 69, 82, 69, 32, 97, 32, 61, 32, 39, 120, 39, 32, 71, 82, 79, 85, 80, 32, 66, 89, 32, 97], .int .i64 0]⟩
theorem s0_good : s0.Good Cp := Ans.good_of t1_good 60 (by kernel_rfl) (by kernel_rfl)
def s1 : Ans := ⟨19, [.agg [.lst [.int .i64 1, .str [97], .int .i64 2, .str []] 2 .full, .str [102, 97, 99, 116, 115], .iptr [.int .i64 4, .nilPtr, .nilPtr, .str [97], .int .i64 1, .lst [.bool true, .str [120], .int .i64 0] 1 .full], .bool true, .lst [.int .i64 1, .lst [.str [97]] 1 .full, .nilSl] 1 .full], .agg [.lst [.int .i64 1, .str [97], .int .i64 2, .str []] 2 .full, .str [102, 97, 99, 116, 115], .iptr [.int .i64 4, .nilPtr, .nilPtr, .str [97], .int .i64 1, .lst [.bool true, .str [120], .int .i64 0] 1 .full], .bool true, .lst [.int .i64 1, .lst [.str [97]] 1 .full, .nilSl] 1 .full]], .bool true⟩
theorem s1_good : s1.Good Cp := Ans.good_of t1_good 60 (by kernel_rfl) (by kernel_rfl)
def s2 : Ans := ⟨17, [.agg [.lst [.int .i64 1, .str [97], .int .i64 2, .str []] 2 .full, .str [102, 97, 99, 116, 115], .iptr [.int .i64 4, .nilPtr, .nilPtr, .str [97], .int .i64 1, .lst [.bool true, .str [120], .int .i64 0] 1 .full], .bool true, .lst [.int .i64 1, .lst [.str [97]] 1 .full, .nilSl] 1 .full]], .bool true⟩
theorem s2_good : s2.Good Cp := Ans.good_of t1_good 60 (by kernel_rfl) (by kernel_rfl)
def t2 : List Ans := [p0, p1, s0, s1, s2] ++ t1
theorem t2_good : AllGood Cp t2 := .cons p0_good (.cons p1_good (.cons s0_good (.cons s1_good (.cons s2_good (t1_good)))))
theorem awake_good : (⟨11, [], .bool true⟩ : Ans).Good Cp := Ans.good_of t2_good 60 (by kernel_rfl) (by kernel_rfl)
theorem awake_run (h : AHeap) : run Cp 11 [] h = some (.ret (.bool true), h) := by
  obtain ⟨n, hn⟩ := awake_good
  exact run_of (hn h)
end Go.Proofs.Q.Par

