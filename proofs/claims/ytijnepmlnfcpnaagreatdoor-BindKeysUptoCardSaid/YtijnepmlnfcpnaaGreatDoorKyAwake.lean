/-
  BIND: awake of chapter 12, as closed runs in pieces.
-/
import Derived.Test.YtijnepmlnfcpnaaGreatDoorKyCfg
import Derived.Test.YtijnepmlnfcpnaaGreatDoorAmLimit
import Derived.Test.YtijnepmlnfcpnaaGreatDoorAmTable
set_option linter.unusedVariables false
set_option linter.unusedSimpArgs false
set_option linter.unusedSimpArgs false
set_option maxRecDepth 100000
namespace Go.Proofs.Ky
open Go Go.Am Go.Proofs
def t0 : List Ans := []
theorem t0_good : AllGood Cl t0 := .nil
def k0 : Ans := ⟨121, [.str [83, 69, 76, 69, 67, 84]], .bool true⟩
theorem k0_good : k0.Good Cl := Ans.good_of t0_good 40 (by kernel_rfl) (by kernel_rfl)
def k1 : Ans := ⟨121, [.str [98]], .bool false⟩
theorem k1_good : k1.Good Cl := Ans.good_of t0_good 40 (by kernel_rfl) (by kernel_rfl)
def k2 : Ans := ⟨121, [.str [83, 85, 77]], .bool true⟩
theorem k2_good : k2.Good Cl := Ans.good_of t0_good 40 (by kernel_rfl) (by kernel_rfl)
def k3 : Ans := ⟨121, [.str [110]], .bool false⟩
theorem k3_good : k3.Good Cl := Ans.good_of t0_good 40 (by kernel_rfl) (by kernel_rfl)
def k4 : Ans := ⟨121, [.str [70, 82, 79, 77]], .bool true⟩
theorem k4_good : k4.Good Cl := Ans.good_of t0_good 40 (by kernel_rfl) (by kernel_rfl)
def k5 : Ans := ⟨121, [.str [102, 97, 99, 116, 115]], .bool false⟩
theorem k5_good : k5.Good Cl := Ans.good_of t0_good 40 (by kernel_rfl) (by kernel_rfl)
def k6 : Ans := ⟨121, [.str [87, 72, 69, 82, 69]], .bool true⟩
theorem k6_good : k6.Good Cl := Ans.good_of t0_good 40 (by kernel_rfl) (by kernel_rfl)
def k7 : Ans := ⟨121, [.str [97]], .bool false⟩
theorem k7_good : k7.Good Cl := Ans.good_of t0_good 40 (by kernel_rfl) (by kernel_rfl)
def k8 : Ans := ⟨121, [.str [71, 82, 79, 85, 80]], .bool true⟩
theorem k8_good : k8.Good Cl := Ans.good_of t0_good 40 (by kernel_rfl) (by kernel_rfl)
def k9 : Ans := ⟨121, [.str [66, 89]], .bool true⟩
theorem k9_good : k9.Good Cl := Ans.good_of t0_good 40 (by kernel_rfl) (by kernel_rfl)
def t1 : List Ans := [k0, k1, k2, k3, k4, k5, k6, k7, k8, k9] ++ t0
theorem t1_good : AllGood Cl t1 := .cons k0_good (.cons k1_good (.cons k2_good (.cons k3_good (.cons k4_good (.cons k5_good (.cons k6_good (.cons k7_good (.cons k8_good (.cons k9_good (t0_good))))))))))
def p0 : Ans := ⟨15, [.str [83, 69, 76, 69, 67, 84, 32, 98, 44, 32, 83, 85, 77, 40, 110, 41, 32, 70, 82, 79, 77, 32, 102, 97, 99, 116, 115, 32, 87, 72, 69, 82, 69, 32, 97, 32, 61, 32, 39, 120, 39, 32, 71, 82, 79, 85, 80, 32, 66, 89, 32, 98]], .tup [.agg [.lst [.int .i64 1, .str [98], .int .i64 3, .str [110]] 2 .full, .str [102, 97, 99, 116, 115], .iptr [.int .i64 4, .nilPtr, .nilPtr, .str [97], .int .i64 1, .lst [.bool true, .str [120], .int .i64 0] 1 .full], .bool true, .lst [.int .i64 1, .lst [.str [98]] 1 .full, .nilSl] 1 .full], .agg [.int .i64 0, .int .i64 0]]⟩
theorem p0_good : p0.Good Cl := Ans.good_of t1_good 60 (by kernel_rfl) (by kernel_rfl)
def p1 : Ans := ⟨15, [.str [83, 69, 76, 69, 67, 84, 32, 97, 32, 70, 82, 79, 77, 32, 102, 97, 99, 116, 115]], .tup [.agg [.lst [.int .i64 1, .str [97]] 1 .full, .str [102, 97, 99, 116, 115], .nilPtr, .bool false, .nilSl], .agg [.int .i64 0, .int .i64 0]]⟩
theorem p1_good : p1.Good Cl := Ans.good_of t1_good 60 (by kernel_rfl) (by kernel_rfl)
def b0 : Ans := ⟨10, [.agg [.lst [.str [97], .str [98]] 2 .full, .lst [.str [109], .str [110]] 2 .full], .agg [.lst [.int .i64 1, .str [98], .int .i64 3, .str [110]] 2 .full, .str [102, 97, 99, 116, 115], .iptr [.int .i64 4, .nilPtr, .nilPtr, .str [97], .int .i64 1, .lst [.bool true, .str [120], .int .i64 0] 1 .full], .bool true, .lst [.int .i64 1, .lst [.str [98]] 1 .full, .nilSl] 1 .full]], .tup [.agg [.lst [.int .i64 1, .int .i64 1, .int .i64 3, .int .i64 1] 2 .unk, .lst [.str [98], .str [83, 85, 77, 40, 110, 41]] 2 .unk, .iptr [.int .i64 4, .nilPtr, .nilPtr, .bool false, .int .i64 0, .int .i64 1, .lst [.str [120]] 1 .unk, .nilSl], .lst [.int .i64 2] 1 .full], .int .i64 0]⟩
theorem b0_good : b0.Good Cl := Ans.good_of t1_good 60 (by kernel_rfl) (by kernel_rfl)
def b1 : Ans := ⟨10, [.agg [.lst [.str [97], .str [98]] 2 .full, .lst [.str [109], .str [110]] 2 .full], .agg [.lst [.int .i64 1, .str [97]] 1 .full, .str [102, 97, 99, 116, 115], .nilPtr, .bool false, .nilSl]], .tup [.agg [.nilSl, .nilSl, .nilPtr, .nilSl], .int .i64 44]⟩
theorem b1_good : b1.Good Cl := Ans.good_of t1_good 60 (by kernel_rfl) (by kernel_rfl)
def y0 : Ans := ⟨17, [.agg [.lst [.int .i64 1, .int .i64 1, .int .i64 3, .int .i64 1] 2 .unk, .lst [.str [98], .str [83, 85, 77, 40, 110, 41]] 2 .unk, .iptr [.int .i64 4, .nilPtr, .nilPtr, .bool false, .int .i64 0, .int .i64 1, .lst [.str [120]] 1 .unk, .nilSl], .lst [.int .i64 2] 1 .full]], .str [50, 59, 49, 59, 49, 59, 51, 59, 49, 59, 50, 59, 49, 59, 98, 54, 59, 83, 85, 77, 40, 110, 41, 49, 59, 50, 59, 43, 52, 59, 102, 97, 108, 115, 101, 48, 59, 49, 59, 49, 59, 49, 59, 120, 48, 59, 45, 45]⟩
theorem y0_good : y0.Good Cl := Ans.good_of t1_good 60 (by kernel_rfl) (by kernel_rfl)
def y1 : Ans := ⟨17, [.agg [.nilSl, .nilSl, .nilPtr, .nilSl]], .str [48, 59, 48, 59, 48, 59, 45]⟩
theorem y1_good : y1.Good Cl := Ans.good_of t1_good 60 (by kernel_rfl) (by kernel_rfl)
def c0 : Ans := ⟨12, [.agg [.lst [.str [97], .str [98]] 2 .full, .lst [.str [109], .str [110]] 2 .full]], .int .i64 0⟩
theorem c0_good : c0.Good Cl := Ans.good_of t1_good 60 (by kernel_rfl) (by kernel_rfl)
def t2 : List Ans := [p0, p1, b0, b1, y0, y1, c0] ++ t1
theorem t2_good : AllGood Cl t2 := .cons p0_good (.cons p1_good (.cons b0_good (.cons b1_good (.cons y0_good (.cons y1_good (.cons c0_good (t1_good)))))))
theorem awake_good : (⟨9, [], .bool true⟩ : Ans).Good Cl := Ans.good_of t2_good 60 (by kernel_rfl) (by kernel_rfl)
theorem awake_run (h : AHeap) : run Cl 9 [] h = some (.ret (.bool true), h) := by
  obtain ⟨n, hn⟩ := awake_good
  exact run_of (hn h)
end Go.Proofs.Ky
