/-
  CUBE: closed runs of All's sort, in pieces (printed by a small program).
-/
import Derived.Test.YtgjdlakemaabfaaCubeSortK
set_option linter.unusedVariables false
set_option linter.unusedSimpArgs false
set_option linter.unusedSimpArgs false
set_option linter.unusedVariables false
set_option maxRecDepth 100000
namespace Go.Proofs.Cube
open Go Go.Am Go.Proofs Go.RowKit
def e0_0 : Known := ⟨54, [.sl 0 0 1 1 1 false, .int .i64 0, .int .i64 1, .fn (.func 25) [] []], 0, ints [0], ints [0], .tup []⟩
theorem g0_0 : e0_0.Good Cf 101 := good_of (n := 100) (fn := Try.f54) (body := bodyOf Try.f54) (skip := fun _ => false) (tbl := []) (by intro e he; cases he) rfl rfl rfl rfl rfl (by kernel_rfl) (by kernel_rfl) (by kernel_rfl)
def e1_0 : Known := ⟨54, [.sl 0 0 1 2 2 false, .int .i64 0, .int .i64 2, .fn (.func 25) [] []], 0, ints [0, 1], ints [1, 0], .tup []⟩
theorem g1_0 : e1_0.Good Cf 101 := good_of (n := 100) (fn := Try.f54) (body := bodyOf Try.f54) (skip := fun _ => false) (tbl := []) (by intro e he; cases he) rfl rfl rfl rfl rfl (by kernel_rfl) (by kernel_rfl) (by kernel_rfl)
def e2_0 : Known := ⟨54, [.sl 0 0 1 4 4 false, .int .i64 0, .int .i64 4, .fn (.func 25) [] []], 0, ints [0, 1, 2, 3], ints [3, 1, 2, 0], .tup []⟩
theorem g2_0 : e2_0.Good Cf 101 := good_of (n := 100) (fn := Try.f54) (body := bodyOf Try.f54) (skip := fun _ => false) (tbl := []) (by intro e he; cases he) rfl rfl rfl rfl rfl (by kernel_rfl) (by kernel_rfl) (by kernel_rfl)
def e3_0 : Known := ⟨54, [.sl 0 0 1 8 8 false, .int .i64 0, .int .i64 8, .fn (.func 25) [] []], 0, ints [0, 1, 2, 3, 4, 5, 6, 7], ints [7, 3, 5, 6, 1, 2, 4, 0], .tup []⟩
theorem g3_0 : e3_0.Good Cf 101 := good_of (n := 100) (fn := Try.f54) (body := bodyOf Try.f54) (skip := fun _ => false) (tbl := []) (by intro e he; cases he) rfl rfl rfl rfl rfl (by kernel_rfl) (by kernel_rfl) (by kernel_rfl)
def e4_0 : Known := ⟨54, [.sl 0 0 1 16 16 false, .int .i64 0, .int .i64 16, .fn (.func 25) [] []], 0, ints [0, 1, 2, 3, 4, 5, 6, 7, 8, 9, 10, 11, 12, 13, 14, 15], ints [15, 7, 11, 13, 14, 3, 5, 6, 9, 10, 12, 1, 2, 4, 8, 0], .tup []⟩
theorem g4_0 : e4_0.Good Cf 101 := good_of (n := 100) (fn := Try.f54) (body := bodyOf Try.f54) (skip := fun _ => false) (tbl := []) (by intro e he; cases he) rfl rfl rfl rfl rfl (by kernel_rfl) (by kernel_rfl) (by kernel_rfl)
end Go.Proofs.Cube
