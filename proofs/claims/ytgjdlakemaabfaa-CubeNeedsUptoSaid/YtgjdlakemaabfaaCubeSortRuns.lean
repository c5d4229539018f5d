/-
  CUBE: the library's sort of what Children has collected, run for each of the 64 sets (the runs are printed by a small program).
-/
import Derived.Test.YtgjdlakemaabfaaAmTop
import Derived.Test.YtgjdlakemaabfaaCubePar
set_option linter.unusedVariables false
set_option linter.unusedSimpArgs false
set_option maxRecDepth 100000
namespace Go.Proofs.Cube
open Go.RowKit Go.Am

noncomputable def C0 : Cfg := { P := Try.prog, foc := fun _ => false, summ := fun _ => none, glob := fun _ => none, own := fun _ => false }
theorem summ0 : SummOk C0 := fun f s h => by cases h
theorem names : namesOk Try.prog = true := by kernel_rfl

def heap1 (xs : List Int) : AHeap := ⟨fun j => if j = 0 then some (.arr (xs.map (AVal.int .i64))) else none, 1⟩
noncomputable def sortedIs (xs : List Int) : Option (ARes × Option ABlk) := (arun C0 40 32 [.sl 0 0 1 xs.length xs.length true] (heap1 xs)).map fun r => (r.1, r.2.get 0)
theorem run1 : sortedIs (turnedL 1 1) = some (.ret (.tup []), some (.arr ((turnedL 1 1).reverse.map (AVal.int .i64)))) := by kernel_rfl
theorem run2 : sortedIs (turnedL 2 2) = some (.ret (.tup []), some (.arr ((turnedL 2 2).reverse.map (AVal.int .i64)))) := by kernel_rfl
theorem run3 : sortedIs (turnedL 3 3) = some (.ret (.tup []), some (.arr ((turnedL 3 3).reverse.map (AVal.int .i64)))) := by kernel_rfl
theorem run4 : sortedIs (turnedL 4 4) = some (.ret (.tup []), some (.arr ((turnedL 4 4).reverse.map (AVal.int .i64)))) := by kernel_rfl
theorem run5 : sortedIs (turnedL 5 5) = some (.ret (.tup []), some (.arr ((turnedL 5 5).reverse.map (AVal.int .i64)))) := by kernel_rfl
theorem run6 : sortedIs (turnedL 6 6) = some (.ret (.tup []), some (.arr ((turnedL 6 6).reverse.map (AVal.int .i64)))) := by kernel_rfl
theorem run7 : sortedIs (turnedL 7 7) = some (.ret (.tup []), some (.arr ((turnedL 7 7).reverse.map (AVal.int .i64)))) := by kernel_rfl
theorem run8 : sortedIs (turnedL 8 8) = some (.ret (.tup []), some (.arr ((turnedL 8 8).reverse.map (AVal.int .i64)))) := by kernel_rfl
theorem run9 : sortedIs (turnedL 9 9) = some (.ret (.tup []), some (.arr ((turnedL 9 9).reverse.map (AVal.int .i64)))) := by kernel_rfl
theorem run10 : sortedIs (turnedL 10 10) = some (.ret (.tup []), some (.arr ((turnedL 10 10).reverse.map (AVal.int .i64)))) := by kernel_rfl
theorem run11 : sortedIs (turnedL 11 11) = some (.ret (.tup []), some (.arr ((turnedL 11 11).reverse.map (AVal.int .i64)))) := by kernel_rfl
theorem run12 : sortedIs (turnedL 12 12) = some (.ret (.tup []), some (.arr ((turnedL 12 12).reverse.map (AVal.int .i64)))) := by kernel_rfl
theorem run13 : sortedIs (turnedL 13 13) = some (.ret (.tup []), some (.arr ((turnedL 13 13).reverse.map (AVal.int .i64)))) := by kernel_rfl
theorem run14 : sortedIs (turnedL 14 14) = some (.ret (.tup []), some (.arr ((turnedL 14 14).reverse.map (AVal.int .i64)))) := by kernel_rfl
theorem run15 : sortedIs (turnedL 15 15) = some (.ret (.tup []), some (.arr ((turnedL 15 15).reverse.map (AVal.int .i64)))) := by kernel_rfl
theorem run16 : sortedIs (turnedL 16 16) = some (.ret (.tup []), some (.arr ((turnedL 16 16).reverse.map (AVal.int .i64)))) := by kernel_rfl
theorem run17 : sortedIs (turnedL 17 17) = some (.ret (.tup []), some (.arr ((turnedL 17 17).reverse.map (AVal.int .i64)))) := by kernel_rfl
theorem run18 : sortedIs (turnedL 18 18) = some (.ret (.tup []), some (.arr ((turnedL 18 18).reverse.map (AVal.int .i64)))) := by kernel_rfl
theorem run19 : sortedIs (turnedL 19 19) = some (.ret (.tup []), some (.arr ((turnedL 19 19).reverse.map (AVal.int .i64)))) := by kernel_rfl
theorem run20 : sortedIs (turnedL 20 20) = some (.ret (.tup []), some (.arr ((turnedL 20 20).reverse.map (AVal.int .i64)))) := by kernel_rfl
theorem run21 : sortedIs (turnedL 21 21) = some (.ret (.tup []), some (.arr ((turnedL 21 21).reverse.map (AVal.int .i64)))) := by kernel_rfl
theorem run22 : sortedIs (turnedL 22 22) = some (.ret (.tup []), some (.arr ((turnedL 22 22).reverse.map (AVal.int .i64)))) := by kernel_rfl
theorem run23 : sortedIs (turnedL 23 23) = some (.ret (.tup []), some (.arr ((turnedL 23 23).reverse.map (AVal.int .i64)))) := by kernel_rfl
theorem run24 : sortedIs (turnedL 24 24) = some (.ret (.tup []), some (.arr ((turnedL 24 24).reverse.map (AVal.int .i64)))) := by kernel_rfl
theorem run25 : sortedIs (turnedL 25 25) = some (.ret (.tup []), some (.arr ((turnedL 25 25).reverse.map (AVal.int .i64)))) := by kernel_rfl
theorem run26 : sortedIs (turnedL 26 26) = some (.ret (.tup []), some (.arr ((turnedL 26 26).reverse.map (AVal.int .i64)))) := by kernel_rfl
theorem run27 : sortedIs (turnedL 27 27) = some (.ret (.tup []), some (.arr ((turnedL 27 27).reverse.map (AVal.int .i64)))) := by kernel_rfl
theorem run28 : sortedIs (turnedL 28 28) = some (.ret (.tup []), some (.arr ((turnedL 28 28).reverse.map (AVal.int .i64)))) := by kernel_rfl
theorem run29 : sortedIs (turnedL 29 29) = some (.ret (.tup []), some (.arr ((turnedL 29 29).reverse.map (AVal.int .i64)))) := by kernel_rfl
theorem run30 : sortedIs (turnedL 30 30) = some (.ret (.tup []), some (.arr ((turnedL 30 30).reverse.map (AVal.int .i64)))) := by kernel_rfl
theorem run31 : sortedIs (turnedL 31 31) = some (.ret (.tup []), some (.arr ((turnedL 31 31).reverse.map (AVal.int .i64)))) := by kernel_rfl
theorem run32 : sortedIs (turnedL 32 32) = some (.ret (.tup []), some (.arr ((turnedL 32 32).reverse.map (AVal.int .i64)))) := by kernel_rfl
theorem run33 : sortedIs (turnedL 33 33) = some (.ret (.tup []), some (.arr ((turnedL 33 33).reverse.map (AVal.int .i64)))) := by kernel_rfl
theorem run34 : sortedIs (turnedL 34 34) = some (.ret (.tup []), some (.arr ((turnedL 34 34).reverse.map (AVal.int .i64)))) := by kernel_rfl
theorem run35 : sortedIs (turnedL 35 35) = some (.ret (.tup []), some (.arr ((turnedL 35 35).reverse.map (AVal.int .i64)))) := by kernel_rfl
theorem run36 : sortedIs (turnedL 36 36) = some (.ret (.tup []), some (.arr ((turnedL 36 36).reverse.map (AVal.int .i64)))) := by kernel_rfl
theorem run37 : sortedIs (turnedL 37 37) = some (.ret (.tup []), some (.arr ((turnedL 37 37).reverse.map (AVal.int .i64)))) := by kernel_rfl
theorem run38 : sortedIs (turnedL 38 38) = some (.ret (.tup []), some (.arr ((turnedL 38 38).reverse.map (AVal.int .i64)))) := by kernel_rfl
theorem run39 : sortedIs (turnedL 39 39) = some (.ret (.tup []), some (.arr ((turnedL 39 39).reverse.map (AVal.int .i64)))) := by kernel_rfl
theorem run40 : sortedIs (turnedL 40 40) = some (.ret (.tup []), some (.arr ((turnedL 40 40).reverse.map (AVal.int .i64)))) := by kernel_rfl
theorem run41 : sortedIs (turnedL 41 41) = some (.ret (.tup []), some (.arr ((turnedL 41 41).reverse.map (AVal.int .i64)))) := by kernel_rfl
theorem run42 : sortedIs (turnedL 42 42) = some (.ret (.tup []), some (.arr ((turnedL 42 42).reverse.map (AVal.int .i64)))) := by kernel_rfl
theorem run43 : sortedIs (turnedL 43 43) = some (.ret (.tup []), some (.arr ((turnedL 43 43).reverse.map (AVal.int .i64)))) := by kernel_rfl
theorem run44 : sortedIs (turnedL 44 44) = some (.ret (.tup []), some (.arr ((turnedL 44 44).reverse.map (AVal.int .i64)))) := by kernel_rfl
theorem run45 : sortedIs (turnedL 45 45) = some (.ret (.tup []), some (.arr ((turnedL 45 45).reverse.map (AVal.int .i64)))) := by kernel_rfl
theorem run46 : sortedIs (turnedL 46 46) = some (.ret (.tup []), some (.arr ((turnedL 46 46).reverse.map (AVal.int .i64)))) := by kernel_rfl
theorem run47 : sortedIs (turnedL 47 47) = some (.ret (.tup []), some (.arr ((turnedL 47 47).reverse.map (AVal.int .i64)))) := by kernel_rfl
theorem run48 : sortedIs (turnedL 48 48) = some (.ret (.tup []), some (.arr ((turnedL 48 48).reverse.map (AVal.int .i64)))) := by kernel_rfl
theorem run49 : sortedIs (turnedL 49 49) = some (.ret (.tup []), some (.arr ((turnedL 49 49).reverse.map (AVal.int .i64)))) := by kernel_rfl
theorem run50 : sortedIs (turnedL 50 50) = some (.ret (.tup []), some (.arr ((turnedL 50 50).reverse.map (AVal.int .i64)))) := by kernel_rfl
theorem run51 : sortedIs (turnedL 51 51) = some (.ret (.tup []), some (.arr ((turnedL 51 51).reverse.map (AVal.int .i64)))) := by kernel_rfl
theorem run52 : sortedIs (turnedL 52 52) = some (.ret (.tup []), some (.arr ((turnedL 52 52).reverse.map (AVal.int .i64)))) := by kernel_rfl
theorem run53 : sortedIs (turnedL 53 53) = some (.ret (.tup []), some (.arr ((turnedL 53 53).reverse.map (AVal.int .i64)))) := by kernel_rfl
theorem run54 : sortedIs (turnedL 54 54) = some (.ret (.tup []), some (.arr ((turnedL 54 54).reverse.map (AVal.int .i64)))) := by kernel_rfl
theorem run55 : sortedIs (turnedL 55 55) = some (.ret (.tup []), some (.arr ((turnedL 55 55).reverse.map (AVal.int .i64)))) := by kernel_rfl
theorem run56 : sortedIs (turnedL 56 56) = some (.ret (.tup []), some (.arr ((turnedL 56 56).reverse.map (AVal.int .i64)))) := by kernel_rfl
theorem run57 : sortedIs (turnedL 57 57) = some (.ret (.tup []), some (.arr ((turnedL 57 57).reverse.map (AVal.int .i64)))) := by kernel_rfl
theorem run58 : sortedIs (turnedL 58 58) = some (.ret (.tup []), some (.arr ((turnedL 58 58).reverse.map (AVal.int .i64)))) := by kernel_rfl
theorem run59 : sortedIs (turnedL 59 59) = some (.ret (.tup []), some (.arr ((turnedL 59 59).reverse.map (AVal.int .i64)))) := by kernel_rfl
theorem run60 : sortedIs (turnedL 60 60) = some (.ret (.tup []), some (.arr ((turnedL 60 60).reverse.map (AVal.int .i64)))) := by kernel_rfl
theorem run61 : sortedIs (turnedL 61 61) = some (.ret (.tup []), some (.arr ((turnedL 61 61).reverse.map (AVal.int .i64)))) := by kernel_rfl
theorem run62 : sortedIs (turnedL 62 62) = some (.ret (.tup []), some (.arr ((turnedL 62 62).reverse.map (AVal.int .i64)))) := by kernel_rfl
theorem run63 : sortedIs (turnedL 63 63) = some (.ret (.tup []), some (.arr ((turnedL 63 63).reverse.map (AVal.int .i64)))) := by kernel_rfl
theorem sorted_at : ∀ {s : Nat}, 0 < s → s < 64 → sortedIs (turnedL s s) = some (.ret (.tup []), some (.arr ((turnedL s s).reverse.map (AVal.int .i64))))
  | 1, _, _ => run1
  | 2, _, _ => run2
  | 3, _, _ => run3
  | 4, _, _ => run4
  | 5, _, _ => run5
  | 6, _, _ => run6
  | 7, _, _ => run7
  | 8, _, _ => run8
  | 9, _, _ => run9
  | 10, _, _ => run10
  | 11, _, _ => run11
  | 12, _, _ => run12
  | 13, _, _ => run13
  | 14, _, _ => run14
  | 15, _, _ => run15
  | 16, _, _ => run16
  | 17, _, _ => run17
  | 18, _, _ => run18
  | 19, _, _ => run19
  | 20, _, _ => run20
  | 21, _, _ => run21
  | 22, _, _ => run22
  | 23, _, _ => run23
  | 24, _, _ => run24
  | 25, _, _ => run25
  | 26, _, _ => run26
  | 27, _, _ => run27
  | 28, _, _ => run28
  | 29, _, _ => run29
  | 30, _, _ => run30
  | 31, _, _ => run31
  | 32, _, _ => run32
  | 33, _, _ => run33
  | 34, _, _ => run34
  | 35, _, _ => run35
  | 36, _, _ => run36
  | 37, _, _ => run37
  | 38, _, _ => run38
  | 39, _, _ => run39
  | 40, _, _ => run40
  | 41, _, _ => run41
  | 42, _, _ => run42
  | 43, _, _ => run43
  | 44, _, _ => run44
  | 45, _, _ => run45
  | 46, _, _ => run46
  | 47, _, _ => run47
  | 48, _, _ => run48
  | 49, _, _ => run49
  | 50, _, _ => run50
  | 51, _, _ => run51
  | 52, _, _ => run52
  | 53, _, _ => run53
  | 54, _, _ => run54
  | 55, _, _ => run55
  | 56, _, _ => run56
  | 57, _, _ => run57
  | 58, _, _ => run58
  | 59, _, _ => run59
  | 60, _, _ => run60
  | 61, _, _ => run61
  | 62, _, _ => run62
  | 63, _, _ => run63
  | 0, h, _ => absurd h (by omega)
  | n + 64, _, h => absurd h (by omega)
end Go.Proofs.Cube
