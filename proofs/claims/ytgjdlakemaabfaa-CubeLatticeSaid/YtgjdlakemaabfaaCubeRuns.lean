/-
  CUBE: closed runs: awake; the list of each set (printed by a small program).
-/
import Derived.Test.YtgjdlakemaabfaaCubeSumm
import Derived.Test.YtgjdlakemaabfaaAmArgs
import Derived.Test.YtgjdlakemaabfaaAmEnds
set_option linter.unusedVariables false
set_option linter.unusedSimpArgs false
set_option linter.unusedSimpArgs false
set_option maxRecDepth 100000
namespace Go.Proofs.Cube
open Go.RowKit Go.Am

def isTrue : Option (ARes × AHeap) → Bool
  | some (.ret (.bool true), _) => true
  | _ => false
theorem awake_closed : isTrue (arun Cf 100 7 [] AHeap.empty) = true := by kernel_rfl
theorem awake_run (h : AHeap) : run Cf 7 [] h = some (.ret (.bool true), h) := by
  have h1 := awake_closed
  cases hr : arun Cf 100 7 [] AHeap.empty with
  | none => rw [hr] at h1; cases h1
  | some q =>
    rw [hr] at h1
    obtain ⟨r, h'⟩ := q
    cases r with
    | pan v => cases h1
    | ret v =>
      have hv : v = .bool true := by
        revert h1
        cases v <;> simp [isTrue]
        rename_i b; cases b <;> simp [isTrue]
      subst hv
      exact run_of ((run_pure 100 7 [] AHeap.empty _ _ rfl hr).2 h)

/-- The dimensions of a set. -/
def dims (x : Nat) : List Nat := (List.range 6).filter fun i => x.testBit i
def natsV (xs : List Nat) : AVal := .lst (xs.map fun i : Nat => AVal.int .i64 (i : Int)) xs.length .unk
theorem list0 (h : AHeap) : run Cf 35 [.int .i64 0] h = some (.ret (natsV (dims 0)), h) := run_of (n := 30) (by kernel_rfl)
theorem list1 (h : AHeap) : run Cf 35 [.int .i64 1] h = some (.ret (natsV (dims 1)), h) := run_of (n := 30) (by kernel_rfl)
theorem list2 (h : AHeap) : run Cf 35 [.int .i64 2] h = some (.ret (natsV (dims 2)), h) := run_of (n := 30) (by kernel_rfl)
theorem list3 (h : AHeap) : run Cf 35 [.int .i64 3] h = some (.ret (natsV (dims 3)), h) := run_of (n := 30) (by kernel_rfl)
theorem list4 (h : AHeap) : run Cf 35 [.int .i64 4] h = some (.ret (natsV (dims 4)), h) := run_of (n := 30) (by kernel_rfl)
theorem list5 (h : AHeap) : run Cf 35 [.int .i64 5] h = some (.ret (natsV (dims 5)), h) := run_of (n := 30) (by kernel_rfl)
theorem list6 (h : AHeap) : run Cf 35 [.int .i64 6] h = some (.ret (natsV (dims 6)), h) := run_of (n := 30) (by kernel_rfl)
theorem list7 (h : AHeap) : run Cf 35 [.int .i64 7] h = some (.ret (natsV (dims 7)), h) := run_of (n := 30) (by kernel_rfl)
theorem list8 (h : AHeap) : run Cf 35 [.int .i64 8] h = some (.ret (natsV (dims 8)), h) := run_of (n := 30) (by kernel_rfl)
theorem list9 (h : AHeap) : run Cf 35 [.int .i64 9] h = some (.ret (natsV (dims 9)), h) := run_of (n := 30) (by kernel_rfl)
theorem list10 (h : AHeap) : run Cf 35 [.int .i64 10] h = some (.ret (natsV (dims 10)), h) := run_of (n := 30) (by kernel_rfl)
theorem list11 (h : AHeap) : run Cf 35 [.int .i64 11] h = some (.ret (natsV (dims 11)), h) := run_of (n := 30) (by kernel_rfl)
theorem list12 (h : AHeap) : run Cf 35 [.int .i64 12] h = some (.ret (natsV (dims 12)), h) := run_of (n := 30) (by kernel_rfl)
theorem list13 (h : AHeap) : run Cf 35 [.int .i64 13] h = some (.ret (natsV (dims 13)), h) := run_of (n := 30) (by kernel_rfl)
theorem list14 (h : AHeap) : run Cf 35 [.int .i64 14] h = some (.ret (natsV (dims 14)), h) := run_of (n := 30) (by kernel_rfl)
theorem list15 (h : AHeap) : run Cf 35 [.int .i64 15] h = some (.ret (natsV (dims 15)), h) := run_of (n := 30) (by kernel_rfl)
theorem list16 (h : AHeap) : run Cf 35 [.int .i64 16] h = some (.ret (natsV (dims 16)), h) := run_of (n := 30) (by kernel_rfl)
theorem list17 (h : AHeap) : run Cf 35 [.int .i64 17] h = some (.ret (natsV (dims 17)), h) := run_of (n := 30) (by kernel_rfl)
theorem list18 (h : AHeap) : run Cf 35 [.int .i64 18] h = some (.ret (natsV (dims 18)), h) := run_of (n := 30) (by kernel_rfl)
theorem list19 (h : AHeap) : run Cf 35 [.int .i64 19] h = some (.ret (natsV (dims 19)), h) := run_of (n := 30) (by kernel_rfl)
theorem list20 (h : AHeap) : run Cf 35 [.int .i64 20] h = some (.ret (natsV (dims 20)), h) := run_of (n := 30) (by kernel_rfl)
theorem list21 (h : AHeap) : run Cf 35 [.int .i64 21] h = some (.ret (natsV (dims 21)), h) := run_of (n := 30) (by kernel_rfl)
theorem list22 (h : AHeap) : run Cf 35 [.int .i64 22] h = some (.ret (natsV (dims 22)), h) := run_of (n := 30) (by kernel_rfl)
theorem list23 (h : AHeap) : run Cf 35 [.int .i64 23] h = some (.ret (natsV (dims 23)), h) := run_of (n := 30) (by kernel_rfl)
theorem list24 (h : AHeap) : run Cf 35 [.int .i64 24] h = some (.ret (natsV (dims 24)), h) := run_of (n := 30) (by kernel_rfl)
theorem list25 (h : AHeap) : run Cf 35 [.int .i64 25] h = some (.ret (natsV (dims 25)), h) := run_of (n := 30) (by kernel_rfl)
theorem list26 (h : AHeap) : run Cf 35 [.int .i64 26] h = some (.ret (natsV (dims 26)), h) := run_of (n := 30) (by kernel_rfl)
theorem list27 (h : AHeap) : run Cf 35 [.int .i64 27] h = some (.ret (natsV (dims 27)), h) := run_of (n := 30) (by kernel_rfl)
theorem list28 (h : AHeap) : run Cf 35 [.int .i64 28] h = some (.ret (natsV (dims 28)), h) := run_of (n := 30) (by kernel_rfl)
theorem list29 (h : AHeap) : run Cf 35 [.int .i64 29] h = some (.ret (natsV (dims 29)), h) := run_of (n := 30) (by kernel_rfl)
theorem list30 (h : AHeap) : run Cf 35 [.int .i64 30] h = some (.ret (natsV (dims 30)), h) := run_of (n := 30) (by kernel_rfl)
theorem list31 (h : AHeap) : run Cf 35 [.int .i64 31] h = some (.ret (natsV (dims 31)), h) := run_of (n := 30) (by kernel_rfl)
theorem list32 (h : AHeap) : run Cf 35 [.int .i64 32] h = some (.ret (natsV (dims 32)), h) := run_of (n := 30) (by kernel_rfl)
theorem list33 (h : AHeap) : run Cf 35 [.int .i64 33] h = some (.ret (natsV (dims 33)), h) := run_of (n := 30) (by kernel_rfl)
theorem list34 (h : AHeap) : run Cf 35 [.int .i64 34] h = some (.ret (natsV (dims 34)), h) := run_of (n := 30) (by kernel_rfl)
theorem list35 (h : AHeap) : run Cf 35 [.int .i64 35] h = some (.ret (natsV (dims 35)), h) := run_of (n := 30) (by kernel_rfl)
theorem list36 (h : AHeap) : run Cf 35 [.int .i64 36] h = some (.ret (natsV (dims 36)), h) := run_of (n := 30) (by kernel_rfl)
theorem list37 (h : AHeap) : run Cf 35 [.int .i64 37] h = some (.ret (natsV (dims 37)), h) := run_of (n := 30) (by kernel_rfl)
theorem list38 (h : AHeap) : run Cf 35 [.int .i64 38] h = some (.ret (natsV (dims 38)), h) := run_of (n := 30) (by kernel_rfl)
theorem list39 (h : AHeap) : run Cf 35 [.int .i64 39] h = some (.ret (natsV (dims 39)), h) := run_of (n := 30) (by kernel_rfl)
theorem list40 (h : AHeap) : run Cf 35 [.int .i64 40] h = some (.ret (natsV (dims 40)), h) := run_of (n := 30) (by kernel_rfl)
theorem list41 (h : AHeap) : run Cf 35 [.int .i64 41] h = some (.ret (natsV (dims 41)), h) := run_of (n := 30) (by kernel_rfl)
theorem list42 (h : AHeap) : run Cf 35 [.int .i64 42] h = some (.ret (natsV (dims 42)), h) := run_of (n := 30) (by kernel_rfl)
theorem list43 (h : AHeap) : run Cf 35 [.int .i64 43] h = some (.ret (natsV (dims 43)), h) := run_of (n := 30) (by kernel_rfl)
theorem list44 (h : AHeap) : run Cf 35 [.int .i64 44] h = some (.ret (natsV (dims 44)), h) := run_of (n := 30) (by kernel_rfl)
theorem list45 (h : AHeap) : run Cf 35 [.int .i64 45] h = some (.ret (natsV (dims 45)), h) := run_of (n := 30) (by kernel_rfl)
theorem list46 (h : AHeap) : run Cf 35 [.int .i64 46] h = some (.ret (natsV (dims 46)), h) := run_of (n := 30) (by kernel_rfl)
theorem list47 (h : AHeap) : run Cf 35 [.int .i64 47] h = some (.ret (natsV (dims 47)), h) := run_of (n := 30) (by kernel_rfl)
theorem list48 (h : AHeap) : run Cf 35 [.int .i64 48] h = some (.ret (natsV (dims 48)), h) := run_of (n := 30) (by kernel_rfl)
theorem list49 (h : AHeap) : run Cf 35 [.int .i64 49] h = some (.ret (natsV (dims 49)), h) := run_of (n := 30) (by kernel_rfl)
theorem list50 (h : AHeap) : run Cf 35 [.int .i64 50] h = some (.ret (natsV (dims 50)), h) := run_of (n := 30) (by kernel_rfl)
theorem list51 (h : AHeap) : run Cf 35 [.int .i64 51] h = some (.ret (natsV (dims 51)), h) := run_of (n := 30) (by kernel_rfl)
theorem list52 (h : AHeap) : run Cf 35 [.int .i64 52] h = some (.ret (natsV (dims 52)), h) := run_of (n := 30) (by kernel_rfl)
theorem list53 (h : AHeap) : run Cf 35 [.int .i64 53] h = some (.ret (natsV (dims 53)), h) := run_of (n := 30) (by kernel_rfl)
theorem list54 (h : AHeap) : run Cf 35 [.int .i64 54] h = some (.ret (natsV (dims 54)), h) := run_of (n := 30) (by kernel_rfl)
theorem list55 (h : AHeap) : run Cf 35 [.int .i64 55] h = some (.ret (natsV (dims 55)), h) := run_of (n := 30) (by kernel_rfl)
theorem list56 (h : AHeap) : run Cf 35 [.int .i64 56] h = some (.ret (natsV (dims 56)), h) := run_of (n := 30) (by kernel_rfl)
theorem list57 (h : AHeap) : run Cf 35 [.int .i64 57] h = some (.ret (natsV (dims 57)), h) := run_of (n := 30) (by kernel_rfl)
theorem list58 (h : AHeap) : run Cf 35 [.int .i64 58] h = some (.ret (natsV (dims 58)), h) := run_of (n := 30) (by kernel_rfl)
theorem list59 (h : AHeap) : run Cf 35 [.int .i64 59] h = some (.ret (natsV (dims 59)), h) := run_of (n := 30) (by kernel_rfl)
theorem list60 (h : AHeap) : run Cf 35 [.int .i64 60] h = some (.ret (natsV (dims 60)), h) := run_of (n := 30) (by kernel_rfl)
theorem list61 (h : AHeap) : run Cf 35 [.int .i64 61] h = some (.ret (natsV (dims 61)), h) := run_of (n := 30) (by kernel_rfl)
theorem list62 (h : AHeap) : run Cf 35 [.int .i64 62] h = some (.ret (natsV (dims 62)), h) := run_of (n := 30) (by kernel_rfl)
theorem list63 (h : AHeap) : run Cf 35 [.int .i64 63] h = some (.ret (natsV (dims 63)), h) := run_of (n := 30) (by kernel_rfl)
theorem list_run (h : AHeap) : ∀ {x : Nat}, x < 64 → run Cf 35 [.int .i64 x] h = some (.ret (natsV (dims x)), h)
  | 0, _ => list0 h
  | 1, _ => list1 h
  | 2, _ => list2 h
  | 3, _ => list3 h
  | 4, _ => list4 h
  | 5, _ => list5 h
  | 6, _ => list6 h
  | 7, _ => list7 h
  | 8, _ => list8 h
  | 9, _ => list9 h
  | 10, _ => list10 h
  | 11, _ => list11 h
  | 12, _ => list12 h
  | 13, _ => list13 h
  | 14, _ => list14 h
  | 15, _ => list15 h
  | 16, _ => list16 h
  | 17, _ => list17 h
  | 18, _ => list18 h
  | 19, _ => list19 h
  | 20, _ => list20 h
  | 21, _ => list21 h
  | 22, _ => list22 h
  | 23, _ => list23 h
  | 24, _ => list24 h
  | 25, _ => list25 h
  | 26, _ => list26 h
  | 27, _ => list27 h
  | 28, _ => list28 h
  | 29, _ => list29 h
  | 30, _ => list30 h
  | 31, _ => list31 h
  | 32, _ => list32 h
  | 33, _ => list33 h
  | 34, _ => list34 h
  | 35, _ => list35 h
  | 36, _ => list36 h
  | 37, _ => list37 h
  | 38, _ => list38 h
  | 39, _ => list39 h
  | 40, _ => list40 h
  | 41, _ => list41 h
  | 42, _ => list42 h
  | 43, _ => list43 h
  | 44, _ => list44 h
  | 45, _ => list45 h
  | 46, _ => list46 h
  | 47, _ => list47 h
  | 48, _ => list48 h
  | 49, _ => list49 h
  | 50, _ => list50 h
  | 51, _ => list51 h
  | 52, _ => list52 h
  | 53, _ => list53 h
  | 54, _ => list54 h
  | 55, _ => list55 h
  | 56, _ => list56 h
  | 57, _ => list57 h
  | 58, _ => list58 h
  | 59, _ => list59 h
  | 60, _ => list60 h
  | 61, _ => list61 h
  | 62, _ => list62 h
  | 63, _ => list63 h
  | n + 64, hx => absurd hx (by omega)
end Go.Proofs.Cube
