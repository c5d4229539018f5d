/-
  CUBE: the plain law of CubeOrder: numbers below 64, by reckoning.
-/
import Derived.Test.YtgjdlakemaabfaaCubeCovers
set_option linter.unusedVariables false
set_option linter.unusedSimpArgs false
set_option linter.unusedSimpArgs false
set_option linter.unusedVariables false
set_option maxRecDepth 100000
namespace Go.Proofs.Cube
open Go Go.Am Go.Proofs Go.RowKit

def covN (v n : Nat) : Bool := n &&& v == n
theorem cov_all : ((List.range 64).all fun v => (List.range 64).all fun n => coversI v n == covN v n) = true := by kernel_rfl
theorem cov_at {v n : Nat} (hv : v < 64) (hn : n < 64) : coversI v n = covN v n := by
  have h := List.all_eq_true.1 cov_all v (by simpa using hv)
  simpa using List.all_eq_true.1 h n (by simpa using hn)
theorem child_all : ((List.range 64).all fun x => (List.range 64).all fun y => (children (x : Nat)).any (· == ((y : Nat) : Int)) == (parents (y : Nat) 6).any (· == ((x : Nat) : Int))) = true := by kernel_rfl
theorem child_at {x y : Nat} (hx : x < 64) (hy : y < 64) : (children x).any (· == (y : Int)) = (parents y 6).any (· == (x : Int)) := by
  have h := List.all_eq_true.1 child_all x (by simpa using hx)
  simpa using List.all_eq_true.1 h y (by simpa using hy)
/-- Has a set a dimension that the other has not? -/
def bitc (x y i : Nat) : Bool := (x ||| y).testBit i && !y.testBit i
def cntL (x y : Nat) (k : Nat) : Nat := (List.range k).foldl (fun n i => if bitc x y i then 2 * n else n) 1
theorem cnt_all : ((List.range 64).all fun x => (List.range 64).all fun y => ((List.range 64).filter fun s => covN s y && covN (x ||| y) s).length == cntL x y 6) = true := by kernel_rfl
theorem or64 {x y : Nat} (hx : x < 64) (hy : y < 64) : x ||| y < 64 := Nat.or_lt_two_pow (n := 6) hx hy
theorem cov_or {x y : Nat} (hx : x < 64) (hy : y < 64) : coversI ((x ||| y : Nat) : Int) (y : Int) = true := by
  rw [cov_at (or64 hx hy) hy]
  unfold covN
  have : y &&& (x ||| y) = y := by
    apply Nat.eq_of_testBit_eq
    intro i
    simp only [Nat.testBit_and, Nat.testBit_or]
    cases y.testBit i <;> simp
  rw [this]
  simp
theorem cnt_at {x y : Nat} (hx : x < 64) (hy : y < 64) : (betweenL y (x ||| y : Nat)).length = cntL x y 6 := by
  have h := List.all_eq_true.1 cnt_all x (by simpa using hx)
  have h2 : ((List.range 64).filter fun s => covN s y && covN (x ||| y) s).length = cntL x y 6 := by simpa using List.all_eq_true.1 h y (by simpa using hy)
  rw [← h2]
  unfold betweenL
  rw [cov_or hx hy, if_pos rfl]
  unfold betw
  rw [List.length_map]
  congr 1
  refine List.filter_congr fun s hs => ?_
  have hs' : s < 64 := by simpa using hs
  rw [cov_at hs' hy, cov_at (or64 hx hy) hs']

theorem cov_trans {x y z : Nat} (hx : x < 64) (hy : y < 64) (hz : z < 64) (h1 : coversI x y = true) (h2 : coversI y z = true) : coversI x z = true := by
  rw [cov_at hx hy] at h1; rw [cov_at hy hz] at h2; rw [cov_at hx hz]
  unfold covN at *
  rw [beq_iff_eq] at *
  rw [← h2, Nat.and_assoc, h1]
theorem cov_both {x y : Nat} (hx : x < 64) (hy : y < 64) : (coversI x y && coversI y x) = ((x : Int) == (y : Int)) := by
  rw [cov_at hx hy, cov_at hy hx]
  unfold covN
  rw [Bool.eq_iff_iff]
  simp only [Bool.and_eq_true, beq_iff_eq]
  constructor
  · rintro ⟨h1, h2⟩
    rw [Nat.and_comm] at h2
    have : x = y := h2.symm.trans h1
    omega
  · intro h
    obtain rfl : x = y := by omega
    simp
theorem cov_join {x y : Nat} (hx : x < 64) (hy : y < 64) : (!coversI x ((x ||| y : Nat) : Int)) = (((x ||| y : Nat) : Int) != (x : Int)) := by
  rw [cov_at hx (or64 hx hy)]
  unfold covN
  have : (x ||| y) &&& x = x := by
    apply Nat.eq_of_testBit_eq
    intro i
    simp only [Nat.testBit_and, Nat.testBit_or]
    cases x.testBit i <;> simp
  rw [this, Bool.eq_iff_iff]
  simp only [Bool.not_eq_true', beq_eq_false_iff_ne, ne_eq, bne_iff_ne]
  omega
/-- a bit of a set, as the program asks for it -/
theorem bit_all : ((List.range 64).all fun u => (List.range 6).all fun i => (bits .and .i64 ((u : Nat) : Int) ((2 ^ i : Nat) : Int) == 0) == !(u.testBit i)) = true := by kernel_rfl
theorem bit_at {u i : Nat} (hu : u < 64) (hi : i < 6) : (bits .and .i64 (u : Int) ((2 ^ i : Nat) : Int) == 0) = !u.testBit i := by
  have h := List.all_eq_true.1 bit_all u (by simpa using hu)
  simpa using List.all_eq_true.1 h i (by simpa using hi)
end Go.Proofs.Cube
