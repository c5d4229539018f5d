/-
  NARROWER THAN 'FOR EVERY INPUT', by the rows' own cells (each row's printed sentence says how): CubeNeeds: loops.
  DERIVED. THE GIVEN ROWS OF THIS SEAT. 4 by the template 'for every input the law returns true; each argument reads behind the call as it read before'; 0 by the template 'total and deterministic' (their statements: YtgjdlakemaabfaaTotals.lean).
  GIVEN WITH THE SEED: the statements are not yours to turn. If you find one false, say at which input.
  Laid BY PROGRAM, IN A SANDBOX (cutbox-rows.mjs): the forced cells as the released guide's own fill.sh prints them over the translation 66f9e499b8eba9dd… (all of the seat's roots in one cut). By AI agents, Wed Nov 11 2026. No macro, syntax, notation, axiom, sorry.
-/
import Derived.Test.YtgjdlakemaabfaaChecked
import GoSem.Claim
import GoSem.ClaimJoined
import GoSem.ClaimMapViews
import Derived.JoinedTies
import Derived.KernelRfl
namespace Go.Proofs.Ytgjdlakemaabfaa
/- THE CELL 'sum', in the pinned program and in every row, IS THE sha256 OF THE DUMP (.gsa) THAT YtgjdlakemaabfaaProg.lean LOADS. Nothing in Lean hashes anything: it is a label: what it is worth is what the hold of that sum in a sandbox is worth. -/
noncomputable def Try.pinned : Pinned := { name := "ytgjdlakemaabfaa", sum := "66f9e499b8eba9ddc962ff50d24e703652dce1fee64367bc2f0a484532554d5e", checked := Try.checked }
namespace Rows
def none {H : Type} : Left H := { results := [], args := [] }

/-- 'caissonlaw16.CubeLattice': WHATEVER THE INPUT: true; the input reads as it did. -/
def cubeLatticeSpec : ChangeSpec := { name := "cubeLattice", fn := fun _ => fun
  | [d1, d2, d3] => { results := [.lit (.bool true)], args := [d1, d2, d3] }
  | _ => none }
def cubeLatticeRow : OpenClaim := { program := "ytgjdlakemaabfaa", sum := "66f9e499b8eba9ddc962ff50d24e703652dce1fee64367bc2f0a484532554d5e", func := "caisson/caissonlaw16.CubeLattice", spec := "cubeLattice", unfollowed := true, recurses := true, apart := false }
def CubeLatticeSaid : Prop := cubeLatticeRow.holds Try.pinned (OpenSpec.ofChange cubeLatticeSpec)

/-- ITS FALSE NEIGHBOUR: 'it returns false'. Refute it at one input. -/
def cubeLatticeWrong : ChangeSpec := { name := "cubeLattice", fn := fun _ => fun
  | [d1, d2, d3] => { results := [.lit (.bool false)], args := [d1, d2, d3] }
  | _ => none }
def CubeLatticeWrongFalsely : Prop := cubeLatticeRow.holds Try.pinned (OpenSpec.ofChange cubeLatticeWrong)

/-- 'caissonlaw16.CubeOrder': WHATEVER THE INPUT: true; the input reads as it did. -/
def cubeOrderSpec : ChangeSpec := { name := "cubeOrder", fn := fun _ => fun
  | [d1, d2, d3] => { results := [.lit (.bool true)], args := [d1, d2, d3] }
  | _ => none }
def cubeOrderRow : OpenClaim := { program := "ytgjdlakemaabfaa", sum := "66f9e499b8eba9ddc962ff50d24e703652dce1fee64367bc2f0a484532554d5e", func := "caisson/caissonlaw16.CubeOrder", spec := "cubeOrder", unfollowed := true, recurses := true, apart := false }
def CubeOrderSaid : Prop := cubeOrderRow.holds Try.pinned (OpenSpec.ofChange cubeOrderSpec)

/-- ITS FALSE NEIGHBOUR: 'it returns false'. Refute it at one input. -/
def cubeOrderWrong : ChangeSpec := { name := "cubeOrder", fn := fun _ => fun
  | [d1, d2, d3] => { results := [.lit (.bool false)], args := [d1, d2, d3] }
  | _ => none }
def CubeOrderWrongFalsely : Prop := cubeOrderRow.holds Try.pinned (OpenSpec.ofChange cubeOrderWrong)

/-- 'caissonlaw16.CubeGrows': WHATEVER THE INPUT: true; the input reads as it did. -/
def cubeGrowsSpec : ChangeSpec := { name := "cubeGrows", fn := fun _ => fun
  | [d1, d2, d3] => { results := [.lit (.bool true)], args := [d1, d2, d3] }
  | _ => none }
def cubeGrowsRow : OpenClaim := { program := "ytgjdlakemaabfaa", sum := "66f9e499b8eba9ddc962ff50d24e703652dce1fee64367bc2f0a484532554d5e", func := "caisson/caissonlaw16.CubeGrows", spec := "cubeGrows", unfollowed := true, recurses := true, apart := false }
def CubeGrowsSaid : Prop := cubeGrowsRow.holds Try.pinned (OpenSpec.ofChange cubeGrowsSpec)

/-- ITS FALSE NEIGHBOUR: 'it returns false'. Refute it at one input. -/
def cubeGrowsWrong : ChangeSpec := { name := "cubeGrows", fn := fun _ => fun
  | [d1, d2, d3] => { results := [.lit (.bool false)], args := [d1, d2, d3] }
  | _ => none }
def CubeGrowsWrongFalsely : Prop := cubeGrowsRow.holds Try.pinned (OpenSpec.ofChange cubeGrowsWrong)

/-- 'caissonlaw16.CubeNeeds': WHATEVER THE INPUT: true; the input reads as it did. -/
def cubeNeedsSpec : ChangeSpec := { name := "cubeNeeds", fn := fun _ => fun
  | [d] => { results := [.lit (.bool true)], args := [d] }
  | _ => none }
def cubeNeedsRow : OpenClaim := { program := "ytgjdlakemaabfaa", sum := "66f9e499b8eba9ddc962ff50d24e703652dce1fee64367bc2f0a484532554d5e", func := "caisson/caissonlaw16.CubeNeeds", spec := "cubeNeeds", unfollowed := true, recurses := true, loops := true, apart := false }
def CubeNeedsSaid : Prop := cubeNeedsRow.holds Try.pinned (OpenSpec.ofChange cubeNeedsSpec)

/-- ITS FALSE NEIGHBOUR: 'it returns false'. Refute it at one input. -/
def cubeNeedsWrong : ChangeSpec := { name := "cubeNeeds", fn := fun _ => fun
  | [d] => { results := [.lit (.bool false)], args := [d] }
  | _ => none }
def CubeNeedsWrongFalsely : Prop := cubeNeedsRow.holds Try.pinned (OpenSpec.ofChange cubeNeedsWrong)

/- THE SECOND FORM. 'bulk': how many values and letters a reading holds, each counted each time it is reached (what is shared counts as often as it is met; a slice's spare places count too). A statement '..UptoSaid' is the law's where the arguments, and the package variables that the reading takes, are together of bulk at most 1048576: NARROWER than '..Said'. Prove '..Said' where nothing that the law and all that it calls make is longer than what came in: it says more and counts as full. Else prove '..UptoSaid'. A law counts once. -/
mutual
def uptoBulk {H : Type} : DataW H → Nat
  | .lit (.string bytes) => bytes.length + 1
  | .lit _ => 1
  | .nil => 1
  | .ptr d => uptoBulk d + 1
  | .slice elems spare => uptoBulkAll elems + uptoBulkAll spare + 1
  | .agg parts => uptoBulkAll parts + 1
  | .iface _ d => uptoBulk d + 1
  | .map entries => uptoBulkEntries entries + 1
  | .held _ => 1
def uptoBulkAll {H : Type} : List (DataW H) → Nat
  | [] => 0
  | d :: r => uptoBulk d + uptoBulkAll r
def uptoBulkEntries {H : Type} : List (Lit × DataW H) → Nat
  | [] => 0
  | x :: r => uptoBulkEntry x + uptoBulkEntries r
def uptoBulkEntry {H : Type} : Lit × DataW H → Nat
  | (.string bytes, d) => bytes.length + uptoBulk d + 1
  | (_, d) => uptoBulk d + 1
 end
def uptoSmall : (H : Type) → List (DataW H) → Bool := fun _ ds => decide (uptoBulkAll ds ≤ 1048576)
def OpenSpec.upto (s : _root_.Go.ChangeSpec) : _root_.Go.OpenSpec := { _root_.Go.OpenSpec.ofChange s with cond := some uptoSmall }

/-- 'caissonlaw16.CubeLattice', WHERE WHAT IT READS IS OF BULK AT MOST 1048576: true; the input reads as it did. -/
def cubeLatticeUptoRow : OpenClaim := { program := "ytgjdlakemaabfaa", sum := "66f9e499b8eba9ddc962ff50d24e703652dce1fee64367bc2f0a484532554d5e", func := "caisson/caissonlaw16.CubeLattice", spec := "cubeLattice", unfollowed := true, recurses := true, apart := false, narrowed := true }
def CubeLatticeUptoSaid : Prop := cubeLatticeUptoRow.holds Try.pinned (OpenSpec.upto cubeLatticeSpec)

/-- 'caissonlaw16.CubeOrder', WHERE WHAT IT READS IS OF BULK AT MOST 1048576: true; the input reads as it did. -/
def cubeOrderUptoRow : OpenClaim := { program := "ytgjdlakemaabfaa", sum := "66f9e499b8eba9ddc962ff50d24e703652dce1fee64367bc2f0a484532554d5e", func := "caisson/caissonlaw16.CubeOrder", spec := "cubeOrder", unfollowed := true, recurses := true, apart := false, narrowed := true }
def CubeOrderUptoSaid : Prop := cubeOrderUptoRow.holds Try.pinned (OpenSpec.upto cubeOrderSpec)

/-- 'caissonlaw16.CubeGrows', WHERE WHAT IT READS IS OF BULK AT MOST 1048576: true; the input reads as it did. -/
def cubeGrowsUptoRow : OpenClaim := { program := "ytgjdlakemaabfaa", sum := "66f9e499b8eba9ddc962ff50d24e703652dce1fee64367bc2f0a484532554d5e", func := "caisson/caissonlaw16.CubeGrows", spec := "cubeGrows", unfollowed := true, recurses := true, apart := false, narrowed := true }
def CubeGrowsUptoSaid : Prop := cubeGrowsUptoRow.holds Try.pinned (OpenSpec.upto cubeGrowsSpec)

/-- 'caissonlaw16.CubeNeeds', WHERE WHAT IT READS IS OF BULK AT MOST 1048576: true; the input reads as it did. -/
def cubeNeedsUptoRow : OpenClaim := { program := "ytgjdlakemaabfaa", sum := "66f9e499b8eba9ddc962ff50d24e703652dce1fee64367bc2f0a484532554d5e", func := "caisson/caissonlaw16.CubeNeeds", spec := "cubeNeeds", unfollowed := true, recurses := true, loops := true, apart := false, narrowed := true }
def CubeNeedsUptoSaid : Prop := cubeNeedsUptoRow.holds Try.pinned (OpenSpec.upto cubeNeedsSpec)

end Rows
end Go.Proofs.Ytgjdlakemaabfaa
