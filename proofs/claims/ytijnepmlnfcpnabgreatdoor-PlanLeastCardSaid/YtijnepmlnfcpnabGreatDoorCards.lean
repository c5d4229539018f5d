/-
  DERIVED. GIVEN WITH THE SEED: THE CARDS: each row of YtijnepmlnfcpnabGreatDoorRows.lean that lists a variable, with what it lists TIED to the program's text (the seventh form; the later family's looks); each row that meets fmt, with fmt's text TOLD by the authors' own Lean function (tested against real Go, not proved from fmt's source: count such statements apart). THE CARD IS WHAT COUNTS. Prove the row's statement (the work); the ties are given (YtijnepmlnfcpnabGreatDoorTie.lean); close each card by the builder's one call (the guide's Derived/Test/ToyasCard.lean, 'card_holds'). Laid BY PROGRAM, IN A SANDBOX (cutbox-door.mjs). By AI agents, Wed Nov 11 2026. No macro, syntax, notation, axiom, sorry.
-/
import Derived.Test.YtijnepmlnfcpnabGreatDoorRows
import GoSem.ClaimSeven
namespace Go.Proofs.YtijnepmlnfcpnabGreatDoor
namespace Rows

/-- THE TIED CARD OF 'caissonlaw19.PlanLeast'. -/
def planLeastCard : Claim7 := { stood := { row := planLeastRow, standIns := [], harness := (true, "6a3930e318de08d61ac188873b76c88e7c33f08510e378ee01f978dd417f9b12"), looks := true }, kinds := [], alts := [], laidByText := true, laidKinds := [.data, .data, .data, .data, .sentinel, .sentinel, .data, .pinned], laidTests := true, laidLooks := .later }
def PlanLeastCardSaid : Prop := Claim7.holds Tryz.pinned (.plain (OpenSpec.ofChange planLeastSpec)) planLeastCard

/-- THE TIED CARD OF 'caissonlaw16.CubeAnswers'. -/
def cubeAnswersCard : Claim7 := { stood := { row := cubeAnswersRow, standIns := [], harness := (true, "6a3930e318de08d61ac188873b76c88e7c33f08510e378ee01f978dd417f9b12"), looks := true }, kinds := [], alts := [], laidByText := true, laidKinds := [.data, .data, .data, .data, .sentinel, .sentinel, .data, .pinned], laidTests := true, laidLooks := .later }
def CubeAnswersCardSaid : Prop := Claim7.holds Tryz.pinned (.plain (OpenSpec.ofChange cubeAnswersSpec)) cubeAnswersCard

/-- THE SECOND FORM's CARD OF 'caissonlaw19.PlanLeast'. -/
def planLeastUptoCard : Claim7 := { stood := { row := planLeastUptoRow, standIns := [], harness := (true, "6a3930e318de08d61ac188873b76c88e7c33f08510e378ee01f978dd417f9b12"), looks := true }, kinds := [], alts := [], laidByText := true, laidKinds := [.data, .data, .data, .data, .sentinel, .sentinel, .data, .pinned], laidTests := true, laidLooks := .later }
def PlanLeastUptoCardSaid : Prop := Claim7.holds Tryz.pinned (.plain (OpenSpec.upto planLeastSpec)) planLeastUptoCard

/-- THE SECOND FORM's CARD OF 'caissonlaw16.CubeAnswers'. -/
def cubeAnswersUptoCard : Claim7 := { stood := { row := cubeAnswersUptoRow, standIns := [], harness := (true, "6a3930e318de08d61ac188873b76c88e7c33f08510e378ee01f978dd417f9b12"), looks := true }, kinds := [], alts := [], laidByText := true, laidKinds := [.data, .data, .data, .data, .sentinel, .sentinel, .data, .pinned], laidTests := true, laidLooks := .later }
def CubeAnswersUptoCardSaid : Prop := Claim7.holds Tryz.pinned (.plain (OpenSpec.upto cubeAnswersSpec)) cubeAnswersUptoCard
end Rows
end Go.Proofs.YtijnepmlnfcpnabGreatDoor
