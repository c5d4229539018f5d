/-
  DERIVED. GIVEN WITH THE SEED: THE CARDS: each row of YtijnepmlnfcpnaaGreatDoorRows.lean that lists a variable, with what it lists TIED to the program's text (the seventh form; the later family's looks); each row that meets fmt, with fmt's text TOLD by the authors' own Lean function (tested against real Go, not proved from fmt's source: count such statements apart). THE CARD IS WHAT COUNTS. Prove the row's statement (the work); the ties are given (YtijnepmlnfcpnaaGreatDoorTie.lean); close each card by the builder's one call (the guide's Derived/Test/ToyasCard.lean, 'card_holds'). Laid BY PROGRAM, IN A SANDBOX (cutbox-door.mjs). By AI agents, Wed Nov 11 2026. No macro, syntax, notation, axiom, sorry.
-/
import Derived.Test.YtijnepmlnfcpnaaGreatDoorRows
import GoSem.ClaimSeven
namespace Go.Proofs.YtijnepmlnfcpnaaGreatDoor
namespace Rows

/-- THE TIED CARD OF 'caissonlaw12.BindBinds'. -/
def bindBindsCard : Claim7 := { stood := { row := bindBindsRow, standIns := [], harness := (true, "b60d83df126171c6ac8a7deff8ddcefaea208b029b2cbfbf588fbb3f2cef04e4"), looks := true }, kinds := [], alts := [], laidByText := true, laidKinds := [.data, .data, .data, .data, .sentinel, .sentinel, .data, .pinned], laidTests := true, laidLooks := .later }
def BindBindsCardSaid : Prop := Claim7.holds Tryz.pinned (.plain (OpenSpec.ofChange bindBindsSpec)) bindBindsCard

/-- THE TIED CARD OF 'caissonlaw12.BindText'. -/
def bindTextCard : Claim7 := { stood := { row := bindTextRow, standIns := [], harness := (true, "b60d83df126171c6ac8a7deff8ddcefaea208b029b2cbfbf588fbb3f2cef04e4"), looks := true }, kinds := [], alts := [], laidByText := true, laidKinds := [.data, .data, .data, .data, .sentinel, .sentinel, .data, .pinned], laidTests := true, laidLooks := .later }
def BindTextCardSaid : Prop := Claim7.holds Tryz.pinned (.plain (OpenSpec.ofChange bindTextSpec)) bindTextCard

/-- THE TIED CARD OF 'caissonlaw12.BindKeys'. -/
def bindKeysCard : Claim7 := { stood := { row := bindKeysRow, standIns := [], harness := (true, "b60d83df126171c6ac8a7deff8ddcefaea208b029b2cbfbf588fbb3f2cef04e4"), looks := true }, kinds := [], alts := [], laidByText := true, laidKinds := [.data, .data, .data, .data, .sentinel, .sentinel, .data, .pinned], laidTests := true, laidLooks := .later }
def BindKeysCardSaid : Prop := Claim7.holds Tryz.pinned (.plain (OpenSpec.ofChange bindKeysSpec)) bindKeysCard

/-- THE TIED CARD OF 'caissonlaw12.BindLogic'. -/
def bindLogicCard : Claim7 := { stood := { row := bindLogicRow, standIns := [], harness := (true, "b60d83df126171c6ac8a7deff8ddcefaea208b029b2cbfbf588fbb3f2cef04e4"), looks := true }, kinds := [], alts := [], laidByText := true, laidKinds := [.data, .data, .data, .data, .sentinel, .sentinel, .data, .pinned], laidTests := true, laidLooks := .later }
def BindLogicCardSaid : Prop := Claim7.holds Tryz.pinned (.plain (OpenSpec.ofChange bindLogicSpec)) bindLogicCard

/-- THE TIED CARD OF 'caissonlaw12.BindColumns'. -/
def bindColumnsCard : Claim7 := { stood := { row := bindColumnsRow, standIns := [], harness := (true, "b60d83df126171c6ac8a7deff8ddcefaea208b029b2cbfbf588fbb3f2cef04e4"), looks := true }, kinds := [], alts := [], laidByText := true, laidKinds := [.data, .data, .data, .data, .sentinel, .sentinel, .data, .pinned], laidTests := true, laidLooks := .later }
def BindColumnsCardSaid : Prop := Claim7.holds Tryz.pinned (.plain (OpenSpec.ofChange bindColumnsSpec)) bindColumnsCard

/-- THE TIED CARD OF 'caissonlaw19.PlanChooses'. -/
def planChoosesCard : Claim7 := { stood := { row := planChoosesRow, standIns := [], harness := (true, "b60d83df126171c6ac8a7deff8ddcefaea208b029b2cbfbf588fbb3f2cef04e4"), looks := true }, kinds := [], alts := [], laidByText := true, laidKinds := [.data, .data, .data, .data, .sentinel, .sentinel, .data, .pinned], laidTests := true, laidLooks := .later }
def PlanChoosesCardSaid : Prop := Claim7.holds Tryz.pinned (.plain (OpenSpec.ofChange planChoosesSpec)) planChoosesCard

/-- THE SECOND FORM's CARD OF 'caissonlaw12.BindBinds'. -/
def bindBindsUptoCard : Claim7 := { stood := { row := bindBindsUptoRow, standIns := [], harness := (true, "b60d83df126171c6ac8a7deff8ddcefaea208b029b2cbfbf588fbb3f2cef04e4"), looks := true }, kinds := [], alts := [], laidByText := true, laidKinds := [.data, .data, .data, .data, .sentinel, .sentinel, .data, .pinned], laidTests := true, laidLooks := .later }
def BindBindsUptoCardSaid : Prop := Claim7.holds Tryz.pinned (.plain (OpenSpec.upto bindBindsSpec)) bindBindsUptoCard

/-- THE SECOND FORM's CARD OF 'caissonlaw12.BindText'. -/
def bindTextUptoCard : Claim7 := { stood := { row := bindTextUptoRow, standIns := [], harness := (true, "b60d83df126171c6ac8a7deff8ddcefaea208b029b2cbfbf588fbb3f2cef04e4"), looks := true }, kinds := [], alts := [], laidByText := true, laidKinds := [.data, .data, .data, .data, .sentinel, .sentinel, .data, .pinned], laidTests := true, laidLooks := .later }
def BindTextUptoCardSaid : Prop := Claim7.holds Tryz.pinned (.plain (OpenSpec.upto bindTextSpec)) bindTextUptoCard

/-- THE SECOND FORM's CARD OF 'caissonlaw12.BindKeys'. -/
def bindKeysUptoCard : Claim7 := { stood := { row := bindKeysUptoRow, standIns := [], harness := (true, "b60d83df126171c6ac8a7deff8ddcefaea208b029b2cbfbf588fbb3f2cef04e4"), looks := true }, kinds := [], alts := [], laidByText := true, laidKinds := [.data, .data, .data, .data, .sentinel, .sentinel, .data, .pinned], laidTests := true, laidLooks := .later }
def BindKeysUptoCardSaid : Prop := Claim7.holds Tryz.pinned (.plain (OpenSpec.upto bindKeysSpec)) bindKeysUptoCard

/-- THE SECOND FORM's CARD OF 'caissonlaw12.BindLogic'. -/
def bindLogicUptoCard : Claim7 := { stood := { row := bindLogicUptoRow, standIns := [], harness := (true, "b60d83df126171c6ac8a7deff8ddcefaea208b029b2cbfbf588fbb3f2cef04e4"), looks := true }, kinds := [], alts := [], laidByText := true, laidKinds := [.data, .data, .data, .data, .sentinel, .sentinel, .data, .pinned], laidTests := true, laidLooks := .later }
def BindLogicUptoCardSaid : Prop := Claim7.holds Tryz.pinned (.plain (OpenSpec.upto bindLogicSpec)) bindLogicUptoCard

/-- THE SECOND FORM's CARD OF 'caissonlaw12.BindColumns'. -/
def bindColumnsUptoCard : Claim7 := { stood := { row := bindColumnsUptoRow, standIns := [], harness := (true, "b60d83df126171c6ac8a7deff8ddcefaea208b029b2cbfbf588fbb3f2cef04e4"), looks := true }, kinds := [], alts := [], laidByText := true, laidKinds := [.data, .data, .data, .data, .sentinel, .sentinel, .data, .pinned], laidTests := true, laidLooks := .later }
def BindColumnsUptoCardSaid : Prop := Claim7.holds Tryz.pinned (.plain (OpenSpec.upto bindColumnsSpec)) bindColumnsUptoCard

/-- THE SECOND FORM's CARD OF 'caissonlaw19.PlanChooses'. -/
def planChoosesUptoCard : Claim7 := { stood := { row := planChoosesUptoRow, standIns := [], harness := (true, "b60d83df126171c6ac8a7deff8ddcefaea208b029b2cbfbf588fbb3f2cef04e4"), looks := true }, kinds := [], alts := [], laidByText := true, laidKinds := [.data, .data, .data, .data, .sentinel, .sentinel, .data, .pinned], laidTests := true, laidLooks := .later }
def PlanChoosesUptoCardSaid : Prop := Claim7.holds Tryz.pinned (.plain (OpenSpec.upto planChoosesSpec)) planChoosesUptoCard
end Rows
end Go.Proofs.YtijnepmlnfcpnaaGreatDoor
