/-
  DERIVED. GIVEN WITH THE SEED: THE CARDS: each row of YthfbbjoaidajfaaGreatDoorRows.lean that lists a variable, with what it lists TIED to the program's text (the seventh form; the later family's looks); each row that meets fmt, with fmt's text TOLD by the authors' own Lean function (tested against real Go, not proved from fmt's source: count such statements apart). THE CARD IS WHAT COUNTS. Prove the row's statement (the work); the ties are given (YthfbbjoaidajfaaGreatDoorTie.lean); close each card by the builder's one call (the guide's Derived/Test/ToyasCard.lean, 'card_holds'). Laid BY PROGRAM, IN A SANDBOX (cutbox-door.mjs). By AI agents, Wed Nov 11 2026. No macro, syntax, notation, axiom, sorry.
-/
import Derived.Test.YthfbbjoaidajfaaGreatDoorRows
import GoSem.ClaimSeven
namespace Go.Proofs.YthfbbjoaidajfaaGreatDoor
namespace Rows

/-- THE TIED CARD OF 'caissonlaw10.ParseReads'. -/
def parseReadsCard : Claim7 := { stood := { row := parseReadsRow, standIns := [], harness := (true, "5389543297a987395f2ece690d2e85abec18d6bd05d8f508c7983b4c5fe827c3"), looks := true }, kinds := [], alts := [], laidByText := true, laidKinds := [.data, .data, .data, .data, .sentinel, .sentinel, .data, .pinned], laidTests := true, laidLooks := .later }
def ParseReadsCardSaid : Prop := Claim7.holds Tryz.pinned (.plain (OpenSpec.ofChange parseReadsSpec)) parseReadsCard

/-- THE TIED CARD OF 'caissonlaw10.ParseShows'. -/
def parseShowsCard : Claim7 := { stood := { row := parseShowsRow, standIns := [], harness := (true, "5389543297a987395f2ece690d2e85abec18d6bd05d8f508c7983b4c5fe827c3"), looks := true }, kinds := [], alts := [], laidByText := true, laidKinds := [.data, .data, .data, .data, .sentinel, .sentinel, .data, .pinned], laidTests := true, laidLooks := .later }
def ParseShowsCardSaid : Prop := Claim7.holds Tryz.pinned (.plain (OpenSpec.ofChange parseShowsSpec)) parseShowsCard

/-- THE TIED CARD OF 'caissonlaw10.ParseSame'. -/
def parseSameCard : Claim7 := { stood := { row := parseSameRow, standIns := [], harness := (true, "5389543297a987395f2ece690d2e85abec18d6bd05d8f508c7983b4c5fe827c3"), looks := true }, kinds := [], alts := [], laidByText := true, laidKinds := [.data, .data, .data, .data, .sentinel, .sentinel, .data, .pinned], laidTests := true, laidLooks := .later }
def ParseSameCardSaid : Prop := Claim7.holds Tryz.pinned (.plain (OpenSpec.ofChange parseSameSpec)) parseSameCard

/-- THE TIED CARD OF 'caissonlaw10.ParseBack'. -/
def parseBackCard : Claim7 := { stood := { row := parseBackRow, standIns := [], harness := (true, "5389543297a987395f2ece690d2e85abec18d6bd05d8f508c7983b4c5fe827c3"), looks := true }, kinds := [], alts := [], laidByText := true, laidKinds := [.data, .data, .data, .data, .sentinel, .sentinel, .data, .pinned], laidTests := true, laidLooks := .later }
def ParseBackCardSaid : Prop := Claim7.holds Tryz.pinned (.plain (OpenSpec.ofChange parseBackSpec)) parseBackCard

/-- THE TIED CARD OF 'caissonlaw10.ParseAgain'. -/
def parseAgainCard : Claim7 := { stood := { row := parseAgainRow, standIns := [], harness := (true, "5389543297a987395f2ece690d2e85abec18d6bd05d8f508c7983b4c5fe827c3"), looks := true }, kinds := [], alts := [], laidByText := true, laidKinds := [.data, .data, .data, .data, .sentinel, .sentinel, .data, .pinned], laidTests := true, laidLooks := .later }
def ParseAgainCardSaid : Prop := Claim7.holds Tryz.pinned (.plain (OpenSpec.ofChange parseAgainSpec)) parseAgainCard

/-- THE TIED CARD OF 'caissonlaw10.ParseCuts'. -/
def parseCutsCard : Claim7 := { stood := { row := parseCutsRow, standIns := [], harness := (true, "5389543297a987395f2ece690d2e85abec18d6bd05d8f508c7983b4c5fe827c3"), looks := true }, kinds := [], alts := [], laidByText := true, laidKinds := [.data, .data, .data, .data, .sentinel, .sentinel, .data, .pinned], laidTests := true, laidLooks := .later }
def ParseCutsCardSaid : Prop := Claim7.holds Tryz.pinned (.plain (OpenSpec.ofChange parseCutsSpec)) parseCutsCard

/-- THE TIED CARD OF 'caissonlaw10.ParseNumbers'. -/
def parseNumbersCard : Claim7 := { stood := { row := parseNumbersRow, standIns := [], harness := (true, "5389543297a987395f2ece690d2e85abec18d6bd05d8f508c7983b4c5fe827c3"), looks := true }, kinds := [], alts := [], laidByText := true, laidKinds := [.data, .data, .data, .data, .sentinel, .sentinel, .data, .pinned], laidTests := true, laidLooks := .later }
def ParseNumbersCardSaid : Prop := Claim7.holds Tryz.pinned (.plain (OpenSpec.ofChange parseNumbersSpec)) parseNumbersCard

/-- THE TIED CARD OF 'caissonlaw10.ParseDeep'. -/
def parseDeepCard : Claim7 := { stood := { row := parseDeepRow, standIns := [], harness := (true, "5389543297a987395f2ece690d2e85abec18d6bd05d8f508c7983b4c5fe827c3"), looks := true }, kinds := [], alts := [], laidByText := true, laidKinds := [.data, .data, .data, .data, .sentinel, .sentinel, .data, .pinned], laidTests := true, laidLooks := .later }
def ParseDeepCardSaid : Prop := Claim7.holds Tryz.pinned (.plain (OpenSpec.ofChange parseDeepSpec)) parseDeepCard

/-- THE SECOND FORM's CARD OF 'caissonlaw10.ParseReads'. -/
def parseReadsUptoCard : Claim7 := { stood := { row := parseReadsUptoRow, standIns := [], harness := (true, "5389543297a987395f2ece690d2e85abec18d6bd05d8f508c7983b4c5fe827c3"), looks := true }, kinds := [], alts := [], laidByText := true, laidKinds := [.data, .data, .data, .data, .sentinel, .sentinel, .data, .pinned], laidTests := true, laidLooks := .later }
def ParseReadsUptoCardSaid : Prop := Claim7.holds Tryz.pinned (.plain (OpenSpec.upto parseReadsSpec)) parseReadsUptoCard

/-- THE SECOND FORM's CARD OF 'caissonlaw10.ParseShows'. -/
def parseShowsUptoCard : Claim7 := { stood := { row := parseShowsUptoRow, standIns := [], harness := (true, "5389543297a987395f2ece690d2e85abec18d6bd05d8f508c7983b4c5fe827c3"), looks := true }, kinds := [], alts := [], laidByText := true, laidKinds := [.data, .data, .data, .data, .sentinel, .sentinel, .data, .pinned], laidTests := true, laidLooks := .later }
def ParseShowsUptoCardSaid : Prop := Claim7.holds Tryz.pinned (.plain (OpenSpec.upto parseShowsSpec)) parseShowsUptoCard

/-- THE SECOND FORM's CARD OF 'caissonlaw10.ParseSame'. -/
def parseSameUptoCard : Claim7 := { stood := { row := parseSameUptoRow, standIns := [], harness := (true, "5389543297a987395f2ece690d2e85abec18d6bd05d8f508c7983b4c5fe827c3"), looks := true }, kinds := [], alts := [], laidByText := true, laidKinds := [.data, .data, .data, .data, .sentinel, .sentinel, .data, .pinned], laidTests := true, laidLooks := .later }
def ParseSameUptoCardSaid : Prop := Claim7.holds Tryz.pinned (.plain (OpenSpec.upto parseSameSpec)) parseSameUptoCard

/-- THE SECOND FORM's CARD OF 'caissonlaw10.ParseBack'. -/
def parseBackUptoCard : Claim7 := { stood := { row := parseBackUptoRow, standIns := [], harness := (true, "5389543297a987395f2ece690d2e85abec18d6bd05d8f508c7983b4c5fe827c3"), looks := true }, kinds := [], alts := [], laidByText := true, laidKinds := [.data, .data, .data, .data, .sentinel, .sentinel, .data, .pinned], laidTests := true, laidLooks := .later }
def ParseBackUptoCardSaid : Prop := Claim7.holds Tryz.pinned (.plain (OpenSpec.upto parseBackSpec)) parseBackUptoCard

/-- THE SECOND FORM's CARD OF 'caissonlaw10.ParseAgain'. -/
def parseAgainUptoCard : Claim7 := { stood := { row := parseAgainUptoRow, standIns := [], harness := (true, "5389543297a987395f2ece690d2e85abec18d6bd05d8f508c7983b4c5fe827c3"), looks := true }, kinds := [], alts := [], laidByText := true, laidKinds := [.data, .data, .data, .data, .sentinel, .sentinel, .data, .pinned], laidTests := true, laidLooks := .later }
def ParseAgainUptoCardSaid : Prop := Claim7.holds Tryz.pinned (.plain (OpenSpec.upto parseAgainSpec)) parseAgainUptoCard

/-- THE SECOND FORM's CARD OF 'caissonlaw10.ParseCuts'. -/
def parseCutsUptoCard : Claim7 := { stood := { row := parseCutsUptoRow, standIns := [], harness := (true, "5389543297a987395f2ece690d2e85abec18d6bd05d8f508c7983b4c5fe827c3"), looks := true }, kinds := [], alts := [], laidByText := true, laidKinds := [.data, .data, .data, .data, .sentinel, .sentinel, .data, .pinned], laidTests := true, laidLooks := .later }
def ParseCutsUptoCardSaid : Prop := Claim7.holds Tryz.pinned (.plain (OpenSpec.upto parseCutsSpec)) parseCutsUptoCard

/-- THE SECOND FORM's CARD OF 'caissonlaw10.ParseNumbers'. -/
def parseNumbersUptoCard : Claim7 := { stood := { row := parseNumbersUptoRow, standIns := [], harness := (true, "5389543297a987395f2ece690d2e85abec18d6bd05d8f508c7983b4c5fe827c3"), looks := true }, kinds := [], alts := [], laidByText := true, laidKinds := [.data, .data, .data, .data, .sentinel, .sentinel, .data, .pinned], laidTests := true, laidLooks := .later }
def ParseNumbersUptoCardSaid : Prop := Claim7.holds Tryz.pinned (.plain (OpenSpec.upto parseNumbersSpec)) parseNumbersUptoCard

/-- THE SECOND FORM's CARD OF 'caissonlaw10.ParseDeep'. -/
def parseDeepUptoCard : Claim7 := { stood := { row := parseDeepUptoRow, standIns := [], harness := (true, "5389543297a987395f2ece690d2e85abec18d6bd05d8f508c7983b4c5fe827c3"), looks := true }, kinds := [], alts := [], laidByText := true, laidKinds := [.data, .data, .data, .data, .sentinel, .sentinel, .data, .pinned], laidTests := true, laidLooks := .later }
def ParseDeepUptoCardSaid : Prop := Claim7.holds Tryz.pinned (.plain (OpenSpec.upto parseDeepSpec)) parseDeepUptoCard
end Rows
end Go.Proofs.YthfbbjoaidajfaaGreatDoor
